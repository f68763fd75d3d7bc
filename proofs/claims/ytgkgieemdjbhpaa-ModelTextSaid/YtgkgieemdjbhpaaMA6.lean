/- What Text does to a model: all of it. No condition beyond those that each theorem states. -/
import Derived.Test.YtgkgieemdjbhpaaMA4
import Derived.Test.YtgkgieemdjbhpaaMA5
namespace Go.Proofs.Ytgkgieemdjbhpaa
open Go.RowKit Go.Maps

theorem bytes_string {w : World} {A : Option Addr} {n c : Nat} {l : List UInt8} (h : BytesIn w A n l) (hA : A = none ∨ (∃ b off, A = some ⟨b, off, none⟩)) : (convert 29 9 (.slice A n c)).run Try.prog w = .ok (encStr l) w :=
  run_string_of Try.underlying29 Try.underlying5 Try.underlying9 h hA
def textT (S : MV) (ks : List (List UInt8)) : List UInt8 := ks.flatMap fun k => textW k ++ textW (getM S k)
def textM (S : MV) : List UInt8 := textT S (sortM S)
theorem textT_snoc (S : MV) (ks : List (List UInt8)) (k : List UInt8) : textT S (ks ++ [k]) = textT S ks ++ textW k ++ textW (getM S k) := by simp [textT, List.append_assoc]
theorem textW_len (s : List UInt8) : (textW s).length ≤ s.length + 2 := by
  unfold textW
  rw [List.length_append, numW_len]
  split <;> omega
theorem sortM_mem {S : MV} {k : List UInt8} : k ∈ sortM S ↔ hasM S k = true := by
  unfold sortM
  rw [hasM_mem]
  exact (List.mergeSort_perm _ _).mem_iff
theorem mText_nil (w : World) : Calls Try.prog 16 #[.pointer none] w fun e w' => e = .returned (encStr []) ∧ w = w' := by
  have h0 : ∀ w, _ := fun w => bytes_string (w := w) (c := 0) (BytesIn.empty w none) (.inl rfl)
  go_enter Try.func16, Try.ntmps16
  go_wp2_with (go_at_call 14; refine (mKeys_nil _).mono ?_; rintro e w1 ⟨rfl, rfl⟩)
  go_loopw [3, 11] (fun v i wx => v = .slice none 0 0 ∧ i = .int .i64 0 ∧ wx = w) (fun _ _ _ => 0)
  case atStart => exact ⟨rfl, rfl, rfl⟩
  case round =>
    obtain ⟨rfl, rfl, rfl⟩ := hrel
    go_wp2
    go_ret
    exact ⟨rfl, rfl⟩
set_option maxHeartbeats 4000000 in
theorem mText (lo p b : Nat) (S : MV) (w : World) (h : MAt lo w p b S) (hS : S.length ≤ 1000) :
    Calls Try.prog 16 #[.pointer (some ⟨p, 0, none⟩)] w fun e w' => e = .returned (encStr (textM S)) ∧ Below w.heap.size w w' := by
  have HM := Lib.hid h
  have HWF := Lib.hid (fun k (hk : hasM S k = true) => by
    obtain ⟨D, _, hr⟩ := h.map
    obtain ⟨q, hq, he, hd⟩ := getM_mem hk
    have := hr.wf q hq
    rw [he, hd] at this
    exact this : ∀ k, hasM S k = true → 1 ≤ k.length ∧ k.length ≤ 16 ∧ (getM S k).length ≤ 512)
  clear h
  go_enter Try.func16, Try.ntmps16
  go_wp2_with (go_at_call 14; refine (mKeys lo p b S _ HM.out (by omega)).mono ?_; rintro e w1 ⟨B, rfl, hst, hb1⟩; have ST := Lib.hid hst; have BL1 := Lib.hid hb1; clear hst hb1)
  have M1 := Lib.hid (HM.out.below BL1.out)
  go_loopw [3, 11] (fun v i wx => ∃ (j : Nat) (A : Option Addr) (n c : Nat), i = .int .i64 j ∧ j ≤ S.length ∧ v = .slice A n c ∧ Bys wx w1.heap.size A n c (textT S ((sortM S).take j)) ∧ n ≤ 600 * j ∧ Below w1.heap.size w1 wx) (fun _ i _ => S.length - (intOf i).toNat)
  case atStart => exact ⟨0, none, 0, 0, rfl, Nat.zero_le _, rfl, bys_nil _ _, by omega, Below.refl _ _⟩
  case round =>
    obtain ⟨j, A, n, c, rfl, hj, rfl, hby, hn, hbx⟩ := hrel
    obtain ⟨wo, rfl⟩ : ∃ wo : World, wo = wr := ⟨_, rfl⟩
    have BY := Lib.hid hby
    have BX := Lib.hid hbx
    have hz := hbx.size
    clear hby hbx
    by_cases hlt : j < S.length
    · have d1 : decide (j < S.length) = true := by simpa using hlt
      have MX := Lib.hid (M1.out.below BX.out)
      obtain ⟨key, hkey⟩ : ∃ k, (sortM S)[j]? = some k := ⟨_, List.getElem?_eq_getElem (by rw [sortM_len]; exact hlt)⟩
      obtain ⟨g, rfl, hg, hcs⟩ := ST.out.2.resolve_left (by omega)
      have k0 : wo.cell? ⟨g, j, none⟩ = some (encStr key) := (BX.out.cell (p := ⟨g, j, none⟩) hg).trans (hcs j key hkey)
      have hhas : hasM S key = true := sortM_mem.1 (List.mem_of_getElem? hkey)
      have hwf := HWF.out key hhas
      have HK := Lib.hid hkey
      have HHS := Lib.hid hhas
      have hkl : key.length ≤ 16 := hwf.2.1
      have HDL := Lib.hid hwf.2.2
      clear hcs hkey hhas hwf
      go_wp2_with (go_at_call 18; refine (mGet lo p b S key _ MX.out (by simp only [maxLen]; omega)).mono ?_; rintro e w2 ⟨B2, n2, rfl, hb2, hf2, hg2, hbe2⟩; have G2 := Lib.hid hb2; have BE2 := Lib.hid hbe2; have GA := Lib.hid (show B2 = none ∨ (∃ b off, B2 = some ⟨b, off, none⟩) by
        cases B2 with
        | none => exact .inl rfl
        | some a =>
          obtain ⟨g, off, q⟩ := a
          obtain ⟨_, _, rfl, _⟩ := hg2 g off q rfl
          exact .inr ⟨g, off, rfl⟩); have hz2 := hbe2.size; clear hb2 hf2 hg2 hbe2)
      have BY2 := Lib.hid (BY.out.of_eq (w' := w2) fun g hg => BE2.out.block g (BY.out.ge hg).2)
      have hcv2 := bytes_string (c := n2) (w := w2.drew) (by exact G2.out) GA.out
      go_region_law ((first
        | (go_simp
           go_at_call 30
           refine (wText B3 m3 c3 _ (getM S key) _ BY3.out.form (by exact BY3.out.bytes) (by omega) (by have := HDL.out; omega)).mono ?_
           rintro e w4 ⟨B4, m4, c4, rfl, hb4, hbe4⟩
           have BY4 := Lib.hid hb4
           have BE4 := Lib.hid (show Below w3.heap.size w3 w4 from hbe4)
           clear hb4 hbe4)
        | (go_simp
           go_at_call 30
           refine (wText A n c _ key _ BY2.out.form (by exact BY2.out.bytes) (by omega) (by omega)).mono ?_
           rintro e w3 ⟨B3, m3, c3, rfl, hb3, hbe3⟩
           have BY3 := Lib.hid hb3
           have BE3 := Lib.hid (show Below w2.heap.size w2 w3 from below_of_drew hbe3)
           have hm3 : m3 ≤ n + key.length + 2 := by have h1 := hb3.len; have h2 := BY2.out.len; have h3 := textW_len key; rw [List.length_append] at h1; omega
           have hcv3 := bytes_string (c := n2) (w := w3) (G2.out.below BE3.out) GA.out
           have hz3 := BE3.out.size
           clear hb3 hbe3)))
      all_goals
        go_wp2_with fail
        go_roundw
        case rel => exact ⟨j + 1, B4, m4, c4, by go_num, hlt, rfl, by
          rw [List.take_add_one, HK.out, Option.toList_some, textT_snoc]
          exact BY4.out.mono (by omega), by
          have h1 := BY4.out.len
          have h2 := BY3.out.len
          have h3 := textW_len (getM S key)
          have h4 := HDL.out
          rw [List.length_append] at h1
          omega, BX.out.trans ((BE2.out.trans ((BE3.out.trans (BE4.out.mono hz3)).mono hz2)).mono hz)⟩
        case measure => simp [intOf]; omega
    · have d1 : decide (j < S.length) = false := by simpa using hlt
      have hjs : j = S.length := by omega
      have hcv := bytes_string (c := c) BY.out.bytes (by rcases BY.out.shape with ⟨h, _⟩ | ⟨g, h⟩; exact .inl h; exact .inr ⟨g, 0, h⟩)
      have HT := Lib.hid (show textT S ((sortM S).take j) = textM S by unfold textM; rw [List.take_of_length_le (by rw [sortM_len]; omega)])
      clear hjs
      go_wp2_with fail
      go_ret
      exact ⟨by rw [HT.out]; rfl, BL1.out.trans (BX.out.mono BL1.out.size)⟩
end Go.Proofs.Ytgkgieemdjbhpaa
