/- What New, Put, Get and Delete do to a model. No condition beyond those that each theorem states. -/
import Derived.Test.YtgkgieemdjbhpaaMA2
import Derived.Deep.RegionLaw
namespace Go.Proofs.Ytgkgieemdjbhpaa
open Go.RowKit Go.Maps

theorem ret_int {a b : Int} (h : a = b) : Ending.returned (.int .i64 a) = .returned (.int .i64 b) := by rw [h]
def putE (S : MV) (k d : List UInt8) : Int := if k.length < 1 ∨ 16 < k.length then 2 else if 512 < d.length then 3 else if hasM S k then 4 else 0
def putM (S : MV) (k d : List UInt8) : MV := if putE S k d = 0 then S ++ [(k, d)] else S
def delE (S : MV) (k : List UInt8) : Int := if hasM S k then 0 else 5
theorem enc_size (l : List UInt8) : (⟨l.toArray⟩ : ByteArray).size = l.length := by simp [ByteArray.size]
theorem delM_none {S : MV} {k : List UInt8} (h : hasM S k = false) : delM S k = S := by
  unfold delM
  rw [List.filter_eq_self]
  intro q hq
  unfold hasM at h
  rw [List.any_eq_false] at h
  simpa using h q hq
theorem delM_len {S : MV} {k : List UInt8} : (delM S k).length ≤ S.length := List.length_filter_le _ _
section
set_option maxHeartbeats 2000000
theorem mNew (w : World) : Calls Try.prog 8 #[] w fun e w' => ∃ p b, e = .returned (.pointer (some ⟨p, 0, none⟩)) ∧ MAt w.heap.size w' p b [] ∧ Below w.heap.size w w' := by
  have hmm := @run_makeMap Try.prog
  go_enter Try.func8, Try.ntmps8
  go_wp2
  go_ret
  refine ⟨_, w.heap.size, rfl, ⟨by have h := Blk.made (w.alloc (.map #[] 0)) 57 #[.map (some w.heap.size)]; simpa using h, ⟨by simp, Nat.le_refl _⟩, .map [], ?_, RepM.nil _ _⟩, ((Below.refl _ _).alloc (Nat.le_refl _) _).alloc (by simp) _⟩
  exact (World.ownsMap_made w Try.prog 9 slE).alloc _
theorem mPut_nil (k : Value) (v : Value) (w : World) : Calls Try.prog 11 #[.pointer none, k, v] w fun e w' => e = .returned (.int .i64 1) ∧ w = w' := by
  go_enter Try.func11, Try.ntmps11
  go_wp2
  go_ret
  exact ⟨rfl, rfl⟩
theorem mDelete_nil (k : Value) (w : World) : Calls Try.prog 9 #[.pointer none, k] w fun e w' => e = .returned (.int .i64 1) ∧ w = w' := by
  go_enter Try.func9, Try.ntmps9
  go_wp2
  go_ret
  exact ⟨rfl, rfl⟩
theorem mGet_nil (k : Value) (w : World) : Calls Try.prog 18 #[.pointer none, k] w fun e w' => e = .returned (.tuple #[.slice none 0 0, .bool false]) ∧ w = w' := by
  go_enter Try.func18, Try.ntmps18
  go_wp2
  go_ret2
  exact ⟨rfl, rfl⟩
theorem mGet (lo p b : Nat) (S : MV) (k : List UInt8) (w : World) (h : MAt lo w p b S) (hk : k.length ≤ maxLen) :
    Calls Try.prog 18 #[.pointer (some ⟨p, 0, none⟩), encStr k] w fun e w' => ∃ B n, e = .returned (.tuple #[.slice B n n, .bool (hasM S k)]) ∧ BytesIn w' B n (getM S k) ∧ Form B n n ∧ (∀ g off q, B = some ⟨g, off, q⟩ → w.heap.size ≤ g ∧ off = 0 ∧ q = none ∧ w'.frozen? ⟨g, 0, none⟩ = false) ∧ Below w.heap.size w w' := by
  have HH := Lib.hid h
  obtain ⟨hblk, _, D, hown, hrep⟩ := h
  have c0 : w.cell? ⟨p, 0, none⟩ = some (.map (some b)) := hblk.cell 0
  have OW := Lib.hid hown
  have hkey := keyS hk
  have HK := Lib.hid hkey
  obtain ⟨A, n, c, hat, hby⟩ : ∃ A n c, D.atKey (.string k) (.held (none, 0, 0)) = .held (A, n, c) ∧ Bys w lo A n c (getM S k) := by
    cases hh : hasM S k with
    | true => exact hrep.val k hh
    | false =>
      refine ⟨none, 0, 0, hrep.no k hh, ?_⟩
      have : getM S k = [] := by
        unfold getM
        have hx : S.find? (fun q => q.1 == k) = none := by
          rw [List.find?_eq_none]
          intro y hy hye
          unfold hasM at hh
          rw [List.any_eq_false] at hh
          exact hh y hy hye
        rw [hx]; rfl
      rw [this]
      exact bys_nil _ _
  have hlen : n ≤ 1000000 := by
    have h1 := hby.len
    cases hh : hasM S k with
    | true =>
      obtain ⟨q, hq, _, he⟩ := getM_mem hh
      have := (hrep.wf q hq).2.2
      rw [he] at this
      omega
    | false =>
      have h2 := hrep.no k hh
      rw [hat] at h2
      injection h2 with h2
      have h3 : n = 0 := by have := congrArg (fun x : HB => x.2.1) h2; exact this
      omega
  have HAT := Lib.hid hat
  have HAS := Lib.hid (hrep.has k)
  have BY := Lib.hid hby
  clear hblk hown hrep hkey hat hby
  go_enter Try.func18, Try.ntmps18
  go_wp2_with (first
    | (at_lookup; refine wpList_lookup_sl _ rfl (.tmp 14) (.tmp 15) 55 rfl 9 29 slaw Try.underlying55 (zeroB _) b _ D rfl OW.out _ (.string k) rfl HK.out A n c HAT.out _ HAS.out ?_)
    | (go_at_call 26; refine (bclone A n c (getM S k) _ BY.out.form hlen BY.out.bytes).mono ?_; rintro e w1 ⟨B, cap, rfl, hB, hb1⟩; have B1 := Lib.hid hB; have HB1 := Lib.hid hb1; clear hB hb1)
    | (go_at_call 32; refine (bclip _ B n cap (getM S k) _ B1.out).mono ?_; rintro e w2 ⟨rfl, rfl⟩))
  go_ret2
  refine ⟨B, n, rfl, B1.out.clip.1, B1.out.clip.2, fun g off q hg => ?_, HB1.out⟩
  rcases B1.out.shape with ⟨rfl, _⟩ | ⟨g', rfl⟩
  · cases hg
  · cases hg
    obtain ⟨cs, hcs⟩ := own_blk B1.out (g := g) rfl
    exact ⟨(B1.out.ge rfl).1, rfl, rfl, hcs.free 0⟩
theorem mDelete (lo p b : Nat) (S : MV) (k : List UInt8) (w : World) (h : MAt lo w p b S) (hk : k.length ≤ maxLen) :
    Calls Try.prog 9 #[.pointer (some ⟨p, 0, none⟩), encStr k] w fun e w' => e = .returned (.int .i64 (delE S k)) ∧ MAt lo w' p b (delM S k) ∧ w.grownBy w' (some b) := by
  have HH := Lib.hid h
  obtain ⟨hblk, hge, D, hown, hrep⟩ := h
  have c0 : w.cell? ⟨p, 0, none⟩ = some (.map (some b)) := hblk.cell 0
  have OW := Lib.hid hown
  have hkey := keyS hk
  have HK := Lib.hid hkey
  obtain ⟨A, n, c, hat⟩ : ∃ A n c, D.atKey (.string k) (.held (none, 0, 0)) = .held (A, n, c) := by
    cases hh : hasM S k with
    | true =>
      obtain ⟨A, n, c, h1, _⟩ := hrep.val k hh
      exact ⟨A, n, c, h1⟩
    | false => exact ⟨none, 0, 0, hrep.no k hh⟩
  have HAT := Lib.hid hat
  have HAS := Lib.hid (hrep.has k)
  have RP := Lib.hid hrep
  have BL := Lib.hid hblk
  have hpb : p ≠ b := fun e => by
    subst e
    obtain ⟨es, clock, hb, _⟩ := OW.out
    have := hblk
    unfold Blk at this
    rw [hb] at this
    cases this
  clear hblk hown hrep hkey hat
  cases hh : hasM S k with
  | true =>
    have HHS := Lib.hid hh
    clear hh
    go_enter Try.func9, Try.ntmps9
    go_wp2_with (first
      | (at_lookup; refine wpList_lookup_sl _ rfl (.tmp 13) (.tmp 14) 55 rfl 9 29 slaw Try.underlying55 (zeroB _) b _ D rfl OW.out _ (.string k) rfl HK.out A n c HAT.out true (HAS.out.trans HHS.out) ?_)
      | (at_delete; refine wpList_delete_own _ rfl (.tmp 23) (.tmp 24) 55 9 rfl 29 slaw Try.underlying55 slE b _ D rfl OW.out _ (.string k) rfl HK.out ?_; intro w1 hown1 hturn1; have OW1 := Lib.hid hown1; have TU := Lib.hid hturn1; clear hown1 hturn1))
    go_ret
    have hg := TU.out.grown
    refine ⟨by unfold delE; rw [HHS.out]; rfl, ⟨BL.out.grown hg (fun e => hpb (Option.some.inj e).symm), hge, D.del (.string k), ?_, ?_⟩, hg⟩
    · have h1 := owns_tight OW1.out
      have hr : RepM lo w1 (D.del (.string k)) (delM S k) := (RP.out.del k).keep fun i _ hi hcs => hg.block i hi (fun e => by
        have e : i = b := Option.some.inj e
        subst e
        obtain ⟨cs, hcs⟩ := hcs
        obtain ⟨es, clock, hb, _⟩ := OW.out
        unfold Blk at hcs
        rw [hb] at hcs
        cases hcs)
      have hm : MAt lo w1 p b (delM S k) ∨ True := .inr trivial
      obtain ⟨es, hD, hpw, _⟩ := h1.entries slaw
      obtain ⟨es', hD', hko⟩ := h1.keysOf
      obtain rfl : es = es' := by rw [hD] at hD'; simpa using hD'
      have hp : ((delM S k).map Prod.fst).Perm (strKeys (.map es)) := perm_strKeys hpw (fun q hq => by obtain ⟨v, hv⟩ := hko q hq; obtain ⟨x, _, hx, _⟩ := Maps.keyOf_str Try.underlying9 hv; exact ⟨x, hx⟩) hr.nd (fun x => by rw [← hD, hr.has x, hasM_mem])
      have hl : (delM S k).length = Maps.size (D.del (.string k)) := by
        have := hp.length_eq
        rw [hD]
        simpa [strKeys, Maps.size] using this
      rw [hl]
      exact h1
    · exact (RP.out.del k).keep fun i _ hi hcs => hg.block i hi (fun e => by
        have e : i = b := Option.some.inj e
        subst e
        obtain ⟨cs, hcs⟩ := hcs
        obtain ⟨es, clock, hb, _⟩ := OW.out
        unfold Blk at hcs
        rw [hb] at hcs
        cases hcs)
  | false =>
    have HHS := Lib.hid hh
    clear hh
    go_enter Try.func9, Try.ntmps9
    go_wp2_with (at_lookup; refine wpList_lookup_sl _ rfl (.tmp 13) (.tmp 14) 55 rfl 9 29 slaw Try.underlying55 (zeroB _) b _ D rfl OW.out _ (.string k) rfl HK.out A n c HAT.out false (HAS.out.trans HHS.out) ?_)
    go_ret
    exact ⟨by unfold delE; rw [HHS.out]; rfl, by rw [delM_none HHS.out]; exact HH.out, ⟨rfl, rfl, rfl, Nat.le_refl _, fun _ _ _ => rfl⟩⟩
theorem mPut (lo p b : Nat) (S : MV) (k : List UInt8) (A : Option Addr) (n c : Nat) (d : List UInt8) (w : World) (h : MAt lo w p b S) (hlo : lo ≤ w.heap.size) (hS : S.length ≤ 1000000) (hk : k.length ≤ maxLen) (hf : Form A n c) (hd : BytesIn w A n d) :
    Calls Try.prog 11 #[.pointer (some ⟨p, 0, none⟩), encStr k, .slice A n c] w fun e w' => e = .returned (.int .i64 (putE S k d)) ∧ MAt lo w' p b (putM S k d) ∧ w.grownBy w' (some b) := by
  have HH := Lib.hid h
  obtain ⟨hblk, hge, D, hown, hrep⟩ := h
  have c0 : w.cell? ⟨p, 0, none⟩ = some (.map (some b)) := hblk.cell 0
  have OW := Lib.hid hown
  have hkey := keyS hk
  have HK := Lib.hid hkey
  have hks := enc_size k
  have hnl := hd.1
  have HD := Lib.hid hd
  have HF := Lib.hid hf
  have hp63 : k.length ≤ 9223372036854775807 := by simp only [maxLen] at hk; omega
  obtain ⟨A0, n0, c0', hat⟩ : ∃ A n c, D.atKey (.string k) (.held (none, 0, 0)) = .held (A, n, c) := by
    cases hh : hasM S k with
    | true =>
      obtain ⟨A, n, c, h1, _⟩ := hrep.val k hh
      exact ⟨A, n, c, h1⟩
    | false => exact ⟨none, 0, 0, hrep.no k hh⟩
  have HAT := Lib.hid hat
  have HAS := Lib.hid (hrep.has k)
  have RP := Lib.hid hrep
  have BL := Lib.hid hblk
  have hpl := hblk.size
  have hpb : p ≠ b := fun e => by
    subst e
    obtain ⟨es, clock, hb, _⟩ := OW.out
    have := hblk
    unfold Blk at this
    rw [hb] at this
    cases this
  have same : ∀ r : Int, r ≠ 0 → putE S k d = r → Ending.returned (Value.int .i64 r) = .returned (.int .i64 (putE S k d)) ∧ MAt lo w p b (putM S k d) ∧ w.grownBy w (some b) := fun r hr he =>
    ⟨by rw [he], by unfold putM; rw [if_neg (by rw [he]; exact hr)]; exact HH.out, ⟨rfl, rfl, rfl, Nat.le_refl _, fun _ _ _ => rfl⟩⟩
  have SAME := Lib.hid same
  clear hblk hown hrep hkey hat hf hd same
  by_cases h1 : k.length < 1
  · have d1 : decide ((k.length : Int) < 1) = true := by simp; omega
    have he : putE S k d = 2 := by unfold putE; rw [if_pos (.inl h1)]
    have HE := Lib.hid he
    clear he
    go_enter Try.func11, Try.ntmps11
    go_wp2_with fail
    go_ret
    exact SAME.out 2 (by decide) HE.out
  · have d1 : decide ((k.length : Int) < 1) = false := by simp; omega
    by_cases h2 : 16 < k.length
    · have d2 : decide ((16 : Int) < k.length) = true := by simp; omega
      have he : putE S k d = 2 := by unfold putE; rw [if_pos (.inr h2)]
      have HE := Lib.hid he
      clear he
      go_enter Try.func11, Try.ntmps11
      go_wp2_with fail
      go_ret
      exact SAME.out 2 (by decide) HE.out
    · have d2 : decide ((16 : Int) < k.length) = false := by simp; omega
      by_cases h3 : 512 < n
      · have d3 : decide ((512 : Int) < n) = true := by simp; omega
        have he : putE S k d = 3 := by unfold putE; rw [if_neg (by omega), if_pos (by omega)]
        have HE := Lib.hid he
        clear he
        go_enter Try.func11, Try.ntmps11
        go_wp2_with fail
        go_ret
        exact SAME.out 3 (by decide) HE.out
      · have d3 : decide ((512 : Int) < n) = false := by simp; omega
        cases hh : hasM S k with
        | true =>
          have he : putE S k d = 4 := by unfold putE; rw [if_neg (by omega), if_neg (by omega), if_pos hh]
          have HE := Lib.hid he
          have HHS := Lib.hid hh
          clear he hh
          go_enter Try.func11, Try.ntmps11
          go_wp2_with (at_lookup; refine wpList_lookup_sl _ rfl (.tmp 29) (.tmp 30) 55 rfl 9 29 slaw Try.underlying55 (zeroB _) b _ D rfl OW.out _ (.string k) rfl HK.out A0 n0 c0' HAT.out true (HAS.out.trans HHS.out) ?_)
          go_ret
          exact SAME.out 4 (by decide) HE.out
        | false =>
          have he : putE S k d = 0 := by unfold putE; rw [if_neg (by omega), if_neg (by omega), if_neg (by rw [hh]; simp)]
          have HE := Lib.hid he
          have HHS := Lib.hid hh
          clear he hh
          go_enter Try.func11, Try.ntmps11
          go_wp2_with (at_lookup; refine wpList_lookup_sl _ rfl (.tmp 29) (.tmp 30) 55 rfl 9 29 slaw Try.underlying55 (zeroB _) b _ D rfl OW.out _ (.string k) rfl HK.out A0 n0 c0' HAT.out false (HAS.out.trans HHS.out) ?_)
          go_region_law ((
            go_simp
            go_at_call 26
            refine (bclone A n c d _ HF.out (by omega) (by exact HD.out)).mono ?_
            rintro e w1 ⟨B, cap, rfl, hB, hb1⟩
            have HB1 := Lib.hid (show Below w.heap.size w w1 from below_of_drew hb1)
            have K1 : w1.cell? ⟨p, 0, none⟩ = some (.map (some b)) := (HB1.out.cell (p := ⟨p, 0, none⟩) hpl).trans c0
            have M1 := Lib.hid (HH.out.below HB1.out)
            have O1 := Lib.hid (show w1.ownsMap Try.prog 9 slE b S.length D from by
              obtain ⟨es, clock, hb, F, hs, hD⟩ := OW.out
              exact ⟨es, clock, (HB1.out.block b (Array.getElem?_eq_some_iff.1 hb).1).trans hb, F, hs, hD⟩)
            have BY := Lib.hid (hB.mono (b2 := lo) hlo)
            obtain ⟨w2, hrun, hown2, hgr2⟩ := O1.out.update slaw Try.underlying55 (by simp only [maxLen]; omega) (val := .slice B n cap) HK.out (ps := []) rfl
            have OW2 := Lib.hid hown2
            have GR2 := Lib.hid hgr2
            clear hB hb1 hown2 hgr2))
          all_goals
            go_wp2_with fail
            go_ret
            have hnb : ∀ i, (∃ cs, Blk w1 i 5 cs) → i ≠ b := fun i hcs e => by
              subst e
              obtain ⟨cs, hcs⟩ := hcs
              obtain ⟨es, clock, hb, _⟩ := O1.out
              unfold Blk at hcs
              rw [hb] at hcs
              cases hcs
            have hr1 : RepM lo w1 D S := RP.out.keep fun i _ hi _ => HB1.out.block i hi
            have hr2 : RepM lo w2 (D.put (.string k) (.held (B, n, cap))) (S ++ [(k, d)]) := (hr1.put (O1.out.tidy slaw) HHS.out BY.out ⟨by omega, by omega, by omega⟩).keep fun i _ hi hcs => GR2.out.block i hi (fun e => hnb i hcs (Option.some.inj e))
            have hpm : putM S k d = S ++ [(k, d)] := by unfold putM; rw [if_pos HE.out]
            refine ⟨ret_int HE.out.symm, ⟨(BL.out.below HB1.out hpl).grown GR2.out (fun e => hpb (Option.some.inj e).symm), hge, D.put (.string k) (.held (B, n, cap)), ?_, ?_⟩, ?_⟩
            · rw [hpm, List.length_append]
              exact OW2.out
            · rw [hpm]
              exact hr2
            · exact ⟨GR2.out.os.trans HB1.out.os, GR2.out.tape.trans HB1.out.tape, GR2.out.output.trans HB1.out.output, Nat.le_trans HB1.out.size GR2.out.size, fun i hi hne => (GR2.out.block i (Nat.lt_of_lt_of_le hi HB1.out.size) hne).trans (HB1.out.block i hi)⟩
end
end Go.Proofs.Ytgkgieemdjbhpaa
