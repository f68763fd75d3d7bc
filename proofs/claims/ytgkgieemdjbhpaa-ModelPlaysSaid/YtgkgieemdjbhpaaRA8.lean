/- All of the document's model as text. No condition beyond those that each theorem states. -/
import Derived.Test.YtgkgieemdjbhpaaRA7
import Derived.Deep.RegionLaw
namespace Go.Proofs.Ytgkgieemdjbhpaa
open Go.RowKit Go.Maps

def textR (R : MV) : List UInt8 := R.flatMap fun q => textW q.1 ++ textW q.2
theorem textR_snoc (R : MV) (q : List UInt8 × List UInt8) : textR (R ++ [q]) = textR R ++ textW q.1 ++ textW q.2 := by simp [textR, List.append_assoc]
set_option maxRecDepth 100000 in
set_option maxHeartbeats 8000000 in
theorem rText (lo r : Nat) (R : MV) (w : World) (h : RAt lo w r R) (hR : R.length ≤ 1000) (hwf : ∀ q ∈ R, q.1.length ≤ 16 ∧ q.2.length ≤ 512) :
    Calls Try.prog 17 #[.pointer (some ⟨r, 0, none⟩)] w fun e w' => e = .returned (encStr (textR R)) ∧ Below w.heap.size w w' := by
  have hlt := h.lt
  obtain ⟨_, B, c, hblk, hrow⟩ := h
  have BK := Lib.hid hblk
  have RW := Lib.hid hrow
  have WF := Lib.hid hwf
  generalize hn : R.length = n at *
  have HN := Lib.hid hn
  clear hblk hrow hn hwf
  go_enter Try.func17, Try.ntmps17
  go_wp2_with fail
  go_loopw [3, 4] (fun v i wx => ∃ (k : Nat) (X : Option Addr) (m cx : Nat), k ≤ n ∧ i = .int .i64 k ∧ v = .slice X m cx ∧ Bys wx w.heap.size X m cx (textR (R.take k)) ∧ m ≤ 600 * k ∧ Below w.heap.size w wx) (fun _ i _ => n - (intOf i).toNat)
  case atStart => exact ⟨0, _, 0, 0, Nat.zero_le _, rfl, rfl, own_made w _ 1 rfl (Nat.le_refl _), by omega, (Below.refl _ _).alloc (Nat.le_refl _) _⟩
  case round =>
    obtain ⟨k, X, m, cx, hk, rfl, rfl, hby, hm, hbl⟩ := hrel
    obtain ⟨wo, rfl⟩ : ∃ wo : World, wo = wr := ⟨_, rfl⟩
    have BY := Lib.hid hby
    have BL := Lib.hid hbl
    have hz := hbl.size
    have c00 : wo.cell? ⟨r, 0, none⟩ = some (.slice B n c) := (BK.out.below hbl hlt).cell 0
    clear hby hbl
    by_cases hkn : k < n
    · have d1 : decide (k < n) = true := by simpa using hkn
      obtain ⟨⟨pk, pd⟩, hp⟩ : ∃ q, R[k]? = some q := ⟨_, List.getElem?_eq_getElem (by rw [HN.out]; exact hkn)⟩
      have hw := WF.out _ (List.mem_of_getElem? hp)
      have hpk : pk.length ≤ 16 := hw.1
      have HPD := Lib.hid (show pd.length ≤ 512 from hw.2)
      rcases own_form RW.out with ⟨rfl, h0, rfl⟩ | ⟨g, rfl⟩
      · omega
      · have hg := RW.out.lt g rfl
        have c0 : ∀ N, (wo.drewN N).cell? ⟨r, 0, none⟩ = some (.slice (some ⟨g, 0, none⟩) n c) := fun N => c00
        have kk : ∀ w3 : World, Below w.heap.size w w3 → w3.cell? ⟨g, k * 2, none⟩ = some (encStr pk) ∧ w3.cell? ⟨g, k * 2 + 1, none⟩ = some (encStr pd) ∧ w3.cell? ⟨r, 0, none⟩ = some (.slice (some ⟨g, 0, none⟩) n c) := fun w3 hb => ⟨(hb.cell (p := ⟨g, k * 2, none⟩) hg.2).trans (row_key RW.out hp), (hb.cell (p := ⟨g, k * 2 + 1, none⟩) hg.2).trans (row_data RW.out hp), (BK.out.below hb hlt).cell 0⟩
        have k0 : wo.cell? ⟨g, k * 2, none⟩ = some (encStr pk) := (kk wo BL.out).1
        have k1 : wo.cell? ⟨g, k * 2 + 1, none⟩ = some (encStr pd) := (kk wo BL.out).2.1
        have KK := Lib.hid kk
        have HP := Lib.hid hp
        clear hp hw kk
        go_wp2_with fail
        go_region_law ((first
          | (go_simp
             go_at_call 31
             refine (r06Text B3 m3 c3 _ pd _ BY3.out.form (by exact BY3.out.bytes) (by omega) (by have := HPD.out; omega)).mono ?_
             rintro e w4 ⟨B4, m4, c4, rfl, hb4, hbe4⟩
             have BY4 := Lib.hid hb4
             have BE4 := Lib.hid (show Below w3.heap.size w3 w4 from hbe4)
             clear hb4 hbe4)
          | (go_simp
             go_at_call 31
             refine (r06Text X m cx _ pk _ BY.out.form (by exact BY.out.bytes) (by omega) (by omega)).mono ?_
             rintro e w3 ⟨B3, m3, c3, rfl, hb3, hbe3⟩
             have BY3 := Lib.hid hb3
             have BE3 := Lib.hid (show Below wo.heap.size wo w3 from below_of_drew hbe3)
             have BW3 := Lib.hid (BL.out.trans (BE3.out.mono hz))
             have k0' := (KK.out w3 BW3.out).1
             have k1' := (KK.out w3 BW3.out).2.1
             have c0' := (KK.out w3 BW3.out).2.2
             have hz3 := BW3.out.size
             have hm3 : m3 ≤ m + pk.length + 2 := by have h1 := hb3.len; have h2 := BY.out.len; have h3 := textW_len pk; rw [List.length_append] at h1; omega
             clear hb3 hbe3)))
        all_goals
          go_wp2_with fail
          go_roundw
          case rel => exact ⟨k + 1, B4, m4, c4, hkn, by go_num, rfl, by
            rw [List.take_add_one, HP.out, Option.toList_some, textR_snoc]
            exact BY4.out.mono (by omega), by
            have h1 := BY4.out.len
            have h2 := BY3.out.len
            have h3 := textW_len pd
            have h4 := HPD.out
            rw [List.length_append] at h1
            omega, BW3.out.trans (BE4.out.mono hz3)⟩
          case measure => simp [intOf]; omega
    · have d1 : decide (k < n) = false := by simpa using hkn
      have hcv := bytes_string (c := cx) BY.out.bytes (by rcases BY.out.shape with ⟨h, _⟩ | ⟨g, h⟩; exact .inl h; exact .inr ⟨g, 0, h⟩)
      rw [List.take_of_length_le (show R.length ≤ k by rw [HN.out]; omega)] at hcv
      go_wp2_with fail
      go_ret
      exact ⟨rfl, BL.out⟩
end Go.Proofs.Ytgkgieemdjbhpaa
