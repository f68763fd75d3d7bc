/- How many bytes wait; the document's number of groups. No condition beyond those that each theorem states. -/
import Derived.Test.YtmkccblcmiflfaaGreatKP6
namespace Go.Proofs.YtmkccblcmiflfaaGreat
open Go.RowKit Go.Maps Go.WideMaps

section
set_option maxHeartbeats 4000000
set_option maxRecDepth 8000
theorem cGroups13 (n : Int) (w : World) (h0 : 0 ≤ n) (h1 : n ≤ 512) :
    Calls Tryz.prog 20 #[.int .i64 n] w fun e w' => e = .returned (.int .i64 (groupsI n)) ∧ w = w' := by
  go_enter Tryz.func20, Tryz.ntmps20
  go_wp2_with fail
  go_loopw [3] (fun i wx => ∃ k : Nat, i = .int .i64 k ∧ 1 ≤ k ∧ k ≤ 4 ∧ (k = 1 ∨ ((k : Int) - 1) * 128 < n) ∧ wx = w) (fun i _ => 5 - (intOf i).toNat)
  case atStart => exact ⟨1, rfl, Nat.le_refl _, by omega, .inl rfl, rfl⟩
  case round =>
    obtain ⟨k, rfl, hk1, hk4, hk, rfl⟩ := hrel
    by_cases hlt : (k : Int) * 128 < n
    · have d1 : decide ((k : Int) * 128 < n) = true := by simpa using hlt
      go_wp2_with fail
      go_roundw
      case rel => exact ⟨k + 1, by go_num, by omega, by omega, .inr (by omega), by trivial⟩
      case measure => simp [intOf]; omega
    · have d1 : decide ((k : Int) * 128 < n) = false := by simpa using hlt
      go_wp2_with fail
      go_ret
      exact ⟨ret_i (by unfold groupsI; omega), rfl⟩
theorem cUsed (F : Nat → Prop) (p N : Nat) (C : CV) (w : World) (h : CatAt F w p N C) (hN : N ≤ 100000) :
    Calls Tryz.prog 22 #[.pointer (some ⟨p, 0, none⟩)] w fun e w' => e = .returned (.int .i64 (usedC C)) ∧ Below w.heap.size w w' := by
  have H := Lib.hid h
  have WF := Lib.hid h.facts.1
  obtain ⟨sn, hsn⟩ : ∃ sn, C.staged.length = sn := ⟨_, rfl⟩
  have hsm : sn ≤ 100000 := by
    have h1 := h.facts.1.staged
    omega
  have SN := Lib.hid hsn
  clear h hsn
  go_enter Tryz.func22, Tryz.ntmps22
  go_wp2_with fail
  refine (cStaged F p N C _ H.out hN).mono ?_
  rintro e w1 ⟨sv, rfl, hos, hb1⟩
  rw [SN.out] at hos
  obtain ⟨SA, rfl, hsr⟩ := hos.strs (by rw [List.length_map]; exact SN.out) (by simp only [maxLen]; omega)
  have S1 := Lib.hid hsr
  have B1 := Lib.hid hb1
  have hsum := used_le WF.out (C.staged.map Prod.fst)
  rw [List.length_map, SN.out] at hsum
  clear hos hsr hb1
  go_wp2_with fail
  go_loopw [3, 11] (fun v i wx => ∃ j : Nat, i = .int .i64 j ∧ j ≤ sn ∧ v = .int .i64 (((((C.staged.map Prod.fst).take j).map (dl C)).sum : Nat) : Int) ∧ Below w.heap.size w wx ∧ Below w1.heap.size w1 wx) (fun _ i _ => sn - (intOf i).toNat)
  case atStart => exact ⟨0, rfl, Nat.zero_le _, rfl, B1.out, Below.refl _ _⟩
  case round =>
    obtain ⟨j, rfl, hj, rfl, hbl, hbs⟩ := hrel
    have BL := Lib.hid hbl
    have BS := Lib.hid hbs
    have hz := hbl.size
    have hz1 := hbs.size
    by_cases hlt : j < sn
    · have d1 : decide (j < sn) = true := by simpa using hlt
      obtain ⟨key, hk⟩ : ∃ x, (C.staged.map Prod.fst)[j]? = some x := ⟨_, List.getElem?_eq_getElem (by rw [S1.out.len]; exact hlt)⟩
      obtain ⟨b, off, rfl, hc⟩ : ∃ b off, SA = some ⟨b, off, none⟩ ∧ ∀ j u, (strVals (C.staged.map Prod.fst))[j]? = some u → wr.cell? ⟨b, off + j, none⟩ = some u := by
        rcases S1.out.row.below hbs with ⟨h0, _⟩ | ⟨b, off, h1, h2⟩
        · omega
        · exact ⟨b, off, h1, h2⟩
      have x0 : wr.cell? ⟨b, off + j, none⟩ = some (encStr key) := hc _ _ (strVals_get hk)
      have HT := Lib.hid (sum_take (dl C) hk)
      have hsum2 := used_le WF.out ((C.staged.map Prod.fst).take j)
      rw [List.length_take, List.length_map, SN.out] at hsum2
      have hd5 := dl_le WF.out key
      generalize hsj : (((C.staged.map Prod.fst).take j).map (dl C)).sum = sj at *
      have hs2 : sj ≤ 512 * 100000 := by
        have : min j sn ≤ sn := Nat.min_le_right _ _
        omega
      clear hbl hbs hc hk hsj hsum2
      go_wp2_with fail
      refine (cData F p N C key _ (H.out.below BL.out)).mono ?_
      rintro e w2 ⟨hdt, hb2⟩
      obtain ⟨B, rfl⟩ := data_len WF.out hdt
      have B2 := Lib.hid hb2
      clear hdt hb2
      generalize hdk : dl C key = dk at *
      go_wp2_with fail
      go_roundw
      case rel => exact ⟨j + 1, by go_num, hlt, by rw [HT.out]; go_num, BL.out.trans (B2.out.mono hz), BS.out.trans (B2.out.mono hz1)⟩
      case measure => simp [intOf]; omega
    · have d1 : decide (j < sn) = false := by simpa using hlt
      obtain rfl : j = sn := by omega
      have hfull : (((C.staged.map Prod.fst).take j).map (dl C)).sum = usedC C := by
        rw [List.take_of_length_le (by rw [S1.out.len]; exact Nat.le_refl _)]
        rfl
      rw [hfull]
      go_wp2_with fail
      go_ret
      exact ⟨rfl, BL.out⟩
end
end Go.Proofs.YtmkccblcmiflfaaGreat
