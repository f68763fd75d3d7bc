/- All the keys of a catalog. No condition beyond those that each theorem states. -/
import Derived.Test.YtmkccblcmiflfaaKC20
namespace Go.Proofs.Ytmkccblcmiflfaa
open Go.RowKit Go.Maps Go.WideMaps Go.Sort Go.Shelf

theorem entPVals_get {PL : List EntP} {j : Nat} {r : EntP} (h : PL[j]? = some r) (t : Nat) (ht : t < 5) : (entPVals PL)[j * 5 + t]? = r.cells[t]? := by
  induction PL generalizing j with
  | nil => simp at h
  | cons x PL ih =>
    have hc : entPVals (x :: PL) = x.cells ++ entPVals PL := rfl
    rw [hc]
    cases j with
    | zero =>
      obtain rfl : x = r := by simpa using h
      rw [List.getElem?_append_left (by show 0 * 5 + t < 5; omega)]
      congr 1
      omega
    | succ j =>
      rw [List.getElem?_append_right (by show 5 ≤ _; omega), show (j + 1) * 5 + t - x.cells.length = j * 5 + t by show (j + 1) * 5 + t - 5 = _; omega]
      exact ih (by simpa using h)
theorem OutAt.form {w0 w : World} {t : TypeId} {v : Value} {n : Nat} {xs : List Value} (h : OutAt w0 w t v n xs) : ∃ B, v = .slice B n n ∧ ((B = none ∧ n = 0) ∨ ∃ g, B = some ⟨g, 0, none⟩ ∧ w0.heap.size ≤ g ∧ RowAt w g t xs) := by
  rcases h with ⟨rfl, rfl, _⟩ | ⟨g, rfl, h1, h2⟩
  · exact ⟨none, rfl, .inl ⟨rfl, rfl⟩⟩
  · exact ⟨_, rfl, .inr ⟨g, rfl, h1, h2⟩⟩
def keysC (C : CV) : List Str := sortS (C.staged.map Prod.fst ++ C.entries.map Prod.fst)
theorem keysC_eq (C : CV) : sortS (C.staged.map Prod.fst ++ sortS (C.entries.map Prod.fst)) = keysC C := mergeSort_of_perm ((List.mergeSort_perm _ _).append_left _)
theorem no_wait {N : Nat} {C : CV} (hw : CWf N C) {key : Str} (h : hasL C.entries key = true) : waitsC C key < 0 := by
  rw [waitsC_neg]
  cases hs : hasL C.staged key with
  | false => rfl
  | true =>
    obtain ⟨q, hq, hk⟩ := List.mem_map.1 (hasL_mem.1 hs)
    have := hw.apart q hq
    rw [hk, h] at this
    cases this
section
set_option maxHeartbeats 4000000
set_option maxRecDepth 8000
theorem cKeys_nil (w : World) : Calls Try.prog 17 #[.pointer none] w fun e w' => e = .returned (.slice none 0 0) ∧ w = w' := by
  have hS := fun W => AnyM.slices_Sort_string_none sortE none 0 W
  change ∀ W, Calls Try.prog 38 _ _ _ at hS
  go_enter Try.func17, Try.ntmps17
  go_wp2_with (first
    | (go_at_call 20; refine (cStaged_nil _).mono ?_; rintro e w1 ⟨rfl, rfl⟩)
    | (go_at_call 15; refine (cEntries_nil _).mono ?_; rintro e w1 ⟨rfl, rfl⟩)
    | fail)
  go_loopw [3, 11] (fun v i wx => v = .slice none 0 0 ∧ i = .int .i64 0 ∧ wx = w) (fun _ _ _ => 0)
  case atStart => exact ⟨rfl, rfl, rfl⟩
  case round =>
    obtain ⟨rfl, rfl, rfl⟩ := hrel
    go_wp2_with (first
      | (go_at_call 38; refine (hS _).mono ?_; rintro e w1 ⟨rfl, rfl⟩)
      | (go_at_call 39; refine (clip_str none 0 0 _ (Nat.le_refl _) (Nat.zero_le _) (.inl ⟨rfl, rfl, rfl⟩)).mono ?_; rintro e w2 ⟨rfl, rfl⟩))
    go_ret
    exact ⟨rfl, rfl⟩
theorem cKeys (F : Nat → Prop) (p N : Nat) (C : CV) (w : World) (h : CatAt F w p N C) (hN : N ≤ 100000) :
    Calls Try.prog 17 #[.pointer (some ⟨p, 0, none⟩)] w fun e w' => ∃ v, e = .returned v ∧ OutAt w w' 9 v (keysC C).length (strVals (keysC C)) ∧ Below w.heap.size w w' := by
  have H := Lib.hid h
  obtain ⟨hwf, hen, hsn⟩ : CWf N C ∧ C.entries.length ≤ N ∧ C.staged.length ≤ N := by
    obtain ⟨sv, tv, SR, ER, be, bb, br, hr⟩ := h
    refine ⟨hr.wf, ?_, hr.wf.staged⟩
    have h1 := hr.ents.len
    have h2 : (entVals ER).length = C.entries.length := by rw [← hr.entr, entVals, List.length_map, List.length_map]
    omega
  have hlE : (entsC C).length = C.entries.length := by unfold entsC; rw [List.length_map, sortS_len, List.length_map]
  have WF := Lib.hid hwf
  obtain ⟨i0, hi0, hz0, hz1, hz2⟩ := info_parts str_info
  have LE := Lib.hid hlE
  have HSN := Lib.hid hsn
  clear h hwf hlE hsn
  go_enter Try.func17, Try.ntmps17
  go_wp2_with (first
    | (go_at_call 20; refine (cStaged F p N C _ H.out hN).mono ?_; rintro e w1 ⟨v1, rfl, ho1, hb1⟩; have O1 := Lib.hid ho1; have B1 := Lib.hid hb1; clear ho1 hb1)
    | (go_at_call 15; refine (cEntries F p N C _ (H.out.below B1.out) hN).mono ?_; rintro e w2 ⟨v2, PL, rfl, ho2, hb2⟩; obtain ⟨A2, hv2, hA2⟩ := ho2.out.form; rw [LE.out] at hv2 hA2; subst hv2; have O2 := Lib.hid ho2; have B2 := Lib.hid (B1.out.trans (hb2.mono B1.out.size)); have O1' := Lib.hid (O1.out.below hb2); clear hb2 ho2)
    | fail)
  have SLN := Lib.hid (show (sortS (C.entries.map Prod.fst)).length = C.entries.length by rw [sortS_len, List.length_map])
  have HPL := Lib.hid (show PL.map (fun r => r.key) = sortS (C.entries.map Prod.fst) by
    have h := congrArg (List.map Prod.fst) O2.out.is
    rw [List.map_map] at h
    rw [show (fun r : EntP => r.key) = Prod.fst ∘ fun r => (r.key, r.e) from rfl, h]
    unfold entsC
    rw [List.map_map]
    exact List.map_id _)
  have HMEM := Lib.hid (show ∀ key, key ∈ sortS (C.entries.map Prod.fst) → hasL C.entries key = true from fun key hk => hasL_mem.2 ((List.mergeSort_perm _ _).mem_iff.1 hk))
  have STL := Lib.hid (show (strVals (C.staged.map Prod.fst)).length = C.staged.length * 1 by simp [strVals])
  have hzz := B2.out.size
  have hmn : C.staged.length ≤ 100000 := Nat.le_trans HSN.out hN
  have hpl : PL.length = C.entries.length := by rw [← SLN.out, ← HPL.out, List.length_map]
  have HPN := Lib.hid hpl
  have KQ := Lib.hid (keysC_eq C)
  have KL := Lib.hid (show (keysC C).length = C.staged.length + C.entries.length by unfold keysC; rw [sortS_len, List.length_append, List.length_map, List.length_map])
  clear hpl
  generalize C.entries.length = n at *
  generalize C.staged.length = m at *
  go_loopw [3, 11] (fun v i wx => ∃ (j : Nat), i = .int .i64 j ∧ j ≤ n ∧ StAt w w2.heap.size wx 9 1 v (m + j) (strVals (C.staged.map Prod.fst) ++ strVals ((PL.take j).map (fun r => r.key))) ∧ Below w2.heap.size w2 wx) (fun _ i _ => n - (intOf i).toNat)
  case atStart => exact ⟨0, rfl, Nat.zero_le _, .inl ⟨by rw [List.length_append, STL.out]; simp [strVals], by simpa [strVals] using O1'.out⟩, Below.refl _ _⟩
  case round =>
    obtain ⟨j, rfl, hj, hst, hbl⟩ := hrel
    obtain ⟨wo, rfl⟩ : ∃ wo : World, wo = wr := ⟨_, rfl⟩
    have ST := Lib.hid hst
    have BL := Lib.hid hbl
    have hz := hbl.size
    by_cases hlt2 : j < n
    · have d1 : decide (j < n) = true := by simpa using hlt2
      obtain ⟨r, hr⟩ : ∃ r, PL[j]? = some r := ⟨_, List.getElem?_eq_getElem (by rw [HPN.out]; exact hlt2)⟩
      obtain ⟨g, rfl, hgr⟩ : ∃ g, A2 = some ⟨g, 0, none⟩ ∧ RowAt w2 g 46 (entPVals PL) := by
        rcases hA2 with ⟨_, h⟩ | ⟨g, h1, _, h3⟩
        · omega
        · exact ⟨g, h1, h3⟩
      have hg : g < w2.heap.size := hgr.size
      have k0 : wo.cell? ⟨g, j * 5, none⟩ = some (encStr r.key) := (hbl.cell (p := ⟨g, j * 5, none⟩) hg).trans (hgr.cell (entPVals_get hr 0 (by omega)))
      have k1 : wo.cell? ⟨g, j * 5 + 1, none⟩ = some (.int .i64 r.e.gen) := (hbl.cell (p := ⟨g, j * 5 + 1, none⟩) hg).trans (hgr.cell (entPVals_get hr 1 (by omega)))
      have k2 : wo.cell? ⟨g, j * 5 + 2, none⟩ = some (.int .i64 r.e.size) := (hbl.cell (p := ⟨g, j * 5 + 2, none⟩) hg).trans (hgr.cell (entPVals_get hr 2 (by omega)))
      have k3 : wo.cell? ⟨g, j * 5 + 3, none⟩ = some (encStr r.e.sum) := (hbl.cell (p := ⟨g, j * 5 + 3, none⟩) hg).trans (hgr.cell (entPVals_get hr 3 (by omega)))
      have k4 : wo.cell? ⟨g, j * 5 + 4, none⟩ = some (.slice r.B r.e.places.length r.e.places.length) := (hbl.cell (p := ⟨g, j * 5 + 4, none⟩) hg).trans (hgr.cell (entPVals_get hr 4 (by omega)))
      have hwt : waitsC C r.key < 0 := no_wait WF.out (HMEM.out _ (by rw [← HPL.out]; exact List.mem_map.2 ⟨r, List.mem_of_getElem? hr, rfl⟩))
      have d2 : decide (waitsC C r.key < 0) = true := by simpa using hwt
      have HT := Lib.hid (show strVals ((PL.take (j + 1)).map (fun r => r.key)) = strVals ((PL.take j).map (fun r => r.key)) ++ [encStr r.key] by rw [List.take_add_one, hr, Option.toList_some, List.map_append]; unfold strVals; rw [List.map_append]; rfl)
      have BW := Lib.hid (B2.out.trans (hbl.mono hzz))
      have hzw := BW.out.size
      have hix := idxP_ge (isKey r.key) C.staged
      clear hst hbl hr hgr hwt
      go_wp2_with (first
        | (go_at_call 23; refine (cWaits F p N C r.key _ (by exact (H.out.below BW.out).below ((Below.refl _ _).alloc (Nat.le_refl _) _))).mono ?_; rintro e w3 ⟨rfl, hb3⟩; have lk : w3.cell? ⟨wo.heap.size, 0, none⟩ = some (encStr r.key) := (hb3.cell (p := ⟨wo.heap.size, 0, none⟩) (by simp)).trans (by simp); have B3 := Lib.hid (((Below.refl _ wo).alloc (Nat.le_refl _) _).trans (hb3.mono (by simp))); have hz3 := B3.out.size; have ST3 := Lib.hid (ST.out.below B3.out); clear hb3)
        | (at_builtin
           refine wpList_append_st w w2.heap.size _ rfl (.tmp 20) (.tmp 23) 50 rfl 9 i0 _ 1 16 Try.underlying50 hi0 hz0 hz1 hz2 rfl (by omega) _ (m + j) _ rfl (by exact ST3.out.below ((Below.refl _ _).alloc (Nat.le_refl _) _)) ⟨w3.heap.size, 0, none⟩ 1 1 [encStr r.key] rfl rfl (by omega) (by exact src_new1 _ _ _ _ rfl) (by intro u hu; simp only [List.mem_cons, List.not_mem_nil, or_false] at hu; rcases hu with rfl; rfl) (by simp only [maxLen]; omega) (by omega) (by simp; omega) ?_
           intro v' w4 hown4 hb4
           have OW4 := Lib.hid hown4
           have HB4 := Lib.hid hb4
           clear hown4 hb4))
      go_roundw
      case rel => exact ⟨j + 1, by go_num, hlt2, .inr (by rw [HT.out, ← List.append_assoc]; exact OW4.out), ((BL.out.trans (B3.out.mono hz)).alloc (by omega) _).trans HB4.out⟩
      case measure => simp [intOf]; omega
    · have d1 : decide (j < n) = false := by simpa using hlt2
      obtain rfl : j = n := by omega
      have BW := Lib.hid (B2.out.trans (hbl.mono hzz))
      have hst' := hst
      rw [List.take_of_length_le (by rw [HPN.out]; exact Nat.le_refl _), HPL.out] at hst'
      have hval : strVals (C.staged.map Prod.fst) ++ strVals (sortS (C.entries.map Prod.fst)) = strVals (C.staged.map Prod.fst ++ sortS (C.entries.map Prod.fst)) := by unfold strVals; rw [List.map_append]
      rw [hval] at hst'
      have hll : (C.staged.map Prod.fst ++ sortS (C.entries.map Prod.fst)).length = m + j := by rw [List.length_append, SLN.out, List.length_map]; have := STL.out; simp only [strVals, List.length_map] at this; omega
      obtain ⟨B, c, rfl, hc1, hc2, hB⟩ := hst'.out hzz
      clear hst hbl hval hst'
      rcases hB with ⟨rfl, h0, rfl, hnil⟩ | ⟨g, rfl, hg1, hg2⟩
      · have hS := fun W => AnyM.slices_Sort_string_none sortE none 0 W
        change ∀ W, Calls Try.prog 38 _ _ _ at hS
        obtain ⟨rfl, rfl⟩ : m = 0 ∧ j = 0 := by omega
        go_wp2_with (first
          | (go_at_call 38; refine (hS _).mono ?_; rintro e w4 ⟨rfl, rfl⟩)
          | (go_at_call 39; refine (clip_str none 0 0 _ (Nat.le_refl _) (Nat.zero_le _) (.inl ⟨rfl, rfl, rfl⟩)).mono ?_; rintro e w5 ⟨rfl, rfl⟩))
        go_ret
        exact ⟨_, rfl, .inl ⟨rfl, KL.out, by rw [List.eq_nil_of_length_eq_zero KL.out]; rfl⟩, BW.out⟩
      · have hSo := sortStr g c (C.staged.map Prod.fst ++ sortS (C.entries.map Prod.fst)) wo hg2 (by omega)
        rw [hll, KQ.out] at hSo
        have SO := Lib.hid hSo
        have hcm : c ≤ maxLen := by simp only [maxLen] at *; omega
        have hzw := BW.out.size
        clear hSo hll hc2
        go_wp2_with (first
          | (go_at_call 38; refine SO.out.mono ?_; rintro e w4 ⟨rfl, hr4, hg4⟩; have R4 := Lib.hid hr4; have B4 := Lib.hid (BW.out.grown hg4 hzw (fun q hq => by have e := Option.some.inj hq; omega)); clear hr4 hg4)
          | (go_at_call 39; refine (clip_str (some ⟨g, 0, none⟩) (m + j) c _ hc1 hcm (.inr ⟨g, rfl⟩)).mono ?_; rintro e w5 ⟨rfl, rfl⟩))
        go_ret
        exact ⟨_, rfl, .inr ⟨g, by rw [KL.out]; rfl, hg1, R4.out⟩, B4.out⟩
end
end Go.Proofs.Ytmkccblcmiflfaa
