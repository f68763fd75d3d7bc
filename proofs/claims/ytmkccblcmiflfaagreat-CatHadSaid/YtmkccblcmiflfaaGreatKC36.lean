/- The law CatHad returns true on values. No condition beyond those that each theorem states. -/
import Derived.Test.YtmkccblcmiflfaaGreatKC35
import Derived.Test.YtmkccblcmiflfaaGreatKC27
import Derived.Laws.Cover1
namespace Go.Proofs.YtmkccblcmiflfaaGreat
open Go.RowKit Go.Maps Go.WideMaps

theorem wrap_in {x : Int} (h1 : -1000000 ≤ x) (h2 : x ≤ 1000000) : IntKind.i64.wrap x = x := by
  simp only [IntKind.wrap, IntKind.bits, IntKind.signed]
  simp
  omega
theorem wrap_nat {j : Nat} (h : j ≤ 1000000) : IntKind.i64.wrap (j : Int) = (j : Int) := by
  simp only [IntKind.wrap, IntKind.bits, IntKind.signed]
  simp
  omega
theorem below_of_drewR {B : Nat} {w w' : World} (h : Below B w w') : Below B w w'.drew := ⟨h.os, h.tape, h.output, h.size, h.block⟩
theorem tomb_get {L : List (Str × Int)} {j : Nat} {x : Str × Int} (h : L[j]? = some x) (t : Nat) (ht : t < 8) : (tombVals L)[j * 8 + t]? = (tombVals [x])[t]? := by
  induction L generalizing j with
  | nil => simp at h
  | cons y L ih =>
    have hc : tombVals (y :: L) = tombVals [y] ++ tombVals L := by simp [tombVals]
    have hl : (tombVals [y]).length = 8 := rfl
    rw [hc]
    cases j with
    | zero =>
      obtain rfl : y = x := by simpa using h
      rw [List.getElem?_append_left (by rw [hl]; omega)]
      congr 1
      omega
    | succ j =>
      rw [List.getElem?_append_right (by rw [hl]; omega), hl, show (j + 1) * 8 + t - 8 = j * 8 + t by omega]
      exact ih (by simpa using h)
section
set_option maxHeartbeats 16000000
set_option maxRecDepth 100000
theorem catHad_walk (A : Option Addr) (n c : Nat) (f : Nat → NoteA) (w : World) (h : NotesIn w A n f) (hnc : n ≤ c) (hc : c ≤ maxLen) :
    Calls Tryz.prog 4 #[.slice A n c] w fun e w' => e = .returned (.bool true) ∧ Below w.heap.size w w' := by
  have H := Lib.hid h
  have hn : n ≤ maxLen := Nat.le_trans hnc hc
  clear h
  go_enter Tryz.func4, Tryz.ntmps4
  go_wp2_with fail
  refine (cMade A n c f 60 _ H.out hn (by omega)).mono ?_
  rintro e w1 ⟨p, F, rfl, hF, hca, hb1⟩
  generalize runC (fun i => (f i).v) (min n 60) = C at *
  have C1 := Lib.hid hca
  have B1 := Lib.hid hb1
  have WF := Lib.hid hca.facts
  obtain ⟨sn, hsn⟩ : ∃ sn, C.staged.length = sn := ⟨_, rfl⟩
  obtain ⟨en, hen⟩ : ∃ en, C.entries.length = en := ⟨_, rfl⟩
  have hsm : sn ≤ 60 := by have h1 := hca.facts.1.staged; omega
  have hem : en ≤ 60 := by have h1 := hca.facts.2.2.2.2.1; omega
  have hkn : (keysC C).length = sn + en := by
    unfold keysC
    rw [sortS_len, List.length_append, List.length_map, List.length_map, hsn, hen]
  obtain ⟨kn, hkk⟩ : ∃ kn, kn = sn + en := ⟨_, rfl⟩
  rw [← hkk] at hkn
  have KN := Lib.hid hkn
  have SN := Lib.hid hsn
  have EN := Lib.hid (show (entsC C).length = en by unfold entsC; rw [List.length_map, sortS_len, List.length_map]; exact hen)
  have hk1 : ((kn : Int) != (sn : Int) + (en : Int)) = false := by simp; omega
  have hk120 : kn ≤ 120 := by omega
  clear hca hF hb1 hkn hsn hen hkk
  go_wp2_with fail
  refine (cKeys F p 60 C _ C1.out (by omega)).mono ?_
  rintro e w2 ⟨kv, rfl, hok, hb2⟩
  rw [KN.out] at hok
  obtain ⟨KA, rfl, hkr⟩ := hok.strs KN.out (by simp only [maxLen]; omega)
  have K2 := Lib.hid hkr
  have B2 := Lib.hid hb2
  clear hok hkr hb2
  go_wp2_with fail
  refine (cStaged F p 60 C _ (C1.out.below B2.out) (by omega)).mono ?_
  rintro e w3 ⟨sv, rfl, hos, hb3⟩
  rw [SN.out] at hos
  obtain ⟨SA, rfl, _⟩ := hos.form
  have B3 := Lib.hid hb3
  clear hos hb3
  go_wp2_with fail
  refine (cEntries F p 60 C _ ((C1.out.below B2.out).below B3.out) (by omega)).mono ?_
  rintro e wk ⟨ev, PL, rfl, hoe, hb4⟩
  obtain ⟨EA, hev, _⟩ := hoe.out.form
  rw [EN.out] at hev
  subst hev
  have CA := Lib.hid (((C1.out.below B2.out).below B3.out).below hb4)
  have K4 := Lib.hid ((K2.out.below B3.out).below hb4)
  have BW := Lib.hid (show Below w.heap.size w wk from ((B1.out.trans (B2.out.mono B1.out.size)).trans (B3.out.mono (Nat.le_trans B1.out.size B2.out.size))).trans (hb4.mono (Nat.le_trans (Nat.le_trans B1.out.size B2.out.size) B3.out.size)))
  clear hoe hb4 B1 B2 B3 C1 K2
  go_wp2_with fail
  go_loopw [7, 8] (fun v i wx => ∃ j : Nat, i = .int .i64 j ∧ j ≤ kn ∧ v = .int .i64 (((((keysC C).take j).map (dl C)).sum : Nat) : Int) ∧ Below w.heap.size w wx ∧ Below wk.heap.size wk wx) (fun _ i _ => kn - (intOf i).toNat)
  case atStart => exact ⟨0, rfl, Nat.zero_le _, rfl, BW.out, Below.refl _ _⟩
  case round =>
    obtain ⟨j, rfl, hj, rfl, hbl, hbs⟩ := hrel
    have BL := Lib.hid hbl
    have BS := Lib.hid hbs
    have hz := hbl.size
    have hz1 := hbs.size
    by_cases hlt : j < kn
    · have d1 : decide (j < kn) = true := by simpa using hlt
      cases j with
      | zero =>
        obtain ⟨key, hk⟩ : ∃ x, (keysC C)[0]? = some x := ⟨_, List.getElem?_eq_getElem (by rw [K4.out.len]; exact hlt)⟩
        obtain ⟨b, off, rfl, hc⟩ : ∃ b off, KA = some ⟨b, off, none⟩ ∧ ∀ j u, (strVals (keysC C))[j]? = some u → wr.cell? ⟨b, off + j, none⟩ = some u := by
          rcases K4.out.row.below hbs with ⟨h0, _⟩ | ⟨b, off, h1, h2⟩
          · omega
          · exact ⟨b, off, h1, h2⟩
        have x0 : wr.cell? ⟨b, off, none⟩ = some (encStr key) := hc _ _ (strVals_get hk)
        have hlb : b < wr.heap.size := World.block_lt_of_cell? _ _ x0
        have HT := Lib.hid (sum_take (dl C) hk)
        have hone := key_one WF.out.1 (List.mem_of_getElem? hk)
        have HH := Lib.hid hone.1
        have HKM := Lib.hid (show key.length ≤ maxLen from by have := hasC_len WF.out.1 hone.1; simp only [maxLen]; omega)
        have hsum2 := used_le WF.out.1 ((keysC C).take 0)
        rw [List.length_take, K4.out.len] at hsum2
        have hd5 := dl_le WF.out.1 key
        generalize hsj : (((keysC C).take 0).map (dl C)).sum = sj at *
        have hs2 : sj ≤ 512 * 200 := by
          have : min 0 kn ≤ kn := Nat.min_le_right _ _
          omega
        clear hbl hbs hc hk hsj hsum2 
        go_wp2_with fail
        refine (cData F p 60 C key _ (CA.out.below BS.out)).mono ?_
        rintro e w3 ⟨hdt, hb3⟩
        obtain ⟨B, rfl⟩ := data_len WF.out.1 hdt
        rw [hone.2]
        have B3 := Lib.hid hb3
        have x0 : w3.cell? ⟨b, off, none⟩ = some (encStr key) := (hb3.cell (p := ⟨b, off, none⟩) hlb).trans x0
        have hlb := Nat.lt_of_lt_of_le hlb hb3.size
        clear hdt hb3
        generalize hdk : dl C key = dk at *
        go_wp2_with fail
        refine (cEntry F p 60 C key _ ((CA.out.below BS.out).below B3.out) HKM.out).mono ?_
        rintro e w4 ⟨⟨ev, rfl, EB, rfl, hob⟩, hb4⟩
        have B4 := Lib.hid hb4
        have x0 : w4.cell? ⟨b, off, none⟩ = some (encStr key) := (hb4.cell (p := ⟨b, off, none⟩) hlb).trans x0
        have hlb := Nat.lt_of_lt_of_le hlb hb4.size
        clear hob hb4
        generalize hek0 : (if hasL C.entries key then key else []) = ek at *
        generalize hee0 : entC C key = ee at *
        go_upto_region 11 with fail
        obtain ⟨w5, hw5⟩ : ∃ w5, w5 = w4.alloc (.cells #[encStr ek, .int .i64 ee.gen, .int .i64 ee.size, encStr ee.sum, .slice EB ee.places.length ee.places.length] 43) := ⟨_, rfl⟩
        have hb5 : Below w4.heap.size w4 w5 := by rw [hw5]; exact (Below.refl _ _).alloc (Nat.le_refl _) _
        have BE := Lib.hid (show Blk w5 w4.heap.size 43 #[encStr ek, .int .i64 ee.gen, .int .i64 ee.size, encStr ee.sum, .slice EB ee.places.length ee.places.length] by rw [hw5]; exact Blk.made w4 _ _)
        change Code.wp _ _ _ _ (w4.alloc (.cells #[encStr ek, .int .i64 ee.gen, .int .i64 ee.size, encStr ee.sum, .slice EB ee.places.length ee.places.length] 43))
        rw [← hw5]
        have x0 : w5.cell? ⟨b, off, none⟩ = some (encStr key) := (hb5.cell (p := ⟨b, off, none⟩) hlb).trans x0
        have hlb := Nat.lt_of_lt_of_le hlb hb5.size
        have hle : w4.heap.size < w5.heap.size := BE.out.size
        have B35 := Lib.hid (B3.out.trans ((B4.out.trans (hb5.mono B4.out.size)).mono B3.out.size))
        have CA5 := Lib.hid ((CA.out.below BS.out).below B35.out)
        have CAd := Lib.hid (show CatAt F w5.drew p 60 C from CA5.out.below ⟨rfl, rfl, rfl, Nat.le_refl _, fun _ _ => rfl⟩)
        have BL5 := Lib.hid (BL.out.trans (B35.out.mono hz))
        have BS5 := Lib.hid (BS.out.trans (B35.out.mono hz1))
        have hz5 := BL5.out.size
        have hs5 := BS5.out.size
        have e0 : w5.cell? ⟨w4.heap.size, 0, none⟩ = some (encStr ek) := BE.out.cell 0
        have e1 : w5.cell? ⟨w4.heap.size, 1, none⟩ = some (.int .i64 ee.gen) := BE.out.cell 1
        have e2 : w5.cell? ⟨w4.heap.size, 2, none⟩ = some (.int .i64 ee.size) := BE.out.cell 2
        have e3 : w5.cell? ⟨w4.heap.size, 3, none⟩ = some (encStr ee.sum) := BE.out.cell 3
        have e4 : w5.cell? ⟨w4.heap.size, 4, none⟩ = some (.slice EB ee.places.length ee.places.length) := BE.out.cell 4
        clear hw5 hb5 hone
        cases hent : hasL C.entries key with
        | true =>
              simp only [Bool.not_true]
              have hfacts := WF.out.1.ents _ (getL_mem zeroV hent)
              have hekb : (ek == key) = true := by rw [← hek0, if_pos hent]; simp
              have hs0 : 0 ≤ ee.size := by rw [← hee0]; exact hfacts.2.2.2.2.1
              have hs1 : ee.size ≤ 512 := by rw [← hee0]; exact hfacts.2.2.2.2.2.1
              have hg0 : decide (ee.gen < 1) = false := by rw [← hee0]; have := hfacts.2.2.1; simp; exact this
              have hg1 : decide (C.gen < ee.gen) = false := by rw [← hee0]; have := hfacts.2.2.2.1; simp; exact this
              have hp0 : ((ee.places.length : Int) != 10 * groupsI ee.size) = false := by
                have h7 : (ee.places.length : Int) = groupsI ee.size * 10 := by rw [← hee0]; exact hfacts.2.2.2.2.2.2.1
                simp
                omega
              have hgr : 1 ≤ groupsI ee.size ∧ groupsI ee.size ≤ 4 := by unfold groupsI; omega
              have hwm : IntKind.i64.wrap (10 * groupsI ee.size) = 10 * groupsI ee.size := wrap_in (by omega) (by omega)
              clear hfacts hek0 hee0
              refine wp_region_held_drew (S := (fun w' => w'.cell? ⟨b, off, none⟩ = some (encStr key) ∧ w'.cell? ⟨w4.heap.size, 0, none⟩ = some (encStr ek) ∧ w'.cell? ⟨w4.heap.size, 1, none⟩ = some (.int .i64 ee.gen) ∧ w'.cell? ⟨w4.heap.size, 2, none⟩ = some (.int .i64 ee.size) ∧ w'.cell? ⟨w4.heap.size, 3, none⟩ = some (encStr ee.sum) ∧ w'.cell? ⟨w4.heap.size, 4, none⟩ = some (.slice EB ee.places.length ee.places.length))) (by kernel_rfl) ⟨x0, e0, e1, e2, e3, e4⟩ (fun hHeld => ?_)
              refine wpAnyH_take (i := 0) (v := ?vH01n10) (take_list rfl) (by kernel_rfl) (by kernel_rfl) (by kernel_rfl) (fun _ _ _ h => h) (Or.inl ⟨by rfl, ?hyH01n10⟩) (by assumption) ?restH01n10
              case hyH01n10 => (intro w hSw; (try dsimp only at hSw); go_simp <;> with_reducible rfl)
              try simp only [Act.put, List.setIfInBounds_toArray, List.set_cons_zero, List.set_cons_succ]
              refine wpAnyH_take (i := 1) (v := ?vH01n11) (take_list rfl) (by kernel_rfl) (by kernel_rfl) (by kernel_rfl) (fun _ _ _ h => h) (Or.inl ⟨by rfl, ?hyH01n11⟩) (by assumption) ?restH01n11
              case hyH01n11 => (intro w hSw; (try dsimp only at hSw); go_simp <;> with_reducible rfl)
              try simp only [Act.put, List.setIfInBounds_toArray, List.set_cons_zero, List.set_cons_succ]
              refine wpAnyH_take (i := 2) (v := ?vH01n12) (take_list rfl) (by kernel_rfl) (by kernel_rfl) (by kernel_rfl) (fun _ _ _ h => h) (Or.inl ⟨by rfl, ?hyH01n12⟩) (by assumption) ?restH01n12
              case hyH01n12 => (intro w hSw; (try dsimp only at hSw); go_simp <;> with_reducible rfl)
              try simp only [Act.put, List.setIfInBounds_toArray, List.set_cons_zero, List.set_cons_succ]
              refine wpAnyH_take (i := 3) (v := undef) (take_list rfl) (by kernel_rfl) (by kernel_rfl) (by kernel_rfl) (fun _ _ _ h => h) (Or.inr ⟨by rfl, rfl⟩) (by assumption) ?_
              try simp only [Act.put, List.setIfInBounds_toArray, List.set_cons_zero, List.set_cons_succ]
              refine wpAnyH_take (i := 4) (v := undef) (take_list rfl) (by kernel_rfl) (by kernel_rfl) (by kernel_rfl) (fun _ _ _ h => h) (Or.inr ⟨by rfl, rfl⟩) (by assumption) ?_
              try simp only [Act.put, List.setIfInBounds_toArray, List.set_cons_zero, List.set_cons_succ]
              refine wpAnyH_take (i := 5) (v := undef) (take_list rfl) (by kernel_rfl) (by kernel_rfl) (by kernel_rfl) (fun _ _ _ h => h) (Or.inr ⟨by rfl, rfl⟩) (by assumption) ?_
              try simp only [Act.put, List.setIfInBounds_toArray, List.set_cons_zero, List.set_cons_succ]
              refine wpAnyH_take (i := 6) (v := undef) (take_list rfl) (by kernel_rfl) (by kernel_rfl) (by kernel_rfl) (fun _ _ _ h => h) (Or.inr ⟨by rfl, rfl⟩) (by assumption) ?_
              try simp only [Act.put, List.setIfInBounds_toArray, List.set_cons_zero, List.set_cons_succ]
              refine wpAnyH_take (i := 7) (v := undef) (take_list rfl) (by kernel_rfl) (by kernel_rfl) (by kernel_rfl) (fun _ _ _ h => h) (Or.inr ⟨by rfl, rfl⟩) (by assumption) ?_
              try simp only [Act.put, List.setIfInBounds_toArray, List.set_cons_zero, List.set_cons_succ]
              refine wpAnyH_take (i := 8) (v := undef) (take_list rfl) (by kernel_rfl) (by kernel_rfl) (by kernel_rfl) (fun _ _ _ h => h) (Or.inr ⟨by rfl, rfl⟩) (by assumption) ?_
              try simp only [Act.put, List.setIfInBounds_toArray, List.set_cons_zero, List.set_cons_succ]
              refine wpAnyH_take (i := 9) (v := undef) (take_list rfl) (by kernel_rfl) (by kernel_rfl) (by kernel_rfl) (fun _ _ _ h => h) (Or.inr ⟨by rfl, rfl⟩) (by assumption) ?_
              try simp only [Act.put, List.setIfInBounds_toArray, List.set_cons_zero, List.set_cons_succ]
              refine wpAnyH_take (i := 10) (v := undef) (take_list rfl) (by kernel_rfl) (by kernel_rfl) (by kernel_rfl) (fun _ _ _ h => h) (Or.inr ⟨by rfl, rfl⟩) (by assumption) ?_
              try simp only [Act.put, List.setIfInBounds_toArray, List.set_cons_zero, List.set_cons_succ]
              refine wpAnyH_take (i := 11) (v := undef) (take_list rfl) (by kernel_rfl) (by kernel_rfl) (by kernel_rfl) (fun _ _ _ h => h) (Or.inr ⟨by rfl, rfl⟩) (by assumption) ?_
              try simp only [Act.put, List.setIfInBounds_toArray, List.set_cons_zero, List.set_cons_succ]
              refine wpAnyH_take (i := 12) (v := undef) (take_list rfl) (by kernel_rfl) (by kernel_rfl) (by kernel_rfl) (fun _ _ _ h => h) (Or.inr ⟨by rfl, rfl⟩) (by assumption) ?_
              try simp only [Act.put, List.setIfInBounds_toArray, List.set_cons_zero, List.set_cons_succ]
              refine wpAnyH_take (i := 13) (v := ?vH01n113) (take_list rfl) (by kernel_rfl) (by kernel_rfl) (by kernel_rfl) (fun _ _ _ h => h) (Or.inl ⟨by rfl, ?hyH01n113⟩) (by assumption) ?restH01n113
              case hyH01n113 => (intro w hSw; (try dsimp only at hSw); go_simp <;> with_reducible rfl)
              try simp only [Act.put, List.setIfInBounds_toArray, List.set_cons_zero, List.set_cons_succ]
              refine wpAnyH_take (i := 14) (v := ?vH01n114) (take_list rfl) (by kernel_rfl) (by kernel_rfl) (by kernel_rfl) (fun _ _ _ h => h) (Or.inl ⟨by rfl, ?hyH01n114⟩) (by assumption) ?restH01n114
              case hyH01n114 => (intro w hSw; (try dsimp only at hSw); go_simp <;> with_reducible rfl)
              try simp only [Act.put, List.setIfInBounds_toArray, List.set_cons_zero, List.set_cons_succ]
              refine wpAnyH_take (i := 15) (v := ?vH01n115) (take_list rfl) (by kernel_rfl) (by kernel_rfl) (by kernel_rfl) (fun _ _ _ h => h) (Or.inl ⟨by rfl, ?hyH01n115⟩) (by assumption) ?restH01n115
              case hyH01n115 => (intro w hSw; (try dsimp only at hSw); go_simp <;> with_reducible rfl)
              try simp only [Act.put, List.setIfInBounds_toArray, List.set_cons_zero, List.set_cons_succ]
              refine wpAnyH_take (i := 16) (v := ?vH01n116) (take_list rfl) (by kernel_rfl) (by kernel_rfl) (by kernel_rfl) (fun _ _ _ h => h) (Or.inl ⟨by rfl, ?hyH01n116⟩) (by assumption) ?restH01n116
              case hyH01n116 => (intro w hSw; (try dsimp only at hSw); go_simp <;> with_reducible rfl)
              try simp only [Act.put, List.setIfInBounds_toArray, List.set_cons_zero, List.set_cons_succ]
              refine wpAnyH_take (i := 17) (v := ?vH01n117) (take_list rfl) (by kernel_rfl) (by kernel_rfl) (by kernel_rfl) (fun _ _ _ h => h) (Or.inl ⟨by rfl, ?hyH01n117⟩) (by assumption) ?restH01n117
              case hyH01n117 => (intro w hSw; (try dsimp only at hSw); go_simp <;> with_reducible rfl)
              try simp only [Act.put, List.setIfInBounds_toArray, List.set_cons_zero, List.set_cons_succ]
              refine wpAnyH_take (i := 18) (v := ?vH01n118) (take_list rfl) (by kernel_rfl) (by kernel_rfl) (by kernel_rfl) (fun _ _ _ h => h) (Or.inl ⟨by rfl, ?hyH01n118⟩) (by assumption) ?restH01n118
              case hyH01n118 => (intro w hSw; (try dsimp only at hSw); go_simp <;> with_reducible rfl)
              try simp only [Act.put, List.setIfInBounds_toArray, List.set_cons_zero, List.set_cons_succ]
              refine wpAnyH_take (i := 19) (v := ?vH01n119) (take_list rfl) (by kernel_rfl) (by kernel_rfl) (by kernel_rfl) (fun _ _ _ h => h) (Or.inl ⟨by rfl, ?hyH01n119⟩) (by assumption) ?restH01n119
              case hyH01n119 => (intro w hSw; (try dsimp only at hSw); go_simp <;> with_reducible rfl)
              try simp only [Act.put, List.setIfInBounds_toArray, List.set_cons_zero, List.set_cons_succ]
              refine wpAnyH_take (i := 20) (v := ?vH01n120) (take_list rfl) (by kernel_rfl) (by kernel_rfl) (by kernel_rfl) (fun _ _ _ h => h) (Or.inl ⟨by rfl, ?hyH01n120⟩) (by assumption) ?restH01n120
              case hyH01n120 => (intro w hSw; (try dsimp only at hSw); go_simp <;> with_reducible rfl)
              try simp only [Act.put, List.setIfInBounds_toArray, List.set_cons_zero, List.set_cons_succ]
              refine wpAnyH_take (i := 21) (v := ?vH01n121) (take_list rfl) (by kernel_rfl) (by kernel_rfl) (by kernel_rfl) (fun _ _ _ h => h) (Or.inl ⟨by rfl, ?hyH01n121⟩) (by assumption) ?restH01n121
              case hyH01n121 => (intro w hSw; (try dsimp only at hSw); go_simp <;> with_reducible rfl)
              try simp only [Act.put, List.setIfInBounds_toArray, List.set_cons_zero, List.set_cons_succ]
              refine wpAnyH_take (i := 22) (v := ?vH01n122) (take_list rfl) (by kernel_rfl) (by kernel_rfl) (by kernel_rfl) (fun _ _ _ h => h) (Or.inl ⟨by rfl, ?hyH01n122⟩) (by assumption) ?restH01n122
              case hyH01n122 => (intro w hSw; (try dsimp only at hSw); go_simp <;> with_reducible rfl)
              try simp only [Act.put, List.setIfInBounds_toArray, List.set_cons_zero, List.set_cons_succ]
              refine wpAnyH_take (i := 23) (v := ?vH01n123) (take_list rfl) (by kernel_rfl) (by kernel_rfl) (by kernel_rfl) (fun _ _ _ h => h) (Or.inl ⟨by rfl, ?hyH01n123⟩) (by assumption) ?restH01n123
              case hyH01n123 => (intro w hSw; (try dsimp only at hSw); go_simp <;> with_reducible rfl)
              try simp only [Act.put, List.setIfInBounds_toArray, List.set_cons_zero, List.set_cons_succ]
              refine wpAnyH_take (i := 24) (v := ?vH01n124) (take_list rfl) (by kernel_rfl) (by kernel_rfl) (by kernel_rfl) (fun _ _ _ h => h) (Or.inl ⟨by rfl, ?hyH01n124⟩) (by assumption) ?restH01n124
              case hyH01n124 => (intro w hSw; (try dsimp only at hSw); go_simp <;> with_reducible rfl)
              try simp only [Act.put, List.setIfInBounds_toArray, List.set_cons_zero, List.set_cons_succ]
              refine wpAnyH_ready (rs := [25]) (by kernel_rfl) (by simp) ?_
              refine AllReadyH.cons rfl (fun K hK => ?_) AllReadyH.nil
              go_simp
              go_wp2_with (go_at_call 18; refine (cHas F p 60 C key _ CAd.out HKM.out).mono ?_; rw [HH.out]; rintro e w6 ⟨rfl, hb6⟩; have B6 := Lib.hid (show Below w5.heap.size w5 w6 from ⟨hb6.os, hb6.tape, hb6.output, hb6.size, hb6.block⟩); have CA6 := Lib.hid (CA5.out.below B6.out); clear hb6)
              clear hHeld
              refine hK.out _ _ ⟨(B6.out.cell (p := ⟨b, off, none⟩) hlb).trans x0, (B6.out.cell (p := ⟨w4.heap.size, 0, none⟩) hle).trans e0, (B6.out.cell (p := ⟨w4.heap.size, 1, none⟩) hle).trans e1, (B6.out.cell (p := ⟨w4.heap.size, 2, none⟩) hle).trans e2, (B6.out.cell (p := ⟨w4.heap.size, 3, none⟩) hle).trans e3, (B6.out.cell (p := ⟨w4.heap.size, 4, none⟩) hle).trans e4⟩ (fun hHeld => ?_)
              clear hK K
              refine wpAnyH_take (i := 26) (v := ?vH01n126) (take_list rfl) (by kernel_rfl) (by kernel_rfl) (by kernel_rfl) (fun _ _ _ h => h) (Or.inl ⟨by rfl, ?hyH01n126⟩) (by assumption) ?restH01n126
              case hyH01n126 => (intro w hSw; (try dsimp only at hSw); go_simp <;> with_reducible rfl)
              try simp only [Act.put, List.setIfInBounds_toArray, List.set_cons_zero, List.set_cons_succ]
              refine wpAnyH_take (i := 27) (v := ?vH01n127) (take_list rfl) (by kernel_rfl) (by kernel_rfl) (by kernel_rfl) (fun _ _ _ h => h) (Or.inl ⟨by rfl, ?hyH01n127⟩) (by assumption) ?restH01n127
              case hyH01n127 => (intro w hSw; (try dsimp only at hSw); go_simp <;> with_reducible rfl)
              try simp only [Act.put, List.setIfInBounds_toArray, List.set_cons_zero, List.set_cons_succ]
              refine wpAnyH_take (i := 28) (v := ?vH01n128) (take_list rfl) (by kernel_rfl) (by kernel_rfl) (by kernel_rfl) (fun _ _ _ h => h) (Or.inl ⟨by rfl, ?hyH01n128⟩) (by assumption) ?restH01n128
              case hyH01n128 => (intro w hSw; (try dsimp only at hSw); go_simp <;> with_reducible rfl)
              try simp only [Act.put, List.setIfInBounds_toArray, List.set_cons_zero, List.set_cons_succ]
              refine wpAnyH_take (i := 29) (v := ?vH01n129) (take_list rfl) (by kernel_rfl) (by kernel_rfl) (by kernel_rfl) (fun _ _ _ h => h) (Or.inl ⟨by rfl, ?hyH01n129⟩) (by assumption) ?restH01n129
              case hyH01n129 => (intro w hSw; (try dsimp only at hSw); go_simp <;> with_reducible rfl)
              try simp only [Act.put, List.setIfInBounds_toArray, List.set_cons_zero, List.set_cons_succ]
              refine wpAnyH_take (i := 30) (v := ?vH01n130) (take_list rfl) (by kernel_rfl) (by kernel_rfl) (by kernel_rfl) (fun _ _ _ h => h) (Or.inl ⟨by rfl, ?hyH01n130⟩) (by assumption) ?restH01n130
              case hyH01n130 => (intro w hSw; (try dsimp only at hSw); go_simp <;> with_reducible rfl)
              try simp only [Act.put, List.setIfInBounds_toArray, List.set_cons_zero, List.set_cons_succ]
              refine wpAnyH_take (i := 31) (v := ?vH01n131) (take_list rfl) (by kernel_rfl) (by kernel_rfl) (by kernel_rfl) (fun _ _ _ h => h) (Or.inl ⟨by rfl, ?hyH01n131⟩) (by assumption) ?restH01n131
              case hyH01n131 => (intro w hSw; (try dsimp only at hSw); go_simp <;> with_reducible rfl)
              try simp only [Act.put, List.setIfInBounds_toArray, List.set_cons_zero, List.set_cons_succ]
              refine wpAnyH_take (i := 32) (v := ?vH01n132) (take_list rfl) (by kernel_rfl) (by kernel_rfl) (by kernel_rfl) (fun _ _ _ h => h) (Or.inl ⟨by rfl, ?hyH01n132⟩) (by assumption) ?restH01n132
              case hyH01n132 => (intro w hSw; (try dsimp only at hSw); go_simp <;> with_reducible rfl)
              try simp only [Act.put, List.setIfInBounds_toArray, List.set_cons_zero, List.set_cons_succ]
              refine wpAnyH_take (i := 33) (v := ?vH01n133) (take_list rfl) (by kernel_rfl) (by kernel_rfl) (by kernel_rfl) (fun _ _ _ h => h) (Or.inl ⟨by rfl, ?hyH01n133⟩) (by assumption) ?restH01n133
              case hyH01n133 => (intro w hSw; (try dsimp only at hSw); go_simp <;> with_reducible rfl)
              try simp only [Act.put, List.setIfInBounds_toArray, List.set_cons_zero, List.set_cons_succ]
              refine wpAnyH_take (i := 34) (v := ?vH01n134) (take_list rfl) (by kernel_rfl) (by kernel_rfl) (by kernel_rfl) (fun _ _ _ h => h) (Or.inl ⟨by rfl, ?hyH01n134⟩) (by assumption) ?restH01n134
              case hyH01n134 => (intro w hSw; (try dsimp only at hSw); go_simp <;> with_reducible rfl)
              try simp only [Act.put, List.setIfInBounds_toArray, List.set_cons_zero, List.set_cons_succ]
              refine wpAnyH_take (i := 35) (v := ?vH01n135) (take_list rfl) (by kernel_rfl) (by kernel_rfl) (by kernel_rfl) (fun _ _ _ h => h) (Or.inl ⟨by rfl, ?hyH01n135⟩) (by assumption) ?restH01n135
              case hyH01n135 => (intro w hSw; (try dsimp only at hSw); go_simp <;> with_reducible rfl)
              try simp only [Act.put, List.setIfInBounds_toArray, List.set_cons_zero, List.set_cons_succ]
              refine wpAnyH_take (i := 36) (v := ?vH01n136) (take_list rfl) (by kernel_rfl) (by kernel_rfl) (by kernel_rfl) (fun _ _ _ h => h) (Or.inl ⟨by rfl, ?hyH01n136⟩) (by assumption) ?restH01n136
              case hyH01n136 => (intro w hSw; (try dsimp only at hSw); go_simp <;> with_reducible rfl)
              try simp only [Act.put, List.setIfInBounds_toArray, List.set_cons_zero, List.set_cons_succ]
              refine wpAnyH_take (i := 37) (v := ?vH01n137) (take_list rfl) (by kernel_rfl) (by kernel_rfl) (by kernel_rfl) (fun _ _ _ h => h) (Or.inl ⟨by rfl, ?hyH01n137⟩) (by assumption) ?restH01n137
              case hyH01n137 => (intro w hSw; (try dsimp only at hSw); go_simp <;> with_reducible rfl)
              try simp only [Act.put, List.setIfInBounds_toArray, List.set_cons_zero, List.set_cons_succ]
              refine wpAnyH_take (i := 38) (v := ?vH01n138) (take_list rfl) (by kernel_rfl) (by kernel_rfl) (by kernel_rfl) (fun _ _ _ h => h) (Or.inl ⟨by rfl, ?hyH01n138⟩) (by assumption) ?restH01n138
              case hyH01n138 => (intro w hSw; (try dsimp only at hSw); go_simp <;> with_reducible rfl)
              try simp only [Act.put, List.setIfInBounds_toArray, List.set_cons_zero, List.set_cons_succ]
              refine wpAnyH_take (i := 39) (v := ?vH01n139) (take_list rfl) (by kernel_rfl) (by kernel_rfl) (by kernel_rfl) (fun _ _ _ h => h) (Or.inl ⟨by rfl, ?hyH01n139⟩) (by assumption) ?restH01n139
              case hyH01n139 => (intro w hSw; (try dsimp only at hSw); go_simp <;> with_reducible rfl)
              try simp only [Act.put, List.setIfInBounds_toArray, List.set_cons_zero, List.set_cons_succ]
              refine wpAnyH_take (i := 40) (v := ?vH01n140) (take_list rfl) (by kernel_rfl) (by kernel_rfl) (by kernel_rfl) (fun _ _ _ h => h) (Or.inl ⟨by rfl, ?hyH01n140⟩) (by assumption) ?restH01n140
              case hyH01n140 => (intro w hSw; (try dsimp only at hSw); go_simp <;> with_reducible rfl)
              try simp only [Act.put, List.setIfInBounds_toArray, List.set_cons_zero, List.set_cons_succ]
              refine wpAnyH_take (i := 41) (v := ?vH01n141) (take_list rfl) (by kernel_rfl) (by kernel_rfl) (by kernel_rfl) (fun _ _ _ h => h) (Or.inl ⟨by rfl, ?hyH01n141⟩) (by assumption) ?restH01n141
              case hyH01n141 => (intro w hSw; (try dsimp only at hSw); go_simp <;> with_reducible rfl)
              try simp only [Act.put, List.setIfInBounds_toArray, List.set_cons_zero, List.set_cons_succ]
              refine wpAnyH_take (i := 42) (v := ?vH01n142) (take_list rfl) (by kernel_rfl) (by kernel_rfl) (by kernel_rfl) (fun _ _ _ h => h) (Or.inl ⟨by rfl, ?hyH01n142⟩) (by assumption) ?restH01n142
              case hyH01n142 => (intro w hSw; (try dsimp only at hSw); go_simp <;> with_reducible rfl)
              try simp only [Act.put, List.setIfInBounds_toArray, List.set_cons_zero, List.set_cons_succ]
              refine wpAnyH_take (i := 43) (v := ?vH01n143) (take_list rfl) (by kernel_rfl) (by kernel_rfl) (by kernel_rfl) (fun _ _ _ h => h) (Or.inl ⟨by rfl, ?hyH01n143⟩) (by assumption) ?restH01n143
              case hyH01n143 => (intro w hSw; (try dsimp only at hSw); go_simp <;> with_reducible rfl)
              try simp only [Act.put, List.setIfInBounds_toArray, List.set_cons_zero, List.set_cons_succ]
              refine wpAnyH_take (i := 44) (v := ?vH01n144) (take_list rfl) (by kernel_rfl) (by kernel_rfl) (by kernel_rfl) (fun _ _ _ h => h) (Or.inl ⟨by rfl, ?hyH01n144⟩) (by assumption) ?restH01n144
              case hyH01n144 => (intro w hSw; (try dsimp only at hSw); go_simp <;> with_reducible rfl)
              try simp only [Act.put, List.setIfInBounds_toArray, List.set_cons_zero, List.set_cons_succ]
              refine wpAnyH_take (i := 45) (v := ?vH01n145) (take_list rfl) (by kernel_rfl) (by kernel_rfl) (by kernel_rfl) (fun _ _ _ h => h) (Or.inl ⟨by rfl, ?hyH01n145⟩) (by assumption) ?restH01n145
              case hyH01n145 => (intro w hSw; (try dsimp only at hSw); go_simp <;> with_reducible rfl)
              try simp only [Act.put, List.setIfInBounds_toArray, List.set_cons_zero, List.set_cons_succ]
              refine wpAnyH_take (i := 46) (v := ?vH01n146) (take_list rfl) (by kernel_rfl) (by kernel_rfl) (by kernel_rfl) (fun _ _ _ h => h) (Or.inl ⟨by rfl, ?hyH01n146⟩) (by assumption) ?restH01n146
              case hyH01n146 => (intro w hSw; (try dsimp only at hSw); go_simp <;> with_reducible rfl)
              try simp only [Act.put, List.setIfInBounds_toArray, List.set_cons_zero, List.set_cons_succ]
              refine wpAnyH_ready (rs := [47]) (by kernel_rfl) (by simp) ?_
              refine AllReadyH.cons rfl (fun K hK => ?_) AllReadyH.nil
              go_simp
              go_wp2_with (go_at_call 19; refine (cGen F p 60 C _ CA6.out).mono ?_; rintro e w7 ⟨rfl, rfl⟩)
              refine hK.out _ _ hHeld (fun hHeld => ?_)
              clear hK K
              refine wpAnyH_take (i := 48) (v := ?vH01n148) (take_list rfl) (by kernel_rfl) (by kernel_rfl) (by kernel_rfl) (fun _ _ _ h => h) (Or.inl ⟨by rfl, ?hyH01n148⟩) (by assumption) ?restH01n148
              case hyH01n148 => (intro w hSw; (try dsimp only at hSw); go_simp <;> with_reducible rfl)
              try simp only [Act.put, List.setIfInBounds_toArray, List.set_cons_zero, List.set_cons_succ]
              refine wpAnyH_take (i := 49) (v := ?vH01n149) (take_list rfl) (by kernel_rfl) (by kernel_rfl) (by kernel_rfl) (fun _ _ _ h => h) (Or.inl ⟨by rfl, ?hyH01n149⟩) (by assumption) ?restH01n149
              case hyH01n149 => (intro w hSw; (try dsimp only at hSw); go_simp <;> with_reducible rfl)
              try simp only [Act.put, List.setIfInBounds_toArray, List.set_cons_zero, List.set_cons_succ]
              refine wpAnyH_take (i := 50) (v := ?vH01n150) (take_list rfl) (by kernel_rfl) (by kernel_rfl) (by kernel_rfl) (fun _ _ _ h => h) (Or.inl ⟨by rfl, ?hyH01n150⟩) (by assumption) ?restH01n150
              case hyH01n150 => (intro w hSw; (try dsimp only at hSw); go_simp <;> with_reducible rfl)
              try simp only [Act.put, List.setIfInBounds_toArray, List.set_cons_zero, List.set_cons_succ]
              refine wpAnyH_take (i := 51) (v := ?vH01n151) (take_list rfl) (by kernel_rfl) (by kernel_rfl) (by kernel_rfl) (fun _ _ _ h => h) (Or.inl ⟨by rfl, ?hyH01n151⟩) (by assumption) ?restH01n151
              case hyH01n151 => (intro w hSw; (try dsimp only at hSw); go_simp <;> with_reducible rfl)
              try simp only [Act.put, List.setIfInBounds_toArray, List.set_cons_zero, List.set_cons_succ]
              refine wpAnyH_take (i := 52) (v := ?vH01n152) (take_list rfl) (by kernel_rfl) (by kernel_rfl) (by kernel_rfl) (fun _ _ _ h => h) (Or.inl ⟨by rfl, ?hyH01n152⟩) (by assumption) ?restH01n152
              case hyH01n152 => (intro w hSw; (try dsimp only at hSw); go_simp <;> with_reducible rfl)
              try simp only [Act.put, List.setIfInBounds_toArray, List.set_cons_zero, List.set_cons_succ]
              refine wpAnyH_take (i := 53) (v := ?vH01n153) (take_list rfl) (by kernel_rfl) (by kernel_rfl) (by kernel_rfl) (fun _ _ _ h => h) (Or.inl ⟨by rfl, ?hyH01n153⟩) (by assumption) ?restH01n153
              case hyH01n153 => (intro w hSw; (try dsimp only at hSw); go_simp <;> with_reducible rfl)
              try simp only [Act.put, List.setIfInBounds_toArray, List.set_cons_zero, List.set_cons_succ]
              refine wpAnyH_take (i := 54) (v := ?vH01n154) (take_list rfl) (by kernel_rfl) (by kernel_rfl) (by kernel_rfl) (fun _ _ _ h => h) (Or.inl ⟨by rfl, ?hyH01n154⟩) (by assumption) ?restH01n154
              case hyH01n154 => (intro w hSw; (try dsimp only at hSw); go_simp <;> with_reducible rfl)
              try simp only [Act.put, List.setIfInBounds_toArray, List.set_cons_zero, List.set_cons_succ]
              refine wpAnyH_take (i := 55) (v := ?vH01n155) (take_list rfl) (by kernel_rfl) (by kernel_rfl) (by kernel_rfl) (fun _ _ _ h => h) (Or.inl ⟨by rfl, ?hyH01n155⟩) (by assumption) ?restH01n155
              case hyH01n155 => (intro w hSw; (try dsimp only at hSw); go_simp <;> with_reducible rfl)
              try simp only [Act.put, List.setIfInBounds_toArray, List.set_cons_zero, List.set_cons_succ]
              refine wpAnyH_ready (rs := [56]) (by kernel_rfl) (by simp) ?_
              refine AllReadyH.cons rfl (fun K hK => ?_) AllReadyH.nil
              go_simp
              go_wp2_with (go_at_call 20; refine (cGroups13 ee.size _ hs0 hs1).mono ?_; rintro e w7 ⟨rfl, rfl⟩)
              refine hK.out _ _ hHeld (fun hHeld => ?_)
              clear hK K
              refine wpAnyH_take (i := 57) (v := ?vH01n157) (take_list rfl) (by kernel_rfl) (by kernel_rfl) (by kernel_rfl) (fun _ _ _ h => h) (Or.inl ⟨by rfl, ?hyH01n157⟩) (by assumption) ?restH01n157
              case hyH01n157 => (intro w hSw; (try dsimp only at hSw); go_simp <;> with_reducible rfl)
              try simp only [Act.put, List.setIfInBounds_toArray, List.set_cons_zero, List.set_cons_succ]
              refine wpAnyH_take (i := 58) (v := ?vH01n158) (take_list rfl) (by kernel_rfl) (by kernel_rfl) (by kernel_rfl) (fun _ _ _ h => h) (Or.inl ⟨by rfl, ?hyH01n158⟩) (by assumption) ?restH01n158
              case hyH01n158 => (intro w hSw; (try dsimp only at hSw); go_simp <;> with_reducible rfl)
              try simp only [Act.put, List.setIfInBounds_toArray, List.set_cons_zero, List.set_cons_succ]
              refine wpAnyH_take (i := 59) (v := ?vH01n159) (take_list rfl) (by kernel_rfl) (by kernel_rfl) (by kernel_rfl) (fun _ _ _ h => h) (Or.inl ⟨by rfl, ?hyH01n159⟩) (by assumption) ?restH01n159
              case hyH01n159 => (intro w hSw; (try dsimp only at hSw); go_simp <;> with_reducible rfl)
              try simp only [Act.put, List.setIfInBounds_toArray, List.set_cons_zero, List.set_cons_succ]
              refine wpAnyH_take (i := 60) (v := ?vH01n160) (take_list rfl) (by kernel_rfl) (by kernel_rfl) (by kernel_rfl) (fun _ _ _ h => h) (Or.inl ⟨by rfl, ?hyH01n160⟩) (by assumption) ?restH01n160
              case hyH01n160 => (intro w hSw; (try dsimp only at hSw); go_simp <;> with_reducible rfl)
              try simp only [Act.put, List.setIfInBounds_toArray, List.set_cons_zero, List.set_cons_succ]
              refine wpAnyH_take (i := 61) (v := ?vH01n161) (take_list rfl) (by kernel_rfl) (by kernel_rfl) (by kernel_rfl) (fun _ _ _ h => h) (Or.inl ⟨by rfl, ?hyH01n161⟩) (by assumption) ?restH01n161
              case hyH01n161 => (intro w hSw; (try dsimp only at hSw); go_simp <;> with_reducible rfl)
              try simp only [Act.put, List.setIfInBounds_toArray, List.set_cons_zero, List.set_cons_succ]
              refine wpAnyH_done (by kernel_rfl) ?_ _
              go_wp2_with fail
              go_roundw
              case rel => exact ⟨0 + 1, by go_num, hlt, by rw [HT.out]; go_num, BL5.out.trans (B6.out.mono hz5), BS5.out.trans (B6.out.mono hs5)⟩
              case measure => simp [intOf]; omega
        | false =>
              simp only [Bool.not_false]
              clear hek0 hee0
              refine wp_region_held_drew (S := (fun w' => w'.cell? ⟨b, off, none⟩ = some (encStr key) ∧ w'.cell? ⟨w4.heap.size, 0, none⟩ = some (encStr ek) ∧ w'.cell? ⟨w4.heap.size, 1, none⟩ = some (.int .i64 ee.gen) ∧ w'.cell? ⟨w4.heap.size, 2, none⟩ = some (.int .i64 ee.size) ∧ w'.cell? ⟨w4.heap.size, 3, none⟩ = some (encStr ee.sum) ∧ w'.cell? ⟨w4.heap.size, 4, none⟩ = some (.slice EB ee.places.length ee.places.length))) (by kernel_rfl) ⟨x0, e0, e1, e2, e3, e4⟩ (fun hHeld => ?_)
              refine wpAnyH_take (i := 0) (v := ?vH00n20) (take_list rfl) (by kernel_rfl) (by kernel_rfl) (by kernel_rfl) (fun _ _ _ h => h) (Or.inl ⟨by rfl, ?hyH00n20⟩) (by assumption) ?restH00n20
              case hyH00n20 => (intro w hSw; (try dsimp only at hSw); go_simp <;> with_reducible rfl)
              try simp only [Act.put, List.setIfInBounds_toArray, List.set_cons_zero, List.set_cons_succ]
              refine wpAnyH_take (i := 1) (v := ?vH00n21) (take_list rfl) (by kernel_rfl) (by kernel_rfl) (by kernel_rfl) (fun _ _ _ h => h) (Or.inl ⟨by rfl, ?hyH00n21⟩) (by assumption) ?restH00n21
              case hyH00n21 => (intro w hSw; (try dsimp only at hSw); go_simp <;> with_reducible rfl)
              try simp only [Act.put, List.setIfInBounds_toArray, List.set_cons_zero, List.set_cons_succ]
              refine wpAnyH_take (i := 2) (v := ?vH00n22) (take_list rfl) (by kernel_rfl) (by kernel_rfl) (by kernel_rfl) (fun _ _ _ h => h) (Or.inl ⟨by rfl, ?hyH00n22⟩) (by assumption) ?restH00n22
              case hyH00n22 => (intro w hSw; (try dsimp only at hSw); go_simp <;> with_reducible rfl)
              try simp only [Act.put, List.setIfInBounds_toArray, List.set_cons_zero, List.set_cons_succ]
              refine wpAnyH_take (i := 3) (v := undef) (take_list rfl) (by kernel_rfl) (by kernel_rfl) (by kernel_rfl) (fun _ _ _ h => h) (Or.inr ⟨by rfl, rfl⟩) (by assumption) ?_
              try simp only [Act.put, List.setIfInBounds_toArray, List.set_cons_zero, List.set_cons_succ]
              refine wpAnyH_take (i := 4) (v := undef) (take_list rfl) (by kernel_rfl) (by kernel_rfl) (by kernel_rfl) (fun _ _ _ h => h) (Or.inr ⟨by rfl, rfl⟩) (by assumption) ?_
              try simp only [Act.put, List.setIfInBounds_toArray, List.set_cons_zero, List.set_cons_succ]
              refine wpAnyH_take (i := 5) (v := undef) (take_list rfl) (by kernel_rfl) (by kernel_rfl) (by kernel_rfl) (fun _ _ _ h => h) (Or.inr ⟨by rfl, rfl⟩) (by assumption) ?_
              try simp only [Act.put, List.setIfInBounds_toArray, List.set_cons_zero, List.set_cons_succ]
              refine wpAnyH_take (i := 6) (v := undef) (take_list rfl) (by kernel_rfl) (by kernel_rfl) (by kernel_rfl) (fun _ _ _ h => h) (Or.inr ⟨by rfl, rfl⟩) (by assumption) ?_
              try simp only [Act.put, List.setIfInBounds_toArray, List.set_cons_zero, List.set_cons_succ]
              refine wpAnyH_take (i := 7) (v := undef) (take_list rfl) (by kernel_rfl) (by kernel_rfl) (by kernel_rfl) (fun _ _ _ h => h) (Or.inr ⟨by rfl, rfl⟩) (by assumption) ?_
              try simp only [Act.put, List.setIfInBounds_toArray, List.set_cons_zero, List.set_cons_succ]
              refine wpAnyH_take (i := 8) (v := undef) (take_list rfl) (by kernel_rfl) (by kernel_rfl) (by kernel_rfl) (fun _ _ _ h => h) (Or.inr ⟨by rfl, rfl⟩) (by assumption) ?_
              try simp only [Act.put, List.setIfInBounds_toArray, List.set_cons_zero, List.set_cons_succ]
              refine wpAnyH_take (i := 9) (v := undef) (take_list rfl) (by kernel_rfl) (by kernel_rfl) (by kernel_rfl) (fun _ _ _ h => h) (Or.inr ⟨by rfl, rfl⟩) (by assumption) ?_
              try simp only [Act.put, List.setIfInBounds_toArray, List.set_cons_zero, List.set_cons_succ]
              refine wpAnyH_take (i := 10) (v := undef) (take_list rfl) (by kernel_rfl) (by kernel_rfl) (by kernel_rfl) (fun _ _ _ h => h) (Or.inr ⟨by rfl, rfl⟩) (by assumption) ?_
              try simp only [Act.put, List.setIfInBounds_toArray, List.set_cons_zero, List.set_cons_succ]
              refine wpAnyH_take (i := 11) (v := undef) (take_list rfl) (by kernel_rfl) (by kernel_rfl) (by kernel_rfl) (fun _ _ _ h => h) (Or.inr ⟨by rfl, rfl⟩) (by assumption) ?_
              try simp only [Act.put, List.setIfInBounds_toArray, List.set_cons_zero, List.set_cons_succ]
              refine wpAnyH_take (i := 12) (v := undef) (take_list rfl) (by kernel_rfl) (by kernel_rfl) (by kernel_rfl) (fun _ _ _ h => h) (Or.inr ⟨by rfl, rfl⟩) (by assumption) ?_
              try simp only [Act.put, List.setIfInBounds_toArray, List.set_cons_zero, List.set_cons_succ]
              refine wpAnyH_take (i := 13) (v := ?vH00n213) (take_list rfl) (by kernel_rfl) (by kernel_rfl) (by kernel_rfl) (fun _ _ _ h => h) (Or.inl ⟨by rfl, ?hyH00n213⟩) (by assumption) ?restH00n213
              case hyH00n213 => (intro w hSw; (try dsimp only at hSw); go_simp <;> with_reducible rfl)
              try simp only [Act.put, List.setIfInBounds_toArray, List.set_cons_zero, List.set_cons_succ]
              refine wpAnyH_take (i := 14) (v := ?vH00n214) (take_list rfl) (by kernel_rfl) (by kernel_rfl) (by kernel_rfl) (fun _ _ _ h => h) (Or.inl ⟨by rfl, ?hyH00n214⟩) (by assumption) ?restH00n214
              case hyH00n214 => (intro w hSw; (try dsimp only at hSw); go_simp <;> with_reducible rfl)
              try simp only [Act.put, List.setIfInBounds_toArray, List.set_cons_zero, List.set_cons_succ]
              refine wpAnyH_take (i := 15) (v := ?vH00n215) (take_list rfl) (by kernel_rfl) (by kernel_rfl) (by kernel_rfl) (fun _ _ _ h => h) (Or.inl ⟨by rfl, ?hyH00n215⟩) (by assumption) ?restH00n215
              case hyH00n215 => (intro w hSw; (try dsimp only at hSw); go_simp <;> with_reducible rfl)
              try simp only [Act.put, List.setIfInBounds_toArray, List.set_cons_zero, List.set_cons_succ]
              refine wpAnyH_take (i := 16) (v := ?vH00n216) (take_list rfl) (by kernel_rfl) (by kernel_rfl) (by kernel_rfl) (fun _ _ _ h => h) (Or.inl ⟨by rfl, ?hyH00n216⟩) (by assumption) ?restH00n216
              case hyH00n216 => (intro w hSw; (try dsimp only at hSw); go_simp <;> with_reducible rfl)
              try simp only [Act.put, List.setIfInBounds_toArray, List.set_cons_zero, List.set_cons_succ]
              refine wpAnyH_take (i := 17) (v := ?vH00n217) (take_list rfl) (by kernel_rfl) (by kernel_rfl) (by kernel_rfl) (fun _ _ _ h => h) (Or.inl ⟨by rfl, ?hyH00n217⟩) (by assumption) ?restH00n217
              case hyH00n217 => (intro w hSw; (try dsimp only at hSw); go_simp <;> with_reducible rfl)
              try simp only [Act.put, List.setIfInBounds_toArray, List.set_cons_zero, List.set_cons_succ]
              refine wpAnyH_take (i := 18) (v := ?vH00n218) (take_list rfl) (by kernel_rfl) (by kernel_rfl) (by kernel_rfl) (fun _ _ _ h => h) (Or.inl ⟨by rfl, ?hyH00n218⟩) (by assumption) ?restH00n218
              case hyH00n218 => (intro w hSw; (try dsimp only at hSw); go_simp <;> with_reducible rfl)
              try simp only [Act.put, List.setIfInBounds_toArray, List.set_cons_zero, List.set_cons_succ]
              refine wpAnyH_take (i := 19) (v := ?vH00n219) (take_list rfl) (by kernel_rfl) (by kernel_rfl) (by kernel_rfl) (fun _ _ _ h => h) (Or.inl ⟨by rfl, ?hyH00n219⟩) (by assumption) ?restH00n219
              case hyH00n219 => (intro w hSw; (try dsimp only at hSw); go_simp <;> with_reducible rfl)
              try simp only [Act.put, List.setIfInBounds_toArray, List.set_cons_zero, List.set_cons_succ]
              refine wpAnyH_take (i := 20) (v := ?vH00n220) (take_list rfl) (by kernel_rfl) (by kernel_rfl) (by kernel_rfl) (fun _ _ _ h => h) (Or.inl ⟨by rfl, ?hyH00n220⟩) (by assumption) ?restH00n220
              case hyH00n220 => (intro w hSw; (try dsimp only at hSw); go_simp <;> with_reducible rfl)
              try simp only [Act.put, List.setIfInBounds_toArray, List.set_cons_zero, List.set_cons_succ]
              refine wpAnyH_take (i := 21) (v := ?vH00n221) (take_list rfl) (by kernel_rfl) (by kernel_rfl) (by kernel_rfl) (fun _ _ _ h => h) (Or.inl ⟨by rfl, ?hyH00n221⟩) (by assumption) ?restH00n221
              case hyH00n221 => (intro w hSw; (try dsimp only at hSw); go_simp <;> with_reducible rfl)
              try simp only [Act.put, List.setIfInBounds_toArray, List.set_cons_zero, List.set_cons_succ]
              refine wpAnyH_take (i := 22) (v := ?vH00n222) (take_list rfl) (by kernel_rfl) (by kernel_rfl) (by kernel_rfl) (fun _ _ _ h => h) (Or.inl ⟨by rfl, ?hyH00n222⟩) (by assumption) ?restH00n222
              case hyH00n222 => (intro w hSw; (try dsimp only at hSw); go_simp <;> with_reducible rfl)
              try simp only [Act.put, List.setIfInBounds_toArray, List.set_cons_zero, List.set_cons_succ]
              refine wpAnyH_take (i := 23) (v := ?vH00n223) (take_list rfl) (by kernel_rfl) (by kernel_rfl) (by kernel_rfl) (fun _ _ _ h => h) (Or.inl ⟨by rfl, ?hyH00n223⟩) (by assumption) ?restH00n223
              case hyH00n223 => (intro w hSw; (try dsimp only at hSw); go_simp <;> with_reducible rfl)
              try simp only [Act.put, List.setIfInBounds_toArray, List.set_cons_zero, List.set_cons_succ]
              refine wpAnyH_take (i := 24) (v := ?vH00n224) (take_list rfl) (by kernel_rfl) (by kernel_rfl) (by kernel_rfl) (fun _ _ _ h => h) (Or.inl ⟨by rfl, ?hyH00n224⟩) (by assumption) ?restH00n224
              case hyH00n224 => (intro w hSw; (try dsimp only at hSw); go_simp <;> with_reducible rfl)
              try simp only [Act.put, List.setIfInBounds_toArray, List.set_cons_zero, List.set_cons_succ]
              refine wpAnyH_ready (rs := [25]) (by kernel_rfl) (by simp) ?_
              refine AllReadyH.cons rfl (fun K hK => ?_) AllReadyH.nil
              go_simp
              go_wp2_with (go_at_call 18; refine (cHas F p 60 C key _ CAd.out HKM.out).mono ?_; rw [HH.out]; rintro e w6 ⟨rfl, hb6⟩; have B6 := Lib.hid (show Below w5.heap.size w5 w6 from ⟨hb6.os, hb6.tape, hb6.output, hb6.size, hb6.block⟩); have CA6 := Lib.hid (CA5.out.below B6.out); clear hb6)
              clear hHeld
              refine hK.out _ _ ⟨(B6.out.cell (p := ⟨b, off, none⟩) hlb).trans x0, (B6.out.cell (p := ⟨w4.heap.size, 0, none⟩) hle).trans e0, (B6.out.cell (p := ⟨w4.heap.size, 1, none⟩) hle).trans e1, (B6.out.cell (p := ⟨w4.heap.size, 2, none⟩) hle).trans e2, (B6.out.cell (p := ⟨w4.heap.size, 3, none⟩) hle).trans e3, (B6.out.cell (p := ⟨w4.heap.size, 4, none⟩) hle).trans e4⟩ (fun hHeld => ?_)
              clear hK K
              refine wpAnyH_take (i := 26) (v := ?vH00n226) (take_list rfl) (by kernel_rfl) (by kernel_rfl) (by kernel_rfl) (fun _ _ _ h => h) (Or.inl ⟨by rfl, ?hyH00n226⟩) (by assumption) ?restH00n226
              case hyH00n226 => (intro w hSw; (try dsimp only at hSw); go_simp <;> with_reducible rfl)
              try simp only [Act.put, List.setIfInBounds_toArray, List.set_cons_zero, List.set_cons_succ]
              refine wpAnyH_take (i := 27) (v := ?vH00n227) (take_list rfl) (by kernel_rfl) (by kernel_rfl) (by kernel_rfl) (fun _ _ _ h => h) (Or.inl ⟨by rfl, ?hyH00n227⟩) (by assumption) ?restH00n227
              case hyH00n227 => (intro w hSw; (try dsimp only at hSw); go_simp <;> with_reducible rfl)
              try simp only [Act.put, List.setIfInBounds_toArray, List.set_cons_zero, List.set_cons_succ]
              refine wpAnyH_take (i := 28) (v := ?vH00n228) (take_list rfl) (by kernel_rfl) (by kernel_rfl) (by kernel_rfl) (fun _ _ _ h => h) (Or.inl ⟨by rfl, ?hyH00n228⟩) (by assumption) ?restH00n228
              case hyH00n228 => (intro w hSw; (try dsimp only at hSw); go_simp <;> with_reducible rfl)
              try simp only [Act.put, List.setIfInBounds_toArray, List.set_cons_zero, List.set_cons_succ]
              refine wpAnyH_take (i := 29) (v := ?vH00n229) (take_list rfl) (by kernel_rfl) (by kernel_rfl) (by kernel_rfl) (fun _ _ _ h => h) (Or.inl ⟨by rfl, ?hyH00n229⟩) (by assumption) ?restH00n229
              case hyH00n229 => (intro w hSw; (try dsimp only at hSw); go_simp <;> with_reducible rfl)
              try simp only [Act.put, List.setIfInBounds_toArray, List.set_cons_zero, List.set_cons_succ]
              refine wpAnyH_take (i := 30) (v := ?vH00n230) (take_list rfl) (by kernel_rfl) (by kernel_rfl) (by kernel_rfl) (fun _ _ _ h => h) (Or.inl ⟨by rfl, ?hyH00n230⟩) (by assumption) ?restH00n230
              case hyH00n230 => (intro w hSw; (try dsimp only at hSw); go_simp <;> with_reducible rfl)
              try simp only [Act.put, List.setIfInBounds_toArray, List.set_cons_zero, List.set_cons_succ]
              refine wpAnyH_take (i := 31) (v := undef) (take_list rfl) (by kernel_rfl) (by kernel_rfl) (by kernel_rfl) (fun _ _ _ h => h) (Or.inr ⟨by rfl, rfl⟩) (by assumption) ?_
              try simp only [Act.put, List.setIfInBounds_toArray, List.set_cons_zero, List.set_cons_succ]
              refine wpAnyH_take (i := 32) (v := undef) (take_list rfl) (by kernel_rfl) (by kernel_rfl) (by kernel_rfl) (fun _ _ _ h => h) (Or.inr ⟨by rfl, rfl⟩) (by assumption) ?_
              try simp only [Act.put, List.setIfInBounds_toArray, List.set_cons_zero, List.set_cons_succ]
              refine wpAnyH_take (i := 33) (v := undef) (take_list rfl) (by kernel_rfl) (by kernel_rfl) (by kernel_rfl) (fun _ _ _ h => h) (Or.inr ⟨by rfl, rfl⟩) (by assumption) ?_
              try simp only [Act.put, List.setIfInBounds_toArray, List.set_cons_zero, List.set_cons_succ]
              refine wpAnyH_take (i := 34) (v := undef) (take_list rfl) (by kernel_rfl) (by kernel_rfl) (by kernel_rfl) (fun _ _ _ h => h) (Or.inr ⟨by rfl, rfl⟩) (by assumption) ?_
              try simp only [Act.put, List.setIfInBounds_toArray, List.set_cons_zero, List.set_cons_succ]
              refine wpAnyH_take (i := 35) (v := undef) (take_list rfl) (by kernel_rfl) (by kernel_rfl) (by kernel_rfl) (fun _ _ _ h => h) (Or.inr ⟨by rfl, rfl⟩) (by assumption) ?_
              try simp only [Act.put, List.setIfInBounds_toArray, List.set_cons_zero, List.set_cons_succ]
              refine wpAnyH_take (i := 36) (v := undef) (take_list rfl) (by kernel_rfl) (by kernel_rfl) (by kernel_rfl) (fun _ _ _ h => h) (Or.inr ⟨by rfl, rfl⟩) (by assumption) ?_
              try simp only [Act.put, List.setIfInBounds_toArray, List.set_cons_zero, List.set_cons_succ]
              refine wpAnyH_take (i := 37) (v := undef) (take_list rfl) (by kernel_rfl) (by kernel_rfl) (by kernel_rfl) (fun _ _ _ h => h) (Or.inr ⟨by rfl, rfl⟩) (by assumption) ?_
              try simp only [Act.put, List.setIfInBounds_toArray, List.set_cons_zero, List.set_cons_succ]
              refine wpAnyH_take (i := 38) (v := undef) (take_list rfl) (by kernel_rfl) (by kernel_rfl) (by kernel_rfl) (fun _ _ _ h => h) (Or.inr ⟨by rfl, rfl⟩) (by assumption) ?_
              try simp only [Act.put, List.setIfInBounds_toArray, List.set_cons_zero, List.set_cons_succ]
              refine wpAnyH_take (i := 39) (v := undef) (take_list rfl) (by kernel_rfl) (by kernel_rfl) (by kernel_rfl) (fun _ _ _ h => h) (Or.inr ⟨by rfl, rfl⟩) (by assumption) ?_
              try simp only [Act.put, List.setIfInBounds_toArray, List.set_cons_zero, List.set_cons_succ]
              refine wpAnyH_take (i := 40) (v := undef) (take_list rfl) (by kernel_rfl) (by kernel_rfl) (by kernel_rfl) (fun _ _ _ h => h) (Or.inr ⟨by rfl, rfl⟩) (by assumption) ?_
              try simp only [Act.put, List.setIfInBounds_toArray, List.set_cons_zero, List.set_cons_succ]
              refine wpAnyH_take (i := 41) (v := undef) (take_list rfl) (by kernel_rfl) (by kernel_rfl) (by kernel_rfl) (fun _ _ _ h => h) (Or.inr ⟨by rfl, rfl⟩) (by assumption) ?_
              try simp only [Act.put, List.setIfInBounds_toArray, List.set_cons_zero, List.set_cons_succ]
              refine wpAnyH_take (i := 42) (v := undef) (take_list rfl) (by kernel_rfl) (by kernel_rfl) (by kernel_rfl) (fun _ _ _ h => h) (Or.inr ⟨by rfl, rfl⟩) (by assumption) ?_
              try simp only [Act.put, List.setIfInBounds_toArray, List.set_cons_zero, List.set_cons_succ]
              refine wpAnyH_take (i := 43) (v := undef) (take_list rfl) (by kernel_rfl) (by kernel_rfl) (by kernel_rfl) (fun _ _ _ h => h) (Or.inr ⟨by rfl, rfl⟩) (by assumption) ?_
              try simp only [Act.put, List.setIfInBounds_toArray, List.set_cons_zero, List.set_cons_succ]
              refine wpAnyH_take (i := 44) (v := undef) (take_list rfl) (by kernel_rfl) (by kernel_rfl) (by kernel_rfl) (fun _ _ _ h => h) (Or.inr ⟨by rfl, rfl⟩) (by assumption) ?_
              try simp only [Act.put, List.setIfInBounds_toArray, List.set_cons_zero, List.set_cons_succ]
              refine wpAnyH_take (i := 45) (v := undef) (take_list rfl) (by kernel_rfl) (by kernel_rfl) (by kernel_rfl) (fun _ _ _ h => h) (Or.inr ⟨by rfl, rfl⟩) (by assumption) ?_
              try simp only [Act.put, List.setIfInBounds_toArray, List.set_cons_zero, List.set_cons_succ]
              refine wpAnyH_take (i := 46) (v := undef) (take_list rfl) (by kernel_rfl) (by kernel_rfl) (by kernel_rfl) (fun _ _ _ h => h) (Or.inr ⟨by rfl, rfl⟩) (by assumption) ?_
              try simp only [Act.put, List.setIfInBounds_toArray, List.set_cons_zero, List.set_cons_succ]
              refine wpAnyH_take (i := 47) (v := undef) (take_list rfl) (by kernel_rfl) (by kernel_rfl) (by kernel_rfl) (fun _ _ _ h => h) (Or.inr ⟨by rfl, rfl⟩) (by assumption) ?_
              try simp only [Act.put, List.setIfInBounds_toArray, List.set_cons_zero, List.set_cons_succ]
              refine wpAnyH_take (i := 48) (v := undef) (take_list rfl) (by kernel_rfl) (by kernel_rfl) (by kernel_rfl) (fun _ _ _ h => h) (Or.inr ⟨by rfl, rfl⟩) (by assumption) ?_
              try simp only [Act.put, List.setIfInBounds_toArray, List.set_cons_zero, List.set_cons_succ]
              refine wpAnyH_take (i := 49) (v := undef) (take_list rfl) (by kernel_rfl) (by kernel_rfl) (by kernel_rfl) (fun _ _ _ h => h) (Or.inr ⟨by rfl, rfl⟩) (by assumption) ?_
              try simp only [Act.put, List.setIfInBounds_toArray, List.set_cons_zero, List.set_cons_succ]
              refine wpAnyH_take (i := 50) (v := undef) (take_list rfl) (by kernel_rfl) (by kernel_rfl) (by kernel_rfl) (fun _ _ _ h => h) (Or.inr ⟨by rfl, rfl⟩) (by assumption) ?_
              try simp only [Act.put, List.setIfInBounds_toArray, List.set_cons_zero, List.set_cons_succ]
              refine wpAnyH_take (i := 51) (v := undef) (take_list rfl) (by kernel_rfl) (by kernel_rfl) (by kernel_rfl) (fun _ _ _ h => h) (Or.inr ⟨by rfl, rfl⟩) (by assumption) ?_
              try simp only [Act.put, List.setIfInBounds_toArray, List.set_cons_zero, List.set_cons_succ]
              refine wpAnyH_take (i := 52) (v := undef) (take_list rfl) (by kernel_rfl) (by kernel_rfl) (by kernel_rfl) (fun _ _ _ h => h) (Or.inr ⟨by rfl, rfl⟩) (by assumption) ?_
              try simp only [Act.put, List.setIfInBounds_toArray, List.set_cons_zero, List.set_cons_succ]
              refine wpAnyH_take (i := 53) (v := undef) (take_list rfl) (by kernel_rfl) (by kernel_rfl) (by kernel_rfl) (fun _ _ _ h => h) (Or.inr ⟨by rfl, rfl⟩) (by assumption) ?_
              try simp only [Act.put, List.setIfInBounds_toArray, List.set_cons_zero, List.set_cons_succ]
              refine wpAnyH_take (i := 54) (v := undef) (take_list rfl) (by kernel_rfl) (by kernel_rfl) (by kernel_rfl) (fun _ _ _ h => h) (Or.inr ⟨by rfl, rfl⟩) (by assumption) ?_
              try simp only [Act.put, List.setIfInBounds_toArray, List.set_cons_zero, List.set_cons_succ]
              refine wpAnyH_take (i := 55) (v := undef) (take_list rfl) (by kernel_rfl) (by kernel_rfl) (by kernel_rfl) (fun _ _ _ h => h) (Or.inr ⟨by rfl, rfl⟩) (by assumption) ?_
              try simp only [Act.put, List.setIfInBounds_toArray, List.set_cons_zero, List.set_cons_succ]
              refine wpAnyH_take (i := 56) (v := undef) (take_list rfl) (by kernel_rfl) (by kernel_rfl) (by kernel_rfl) (fun _ _ _ h => h) (Or.inr ⟨by rfl, rfl⟩) (by assumption) ?_
              try simp only [Act.put, List.setIfInBounds_toArray, List.set_cons_zero, List.set_cons_succ]
              refine wpAnyH_take (i := 57) (v := undef) (take_list rfl) (by kernel_rfl) (by kernel_rfl) (by kernel_rfl) (fun _ _ _ h => h) (Or.inr ⟨by rfl, rfl⟩) (by assumption) ?_
              try simp only [Act.put, List.setIfInBounds_toArray, List.set_cons_zero, List.set_cons_succ]
              refine wpAnyH_take (i := 58) (v := undef) (take_list rfl) (by kernel_rfl) (by kernel_rfl) (by kernel_rfl) (fun _ _ _ h => h) (Or.inr ⟨by rfl, rfl⟩) (by assumption) ?_
              try simp only [Act.put, List.setIfInBounds_toArray, List.set_cons_zero, List.set_cons_succ]
              refine wpAnyH_take (i := 59) (v := undef) (take_list rfl) (by kernel_rfl) (by kernel_rfl) (by kernel_rfl) (fun _ _ _ h => h) (Or.inr ⟨by rfl, rfl⟩) (by assumption) ?_
              try simp only [Act.put, List.setIfInBounds_toArray, List.set_cons_zero, List.set_cons_succ]
              refine wpAnyH_take (i := 60) (v := ?vH00n260) (take_list rfl) (by kernel_rfl) (by kernel_rfl) (by kernel_rfl) (fun _ _ _ h => h) (Or.inl ⟨by rfl, ?hyH00n260⟩) (by assumption) ?restH00n260
              case hyH00n260 => (intro w hSw; (try dsimp only at hSw); go_simp <;> with_reducible rfl)
              try simp only [Act.put, List.setIfInBounds_toArray, List.set_cons_zero, List.set_cons_succ]
              refine wpAnyH_take (i := 61) (v := ?vH00n261) (take_list rfl) (by kernel_rfl) (by kernel_rfl) (by kernel_rfl) (fun _ _ _ h => h) (Or.inl ⟨by rfl, ?hyH00n261⟩) (by assumption) ?restH00n261
              case hyH00n261 => (intro w hSw; (try dsimp only at hSw); go_simp <;> with_reducible rfl)
              try simp only [Act.put, List.setIfInBounds_toArray, List.set_cons_zero, List.set_cons_succ]
              refine wpAnyH_done (by kernel_rfl) ?_ _
              go_wp2_with fail
              go_roundw
              case rel => exact ⟨0 + 1, by go_num, hlt, by rw [HT.out]; go_num, BL5.out.trans (B6.out.mono hz5), BS5.out.trans (B6.out.mono hs5)⟩
              case measure => simp [intOf]; omega
      | succ j =>
        obtain ⟨key, hk⟩ : ∃ x, (keysC C)[(j + 1)]? = some x := ⟨_, List.getElem?_eq_getElem (by rw [K4.out.len]; exact hlt)⟩
        obtain ⟨b, off, rfl, hc⟩ : ∃ b off, KA = some ⟨b, off, none⟩ ∧ ∀ j u, (strVals (keysC C))[j]? = some u → wr.cell? ⟨b, off + j, none⟩ = some u := by
          rcases K4.out.row.below hbs with ⟨h0, _⟩ | ⟨b, off, h1, h2⟩
          · omega
          · exact ⟨b, off, h1, h2⟩
        have x0 : wr.cell? ⟨b, off + (j + 1), none⟩ = some (encStr key) := hc _ _ (strVals_get hk)
        obtain ⟨key0, hk0⟩ : ∃ x, (keysC C)[j]? = some x := ⟨_, List.getElem?_eq_getElem (by rw [K4.out.len]; omega)⟩
        have x1 : wr.cell? ⟨b, off + j, none⟩ = some (encStr key0) := hc _ _ (strVals_get hk0)
        have hlt0 : j < kn := by omega
        have hp1 : (0 : Int) ≤ (j : Int) + 1 := by omega
        have hwj : IntKind.i64.wrap (j : Int) = (j : Int) := wrap_nat (by omega)
        have hls : Op.bytesLess key0 key = true := keysC_lt WF.out.1 WF.out.2.1 hk0 hk
        have hlb : b < wr.heap.size := World.block_lt_of_cell? _ _ x0
        have HT := Lib.hid (sum_take (dl C) hk)
        have hone := key_one WF.out.1 (List.mem_of_getElem? hk)
        have HH := Lib.hid hone.1
        have HKM := Lib.hid (show key.length ≤ maxLen from by have := hasC_len WF.out.1 hone.1; simp only [maxLen]; omega)
        have hsum2 := used_le WF.out.1 ((keysC C).take (j + 1))
        rw [List.length_take, K4.out.len] at hsum2
        have hd5 := dl_le WF.out.1 key
        generalize hsj : (((keysC C).take (j + 1)).map (dl C)).sum = sj at *
        have hs2 : sj ≤ 512 * 200 := by
          have : min (j + 1) kn ≤ kn := Nat.min_le_right _ _
          omega
        clear hbl hbs hc hk hsj hsum2 hk0
        go_wp2_with fail
        refine (cData F p 60 C key _ (CA.out.below BS.out)).mono ?_
        rintro e w3 ⟨hdt, hb3⟩
        obtain ⟨B, rfl⟩ := data_len WF.out.1 hdt
        rw [hone.2]
        have B3 := Lib.hid hb3
        have x0 : w3.cell? ⟨b, off + (j + 1), none⟩ = some (encStr key) := (hb3.cell (p := ⟨b, off + (j + 1), none⟩) hlb).trans x0
        have x1 : w3.cell? ⟨b, off + j, none⟩ = some (encStr key0) := (hb3.cell (p := ⟨b, off + j, none⟩) hlb).trans x1
        have hlb := Nat.lt_of_lt_of_le hlb hb3.size
        clear hdt hb3
        generalize hdk : dl C key = dk at *
        go_wp2_with fail
        refine (cEntry F p 60 C key _ ((CA.out.below BS.out).below B3.out) HKM.out).mono ?_
        rintro e w4 ⟨⟨ev, rfl, EB, rfl, hob⟩, hb4⟩
        have B4 := Lib.hid hb4
        have x0 : w4.cell? ⟨b, off + (j + 1), none⟩ = some (encStr key) := (hb4.cell (p := ⟨b, off + (j + 1), none⟩) hlb).trans x0
        have x1 : w4.cell? ⟨b, off + j, none⟩ = some (encStr key0) := (hb4.cell (p := ⟨b, off + j, none⟩) hlb).trans x1
        have hlb := Nat.lt_of_lt_of_le hlb hb4.size
        clear hob hb4
        generalize hek0 : (if hasL C.entries key then key else []) = ek at *
        generalize hee0 : entC C key = ee at *
        go_upto_region 11 with fail
        obtain ⟨w5, hw5⟩ : ∃ w5, w5 = w4.alloc (.cells #[encStr ek, .int .i64 ee.gen, .int .i64 ee.size, encStr ee.sum, .slice EB ee.places.length ee.places.length] 43) := ⟨_, rfl⟩
        have hb5 : Below w4.heap.size w4 w5 := by rw [hw5]; exact (Below.refl _ _).alloc (Nat.le_refl _) _
        have BE := Lib.hid (show Blk w5 w4.heap.size 43 #[encStr ek, .int .i64 ee.gen, .int .i64 ee.size, encStr ee.sum, .slice EB ee.places.length ee.places.length] by rw [hw5]; exact Blk.made w4 _ _)
        change Code.wp _ _ _ _ (w4.alloc (.cells #[encStr ek, .int .i64 ee.gen, .int .i64 ee.size, encStr ee.sum, .slice EB ee.places.length ee.places.length] 43))
        rw [← hw5]
        have x0 : w5.cell? ⟨b, off + (j + 1), none⟩ = some (encStr key) := (hb5.cell (p := ⟨b, off + (j + 1), none⟩) hlb).trans x0
        have x1 : w5.cell? ⟨b, off + j, none⟩ = some (encStr key0) := (hb5.cell (p := ⟨b, off + j, none⟩) hlb).trans x1
        have hlb := Nat.lt_of_lt_of_le hlb hb5.size
        have hle : w4.heap.size < w5.heap.size := BE.out.size
        have B35 := Lib.hid (B3.out.trans ((B4.out.trans (hb5.mono B4.out.size)).mono B3.out.size))
        have CA5 := Lib.hid ((CA.out.below BS.out).below B35.out)
        have CAd := Lib.hid (show CatAt F w5.drew p 60 C from CA5.out.below ⟨rfl, rfl, rfl, Nat.le_refl _, fun _ _ => rfl⟩)
        have BL5 := Lib.hid (BL.out.trans (B35.out.mono hz))
        have BS5 := Lib.hid (BS.out.trans (B35.out.mono hz1))
        have hz5 := BL5.out.size
        have hs5 := BS5.out.size
        have e0 : w5.cell? ⟨w4.heap.size, 0, none⟩ = some (encStr ek) := BE.out.cell 0
        have e1 : w5.cell? ⟨w4.heap.size, 1, none⟩ = some (.int .i64 ee.gen) := BE.out.cell 1
        have e2 : w5.cell? ⟨w4.heap.size, 2, none⟩ = some (.int .i64 ee.size) := BE.out.cell 2
        have e3 : w5.cell? ⟨w4.heap.size, 3, none⟩ = some (encStr ee.sum) := BE.out.cell 3
        have e4 : w5.cell? ⟨w4.heap.size, 4, none⟩ = some (.slice EB ee.places.length ee.places.length) := BE.out.cell 4
        clear hw5 hb5 hone
        cases hent : hasL C.entries key with
        | true =>
              simp only [Bool.not_true]
              have hfacts := WF.out.1.ents _ (getL_mem zeroV hent)
              have hekb : (ek == key) = true := by rw [← hek0, if_pos hent]; simp
              have hs0 : 0 ≤ ee.size := by rw [← hee0]; exact hfacts.2.2.2.2.1
              have hs1 : ee.size ≤ 512 := by rw [← hee0]; exact hfacts.2.2.2.2.2.1
              have hg0 : decide (ee.gen < 1) = false := by rw [← hee0]; have := hfacts.2.2.1; simp; exact this
              have hg1 : decide (C.gen < ee.gen) = false := by rw [← hee0]; have := hfacts.2.2.2.1; simp; exact this
              have hp0 : ((ee.places.length : Int) != 10 * groupsI ee.size) = false := by
                have h7 : (ee.places.length : Int) = groupsI ee.size * 10 := by rw [← hee0]; exact hfacts.2.2.2.2.2.2.1
                simp
                omega
              have hgr : 1 ≤ groupsI ee.size ∧ groupsI ee.size ≤ 4 := by unfold groupsI; omega
              have hwm : IntKind.i64.wrap (10 * groupsI ee.size) = 10 * groupsI ee.size := wrap_in (by omega) (by omega)
              clear hfacts hek0 hee0
              refine wp_region_held_drew (S := (fun w' => w'.cell? ⟨b, off + (j + 1), none⟩ = some (encStr key) ∧ w'.cell? ⟨b, off + j, none⟩ = some (encStr key0) ∧ w'.cell? ⟨w4.heap.size, 0, none⟩ = some (encStr ek) ∧ w'.cell? ⟨w4.heap.size, 1, none⟩ = some (.int .i64 ee.gen) ∧ w'.cell? ⟨w4.heap.size, 2, none⟩ = some (.int .i64 ee.size) ∧ w'.cell? ⟨w4.heap.size, 3, none⟩ = some (encStr ee.sum) ∧ w'.cell? ⟨w4.heap.size, 4, none⟩ = some (.slice EB ee.places.length ee.places.length))) (by kernel_rfl) ⟨x0, x1, e0, e1, e2, e3, e4⟩ (fun hHeld => ?_)
              refine wpAnyH_take (i := 0) (v := ?vH11n30) (take_list rfl) (by kernel_rfl) (by kernel_rfl) (by kernel_rfl) (fun _ _ _ h => h) (Or.inl ⟨by rfl, ?hyH11n30⟩) (by assumption) ?restH11n30
              case hyH11n30 => (intro w hSw; (try dsimp only at hSw); go_simp <;> with_reducible rfl)
              try simp only [Act.put, List.setIfInBounds_toArray, List.set_cons_zero, List.set_cons_succ]
              refine wpAnyH_take (i := 1) (v := ?vH11n31) (take_list rfl) (by kernel_rfl) (by kernel_rfl) (by kernel_rfl) (fun _ _ _ h => h) (Or.inl ⟨by rfl, ?hyH11n31⟩) (by assumption) ?restH11n31
              case hyH11n31 => (intro w hSw; (try dsimp only at hSw); go_simp <;> with_reducible rfl)
              try simp only [Act.put, List.setIfInBounds_toArray, List.set_cons_zero, List.set_cons_succ]
              refine wpAnyH_take (i := 2) (v := ?vH11n32) (take_list rfl) (by kernel_rfl) (by kernel_rfl) (by kernel_rfl) (fun _ _ _ h => h) (Or.inl ⟨by rfl, ?hyH11n32⟩) (by assumption) ?restH11n32
              case hyH11n32 => (intro w hSw; (try dsimp only at hSw); go_simp <;> with_reducible rfl)
              try simp only [Act.put, List.setIfInBounds_toArray, List.set_cons_zero, List.set_cons_succ]
              refine wpAnyH_take (i := 3) (v := ?vH11n33) (take_list rfl) (by kernel_rfl) (by kernel_rfl) (by kernel_rfl) (fun _ _ _ h => h) (Or.inl ⟨by rfl, ?hyH11n33⟩) (by assumption) ?restH11n33
              case hyH11n33 => (intro w hSw; (try dsimp only at hSw); go_simp <;> with_reducible rfl)
              try simp only [Act.put, List.setIfInBounds_toArray, List.set_cons_zero, List.set_cons_succ]
              refine wpAnyH_take (i := 4) (v := ?vH11n34) (take_list rfl) (by kernel_rfl) (by kernel_rfl) (by kernel_rfl) (fun _ _ _ h => h) (Or.inl ⟨by rfl, ?hyH11n34⟩) (by assumption) ?restH11n34
              case hyH11n34 => (intro w hSw; (try dsimp only at hSw); go_simp <;> with_reducible rfl)
              try simp only [Act.put, List.setIfInBounds_toArray, List.set_cons_zero, List.set_cons_succ]
              refine wpAnyH_take (i := 5) (v := ?vH11n35) (take_list rfl) (by kernel_rfl) (by kernel_rfl) (by kernel_rfl) (fun _ _ _ h => h) (Or.inl ⟨by rfl, ?hyH11n35⟩) (by assumption) ?restH11n35
              case hyH11n35 => (intro w hSw; (try dsimp only at hSw); go_simp <;> with_reducible rfl)
              try simp only [Act.put, List.setIfInBounds_toArray, List.set_cons_zero, List.set_cons_succ]
              refine wpAnyH_take (i := 6) (v := ?vH11n36) (take_list rfl) (by kernel_rfl) (by kernel_rfl) (by kernel_rfl) (fun _ _ _ h => h) (Or.inl ⟨by rfl, ?hyH11n36⟩) (by assumption) ?restH11n36
              case hyH11n36 => (intro w hSw; (try dsimp only at hSw); go_simp <;> with_reducible rfl)
              try simp only [Act.put, List.setIfInBounds_toArray, List.set_cons_zero, List.set_cons_succ]
              refine wpAnyH_take (i := 7) (v := ?vH11n37) (take_list rfl) (by kernel_rfl) (by kernel_rfl) (by kernel_rfl) (fun _ _ _ h => h) (Or.inl ⟨by rfl, ?hyH11n37⟩) (by assumption) ?restH11n37
              case hyH11n37 => (intro w hSw; (try dsimp only at hSw); go_simp <;> with_reducible rfl)
              try simp only [Act.put, List.setIfInBounds_toArray, List.set_cons_zero, List.set_cons_succ]
              refine wpAnyH_take (i := 8) (v := ?vH11n38) (take_list rfl) (by kernel_rfl) (by kernel_rfl) (by kernel_rfl) (fun _ _ _ h => h) (Or.inl ⟨by rfl, ?hyH11n38⟩) (by assumption) ?restH11n38
              case hyH11n38 => (intro w hSw; (try dsimp only at hSw); go_simp <;> with_reducible rfl)
              try simp only [Act.put, List.setIfInBounds_toArray, List.set_cons_zero, List.set_cons_succ]
              refine wpAnyH_take (i := 9) (v := ?vH11n39) (take_list rfl) (by kernel_rfl) (by kernel_rfl) (by kernel_rfl) (fun _ _ _ h => h) (Or.inl ⟨by rfl, ?hyH11n39⟩) (by assumption) ?restH11n39
              case hyH11n39 => (intro w hSw; (try dsimp only at hSw); go_simp <;> with_reducible rfl)
              try simp only [Act.put, List.setIfInBounds_toArray, List.set_cons_zero, List.set_cons_succ]
              refine wpAnyH_take (i := 10) (v := ?vH11n310) (take_list rfl) (by kernel_rfl) (by kernel_rfl) (by kernel_rfl) (fun _ _ _ h => h) (Or.inl ⟨by rfl, ?hyH11n310⟩) (by assumption) ?restH11n310
              case hyH11n310 => (intro w hSw; (try dsimp only at hSw); go_simp <;> with_reducible rfl)
              try simp only [Act.put, List.setIfInBounds_toArray, List.set_cons_zero, List.set_cons_succ]
              refine wpAnyH_take (i := 11) (v := ?vH11n311) (take_list rfl) (by kernel_rfl) (by kernel_rfl) (by kernel_rfl) (fun _ _ _ h => h) (Or.inl ⟨by rfl, ?hyH11n311⟩) (by assumption) ?restH11n311
              case hyH11n311 => (intro w hSw; (try dsimp only at hSw); go_simp <;> with_reducible rfl)
              try simp only [Act.put, List.setIfInBounds_toArray, List.set_cons_zero, List.set_cons_succ]
              refine wpAnyH_take (i := 12) (v := ?vH11n312) (take_list rfl) (by kernel_rfl) (by kernel_rfl) (by kernel_rfl) (fun _ _ _ h => h) (Or.inl ⟨by rfl, ?hyH11n312⟩) (by assumption) ?restH11n312
              case hyH11n312 => (intro w hSw; (try dsimp only at hSw); go_simp <;> with_reducible rfl)
              try simp only [Act.put, List.setIfInBounds_toArray, List.set_cons_zero, List.set_cons_succ]
              refine wpAnyH_take (i := 13) (v := ?vH11n313) (take_list rfl) (by kernel_rfl) (by kernel_rfl) (by kernel_rfl) (fun _ _ _ h => h) (Or.inl ⟨by rfl, ?hyH11n313⟩) (by assumption) ?restH11n313
              case hyH11n313 => (intro w hSw; (try dsimp only at hSw); go_simp <;> with_reducible rfl)
              try simp only [Act.put, List.setIfInBounds_toArray, List.set_cons_zero, List.set_cons_succ]
              refine wpAnyH_take (i := 14) (v := ?vH11n314) (take_list rfl) (by kernel_rfl) (by kernel_rfl) (by kernel_rfl) (fun _ _ _ h => h) (Or.inl ⟨by rfl, ?hyH11n314⟩) (by assumption) ?restH11n314
              case hyH11n314 => (intro w hSw; (try dsimp only at hSw); go_simp <;> with_reducible rfl)
              try simp only [Act.put, List.setIfInBounds_toArray, List.set_cons_zero, List.set_cons_succ]
              refine wpAnyH_take (i := 15) (v := ?vH11n315) (take_list rfl) (by kernel_rfl) (by kernel_rfl) (by kernel_rfl) (fun _ _ _ h => h) (Or.inl ⟨by rfl, ?hyH11n315⟩) (by assumption) ?restH11n315
              case hyH11n315 => (intro w hSw; (try dsimp only at hSw); go_simp <;> with_reducible rfl)
              try simp only [Act.put, List.setIfInBounds_toArray, List.set_cons_zero, List.set_cons_succ]
              refine wpAnyH_take (i := 16) (v := ?vH11n316) (take_list rfl) (by kernel_rfl) (by kernel_rfl) (by kernel_rfl) (fun _ _ _ h => h) (Or.inl ⟨by rfl, ?hyH11n316⟩) (by assumption) ?restH11n316
              case hyH11n316 => (intro w hSw; (try dsimp only at hSw); go_simp <;> with_reducible rfl)
              try simp only [Act.put, List.setIfInBounds_toArray, List.set_cons_zero, List.set_cons_succ]
              refine wpAnyH_take (i := 17) (v := ?vH11n317) (take_list rfl) (by kernel_rfl) (by kernel_rfl) (by kernel_rfl) (fun _ _ _ h => h) (Or.inl ⟨by rfl, ?hyH11n317⟩) (by assumption) ?restH11n317
              case hyH11n317 => (intro w hSw; (try dsimp only at hSw); go_simp <;> with_reducible rfl)
              try simp only [Act.put, List.setIfInBounds_toArray, List.set_cons_zero, List.set_cons_succ]
              refine wpAnyH_take (i := 18) (v := ?vH11n318) (take_list rfl) (by kernel_rfl) (by kernel_rfl) (by kernel_rfl) (fun _ _ _ h => h) (Or.inl ⟨by rfl, ?hyH11n318⟩) (by assumption) ?restH11n318
              case hyH11n318 => (intro w hSw; (try dsimp only at hSw); go_simp <;> with_reducible rfl)
              try simp only [Act.put, List.setIfInBounds_toArray, List.set_cons_zero, List.set_cons_succ]
              refine wpAnyH_take (i := 19) (v := ?vH11n319) (take_list rfl) (by kernel_rfl) (by kernel_rfl) (by kernel_rfl) (fun _ _ _ h => h) (Or.inl ⟨by rfl, ?hyH11n319⟩) (by assumption) ?restH11n319
              case hyH11n319 => (intro w hSw; (try dsimp only at hSw); go_simp <;> with_reducible rfl)
              try simp only [Act.put, List.setIfInBounds_toArray, List.set_cons_zero, List.set_cons_succ]
              refine wpAnyH_take (i := 20) (v := ?vH11n320) (take_list rfl) (by kernel_rfl) (by kernel_rfl) (by kernel_rfl) (fun _ _ _ h => h) (Or.inl ⟨by rfl, ?hyH11n320⟩) (by assumption) ?restH11n320
              case hyH11n320 => (intro w hSw; (try dsimp only at hSw); go_simp <;> with_reducible rfl)
              try simp only [Act.put, List.setIfInBounds_toArray, List.set_cons_zero, List.set_cons_succ]
              refine wpAnyH_take (i := 21) (v := ?vH11n321) (take_list rfl) (by kernel_rfl) (by kernel_rfl) (by kernel_rfl) (fun _ _ _ h => h) (Or.inl ⟨by rfl, ?hyH11n321⟩) (by assumption) ?restH11n321
              case hyH11n321 => (intro w hSw; (try dsimp only at hSw); go_simp <;> with_reducible rfl)
              try simp only [Act.put, List.setIfInBounds_toArray, List.set_cons_zero, List.set_cons_succ]
              refine wpAnyH_take (i := 22) (v := ?vH11n322) (take_list rfl) (by kernel_rfl) (by kernel_rfl) (by kernel_rfl) (fun _ _ _ h => h) (Or.inl ⟨by rfl, ?hyH11n322⟩) (by assumption) ?restH11n322
              case hyH11n322 => (intro w hSw; (try dsimp only at hSw); go_simp <;> with_reducible rfl)
              try simp only [Act.put, List.setIfInBounds_toArray, List.set_cons_zero, List.set_cons_succ]
              refine wpAnyH_take (i := 23) (v := ?vH11n323) (take_list rfl) (by kernel_rfl) (by kernel_rfl) (by kernel_rfl) (fun _ _ _ h => h) (Or.inl ⟨by rfl, ?hyH11n323⟩) (by assumption) ?restH11n323
              case hyH11n323 => (intro w hSw; (try dsimp only at hSw); go_simp <;> with_reducible rfl)
              try simp only [Act.put, List.setIfInBounds_toArray, List.set_cons_zero, List.set_cons_succ]
              refine wpAnyH_take (i := 24) (v := ?vH11n324) (take_list rfl) (by kernel_rfl) (by kernel_rfl) (by kernel_rfl) (fun _ _ _ h => h) (Or.inl ⟨by rfl, ?hyH11n324⟩) (by assumption) ?restH11n324
              case hyH11n324 => (intro w hSw; (try dsimp only at hSw); go_simp <;> with_reducible rfl)
              try simp only [Act.put, List.setIfInBounds_toArray, List.set_cons_zero, List.set_cons_succ]
              refine wpAnyH_ready (rs := [25]) (by kernel_rfl) (by simp) ?_
              refine AllReadyH.cons rfl (fun K hK => ?_) AllReadyH.nil
              go_simp
              go_wp2_with (go_at_call 18; refine (cHas F p 60 C key _ CAd.out HKM.out).mono ?_; rw [HH.out]; rintro e w6 ⟨rfl, hb6⟩; have B6 := Lib.hid (show Below w5.heap.size w5 w6 from ⟨hb6.os, hb6.tape, hb6.output, hb6.size, hb6.block⟩); have CA6 := Lib.hid (CA5.out.below B6.out); clear hb6)
              clear hHeld
              refine hK.out _ _ ⟨(B6.out.cell (p := ⟨b, off + (j + 1), none⟩) hlb).trans x0, (B6.out.cell (p := ⟨b, off + j, none⟩) hlb).trans x1, (B6.out.cell (p := ⟨w4.heap.size, 0, none⟩) hle).trans e0, (B6.out.cell (p := ⟨w4.heap.size, 1, none⟩) hle).trans e1, (B6.out.cell (p := ⟨w4.heap.size, 2, none⟩) hle).trans e2, (B6.out.cell (p := ⟨w4.heap.size, 3, none⟩) hle).trans e3, (B6.out.cell (p := ⟨w4.heap.size, 4, none⟩) hle).trans e4⟩ (fun hHeld => ?_)
              clear hK K
              refine wpAnyH_take (i := 26) (v := ?vH11n326) (take_list rfl) (by kernel_rfl) (by kernel_rfl) (by kernel_rfl) (fun _ _ _ h => h) (Or.inl ⟨by rfl, ?hyH11n326⟩) (by assumption) ?restH11n326
              case hyH11n326 => (intro w hSw; (try dsimp only at hSw); go_simp <;> with_reducible rfl)
              try simp only [Act.put, List.setIfInBounds_toArray, List.set_cons_zero, List.set_cons_succ]
              refine wpAnyH_take (i := 27) (v := ?vH11n327) (take_list rfl) (by kernel_rfl) (by kernel_rfl) (by kernel_rfl) (fun _ _ _ h => h) (Or.inl ⟨by rfl, ?hyH11n327⟩) (by assumption) ?restH11n327
              case hyH11n327 => (intro w hSw; (try dsimp only at hSw); go_simp <;> with_reducible rfl)
              try simp only [Act.put, List.setIfInBounds_toArray, List.set_cons_zero, List.set_cons_succ]
              refine wpAnyH_take (i := 28) (v := ?vH11n328) (take_list rfl) (by kernel_rfl) (by kernel_rfl) (by kernel_rfl) (fun _ _ _ h => h) (Or.inl ⟨by rfl, ?hyH11n328⟩) (by assumption) ?restH11n328
              case hyH11n328 => (intro w hSw; (try dsimp only at hSw); go_simp <;> with_reducible rfl)
              try simp only [Act.put, List.setIfInBounds_toArray, List.set_cons_zero, List.set_cons_succ]
              refine wpAnyH_take (i := 29) (v := ?vH11n329) (take_list rfl) (by kernel_rfl) (by kernel_rfl) (by kernel_rfl) (fun _ _ _ h => h) (Or.inl ⟨by rfl, ?hyH11n329⟩) (by assumption) ?restH11n329
              case hyH11n329 => (intro w hSw; (try dsimp only at hSw); go_simp <;> with_reducible rfl)
              try simp only [Act.put, List.setIfInBounds_toArray, List.set_cons_zero, List.set_cons_succ]
              refine wpAnyH_take (i := 30) (v := ?vH11n330) (take_list rfl) (by kernel_rfl) (by kernel_rfl) (by kernel_rfl) (fun _ _ _ h => h) (Or.inl ⟨by rfl, ?hyH11n330⟩) (by assumption) ?restH11n330
              case hyH11n330 => (intro w hSw; (try dsimp only at hSw); go_simp <;> with_reducible rfl)
              try simp only [Act.put, List.setIfInBounds_toArray, List.set_cons_zero, List.set_cons_succ]
              refine wpAnyH_take (i := 31) (v := ?vH11n331) (take_list rfl) (by kernel_rfl) (by kernel_rfl) (by kernel_rfl) (fun _ _ _ h => h) (Or.inl ⟨by rfl, ?hyH11n331⟩) (by assumption) ?restH11n331
              case hyH11n331 => (intro w hSw; (try dsimp only at hSw); go_simp <;> with_reducible rfl)
              try simp only [Act.put, List.setIfInBounds_toArray, List.set_cons_zero, List.set_cons_succ]
              refine wpAnyH_take (i := 32) (v := ?vH11n332) (take_list rfl) (by kernel_rfl) (by kernel_rfl) (by kernel_rfl) (fun _ _ _ h => h) (Or.inl ⟨by rfl, ?hyH11n332⟩) (by assumption) ?restH11n332
              case hyH11n332 => (intro w hSw; (try dsimp only at hSw); go_simp <;> with_reducible rfl)
              try simp only [Act.put, List.setIfInBounds_toArray, List.set_cons_zero, List.set_cons_succ]
              refine wpAnyH_take (i := 33) (v := ?vH11n333) (take_list rfl) (by kernel_rfl) (by kernel_rfl) (by kernel_rfl) (fun _ _ _ h => h) (Or.inl ⟨by rfl, ?hyH11n333⟩) (by assumption) ?restH11n333
              case hyH11n333 => (intro w hSw; (try dsimp only at hSw); go_simp <;> with_reducible rfl)
              try simp only [Act.put, List.setIfInBounds_toArray, List.set_cons_zero, List.set_cons_succ]
              refine wpAnyH_take (i := 34) (v := ?vH11n334) (take_list rfl) (by kernel_rfl) (by kernel_rfl) (by kernel_rfl) (fun _ _ _ h => h) (Or.inl ⟨by rfl, ?hyH11n334⟩) (by assumption) ?restH11n334
              case hyH11n334 => (intro w hSw; (try dsimp only at hSw); go_simp <;> with_reducible rfl)
              try simp only [Act.put, List.setIfInBounds_toArray, List.set_cons_zero, List.set_cons_succ]
              refine wpAnyH_take (i := 35) (v := ?vH11n335) (take_list rfl) (by kernel_rfl) (by kernel_rfl) (by kernel_rfl) (fun _ _ _ h => h) (Or.inl ⟨by rfl, ?hyH11n335⟩) (by assumption) ?restH11n335
              case hyH11n335 => (intro w hSw; (try dsimp only at hSw); go_simp <;> with_reducible rfl)
              try simp only [Act.put, List.setIfInBounds_toArray, List.set_cons_zero, List.set_cons_succ]
              refine wpAnyH_take (i := 36) (v := ?vH11n336) (take_list rfl) (by kernel_rfl) (by kernel_rfl) (by kernel_rfl) (fun _ _ _ h => h) (Or.inl ⟨by rfl, ?hyH11n336⟩) (by assumption) ?restH11n336
              case hyH11n336 => (intro w hSw; (try dsimp only at hSw); go_simp <;> with_reducible rfl)
              try simp only [Act.put, List.setIfInBounds_toArray, List.set_cons_zero, List.set_cons_succ]
              refine wpAnyH_take (i := 37) (v := ?vH11n337) (take_list rfl) (by kernel_rfl) (by kernel_rfl) (by kernel_rfl) (fun _ _ _ h => h) (Or.inl ⟨by rfl, ?hyH11n337⟩) (by assumption) ?restH11n337
              case hyH11n337 => (intro w hSw; (try dsimp only at hSw); go_simp <;> with_reducible rfl)
              try simp only [Act.put, List.setIfInBounds_toArray, List.set_cons_zero, List.set_cons_succ]
              refine wpAnyH_take (i := 38) (v := ?vH11n338) (take_list rfl) (by kernel_rfl) (by kernel_rfl) (by kernel_rfl) (fun _ _ _ h => h) (Or.inl ⟨by rfl, ?hyH11n338⟩) (by assumption) ?restH11n338
              case hyH11n338 => (intro w hSw; (try dsimp only at hSw); go_simp <;> with_reducible rfl)
              try simp only [Act.put, List.setIfInBounds_toArray, List.set_cons_zero, List.set_cons_succ]
              refine wpAnyH_take (i := 39) (v := ?vH11n339) (take_list rfl) (by kernel_rfl) (by kernel_rfl) (by kernel_rfl) (fun _ _ _ h => h) (Or.inl ⟨by rfl, ?hyH11n339⟩) (by assumption) ?restH11n339
              case hyH11n339 => (intro w hSw; (try dsimp only at hSw); go_simp <;> with_reducible rfl)
              try simp only [Act.put, List.setIfInBounds_toArray, List.set_cons_zero, List.set_cons_succ]
              refine wpAnyH_take (i := 40) (v := ?vH11n340) (take_list rfl) (by kernel_rfl) (by kernel_rfl) (by kernel_rfl) (fun _ _ _ h => h) (Or.inl ⟨by rfl, ?hyH11n340⟩) (by assumption) ?restH11n340
              case hyH11n340 => (intro w hSw; (try dsimp only at hSw); go_simp <;> with_reducible rfl)
              try simp only [Act.put, List.setIfInBounds_toArray, List.set_cons_zero, List.set_cons_succ]
              refine wpAnyH_take (i := 41) (v := ?vH11n341) (take_list rfl) (by kernel_rfl) (by kernel_rfl) (by kernel_rfl) (fun _ _ _ h => h) (Or.inl ⟨by rfl, ?hyH11n341⟩) (by assumption) ?restH11n341
              case hyH11n341 => (intro w hSw; (try dsimp only at hSw); go_simp <;> with_reducible rfl)
              try simp only [Act.put, List.setIfInBounds_toArray, List.set_cons_zero, List.set_cons_succ]
              refine wpAnyH_take (i := 42) (v := ?vH11n342) (take_list rfl) (by kernel_rfl) (by kernel_rfl) (by kernel_rfl) (fun _ _ _ h => h) (Or.inl ⟨by rfl, ?hyH11n342⟩) (by assumption) ?restH11n342
              case hyH11n342 => (intro w hSw; (try dsimp only at hSw); go_simp <;> with_reducible rfl)
              try simp only [Act.put, List.setIfInBounds_toArray, List.set_cons_zero, List.set_cons_succ]
              refine wpAnyH_take (i := 43) (v := ?vH11n343) (take_list rfl) (by kernel_rfl) (by kernel_rfl) (by kernel_rfl) (fun _ _ _ h => h) (Or.inl ⟨by rfl, ?hyH11n343⟩) (by assumption) ?restH11n343
              case hyH11n343 => (intro w hSw; (try dsimp only at hSw); go_simp <;> with_reducible rfl)
              try simp only [Act.put, List.setIfInBounds_toArray, List.set_cons_zero, List.set_cons_succ]
              refine wpAnyH_take (i := 44) (v := ?vH11n344) (take_list rfl) (by kernel_rfl) (by kernel_rfl) (by kernel_rfl) (fun _ _ _ h => h) (Or.inl ⟨by rfl, ?hyH11n344⟩) (by assumption) ?restH11n344
              case hyH11n344 => (intro w hSw; (try dsimp only at hSw); go_simp <;> with_reducible rfl)
              try simp only [Act.put, List.setIfInBounds_toArray, List.set_cons_zero, List.set_cons_succ]
              refine wpAnyH_take (i := 45) (v := ?vH11n345) (take_list rfl) (by kernel_rfl) (by kernel_rfl) (by kernel_rfl) (fun _ _ _ h => h) (Or.inl ⟨by rfl, ?hyH11n345⟩) (by assumption) ?restH11n345
              case hyH11n345 => (intro w hSw; (try dsimp only at hSw); go_simp <;> with_reducible rfl)
              try simp only [Act.put, List.setIfInBounds_toArray, List.set_cons_zero, List.set_cons_succ]
              refine wpAnyH_take (i := 46) (v := ?vH11n346) (take_list rfl) (by kernel_rfl) (by kernel_rfl) (by kernel_rfl) (fun _ _ _ h => h) (Or.inl ⟨by rfl, ?hyH11n346⟩) (by assumption) ?restH11n346
              case hyH11n346 => (intro w hSw; (try dsimp only at hSw); go_simp <;> with_reducible rfl)
              try simp only [Act.put, List.setIfInBounds_toArray, List.set_cons_zero, List.set_cons_succ]
              refine wpAnyH_ready (rs := [47]) (by kernel_rfl) (by simp) ?_
              refine AllReadyH.cons rfl (fun K hK => ?_) AllReadyH.nil
              go_simp
              go_wp2_with (go_at_call 19; refine (cGen F p 60 C _ CA6.out).mono ?_; rintro e w7 ⟨rfl, rfl⟩)
              refine hK.out _ _ hHeld (fun hHeld => ?_)
              clear hK K
              refine wpAnyH_take (i := 48) (v := ?vH11n348) (take_list rfl) (by kernel_rfl) (by kernel_rfl) (by kernel_rfl) (fun _ _ _ h => h) (Or.inl ⟨by rfl, ?hyH11n348⟩) (by assumption) ?restH11n348
              case hyH11n348 => (intro w hSw; (try dsimp only at hSw); go_simp <;> with_reducible rfl)
              try simp only [Act.put, List.setIfInBounds_toArray, List.set_cons_zero, List.set_cons_succ]
              refine wpAnyH_take (i := 49) (v := ?vH11n349) (take_list rfl) (by kernel_rfl) (by kernel_rfl) (by kernel_rfl) (fun _ _ _ h => h) (Or.inl ⟨by rfl, ?hyH11n349⟩) (by assumption) ?restH11n349
              case hyH11n349 => (intro w hSw; (try dsimp only at hSw); go_simp <;> with_reducible rfl)
              try simp only [Act.put, List.setIfInBounds_toArray, List.set_cons_zero, List.set_cons_succ]
              refine wpAnyH_take (i := 50) (v := ?vH11n350) (take_list rfl) (by kernel_rfl) (by kernel_rfl) (by kernel_rfl) (fun _ _ _ h => h) (Or.inl ⟨by rfl, ?hyH11n350⟩) (by assumption) ?restH11n350
              case hyH11n350 => (intro w hSw; (try dsimp only at hSw); go_simp <;> with_reducible rfl)
              try simp only [Act.put, List.setIfInBounds_toArray, List.set_cons_zero, List.set_cons_succ]
              refine wpAnyH_take (i := 51) (v := ?vH11n351) (take_list rfl) (by kernel_rfl) (by kernel_rfl) (by kernel_rfl) (fun _ _ _ h => h) (Or.inl ⟨by rfl, ?hyH11n351⟩) (by assumption) ?restH11n351
              case hyH11n351 => (intro w hSw; (try dsimp only at hSw); go_simp <;> with_reducible rfl)
              try simp only [Act.put, List.setIfInBounds_toArray, List.set_cons_zero, List.set_cons_succ]
              refine wpAnyH_take (i := 52) (v := ?vH11n352) (take_list rfl) (by kernel_rfl) (by kernel_rfl) (by kernel_rfl) (fun _ _ _ h => h) (Or.inl ⟨by rfl, ?hyH11n352⟩) (by assumption) ?restH11n352
              case hyH11n352 => (intro w hSw; (try dsimp only at hSw); go_simp <;> with_reducible rfl)
              try simp only [Act.put, List.setIfInBounds_toArray, List.set_cons_zero, List.set_cons_succ]
              refine wpAnyH_take (i := 53) (v := ?vH11n353) (take_list rfl) (by kernel_rfl) (by kernel_rfl) (by kernel_rfl) (fun _ _ _ h => h) (Or.inl ⟨by rfl, ?hyH11n353⟩) (by assumption) ?restH11n353
              case hyH11n353 => (intro w hSw; (try dsimp only at hSw); go_simp <;> with_reducible rfl)
              try simp only [Act.put, List.setIfInBounds_toArray, List.set_cons_zero, List.set_cons_succ]
              refine wpAnyH_take (i := 54) (v := ?vH11n354) (take_list rfl) (by kernel_rfl) (by kernel_rfl) (by kernel_rfl) (fun _ _ _ h => h) (Or.inl ⟨by rfl, ?hyH11n354⟩) (by assumption) ?restH11n354
              case hyH11n354 => (intro w hSw; (try dsimp only at hSw); go_simp <;> with_reducible rfl)
              try simp only [Act.put, List.setIfInBounds_toArray, List.set_cons_zero, List.set_cons_succ]
              refine wpAnyH_take (i := 55) (v := ?vH11n355) (take_list rfl) (by kernel_rfl) (by kernel_rfl) (by kernel_rfl) (fun _ _ _ h => h) (Or.inl ⟨by rfl, ?hyH11n355⟩) (by assumption) ?restH11n355
              case hyH11n355 => (intro w hSw; (try dsimp only at hSw); go_simp <;> with_reducible rfl)
              try simp only [Act.put, List.setIfInBounds_toArray, List.set_cons_zero, List.set_cons_succ]
              refine wpAnyH_ready (rs := [56]) (by kernel_rfl) (by simp) ?_
              refine AllReadyH.cons rfl (fun K hK => ?_) AllReadyH.nil
              go_simp
              go_wp2_with (go_at_call 20; refine (cGroups13 ee.size _ hs0 hs1).mono ?_; rintro e w7 ⟨rfl, rfl⟩)
              refine hK.out _ _ hHeld (fun hHeld => ?_)
              clear hK K
              refine wpAnyH_take (i := 57) (v := ?vH11n357) (take_list rfl) (by kernel_rfl) (by kernel_rfl) (by kernel_rfl) (fun _ _ _ h => h) (Or.inl ⟨by rfl, ?hyH11n357⟩) (by assumption) ?restH11n357
              case hyH11n357 => (intro w hSw; (try dsimp only at hSw); go_simp <;> with_reducible rfl)
              try simp only [Act.put, List.setIfInBounds_toArray, List.set_cons_zero, List.set_cons_succ]
              refine wpAnyH_take (i := 58) (v := ?vH11n358) (take_list rfl) (by kernel_rfl) (by kernel_rfl) (by kernel_rfl) (fun _ _ _ h => h) (Or.inl ⟨by rfl, ?hyH11n358⟩) (by assumption) ?restH11n358
              case hyH11n358 => (intro w hSw; (try dsimp only at hSw); go_simp <;> with_reducible rfl)
              try simp only [Act.put, List.setIfInBounds_toArray, List.set_cons_zero, List.set_cons_succ]
              refine wpAnyH_take (i := 59) (v := ?vH11n359) (take_list rfl) (by kernel_rfl) (by kernel_rfl) (by kernel_rfl) (fun _ _ _ h => h) (Or.inl ⟨by rfl, ?hyH11n359⟩) (by assumption) ?restH11n359
              case hyH11n359 => (intro w hSw; (try dsimp only at hSw); go_simp <;> with_reducible rfl)
              try simp only [Act.put, List.setIfInBounds_toArray, List.set_cons_zero, List.set_cons_succ]
              refine wpAnyH_take (i := 60) (v := ?vH11n360) (take_list rfl) (by kernel_rfl) (by kernel_rfl) (by kernel_rfl) (fun _ _ _ h => h) (Or.inl ⟨by rfl, ?hyH11n360⟩) (by assumption) ?restH11n360
              case hyH11n360 => (intro w hSw; (try dsimp only at hSw); go_simp <;> with_reducible rfl)
              try simp only [Act.put, List.setIfInBounds_toArray, List.set_cons_zero, List.set_cons_succ]
              refine wpAnyH_take (i := 61) (v := ?vH11n361) (take_list rfl) (by kernel_rfl) (by kernel_rfl) (by kernel_rfl) (fun _ _ _ h => h) (Or.inl ⟨by rfl, ?hyH11n361⟩) (by assumption) ?restH11n361
              case hyH11n361 => (intro w hSw; (try dsimp only at hSw); go_simp <;> with_reducible rfl)
              try simp only [Act.put, List.setIfInBounds_toArray, List.set_cons_zero, List.set_cons_succ]
              refine wpAnyH_done (by kernel_rfl) ?_ _
              go_wp2_with fail
              go_roundw
              case rel => exact ⟨(j + 1) + 1, by go_num, hlt, by rw [HT.out]; go_num, BL5.out.trans (B6.out.mono hz5), BS5.out.trans (B6.out.mono hs5)⟩
              case measure => simp [intOf]; omega
        | false =>
              simp only [Bool.not_false]
              clear hek0 hee0
              refine wp_region_held_drew (S := (fun w' => w'.cell? ⟨b, off + (j + 1), none⟩ = some (encStr key) ∧ w'.cell? ⟨b, off + j, none⟩ = some (encStr key0) ∧ w'.cell? ⟨w4.heap.size, 0, none⟩ = some (encStr ek) ∧ w'.cell? ⟨w4.heap.size, 1, none⟩ = some (.int .i64 ee.gen) ∧ w'.cell? ⟨w4.heap.size, 2, none⟩ = some (.int .i64 ee.size) ∧ w'.cell? ⟨w4.heap.size, 3, none⟩ = some (encStr ee.sum) ∧ w'.cell? ⟨w4.heap.size, 4, none⟩ = some (.slice EB ee.places.length ee.places.length))) (by kernel_rfl) ⟨x0, x1, e0, e1, e2, e3, e4⟩ (fun hHeld => ?_)
              refine wpAnyH_take (i := 0) (v := ?vH10n40) (take_list rfl) (by kernel_rfl) (by kernel_rfl) (by kernel_rfl) (fun _ _ _ h => h) (Or.inl ⟨by rfl, ?hyH10n40⟩) (by assumption) ?restH10n40
              case hyH10n40 => (intro w hSw; (try dsimp only at hSw); go_simp <;> with_reducible rfl)
              try simp only [Act.put, List.setIfInBounds_toArray, List.set_cons_zero, List.set_cons_succ]
              refine wpAnyH_take (i := 1) (v := ?vH10n41) (take_list rfl) (by kernel_rfl) (by kernel_rfl) (by kernel_rfl) (fun _ _ _ h => h) (Or.inl ⟨by rfl, ?hyH10n41⟩) (by assumption) ?restH10n41
              case hyH10n41 => (intro w hSw; (try dsimp only at hSw); go_simp <;> with_reducible rfl)
              try simp only [Act.put, List.setIfInBounds_toArray, List.set_cons_zero, List.set_cons_succ]
              refine wpAnyH_take (i := 2) (v := ?vH10n42) (take_list rfl) (by kernel_rfl) (by kernel_rfl) (by kernel_rfl) (fun _ _ _ h => h) (Or.inl ⟨by rfl, ?hyH10n42⟩) (by assumption) ?restH10n42
              case hyH10n42 => (intro w hSw; (try dsimp only at hSw); go_simp <;> with_reducible rfl)
              try simp only [Act.put, List.setIfInBounds_toArray, List.set_cons_zero, List.set_cons_succ]
              refine wpAnyH_take (i := 3) (v := ?vH10n43) (take_list rfl) (by kernel_rfl) (by kernel_rfl) (by kernel_rfl) (fun _ _ _ h => h) (Or.inl ⟨by rfl, ?hyH10n43⟩) (by assumption) ?restH10n43
              case hyH10n43 => (intro w hSw; (try dsimp only at hSw); go_simp <;> with_reducible rfl)
              try simp only [Act.put, List.setIfInBounds_toArray, List.set_cons_zero, List.set_cons_succ]
              refine wpAnyH_take (i := 4) (v := ?vH10n44) (take_list rfl) (by kernel_rfl) (by kernel_rfl) (by kernel_rfl) (fun _ _ _ h => h) (Or.inl ⟨by rfl, ?hyH10n44⟩) (by assumption) ?restH10n44
              case hyH10n44 => (intro w hSw; (try dsimp only at hSw); go_simp <;> with_reducible rfl)
              try simp only [Act.put, List.setIfInBounds_toArray, List.set_cons_zero, List.set_cons_succ]
              refine wpAnyH_take (i := 5) (v := ?vH10n45) (take_list rfl) (by kernel_rfl) (by kernel_rfl) (by kernel_rfl) (fun _ _ _ h => h) (Or.inl ⟨by rfl, ?hyH10n45⟩) (by assumption) ?restH10n45
              case hyH10n45 => (intro w hSw; (try dsimp only at hSw); go_simp <;> with_reducible rfl)
              try simp only [Act.put, List.setIfInBounds_toArray, List.set_cons_zero, List.set_cons_succ]
              refine wpAnyH_take (i := 6) (v := ?vH10n46) (take_list rfl) (by kernel_rfl) (by kernel_rfl) (by kernel_rfl) (fun _ _ _ h => h) (Or.inl ⟨by rfl, ?hyH10n46⟩) (by assumption) ?restH10n46
              case hyH10n46 => (intro w hSw; (try dsimp only at hSw); go_simp <;> with_reducible rfl)
              try simp only [Act.put, List.setIfInBounds_toArray, List.set_cons_zero, List.set_cons_succ]
              refine wpAnyH_take (i := 7) (v := ?vH10n47) (take_list rfl) (by kernel_rfl) (by kernel_rfl) (by kernel_rfl) (fun _ _ _ h => h) (Or.inl ⟨by rfl, ?hyH10n47⟩) (by assumption) ?restH10n47
              case hyH10n47 => (intro w hSw; (try dsimp only at hSw); go_simp <;> with_reducible rfl)
              try simp only [Act.put, List.setIfInBounds_toArray, List.set_cons_zero, List.set_cons_succ]
              refine wpAnyH_take (i := 8) (v := ?vH10n48) (take_list rfl) (by kernel_rfl) (by kernel_rfl) (by kernel_rfl) (fun _ _ _ h => h) (Or.inl ⟨by rfl, ?hyH10n48⟩) (by assumption) ?restH10n48
              case hyH10n48 => (intro w hSw; (try dsimp only at hSw); go_simp <;> with_reducible rfl)
              try simp only [Act.put, List.setIfInBounds_toArray, List.set_cons_zero, List.set_cons_succ]
              refine wpAnyH_take (i := 9) (v := ?vH10n49) (take_list rfl) (by kernel_rfl) (by kernel_rfl) (by kernel_rfl) (fun _ _ _ h => h) (Or.inl ⟨by rfl, ?hyH10n49⟩) (by assumption) ?restH10n49
              case hyH10n49 => (intro w hSw; (try dsimp only at hSw); go_simp <;> with_reducible rfl)
              try simp only [Act.put, List.setIfInBounds_toArray, List.set_cons_zero, List.set_cons_succ]
              refine wpAnyH_take (i := 10) (v := ?vH10n410) (take_list rfl) (by kernel_rfl) (by kernel_rfl) (by kernel_rfl) (fun _ _ _ h => h) (Or.inl ⟨by rfl, ?hyH10n410⟩) (by assumption) ?restH10n410
              case hyH10n410 => (intro w hSw; (try dsimp only at hSw); go_simp <;> with_reducible rfl)
              try simp only [Act.put, List.setIfInBounds_toArray, List.set_cons_zero, List.set_cons_succ]
              refine wpAnyH_take (i := 11) (v := ?vH10n411) (take_list rfl) (by kernel_rfl) (by kernel_rfl) (by kernel_rfl) (fun _ _ _ h => h) (Or.inl ⟨by rfl, ?hyH10n411⟩) (by assumption) ?restH10n411
              case hyH10n411 => (intro w hSw; (try dsimp only at hSw); go_simp <;> with_reducible rfl)
              try simp only [Act.put, List.setIfInBounds_toArray, List.set_cons_zero, List.set_cons_succ]
              refine wpAnyH_take (i := 12) (v := ?vH10n412) (take_list rfl) (by kernel_rfl) (by kernel_rfl) (by kernel_rfl) (fun _ _ _ h => h) (Or.inl ⟨by rfl, ?hyH10n412⟩) (by assumption) ?restH10n412
              case hyH10n412 => (intro w hSw; (try dsimp only at hSw); go_simp <;> with_reducible rfl)
              try simp only [Act.put, List.setIfInBounds_toArray, List.set_cons_zero, List.set_cons_succ]
              refine wpAnyH_take (i := 13) (v := ?vH10n413) (take_list rfl) (by kernel_rfl) (by kernel_rfl) (by kernel_rfl) (fun _ _ _ h => h) (Or.inl ⟨by rfl, ?hyH10n413⟩) (by assumption) ?restH10n413
              case hyH10n413 => (intro w hSw; (try dsimp only at hSw); go_simp <;> with_reducible rfl)
              try simp only [Act.put, List.setIfInBounds_toArray, List.set_cons_zero, List.set_cons_succ]
              refine wpAnyH_take (i := 14) (v := ?vH10n414) (take_list rfl) (by kernel_rfl) (by kernel_rfl) (by kernel_rfl) (fun _ _ _ h => h) (Or.inl ⟨by rfl, ?hyH10n414⟩) (by assumption) ?restH10n414
              case hyH10n414 => (intro w hSw; (try dsimp only at hSw); go_simp <;> with_reducible rfl)
              try simp only [Act.put, List.setIfInBounds_toArray, List.set_cons_zero, List.set_cons_succ]
              refine wpAnyH_take (i := 15) (v := ?vH10n415) (take_list rfl) (by kernel_rfl) (by kernel_rfl) (by kernel_rfl) (fun _ _ _ h => h) (Or.inl ⟨by rfl, ?hyH10n415⟩) (by assumption) ?restH10n415
              case hyH10n415 => (intro w hSw; (try dsimp only at hSw); go_simp <;> with_reducible rfl)
              try simp only [Act.put, List.setIfInBounds_toArray, List.set_cons_zero, List.set_cons_succ]
              refine wpAnyH_take (i := 16) (v := ?vH10n416) (take_list rfl) (by kernel_rfl) (by kernel_rfl) (by kernel_rfl) (fun _ _ _ h => h) (Or.inl ⟨by rfl, ?hyH10n416⟩) (by assumption) ?restH10n416
              case hyH10n416 => (intro w hSw; (try dsimp only at hSw); go_simp <;> with_reducible rfl)
              try simp only [Act.put, List.setIfInBounds_toArray, List.set_cons_zero, List.set_cons_succ]
              refine wpAnyH_take (i := 17) (v := ?vH10n417) (take_list rfl) (by kernel_rfl) (by kernel_rfl) (by kernel_rfl) (fun _ _ _ h => h) (Or.inl ⟨by rfl, ?hyH10n417⟩) (by assumption) ?restH10n417
              case hyH10n417 => (intro w hSw; (try dsimp only at hSw); go_simp <;> with_reducible rfl)
              try simp only [Act.put, List.setIfInBounds_toArray, List.set_cons_zero, List.set_cons_succ]
              refine wpAnyH_take (i := 18) (v := ?vH10n418) (take_list rfl) (by kernel_rfl) (by kernel_rfl) (by kernel_rfl) (fun _ _ _ h => h) (Or.inl ⟨by rfl, ?hyH10n418⟩) (by assumption) ?restH10n418
              case hyH10n418 => (intro w hSw; (try dsimp only at hSw); go_simp <;> with_reducible rfl)
              try simp only [Act.put, List.setIfInBounds_toArray, List.set_cons_zero, List.set_cons_succ]
              refine wpAnyH_take (i := 19) (v := ?vH10n419) (take_list rfl) (by kernel_rfl) (by kernel_rfl) (by kernel_rfl) (fun _ _ _ h => h) (Or.inl ⟨by rfl, ?hyH10n419⟩) (by assumption) ?restH10n419
              case hyH10n419 => (intro w hSw; (try dsimp only at hSw); go_simp <;> with_reducible rfl)
              try simp only [Act.put, List.setIfInBounds_toArray, List.set_cons_zero, List.set_cons_succ]
              refine wpAnyH_take (i := 20) (v := ?vH10n420) (take_list rfl) (by kernel_rfl) (by kernel_rfl) (by kernel_rfl) (fun _ _ _ h => h) (Or.inl ⟨by rfl, ?hyH10n420⟩) (by assumption) ?restH10n420
              case hyH10n420 => (intro w hSw; (try dsimp only at hSw); go_simp <;> with_reducible rfl)
              try simp only [Act.put, List.setIfInBounds_toArray, List.set_cons_zero, List.set_cons_succ]
              refine wpAnyH_take (i := 21) (v := ?vH10n421) (take_list rfl) (by kernel_rfl) (by kernel_rfl) (by kernel_rfl) (fun _ _ _ h => h) (Or.inl ⟨by rfl, ?hyH10n421⟩) (by assumption) ?restH10n421
              case hyH10n421 => (intro w hSw; (try dsimp only at hSw); go_simp <;> with_reducible rfl)
              try simp only [Act.put, List.setIfInBounds_toArray, List.set_cons_zero, List.set_cons_succ]
              refine wpAnyH_take (i := 22) (v := ?vH10n422) (take_list rfl) (by kernel_rfl) (by kernel_rfl) (by kernel_rfl) (fun _ _ _ h => h) (Or.inl ⟨by rfl, ?hyH10n422⟩) (by assumption) ?restH10n422
              case hyH10n422 => (intro w hSw; (try dsimp only at hSw); go_simp <;> with_reducible rfl)
              try simp only [Act.put, List.setIfInBounds_toArray, List.set_cons_zero, List.set_cons_succ]
              refine wpAnyH_take (i := 23) (v := ?vH10n423) (take_list rfl) (by kernel_rfl) (by kernel_rfl) (by kernel_rfl) (fun _ _ _ h => h) (Or.inl ⟨by rfl, ?hyH10n423⟩) (by assumption) ?restH10n423
              case hyH10n423 => (intro w hSw; (try dsimp only at hSw); go_simp <;> with_reducible rfl)
              try simp only [Act.put, List.setIfInBounds_toArray, List.set_cons_zero, List.set_cons_succ]
              refine wpAnyH_take (i := 24) (v := ?vH10n424) (take_list rfl) (by kernel_rfl) (by kernel_rfl) (by kernel_rfl) (fun _ _ _ h => h) (Or.inl ⟨by rfl, ?hyH10n424⟩) (by assumption) ?restH10n424
              case hyH10n424 => (intro w hSw; (try dsimp only at hSw); go_simp <;> with_reducible rfl)
              try simp only [Act.put, List.setIfInBounds_toArray, List.set_cons_zero, List.set_cons_succ]
              refine wpAnyH_ready (rs := [25]) (by kernel_rfl) (by simp) ?_
              refine AllReadyH.cons rfl (fun K hK => ?_) AllReadyH.nil
              go_simp
              go_wp2_with (go_at_call 18; refine (cHas F p 60 C key _ CAd.out HKM.out).mono ?_; rw [HH.out]; rintro e w6 ⟨rfl, hb6⟩; have B6 := Lib.hid (show Below w5.heap.size w5 w6 from ⟨hb6.os, hb6.tape, hb6.output, hb6.size, hb6.block⟩); have CA6 := Lib.hid (CA5.out.below B6.out); clear hb6)
              clear hHeld
              refine hK.out _ _ ⟨(B6.out.cell (p := ⟨b, off + (j + 1), none⟩) hlb).trans x0, (B6.out.cell (p := ⟨b, off + j, none⟩) hlb).trans x1, (B6.out.cell (p := ⟨w4.heap.size, 0, none⟩) hle).trans e0, (B6.out.cell (p := ⟨w4.heap.size, 1, none⟩) hle).trans e1, (B6.out.cell (p := ⟨w4.heap.size, 2, none⟩) hle).trans e2, (B6.out.cell (p := ⟨w4.heap.size, 3, none⟩) hle).trans e3, (B6.out.cell (p := ⟨w4.heap.size, 4, none⟩) hle).trans e4⟩ (fun hHeld => ?_)
              clear hK K
              refine wpAnyH_take (i := 26) (v := ?vH10n426) (take_list rfl) (by kernel_rfl) (by kernel_rfl) (by kernel_rfl) (fun _ _ _ h => h) (Or.inl ⟨by rfl, ?hyH10n426⟩) (by assumption) ?restH10n426
              case hyH10n426 => (intro w hSw; (try dsimp only at hSw); go_simp <;> with_reducible rfl)
              try simp only [Act.put, List.setIfInBounds_toArray, List.set_cons_zero, List.set_cons_succ]
              refine wpAnyH_take (i := 27) (v := ?vH10n427) (take_list rfl) (by kernel_rfl) (by kernel_rfl) (by kernel_rfl) (fun _ _ _ h => h) (Or.inl ⟨by rfl, ?hyH10n427⟩) (by assumption) ?restH10n427
              case hyH10n427 => (intro w hSw; (try dsimp only at hSw); go_simp <;> with_reducible rfl)
              try simp only [Act.put, List.setIfInBounds_toArray, List.set_cons_zero, List.set_cons_succ]
              refine wpAnyH_take (i := 28) (v := ?vH10n428) (take_list rfl) (by kernel_rfl) (by kernel_rfl) (by kernel_rfl) (fun _ _ _ h => h) (Or.inl ⟨by rfl, ?hyH10n428⟩) (by assumption) ?restH10n428
              case hyH10n428 => (intro w hSw; (try dsimp only at hSw); go_simp <;> with_reducible rfl)
              try simp only [Act.put, List.setIfInBounds_toArray, List.set_cons_zero, List.set_cons_succ]
              refine wpAnyH_take (i := 29) (v := ?vH10n429) (take_list rfl) (by kernel_rfl) (by kernel_rfl) (by kernel_rfl) (fun _ _ _ h => h) (Or.inl ⟨by rfl, ?hyH10n429⟩) (by assumption) ?restH10n429
              case hyH10n429 => (intro w hSw; (try dsimp only at hSw); go_simp <;> with_reducible rfl)
              try simp only [Act.put, List.setIfInBounds_toArray, List.set_cons_zero, List.set_cons_succ]
              refine wpAnyH_take (i := 30) (v := ?vH10n430) (take_list rfl) (by kernel_rfl) (by kernel_rfl) (by kernel_rfl) (fun _ _ _ h => h) (Or.inl ⟨by rfl, ?hyH10n430⟩) (by assumption) ?restH10n430
              case hyH10n430 => (intro w hSw; (try dsimp only at hSw); go_simp <;> with_reducible rfl)
              try simp only [Act.put, List.setIfInBounds_toArray, List.set_cons_zero, List.set_cons_succ]
              refine wpAnyH_take (i := 31) (v := undef) (take_list rfl) (by kernel_rfl) (by kernel_rfl) (by kernel_rfl) (fun _ _ _ h => h) (Or.inr ⟨by rfl, rfl⟩) (by assumption) ?_
              try simp only [Act.put, List.setIfInBounds_toArray, List.set_cons_zero, List.set_cons_succ]
              refine wpAnyH_take (i := 32) (v := undef) (take_list rfl) (by kernel_rfl) (by kernel_rfl) (by kernel_rfl) (fun _ _ _ h => h) (Or.inr ⟨by rfl, rfl⟩) (by assumption) ?_
              try simp only [Act.put, List.setIfInBounds_toArray, List.set_cons_zero, List.set_cons_succ]
              refine wpAnyH_take (i := 33) (v := undef) (take_list rfl) (by kernel_rfl) (by kernel_rfl) (by kernel_rfl) (fun _ _ _ h => h) (Or.inr ⟨by rfl, rfl⟩) (by assumption) ?_
              try simp only [Act.put, List.setIfInBounds_toArray, List.set_cons_zero, List.set_cons_succ]
              refine wpAnyH_take (i := 34) (v := undef) (take_list rfl) (by kernel_rfl) (by kernel_rfl) (by kernel_rfl) (fun _ _ _ h => h) (Or.inr ⟨by rfl, rfl⟩) (by assumption) ?_
              try simp only [Act.put, List.setIfInBounds_toArray, List.set_cons_zero, List.set_cons_succ]
              refine wpAnyH_take (i := 35) (v := undef) (take_list rfl) (by kernel_rfl) (by kernel_rfl) (by kernel_rfl) (fun _ _ _ h => h) (Or.inr ⟨by rfl, rfl⟩) (by assumption) ?_
              try simp only [Act.put, List.setIfInBounds_toArray, List.set_cons_zero, List.set_cons_succ]
              refine wpAnyH_take (i := 36) (v := undef) (take_list rfl) (by kernel_rfl) (by kernel_rfl) (by kernel_rfl) (fun _ _ _ h => h) (Or.inr ⟨by rfl, rfl⟩) (by assumption) ?_
              try simp only [Act.put, List.setIfInBounds_toArray, List.set_cons_zero, List.set_cons_succ]
              refine wpAnyH_take (i := 37) (v := undef) (take_list rfl) (by kernel_rfl) (by kernel_rfl) (by kernel_rfl) (fun _ _ _ h => h) (Or.inr ⟨by rfl, rfl⟩) (by assumption) ?_
              try simp only [Act.put, List.setIfInBounds_toArray, List.set_cons_zero, List.set_cons_succ]
              refine wpAnyH_take (i := 38) (v := undef) (take_list rfl) (by kernel_rfl) (by kernel_rfl) (by kernel_rfl) (fun _ _ _ h => h) (Or.inr ⟨by rfl, rfl⟩) (by assumption) ?_
              try simp only [Act.put, List.setIfInBounds_toArray, List.set_cons_zero, List.set_cons_succ]
              refine wpAnyH_take (i := 39) (v := undef) (take_list rfl) (by kernel_rfl) (by kernel_rfl) (by kernel_rfl) (fun _ _ _ h => h) (Or.inr ⟨by rfl, rfl⟩) (by assumption) ?_
              try simp only [Act.put, List.setIfInBounds_toArray, List.set_cons_zero, List.set_cons_succ]
              refine wpAnyH_take (i := 40) (v := undef) (take_list rfl) (by kernel_rfl) (by kernel_rfl) (by kernel_rfl) (fun _ _ _ h => h) (Or.inr ⟨by rfl, rfl⟩) (by assumption) ?_
              try simp only [Act.put, List.setIfInBounds_toArray, List.set_cons_zero, List.set_cons_succ]
              refine wpAnyH_take (i := 41) (v := undef) (take_list rfl) (by kernel_rfl) (by kernel_rfl) (by kernel_rfl) (fun _ _ _ h => h) (Or.inr ⟨by rfl, rfl⟩) (by assumption) ?_
              try simp only [Act.put, List.setIfInBounds_toArray, List.set_cons_zero, List.set_cons_succ]
              refine wpAnyH_take (i := 42) (v := undef) (take_list rfl) (by kernel_rfl) (by kernel_rfl) (by kernel_rfl) (fun _ _ _ h => h) (Or.inr ⟨by rfl, rfl⟩) (by assumption) ?_
              try simp only [Act.put, List.setIfInBounds_toArray, List.set_cons_zero, List.set_cons_succ]
              refine wpAnyH_take (i := 43) (v := undef) (take_list rfl) (by kernel_rfl) (by kernel_rfl) (by kernel_rfl) (fun _ _ _ h => h) (Or.inr ⟨by rfl, rfl⟩) (by assumption) ?_
              try simp only [Act.put, List.setIfInBounds_toArray, List.set_cons_zero, List.set_cons_succ]
              refine wpAnyH_take (i := 44) (v := undef) (take_list rfl) (by kernel_rfl) (by kernel_rfl) (by kernel_rfl) (fun _ _ _ h => h) (Or.inr ⟨by rfl, rfl⟩) (by assumption) ?_
              try simp only [Act.put, List.setIfInBounds_toArray, List.set_cons_zero, List.set_cons_succ]
              refine wpAnyH_take (i := 45) (v := undef) (take_list rfl) (by kernel_rfl) (by kernel_rfl) (by kernel_rfl) (fun _ _ _ h => h) (Or.inr ⟨by rfl, rfl⟩) (by assumption) ?_
              try simp only [Act.put, List.setIfInBounds_toArray, List.set_cons_zero, List.set_cons_succ]
              refine wpAnyH_take (i := 46) (v := undef) (take_list rfl) (by kernel_rfl) (by kernel_rfl) (by kernel_rfl) (fun _ _ _ h => h) (Or.inr ⟨by rfl, rfl⟩) (by assumption) ?_
              try simp only [Act.put, List.setIfInBounds_toArray, List.set_cons_zero, List.set_cons_succ]
              refine wpAnyH_take (i := 47) (v := undef) (take_list rfl) (by kernel_rfl) (by kernel_rfl) (by kernel_rfl) (fun _ _ _ h => h) (Or.inr ⟨by rfl, rfl⟩) (by assumption) ?_
              try simp only [Act.put, List.setIfInBounds_toArray, List.set_cons_zero, List.set_cons_succ]
              refine wpAnyH_take (i := 48) (v := undef) (take_list rfl) (by kernel_rfl) (by kernel_rfl) (by kernel_rfl) (fun _ _ _ h => h) (Or.inr ⟨by rfl, rfl⟩) (by assumption) ?_
              try simp only [Act.put, List.setIfInBounds_toArray, List.set_cons_zero, List.set_cons_succ]
              refine wpAnyH_take (i := 49) (v := undef) (take_list rfl) (by kernel_rfl) (by kernel_rfl) (by kernel_rfl) (fun _ _ _ h => h) (Or.inr ⟨by rfl, rfl⟩) (by assumption) ?_
              try simp only [Act.put, List.setIfInBounds_toArray, List.set_cons_zero, List.set_cons_succ]
              refine wpAnyH_take (i := 50) (v := undef) (take_list rfl) (by kernel_rfl) (by kernel_rfl) (by kernel_rfl) (fun _ _ _ h => h) (Or.inr ⟨by rfl, rfl⟩) (by assumption) ?_
              try simp only [Act.put, List.setIfInBounds_toArray, List.set_cons_zero, List.set_cons_succ]
              refine wpAnyH_take (i := 51) (v := undef) (take_list rfl) (by kernel_rfl) (by kernel_rfl) (by kernel_rfl) (fun _ _ _ h => h) (Or.inr ⟨by rfl, rfl⟩) (by assumption) ?_
              try simp only [Act.put, List.setIfInBounds_toArray, List.set_cons_zero, List.set_cons_succ]
              refine wpAnyH_take (i := 52) (v := undef) (take_list rfl) (by kernel_rfl) (by kernel_rfl) (by kernel_rfl) (fun _ _ _ h => h) (Or.inr ⟨by rfl, rfl⟩) (by assumption) ?_
              try simp only [Act.put, List.setIfInBounds_toArray, List.set_cons_zero, List.set_cons_succ]
              refine wpAnyH_take (i := 53) (v := undef) (take_list rfl) (by kernel_rfl) (by kernel_rfl) (by kernel_rfl) (fun _ _ _ h => h) (Or.inr ⟨by rfl, rfl⟩) (by assumption) ?_
              try simp only [Act.put, List.setIfInBounds_toArray, List.set_cons_zero, List.set_cons_succ]
              refine wpAnyH_take (i := 54) (v := undef) (take_list rfl) (by kernel_rfl) (by kernel_rfl) (by kernel_rfl) (fun _ _ _ h => h) (Or.inr ⟨by rfl, rfl⟩) (by assumption) ?_
              try simp only [Act.put, List.setIfInBounds_toArray, List.set_cons_zero, List.set_cons_succ]
              refine wpAnyH_take (i := 55) (v := undef) (take_list rfl) (by kernel_rfl) (by kernel_rfl) (by kernel_rfl) (fun _ _ _ h => h) (Or.inr ⟨by rfl, rfl⟩) (by assumption) ?_
              try simp only [Act.put, List.setIfInBounds_toArray, List.set_cons_zero, List.set_cons_succ]
              refine wpAnyH_take (i := 56) (v := undef) (take_list rfl) (by kernel_rfl) (by kernel_rfl) (by kernel_rfl) (fun _ _ _ h => h) (Or.inr ⟨by rfl, rfl⟩) (by assumption) ?_
              try simp only [Act.put, List.setIfInBounds_toArray, List.set_cons_zero, List.set_cons_succ]
              refine wpAnyH_take (i := 57) (v := undef) (take_list rfl) (by kernel_rfl) (by kernel_rfl) (by kernel_rfl) (fun _ _ _ h => h) (Or.inr ⟨by rfl, rfl⟩) (by assumption) ?_
              try simp only [Act.put, List.setIfInBounds_toArray, List.set_cons_zero, List.set_cons_succ]
              refine wpAnyH_take (i := 58) (v := undef) (take_list rfl) (by kernel_rfl) (by kernel_rfl) (by kernel_rfl) (fun _ _ _ h => h) (Or.inr ⟨by rfl, rfl⟩) (by assumption) ?_
              try simp only [Act.put, List.setIfInBounds_toArray, List.set_cons_zero, List.set_cons_succ]
              refine wpAnyH_take (i := 59) (v := undef) (take_list rfl) (by kernel_rfl) (by kernel_rfl) (by kernel_rfl) (fun _ _ _ h => h) (Or.inr ⟨by rfl, rfl⟩) (by assumption) ?_
              try simp only [Act.put, List.setIfInBounds_toArray, List.set_cons_zero, List.set_cons_succ]
              refine wpAnyH_take (i := 60) (v := ?vH10n460) (take_list rfl) (by kernel_rfl) (by kernel_rfl) (by kernel_rfl) (fun _ _ _ h => h) (Or.inl ⟨by rfl, ?hyH10n460⟩) (by assumption) ?restH10n460
              case hyH10n460 => (intro w hSw; (try dsimp only at hSw); go_simp <;> with_reducible rfl)
              try simp only [Act.put, List.setIfInBounds_toArray, List.set_cons_zero, List.set_cons_succ]
              refine wpAnyH_take (i := 61) (v := ?vH10n461) (take_list rfl) (by kernel_rfl) (by kernel_rfl) (by kernel_rfl) (fun _ _ _ h => h) (Or.inl ⟨by rfl, ?hyH10n461⟩) (by assumption) ?restH10n461
              case hyH10n461 => (intro w hSw; (try dsimp only at hSw); go_simp <;> with_reducible rfl)
              try simp only [Act.put, List.setIfInBounds_toArray, List.set_cons_zero, List.set_cons_succ]
              refine wpAnyH_done (by kernel_rfl) ?_ _
              go_wp2_with fail
              go_roundw
              case rel => exact ⟨(j + 1) + 1, by go_num, hlt, by rw [HT.out]; go_num, BL5.out.trans (B6.out.mono hz5), BS5.out.trans (B6.out.mono hs5)⟩
              case measure => simp [intOf]; omega
    · have d1 : decide (j < kn) = false := by simpa using hlt
      obtain rfl : j = kn := by omega
      have hfull : (((keysC C).take j).map (dl C)).sum = usedC C := by
        rw [List.take_of_length_le (by rw [K4.out.len]; exact Nat.le_refl _)]
        exact used_keys WF.out.1
      rw [hfull]
      clear hbl hbs
      have hut : C.tombs.length ≤ 60 := WF.out.1.tombs
      go_wp2_with fail
      refine (cTombs F p 60 C _ (CA.out.below BS.out) (by omega)).mono ?_
      rintro e w6 ⟨tv, rfl, hot, hb6⟩
      obtain ⟨TA, rfl, hTA⟩ := hot.form
      have HTA := Lib.hid hTA
      have CA6 := Lib.hid ((CA.out.below BS.out).below hb6)
      have BL6 := Lib.hid (BL.out.trans (hb6.mono hz))
      clear hot hb6 hTA
      obtain ⟨tn, htn⟩ : ∃ tn, C.tombs.length = tn := ⟨_, rfl⟩
      have TN := Lib.hid htn
      rw [htn] at HTA hut ⊢
      clear htn
      go_wp2_with fail
      go_loopw [14] (fun i wx => ∃ j : Nat, i = .int .i64 j ∧ j ≤ tn ∧ Below w6.heap.size w6 wx) (fun i _ => tn - (intOf i).toNat)
      case atStart => exact ⟨0, rfl, Nat.zero_le _, Below.refl _ _⟩
      case round =>
        obtain ⟨y, rfl, hy, hb7⟩ := hrel
        have B7 := Lib.hid hb7
        by_cases hlt2 : y < tn
        · have d2 : decide (y < tn) = true := by simpa using hlt2
          obtain ⟨q, hq⟩ : ∃ q, C.tombs[y]? = some q := ⟨_, List.getElem?_eq_getElem (by rw [TN.out]; exact hlt2)⟩
          obtain ⟨g, rfl, hrow⟩ : ∃ g, TA = some ⟨g, 0, none⟩ ∧ RowAt w6 g 32 (tombVals C.tombs) := by
            rcases HTA.out with ⟨_, h⟩ | ⟨g, h1, _, h3⟩
            · omega
            · exact ⟨g, h1, h3⟩
          have hmk := WF.out.1.marks q (List.mem_of_getElem? hq)
          have t0 : wr.cell? ⟨g, y * 8, none⟩ = some (.int .i64 6) := (hb7.cell (p := ⟨g, y * 8, none⟩) hrow.size).trans (hrow.cell (tomb_get hq 0 (by omega)))
          have t2 : wr.cell? ⟨g, y * 8 + 2, none⟩ = some (.int .i64 q.2) := (hb7.cell (p := ⟨g, y * 8 + 2, none⟩) hrow.size).trans (hrow.cell (tomb_get hq 2 (by omega)))
          have t6 : wr.cell? ⟨g, y * 8 + 6, none⟩ = some (.int .i64 1) := (hb7.cell (p := ⟨g, y * 8 + 6, none⟩) hrow.size).trans (hrow.cell (tomb_get hq 6 (by omega)))
          have f1 : decide (q.2 < 1) = false := by have := hmk.2.2.1; simp; exact this
          have f2 : decide (C.gen < q.2) = false := by have := hmk.2.2.2; simp; exact this
          have CAd := Lib.hid (show CatAt F wr.drew p 60 C from (CA6.out.below hb7).below ⟨rfl, rfl, rfl, Nat.le_refl _, fun _ _ => rfl⟩)
          clear hq hrow hmk hb7
          go_upto_region 18 with fail
          refine wp_region_held_drew (S := (fun w' => w'.cell? ⟨g, y * 8, none⟩ = some (.int .i64 6) ∧ w'.cell? ⟨g, y * 8 + 2, none⟩ = some (.int .i64 q.2) ∧ w'.cell? ⟨g, y * 8 + 6, none⟩ = some (.int .i64 1))) (by kernel_rfl) ⟨t0, t2, t6⟩ (fun hHeld => ?_)
          refine wpAnyH_take (i := 0) (v := ?vHtn50) (take_list rfl) (by kernel_rfl) (by kernel_rfl) (by kernel_rfl) (fun _ _ _ h => h) (Or.inl ⟨by rfl, ?hyHtn50⟩) (by assumption) ?restHtn50
          case hyHtn50 => (intro w hSw; (try dsimp only at hSw); go_simp <;> with_reducible rfl)
          try simp only [Act.put, List.setIfInBounds_toArray, List.set_cons_zero, List.set_cons_succ]
          refine wpAnyH_take (i := 1) (v := ?vHtn51) (take_list rfl) (by kernel_rfl) (by kernel_rfl) (by kernel_rfl) (fun _ _ _ h => h) (Or.inl ⟨by rfl, ?hyHtn51⟩) (by assumption) ?restHtn51
          case hyHtn51 => (intro w hSw; (try dsimp only at hSw); go_simp <;> with_reducible rfl)
          try simp only [Act.put, List.setIfInBounds_toArray, List.set_cons_zero, List.set_cons_succ]
          refine wpAnyH_take (i := 2) (v := ?vHtn52) (take_list rfl) (by kernel_rfl) (by kernel_rfl) (by kernel_rfl) (fun _ _ _ h => h) (Or.inl ⟨by rfl, ?hyHtn52⟩) (by assumption) ?restHtn52
          case hyHtn52 => (intro w hSw; (try dsimp only at hSw); go_simp <;> with_reducible rfl)
          try simp only [Act.put, List.setIfInBounds_toArray, List.set_cons_zero, List.set_cons_succ]
          refine wpAnyH_take (i := 3) (v := ?vHtn53) (take_list rfl) (by kernel_rfl) (by kernel_rfl) (by kernel_rfl) (fun _ _ _ h => h) (Or.inl ⟨by rfl, ?hyHtn53⟩) (by assumption) ?restHtn53
          case hyHtn53 => (intro w hSw; (try dsimp only at hSw); go_simp <;> with_reducible rfl)
          try simp only [Act.put, List.setIfInBounds_toArray, List.set_cons_zero, List.set_cons_succ]
          refine wpAnyH_take (i := 4) (v := ?vHtn54) (take_list rfl) (by kernel_rfl) (by kernel_rfl) (by kernel_rfl) (fun _ _ _ h => h) (Or.inl ⟨by rfl, ?hyHtn54⟩) (by assumption) ?restHtn54
          case hyHtn54 => (intro w hSw; (try dsimp only at hSw); go_simp <;> with_reducible rfl)
          try simp only [Act.put, List.setIfInBounds_toArray, List.set_cons_zero, List.set_cons_succ]
          refine wpAnyH_take (i := 5) (v := ?vHtn55) (take_list rfl) (by kernel_rfl) (by kernel_rfl) (by kernel_rfl) (fun _ _ _ h => h) (Or.inl ⟨by rfl, ?hyHtn55⟩) (by assumption) ?restHtn55
          case hyHtn55 => (intro w hSw; (try dsimp only at hSw); go_simp <;> with_reducible rfl)
          try simp only [Act.put, List.setIfInBounds_toArray, List.set_cons_zero, List.set_cons_succ]
          refine wpAnyH_take (i := 6) (v := ?vHtn56) (take_list rfl) (by kernel_rfl) (by kernel_rfl) (by kernel_rfl) (fun _ _ _ h => h) (Or.inl ⟨by rfl, ?hyHtn56⟩) (by assumption) ?restHtn56
          case hyHtn56 => (intro w hSw; (try dsimp only at hSw); go_simp <;> with_reducible rfl)
          try simp only [Act.put, List.setIfInBounds_toArray, List.set_cons_zero, List.set_cons_succ]
          refine wpAnyH_take (i := 7) (v := ?vHtn57) (take_list rfl) (by kernel_rfl) (by kernel_rfl) (by kernel_rfl) (fun _ _ _ h => h) (Or.inl ⟨by rfl, ?hyHtn57⟩) (by assumption) ?restHtn57
          case hyHtn57 => (intro w hSw; (try dsimp only at hSw); go_simp <;> with_reducible rfl)
          try simp only [Act.put, List.setIfInBounds_toArray, List.set_cons_zero, List.set_cons_succ]
          refine wpAnyH_take (i := 8) (v := ?vHtn58) (take_list rfl) (by kernel_rfl) (by kernel_rfl) (by kernel_rfl) (fun _ _ _ h => h) (Or.inl ⟨by rfl, ?hyHtn58⟩) (by assumption) ?restHtn58
          case hyHtn58 => (intro w hSw; (try dsimp only at hSw); go_simp <;> with_reducible rfl)
          try simp only [Act.put, List.setIfInBounds_toArray, List.set_cons_zero, List.set_cons_succ]
          refine wpAnyH_take (i := 9) (v := ?vHtn59) (take_list rfl) (by kernel_rfl) (by kernel_rfl) (by kernel_rfl) (fun _ _ _ h => h) (Or.inl ⟨by rfl, ?hyHtn59⟩) (by assumption) ?restHtn59
          case hyHtn59 => (intro w hSw; (try dsimp only at hSw); go_simp <;> with_reducible rfl)
          try simp only [Act.put, List.setIfInBounds_toArray, List.set_cons_zero, List.set_cons_succ]
          refine wpAnyH_take (i := 10) (v := ?vHtn510) (take_list rfl) (by kernel_rfl) (by kernel_rfl) (by kernel_rfl) (fun _ _ _ h => h) (Or.inl ⟨by rfl, ?hyHtn510⟩) (by assumption) ?restHtn510
          case hyHtn510 => (intro w hSw; (try dsimp only at hSw); go_simp <;> with_reducible rfl)
          try simp only [Act.put, List.setIfInBounds_toArray, List.set_cons_zero, List.set_cons_succ]
          refine wpAnyH_take (i := 11) (v := ?vHtn511) (take_list rfl) (by kernel_rfl) (by kernel_rfl) (by kernel_rfl) (fun _ _ _ h => h) (Or.inl ⟨by rfl, ?hyHtn511⟩) (by assumption) ?restHtn511
          case hyHtn511 => (intro w hSw; (try dsimp only at hSw); go_simp <;> with_reducible rfl)
          try simp only [Act.put, List.setIfInBounds_toArray, List.set_cons_zero, List.set_cons_succ]
          refine wpAnyH_take (i := 12) (v := ?vHtn512) (take_list rfl) (by kernel_rfl) (by kernel_rfl) (by kernel_rfl) (fun _ _ _ h => h) (Or.inl ⟨by rfl, ?hyHtn512⟩) (by assumption) ?restHtn512
          case hyHtn512 => (intro w hSw; (try dsimp only at hSw); go_simp <;> with_reducible rfl)
          try simp only [Act.put, List.setIfInBounds_toArray, List.set_cons_zero, List.set_cons_succ]
          refine wpAnyH_ready (rs := [13]) (by kernel_rfl) (by simp) ?_
          refine AllReadyH.cons rfl (fun K hK => ?_) AllReadyH.nil
          go_simp
          go_wp2_with (go_at_call 19; refine (cGen F p 60 C _ CAd.out).mono ?_; rintro e w7 ⟨rfl, rfl⟩)
          refine hK.out _ _ hHeld (fun hHeld => ?_)
          clear hK K
          refine wpAnyH_take (i := 14) (v := ?vHtn514) (take_list rfl) (by kernel_rfl) (by kernel_rfl) (by kernel_rfl) (fun _ _ _ h => h) (Or.inl ⟨by rfl, ?hyHtn514⟩) (by assumption) ?restHtn514
          case hyHtn514 => (intro w hSw; (try dsimp only at hSw); go_simp <;> with_reducible rfl)
          try simp only [Act.put, List.setIfInBounds_toArray, List.set_cons_zero, List.set_cons_succ]
          refine wpAnyH_take (i := 15) (v := ?vHtn515) (take_list rfl) (by kernel_rfl) (by kernel_rfl) (by kernel_rfl) (fun _ _ _ h => h) (Or.inl ⟨by rfl, ?hyHtn515⟩) (by assumption) ?restHtn515
          case hyHtn515 => (intro w hSw; (try dsimp only at hSw); go_simp <;> with_reducible rfl)
          try simp only [Act.put, List.setIfInBounds_toArray, List.set_cons_zero, List.set_cons_succ]
          refine wpAnyH_take (i := 16) (v := ?vHtn516) (take_list rfl) (by kernel_rfl) (by kernel_rfl) (by kernel_rfl) (fun _ _ _ h => h) (Or.inl ⟨by rfl, ?hyHtn516⟩) (by assumption) ?restHtn516
          case hyHtn516 => (intro w hSw; (try dsimp only at hSw); go_simp <;> with_reducible rfl)
          try simp only [Act.put, List.setIfInBounds_toArray, List.set_cons_zero, List.set_cons_succ]
          refine wpAnyH_take (i := 17) (v := ?vHtn517) (take_list rfl) (by kernel_rfl) (by kernel_rfl) (by kernel_rfl) (fun _ _ _ h => h) (Or.inl ⟨by rfl, ?hyHtn517⟩) (by assumption) ?restHtn517
          case hyHtn517 => (intro w hSw; (try dsimp only at hSw); go_simp <;> with_reducible rfl)
          try simp only [Act.put, List.setIfInBounds_toArray, List.set_cons_zero, List.set_cons_succ]
          refine wpAnyH_take (i := 18) (v := ?vHtn518) (take_list rfl) (by kernel_rfl) (by kernel_rfl) (by kernel_rfl) (fun _ _ _ h => h) (Or.inl ⟨by rfl, ?hyHtn518⟩) (by assumption) ?restHtn518
          case hyHtn518 => (intro w hSw; (try dsimp only at hSw); go_simp <;> with_reducible rfl)
          try simp only [Act.put, List.setIfInBounds_toArray, List.set_cons_zero, List.set_cons_succ]
          refine wpAnyH_take (i := 19) (v := ?vHtn519) (take_list rfl) (by kernel_rfl) (by kernel_rfl) (by kernel_rfl) (fun _ _ _ h => h) (Or.inl ⟨by rfl, ?hyHtn519⟩) (by assumption) ?restHtn519
          case hyHtn519 => (intro w hSw; (try dsimp only at hSw); go_simp <;> with_reducible rfl)
          try simp only [Act.put, List.setIfInBounds_toArray, List.set_cons_zero, List.set_cons_succ]
          refine wpAnyH_take (i := 20) (v := ?vHtn520) (take_list rfl) (by kernel_rfl) (by kernel_rfl) (by kernel_rfl) (fun _ _ _ h => h) (Or.inl ⟨by rfl, ?hyHtn520⟩) (by assumption) ?restHtn520
          case hyHtn520 => (intro w hSw; (try dsimp only at hSw); go_simp <;> with_reducible rfl)
          try simp only [Act.put, List.setIfInBounds_toArray, List.set_cons_zero, List.set_cons_succ]
          refine wpAnyH_take (i := 21) (v := ?vHtn521) (take_list rfl) (by kernel_rfl) (by kernel_rfl) (by kernel_rfl) (fun _ _ _ h => h) (Or.inl ⟨by rfl, ?hyHtn521⟩) (by assumption) ?restHtn521
          case hyHtn521 => (intro w hSw; (try dsimp only at hSw); go_simp <;> with_reducible rfl)
          try simp only [Act.put, List.setIfInBounds_toArray, List.set_cons_zero, List.set_cons_succ]
          refine wpAnyH_take (i := 22) (v := ?vHtn522) (take_list rfl) (by kernel_rfl) (by kernel_rfl) (by kernel_rfl) (fun _ _ _ h => h) (Or.inl ⟨by rfl, ?hyHtn522⟩) (by assumption) ?restHtn522
          case hyHtn522 => (intro w hSw; (try dsimp only at hSw); go_simp <;> with_reducible rfl)
          try simp only [Act.put, List.setIfInBounds_toArray, List.set_cons_zero, List.set_cons_succ]
          refine wpAnyH_take (i := 23) (v := ?vHtn523) (take_list rfl) (by kernel_rfl) (by kernel_rfl) (by kernel_rfl) (fun _ _ _ h => h) (Or.inl ⟨by rfl, ?hyHtn523⟩) (by assumption) ?restHtn523
          case hyHtn523 => (intro w hSw; (try dsimp only at hSw); go_simp <;> with_reducible rfl)
          try simp only [Act.put, List.setIfInBounds_toArray, List.set_cons_zero, List.set_cons_succ]
          refine wpAnyH_take (i := 24) (v := ?vHtn524) (take_list rfl) (by kernel_rfl) (by kernel_rfl) (by kernel_rfl) (fun _ _ _ h => h) (Or.inl ⟨by rfl, ?hyHtn524⟩) (by assumption) ?restHtn524
          case hyHtn524 => (intro w hSw; (try dsimp only at hSw); go_simp <;> with_reducible rfl)
          try simp only [Act.put, List.setIfInBounds_toArray, List.set_cons_zero, List.set_cons_succ]
          refine wpAnyH_take (i := 25) (v := ?vHtn525) (take_list rfl) (by kernel_rfl) (by kernel_rfl) (by kernel_rfl) (fun _ _ _ h => h) (Or.inl ⟨by rfl, ?hyHtn525⟩) (by assumption) ?restHtn525
          case hyHtn525 => (intro w hSw; (try dsimp only at hSw); go_simp <;> with_reducible rfl)
          try simp only [Act.put, List.setIfInBounds_toArray, List.set_cons_zero, List.set_cons_succ]
          refine wpAnyH_take (i := 26) (v := ?vHtn526) (take_list rfl) (by kernel_rfl) (by kernel_rfl) (by kernel_rfl) (fun _ _ _ h => h) (Or.inl ⟨by rfl, ?hyHtn526⟩) (by assumption) ?restHtn526
          case hyHtn526 => (intro w hSw; (try dsimp only at hSw); go_simp <;> with_reducible rfl)
          try simp only [Act.put, List.setIfInBounds_toArray, List.set_cons_zero, List.set_cons_succ]
          refine wpAnyH_take (i := 27) (v := ?vHtn527) (take_list rfl) (by kernel_rfl) (by kernel_rfl) (by kernel_rfl) (fun _ _ _ h => h) (Or.inl ⟨by rfl, ?hyHtn527⟩) (by assumption) ?restHtn527
          case hyHtn527 => (intro w hSw; (try dsimp only at hSw); go_simp <;> with_reducible rfl)
          try simp only [Act.put, List.setIfInBounds_toArray, List.set_cons_zero, List.set_cons_succ]
          refine wpAnyH_take (i := 28) (v := ?vHtn528) (take_list rfl) (by kernel_rfl) (by kernel_rfl) (by kernel_rfl) (fun _ _ _ h => h) (Or.inl ⟨by rfl, ?hyHtn528⟩) (by assumption) ?restHtn528
          case hyHtn528 => (intro w hSw; (try dsimp only at hSw); go_simp <;> with_reducible rfl)
          try simp only [Act.put, List.setIfInBounds_toArray, List.set_cons_zero, List.set_cons_succ]
          refine wpAnyH_take (i := 29) (v := ?vHtn529) (take_list rfl) (by kernel_rfl) (by kernel_rfl) (by kernel_rfl) (fun _ _ _ h => h) (Or.inl ⟨by rfl, ?hyHtn529⟩) (by assumption) ?restHtn529
          case hyHtn529 => (intro w hSw; (try dsimp only at hSw); go_simp <;> with_reducible rfl)
          try simp only [Act.put, List.setIfInBounds_toArray, List.set_cons_zero, List.set_cons_succ]
          refine wpAnyH_take (i := 30) (v := ?vHtn530) (take_list rfl) (by kernel_rfl) (by kernel_rfl) (by kernel_rfl) (fun _ _ _ h => h) (Or.inl ⟨by rfl, ?hyHtn530⟩) (by assumption) ?restHtn530
          case hyHtn530 => (intro w hSw; (try dsimp only at hSw); go_simp <;> with_reducible rfl)
          try simp only [Act.put, List.setIfInBounds_toArray, List.set_cons_zero, List.set_cons_succ]
          refine wpAnyH_take (i := 31) (v := ?vHtn531) (take_list rfl) (by kernel_rfl) (by kernel_rfl) (by kernel_rfl) (fun _ _ _ h => h) (Or.inl ⟨by rfl, ?hyHtn531⟩) (by assumption) ?restHtn531
          case hyHtn531 => (intro w hSw; (try dsimp only at hSw); go_simp <;> with_reducible rfl)
          try simp only [Act.put, List.setIfInBounds_toArray, List.set_cons_zero, List.set_cons_succ]
          refine wpAnyH_done (by kernel_rfl) ?_ _
          go_wp2_with fail
          go_roundw
          case rel => exact ⟨y + 1, by go_num, hlt2, below_of_drewR B7.out⟩
          case measure => simp [intOf]; omega
        · have d2 : decide (y < tn) = false := by simpa using hlt2
          go_wp2_with fail
          refine (awake13 _).mono ?_
          rintro e w9 ⟨rfl, hb9⟩
          have CA9 := Lib.hid ((CA6.out.below B7.out).below hb9)
          have B9 := Lib.hid ((BL6.out.trans (B7.out.mono BL6.out.size)).trans (hb9.mono (Nat.le_trans BL6.out.size B7.out.size)))
          clear hb9 hb7
          go_wp2_with fail
          refine (cUsed F p 60 C _ CA9.out (by omega)).mono ?_
          rintro e w10 ⟨rfl, hb10⟩
          have B10 := Lib.hid (B9.out.trans (hb10.mono B9.out.size))
          clear hb10
          go_wp2_with fail
          go_ret
          exact ⟨rfl, B10.out⟩
end
end Go.Proofs.YtmkccblcmiflfaaGreat
