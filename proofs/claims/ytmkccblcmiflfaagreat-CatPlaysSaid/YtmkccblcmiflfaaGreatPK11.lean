/- Texts joined: KR17, KC33, KR6, KR7, KR21. No condition beyond those that each theorem states. -/
import Derived.Test.YtmkccblcmiflfaaGreatPK6
import Derived.Test.YtmkccblcmiflfaaGreatPK9
import Derived.Test.YtmkccblcmiflfaaGreatPK0
namespace Go.Proofs.YtmkccblcmiflfaaGreat
open Go.RowKit Go.Maps Go.WideMaps Go.Sort

theorem strVals_one (L : List Str) : ∀ u ∈ strVals L, u.oneCell' = true := by
  intro u hu
  obtain ⟨q, _, rfl⟩ := List.mem_map.1 hu
  rfl
theorem strVals_take (L : List Str) (k : Nat) : ∀ q u, (strVals (L.take k))[q]? = some u → (strVals L)[0 + q]? = some u := by
  intro q u hu
  unfold strVals at *
  rw [List.map_take] at hu
  rw [Nat.zero_add]
  rw [List.getElem?_take] at hu
  split at hu
  · exact hu
  · cases hu
theorem strVals_drop (L : List Str) (k : Nat) : ∀ q u, (strVals (L.drop k))[q]? = some u → (strVals L)[k + q]? = some u := by
  intro q u hu
  unfold strVals at *
  rwa [List.map_drop, List.getElem?_drop] at hu
theorem strVals_app (L M : List Str) : strVals (L ++ M) = strVals L ++ strVals M := by simp [strVals]
theorem strVals_len (L : List Str) : (strVals L).length = L.length := by simp [strVals]
theorem fold_take {S : List (Str × Str)} {q : Nat} {x : Str × Str} (h : S[q]? = some x) (K : List Str) : (S.take (q + 1)).foldl (fun l q => insS l q.1) K = insS ((S.take q).foldl (fun l q => insS l q.1) K) x.1 := by
  rw [List.take_add_one, h, Option.toList_some, List.foldl_append]
  rfl
theorem own_form1 {w : World} {base : Nat} {t : TypeId} {size n : Nat} {v : Value} {xs : List Value} (h : w.ownsRow base t size v n xs) : ∃ B c, v = .slice B n c ∧ n ≤ c ∧ ((B = none ∧ n = 0 ∧ c = 0) ∨ ∃ g, B = some ⟨g, 0, none⟩ ∧ base ≤ g ∧ g < w.heap.size ∧ RowAt w g t xs) := by
  obtain ⟨B, c, rfl, h1, _, h3⟩ := own_form h
  refine ⟨B, c, rfl, h1, h3.imp id ?_⟩
  rintro ⟨g, rfl⟩
  have h2 := h.lt g rfl
  exact ⟨g, rfl, h2.1, h2.2, RowAt.of_own h⟩
section
set_option maxHeartbeats 16000000
set_option maxRecDepth 100000
theorem rKeys (F : Nat → Prop) (p N : Nat) (R : CV) (w : World) (h : RefAt F w p N R) (hN : N ≤ 10000) :
    Calls Tryz.prog 58 #[.pointer (some ⟨p, 0, none⟩)] w fun e w' => ∃ v, e = .returned v ∧ w'.ownsRow w.heap.size 9 1 v (rkeysC R).length (strVals (rkeysC R)) ∧ Below w.heap.size w w' := by
  obtain ⟨i0, hi0, hz0, hz1, hz2⟩ := info_parts str_info
  obtain ⟨sw, sh, sb, st, sr, ER, hr⟩ := h
  obtain ⟨WB, wc, rfl, _, _, hWB⟩ := own_form hr.wait.1
  obtain ⟨B, c, rfl, hnc, hcm, hB⟩ := own_form hr.here.1
  have hpz0 : p < w.heap.size := hr.blk.size
  have c0 : w.cell? ⟨p, 0, none⟩ = some (.slice WB R.staged.length wc) := hr.blk.cell 0
  have c1 : w.cell? ⟨p, 1, none⟩ = some (.slice B R.entries.length c) := hr.blk.cell 1
  have hn : R.entries.length ≤ 10000 := by have := hr.lens; omega
  have hm : R.staged.length ≤ 10000 := by have := hr.lens; omega
  have HC := Lib.hid (show ∀ (j : Nat) x, R.entries[j]? = some x → ∃ g, B = some ⟨g, 0, none⟩ ∧ g < w.heap.size ∧ w.cell? ⟨g, j * 5, none⟩ = some (encStr x.1) from fun j x hx => by
    have hlt : j < R.entries.length := (List.getElem?_eq_some_iff.1 hx).1
    rcases hB with ⟨_, h0, _⟩ | ⟨g, rfl⟩
    · omega
    · exact ⟨g, rfl, (hr.here.1.lt g rfl).2, by obtain ⟨r, hr1, hr2⟩ := ent_at hr.ents hx; have h1 := hr.here.row.cell (ent5_get hr1 0 (by omega)); simp only [Nat.add_zero] at h1; rw [hr2] at h1; exact h1⟩)
  have HW := Lib.hid (show ∀ (j : Nat) x, R.staged[j]? = some x → ∃ g, WB = some ⟨g, 0, none⟩ ∧ g < w.heap.size ∧ w.cell? ⟨g, j * 2, none⟩ = some (encStr x.1) from fun j x hx => by
    have hlt : j < R.staged.length := (List.getElem?_eq_some_iff.1 hx).1
    rcases hWB with ⟨_, h0, _⟩ | ⟨g, rfl⟩
    · omega
    · exact ⟨g, rfl, (hr.wait.1.lt g rfl).2, hr.wait.row.cell (wait_get hx).1⟩)
  generalize hnl : R.entries.length = n at *
  generalize hml : R.staged.length = m at *
  have HNL := Lib.hid hnl
  have HML := Lib.hid hml
  clear hr hnl hml hB hWB hcm hnc
  go_enter Tryz.func58, Tryz.ntmps58
  go_wp2_with fail
  go_loopw [3, 4] (fun v i wx => ∃ j : Nat, i = .int .i64 j ∧ j ≤ n ∧ wx.ownsRow w.heap.size 9 1 v j (strVals ((R.entries.take j).map Prod.fst)) ∧ Below w.heap.size w wx) (fun _ i _ => n - (intOf i).toNat)
  case atStart => exact ⟨0, rfl, Nat.zero_le _, by exact own_made w _ 1 rfl (Nat.le_refl _), (Below.refl _ _).alloc (Nat.le_refl _) _⟩
  case round =>
    obtain ⟨j, rfl, hj, hown, hbl⟩ := hrel
    obtain ⟨wo, rfl⟩ : ∃ wo : World, wo = wr := ⟨_, rfl⟩
    have OW := Lib.hid hown
    have BL := Lib.hid hbl
    have hz := hbl.size
    obtain ⟨A1, k1, rfl, hn1, hc1, hA1⟩ := own_form hown
    by_cases hlt2 : j < n
    · have d1 : decide (j < n) = true := by simpa using hlt2
      obtain ⟨x, hx⟩ : ∃ x, R.entries[j]? = some x := ⟨_, List.getElem?_eq_getElem (by rw [HNL.out]; exact hlt2)⟩
      obtain ⟨g, rfl, hg, k0⟩ := HC.out j x hx
      have q0 : wo.cell? ⟨g, j * 5, none⟩ = some (encStr x.1) := (hbl.cell (p := ⟨g, j * 5, none⟩) hg).trans k0
      have q1 : wo.cell? ⟨p, 1, none⟩ = some (.slice (some ⟨g, 0, none⟩) n c) := (hbl.cell (p := ⟨p, 1, none⟩) hpz0).trans c1
      have HT := Lib.hid (show strVals ((R.entries.take (j + 1)).map Prod.fst) = strVals ((R.entries.take j).map Prod.fst) ++ [encStr x.1] by rw [List.take_add_one, hx, Option.toList_some, List.map_append, strVals_app]; rfl)
      clear hown hbl hx k0
      go_wp2_with (
        (at_builtin
         refine wpList_append_src _ rfl (.tmp 18) (.tmp 27) 36 rfl w.heap.size 9 i0 _ 1 16 Tryz.underlying36 hi0 hz0 hz1 hz2 rfl (by omega) _ j _ rfl (by exact OW.out.alloc _) (some ⟨wo.heap.size, 0, none⟩) 1 1 [encStr x.1] rfl rfl (fun e => by cases e) (by exact src_new _ _ _ _) (by intro u hu; simp only [List.mem_cons, List.not_mem_nil, or_false] at hu; subst hu; rfl) (by simp only [maxLen]; omega) (by omega) (by simp; omega) ?_
         intro v' w1 hown1 hgr1 hat1
         have OW1 := Lib.hid hown1
         have HB1 := Lib.hid (((BL.out.alloc hz _).grown hgr1 (by simp; omega) (fun q hq => (OW.out.lt q hq).1)))
         clear hown1 hgr1 hat1))
      go_roundw
      case rel => exact ⟨j + 1, by go_num, hlt2, by rw [HT.out]; exact OW1.out, HB1.out⟩
      case measure => simp [intOf]; omega
    · have d1 : decide (j < n) = false := by simpa using hlt2
      obtain rfl : j = n := by omega
      have ho := OW.out
      rw [List.take_of_length_le (by rw [HNL.out]; exact Nat.le_refl _)] at ho
      have O0 := Lib.hid (show wo.ownsRow w.heap.size 9 1 (.slice A1 j k1) (R.entries.map Prod.fst).length (strVals (R.entries.map Prod.fst)) by rw [List.length_map, HNL.out]; exact ho)
      have e1 : wo.cell? ⟨p, 1, none⟩ = some (.slice B j c) := (BL.out.cell (p := ⟨p, 1, none⟩) hpz0).trans c1
      clear hown hbl ho HC c1
      go_wp2_with fail
      go_loopw [3, 5] (fun v i wx => ∃ q : Nat, i = .int .i64 q ∧ q ≤ m ∧ wx.ownsRow w.heap.size 9 1 v ((R.staged.take q).foldl (fun l q => insS l q.1) (R.entries.map Prod.fst)).length (strVals ((R.staged.take q).foldl (fun l q => insS l q.1) (R.entries.map Prod.fst))) ∧ Below w.heap.size w wx) (fun _ i _ => m - (intOf i).toNat)
      case atStart => exact ⟨0, rfl, Nat.zero_le _, O0.out, BL.out⟩
      case round =>
        clear O0 OW BL
        obtain ⟨q, rfl, hq, hown, hbl⟩ := hrel
        obtain ⟨wk, rfl⟩ : ∃ wk : World, wk = wr := ⟨_, rfl⟩
        have hzk := hbl.size
        have BLK := Lib.hid hbl
        have cc0 : wk.cell? ⟨p, 0, none⟩ = some (.slice WB m wc) := (hbl.cell (p := ⟨p, 0, none⟩) hpz0).trans c0
        have hpz : p < wk.heap.size := Nat.lt_of_lt_of_le hpz0 hzk
        by_cases hlt3 : q < m
        · have d2 : decide (q < m) = true := by simpa using hlt3
          obtain ⟨x, hx⟩ : ∃ x, R.staged[q]? = some x := ⟨_, List.getElem?_eq_getElem (by rw [HML.out]; exact hlt3)⟩
          obtain ⟨g0, rfl, hg00, k0⟩ := HW.out q x hx
          have y1 : wk.cell? ⟨g0, q * 2, none⟩ = some (encStr x.1) := (hbl.cell (p := ⟨g0, q * 2, none⟩) hg00).trans k0
          have hg0 : g0 < wk.heap.size := Nat.lt_of_lt_of_le hg00 hzk
          have HT := Lib.hid (fold_take hx (R.entries.map Prod.fst))
          have hLl : ((R.staged.take q).foldl (fun l q => insS l q.1) (R.entries.map Prod.fst)).length ≤ j + q := by
            rw [(foldS_perm _ _).length_eq, List.length_append, List.length_map, List.length_map, List.length_take, HNL.out, HML.out]
            omega
          generalize (R.staged.take q).foldl (fun l q => insS l q.1) (R.entries.map Prod.fst) = L at *
          obtain ⟨B, c, rfl, hnc, hB⟩ := own_form1 hown
          have OW := Lib.hid hown
          obtain ⟨n, hn'⟩ : ∃ n, L.length = n := ⟨_, rfl⟩
          have HL := Lib.hid hn'
          have HR := Lib.hid (show ∀ W : World, Below wk.heap.size wk W → ∀ (j : Nat) y, L[j]? = some y → ∃ g, B = some ⟨g, 0, none⟩ ∧ W.cell? ⟨g, j, none⟩ = some (encStr y) from fun W hb j y hy => by
            rcases hB with ⟨_, h0, _⟩ | ⟨g, rfl, _, h2, h3⟩
            · have := (List.getElem?_eq_some_iff.1 hy).1
              omega
            · exact ⟨g, rfl, (hb.cell (p := ⟨g, j, none⟩) h2).trans (h3.cell (strVals_get hy))⟩)
          rw [hn'] at hnc hLl hB ⊢
          clear hown hbl hx k0 hn'
          go_upto_block 4 with fail
          go_cut [6] (fun s wx => ∃ j : Nat, s = .int .i64 j ∧ j ≤ n ∧ L.takeWhile (fun y => decide (y < x.1)) = L.take j ∧ L.dropWhile (fun y => decide (y < x.1)) = L.drop j ∧ Below wk.heap.size wk wx)
          case first =>
            go_wp2_with fail
            go_loopw [6] (fun i wx => ∃ j : Nat, i = .int .i64 j ∧ j ≤ n ∧ (∀ (t : Nat) y, t < j → L[t]? = some y → y < x.1) ∧ Below wk.heap.size wk wx) (fun i _ => n - (intOf i).toNat)
            case atStart => exact ⟨0, rfl, Nat.zero_le _, fun t y ht _ => by omega, Below.refl _ _⟩
            case round =>
              obtain ⟨j, rfl, hj, hlo, hbj⟩ := hrel
              have LO := Lib.hid hlo
              have BJ := Lib.hid hbj
              have dc0 : wr.cell? ⟨p, 0, none⟩ = some (.slice (some ⟨g0, 0, none⟩) m wc) := (hbj.cell (p := ⟨p, 0, none⟩) hpz).trans cc0
              have dy1 : wr.cell? ⟨g0, q * 2, none⟩ = some (encStr x.1) := (hbj.cell (p := ⟨g0, q * 2, none⟩) hg0).trans y1
              clear hlo
              by_cases hlt : j < n
              · have d3 : decide (j < n) = true := by simpa using hlt
                obtain ⟨y, hy⟩ : ∃ y, L[j]? = some y := ⟨_, List.getElem?_eq_getElem (by rw [HL.out]; exact hlt)⟩
                obtain ⟨g, rfl, k0⟩ := HR.out wr hbj j y hy
                have HY := Lib.hid hy
                clear hy hbj hB
                by_cases hls : y < x.1
                · have hb : Op.bytesLess y x.1 = true := by rw [bytesLess_eq]; simpa using hls
                  have hb2 : Op.bytesLess (ByteArray.mk y.toArray).toList (ByteArray.mk x.1.toArray).toList = true := by rw [ByteArray.toList_mk, ByteArray.toList_mk]; exact hb
                  have HLS := Lib.hid hls
                  clear hls
                  go_wp2_with fail
                  go_quiet (fail)
                  go_wp2_with fail
                  go_roundw
                  case rel => exact ⟨j + 1, by go_num, hlt, fun t z ht hz => by
                    rcases Nat.lt_succ_iff_lt_or_eq.1 ht with h | h
                    · exact LO.out t z h hz
                    · rw [h, HY.out] at hz
                      cases hz
                      exact HLS.out, below_drewN BJ.out _⟩
                  case measure => simp [intOf]; omega
                · have hb : Op.bytesLess y x.1 = false := by rw [bytesLess_eq]; simpa using hls
                  have hb2 : Op.bytesLess (ByteArray.mk y.toArray).toList (ByteArray.mk x.1.toArray).toList = false := by rw [ByteArray.toList_mk, ByteArray.toList_mk]; exact hb
                  have TW := Lib.hid (tw_at (p := fun y => decide (y < x.1)) (l := L) (i := j) (fun t z ht hz => decide_eq_true (LO.out t z ht hz)) (by rw [HL.out]; exact hj) (fun z hz => by rw [HY.out] at hz; cases hz; exact decide_eq_false hls))
                  clear hls
                  go_wp2_with fail
                  go_quiet (fail)
                  go_wp2_with fail
                  go_meet
                  exact ⟨j, rfl, hj, TW.out.1, TW.out.2, below_drewN BJ.out _⟩
              · have d3 : decide (j < n) = false := by simpa using hlt
                obtain rfl : j = n := by omega
                have TW := Lib.hid (tw_at (p := fun y => decide (y < x.1)) (l := L) (i := j) (fun t z ht hz => decide_eq_true (LO.out t z ht hz)) (by rw [HL.out]; exact hj) (fun z hz => by rw [List.getElem?_eq_none (by rw [HL.out]; exact Nat.le_refl _)] at hz; cases hz))
                clear hbj hB
                go_wp2_with fail
                go_quiet (fail)
                go_wp2_with fail
                go_meet
                exact ⟨j, rfl, hj, TW.out.1, TW.out.2, below_drewN BJ.out _⟩
          case rest =>
            obtain ⟨j, rfl, hjn, htw, hdw, hbw⟩ := hcut
            obtain ⟨wm, rfl⟩ : ∃ wm : World, wm = wc := ⟨_, rfl⟩
            have HI := Lib.hid (show insS L x.1 = L.take j ++ x.1 :: L.drop j by unfold insS; rw [htw, hdw])
            have BM := Lib.hid hbw
            have hzm := hbw.size
            have OM := Lib.hid (show wm.ownsRow w.heap.size 9 1 (.slice B n c) n (strVals L) by
              have h := OW.out
              rw [HL.out] at h
              exact own_of_eq h (fun q hq => hbw.block q (h.lt q hq).2))
            have ec0 : wm.cell? ⟨p, 0, none⟩ = some (.slice (some ⟨g0, 0, none⟩) m wc) := (hbw.cell (p := ⟨p, 0, none⟩) hpz).trans cc0
            have ey1 : wm.cell? ⟨g0, q * 2, none⟩ = some (encStr x.1) := (hbw.cell (p := ⟨g0, q * 2, none⟩) hg0).trans y1
            have hpm : p < wm.heap.size := Nat.lt_of_lt_of_le hpz hzm
            have hgm : g0 < wm.heap.size := Nat.lt_of_lt_of_le hg0 hzm
            have hB2 : (B = none ∧ n = 0 ∧ c = 0) ∨ ∃ g, B = some ⟨g, 0, none⟩ ∧ g < wm.heap.size := hB.imp id (fun ⟨g, h1, _, h3, _⟩ => ⟨g, h1, Nat.lt_of_lt_of_le h3 hzm⟩)
            clear cc0 y1 hpz hg0 htw hdw hbw hB OW HR
            go_upto_region 12 with fail
            go_cut [7] (fun s wx => ∃ B6 c6, s = .slice B6 (j + 1) c6 ∧ wx.ownsRow wm.heap.size 9 1 (.slice B6 (j + 1) c6) (j + 1) (strVals (L.take j) ++ [encStr x.1]) ∧ Below wm.heap.size wm wx)
            case first =>
              rcases hB2 with ⟨rfl, h0, h1⟩ | ⟨g, rfl, hgl⟩
              · obtain rfl : j = 0 := by omega
                subst h0 h1
                go_region_law ((first
                  | (refine step_append_any _ rfl (.tmp 59) (.tmp 62) 36 rfl wm.heap.size 9 i0 _ 1 16 Tryz.underlying36 hi0 hz0 hz1 hz2 rfl (by omega) _ 0 [] rfl (own_d1 wm _ 1) none 0 0 (([] : List Value)) rfl (by rfl) (fun _ => rfl) (.inl ⟨rfl, rfl⟩) (fun u hu => by cases hu) (by simp only [maxLen]; omega) (by omega) (by simp <;> omega) ?_
                     intro B5 c5 w5 hown5 hgr5
                     have O5 := Lib.hid (show w5.ownsRow wm.heap.size 9 1 (.slice B5 0 c5) 0 (([] : List Value)) by simpa using hown5)
                     have C5 := Lib.hid (show Below wm.heap.size wm w5 from grown_d1 hgr5)
                     have K0a : w5.cell? ⟨p, 0, none⟩ = some (.slice (some ⟨g0, 0, none⟩) m wc) := (C5.out.cell (p := ⟨p, 0, none⟩) hpm).trans ec0
                     have K1a : w5.cell? ⟨g0, (q * 2), none⟩ = some (encStr x.1) := (C5.out.cell (p := ⟨g0, (q * 2), none⟩) hgm).trans ey1
                     clear hown5 hgr5)
                  | (refine step_append_any _ rfl (.tmp 59) (.tmp 62) 36 rfl wm.heap.size 9 i0 _ 1 16 Tryz.underlying36 hi0 hz0 hz1 hz2 rfl (by omega) _ 0 [] rfl (own_d2 wm _ 1 _) none 0 0 (([] : List Value)) rfl (by rfl) (fun _ => rfl) (.inl ⟨rfl, rfl⟩) (fun u hu => by cases hu) (by simp only [maxLen]; omega) (by omega) (by simp <;> omega) ?_
                     intro B5 c5 w5 hown5 hgr5
                     have O5 := Lib.hid (show w5.ownsRow wm.heap.size 9 1 (.slice B5 0 c5) 0 (([] : List Value)) by simpa using hown5)
                     have C5 := Lib.hid (show Below wm.heap.size wm w5 from grown_d2 hgr5)
                     have K0a : w5.cell? ⟨p, 0, none⟩ = some (.slice (some ⟨g0, 0, none⟩) m wc) := (C5.out.cell (p := ⟨p, 0, none⟩) hpm).trans ec0
                     have K1a : w5.cell? ⟨g0, (q * 2), none⟩ = some (encStr x.1) := (C5.out.cell (p := ⟨g0, (q * 2), none⟩) hgm).trans ey1
                     have KS := Lib.hid (src_k2 (cs := [encStr x.1]) (m := 1) hgr5)
                     clear hown5 hgr5)
                  | (refine step_append_any _ rfl (.tmp 59) (.tmp 62) 36 rfl wm.heap.size 9 i0 _ 1 16 Tryz.underlying36 hi0 hz0 hz1 hz2 rfl (by omega) _ 0 [] rfl (own_d3 wm _ 1 _) none 0 0 (([] : List Value)) rfl (by rfl) (fun _ => rfl) (.inl ⟨rfl, rfl⟩) (fun u hu => by cases hu) (by simp only [maxLen]; omega) (by omega) (by simp <;> omega) ?_
                     intro B5 c5 w5 hown5 hgr5
                     have O5 := Lib.hid (show w5.ownsRow wm.heap.size 9 1 (.slice B5 0 c5) 0 (([] : List Value)) by simpa using hown5)
                     have C5 := Lib.hid (show Below wm.heap.size wm w5 from grown_d3 hgr5)
                     have K0a : w5.cell? ⟨p, 0, none⟩ = some (.slice (some ⟨g0, 0, none⟩) m wc) := (C5.out.cell (p := ⟨p, 0, none⟩) hpm).trans ec0
                     have K1a : w5.cell? ⟨g0, (q * 2), none⟩ = some (encStr x.1) := (C5.out.cell (p := ⟨g0, (q * 2), none⟩) hgm).trans ey1
                     have KS := Lib.hid (src_k3 (cs := [encStr x.1]) (m := 1) hgr5)
                     clear hown5 hgr5)
                  | (refine step_append_any _ rfl (.tmp 63) (.tmp 72) 36 rfl wm.heap.size 9 i0 _ 1 16 Tryz.underlying36 hi0 hz0 hz1 hz2 rfl (by omega) _ 0 (([] : List Value)) rfl (O5.out.alloc _) (some ⟨w5.heap.size, 0, none⟩) 1 1 [encStr x.1] rfl rfl (fun e => by cases e) (src_new _ _ _ _) (by intro u hu; simp only [List.mem_cons, List.not_mem_nil, or_false] at hu; subst hu; rfl) (by simp only [maxLen]; omega) (by omega) (C5.out.alloc C5.out.size _).size ?_
                     intro B6 c6 w6 hown6 hgr6
                     have O6 := Lib.hid hown6
                     have C6 := Lib.hid (show Below wm.heap.size wm w6 from (C5.out.alloc C5.out.size _).grown hgr6 (C5.out.alloc C5.out.size _).size (fun y hy => (O5.out.lt y hy).1))
                     have K0b : w6.cell? ⟨p, 0, none⟩ = some (.slice (some ⟨g0, 0, none⟩) m wc) := (C6.out.cell (p := ⟨p, 0, none⟩) hpm).trans ec0
                     have K1b : w6.cell? ⟨g0, (q * 2), none⟩ = some (encStr x.1) := (C6.out.cell (p := ⟨g0, (q * 2), none⟩) hgm).trans ey1
                     clear hown6 hgr6)
                  | (refine step_append_any _ rfl (.tmp 63) (.tmp 72) 36 rfl wm.heap.size 9 i0 _ 1 16 Tryz.underlying36 hi0 hz0 hz1 hz2 rfl (by omega) _ 0 (([] : List Value)) rfl (O5.out) (some ⟨wm.heap.size + 1, 0, none⟩) 1 1 [encStr x.1] rfl rfl (fun e => by cases e) (KS.out) (by intro u hu; simp only [List.mem_cons, List.not_mem_nil, or_false] at hu; subst hu; rfl) (by simp only [maxLen]; omega) (by omega) (C5.out).size ?_
                     intro B6 c6 w6 hown6 hgr6
                     have O6 := Lib.hid hown6
                     have C6 := Lib.hid (show Below wm.heap.size wm w6 from (C5.out).grown hgr6 (C5.out).size (fun y hy => (O5.out.lt y hy).1))
                     have K0b : w6.cell? ⟨p, 0, none⟩ = some (.slice (some ⟨g0, 0, none⟩) m wc) := (C6.out.cell (p := ⟨p, 0, none⟩) hpm).trans ec0
                     have K1b : w6.cell? ⟨g0, (q * 2), none⟩ = some (encStr x.1) := (C6.out.cell (p := ⟨g0, (q * 2), none⟩) hgm).trans ey1
                     clear hown6 hgr6)
                  | (refine step_append_any _ rfl (.tmp 63) (.tmp 72) 36 rfl wm.heap.size 9 i0 _ 1 16 Tryz.underlying36 hi0 hz0 hz1 hz2 rfl (by omega) _ 0 (([] : List Value)) rfl (O5.out) (some ⟨wm.heap.size, 0, none⟩) 1 1 [encStr x.1] rfl rfl (fun e => by cases e) (KS.out) (by intro u hu; simp only [List.mem_cons, List.not_mem_nil, or_false] at hu; subst hu; rfl) (by simp only [maxLen]; omega) (by omega) (C5.out).size ?_
                     intro B6 c6 w6 hown6 hgr6
                     have O6 := Lib.hid hown6
                     have C6 := Lib.hid (show Below wm.heap.size wm w6 from (C5.out).grown hgr6 (C5.out).size (fun y hy => (O5.out.lt y hy).1))
                     have K0b : w6.cell? ⟨p, 0, none⟩ = some (.slice (some ⟨g0, 0, none⟩) m wc) := (C6.out.cell (p := ⟨p, 0, none⟩) hpm).trans ec0
                     have K1b : w6.cell? ⟨g0, (q * 2), none⟩ = some (encStr x.1) := (C6.out.cell (p := ⟨g0, (q * 2), none⟩) hgm).trans ey1
                     clear hown6 hgr6)))
                all_goals
                  go_wp2_with fail
                all_goals
                  go_meet
                  exact ⟨_, _, rfl, by simpa [strVals] using O6.out, C6.out⟩
              · have SR := Lib.hid (own_src OM.out 0 j (strVals (L.take j)) (strVals_take _ _))
                have hjc : (j : Int) ≤ (c : Int) := by omega
                go_region_law ((first
                  | (refine step_append_any _ rfl (.tmp 59) (.tmp 62) 36 rfl wm.heap.size 9 i0 _ 1 16 Tryz.underlying36 hi0 hz0 hz1 hz2 rfl (by omega) _ 0 [] rfl (own_d1 wm _ 1) (some ⟨g, 0, none⟩) j c ((strVals (L.take j))) rfl (by unfold strVals; rw [List.length_map, List.length_take, HL.out, Nat.mul_one, Nat.min_eq_left (by omega)]) (fun e => by cases e) (src_below SR.out (fun b off e => by cases e; exact hgl) (below_a1 wm _)) (strVals_one _) (by simp only [maxLen]; omega) (by omega) (by simp <;> omega) ?_
                     intro B5 c5 w5 hown5 hgr5
                     have O5 := Lib.hid (show w5.ownsRow wm.heap.size 9 1 (.slice B5 j c5) j ((strVals (L.take j))) by simpa using hown5)
                     have C5 := Lib.hid (show Below wm.heap.size wm w5 from grown_d1 hgr5)
                     have K0a : w5.cell? ⟨p, 0, none⟩ = some (.slice (some ⟨g0, 0, none⟩) m wc) := (C5.out.cell (p := ⟨p, 0, none⟩) hpm).trans ec0
                     have K1a : w5.cell? ⟨g0, (q * 2), none⟩ = some (encStr x.1) := (C5.out.cell (p := ⟨g0, (q * 2), none⟩) hgm).trans ey1
                     clear hown5 hgr5)
                  | (refine step_append_any _ rfl (.tmp 59) (.tmp 62) 36 rfl wm.heap.size 9 i0 _ 1 16 Tryz.underlying36 hi0 hz0 hz1 hz2 rfl (by omega) _ 0 [] rfl (own_d2 wm _ 1 _) (some ⟨g, 0, none⟩) j c ((strVals (L.take j))) rfl (by unfold strVals; rw [List.length_map, List.length_take, HL.out, Nat.mul_one, Nat.min_eq_left (by omega)]) (fun e => by cases e) (src_below SR.out (fun b off e => by cases e; exact hgl) (below_a2 wm _ _)) (strVals_one _) (by simp only [maxLen]; omega) (by omega) (by simp <;> omega) ?_
                     intro B5 c5 w5 hown5 hgr5
                     have O5 := Lib.hid (show w5.ownsRow wm.heap.size 9 1 (.slice B5 j c5) j ((strVals (L.take j))) by simpa using hown5)
                     have C5 := Lib.hid (show Below wm.heap.size wm w5 from grown_d2 hgr5)
                     have K0a : w5.cell? ⟨p, 0, none⟩ = some (.slice (some ⟨g0, 0, none⟩) m wc) := (C5.out.cell (p := ⟨p, 0, none⟩) hpm).trans ec0
                     have K1a : w5.cell? ⟨g0, (q * 2), none⟩ = some (encStr x.1) := (C5.out.cell (p := ⟨g0, (q * 2), none⟩) hgm).trans ey1
                     have KS := Lib.hid (src_k2 (cs := [encStr x.1]) (m := 1) hgr5)
                     clear hown5 hgr5)
                  | (refine step_append_any _ rfl (.tmp 59) (.tmp 62) 36 rfl wm.heap.size 9 i0 _ 1 16 Tryz.underlying36 hi0 hz0 hz1 hz2 rfl (by omega) _ 0 [] rfl (own_d3 wm _ 1 _) (some ⟨g, 0, none⟩) j c ((strVals (L.take j))) rfl (by unfold strVals; rw [List.length_map, List.length_take, HL.out, Nat.mul_one, Nat.min_eq_left (by omega)]) (fun e => by cases e) (src_below SR.out (fun b off e => by cases e; exact hgl) (below_a2 wm _ _)) (strVals_one _) (by simp only [maxLen]; omega) (by omega) (by simp <;> omega) ?_
                     intro B5 c5 w5 hown5 hgr5
                     have O5 := Lib.hid (show w5.ownsRow wm.heap.size 9 1 (.slice B5 j c5) j ((strVals (L.take j))) by simpa using hown5)
                     have C5 := Lib.hid (show Below wm.heap.size wm w5 from grown_d3 hgr5)
                     have K0a : w5.cell? ⟨p, 0, none⟩ = some (.slice (some ⟨g0, 0, none⟩) m wc) := (C5.out.cell (p := ⟨p, 0, none⟩) hpm).trans ec0
                     have K1a : w5.cell? ⟨g0, (q * 2), none⟩ = some (encStr x.1) := (C5.out.cell (p := ⟨g0, (q * 2), none⟩) hgm).trans ey1
                     have KS := Lib.hid (src_k3 (cs := [encStr x.1]) (m := 1) hgr5)
                     clear hown5 hgr5)
                  | (refine step_append_any _ rfl (.tmp 63) (.tmp 72) 36 rfl wm.heap.size 9 i0 _ 1 16 Tryz.underlying36 hi0 hz0 hz1 hz2 rfl (by omega) _ j ((strVals (L.take j))) rfl (O5.out.alloc _) (some ⟨w5.heap.size, 0, none⟩) 1 1 [encStr x.1] rfl rfl (fun e => by cases e) (src_new _ _ _ _) (by intro u hu; simp only [List.mem_cons, List.not_mem_nil, or_false] at hu; subst hu; rfl) (by simp only [maxLen]; omega) (by omega) (C5.out.alloc C5.out.size _).size ?_
                     intro B6 c6 w6 hown6 hgr6
                     have O6 := Lib.hid hown6
                     have C6 := Lib.hid (show Below wm.heap.size wm w6 from (C5.out.alloc C5.out.size _).grown hgr6 (C5.out.alloc C5.out.size _).size (fun y hy => (O5.out.lt y hy).1))
                     have K0b : w6.cell? ⟨p, 0, none⟩ = some (.slice (some ⟨g0, 0, none⟩) m wc) := (C6.out.cell (p := ⟨p, 0, none⟩) hpm).trans ec0
                     have K1b : w6.cell? ⟨g0, (q * 2), none⟩ = some (encStr x.1) := (C6.out.cell (p := ⟨g0, (q * 2), none⟩) hgm).trans ey1
                     clear hown6 hgr6)
                  | (refine step_append_any _ rfl (.tmp 63) (.tmp 72) 36 rfl wm.heap.size 9 i0 _ 1 16 Tryz.underlying36 hi0 hz0 hz1 hz2 rfl (by omega) _ j ((strVals (L.take j))) rfl (O5.out) (some ⟨wm.heap.size + 1, 0, none⟩) 1 1 [encStr x.1] rfl rfl (fun e => by cases e) (KS.out) (by intro u hu; simp only [List.mem_cons, List.not_mem_nil, or_false] at hu; subst hu; rfl) (by simp only [maxLen]; omega) (by omega) (C5.out).size ?_
                     intro B6 c6 w6 hown6 hgr6
                     have O6 := Lib.hid hown6
                     have C6 := Lib.hid (show Below wm.heap.size wm w6 from (C5.out).grown hgr6 (C5.out).size (fun y hy => (O5.out.lt y hy).1))
                     have K0b : w6.cell? ⟨p, 0, none⟩ = some (.slice (some ⟨g0, 0, none⟩) m wc) := (C6.out.cell (p := ⟨p, 0, none⟩) hpm).trans ec0
                     have K1b : w6.cell? ⟨g0, (q * 2), none⟩ = some (encStr x.1) := (C6.out.cell (p := ⟨g0, (q * 2), none⟩) hgm).trans ey1
                     clear hown6 hgr6)
                  | (refine step_append_any _ rfl (.tmp 63) (.tmp 72) 36 rfl wm.heap.size 9 i0 _ 1 16 Tryz.underlying36 hi0 hz0 hz1 hz2 rfl (by omega) _ j ((strVals (L.take j))) rfl (O5.out) (some ⟨wm.heap.size, 0, none⟩) 1 1 [encStr x.1] rfl rfl (fun e => by cases e) (KS.out) (by intro u hu; simp only [List.mem_cons, List.not_mem_nil, or_false] at hu; subst hu; rfl) (by simp only [maxLen]; omega) (by omega) (C5.out).size ?_
                     intro B6 c6 w6 hown6 hgr6
                     have O6 := Lib.hid hown6
                     have C6 := Lib.hid (show Below wm.heap.size wm w6 from (C5.out).grown hgr6 (C5.out).size (fun y hy => (O5.out.lt y hy).1))
                     have K0b : w6.cell? ⟨p, 0, none⟩ = some (.slice (some ⟨g0, 0, none⟩) m wc) := (C6.out.cell (p := ⟨p, 0, none⟩) hpm).trans ec0
                     have K1b : w6.cell? ⟨g0, (q * 2), none⟩ = some (encStr x.1) := (C6.out.cell (p := ⟨g0, (q * 2), none⟩) hgm).trans ey1
                     clear hown6 hgr6)))
                all_goals
                  go_wp2_with fail
                all_goals
                  go_meet
                  exact ⟨_, _, rfl, O6.out, C6.out⟩
            case rest =>
              obtain ⟨B6, c6, rfl, ho6, hb6⟩ := hcut
              obtain ⟨w6, rfl⟩ : ∃ w6 : World, w6 = wc := ⟨_, rfl⟩
              have O6 := Lib.hid ho6
              have C6 := Lib.hid hb6
              have hz6 := hb6.size
              have hLd : (L.drop j).length = n - j := by rw [List.length_drop, HL.out]
              have HLD := Lib.hid hLd
              clear ho6 hb6 hLd
              rcases hB2 with ⟨rfl, h0, h1⟩ | ⟨g, rfl, hgl⟩
              · obtain rfl : j = 0 := by omega
                have hL0 : L = [] := List.eq_nil_of_length_eq_zero (by rw [HL.out, h0])
                subst h0 h1
                go_wp2_with (
                  (at_builtin
                   refine wpList_append_src _ rfl (.tmp 74) (.tmp 77) 36 rfl wm.heap.size 9 i0 _ 1 16 Tryz.underlying36 hi0 hz0 hz1 hz2 rfl (by omega) _ 1 _ rfl (by exact O6.out) none 0 0 ([] : List Value) rfl rfl (fun _ => rfl) (by exact .inl ⟨rfl, rfl⟩) (by intro u hu; cases hu) (by simp only [maxLen]; omega) (by omega) (by omega) ?_
                   intro v' w7 hown7 hgr7 hat7
                   have O7 := Lib.hid hown7
                   have B7 := Lib.hid (show Below w.heap.size w w7 from (BLK.out.trans ((BM.out.trans (C6.out.mono hzm)).mono hzk)).grown hgr7 (by omega) (fun q hq => by have := (O6.out.lt q hq).1; omega))
                   clear hown7 hgr7 hat7))
                go_roundw
                case rel => exact ⟨q + 1, by go_num, hlt3, by rw [HT.out, HI.out, hL0]; have h := O7.out; rw [hL0] at h; exact own_le h (by omega), B7.out⟩
                case measure => simp [intOf]; omega
              · have S7 := Lib.hid (show SrcAt w6 (if c = j then some ⟨g, 0, none⟩ else some ⟨g, j, none⟩) (n - j) (strVals (L.drop j)) by
                  by_cases hck : c = j
                  · rw [if_pos hck]
                    have hd : L.drop j = [] := List.drop_of_length_le (by rw [HL.out]; omega)
                    rw [hd]
                    exact .inl ⟨by omega, rfl⟩
                  · rw [if_neg hck]
                    exact src_kept (own_src OM.out j (n - j) (strVals (L.drop j)) (strVals_drop _ _)) (C6.out.block g hgl))
                have hjc : (j : Int) ≤ (c : Int) := by omega
                have hjn' : (j : Int) ≤ (n : Int) := by omega
                go_wp2_with (
                  (at_builtin
                   refine wpList_append_src _ rfl (.tmp 74) (.tmp 77) 36 rfl wm.heap.size 9 i0 _ 1 16 Tryz.underlying36 hi0 hz0 hz1 hz2 rfl (by omega) _ (j + 1) _ rfl (by exact O6.out) (if c = j then some ⟨g, 0, none⟩ else some ⟨g, j, none⟩) (n - j) (c - j) (strVals (L.drop j)) (by first | rfl | simp) (by rw [strVals_len, HLD.out, Nat.mul_one]) (fun e => by by_cases hck : c = j <;> simp [hck] at e) (by exact S7.out) (strVals_one _) (by simp only [maxLen]; omega) (by omega) (by omega) ?_
                   intro v' w7 hown7 hgr7 hat7
                   have O7 := Lib.hid hown7
                   have B7 := Lib.hid (show Below w.heap.size w w7 from (BLK.out.trans ((BM.out.trans (C6.out.mono hzm)).mono hzk)).grown hgr7 (by omega) (fun q hq => by have := (O6.out.lt q hq).1; omega))
                   clear hown7 hgr7 hat7))
                go_roundw
                case rel => exact ⟨q + 1, by go_num, hlt3, by
                  rw [HT.out, HI.out]
                  have h := O7.out
                  have e1 : (L.take j ++ x.1 :: L.drop j).length = j + 1 + (n - j) := by rw [List.length_append, List.length_cons, HLD.out, List.length_take, HL.out, Nat.min_eq_left hjn]; omega
                  have e2 : strVals (L.take j ++ x.1 :: L.drop j) = strVals (L.take j) ++ [encStr x.1] ++ strVals (L.drop j) := by rw [strVals_app, List.append_assoc]; rfl
                  rw [e1, e2]
                  exact own_le h (by omega), B7.out⟩
                case measure => simp [intOf]; omega
        · have d2 : decide (q < m) = false := by simpa using hlt3
          obtain rfl : q = m := by omega
          have ho := Lib.hid hown
          have hfull : (R.staged.take q).foldl (fun l q => insS l q.1) (R.entries.map Prod.fst) = rkeysC R := by rw [List.take_of_length_le (by rw [HML.out]; exact Nat.le_refl _)]; rfl
          rw [hfull] at ho hown
          obtain ⟨B, c, rfl, _, _⟩ := own_form1 hown
          clear hown hbl
          go_wp2_with fail
          go_ret
          exact ⟨_, rfl, ho.out, BLK.out⟩
end
end Go.Proofs.YtmkccblcmiflfaaGreat

namespace Go.Proofs.YtmkccblcmiflfaaGreat
open Go.RowKit Go.Maps Go.WideMaps

def entAgg (k : Str) (v : EntV) (Q : Option Addr) (qn qc : Nat) : Value := .agg #[encStr k, .int .i64 v.gen, .int .i64 v.size, encStr v.sum, .slice Q qn qc]
noncomputable instance : DecidableEq EntV := fun a b => Classical.propDecidable (a = b)
theorem ent_ext {a b : EntV} (h1 : a.gen = b.gen) (h2 : a.size = b.size) (h3 : a.sum = b.sum) (h4 : a.places = b.places) : a = b := by
  cases a
  cases b
  simp only [EntV.mk.injEq]
  exact ⟨h1, h2, h3, h4⟩
/-- What of an entry is read. -/
structure EntRd (w : World) (v : EntV) (Q : Option Addr) (qn : Nat) : Prop where
  places : PlacesIn w Q qn v.places
  pn : qn ≤ maxLen
theorem EntRd.below {w w' : World} {v : EntV} {Q : Option Addr} {qn : Nat} (h : EntRd w v Q qn) (hb : Below w.heap.size w w') : EntRd w' v Q qn := ⟨h.places.below hb, h.pn⟩
section
set_option maxHeartbeats 4000000
set_option maxRecDepth 8000
theorem same10 (k : Str) (v : EntV) (Q : Option Addr) (qn qc : Nat) (k' : Str) (v' : EntV) (Q' : Option Addr) (qn' qc' : Nat) (w : World) (h : EntRd w v Q qn) (h' : EntRd w v' Q' qn') :
    Calls Tryz.prog 28 #[entAgg k v Q qn qc, entAgg k' v' Q' qn' qc'] w fun e w' => e = .returned (.bool (decide ((k, v) = (k', v')))) ∧ Below w.heap.size w w' := by
  have H := Lib.hid h
  have H' := Lib.hid h'
  clear h h'
  unfold entAgg
  go_enter Tryz.func28, Tryz.ntmps28
  go_upto_region 1 with fail
  obtain ⟨wa, hwa⟩ : ∃ wa, wa = w.alloc (.cells #[encStr k, .int .i64 v.gen, .int .i64 v.size, encStr v.sum, .slice Q qn qc] 43) := ⟨_, rfl⟩
  obtain ⟨w2, hw2⟩ : ∃ w2, w2 = wa.alloc (.cells #[encStr k', .int .i64 v'.gen, .int .i64 v'.size, encStr v'.sum, .slice Q' qn' qc'] 43) := ⟨_, rfl⟩
  have hba : Below w.heap.size w wa := by rw [hwa]; exact (Below.refl _ _).alloc (Nat.le_refl _) _
  have hba2 : Below wa.heap.size wa w2 := by rw [hw2]; exact (Below.refl _ _).alloc (Nat.le_refl _) _
  have hza : wa.heap.size = w.heap.size + 1 := by rw [hwa]; exact World.size_alloc _ _
  have BA := Lib.hid (Blk.below (show Blk wa w.heap.size 43 #[encStr k, .int .i64 v.gen, .int .i64 v.size, encStr v.sum, .slice Q qn qc] by rw [hwa]; exact Blk.made w _ _) hba2 (by omega))
  have BB := Lib.hid (show Blk w2 (w.heap.size + 1) 43 #[encStr k', .int .i64 v'.gen, .int .i64 v'.size, encStr v'.sum, .slice Q' qn' qc'] by rw [hw2, ← hza]; exact Blk.made wa _ _)
  have B2 := Lib.hid (hba.trans (hba2.mono (by omega)))
  change Code.wp _ _ _ _ ((w.alloc (.cells #[encStr k, .int .i64 v.gen, .int .i64 v.size, encStr v.sum, .slice Q qn qc] 43)).alloc (.cells #[encStr k', .int .i64 v'.gen, .int .i64 v'.size, encStr v'.sum, .slice Q' qn' qc'] 43))
  rw [← hwa, ← hw2]
  have RD := Lib.hid (H.out.below B2.out)
  have RD' := Lib.hid (H'.out.below B2.out)
  clear hba hba2 hza hwa hw2
  have q0 : w2.cell? ⟨w.heap.size, 0, none⟩ = some (encStr k) := BA.out.cell 0
  have r0 : w2.cell? ⟨w.heap.size + 1, 0, none⟩ = some (encStr k') := BB.out.cell 0
  have q1 : w2.cell? ⟨w.heap.size, 1, none⟩ = some (.int .i64 v.gen) := BA.out.cell 1
  have r1 : w2.cell? ⟨w.heap.size + 1, 1, none⟩ = some (.int .i64 v'.gen) := BB.out.cell 1
  have q2 : w2.cell? ⟨w.heap.size, 2, none⟩ = some (.int .i64 v.size) := BA.out.cell 2
  have r2 : w2.cell? ⟨w.heap.size + 1, 2, none⟩ = some (.int .i64 v'.size) := BB.out.cell 2
  have q3 : w2.cell? ⟨w.heap.size, 3, none⟩ = some (encStr v.sum) := BA.out.cell 3
  have r3 : w2.cell? ⟨w.heap.size + 1, 3, none⟩ = some (encStr v'.sum) := BB.out.cell 3
  have q4 : w2.cell? ⟨w.heap.size, 4, none⟩ = some (.slice Q qn qc) := BA.out.cell 4
  have r4 : w2.cell? ⟨w.heap.size + 1, 4, none⟩ = some (.slice Q' qn' qc') := BB.out.cell 4
  by_cases k1 : k = k'
  case neg =>
    have e1 : (k == k') = false := by simpa using k1
    have r := decide_eq_false (fun e : (k, v) = (k', v') => k1 (Prod.mk.inj e).1)
    clear k1
    go_wp2_with fail
    go_ret
    exact ⟨ret_b r.symm, B2.out⟩
  have e1 : (k == k') = true := by simpa using k1
  have K1 := Lib.hid k1
  clear k1
  by_cases k2 : v.gen = v'.gen
  case neg =>
    have e2 : (v.gen != v'.gen) = true := by simpa using k2
    have r := decide_eq_false (fun e : (k, v) = (k', v') => k2 (by rw [(Prod.mk.inj e).2]))
    clear k2
    go_wp2_with fail
    go_ret
    exact ⟨ret_b r.symm, B2.out⟩
  have e2 : (v.gen != v'.gen) = false := by simpa using k2
  have K2 := Lib.hid k2
  clear k2
  by_cases k3 : v.size = v'.size
  case neg =>
    have e3 : (v.size != v'.size) = true := by simpa using k3
    have r := decide_eq_false (fun e : (k, v) = (k', v') => k3 (by rw [(Prod.mk.inj e).2]))
    clear k3
    go_wp2_with fail
    go_ret
    exact ⟨ret_b r.symm, B2.out⟩
  have e3 : (v.size != v'.size) = false := by simpa using k3
  have K3 := Lib.hid k3
  clear k3
  by_cases k4 : v.sum = v'.sum
  case neg =>
    have e4 : (v.sum == v'.sum) = false := by simpa using k4
    have r := decide_eq_false (fun e : (k, v) = (k', v') => k4 (by rw [(Prod.mk.inj e).2]))
    clear k4
    go_wp2_with fail
    go_ret
    exact ⟨ret_b r.symm, B2.out⟩
  have e4 : (v.sum == v'.sum) = true := by simpa using k4
  have K4 := Lib.hid k4
  clear k4
  by_cases k8 : qn = qn'
  case neg =>
    have e8 : ((qn : Int) != (qn' : Int)) = true := by simp; omega
    have r := decide_eq_false (fun e : (k, v) = (k', v') => k8 (by injection e with e1 e2; rw [← RD.out.places.1, ← RD'.out.places.1, e2]))
    clear k8
    go_wp2_with fail
    go_ret
    exact ⟨ret_b r.symm, B2.out⟩
  subst k8
  have e8 : ((qn : Int) != (qn : Int)) = false := by simp
  go_wp2_with fail
  have hpn : qn ≤ maxLen := RD.out.pn
  have hp63 : qn ≤ 9223372036854775807 := by simp only [maxLen] at hpn; exact hpn
  have PL := Lib.hid RD.out.places
  have PL' := Lib.hid RD'.out.places
  clear hpn e8
  go_loopw [5] (fun i wx => ∃ j : Nat, i = .int .i64 j ∧ j ≤ qn ∧ v.places.take j = v'.places.take j ∧ Below w2.heap.size w2 wx) (fun i _ => qn - (intOf i).toNat)
  case atStart => exact ⟨0, rfl, Nat.zero_le _, rfl, Below.refl _ _⟩
  case round =>
    obtain ⟨j, rfl, hj, heq, hbl⟩ := hrel
    have hz := hbl.size
    have BL := Lib.hid hbl
    have HEQ := Lib.hid heq
    have s7 : wr.cell? ⟨w.heap.size, 4, none⟩ = some (.slice Q qn qc) := (hbl.cell (p := ⟨w.heap.size, 4, none⟩) BA.out.size).trans q4
    have t7 : wr.cell? ⟨w.heap.size + 1, 4, none⟩ = some (.slice Q' qn qc') := (hbl.cell (p := ⟨w.heap.size + 1, 4, none⟩) BB.out.size).trans r4
    clear q0 q1 q2 q3 q4 r0 r1 r2 r3 r4 heq
    by_cases hlt : j < qn
    · have d1 : decide (j < qn) = true := by simpa using hlt
      obtain ⟨x, hx⟩ : ∃ x, v.places[j]? = some x := ⟨_, List.getElem?_eq_getElem (by rw [PL.out.1]; exact hlt)⟩
      obtain ⟨y, hy⟩ : ∃ y, v'.places[j]? = some y := ⟨_, List.getElem?_eq_getElem (by rw [PL'.out.1]; exact hlt)⟩
      obtain ⟨b, off, rfl, hc⟩ : ∃ b off, Q = some ⟨b, off, none⟩ ∧ ∀ j u, (placeVals v.places)[j]? = some u → wr.cell? ⟨b, off + j, none⟩ = some u := by
        rcases PL.out.2.below hbl with ⟨h0, _⟩ | ⟨b, off, h1, h2⟩
        · omega
        · exact ⟨b, off, h1, h2⟩
      obtain ⟨b', off', rfl, hc'⟩ : ∃ b off, Q' = some ⟨b, off, none⟩ ∧ ∀ j u, (placeVals v'.places)[j]? = some u → wr.cell? ⟨b, off + j, none⟩ = some u := by
        rcases PL'.out.2.below hbl with ⟨h0, _⟩ | ⟨b, off, h1, h2⟩
        · omega
        · exact ⟨b, off, h1, h2⟩
      have x0 : wr.cell? ⟨b, off + j * 2, none⟩ = some (.int .i64 x.1) := hc _ _ (placeVals_get hx).1
      have x1 : wr.cell? ⟨b, off + (j * 2 + 1), none⟩ = some (.int .i64 x.2) := hc _ _ (placeVals_get hx).2
      have y0 : wr.cell? ⟨b', off' + j * 2, none⟩ = some (.int .i64 y.1) := hc' _ _ (placeVals_get hy).1
      have y1 : wr.cell? ⟨b', off' + (j * 2 + 1), none⟩ = some (.int .i64 y.2) := hc' _ _ (placeVals_get hy).2
      have x1' : wr.cell? ⟨b, off + j * 2 + 1, none⟩ = some (.int .i64 x.2) := by rw [Nat.add_assoc]; exact x1
      have y1' : wr.cell? ⟨b', off' + j * 2 + 1, none⟩ = some (.int .i64 y.2) := by rw [Nat.add_assoc]; exact y1
      have HX := Lib.hid hx
      have HY := Lib.hid hy
      clear hx hy hbl hc hc'
      by_cases n1 : x.1 = y.1
      case neg =>
        have f1 : (x.1 != y.1) = true := by simpa using n1
        have r := decide_eq_false (fun e : (k, v) = (k', v') => n1 (by injection e with e1 e2; have h := HX.out; rw [e2, HY.out] at h; injection h with h; rw [h]))
        clear n1
        go_wp2_with fail
        go_quiet (fail)
        go_wp2_with fail
        go_ret
        exact ⟨ret_b r.symm, below_drewN (B2.out.trans (BL.out.mono B2.out.size)) _⟩
      have f1 : (x.1 != y.1) = false := by simpa using n1
      by_cases n2 : x.2 = y.2
      case neg =>
        have f2 : (x.2 != y.2) = true := by simpa using n2
        have r := decide_eq_false (fun e : (k, v) = (k', v') => n2 (by injection e with e1 e2; have h := HX.out; rw [e2, HY.out] at h; injection h with h; rw [h]))
        clear n1 n2
        go_wp2_with fail
        go_quiet (fail)
        go_wp2_with fail
        go_ret
        exact ⟨ret_b r.symm, below_drewN (B2.out.trans (BL.out.mono B2.out.size)) _⟩
      have f2 : (x.2 != y.2) = false := by simpa using n2
      have HE1 := Lib.hid (show x = y from Prod.ext n1 n2)
      clear n1 n2
      go_wp2_with fail
      go_quiet (fail)
      go_wp2_with fail
      go_roundw
      case rel => exact ⟨j + 1, by go_num, hlt, by rw [List.take_add_one, List.take_add_one, HX.out, HY.out, HEQ.out, HE1.out], below_drewN BL.out _⟩
      case measure => simp [intOf]; omega
    · have d1 : decide (j < qn) = false := by simpa using hlt
      obtain rfl : j = qn := by omega
      have r := decide_eq_true (show (k, v) = (k', v') by
        have h8 := HEQ.out
        rw [List.take_of_length_le (Nat.le_of_eq PL.out.1), List.take_of_length_le (Nat.le_of_eq PL'.out.1)] at h8
        rw [K1.out, ent_ext K2.out K3.out K4.out h8])
      go_wp2_with fail
      go_ret
      exact ⟨ret_b r.symm, B2.out.trans (BL.out.mono B2.out.size)⟩
end
end Go.Proofs.YtmkccblcmiflfaaGreat

namespace Go.Proofs.YtmkccblcmiflfaaGreat
open Go.RowKit Go.Maps Go.WideMaps

/-- A row of entries that is read. -/
structure EntsRd (w : World) (A : Option Addr) (n : Nat) (EP : List EntP) : Prop where
  len : EP.length = n
  row : SrcAt w A n (entPVals EP)
  ok : ∀ r ∈ EP, EntRd w r.e r.B r.e.places.length
  max : n ≤ maxLen
theorem ent_cel {w : World} {b off : Nat} {EP : List EntP} {j : Nat} {r : EntP} (hc : ∀ j u, (entPVals EP)[j]? = some u → w.cell? ⟨b, off + j, none⟩ = some u) (hr : EP[j]? = some r) (t : Nat) (ht : t < 5) {u : Value} (hu : r.cells[t]? = some u) : w.cell? ⟨b, off + j * 5 + t, none⟩ = some u := by
  rw [Nat.add_assoc]
  exact hc _ _ (by rw [entPVals_get hr t ht, hu])
def entK (r : EntP) : Str × EntV := (r.key, r.e)
section
set_option maxHeartbeats 4000000
set_option maxRecDepth 16000
end
end Go.Proofs.YtmkccblcmiflfaaGreat

namespace Go.Proofs.YtmkccblcmiflfaaGreat
open Go.RowKit Go.Maps Go.WideMaps

section
set_option maxHeartbeats 2000000
set_option maxRecDepth 8000
theorem cRetired (F : Nat → Prop) (p N : Nat) (C : CV) (n : Int) (hn : (Lit.int .i64 n).wf = true) (w : World) (h : CatAt F w p N C) :
    Calls Tryz.prog 29 #[.pointer (some ⟨p, 0, none⟩), .int .i64 n] w fun e w' => e = .returned (.bool (decide (n ∈ C.retired))) ∧ Below w.heap.size w w' := by
  obtain ⟨sv, tv, SR, ER, be, bb, br, hr⟩ := h
  have c4 : w.cell? ⟨p, 4, none⟩ = some (.map (some br)) := hr.blk.cell 4
  have hlk := hr.rets.look Tryz.underlying65 (zeroU w) (k := n) hn
  have hh : hasL (retVals C.retired) n = decide (n ∈ C.retired) := by
    rw [Bool.eq_iff_iff, hasL_mem]
    simp [retVals, List.map_map, Function.comp_def]
  have hg : getL (.agg #[]) (retVals C.retired) n = .agg #[] := by
    have hx : ∀ q ∈ retVals C.retired, q.2 = .agg #[] := fun q hq => by
      obtain ⟨x, _, rfl⟩ := List.mem_map.1 hq
      rfl
    cases hb : hasL (retVals C.retired) n with
    | false => exact getL_no _ hb
    | true => exact hx _ (getL_mem _ hb)
  rw [hh, hg] at hlk
  have hlk2 : (Instr.lookup 65 (.map (some br)) (.int .i64 n) true).run Tryz.prog w = .ok (.tuple #[.agg #[], .bool (decide (n ∈ C.retired))]) w := hlk
  clear hr hh hlk hg
  go_enter Tryz.func29, Tryz.ntmps29
  go_wp2_with fail
  go_ret
  exact ⟨rfl, (Below.refl _ _).alloc (Nat.le_refl _) _⟩
end
end Go.Proofs.YtmkccblcmiflfaaGreat

namespace Go.Proofs.YtmkccblcmiflfaaGreat
open Go.RowKit Go.Maps Go.WideMaps

/-- A row of entries of the document that is read. -/
structure EntsRdR (w : World) (A : Option Addr) (n : Nat) (EP : List EntR) : Prop where
  len : EP.length = n
  row : SrcAt w A n (ent5 EP)
  ok : ∀ r ∈ EP, EntRd w r.e r.A r.n
  max : n ≤ maxLen
theorem EntsRdR.below {w w' : World} {A : Option Addr} {n : Nat} {EP : List EntR} (h : EntsRdR w A n EP) (hb : Below w.heap.size w w') : EntsRdR w' A n EP := ⟨h.len, h.row.below hb, fun r hr => (h.ok r hr).below hb, h.max⟩
theorem ent_celR {w : World} {b off : Nat} {EP : List EntR} {j : Nat} {r : EntR} (hc : ∀ j u, (ent5 EP)[j]? = some u → w.cell? ⟨b, off + j, none⟩ = some u) (hr : EP[j]? = some r) (t : Nat) (ht : t < 5) {u : Value} (hu : ([encStr r.key, .int .i64 r.e.gen, .int .i64 r.e.size, encStr r.e.sum, .slice r.A r.n r.c] : List Value)[t]? = some u) : w.cell? ⟨b, off + j * 5 + t, none⟩ = some u := by
  rw [Nat.add_assoc]
  exact hc _ _ (by rw [ent5_get hr t ht, hu])
def entKR (r : EntR) : Str × EntV := (r.key, r.e)
section
set_option maxHeartbeats 4000000
set_option maxRecDepth 16000
theorem alike10r (A : Option Addr) (n c : Nat) (EP : List EntP) (A' : Option Addr) (n' c' : Nat) (EP' : List EntR) (w : World) (h : EntsRd w A n EP) (h' : EntsRdR w A' n' EP') :
    Calls Tryz.prog 59 #[.slice A n c, .slice A' n' c'] w fun e w' => e = .returned (.bool (decide (EP.map entK = EP'.map entKR))) ∧ Below w.heap.size w w' := by
  have H := Lib.hid h
  have H' := Lib.hid h'
  have h63 : n ≤ 9223372036854775807 := by have := h.max; simpa [maxLen] using this
  clear h h'
  by_cases hn : n = n'
  case neg =>
    have r := decide_eq_false (fun e : EP.map entK = EP'.map entKR => hn (by have h := congrArg List.length e; rw [List.length_map, List.length_map, H.out.len, H'.out.len] at h; exact h))
    have e1 : ((n : Int) != (n' : Int)) = true := by simp; omega
    clear hn
    go_enter Tryz.func59, Tryz.ntmps59
    go_wp2_with fail
    go_ret
    exact ⟨ret_b r.symm, Below.refl _ _⟩
  subst hn
  go_enter Tryz.func59, Tryz.ntmps59
  go_wp2_with fail
  go_loopw [5] (fun i wx => ∃ j : Nat, i = .int .i64 j ∧ j ≤ n ∧ (EP.map entK).take j = (EP'.map entKR).take j ∧ Below w.heap.size w wx) (fun i _ => n - (intOf i).toNat)
  case atStart => exact ⟨0, rfl, Nat.zero_le _, rfl, Below.refl _ _⟩
  case round =>
    obtain ⟨j, rfl, hj, heq, hbl⟩ := hrel
    have hz := hbl.size
    have BL := Lib.hid hbl
    have HEQ := Lib.hid heq
    by_cases hlt : j < n
    · have d1 : decide (j < n) = true := by simpa using hlt
      obtain ⟨r, hr⟩ : ∃ x, EP[j]? = some x := ⟨_, List.getElem?_eq_getElem (by rw [H.out.len]; exact hlt)⟩
      obtain ⟨r', hr'⟩ : ∃ y, EP'[j]? = some y := ⟨_, List.getElem?_eq_getElem (by rw [H'.out.len]; exact hlt)⟩
      obtain ⟨b, off, rfl, hc⟩ : ∃ b off, A = some ⟨b, off, none⟩ ∧ ∀ j u, (entPVals EP)[j]? = some u → wr.cell? ⟨b, off + j, none⟩ = some u := by
        rcases H.out.row.below hbl with ⟨h0, _⟩ | ⟨b, off, h1, h2⟩
        · omega
        · exact ⟨b, off, h1, h2⟩
      obtain ⟨b', off', rfl, hc'⟩ : ∃ b off, A' = some ⟨b, off, none⟩ ∧ ∀ j u, (ent5 EP')[j]? = some u → wr.cell? ⟨b, off + j, none⟩ = some u := by
        rcases H'.out.row.below hbl with ⟨h0, _⟩ | ⟨b, off, h1, h2⟩
        · omega
        · exact ⟨b, off, h1, h2⟩
      have x0 : wr.cell? ⟨b, off + j * 5, none⟩ = some (encStr r.key) := ent_cel hc hr 0 (by omega) rfl
      have x1 : wr.cell? ⟨b, off + j * 5 + 1, none⟩ = some (.int .i64 r.e.gen) := ent_cel hc hr 1 (by omega) rfl
      have x2 : wr.cell? ⟨b, off + j * 5 + 2, none⟩ = some (.int .i64 r.e.size) := ent_cel hc hr 2 (by omega) rfl
      have x3 : wr.cell? ⟨b, off + j * 5 + 3, none⟩ = some (encStr r.e.sum) := ent_cel hc hr 3 (by omega) rfl
      have x4 : wr.cell? ⟨b, off + j * 5 + 4, none⟩ = some (.slice r.B r.e.places.length r.e.places.length) := ent_cel hc hr 4 (by omega) rfl
      have y0 : wr.cell? ⟨b', off' + j * 5, none⟩ = some (encStr r'.key) := ent_celR hc' hr' 0 (by omega) rfl
      have y1 : wr.cell? ⟨b', off' + j * 5 + 1, none⟩ = some (.int .i64 r'.e.gen) := ent_celR hc' hr' 1 (by omega) rfl
      have y2 : wr.cell? ⟨b', off' + j * 5 + 2, none⟩ = some (.int .i64 r'.e.size) := ent_celR hc' hr' 2 (by omega) rfl
      have y3 : wr.cell? ⟨b', off' + j * 5 + 3, none⟩ = some (encStr r'.e.sum) := ent_celR hc' hr' 3 (by omega) rfl
      have y4 : wr.cell? ⟨b', off' + j * 5 + 4, none⟩ = some (.slice r'.A r'.n r'.c) := ent_celR hc' hr' 4 (by omega) rfl
      have RR := Lib.hid (show EntRd wr.drew r.e r.B r.e.places.length from ((H.out.ok r (List.mem_of_getElem? hr)).below hbl).below ⟨rfl, rfl, rfl, Nat.le_refl _, fun _ _ => rfl⟩)
      have RR' := Lib.hid (show EntRd wr.drew r'.e r'.A r'.n from ((H'.out.ok r' (List.mem_of_getElem? hr')).below hbl).below ⟨rfl, rfl, rfl, Nat.le_refl _, fun _ _ => rfl⟩)
      have HX := Lib.hid hr
      have HY := Lib.hid hr'
      have hlb : b < wr.heap.size := World.block_lt_of_cell? _ _ x0
      have hlb' : b' < wr.heap.size := World.block_lt_of_cell? _ _ y0
      clear hr hr' hbl hc hc' heq
      go_upto_region 6 with fail
      by_cases n1 : (r.key, r.e) = (r'.key, r'.e)
      case neg =>
        have f1 : decide ((r.key, r.e) = (r'.key, r'.e)) = false := decide_eq_false n1
        have q := decide_eq_false (fun e : EP.map entK = EP'.map entKR => n1 (by
          have h1 : (EP.map entK)[j]? = some (entK r) := by rw [List.getElem?_map, HX.out]; rfl
          have h2 : (EP'.map entKR)[j]? = some (entKR r') := by rw [List.getElem?_map, HY.out]; rfl
          rw [e, h2] at h1
          injection h1 with h1
          exact h1.symm))
        clear n1
        refine wp_region_held_drew (S := (fun w' => w'.cell? ⟨b, off + j * 5, none⟩ = some (encStr r.key) ∧ w'.cell? ⟨b, off + j * 5 + 1, none⟩ = some (.int .i64 r.e.gen) ∧ w'.cell? ⟨b, off + j * 5 + 2, none⟩ = some (.int .i64 r.e.size) ∧ w'.cell? ⟨b, off + j * 5 + 3, none⟩ = some (encStr r.e.sum) ∧ w'.cell? ⟨b, off + j * 5 + 4, none⟩ = some (.slice r.B r.e.places.length r.e.places.length) ∧ w'.cell? ⟨b', off' + j * 5, none⟩ = some (encStr r'.key) ∧ w'.cell? ⟨b', off' + j * 5 + 1, none⟩ = some (.int .i64 r'.e.gen) ∧ w'.cell? ⟨b', off' + j * 5 + 2, none⟩ = some (.int .i64 r'.e.size) ∧ w'.cell? ⟨b', off' + j * 5 + 3, none⟩ = some (encStr r'.e.sum) ∧ w'.cell? ⟨b', off' + j * 5 + 4, none⟩ = some (.slice r'.A r'.n r'.c))) (by kernel_rfl) ⟨x0, x1, x2, x3, x4, y0, y1, y2, y3, y4⟩ (fun hHeld => ?_)
        refine tk (i := 0) (v := ?vEan10) rfl ?hyEan10 ?restEan10
        case hyEan10 => (intro w hSw; (try dsimp only at hSw); go_simp <;> with_reducible rfl)
        try simp only [Act.put, pt1, pt2, pt3]
        refine tk (i := 1) (v := ?vEan11) rfl ?hyEan11 ?restEan11
        case hyEan11 => (intro w hSw; (try dsimp only at hSw); go_simp <;> with_reducible rfl)
        try simp only [Act.put, pt1, pt2, pt3]
        refine tk (i := 2) (v := ?vEan12) rfl ?hyEan12 ?restEan12
        case hyEan12 => (intro w hSw; (try dsimp only at hSw); go_simp <;> with_reducible rfl)
        try simp only [Act.put, pt1, pt2, pt3]
        refine tk (i := 3) (v := ?vEan13) rfl ?hyEan13 ?restEan13
        case hyEan13 => (intro w hSw; (try dsimp only at hSw); go_simp <;> with_reducible rfl)
        try simp only [Act.put, pt1, pt2, pt3]
        refine tk (i := 4) (v := ?vEan14) rfl ?hyEan14 ?restEan14
        case hyEan14 => (intro w hSw; (try dsimp only at hSw); go_simp <;> with_reducible rfl)
        try simp only [Act.put, pt1, pt2, pt3]
        refine tk (i := 5) (v := ?vEan15) rfl ?hyEan15 ?restEan15
        case hyEan15 => (intro w hSw; (try dsimp only at hSw); go_simp <;> with_reducible rfl)
        try simp only [Act.put, pt1, pt2, pt3]
        refine tk (i := 6) (v := ?vEan16) rfl ?hyEan16 ?restEan16
        case hyEan16 => (intro w hSw; (try dsimp only at hSw); go_simp <;> with_reducible rfl)
        try simp only [Act.put, pt1, pt2, pt3]
        refine tk (i := 7) (v := ?vEan17) rfl ?hyEan17 ?restEan17
        case hyEan17 => (intro w hSw; (try dsimp only at hSw); go_simp <;> with_reducible rfl)
        try simp only [Act.put, pt1, pt2, pt3]
        refine wpAnyH_ready (rs := [8]) (by kernel_rfl) (by simp) ?_
        refine AllReadyH.cons rfl (fun K hK => ?_) AllReadyH.nil
        go_simp
        go_wp2_with (go_at_call 28; refine (same10 r.key r.e r.B r.e.places.length r.e.places.length r'.key r'.e r'.A r'.n r'.c _ (by exact RR.out) (by exact RR'.out)).mono ?_; rw [f1]; rintro e w3 ⟨rfl, hb3⟩; have B3 := Lib.hid (show Below wr.heap.size wr w3 from ⟨hb3.os, hb3.tape, hb3.output, hb3.size, hb3.block⟩); clear hb3)
        clear hHeld
        refine hK.out _ _ ⟨(B3.out.cell (p := ⟨b, _, none⟩) hlb).trans x0, (B3.out.cell (p := ⟨b, _, none⟩) hlb).trans x1, (B3.out.cell (p := ⟨b, _, none⟩) hlb).trans x2, (B3.out.cell (p := ⟨b, _, none⟩) hlb).trans x3, (B3.out.cell (p := ⟨b, _, none⟩) hlb).trans x4, (B3.out.cell (p := ⟨b', _, none⟩) hlb').trans y0, (B3.out.cell (p := ⟨b', _, none⟩) hlb').trans y1, (B3.out.cell (p := ⟨b', _, none⟩) hlb').trans y2, (B3.out.cell (p := ⟨b', _, none⟩) hlb').trans y3, (B3.out.cell (p := ⟨b', _, none⟩) hlb').trans y4⟩ (fun hHeld => ?_)
        clear hK K
        refine tk (i := 9) (v := ?vEan19) rfl ?hyEan19 ?restEan19
        case hyEan19 => (intro w hSw; (try dsimp only at hSw); go_simp <;> with_reducible rfl)
        try simp only [Act.put, pt1, pt2, pt3]
        refine wpAnyH_done (by kernel_rfl) ?_ _
        go_wp2_with fail
        go_ret
        exact ⟨ret_b q.symm, BL.out.trans (B3.out.mono hz)⟩
      have f1 : decide ((r.key, r.e) = (r'.key, r'.e)) = true := decide_eq_true n1
      have HE1 := Lib.hid n1
      clear n1
      refine wp_region_held_drew (S := (fun w' => w'.cell? ⟨b, off + j * 5, none⟩ = some (encStr r.key) ∧ w'.cell? ⟨b, off + j * 5 + 1, none⟩ = some (.int .i64 r.e.gen) ∧ w'.cell? ⟨b, off + j * 5 + 2, none⟩ = some (.int .i64 r.e.size) ∧ w'.cell? ⟨b, off + j * 5 + 3, none⟩ = some (encStr r.e.sum) ∧ w'.cell? ⟨b, off + j * 5 + 4, none⟩ = some (.slice r.B r.e.places.length r.e.places.length) ∧ w'.cell? ⟨b', off' + j * 5, none⟩ = some (encStr r'.key) ∧ w'.cell? ⟨b', off' + j * 5 + 1, none⟩ = some (.int .i64 r'.e.gen) ∧ w'.cell? ⟨b', off' + j * 5 + 2, none⟩ = some (.int .i64 r'.e.size) ∧ w'.cell? ⟨b', off' + j * 5 + 3, none⟩ = some (encStr r'.e.sum) ∧ w'.cell? ⟨b', off' + j * 5 + 4, none⟩ = some (.slice r'.A r'.n r'.c))) (by kernel_rfl) ⟨x0, x1, x2, x3, x4, y0, y1, y2, y3, y4⟩ (fun hHeld => ?_)
      refine tk (i := 0) (v := ?vEbn20) rfl ?hyEbn20 ?restEbn20
      case hyEbn20 => (intro w hSw; (try dsimp only at hSw); go_simp <;> with_reducible rfl)
      try simp only [Act.put, pt1, pt2, pt3]
      refine tk (i := 1) (v := ?vEbn21) rfl ?hyEbn21 ?restEbn21
      case hyEbn21 => (intro w hSw; (try dsimp only at hSw); go_simp <;> with_reducible rfl)
      try simp only [Act.put, pt1, pt2, pt3]
      refine tk (i := 2) (v := ?vEbn22) rfl ?hyEbn22 ?restEbn22
      case hyEbn22 => (intro w hSw; (try dsimp only at hSw); go_simp <;> with_reducible rfl)
      try simp only [Act.put, pt1, pt2, pt3]
      refine tk (i := 3) (v := ?vEbn23) rfl ?hyEbn23 ?restEbn23
      case hyEbn23 => (intro w hSw; (try dsimp only at hSw); go_simp <;> with_reducible rfl)
      try simp only [Act.put, pt1, pt2, pt3]
      refine tk (i := 4) (v := ?vEbn24) rfl ?hyEbn24 ?restEbn24
      case hyEbn24 => (intro w hSw; (try dsimp only at hSw); go_simp <;> with_reducible rfl)
      try simp only [Act.put, pt1, pt2, pt3]
      refine tk (i := 5) (v := ?vEbn25) rfl ?hyEbn25 ?restEbn25
      case hyEbn25 => (intro w hSw; (try dsimp only at hSw); go_simp <;> with_reducible rfl)
      try simp only [Act.put, pt1, pt2, pt3]
      refine tk (i := 6) (v := ?vEbn26) rfl ?hyEbn26 ?restEbn26
      case hyEbn26 => (intro w hSw; (try dsimp only at hSw); go_simp <;> with_reducible rfl)
      try simp only [Act.put, pt1, pt2, pt3]
      refine tk (i := 7) (v := ?vEbn27) rfl ?hyEbn27 ?restEbn27
      case hyEbn27 => (intro w hSw; (try dsimp only at hSw); go_simp <;> with_reducible rfl)
      try simp only [Act.put, pt1, pt2, pt3]
      refine wpAnyH_ready (rs := [8]) (by kernel_rfl) (by simp) ?_
      refine AllReadyH.cons rfl (fun K hK => ?_) AllReadyH.nil
      go_simp
      go_wp2_with (go_at_call 28; refine (same10 r.key r.e r.B r.e.places.length r.e.places.length r'.key r'.e r'.A r'.n r'.c _ (by exact RR.out) (by exact RR'.out)).mono ?_; rw [f1]; rintro e w3 ⟨rfl, hb3⟩; have B3 := Lib.hid (show Below wr.heap.size wr w3 from ⟨hb3.os, hb3.tape, hb3.output, hb3.size, hb3.block⟩); clear hb3)
      clear hHeld
      refine hK.out _ _ ⟨(B3.out.cell (p := ⟨b, _, none⟩) hlb).trans x0, (B3.out.cell (p := ⟨b, _, none⟩) hlb).trans x1, (B3.out.cell (p := ⟨b, _, none⟩) hlb).trans x2, (B3.out.cell (p := ⟨b, _, none⟩) hlb).trans x3, (B3.out.cell (p := ⟨b, _, none⟩) hlb).trans x4, (B3.out.cell (p := ⟨b', _, none⟩) hlb').trans y0, (B3.out.cell (p := ⟨b', _, none⟩) hlb').trans y1, (B3.out.cell (p := ⟨b', _, none⟩) hlb').trans y2, (B3.out.cell (p := ⟨b', _, none⟩) hlb').trans y3, (B3.out.cell (p := ⟨b', _, none⟩) hlb').trans y4⟩ (fun hHeld => ?_)
      clear hK K
      refine tk (i := 9) (v := ?vEbn29) rfl ?hyEbn29 ?restEbn29
      case hyEbn29 => (intro w hSw; (try dsimp only at hSw); go_simp <;> with_reducible rfl)
      try simp only [Act.put, pt1, pt2, pt3]
      refine wpAnyH_done (by kernel_rfl) ?_ _
      go_wp2_with fail
      go_roundw
      case rel => exact ⟨j + 1, by go_num, hlt, by rw [List.take_add_one, List.take_add_one, List.getElem?_map, List.getElem?_map, HX.out, HY.out, HEQ.out, Option.map_some, Option.map_some, show entK r = entKR r' from HE1.out], BL.out.trans (B3.out.mono hz)⟩
      case measure => simp [intOf]; omega
    · have d1 : decide (j < n) = false := by simpa using hlt
      obtain rfl : j = n := by omega
      have q := decide_eq_true (show EP.map entK = EP'.map entKR by
        have h8 := HEQ.out
        rwa [List.take_of_length_le (by rw [List.length_map, H.out.len]; exact Nat.le_refl _), List.take_of_length_le (by rw [List.length_map, H'.out.len]; exact Nat.le_refl _)] at h8)
      go_wp2_with fail
      go_ret
      exact ⟨by first | rfl | exact ret_b q.symm, BL.out⟩
end
end Go.Proofs.YtmkccblcmiflfaaGreat
