/- Texts joined: KR8, KR10, KR11, KR18, KR9. No condition beyond those that each theorem states. -/
import Derived.Test.YtmkccblcmiflfaaGreatPK6
import Derived.Test.YtmkccblcmiflfaaGreatPK7
import Derived.Test.YtmkccblcmiflfaaGreatPK8
import Derived.Test.YtmkccblcmiflfaaGreatPK0
import Derived.Laws.IdiomStrings
namespace Go.Proofs.YtmkccblcmiflfaaGreat
open Go.RowKit Go.Maps Go.WideMaps

theorem RefPost.of_below {F : Nat → Prop} {p N : Nat} {R : CV} {w w1 w' : World} (hb : Below w.heap.size w w1) (h : RefPost F p N R w1 w') : RefPost F p N R w w' := by
  obtain ⟨F', h2, h3⟩ := h
  have hz := hb.size
  exact ⟨F', h2, ((Chg.of_below F hb).trans h3.1), fun k hk => ⟨(h3.2 k hk).1, (h3.2 k hk).2.imp id (fun h => by omega)⟩⟩
theorem cell_other {w : World} {a i g j : Nat} {v u : Value} (h : w.cell? ⟨a, i, none⟩ = some v) (hne : a ≠ g) : (w.setCell ⟨g, j, none⟩ u).cell? ⟨a, i, none⟩ = some v := (World.cell?_of_block (a := ⟨a, i, none⟩) (Below.heap_setCell _ _ _ _ hne)).trans h
section
set_option maxHeartbeats 8000000
set_option maxRecDepth 16000
theorem rRest4 (F : Nat → Prop) (p N : Nat) (R : CV) (v : NoteV) (D : Option Addr) (dn dc : Nat) (Q : Option Addr) (qn qc : Nat) (w : World) (h : RefAt F w p N R) (hN : N ≤ 10000) (hk4 : v.kind = 4) :
    Calls Tryz.prog 56 #[.pointer (some ⟨p, 0, none⟩), noteAgg v D dn dc Q qn qc] w fun e w' => e = .returned (.int .i64 (beginC R v).1) ∧ RefPost F p (N + 1) (beginC R v).2 w w' := by
  obtain ⟨i0, hi0, hz0, hz1, hz2⟩ := info_parts mark_info
  have H := Lib.hid h
  have e4 : (v.kind == 4) = true := by simpa using hk4
  clear h hk4
  unfold noteAgg
  go_enter Tryz.func56, Tryz.ntmps56
  go_upto_region 1 with fail
  obtain ⟨w1, hw1⟩ : ∃ w1, w1 = w.alloc (.cells #[.int .i64 v.kind, encStr v.key, .int .i64 v.gen, .int .i64 v.cart, .slice D dn dc, encStr v.sum, .int .i64 v.size, .slice Q qn qc] 32) := ⟨_, rfl⟩
  have hb1 : Below w.heap.size w w1 := by rw [hw1]; exact (Below.refl _ _).alloc (Nat.le_refl _) _
  have BB := Lib.hid (show Blk w1 w.heap.size 32 #[.int .i64 v.kind, encStr v.key, .int .i64 v.gen, .int .i64 v.cart, .slice D dn dc, encStr v.sum, .int .i64 v.size, .slice Q qn qc] by rw [hw1]; exact Blk.made w _ _)
  change Code.wp _ _ _ _ (w.alloc (.cells #[.int .i64 v.kind, encStr v.key, .int .i64 v.gen, .int .i64 v.cart, .slice D dn dc, encStr v.sum, .int .i64 v.size, .slice Q qn qc] 32))
  rw [← hw1]
  have B1 := Lib.hid hb1
  have H1 := Lib.hid (H.out.below hb1)
  have q0 : w1.cell? ⟨w.heap.size, 0, none⟩ = some (.int .i64 v.kind) := BB.out.cell 0
  have q1 : w1.cell? ⟨w.heap.size, 1, none⟩ = some (encStr v.key) := BB.out.cell 1
  have q2 : w1.cell? ⟨w.heap.size, 2, none⟩ = some (.int .i64 v.gen) := BB.out.cell 2
  clear hw1 hb1
  go_wp2_with fail
  refine (rLater F p N R v.gen _ H1.out).mono ?_
  rintro e w1' ⟨rfl, rfl⟩
  cases hl : laterB R v.gen with
  | false =>
    have HE := Lib.hid (show beginC R v = (12, R) by unfold beginC; rw [if_pos hl])
    go_wp2_with fail
    go_ret
    rw [HE.out]
    exact ⟨rfl, RefPost.same H.out (Nat.le_succ _) B1.out⟩
  | true =>
    obtain ⟨sw, sh, sb, st, sr, ER, hr1⟩ := H1.out
    have hpz1 := hr1.blk.size
    have c5 : w1.cell? ⟨p, 5, none⟩ = some (.int .i64 R.gen) := hr1.blk.cell 5
    have f5 : w1.frozen? ⟨p, 5, none⟩ = false := hr1.blk.free 5
    have hnp : w.heap.size ≠ p := blk_ne BB.out hr1.blk (by decide)
    have RR1 := Lib.hid hr1
    clear hr1
    by_cases hke : v.key = []
    · have k1 : (v.key == []) = true := by simpa using hke
      have HE := Lib.hid (show beginC R v = (0, { R with gen := v.gen }) by
        unfold beginC
        rw [if_neg (by rw [hl]; simp), if_neg (by simp [hke]), if_pos hke])
      clear hke
      go_wp2_with fail
      go_ret
      rw [HE.out]
      exact ⟨rfl, RefPost.of_below B1.out (RR1.out.setGen (Below.refl _ _) v.gen (Nat.le_succ _))⟩
    · have k1 : (v.key == []) = false := by simpa using hke
      have HKE := Lib.hid hke
      clear hke
      go_wp2_with fail
      refine (rHas F p N R v.key _ H1.out (by omega)).mono ?_
      rintro e w1' ⟨rfl, rfl⟩
      cases hh : hasC R v.key with
      | false =>
        have HE := Lib.hid (show beginC R v = (5, R) by
          unfold beginC
          rw [if_neg (by rw [hl]; simp), if_pos ⟨HKE.out, hh⟩])
        go_wp2_with fail
        go_ret
        rw [HE.out]
        exact ⟨rfl, RefPost.same H.out (Nat.le_succ _) B1.out⟩
      | true =>
        have HE := Lib.hid (show beginC R v = (0, { R with gen := v.gen, begun := putL R.begun v.key v.gen }) by
          unfold beginC
          rw [if_neg (by rw [hl]; simp), if_neg (by rw [hh]; simp), if_neg HKE.out])
        go_upto_region 8 with fail
        obtain ⟨w2, hw2⟩ : ∃ w2, w2 = w1.setCell ⟨p, 5, none⟩ (.int .i64 v.gen) := ⟨_, rfl⟩
        change Code.wp _ _ _ _ (w1.setCell ⟨p, 5, none⟩ (.int .i64 v.gen))
        rw [← hw2]
        obtain ⟨F2, hc2, ht2⟩ := RR1.out.setGen (Below.refl _ _) v.gen (Nat.le_succ N)
        rw [← hw2] at hc2 ht2
        have T2 := Lib.hid ht2
        have q1' : w2.cell? ⟨w.heap.size, 1, none⟩ = some (encStr v.key) := by rw [hw2]; exact cell_other q1 hnp
        have q2' : w2.cell? ⟨w.heap.size, 2, none⟩ = some (.int .i64 v.gen) := by rw [hw2]; exact cell_other q2 hnp
        obtain ⟨sw2, sh2, sb2, st2, sr2, ER2, hr2⟩ := hc2
        obtain ⟨B, c, rfl, hnc, hcm, hB⟩ := own_form hr2.beg.1
        have c2 : w2.cell? ⟨p, 2, none⟩ = some (.slice B R.begun.length c) := hr2.blk.cell 2
        have hpz := hr2.blk.size
        have hnb : w.heap.size < w2.heap.size := World.block_lt_of_cell? _ _ q1'
        have hn5 : R.begun.length ≤ 100000 := by have h1 := RR1.out.lens; omega
        have HRW := Lib.hid (show ∀ W : World, Below w2.heap.size w2 W → ∀ (j : Nat) x, R.begun[j]? = some x → ∃ g, B = some ⟨g, 0, none⟩ ∧ g < W.heap.size ∧ W.cell? ⟨g, j * 2, none⟩ = some (encStr x.1) ∧ W.cell? ⟨g, j * 2 + 1, none⟩ = some (.int .i64 x.2) from fun W hb j x hx => by
          have hlt : j < R.begun.length := (List.getElem?_eq_some_iff.1 hx).1
          rcases hB with ⟨_, h0, _⟩ | ⟨g, rfl⟩
          · exact absurd (show R.begun.length = 0 from h0) (by omega)
          · have hg := (hr2.beg.1.lt g rfl).2
            exact ⟨g, rfl, Nat.lt_of_lt_of_le hg hb.size, (hb.cell (p := ⟨g, j * 2, none⟩) hg).trans (hr2.beg.row.cell (mark_get hx).1), (hb.cell (p := ⟨g, j * 2 + 1, none⟩) hg).trans (hr2.beg.row.cell (mark_get hx).2)⟩)
        have RR2 := Lib.hid hr2
        have hdl : (delL R.begun v.key).length ≤ 100000 := Nat.le_trans (List.length_filter_le _ _) hn5
        obtain ⟨n, hn⟩ : ∃ n, R.begun.length = n := ⟨_, rfl⟩
        have HBL := Lib.hid hn
        have hnc : n ≤ c := by rw [← hn]; exact hnc
        rw [hn] at c2 hn5
        clear q0 q1 q2 c5 f5 hr2 ht2 hw2 hB hn
        have q1 := q1'
        have q2 := q2'
        refine wp_region_held_drew (S := (fun w' => w'.cell? ⟨w.heap.size, 1, none⟩ = some (encStr v.key) ∧ w'.cell? ⟨w.heap.size, 2, none⟩ = some (.int .i64 v.gen))) (by kernel_rfl) ⟨q1, q2⟩ (fun hHeld => ?_)
        refine tk (i := 0) (v := ?vR4n10) rfl ?hyR4n10 ?restR4n10
        case hyR4n10 => (intro w hSw; (try dsimp only at hSw); go_simp <;> with_reducible rfl)
        try simp only [Act.put, pt1, pt2, pt3]
        refine tk (i := 1) (v := ?vR4n11) rfl ?hyR4n11 ?restR4n11
        case hyR4n11 => (intro w hSw; (try dsimp only at hSw); go_simp <;> with_reducible rfl)
        try simp only [Act.put, pt1, pt2, pt3]
        refine tk (i := 2) (v := ?vR4n12) rfl ?hyR4n12 ?restR4n12
        case hyR4n12 => (intro w hSw; (try dsimp only at hSw); go_simp <;> with_reducible rfl)
        try simp only [Act.put, pt1, pt2, pt3]
        refine tk (i := 3) (v := ?vR4n13) rfl ?hyR4n13 ?restR4n13
        case hyR4n13 => (intro w hSw; (try dsimp only at hSw); go_simp <;> with_reducible rfl)
        try simp only [Act.put, pt1, pt2, pt3]
        refine tk (i := 5) (v := ?vR4n15) rfl ?hyR4n15 ?restR4n15
        case hyR4n15 => (intro w hSw; (try dsimp only at hSw); go_simp <;> with_reducible rfl)
        try simp only [Act.put, pt1, pt2, pt3]
        refine tk (i := 6) (v := ?vR4n16) rfl ?hyR4n16 ?restR4n16
        case hyR4n16 => (intro w hSw; (try dsimp only at hSw); go_simp <;> with_reducible rfl)
        try simp only [Act.put, pt1, pt2, pt3]
        refine tk (i := 8) (v := ?vR4n18) rfl ?hyR4n18 ?restR4n18
        case hyR4n18 => (intro w hSw; (try dsimp only at hSw); go_simp <;> with_reducible rfl)
        try simp only [Act.put, pt1, pt2, pt3]
        refine tk (i := 9) (v := ?vR4n19) rfl ?hyR4n19 ?restR4n19
        case hyR4n19 => (intro w hSw; (try dsimp only at hSw); go_simp <;> with_reducible rfl)
        try simp only [Act.put, pt1, pt2, pt3]
        refine tk (i := 10) (v := ?vR4n110) rfl ?hyR4n110 ?restR4n110
        case hyR4n110 => (intro w hSw; (try dsimp only at hSw); go_simp <;> with_reducible rfl)
        try simp only [Act.put, pt1, pt2, pt3]
        refine tk (i := 11) (v := ?vR4n111) rfl ?hyR4n111 ?restR4n111
        case hyR4n111 => (intro w hSw; (try dsimp only at hSw); go_simp <;> with_reducible rfl)
        try simp only [Act.put, pt1, pt2, pt3]
        refine tk (i := 12) (v := ?vR4n112) rfl ?hyR4n112 ?restR4n112
        case hyR4n112 => (intro w hSw; (try dsimp only at hSw); go_simp <;> with_reducible rfl)
        try simp only [Act.put, pt1, pt2, pt3]
        refine wpAnyH_ready (rs := [4, 13]) (by kernel_rfl) (by simp) ?_
        refine AllReadyH.cons rfl (fun K hK => ?_) (AllReadyH.cons rfl (fun K hK => ?_) AllReadyH.nil)
        · go_simp
          refine hK.out _ _ hHeld (fun hHeld => ?_)
          clear hK K
          refine wpAnyH_ready (rs := [7, 13]) (by kernel_rfl) (by simp) ?_
          refine AllReadyH.cons rfl (fun K hK => ?_) (AllReadyH.cons rfl (fun K hK => ?_) AllReadyH.nil)
          · go_simp
            go_wp2_with (go_at_call 55; (first | (refine (rWithout B n c R.begun v.key _ HBL.out hn5 hnc (HRW.out _ (below_of_drewR (Below.refl _ _)))).mono ?_; rintro e w3 ⟨v3, rfl, ho3, hb3⟩; have B3 := Lib.hid (show Below w2.heap.size w2 w3 from below_of_drew hb3); have O3 := Lib.hid (show w3.ownsRow w2.heap.size 91 2 v3 (delL R.begun v.key).length (markVals (delL R.begun v.key)) from ho3)) | (refine (rWithout B n c R.begun v.key _ HBL.out hn5 hnc (HRW.out _ ((below_of_drewR (Below.refl _ _)).alloc (Nat.le_refl _) _))).mono ?_; rintro e w3 ⟨v3, rfl, ho3, hb3⟩; have BM := Lib.hid (show Blk w3 w2.heap.size 91 #[encStr v.key, .int .i64 v.gen] from Blk.below (Blk.made w2.drew _ _) hb3 (by rw [World.size_alloc]; exact Nat.lt_succ_self _)); have B3 := Lib.hid (show Below w2.heap.size w2 w3 from ((below_of_drewR (Below.refl _ w2)).alloc (Nat.le_refl _) _).trans (hb3.mono ((below_of_drewR (Below.refl _ w2)).alloc (Nat.le_refl _) _).size)); have O3 := Lib.hid (show w3.ownsRow w2.heap.size 91 2 v3 (delL R.begun v.key).length (markVals (delL R.begun v.key)) from own_le ho3 ((below_of_drewR (Below.refl _ w2)).alloc (Nat.le_refl _) _).size))); have hz3 := B3.out.size; have y1 : w3.cell? ⟨w.heap.size, 1, none⟩ = some (encStr v.key) := (B3.out.cell (p := ⟨w.heap.size, 1, none⟩) hnb).trans q1; have y2 : w3.cell? ⟨w.heap.size, 2, none⟩ = some (.int .i64 v.gen) := (B3.out.cell (p := ⟨w.heap.size, 2, none⟩) hnb).trans q2; clear ho3 hb3)
            clear hHeld
            refine hK.out _ _ ⟨y1, y2⟩ (fun hHeld => ?_)
            clear hK K
            refine wpAnyH_ready (rs := [13]) (by kernel_rfl) (by simp) ?_
            refine AllReadyH.cons rfl (fun K hK => ?_) AllReadyH.nil
            go_simp
            clear hHeld
            refine hK.out _ _ (by (try dsimp only); go_keep) (fun hHeld => ?_)
            clear hK K
            refine wpAnyH_ready (rs := [14]) (by kernel_rfl) (by simp) ?_
            refine AllReadyH.cons rfl (fun K hK => ?_) AllReadyH.nil
            first | (refine step_append_src _ rfl (.tmp 40) (.tmp 46) 52 rfl w2.heap.size 91 i0 _ 2 24 Tryz.underlying52 hi0 hz0 hz1 hz2 rfl (by omega) v3 (delL R.begun v.key).length (markVals (delL R.begun v.key)) rfl (by exact O3.out.alloc _) (some ⟨w3.heap.size, 0, none⟩) 1 1 [encStr v.key, .int .i64 v.gen] rfl rfl (fun e => by cases e) (by exact src_new _ _ _ _) (by intro u hu; simp only [List.mem_cons, List.not_mem_nil, or_false] at hu; rcases hu with rfl | rfl <;> rfl) (by simp only [maxLen]; omega) (by omega) (by first | omega | (simp; omega)) ?_; intro v' w4 hown4 hgr4 hat4; obtain ⟨g4, k4, rfl, _, _, _⟩ := own_form hown4; have O4 := Lib.hid (show w4.ownsRow w2.heap.size 91 2 (.slice g4 ((delL R.begun v.key).length + 1) k4) ((delL R.begun v.key).length + 1) (markVals (delL R.begun v.key) ++ [encStr v.key, .int .i64 v.gen]) from hown4); have B4 := Lib.hid (show Below w2.heap.size w2 w4 from (B3.out.alloc hz3 _).grown hgr4 (by first | omega | (simp; omega)) (fun y hy => (O3.out.lt y hy).1)); have z1 : w4.cell? ⟨w.heap.size, 1, none⟩ = some (encStr v.key) := (B4.out.cell (p := ⟨w.heap.size, 1, none⟩) hnb).trans q1; have z2 : w4.cell? ⟨w.heap.size, 2, none⟩ = some (.int .i64 v.gen) := (B4.out.cell (p := ⟨w.heap.size, 2, none⟩) hnb).trans q2; have z3 : w4.cell? ⟨p, 2, none⟩ = some (.slice B n c) := (B4.out.cell (p := ⟨p, 2, none⟩) hpz).trans c2; have z4 : w4.frozen? ⟨p, 2, none⟩ = false := (RR2.out.blk.below B4.out hpz).free 2; clear hown4 hgr4 hat4) | (refine step_append_src _ rfl (.tmp 40) (.tmp 46) 52 rfl w2.heap.size 91 i0 _ 2 24 Tryz.underlying52 hi0 hz0 hz1 hz2 rfl (by omega) v3 (delL R.begun v.key).length (markVals (delL R.begun v.key)) rfl O3.out (some ⟨w2.heap.size, 0, none⟩) 1 1 [encStr v.key, .int .i64 v.gen] rfl rfl (fun e => by cases e) (OneRow.src ⟨_, BM.out, rfl⟩) (by intro u hu; simp only [List.mem_cons, List.not_mem_nil, or_false] at hu; rcases hu with rfl | rfl <;> rfl) (by simp only [maxLen]; omega) (by omega) (by first | omega | (simp; omega)) ?_; intro v' w4 hown4 hgr4 hat4; obtain ⟨g4, k4, rfl, _, _, _⟩ := own_form hown4; have O4 := Lib.hid (show w4.ownsRow w2.heap.size 91 2 (.slice g4 ((delL R.begun v.key).length + 1) k4) ((delL R.begun v.key).length + 1) (markVals (delL R.begun v.key) ++ [encStr v.key, .int .i64 v.gen]) from hown4); have B4 := Lib.hid (show Below w2.heap.size w2 w4 from B3.out.grown hgr4 (by first | omega | (simp; omega)) (fun y hy => (O3.out.lt y hy).1)); have z1 : w4.cell? ⟨w.heap.size, 1, none⟩ = some (encStr v.key) := (B4.out.cell (p := ⟨w.heap.size, 1, none⟩) hnb).trans q1; have z2 : w4.cell? ⟨w.heap.size, 2, none⟩ = some (.int .i64 v.gen) := (B4.out.cell (p := ⟨w.heap.size, 2, none⟩) hnb).trans q2; have z3 : w4.cell? ⟨p, 2, none⟩ = some (.slice B n c) := (B4.out.cell (p := ⟨p, 2, none⟩) hpz).trans c2; have z4 : w4.frozen? ⟨p, 2, none⟩ = false := (RR2.out.blk.below B4.out hpz).free 2; clear hown4 hgr4 hat4)
            clear hHeld
            refine hK.out _ _ ⟨z1, z2⟩ (fun hHeld => ?_)
            clear hK K
            refine tk (i := 15) (v := ?vR4n1b4b715) rfl ?hyR4n1b4b715 ?restR4n1b4b715
            case hyR4n1b4b715 => (intro w hSw; (try dsimp only at hSw); go_simp <;> with_reducible rfl)
            refine tk (i := 16) (v := ?vR4n1b4b716) rfl ?hyR4n1b4b716 ?restR4n1b4b716
            case hyR4n1b4b716 => (intro w hSw; (try dsimp only at hSw); go_simp <;> with_reducible rfl)
            refine wpAnyH_ready (rs := [17]) (by kernel_rfl) (by simp) ?_
            refine AllReadyH.cons rfl (fun K hK => ?_) AllReadyH.nil
            go_simp
            clear hHeld
            refine hK.out _ _ ⟨cell_other z1 hnp, cell_other z2 hnp⟩ (fun hHeld => ?_)
            clear hK K
            refine wpAnyH_done (by kernel_rfl) ?_ _
            go_wp2_with fail
            go_ret
            rw [HE.out]
            have hl4 : (putL R.begun v.key v.gen).length = (delL R.begun v.key).length + 1 := by unfold putL; rw [List.length_append]; rfl
            have hpost := RR2.out.setBegun B4.out (L := putL R.begun v.key v.gen) (v := .slice g4 ((delL R.begun v.key).length + 1) k4) (by rw [hl4]; have h := O4.out; unfold putL; rw [markVals_app]; exact h) (by rw [hl4]; have h1 := RR1.out.lens; have h2 : (delL R.begun v.key).length ≤ R.begun.length := List.length_filter_le _ _; omega) (Nat.le_refl _)
            obtain ⟨F3, hc3, ht3⟩ := hpost
            exact ⟨rfl, RefPost.of_below B1.out ⟨F3, hc3, T2.out.trans ht3⟩⟩
          · go_simp
            clear hHeld
            refine hK.out _ _ (by (try dsimp only); go_keep) (fun hHeld => ?_)
            clear hK K
            refine wpAnyH_ready (rs := [7]) (by kernel_rfl) (by simp) ?_
            refine AllReadyH.cons rfl (fun K hK => ?_) AllReadyH.nil
            go_simp
            go_wp2_with (go_at_call 55; (first | (refine (rWithout B n c R.begun v.key _ HBL.out hn5 hnc (HRW.out _ (below_of_drewR (Below.refl _ _)))).mono ?_; rintro e w3 ⟨v3, rfl, ho3, hb3⟩; have B3 := Lib.hid (show Below w2.heap.size w2 w3 from below_of_drew hb3); have O3 := Lib.hid (show w3.ownsRow w2.heap.size 91 2 v3 (delL R.begun v.key).length (markVals (delL R.begun v.key)) from ho3)) | (refine (rWithout B n c R.begun v.key _ HBL.out hn5 hnc (HRW.out _ ((below_of_drewR (Below.refl _ _)).alloc (Nat.le_refl _) _))).mono ?_; rintro e w3 ⟨v3, rfl, ho3, hb3⟩; have BM := Lib.hid (show Blk w3 w2.heap.size 91 #[encStr v.key, .int .i64 v.gen] from Blk.below (Blk.made w2.drew _ _) hb3 (by rw [World.size_alloc]; exact Nat.lt_succ_self _)); have B3 := Lib.hid (show Below w2.heap.size w2 w3 from ((below_of_drewR (Below.refl _ w2)).alloc (Nat.le_refl _) _).trans (hb3.mono ((below_of_drewR (Below.refl _ w2)).alloc (Nat.le_refl _) _).size)); have O3 := Lib.hid (show w3.ownsRow w2.heap.size 91 2 v3 (delL R.begun v.key).length (markVals (delL R.begun v.key)) from own_le ho3 ((below_of_drewR (Below.refl _ w2)).alloc (Nat.le_refl _) _).size))); have hz3 := B3.out.size; have y1 : w3.cell? ⟨w.heap.size, 1, none⟩ = some (encStr v.key) := (B3.out.cell (p := ⟨w.heap.size, 1, none⟩) hnb).trans q1; have y2 : w3.cell? ⟨w.heap.size, 2, none⟩ = some (.int .i64 v.gen) := (B3.out.cell (p := ⟨w.heap.size, 2, none⟩) hnb).trans q2; clear ho3 hb3)
            clear hHeld
            refine hK.out _ _ ⟨y1, y2⟩ (fun hHeld => ?_)
            clear hK K
            refine wpAnyH_ready (rs := [14]) (by kernel_rfl) (by simp) ?_
            refine AllReadyH.cons rfl (fun K hK => ?_) AllReadyH.nil
            first | (refine step_append_src _ rfl (.tmp 40) (.tmp 46) 52 rfl w2.heap.size 91 i0 _ 2 24 Tryz.underlying52 hi0 hz0 hz1 hz2 rfl (by omega) v3 (delL R.begun v.key).length (markVals (delL R.begun v.key)) rfl (by exact O3.out.alloc _) (some ⟨w3.heap.size, 0, none⟩) 1 1 [encStr v.key, .int .i64 v.gen] rfl rfl (fun e => by cases e) (by exact src_new _ _ _ _) (by intro u hu; simp only [List.mem_cons, List.not_mem_nil, or_false] at hu; rcases hu with rfl | rfl <;> rfl) (by simp only [maxLen]; omega) (by omega) (by first | omega | (simp; omega)) ?_; intro v' w4 hown4 hgr4 hat4; obtain ⟨g4, k4, rfl, _, _, _⟩ := own_form hown4; have O4 := Lib.hid (show w4.ownsRow w2.heap.size 91 2 (.slice g4 ((delL R.begun v.key).length + 1) k4) ((delL R.begun v.key).length + 1) (markVals (delL R.begun v.key) ++ [encStr v.key, .int .i64 v.gen]) from hown4); have B4 := Lib.hid (show Below w2.heap.size w2 w4 from (B3.out.alloc hz3 _).grown hgr4 (by first | omega | (simp; omega)) (fun y hy => (O3.out.lt y hy).1)); have z1 : w4.cell? ⟨w.heap.size, 1, none⟩ = some (encStr v.key) := (B4.out.cell (p := ⟨w.heap.size, 1, none⟩) hnb).trans q1; have z2 : w4.cell? ⟨w.heap.size, 2, none⟩ = some (.int .i64 v.gen) := (B4.out.cell (p := ⟨w.heap.size, 2, none⟩) hnb).trans q2; have z3 : w4.cell? ⟨p, 2, none⟩ = some (.slice B n c) := (B4.out.cell (p := ⟨p, 2, none⟩) hpz).trans c2; have z4 : w4.frozen? ⟨p, 2, none⟩ = false := (RR2.out.blk.below B4.out hpz).free 2; clear hown4 hgr4 hat4) | (refine step_append_src _ rfl (.tmp 40) (.tmp 46) 52 rfl w2.heap.size 91 i0 _ 2 24 Tryz.underlying52 hi0 hz0 hz1 hz2 rfl (by omega) v3 (delL R.begun v.key).length (markVals (delL R.begun v.key)) rfl O3.out (some ⟨w2.heap.size, 0, none⟩) 1 1 [encStr v.key, .int .i64 v.gen] rfl rfl (fun e => by cases e) (OneRow.src ⟨_, BM.out, rfl⟩) (by intro u hu; simp only [List.mem_cons, List.not_mem_nil, or_false] at hu; rcases hu with rfl | rfl <;> rfl) (by simp only [maxLen]; omega) (by omega) (by first | omega | (simp; omega)) ?_; intro v' w4 hown4 hgr4 hat4; obtain ⟨g4, k4, rfl, _, _, _⟩ := own_form hown4; have O4 := Lib.hid (show w4.ownsRow w2.heap.size 91 2 (.slice g4 ((delL R.begun v.key).length + 1) k4) ((delL R.begun v.key).length + 1) (markVals (delL R.begun v.key) ++ [encStr v.key, .int .i64 v.gen]) from hown4); have B4 := Lib.hid (show Below w2.heap.size w2 w4 from B3.out.grown hgr4 (by first | omega | (simp; omega)) (fun y hy => (O3.out.lt y hy).1)); have z1 : w4.cell? ⟨w.heap.size, 1, none⟩ = some (encStr v.key) := (B4.out.cell (p := ⟨w.heap.size, 1, none⟩) hnb).trans q1; have z2 : w4.cell? ⟨w.heap.size, 2, none⟩ = some (.int .i64 v.gen) := (B4.out.cell (p := ⟨w.heap.size, 2, none⟩) hnb).trans q2; have z3 : w4.cell? ⟨p, 2, none⟩ = some (.slice B n c) := (B4.out.cell (p := ⟨p, 2, none⟩) hpz).trans c2; have z4 : w4.frozen? ⟨p, 2, none⟩ = false := (RR2.out.blk.below B4.out hpz).free 2; clear hown4 hgr4 hat4)
            clear hHeld
            refine hK.out _ _ ⟨z1, z2⟩ (fun hHeld => ?_)
            clear hK K
            refine tk (i := 15) (v := ?vR4n1b4b1315) rfl ?hyR4n1b4b1315 ?restR4n1b4b1315
            case hyR4n1b4b1315 => (intro w hSw; (try dsimp only at hSw); go_simp <;> with_reducible rfl)
            refine tk (i := 16) (v := ?vR4n1b4b1316) rfl ?hyR4n1b4b1316 ?restR4n1b4b1316
            case hyR4n1b4b1316 => (intro w hSw; (try dsimp only at hSw); go_simp <;> with_reducible rfl)
            refine wpAnyH_ready (rs := [17]) (by kernel_rfl) (by simp) ?_
            refine AllReadyH.cons rfl (fun K hK => ?_) AllReadyH.nil
            go_simp
            clear hHeld
            refine hK.out _ _ ⟨cell_other z1 hnp, cell_other z2 hnp⟩ (fun hHeld => ?_)
            clear hK K
            refine wpAnyH_done (by kernel_rfl) ?_ _
            go_wp2_with fail
            go_ret
            rw [HE.out]
            have hl4 : (putL R.begun v.key v.gen).length = (delL R.begun v.key).length + 1 := by unfold putL; rw [List.length_append]; rfl
            have hpost := RR2.out.setBegun B4.out (L := putL R.begun v.key v.gen) (v := .slice g4 ((delL R.begun v.key).length + 1) k4) (by rw [hl4]; have h := O4.out; unfold putL; rw [markVals_app]; exact h) (by rw [hl4]; have h1 := RR1.out.lens; have h2 : (delL R.begun v.key).length ≤ R.begun.length := List.length_filter_le _ _; omega) (Nat.le_refl _)
            obtain ⟨F3, hc3, ht3⟩ := hpost
            exact ⟨rfl, RefPost.of_below B1.out ⟨F3, hc3, T2.out.trans ht3⟩⟩
        · go_simp
          clear hHeld
          refine hK.out _ _ (by (try dsimp only); go_keep) (fun hHeld => ?_)
          clear hK K
          refine wpAnyH_ready (rs := [4]) (by kernel_rfl) (by simp) ?_
          refine AllReadyH.cons rfl (fun K hK => ?_) AllReadyH.nil
          go_simp
          refine hK.out _ _ hHeld (fun hHeld => ?_)
          clear hK K
          refine wpAnyH_ready (rs := [7]) (by kernel_rfl) (by simp) ?_
          refine AllReadyH.cons rfl (fun K hK => ?_) AllReadyH.nil
          go_simp
          go_wp2_with (go_at_call 55; (first | (refine (rWithout B n c R.begun v.key _ HBL.out hn5 hnc (HRW.out _ (below_of_drewR (Below.refl _ _)))).mono ?_; rintro e w3 ⟨v3, rfl, ho3, hb3⟩; have B3 := Lib.hid (show Below w2.heap.size w2 w3 from below_of_drew hb3); have O3 := Lib.hid (show w3.ownsRow w2.heap.size 91 2 v3 (delL R.begun v.key).length (markVals (delL R.begun v.key)) from ho3)) | (refine (rWithout B n c R.begun v.key _ HBL.out hn5 hnc (HRW.out _ ((below_of_drewR (Below.refl _ _)).alloc (Nat.le_refl _) _))).mono ?_; rintro e w3 ⟨v3, rfl, ho3, hb3⟩; have BM := Lib.hid (show Blk w3 w2.heap.size 91 #[encStr v.key, .int .i64 v.gen] from Blk.below (Blk.made w2.drew _ _) hb3 (by rw [World.size_alloc]; exact Nat.lt_succ_self _)); have B3 := Lib.hid (show Below w2.heap.size w2 w3 from ((below_of_drewR (Below.refl _ w2)).alloc (Nat.le_refl _) _).trans (hb3.mono ((below_of_drewR (Below.refl _ w2)).alloc (Nat.le_refl _) _).size)); have O3 := Lib.hid (show w3.ownsRow w2.heap.size 91 2 v3 (delL R.begun v.key).length (markVals (delL R.begun v.key)) from own_le ho3 ((below_of_drewR (Below.refl _ w2)).alloc (Nat.le_refl _) _).size))); have hz3 := B3.out.size; have y1 : w3.cell? ⟨w.heap.size, 1, none⟩ = some (encStr v.key) := (B3.out.cell (p := ⟨w.heap.size, 1, none⟩) hnb).trans q1; have y2 : w3.cell? ⟨w.heap.size, 2, none⟩ = some (.int .i64 v.gen) := (B3.out.cell (p := ⟨w.heap.size, 2, none⟩) hnb).trans q2; clear ho3 hb3)
          clear hHeld
          refine hK.out _ _ ⟨y1, y2⟩ (fun hHeld => ?_)
          clear hK K
          refine wpAnyH_ready (rs := [14]) (by kernel_rfl) (by simp) ?_
          refine AllReadyH.cons rfl (fun K hK => ?_) AllReadyH.nil
          first | (refine step_append_src _ rfl (.tmp 40) (.tmp 46) 52 rfl w2.heap.size 91 i0 _ 2 24 Tryz.underlying52 hi0 hz0 hz1 hz2 rfl (by omega) v3 (delL R.begun v.key).length (markVals (delL R.begun v.key)) rfl (by exact O3.out.alloc _) (some ⟨w3.heap.size, 0, none⟩) 1 1 [encStr v.key, .int .i64 v.gen] rfl rfl (fun e => by cases e) (by exact src_new _ _ _ _) (by intro u hu; simp only [List.mem_cons, List.not_mem_nil, or_false] at hu; rcases hu with rfl | rfl <;> rfl) (by simp only [maxLen]; omega) (by omega) (by first | omega | (simp; omega)) ?_; intro v' w4 hown4 hgr4 hat4; obtain ⟨g4, k4, rfl, _, _, _⟩ := own_form hown4; have O4 := Lib.hid (show w4.ownsRow w2.heap.size 91 2 (.slice g4 ((delL R.begun v.key).length + 1) k4) ((delL R.begun v.key).length + 1) (markVals (delL R.begun v.key) ++ [encStr v.key, .int .i64 v.gen]) from hown4); have B4 := Lib.hid (show Below w2.heap.size w2 w4 from (B3.out.alloc hz3 _).grown hgr4 (by first | omega | (simp; omega)) (fun y hy => (O3.out.lt y hy).1)); have z1 : w4.cell? ⟨w.heap.size, 1, none⟩ = some (encStr v.key) := (B4.out.cell (p := ⟨w.heap.size, 1, none⟩) hnb).trans q1; have z2 : w4.cell? ⟨w.heap.size, 2, none⟩ = some (.int .i64 v.gen) := (B4.out.cell (p := ⟨w.heap.size, 2, none⟩) hnb).trans q2; have z3 : w4.cell? ⟨p, 2, none⟩ = some (.slice B n c) := (B4.out.cell (p := ⟨p, 2, none⟩) hpz).trans c2; have z4 : w4.frozen? ⟨p, 2, none⟩ = false := (RR2.out.blk.below B4.out hpz).free 2; clear hown4 hgr4 hat4) | (refine step_append_src _ rfl (.tmp 40) (.tmp 46) 52 rfl w2.heap.size 91 i0 _ 2 24 Tryz.underlying52 hi0 hz0 hz1 hz2 rfl (by omega) v3 (delL R.begun v.key).length (markVals (delL R.begun v.key)) rfl O3.out (some ⟨w2.heap.size, 0, none⟩) 1 1 [encStr v.key, .int .i64 v.gen] rfl rfl (fun e => by cases e) (OneRow.src ⟨_, BM.out, rfl⟩) (by intro u hu; simp only [List.mem_cons, List.not_mem_nil, or_false] at hu; rcases hu with rfl | rfl <;> rfl) (by simp only [maxLen]; omega) (by omega) (by first | omega | (simp; omega)) ?_; intro v' w4 hown4 hgr4 hat4; obtain ⟨g4, k4, rfl, _, _, _⟩ := own_form hown4; have O4 := Lib.hid (show w4.ownsRow w2.heap.size 91 2 (.slice g4 ((delL R.begun v.key).length + 1) k4) ((delL R.begun v.key).length + 1) (markVals (delL R.begun v.key) ++ [encStr v.key, .int .i64 v.gen]) from hown4); have B4 := Lib.hid (show Below w2.heap.size w2 w4 from B3.out.grown hgr4 (by first | omega | (simp; omega)) (fun y hy => (O3.out.lt y hy).1)); have z1 : w4.cell? ⟨w.heap.size, 1, none⟩ = some (encStr v.key) := (B4.out.cell (p := ⟨w.heap.size, 1, none⟩) hnb).trans q1; have z2 : w4.cell? ⟨w.heap.size, 2, none⟩ = some (.int .i64 v.gen) := (B4.out.cell (p := ⟨w.heap.size, 2, none⟩) hnb).trans q2; have z3 : w4.cell? ⟨p, 2, none⟩ = some (.slice B n c) := (B4.out.cell (p := ⟨p, 2, none⟩) hpz).trans c2; have z4 : w4.frozen? ⟨p, 2, none⟩ = false := (RR2.out.blk.below B4.out hpz).free 2; clear hown4 hgr4 hat4)
          clear hHeld
          refine hK.out _ _ ⟨z1, z2⟩ (fun hHeld => ?_)
          clear hK K
          refine tk (i := 15) (v := ?vR4n1b1315) rfl ?hyR4n1b1315 ?restR4n1b1315
          case hyR4n1b1315 => (intro w hSw; (try dsimp only at hSw); go_simp <;> with_reducible rfl)
          refine tk (i := 16) (v := ?vR4n1b1316) rfl ?hyR4n1b1316 ?restR4n1b1316
          case hyR4n1b1316 => (intro w hSw; (try dsimp only at hSw); go_simp <;> with_reducible rfl)
          refine wpAnyH_ready (rs := [17]) (by kernel_rfl) (by simp) ?_
          refine AllReadyH.cons rfl (fun K hK => ?_) AllReadyH.nil
          go_simp
          clear hHeld
          refine hK.out _ _ ⟨cell_other z1 hnp, cell_other z2 hnp⟩ (fun hHeld => ?_)
          clear hK K
          refine wpAnyH_done (by kernel_rfl) ?_ _
          go_wp2_with fail
          go_ret
          rw [HE.out]
          have hl4 : (putL R.begun v.key v.gen).length = (delL R.begun v.key).length + 1 := by unfold putL; rw [List.length_append]; rfl
          have hpost := RR2.out.setBegun B4.out (L := putL R.begun v.key v.gen) (v := .slice g4 ((delL R.begun v.key).length + 1) k4) (by rw [hl4]; have h := O4.out; unfold putL; rw [markVals_app]; exact h) (by rw [hl4]; have h1 := RR1.out.lens; have h2 : (delL R.begun v.key).length ≤ R.begun.length := List.length_filter_le _ _; omega) (Nat.le_refl _)
          obtain ⟨F3, hc3, ht3⟩ := hpost
          exact ⟨rfl, RefPost.of_below B1.out ⟨F3, hc3, T2.out.trans ht3⟩⟩
end
end Go.Proofs.YtmkccblcmiflfaaGreat

namespace Go.Proofs.YtmkccblcmiflfaaGreat
open Go.RowKit Go.Maps Go.WideMaps

set_option maxHeartbeats 4000000 in
set_option maxRecDepth 16000 in
theorem rRestNo (F : Nat → Prop) (p N : Nat) (R : CV) (v : NoteV) (D : Option Addr) (dn dc : Nat) (Q : Option Addr) (qn qc : Nat) (w : World) (h : RefAt F w p N R) (h4 : v.kind ≠ 4) (h5 : v.kind ≠ 5) (h6 : v.kind ≠ 6) :
    Calls Tryz.prog 56 #[.pointer (some ⟨p, 0, none⟩), noteAgg v D dn dc Q qn qc] w fun e w' => e = .returned (.int .i64 12) ∧ RefPost F p (N + 1) R w w' := by
  have H := Lib.hid h
  have e4 : (v.kind == 4) = false := by simpa using h4
  have e5 : (v.kind == 5) = false := by simpa using h5
  have e6 : (v.kind != 6) = true := by simpa using h6
  clear h h4 h5 h6
  unfold noteAgg
  go_enter Tryz.func56, Tryz.ntmps56
  go_wp2_with fail
  go_ret
  exact ⟨rfl, RefPost.same H.out (Nat.le_succ _) ((Below.refl _ _).alloc (Nat.le_refl _) _)⟩
end Go.Proofs.YtmkccblcmiflfaaGreat

namespace Go.Proofs.YtmkccblcmiflfaaGreat
open Go.RowKit Go.Maps Go.WideMaps

theorem quiet_eq {P : Program} {f : FuncId} {args : Array Value} {w : World} {n : Nat} {v : Value} (h : Calls P f args (w.drewN n) fun e w' => e = .returned v ∧ w.drewN n = w') :
    Calls P f args (w.drewN n) fun e w' => e = .returned v ∧ ∃ m, w' = w.drewN m :=
  h.mono fun _ _ ⟨he, hm⟩ => ⟨he, n, hm.symm⟩
section
variable {F : Nat → Prop} {w w' : World} {p N : Nat} {R : CV} {sw sh sb st sr : Value} {ER : List EntR}
/-- What lies in no block of what waits, nor in the catalog's own, stays. -/
theorem RefR.row_chg (h : RefR F w p N R sw sh sb st sr ER) {w0 : World} {t : TypeId} {size n : Nat} {v : Value} {xs : List Value} (hr : OwnRow F w t size v n xs) (h1 : t ≠ 55) (h2 : t ≠ 88) (hc : Chg (fun k => k = p ∨ sw.ownBlock = some k) w w') : OwnRow (Wide F w0) w' t size v n xs :=
  (hr.chg hc (fun g hg e => by
    obtain ⟨cs, hb⟩ := own_blk hr.1 hg
    rcases e with e | e
    · exact blk_ne hb h.blk h1 e
    · obtain ⟨cs', hb'⟩ := own_blk h.wait.1 e
      exact blk_ne hb hb' h2 rfl)).wide
theorem RefR.wait_ne (h : RefR F w p N R sw sh sb st sr ER) {g : Nat} (hg : sw.ownBlock = some g) : g ≠ p := by
  obtain ⟨cs, hb⟩ := own_blk h.wait.1 hg
  exact blk_ne hb h.blk (by decide)
theorem RefR.setWaitIn (h : RefR F w p N R sw sh sb st sr ER) {w0 : World} {M : Nat} {sw' : Value} {L : List (Str × Str)} (hM : N ≤ M) (hc : Chg (fun k => k = p ∨ sw.ownBlock = some k) w w')
    (hp : Blk w' p 55 #[sw', sh, sb, st, sr, .int .i64 R.gen]) (ho : OwnRow (Wide F w0) w' 88 2 sw' L.length (waitVals L)) (hL : L.length ≤ M) : RefR (Wide F w0) w' p M { R with staged := L } sw' sh sb st sr ER :=
  ⟨hp, .inl h.fp, ho, h.row_chg h.here (by decide) (by decide) hc, h.ents, fun r hr => h.row_chg (h.pls r hr) (by decide) (by decide) hc, h.row_chg h.beg (by decide) (by decide) hc, h.row_chg h.tmb (by decide) (by decide) hc, h.row_chg h.ret (by decide) (by decide) hc, by have := h.lens; exact ⟨hL, by show R.entries.length ≤ M; omega, by show R.begun.length ≤ M; omega, by show R.tombs.length ≤ M; omega, by show R.retired.length ≤ M; omega⟩⟩
end
theorem rput_close {F : Nat → Prop} {w w3 w4 : World} {p N B0n c0 g4 cap4 : Nat} {R : CV} {B0 : Option Addr} {sh sb st sr : Value} {ER : List EntR} {k d : Str} (h : RefR F w3 p N R (.slice B0 B0n c0) sh sb st sr ER) (hb : Below w.heap.size w w3)
    (hown : w4.ownsRow 0 88 2 (.slice (some ⟨g4, 0, none⟩) (R.staged.length + 1) cap4) (R.staged.length + 1) (waitVals R.staged ++ [encStr k, encStr d]))
    (hg : (w3.alloc (.cells #[encStr k, encStr d] 88)).grownBy w4 (Value.slice B0 B0n c0).ownBlock) (hat : (Value.slice B0 B0n c0).ownBlock = some g4 ∨ g4 = (w3.alloc (.cells #[encStr k, encStr d] 88)).heap.size) :
    RefPost F p (N + 1) { R with staged := R.staged ++ [(k, d)] } w (w4.setCell ⟨p, 0, none⟩ (.slice (some ⟨g4, 0, none⟩) (R.staged.length + 1) cap4)) := by
  have hz3 := hb.size
  have hpz := h.blk.size
  have hgp : g4 ≠ p := by
    rcases hat with e | e
    · exact h.wait_ne e
    · rw [World.size_alloc] at e; omega
  have hc3 : Chg (fun k => k = p ∨ (Value.slice B0 B0n c0).ownBlock = some k) w3 w4 := ((Chg.refl _ w3).alloc _).grown hg (fun g e => .inl (.inr e))
  have hc : Chg (fun k => k = p ∨ (Value.slice B0 B0n c0).ownBlock = some k) w3 (w4.setCell ⟨p, 0, none⟩ (.slice (some ⟨g4, 0, none⟩) (R.staged.length + 1) cap4)) := hc3.store (p := ⟨p, 0, none⟩) (.inl (.inl rfl)) _
  have hp4 : Blk w4 p 55 _ := (h.blk.alloc (.cells #[encStr k, encStr d] 88)).grown hg (fun e => h.wait_ne e rfl)
  have hr := h.setWaitIn (w0 := w) (M := N + 1) (L := R.staged ++ [(k, d)]) (Nat.le_succ _) hc (hp4.store 0 _)
    ⟨by
      have e : waitVals (R.staged ++ [(k, d)]) = waitVals R.staged ++ [encStr k, encStr d] := waitVals_app _ _
      rw [e, show (R.staged ++ [(k, d)]).length = R.staged.length + 1 by simp]
      exact own_of_eq hown (fun q hq => Below.heap_setCell w4 _ _ q (fun e => hgp ((Option.some.inj hq).trans e))), fun q hq => by
      have e : g4 = q := Option.some.inj hq
      subst e
      rcases hat with e | e
      · exact .inl (h.wait.2 _ e)
      · rw [World.size_alloc] at e; exact .inr (by omega)⟩ (by have := h.lens; simp; omega)
  refine Took.of (RefAt.owning p (N + 1) _) ⟨_, _, _, _, _, _, hr⟩ ((Chg.of_below F hb).trans' hc (fun i hi e => ?_))
  rcases e with e | e
  · rw [e]; exact h.fp
  · exact h.wait.2 i e
end Go.Proofs.YtmkccblcmiflfaaGreat

namespace Go.Proofs.YtmkccblcmiflfaaGreat
open Go.RowKit Go.Maps Go.WideMaps

def RowM (w : World) (g : Nat) (t : TypeId) (vals : List Value) : Prop := ∃ cs m, w.heap[g]? = some (.cells cs t m) ∧ cs.toList.take vals.length = vals
section
variable {w w' w0 : World} {g n : Nat} {t : TypeId} {vals xs : List Value} {A : Option Addr}
theorem RowM.of (h : RowAt w g t vals) : RowM w g t vals := ⟨_, _, h.choose_spec.1, h.choose_spec.2⟩
theorem RowM.size (h : RowM w g t vals) : g < w.heap.size := by
  obtain ⟨cs, m, h, _⟩ := h
  exact (Array.getElem?_eq_some_iff.1 h).1
theorem RowM.of_eq (h : RowM w g t vals) (he : w'.heap[g]? = w.heap[g]?) : RowM w' g t vals := by
  obtain ⟨cs, m, h1, h2⟩ := h
  exact ⟨cs, m, he.trans h1, h2⟩
theorem RowM.src (h : RowM w g t vals) : SrcAt w (some ⟨g, 0, none⟩) n vals := by
  obtain ⟨cs, m, h1, h2⟩ := h
  refine .inr ⟨g, 0, rfl, fun j u hu => ?_⟩
  rw [Nat.zero_add, cell_of_row _ g j _ t _ h1]
  rw [← h2] at hu
  rw [List.getElem?_take] at hu
  split at hu
  · simpa using hu
  · cases hu
def PartM (w0 w : World) (t : TypeId) (A : Option Addr) (n : Nat) (xs : List Value) : Prop := (A = none ∧ n = 0 ∧ xs = []) ∨ ∃ g, A = some ⟨g, 0, none⟩ ∧ w0.heap.size ≤ g ∧ RowM w g t xs
theorem PartM.nil (w0 w : World) (t : TypeId) : PartM w0 w t none 0 [] := .inl ⟨rfl, rfl, rfl⟩
theorem PartM.below (h : PartM w0 w t A n xs) (hb : Below w.heap.size w w') : PartM w0 w' t A n xs := h.imp id fun ⟨g, h1, h2, h3⟩ => ⟨g, h1, h2, h3.of_eq (hb.block g h3.size)⟩
theorem PartM.grown {row : Option Nat} {t' : TypeId} (h : PartM w0 w t A n xs) (hg : w.grownBy w' row) (hr : ∀ g, row = some g → ∃ cs, w.heap[g]? = some (.cells cs t' (0, 0))) (hne : t' ≠ t) : PartM w0 w' t A n xs :=
  h.imp id fun ⟨g, h1, h2, h3⟩ => ⟨g, h1, h2, h3.of_eq (hg.block g h3.size (fun e => by
    obtain ⟨cs, hc⟩ := hr g e.symm
    obtain ⟨cs', m, h4, _⟩ := h3
    rw [hc] at h4
    injection h4 with h4
    injection h4 with _ h5 _
    exact hne h5))⟩
theorem PartM.src (h : PartM w0 w t A n xs) : SrcAt w A n xs := by
  rcases h with ⟨_, h1, h2⟩ | ⟨g, rfl, _, h3⟩
  · exact .inl ⟨h1, h2⟩
  · exact h3.src
theorem PartM.of_own {c size : Nat} (h : w.ownsRow w0.heap.size t size (.slice A n c) n xs) : PartM w0 w t A n xs := by
  have hl := h.1
  obtain ⟨B, k, e, h1, h2, h3⟩ := own_form h
  cases e
  rcases h3 with ⟨rfl, rfl, _⟩ | ⟨g, rfl⟩
  · exact .inl ⟨rfl, rfl, List.eq_nil_of_length_eq_zero (by rw [hl]; simp)⟩
  · exact .inr ⟨g, rfl, (h.lt g rfl).1, RowM.of (RowAt.of_own h)⟩
end
theorem PartM.bytes {w0 w : World} {A : Option Addr} {n : Nat} {l : List UInt8} (h : PartM w0 w 5 A n (byteVals l)) (hn : l.length = n) : BytesIn w A n l := by
  refine ⟨hn, ?_⟩
  rcases h with ⟨_, h1, _⟩ | ⟨g, rfl, _, h3⟩
  · exact .inl h1
  · refine .inr ⟨g, 0, rfl, h3.size, fun i u hu => ?_⟩
    rcases h3.src (n := n) with ⟨h0, h1⟩ | ⟨b, o, e, hc⟩
    · have h4 := congrArg List.length h1
      rw [byteVals_length] at h4
      have := (List.getElem?_eq_some_iff.1 hu).1
      simp at h4
      rw [h4] at this
      cases this
    · cases e
      exact hc i _ (by rw [byteVals_get, hu]; rfl)
structure NoteM (w0 w : World) (r : NoteP) : Prop where
  data : PartM w0 w 5 r.D r.v.data.length (byteVals r.v.data)
  places : PartM w0 w 95 r.Q r.v.places.length (placeVals r.v.places)
  pn : r.v.places.length ≤ maxLen
theorem NoteM.below {w0 w w' : World} {r : NoteP} (h : NoteM w0 w r) (hb : Below w.heap.size w w') : NoteM w0 w' r := ⟨h.data.below hb, h.places.below hb, h.pn⟩
theorem NoteM.grown {w0 w w' : World} {r : NoteP} {row : Option Nat} (h : NoteM w0 w r) (hg : w.grownBy w' row) (hr : ∀ g, row = some g → ∃ cs, w.heap[g]? = some (.cells cs 32 (0, 0))) : NoteM w0 w' r :=
  ⟨h.data.grown hg hr (by decide), h.places.grown hg hr (by decide), h.pn⟩
/-- Notes collected in new memory. -/
def NtR (w0 w : World) (v : Value) (L : List NoteV) : Prop :=
  ∃ NP : List NoteP, NP.map (·.v) = L ∧ w.ownsRow w0.heap.size 32 8 v L.length (notePVals NP) ∧ (∀ r ∈ NP, NoteM w0 w r) ∧ Below w0.heap.size w0 w
section
variable {w0 w w' : World} {v : Value} {L : List NoteV}
theorem NtR.below (h : NtR w0 w v L) (hb : Below w.heap.size w w') : NtR w0 w' v L := by
  obtain ⟨NP, h1, h2, h3, h4⟩ := h
  exact ⟨NP, h1, own_of_eq h2 (fun g hg => hb.block g (h2.lt g hg).2), fun r hr => (h3 r hr).below hb, h4.trans (hb.mono h4.size)⟩
theorem NtR.bel (h : NtR w0 w v L) : Below w0.heap.size w0 w := by
  obtain ⟨NP, h1, h2, h3, h4⟩ := h
  exact h4
theorem NtR.form (h : NtR w0 w v L) : ∃ B c, v = .slice B L.length c ∧ L.length ≤ c ∧ c ≤ maxLen ∧ ((B = none ∧ L.length = 0 ∧ c = 0) ∨ ∃ g, B = some ⟨g, 0, none⟩) := by
  obtain ⟨NP, h1, h2, h3, h4⟩ := h
  exact own_form h2
theorem NtR.held {B : Option Addr} {c : Nat} (h : NtR w0 w (.slice B L.length c) L) : ∃ NP : List NoteP, NP.map (·.v) = L ∧ NotesRd w B L.length NP := by
  obtain ⟨NP, h1, h2, h3, h4⟩ := h
  obtain ⟨B', c', e, hn, hc, hB⟩ := own_form h2
  cases e
  refine ⟨NP, h1, by rw [← h1, List.length_map], ?_, fun r hr => ⟨(h3 r hr).data.bytes rfl, ⟨rfl, (h3 r hr).places.src⟩, (h3 r hr).pn⟩, Nat.le_trans hn hc⟩
  rcases hB with ⟨rfl, h0, _⟩ | ⟨g, rfl⟩
  · refine .inl ⟨h0, ?_⟩
    have e : NP = [] := by
      rw [← h1, List.length_map] at h0
      exact List.eq_nil_of_length_eq_zero h0
    rw [e]
    rfl
  · exact OneRow.src (RowAt.of_own h2)
theorem step_append_m (w0 W : World) {ops : Array Oper} {o : Oper} {a : Act} {K : Act → World → Prop} {Q : Exit → Act → World → Prop} {E : Prop} (hgd : o.guard = none) (s x : Operand)
    (ho : o.op = .call { callee := .builtin .append, args := #[s, x], argTypes := #[22, 22] })
    (v : Value) (L : List NoteV) (hs : a.eval s = v) (hst : NtR w0 W v L)
    (A : Option Addr) (r : NoteP) (hx : a.eval x = .slice A 1 1) (hA : A ≠ none) (hr : SrcAt W A 1 r.cells) (hok : NoteM w0 W r) (hL : L.length + 1 ≤ 1000000)
    (h : ∀ v' w', NtR w0 w' v' (L ++ [r.v]) → (∀ g t cs, t ≠ 32 → Blk W g t cs → w'.heap[g]? = W.heap[g]?) → K (a.put o.dst v') w') :
    if Region.wanted o (yielded ops a.tmps) = true then Oper.wp Tryz.prog o a W K Q else E := by
  obtain ⟨i0, hi0, hz0, hz1, hz2⟩ := info_parts noteC_info
  obtain ⟨NP, h1, h2, h3, h4⟩ := hst
  refine step_append_src W hgd s x 22 ho w0.heap.size 32 i0 _ 8 112 Tryz.underlying22 hi0 hz0 hz1 hz2 rfl (by omega) v L.length (notePVals NP) hs h2 A 1 1 r.cells hx rfl (fun e => absurd e hA) hr (noteP_one r) (by simp only [maxLen]; omega) (by omega) h4.size fun v' w' ho' hg' hat' => ?_
  refine h v' w' ⟨NP ++ [r], by rw [List.map_append, h1]; rfl, by rw [notePVals_app, notePVals_one1, List.length_append]; exact ho', fun r' hr' => ?_, h4.grown hg' h4.size (fun q hq => (h2.lt q hq).1)⟩ (fun g t cs ht hb => hg'.block g hb.size (fun e => by
    obtain ⟨cs', hc⟩ := own_kind h2 g e.symm
    exact blk_ne hb (show Blk W g 32 cs' from hc) ht rfl))
  have hk : ∀ g, v.ownBlock = some g → ∃ cs, W.heap[g]? = some (.cells cs 32 (0, 0)) := fun g hg => own_kind h2 g hg
  rcases List.mem_append.1 hr' with hr' | hr'
  · exact (h3 r' hr').grown hg' hk
  · obtain rfl : r' = r := by simpa using hr'
    exact hok.grown hg' hk
theorem wpList_append_m (w0 W : World) {ops : Array Oper} {rest : List Oper} {o : Oper} {a : Act} {Q : Exit → Act → World → Prop} (hgd : o.guard = none) (s x : Operand)
    (ho : o.op = .call { callee := .builtin .append, args := #[s, x], argTypes := #[22, 22] })
    (v : Value) (L : List NoteV) (hs : a.eval s = v) (hst : NtR w0 W v L)
    (A : Option Addr) (r : NoteP) (hx : a.eval x = .slice A 1 1) (hA : A ≠ none) (hr : SrcAt W A 1 r.cells) (hok : NoteM w0 W r) (hL : L.length + 1 ≤ 1000000)
    (h : ∀ v' w', NtR w0 w' v' (L ++ [r.v]) → wpList Tryz.prog ops Q rest (a.put o.dst v') w') : wpList Tryz.prog ops Q (o :: rest) a W := by
  obtain ⟨i0, hi0, hz0, hz1, hz2⟩ := info_parts noteC_info
  obtain ⟨NP, h1, h2, h3, h4⟩ := hst
  refine wpList_append_src W hgd s x 22 ho w0.heap.size 32 i0 _ 8 112 Tryz.underlying22 hi0 hz0 hz1 hz2 rfl (by omega) v L.length (notePVals NP) hs h2 A 1 1 r.cells hx rfl (fun e => absurd e hA) hr (noteP_one r) (by simp only [maxLen]; omega) (by omega) h4.size fun v' w' ho' hg' hat' => ?_
  refine h v' w' ⟨NP ++ [r], by rw [List.map_append, h1]; rfl, by rw [notePVals_app, notePVals_one1, List.length_append]; exact ho', fun r' hr' => ?_, h4.grown hg' h4.size (fun q hq => (h2.lt q hq).1)⟩
  have hk : ∀ g, v.ownBlock = some g → ∃ cs, W.heap[g]? = some (.cells cs 32 (0, 0)) := fun g hg => own_kind h2 g hg
  rcases List.mem_append.1 hr' with hr' | hr'
  · exact (h3 r' hr').grown hg' hk
  · obtain rfl : r' = r := by simpa using hr'
    exact hok.grown hg' hk
end
theorem NtR.made (w : World) : NtR w (w.alloc (.cells #[] 32)) (.slice (some ⟨w.heap.size, 0, none⟩) 0 0) [] := ⟨[], rfl, own_made w _ 8 rfl (Nat.le_refl _), (fun _ h => by cases h), (Below.refl _ _).alloc (Nat.le_refl _) _⟩
theorem conv_new (w : World) (s : List UInt8) : ∃ W' k, (convert 9 29 (encStr s)).run Tryz.prog w = .ok (.slice (some ⟨w.heap.size, 0, none⟩) s.length k) W' ∧ RowM W' w.heap.size 5 (byteVals s) ∧ Below w.heap.size w W' := by
  have h := run_bytes_of_string (P := Tryz.prog) w 9 29 5 ⟨s.toArray⟩ Tryz.underlying9 Tryz.underlying29 Tryz.underlying5
  refine ⟨_, _, h, ⟨_, _, heap_alloc_new w.drew _, ?_⟩, ?_⟩
  · unfold bytesRow byteVals
    simp
  · exact (show Below w.heap.size w w.drew from below_drew1).alloc (Nat.le_refl w.heap.size) _
/-- The notes that the document's catalog tells. -/
def notesR (R : CV) : List NoteV :=
  R.staged.map putN ++ (gensC R).map genN ++ (if lastG (gensC R) < R.gen then [genN ([], R.gen)] else []) ++ R.entries.map placedN ++ R.tombs.map tombN ++ (((List.range 32).map fun n : Nat => (n : Int)).filter (fun n => decide (n ∈ R.retired))).map retireN
theorem range_sorted (R : CV) (hr : ∀ n ∈ R.retired, 0 ≤ n ∧ n < 32) (hn : R.retired.Nodup) : ((List.range 32).map fun n : Nat => (n : Int)).filter (fun n => decide (n ∈ R.retired)) = sortI R.retired := by
  have hp : List.Perm (((List.range 32).map fun n : Nat => (n : Int)).filter (fun n => decide (n ∈ R.retired))) R.retired := by
    refine (List.perm_ext_iff_of_nodup ?_ hn).2 (fun n => ?_)
    · refine List.Nodup.sublist List.filter_sublist ?_
      decide
    · rw [List.mem_filter, decide_eq_true_eq, List.mem_map]
      constructor
      · exact fun h => h.2
      · intro h
        have h1 := hr n h
        exact ⟨⟨n.toNat, by rw [List.mem_range]; omega, by omega⟩, h⟩
  have h1 : sortI (((List.range 32).map fun n : Nat => (n : Int)).filter (fun n => decide (n ∈ R.retired))) = sortI R.retired := mergeSort_of_perm_i hp
  rw [← h1]
  unfold sortI
  refine (List.mergeSort_of_pairwise ?_).symm
  refine List.Pairwise.sublist List.filter_sublist ?_
  decide
theorem notesR_eq {R : CV} (hs : SortedE R.entries) (hr : ∀ n ∈ R.retired, 0 ≤ n ∧ n < 32) (hn : R.retired.Nodup) : notesR R = notesC R := by
  have hne : (R.entries.map Prod.fst).Nodup := by
    rw [List.nodup_iff_pairwise_ne, List.pairwise_map]
    exact List.Pairwise.imp (R := fun a b : Str × EntV => a.1 < b.1) (S := fun a b => a.1 ≠ b.1) (fun {a b} h e => str_irrefl b.1 (by rw [e] at h; exact h)) hs
  have he : entsC R = R.entries := sorted_eq (entsC_sorted hne) hs (fun q => entsC_mem_iff hne q)
  unfold notesR notesC
  rw [range_sorted R hr hn, he]
end Go.Proofs.YtmkccblcmiflfaaGreat

namespace Go.Proofs.YtmkccblcmiflfaaGreat
open Go.RowKit Go.Maps Go.WideMaps

theorem int_info : (Tryz.prog.info? 3).map (fun i => (i.zero, i.size, i.bytes)) = some (some (.int .i64 0), 1, 8) := by kernel_rfl
theorem ints_one (L : List Int) : ∀ u ∈ intVals L, u.oneCell' = true := by
  intro u hu
  obtain ⟨q, _, rfl⟩ := List.mem_map.1 hu
  rfl
section
variable {w w5 : World} {t : TypeId} {size : Nat}
theorem below_a2 (w : World) (o p : Obj) : Below w.heap.size w ((w.alloc o).alloc p).drew := drew_of (((Below.refl _ w).alloc (Nat.le_refl _) o).alloc (by simp) p)
theorem own_d2 (w : World) (t : TypeId) (size : Nat) (o : Obj) : ((w.alloc (.cells #[] t)).alloc o).drew.ownsRow w.heap.size t size (.slice (some ⟨w.heap.size, 0, none⟩) 0 0) 0 [] := (own_made w t size rfl (Nat.le_refl _)).alloc o
theorem own_d3 (w : World) (t : TypeId) (size : Nat) (o : Obj) : ((w.alloc o).alloc (.cells #[] t)).drew.ownsRow w.heap.size t size (.slice (some ⟨w.heap.size + 1, 0, none⟩) 0 0) 0 [] := own_made (w.alloc o) t size (by simp) (by omega)
theorem grown_d2 {o p : Obj} (h : ((w.alloc o).alloc p).drew.grownBy w5 (some w.heap.size)) : Below w.heap.size w w5 := (below_a2 w o p).grown h (by show w.heap.size ≤ ((w.alloc o).alloc p).heap.size; simp; omega) (fun y hy => by injection hy; omega)
theorem grown_d3 {o p : Obj} (h : ((w.alloc o).alloc p).drew.grownBy w5 (some (w.heap.size + 1))) : Below w.heap.size w w5 := (below_a2 w o p).grown h (by show w.heap.size ≤ ((w.alloc o).alloc p).heap.size; simp; omega) (fun y hy => by injection hy; omega)
theorem src_k2 {cs : List Value} {m : Nat} (h : ((w.alloc (.cells #[] t)).alloc (.cells cs.toArray t)).drew.grownBy w5 (some w.heap.size)) : SrcAt w5 (some ⟨w.heap.size + 1, 0, none⟩) m cs := by
  have e : (w.alloc (.cells #[] t)).heap.size = w.heap.size + 1 := by simp
  have h1 := src_new (w.alloc (.cells #[] t)) cs t m
  rw [e] at h1
  exact src_kept h1 (h.block _ (by show w.heap.size + 1 < ((w.alloc _).alloc _).heap.size; simp) (by simp))
theorem src_k3 {cs : List Value} {m : Nat} (h : ((w.alloc (.cells cs.toArray t)).alloc (.cells #[] t)).drew.grownBy w5 (some (w.heap.size + 1))) : SrcAt w5 (some ⟨w.heap.size, 0, none⟩) m cs :=
  src_kept (src_new w cs t m) ((h.block _ (by show w.heap.size < ((w.alloc _).alloc _).heap.size; simp; omega) (by simp)).trans (Below.heap_alloc (w.alloc (.cells cs.toArray t)) _ _ (by simp)))
end
section
set_option maxHeartbeats 16000000
set_option maxRecDepth 100000
theorem rRest5 (F : Nat → Prop) (p N : Nat) (R : CV) (v : NoteV) (D : Option Addr) (dn dc : Nat) (Q : Option Addr) (qn qc : Nat) (w : World) (h : RefAt F w p N R) (hN : N ≤ 10000) (hk5 : v.kind = 5) :
    Calls Tryz.prog 56 #[.pointer (some ⟨p, 0, none⟩), noteAgg v D dn dc Q qn qc] w fun e w' => e = .returned (.int .i64 (refRetire R v).1) ∧ RefPost F p (N + 1) (refRetire R v).2 w w' := by
  obtain ⟨i0, hi0, hz0, hz1, hz2⟩ := info_parts int_info
  have H := Lib.hid h
  have e4 : (v.kind == 4) = false := by rw [hk5]; rfl
  have e5 : (v.kind == 5) = true := by rw [hk5]; rfl
  clear h hk5
  unfold noteAgg
  go_enter Tryz.func56, Tryz.ntmps56
  go_upto_region 1 with fail
  obtain ⟨w1, hw1⟩ : ∃ w1, w1 = w.alloc (.cells #[.int .i64 v.kind, encStr v.key, .int .i64 v.gen, .int .i64 v.cart, .slice D dn dc, encStr v.sum, .int .i64 v.size, .slice Q qn qc] 32) := ⟨_, rfl⟩
  have hb1 : Below w.heap.size w w1 := by rw [hw1]; exact (Below.refl _ _).alloc (Nat.le_refl _) _
  have BB := Lib.hid (show Blk w1 w.heap.size 32 #[.int .i64 v.kind, encStr v.key, .int .i64 v.gen, .int .i64 v.cart, .slice D dn dc, encStr v.sum, .int .i64 v.size, .slice Q qn qc] by rw [hw1]; exact Blk.made w _ _)
  change Code.wp _ _ _ _ (w.alloc (.cells #[.int .i64 v.kind, encStr v.key, .int .i64 v.gen, .int .i64 v.cart, .slice D dn dc, encStr v.sum, .int .i64 v.size, .slice Q qn qc] 32))
  rw [← hw1]
  have B1 := Lib.hid hb1
  have H1 := Lib.hid (H.out.below hb1)
  have q0 : w1.cell? ⟨w.heap.size, 0, none⟩ = some (.int .i64 v.kind) := BB.out.cell 0
  have q3 : w1.cell? ⟨w.heap.size, 3, none⟩ = some (.int .i64 v.cart) := BB.out.cell 3
  have hnb : w.heap.size < w1.heap.size := BB.out.size
  clear hw1 hb1
  by_cases c1 : v.cart < 0
  · have d1 : decide (v.cart < 0) = true := by simpa using c1
    have HE := Lib.hid (show refRetire R v = (12, R) from if_pos (.inl c1))
    go_wp2_with fail
    go_ret
    rw [HE.out]
    exact ⟨rfl, RefPost.same H.out (Nat.le_succ _) B1.out⟩
  have d1 : decide (v.cart < 0) = false := by simpa using c1
  by_cases c2 : 31 < v.cart
  · have d2 : decide (31 < v.cart) = true := by simpa using c2
    have HE := Lib.hid (show refRetire R v = (12, R) from if_pos (.inr (by omega)))
    go_wp2_with fail
    go_ret
    rw [HE.out]
    exact ⟨rfl, RefPost.same H.out (Nat.le_succ _) B1.out⟩
  have d2 : decide (31 < v.cart) = false := by simpa using c2
  have HE0 := Lib.hid (show refRetire R v = (0, if v.cart ∈ R.retired then R else { R with retired := R.retired ++ [v.cart] }) from if_neg (by omega))
  go_wp2_with fail
  refine (rOut F p N R v.cart _ H1.out (by omega)).mono ?_
  rintro e w1' ⟨rfl, rfl⟩
  by_cases hm : v.cart ∈ R.retired
  · have d3 : decide (v.cart ∈ R.retired) = true := decide_eq_true hm
    have HE := Lib.hid (HE0.out.trans (by rw [if_pos hm]))
    rw [d3]
    go_wp2_with fail
    go_ret
    rw [HE.out]
    exact ⟨rfl, RefPost.same H.out (Nat.le_succ _) B1.out⟩
  · have d3 : decide (v.cart ∈ R.retired) = false := decide_eq_false hm
    have HE := Lib.hid (HE0.out.trans (by rw [if_neg hm]))
    rw [d3]
    clear hm d3
    obtain ⟨sw, sh, sb, st, sr, ER, hr1⟩ := H1.out
    obtain ⟨B, c, rfl, hnc, hcm, hB⟩ := own_form hr1.ret.1
    have cc : w1.cell? ⟨p, 4, none⟩ = some (.slice B R.retired.length c) := hr1.blk.cell 4
    have hrl : p < w1.heap.size := hr1.blk.size
    have RR := Lib.hid hr1
    have hnR : R.retired.length ≤ 10000 := by have := hr1.lens; omega
    obtain ⟨n, hn⟩ : ∃ n, R.retired.length = n := ⟨_, rfl⟩
    have HRN := Lib.hid hn
    have SRC := Lib.hid (orow_src hr1.ret).1
    have HBN := Lib.hid (show B = none → n = 0 from fun e => by rcases hB with ⟨_, h, _⟩ | ⟨g, h⟩; rw [← hn]; exact h; rw [h] at e; cases e)
    have SRB := Lib.hid (show ∀ W : World, Below w1.heap.size w1 W → SrcAt W B n (intVals R.retired) from fun W hb => by rw [← hn]; exact SRC.out.below hb)
    rw [hn] at cc hnR
    clear hr1 hB hn hnc hcm
    go_wp2_with fail
    go_region_law ((first
      | (refine step_append_any _ rfl (.tmp 67) (.tmp 71) 53 rfl w1.heap.size 3 i0 _ 1 8 Tryz.underlying53 hi0 hz0 hz1 hz2 rfl (by omega) _ 0 [] rfl (own_d1 w1 _ 1) B n c (intVals R.retired) rfl (by unfold intVals; rw [List.length_map, HRN.out, Nat.mul_one]) HBN.out (SRB.out _ (below_a1 w1 _)) (ints_one _) (by simp only [maxLen]; omega) (by omega) (by simp <;> omega) ?_
         intro B5 c5 w5 hown5 hgr5
         have O5 := Lib.hid (show w5.ownsRow w1.heap.size 3 1 (.slice B5 n c5) n (intVals R.retired) by simpa using hown5)
         have C5 := Lib.hid (show Below w1.heap.size w1 w5 from grown_d1 hgr5)
         have K5 : w5.cell? ⟨p, 4, none⟩ = some (.slice B n c) := (C5.out.cell (p := ⟨p, 4, none⟩) hrl).trans cc
         have Q5 : w5.cell? ⟨w.heap.size, 3, none⟩ = some (.int .i64 v.cart) := (C5.out.cell (p := ⟨w.heap.size, 3, none⟩) (World.block_lt_of_cell? _ _ q3)).trans q3
         clear hown5 hgr5)
      | (refine step_append_any _ rfl (.tmp 67) (.tmp 71) 53 rfl w1.heap.size 3 i0 _ 1 8 Tryz.underlying53 hi0 hz0 hz1 hz2 rfl (by omega) _ 0 [] rfl (own_d2 w1 _ 1 _) B n c (intVals R.retired) rfl (by unfold intVals; rw [List.length_map, HRN.out, Nat.mul_one]) HBN.out (SRB.out _ (below_a2 w1 _ _)) (ints_one _) (by simp only [maxLen]; omega) (by omega) (by simp <;> omega) ?_
         intro B5 c5 w5 hown5 hgr5
         have O5 := Lib.hid (show w5.ownsRow w1.heap.size 3 1 (.slice B5 n c5) n (intVals R.retired) by simpa using hown5)
         have C5 := Lib.hid (show Below w1.heap.size w1 w5 from grown_d2 hgr5)
         have K5 : w5.cell? ⟨p, 4, none⟩ = some (.slice B n c) := (C5.out.cell (p := ⟨p, 4, none⟩) hrl).trans cc
         have Q5 : w5.cell? ⟨w.heap.size, 3, none⟩ = some (.int .i64 v.cart) := (C5.out.cell (p := ⟨w.heap.size, 3, none⟩) (World.block_lt_of_cell? _ _ q3)).trans q3
         have KS := Lib.hid (src_k2 (cs := [.int .i64 v.cart]) (m := 1) hgr5)
         clear hown5 hgr5)
      | (refine step_append_any _ rfl (.tmp 67) (.tmp 71) 53 rfl w1.heap.size 3 i0 _ 1 8 Tryz.underlying53 hi0 hz0 hz1 hz2 rfl (by omega) _ 0 [] rfl (own_d3 w1 _ 1 _) B n c (intVals R.retired) rfl (by unfold intVals; rw [List.length_map, HRN.out, Nat.mul_one]) HBN.out (SRB.out _ (below_a2 w1 _ _)) (ints_one _) (by simp only [maxLen]; omega) (by omega) (by simp <;> omega) ?_
         intro B5 c5 w5 hown5 hgr5
         have O5 := Lib.hid (show w5.ownsRow w1.heap.size 3 1 (.slice B5 n c5) n (intVals R.retired) by simpa using hown5)
         have C5 := Lib.hid (show Below w1.heap.size w1 w5 from grown_d3 hgr5)
         have K5 : w5.cell? ⟨p, 4, none⟩ = some (.slice B n c) := (C5.out.cell (p := ⟨p, 4, none⟩) hrl).trans cc
         have Q5 : w5.cell? ⟨w.heap.size, 3, none⟩ = some (.int .i64 v.cart) := (C5.out.cell (p := ⟨w.heap.size, 3, none⟩) (World.block_lt_of_cell? _ _ q3)).trans q3
         have KS := Lib.hid (src_k3 (cs := [.int .i64 v.cart]) (m := 1) hgr5)
         clear hown5 hgr5)
      | (refine step_append_any _ rfl (.tmp 72) (.tmp 75) 53 rfl w1.heap.size 3 i0 _ 1 8 Tryz.underlying53 hi0 hz0 hz1 hz2 rfl (by omega) _ n (intVals R.retired) rfl (O5.out.alloc _) (some ⟨w5.heap.size, 0, none⟩) 1 1 [.int .i64 v.cart] rfl rfl (fun e => by cases e) (src_new _ _ _ _) (by intro u hu; simp only [List.mem_cons, List.not_mem_nil, or_false] at hu; subst hu; rfl) (by simp only [maxLen]; omega) (by omega) (C5.out.alloc C5.out.size _).size ?_
         intro B6 c6 w6 hown6 hgr6
         have O6 := Lib.hid hown6
         have C6 := Lib.hid (show Below w1.heap.size w1 w6 from (C5.out.alloc C5.out.size _).grown hgr6 (C5.out.alloc C5.out.size _).size (fun y hy => (O5.out.lt y hy).1))
         have K6 : w6.cell? ⟨p, 4, none⟩ = some (.slice B n c) := (C6.out.cell (p := ⟨p, 4, none⟩) hrl).trans cc
         have f6 : w6.frozen? ⟨p, 4, none⟩ = false := (RR.out.blk.below C6.out hrl).free 4
         clear hown6 hgr6)
      | (refine step_append_any _ rfl (.tmp 72) (.tmp 75) 53 rfl w1.heap.size 3 i0 _ 1 8 Tryz.underlying53 hi0 hz0 hz1 hz2 rfl (by omega) _ n (intVals R.retired) rfl (O5.out) (some ⟨w1.heap.size + 1, 0, none⟩) 1 1 [.int .i64 v.cart] rfl rfl (fun e => by cases e) (KS.out) (by intro u hu; simp only [List.mem_cons, List.not_mem_nil, or_false] at hu; subst hu; rfl) (by simp only [maxLen]; omega) (by omega) (C5.out).size ?_
         intro B6 c6 w6 hown6 hgr6
         have O6 := Lib.hid hown6
         have C6 := Lib.hid (show Below w1.heap.size w1 w6 from (C5.out).grown hgr6 (C5.out).size (fun y hy => (O5.out.lt y hy).1))
         have K6 : w6.cell? ⟨p, 4, none⟩ = some (.slice B n c) := (C6.out.cell (p := ⟨p, 4, none⟩) hrl).trans cc
         have f6 : w6.frozen? ⟨p, 4, none⟩ = false := (RR.out.blk.below C6.out hrl).free 4
         clear hown6 hgr6)
      | (refine step_append_any _ rfl (.tmp 72) (.tmp 75) 53 rfl w1.heap.size 3 i0 _ 1 8 Tryz.underlying53 hi0 hz0 hz1 hz2 rfl (by omega) _ n (intVals R.retired) rfl (O5.out) (some ⟨w1.heap.size, 0, none⟩) 1 1 [.int .i64 v.cart] rfl rfl (fun e => by cases e) (KS.out) (by intro u hu; simp only [List.mem_cons, List.not_mem_nil, or_false] at hu; subst hu; rfl) (by simp only [maxLen]; omega) (by omega) (C5.out).size ?_
         intro B6 c6 w6 hown6 hgr6
         have O6 := Lib.hid hown6
         have C6 := Lib.hid (show Below w1.heap.size w1 w6 from (C5.out).grown hgr6 (C5.out).size (fun y hy => (O5.out.lt y hy).1))
         have K6 : w6.cell? ⟨p, 4, none⟩ = some (.slice B n c) := (C6.out.cell (p := ⟨p, 4, none⟩) hrl).trans cc
         have f6 : w6.frozen? ⟨p, 4, none⟩ = false := (RR.out.blk.below C6.out hrl).free 4
         clear hown6 hgr6)))
    all_goals
      go_wp2_with fail
    all_goals
      go_ret
      rw [HE.out]
      have hl : (R.retired ++ [v.cart]).length = n + 1 := by rw [List.length_append, HRN.out]; rfl
      have h6 : w6.ownsRow w1.heap.size 3 1 (.slice B6 (n + 1) c6) (R.retired ++ [v.cart]).length (intVals (R.retired ++ [v.cart])) := by
        rw [hl]
        have h := O6.out
        unfold intVals at *
        rw [List.map_append]
        exact h
      exact ⟨rfl, RefPost.of_below B1.out (RR.out.setRet C6.out h6 (by rw [hl]; have := RR.out.lens; have h2 := HRN.out; omega) (Nat.le_succ _))⟩
end
end Go.Proofs.YtmkccblcmiflfaaGreat
