/- Texts joined: KR15. No condition beyond those that each theorem states. -/
import Derived.Test.YtmkccblcmiflfaaGreatPK9
import Derived.Test.YtmkccblcmiflfaaGreatPK13
import Derived.Test.YtmkccblcmiflfaaGreatPK0
namespace Go.Proofs.YtmkccblcmiflfaaGreat
open Go.RowKit Go.Maps Go.WideMaps

theorem idx_has {β : Type} {L : List (Str × β)} {k : Str} : decide (0 ≤ idxP (isKey k) L) = hasL L k := by
  cases hh : hasL L k with
  | false => have := idxP_neg.2 ((hasL_any L k).symm.trans hh); exact decide_eq_false (by omega)
  | true => exact decide_eq_true (by
      have : ¬ idxP (isKey k) L < 0 := fun e => by
        have h1 := idxP_neg.1 e
        rw [← hasL_any, hh] at h1
        cases h1
      omega)
theorem chg_cell {S : Nat → Prop} {w w' : World} {b i : Nat} {u : Value} (h : Chg S w w') (hb : b < w.heap.size) (hn : ¬ S b) (hc : w.cell? ⟨b, i, none⟩ = some u) : w'.cell? ⟨b, i, none⟩ = some u := (World.cell?_of_block (a := ⟨b, i, none⟩) (h.block b hb hn)).trans hc
section
set_option maxHeartbeats 16000000
set_option maxRecDepth 100000
theorem rApply3 (F : Nat → Prop) (p N : Nat) (R : CV) (v : NoteV) (D : Option Addr) (dn dc : Nat) (Q : Option Addr) (qn qc : Nat) (w : World) (h : RefAt F w p N R) (hN : N ≤ 10000) (hk3 : v.kind = 3) (hs : (R.staged.map Prod.fst).Nodup) (he : (R.entries.map Prod.fst).Nodup) (hbg : ∀ q ∈ R.begun, 1 ≤ q.2) :
    Calls Tryz.prog 23 #[.pointer (some ⟨p, 0, none⟩), noteAgg v D dn dc Q qn qc] w fun e w' => e = .returned (.int .i64 (goneC R v).1) ∧ RefPost F p (N + 1) (goneC R v).2 w w' := by
  obtain ⟨i0, hi0, hz0, hz1, hz2⟩ := info_parts mark_info
  have H := Lib.hid h.narrow
  have HS := Lib.hid hs
  have HEN := Lib.hid he
  have HBG := Lib.hid (begG_pos (key := v.key) R.begun hbg)
  have e1 : (v.kind == 1) = false := by rw [hk3]; rfl
  have e2 : (v.kind == 2) = false := by rw [hk3]; rfl
  have e3 : (v.kind == 3) = true := by rw [hk3]; rfl
  clear h hk3 hs he hbg
  unfold noteAgg
  go_enter Tryz.func23, Tryz.ntmps23
  go_upto_region 1 with fail
  obtain ⟨w1, hw1⟩ : ∃ w1, w1 = w.alloc (.cells #[.int .i64 v.kind, encStr v.key, .int .i64 v.gen, .int .i64 v.cart, .slice D dn dc, encStr v.sum, .int .i64 v.size, .slice Q qn qc] 32) := ⟨_, rfl⟩
  have hb1 : Below w.heap.size w w1 := by rw [hw1]; exact (Below.refl _ _).alloc (Nat.le_refl _) _
  have BB := Lib.hid (show Blk w1 w.heap.size 32 #[.int .i64 v.kind, encStr v.key, .int .i64 v.gen, .int .i64 v.cart, .slice D dn dc, encStr v.sum, .int .i64 v.size, .slice Q qn qc] by rw [hw1]; exact Blk.made w _ _)
  change Code.wp _ _ _ _ (w.alloc (.cells #[.int .i64 v.kind, encStr v.key, .int .i64 v.gen, .int .i64 v.cart, .slice D dn dc, encStr v.sum, .int .i64 v.size, .slice Q qn qc] 32))
  rw [← hw1]
  have B1 := Lib.hid hb1
  have H1 := Lib.hid (H.out.below hb1)
  have q0 : w1.cell? ⟨w.heap.size, 0, none⟩ = some (.int .i64 v.kind) := BB.out.cell 0
  have q1 : w1.cell? ⟨w.heap.size, 1, none⟩ = some (encStr v.key) := BB.out.cell 1
  have q2 : w1.cell? ⟨w.heap.size, 2, none⟩ = some (.int .i64 v.gen) := BB.out.cell 2
  have hnb : w.heap.size < w1.heap.size := BB.out.size
  clear hw1 hb1
  go_wp2_with fail
  refine (rHas (Narrow F w) p N R v.key _ H1.out (by omega)).mono ?_
  rintro e w1' ⟨rfl, rfl⟩
  cases hh : hasC R v.key with
  | false =>
    have HE := Lib.hid (show goneC R v = (5, R) by unfold goneC; rw [if_pos hh])
    clear hh
    go_wp2_with fail
    go_ret
    rw [HE.out]
    exact ⟨rfl, RefPost.widen (RefPost.same H.out (Nat.le_succ _) B1.out)⟩
  | true =>
  go_wp2_with fail
  refine (rLater (Narrow F w) p N R v.gen _ H1.out).mono ?_
  rintro e w1' ⟨rfl, rfl⟩
  cases hl : laterB R v.gen with
  | false =>
    have HE := Lib.hid (show goneC R v = (12, R) by unfold goneC; rw [if_neg (by rw [hh]; simp), if_pos hl])
    clear hh hl
    go_wp2_with fail
    go_ret
    rw [HE.out]
    exact ⟨rfl, RefPost.widen (RefPost.same H.out (Nat.le_succ _) B1.out)⟩
  | true =>
  have HE := Lib.hid (show goneC R v = (0, goneV R v) by unfold goneC; rw [if_neg (by rw [hh]; simp), if_neg (by rw [hl]; simp)])
  clear hh hl
  go_upto_region 24 with fail
  go_cut [166] (fun s wx => s = .bool (hasL R.entries v.key || hasL R.begun v.key) ∧ wx = w1)
  case first =>
    go_wp2_with fail
    refine (rIs (Narrow F w) p N R v.key _ H1.out (by omega)).mono ?_
    rintro e w1' ⟨rfl, rfl⟩
    have hix : decide (0 ≤ idxP (isKey v.key) R.entries) = hasL R.entries v.key := idx_has
    cases hh : hasL R.entries v.key with
    | true =>
      rw [hh] at hix
      go_wp2_with fail
      go_meet
      exact ⟨by first | rfl | (rw [hh]; rfl), by first | rfl | trivial⟩
    | false =>
      rw [hh] at hix
      go_wp2_with fail
      refine (rBegan (Narrow F w) p N R v.key _ H1.out (by omega)).mono ?_
      rintro e w1' ⟨rfl, rfl⟩
      have hbx := HBG.out
      go_wp2_with fail
      go_meet
      exact ⟨by first | rfl | (rw [hh]; rfl) | (rw [hh, hbx]; rfl), by first | rfl | trivial⟩
  case rest =>
  obtain ⟨rfl, rfl⟩ := hcut
  go_upto_if 166 with fail
  go_cut [] (fun wx => RefPost (Narrow F w) p (N + 1) { R with tombs := goneL R v } wc wx)
  case first =>
    cases hg : (hasL R.entries v.key || hasL R.begun v.key) with
    | false =>
      have HL := Lib.hid (show { R with tombs := goneL R v } = R by unfold goneL; rw [hg]; rfl)
      clear hg
      go_wp2_with fail
      go_meet
      rw [HL.out]
      exact RefPost.same H1.out (Nat.le_succ _) (Below.refl _ _)
    | true =>
      have HL := Lib.hid (show goneL R v = R.tombs ++ [(v.key, v.gen)] from if_pos hg)
      clear hg
      obtain ⟨w2, rfl⟩ : ∃ w2 : World, w2 = wc := ⟨_, rfl⟩
      obtain ⟨sw2, sh2, sb2, st2, sr2, ER2, hr2⟩ := H1.out
      obtain ⟨B, c, rfl, hnc, hcm, hB⟩ := own_form hr2.tmb.1
      have hnR : R.tombs.length ≤ 10000 := by have := hr2.lens; omega
      obtain ⟨n, hn⟩ : ∃ n, R.tombs.length = n := ⟨_, rfl⟩
      have HRN := Lib.hid hn
      have cc : w2.cell? ⟨p, 3, none⟩ = some (.slice B n c) := by rw [← hn]; exact hr2.blk.cell 3
      have hrl : p < w2.heap.size := hr2.blk.size
      have RR := Lib.hid hr2
      have HBN := Lib.hid (show B = none → n = 0 from fun e => by rcases hB with ⟨_, h, _⟩ | ⟨g, h⟩; rw [← hn]; exact h; rw [h] at e; cases e)
      have SRC := Lib.hid (orow_src hr2.tmb).1
      have SRB := Lib.hid (show ∀ W : World, Below w2.heap.size w2 W → SrcAt W B n (markVals R.tombs) from fun W hb => by rw [← hn]; exact SRC.out.below hb)
      rw [hn] at hnR
      clear hr2 hB hn hnc hcm
      have hnp : w.heap.size ≠ p := fun e => Nat.lt_irrefl w.heap.size (by have h : Narrow F w p := RR.out.fp; rw [← e] at h; exact h.2)
      go_upto_region 25 with fail
      skip
      skip
      refine wp_region_held_drew (S := (fun w' => w'.cell? ⟨w.heap.size, 1, none⟩ = some (encStr v.key) ∧ w'.cell? ⟨w.heap.size, 2, none⟩ = some (.int .i64 v.gen))) (by kernel_rfl) ⟨q1, q2⟩ (fun hHeld => ?_)
      refine tk (i := 0) (v := ?vT25n10) rfl ?hyT25n10 ?restT25n10
      case hyT25n10 => (intro w hSw; (try dsimp only at hSw); go_simp <;> with_reducible rfl)
      try simp only [Act.put, pt1, pt2, pt3]
      refine tk (i := 2) (v := ?vT25n12) rfl ?hyT25n12 ?restT25n12
      case hyT25n12 => (intro w hSw; (try dsimp only at hSw); go_simp <;> with_reducible rfl)
      try simp only [Act.put, pt1, pt2, pt3]
      refine tk (i := 3) (v := ?vT25n13) rfl ?hyT25n13 ?restT25n13
      case hyT25n13 => (intro w hSw; (try dsimp only at hSw); go_simp <;> with_reducible rfl)
      try simp only [Act.put, pt1, pt2, pt3]
      refine tk (i := 4) (v := ?vT25n14) rfl ?hyT25n14 ?restT25n14
      case hyT25n14 => (intro w hSw; (try dsimp only at hSw); go_simp <;> with_reducible rfl)
      try simp only [Act.put, pt1, pt2, pt3]
      refine tk (i := 7) (v := ?vT25n17) rfl ?hyT25n17 ?restT25n17
      case hyT25n17 => (intro w hSw; (try dsimp only at hSw); go_simp <;> with_reducible rfl)
      try simp only [Act.put, pt1, pt2, pt3]
      refine tk (i := 8) (v := ?vT25n18) rfl ?hyT25n18 ?restT25n18
      case hyT25n18 => (intro w hSw; (try dsimp only at hSw); go_simp <;> with_reducible rfl)
      try simp only [Act.put, pt1, pt2, pt3]
      refine tk (i := 9) (v := ?vT25n19) rfl ?hyT25n19 ?restT25n19
      case hyT25n19 => (intro w hSw; (try dsimp only at hSw); go_simp <;> with_reducible rfl)
      try simp only [Act.put, pt1, pt2, pt3]
      refine tk (i := 10) (v := ?vT25n110) rfl ?hyT25n110 ?restT25n110
      case hyT25n110 => (intro w hSw; (try dsimp only at hSw); go_simp <;> with_reducible rfl)
      try simp only [Act.put, pt1, pt2, pt3]
      refine tk (i := 11) (v := ?vT25n111) rfl ?hyT25n111 ?restT25n111
      case hyT25n111 => (intro w hSw; (try dsimp only at hSw); go_simp <;> with_reducible rfl)
      try simp only [Act.put, pt1, pt2, pt3]
      refine wpAnyH_ready (rs := [1, 5, 12]) (by kernel_rfl) (by simp) ?_
      refine AllReadyH.cons rfl (fun K hK => ?_) (AllReadyH.cons rfl (fun K hK => ?_) (AllReadyH.cons rfl (fun K hK => ?_) AllReadyH.nil))
      · go_simp
        clear hHeld
        refine hK.out _ _ (by (try dsimp only); go_keep) (fun hHeld => ?_)
        clear hK K
        refine wpAnyH_ready (rs := [5, 12]) (by kernel_rfl) (by simp) ?_
        refine AllReadyH.cons rfl (fun K hK => ?_) (AllReadyH.cons rfl (fun K hK => ?_) AllReadyH.nil)
        · go_simp
          refine hK.out _ _ hHeld (fun hHeld => ?_)
          clear hK K
          refine wpAnyH_ready (rs := [6, 12]) (by kernel_rfl) (by simp) ?_
          refine AllReadyH.cons rfl (fun K hK => ?_) (AllReadyH.cons rfl (fun K hK => ?_) AllReadyH.nil)
          · first | (refine step_append_any _ rfl (.tmp 168) (.tmp 172) 52 rfl w2.heap.size 91 i0 _ 2 24 Tryz.underlying52 hi0 hz0 hz1 hz2 rfl (by omega) (.slice (some ⟨w2.heap.size, 0, none⟩) 0 0) 0 [] rfl (by exact own_d1 w2 _ 2) B n c (markVals R.tombs) rfl (by rw [markVals_len, HRN.out]) HBN.out (by exact SRB.out _ (below_a1 w2 _)) (markVals_one _) (by simp only [maxLen]; omega) (by omega) (by first | omega | (simp; omega) | simp) ?_; intro B5 c5 w5 hown5 hgr5; have O5 := Lib.hid (show w5.ownsRow w2.heap.size 91 2 (.slice B5 n c5) n (markVals R.tombs) by simpa using hown5); have C5 := Lib.hid (show Below w2.heap.size w2 w5 from grown_d1 (by exact hgr5)); have K5 : w5.cell? ⟨p, 3, none⟩ = some (.slice B n c) := (C5.out.cell (p := ⟨p, 3, none⟩) hrl).trans cc; have y1 : w5.cell? ⟨w.heap.size, 1, none⟩ = some (encStr v.key) := (C5.out.cell (p := ⟨w.heap.size, 1, none⟩) hnb).trans q1; have y2 : w5.cell? ⟨w.heap.size, 2, none⟩ = some (.int .i64 v.gen) := (C5.out.cell (p := ⟨w.heap.size, 2, none⟩) hnb).trans q2; clear hown5 hgr5) | (refine step_append_any _ rfl (.tmp 168) (.tmp 172) 52 rfl w2.heap.size 91 i0 _ 2 24 Tryz.underlying52 hi0 hz0 hz1 hz2 rfl (by omega) (.slice (some ⟨w2.heap.size, 0, none⟩) 0 0) 0 [] rfl (by exact own_d2 w2 _ 2 _) B n c (markVals R.tombs) rfl (by rw [markVals_len, HRN.out]) HBN.out (by exact SRB.out _ (below_a2 w2 _ _)) (markVals_one _) (by simp only [maxLen]; omega) (by omega) (by first | omega | (simp; omega) | simp) ?_; intro B5 c5 w5 hown5 hgr5; have O5 := Lib.hid (show w5.ownsRow w2.heap.size 91 2 (.slice B5 n c5) n (markVals R.tombs) by simpa using hown5); have C5 := Lib.hid (show Below w2.heap.size w2 w5 from grown_d2 (by exact hgr5)); have K5 : w5.cell? ⟨p, 3, none⟩ = some (.slice B n c) := (C5.out.cell (p := ⟨p, 3, none⟩) hrl).trans cc; have y1 : w5.cell? ⟨w.heap.size, 1, none⟩ = some (encStr v.key) := (C5.out.cell (p := ⟨w.heap.size, 1, none⟩) hnb).trans q1; have y2 : w5.cell? ⟨w.heap.size, 2, none⟩ = some (.int .i64 v.gen) := (C5.out.cell (p := ⟨w.heap.size, 2, none⟩) hnb).trans q2; have KS := Lib.hid (show SrcAt w5 (some ⟨w2.heap.size + 1, 0, none⟩) 1 [encStr v.key, .int .i64 v.gen] from src_k2 (cs := [encStr v.key, .int .i64 v.gen]) (m := 1) (by exact hgr5)); clear hown5 hgr5) | (refine step_append_any _ rfl (.tmp 168) (.tmp 172) 52 rfl w2.heap.size 91 i0 _ 2 24 Tryz.underlying52 hi0 hz0 hz1 hz2 rfl (by omega) (.slice (some ⟨w2.heap.size + 1, 0, none⟩) 0 0) 0 [] rfl (by exact own_d3 w2 _ 2 _) B n c (markVals R.tombs) rfl (by rw [markVals_len, HRN.out]) HBN.out (by exact SRB.out _ (below_a2 w2 _ _)) (markVals_one _) (by simp only [maxLen]; omega) (by omega) (by first | omega | (simp; omega) | simp) ?_; intro B5 c5 w5 hown5 hgr5; have O5 := Lib.hid (show w5.ownsRow w2.heap.size 91 2 (.slice B5 n c5) n (markVals R.tombs) by simpa using hown5); have C5 := Lib.hid (show Below w2.heap.size w2 w5 from grown_d3 (by exact hgr5)); have K5 : w5.cell? ⟨p, 3, none⟩ = some (.slice B n c) := (C5.out.cell (p := ⟨p, 3, none⟩) hrl).trans cc; have y1 : w5.cell? ⟨w.heap.size, 1, none⟩ = some (encStr v.key) := (C5.out.cell (p := ⟨w.heap.size, 1, none⟩) hnb).trans q1; have y2 : w5.cell? ⟨w.heap.size, 2, none⟩ = some (.int .i64 v.gen) := (C5.out.cell (p := ⟨w.heap.size, 2, none⟩) hnb).trans q2; have KS := Lib.hid (show SrcAt w5 (some ⟨w2.heap.size, 0, none⟩) 1 [encStr v.key, .int .i64 v.gen] from src_k3 (cs := [encStr v.key, .int .i64 v.gen]) (m := 1) (by exact hgr5)); clear hown5 hgr5)
            clear hHeld
            refine hK.out _ _ ⟨y1, y2⟩ (fun hHeld => ?_)
            clear hK K
            refine wpAnyH_ready (rs := [12]) (by kernel_rfl) (by simp) ?_
            refine AllReadyH.cons rfl (fun K hK => ?_) AllReadyH.nil
            go_simp
            clear hHeld
            refine hK.out _ _ (by (try dsimp only); go_keep) (fun hHeld => ?_)
            clear hK K
            refine wpAnyH_ready (rs := [13]) (by kernel_rfl) (by simp) ?_
            refine AllReadyH.cons rfl (fun K hK => ?_) AllReadyH.nil
            first | (refine step_append_any _ rfl (.tmp 173) (.tmp 179) 52 rfl w2.heap.size 91 i0 _ 2 24 Tryz.underlying52 hi0 hz0 hz1 hz2 rfl (by omega) (.slice B5 n c5) n (markVals R.tombs) (by first | rfl | (show Value.slice B5 (0 + n) c5 = Value.slice B5 n c5; rw [Nat.zero_add])) (by exact O5.out.alloc _) (some ⟨w5.heap.size, 0, none⟩) 1 1 [encStr v.key, .int .i64 v.gen] rfl rfl (fun e => by cases e) (by exact src_new _ _ _ _) (by intro u hu; simp only [List.mem_cons, List.not_mem_nil, or_false] at hu; rcases hu with rfl | rfl <;> rfl) (by simp only [maxLen]; omega) (by omega) (C5.out.alloc C5.out.size _).size ?_; intro B6 c6 w6 hown6 hgr6; have O6 := Lib.hid hown6; have C6 := Lib.hid (show Below w2.heap.size w2 w6 from (C5.out.alloc C5.out.size _).grown (by exact hgr6) (C5.out.alloc C5.out.size _).size (fun y hy => (O5.out.lt y hy).1)); have K6 : w6.cell? ⟨p, 3, none⟩ = some (.slice B n c) := (C6.out.cell (p := ⟨p, 3, none⟩) hrl).trans cc; have f6 : w6.frozen? ⟨p, 3, none⟩ = false := (RR.out.blk.below C6.out hrl).free 3; have z1 : w6.cell? ⟨w.heap.size, 1, none⟩ = some (encStr v.key) := (C6.out.cell (p := ⟨w.heap.size, 1, none⟩) hnb).trans q1; have z2 : w6.cell? ⟨w.heap.size, 2, none⟩ = some (.int .i64 v.gen) := (C6.out.cell (p := ⟨w.heap.size, 2, none⟩) hnb).trans q2; clear hown6 hgr6) | (refine step_append_any _ rfl (.tmp 173) (.tmp 179) 52 rfl w2.heap.size 91 i0 _ 2 24 Tryz.underlying52 hi0 hz0 hz1 hz2 rfl (by omega) (.slice B5 n c5) n (markVals R.tombs) (by first | rfl | (show Value.slice B5 (0 + n) c5 = Value.slice B5 n c5; rw [Nat.zero_add])) (by exact O5.out) (some ⟨w2.heap.size + 1, 0, none⟩) 1 1 [encStr v.key, .int .i64 v.gen] rfl rfl (fun e => by cases e) (by exact KS.out) (by intro u hu; simp only [List.mem_cons, List.not_mem_nil, or_false] at hu; rcases hu with rfl | rfl <;> rfl) (by simp only [maxLen]; omega) (by omega) (C5.out).size ?_; intro B6 c6 w6 hown6 hgr6; have O6 := Lib.hid hown6; have C6 := Lib.hid (show Below w2.heap.size w2 w6 from (C5.out).grown (by exact hgr6) (C5.out).size (fun y hy => (O5.out.lt y hy).1)); have K6 : w6.cell? ⟨p, 3, none⟩ = some (.slice B n c) := (C6.out.cell (p := ⟨p, 3, none⟩) hrl).trans cc; have f6 : w6.frozen? ⟨p, 3, none⟩ = false := (RR.out.blk.below C6.out hrl).free 3; have z1 : w6.cell? ⟨w.heap.size, 1, none⟩ = some (encStr v.key) := (C6.out.cell (p := ⟨w.heap.size, 1, none⟩) hnb).trans q1; have z2 : w6.cell? ⟨w.heap.size, 2, none⟩ = some (.int .i64 v.gen) := (C6.out.cell (p := ⟨w.heap.size, 2, none⟩) hnb).trans q2; clear hown6 hgr6) | (refine step_append_any _ rfl (.tmp 173) (.tmp 179) 52 rfl w2.heap.size 91 i0 _ 2 24 Tryz.underlying52 hi0 hz0 hz1 hz2 rfl (by omega) (.slice B5 n c5) n (markVals R.tombs) (by first | rfl | (show Value.slice B5 (0 + n) c5 = Value.slice B5 n c5; rw [Nat.zero_add])) (by exact O5.out) (some ⟨w2.heap.size, 0, none⟩) 1 1 [encStr v.key, .int .i64 v.gen] rfl rfl (fun e => by cases e) (by exact KS.out) (by intro u hu; simp only [List.mem_cons, List.not_mem_nil, or_false] at hu; rcases hu with rfl | rfl <;> rfl) (by simp only [maxLen]; omega) (by omega) (C5.out).size ?_; intro B6 c6 w6 hown6 hgr6; have O6 := Lib.hid hown6; have C6 := Lib.hid (show Below w2.heap.size w2 w6 from (C5.out).grown (by exact hgr6) (C5.out).size (fun y hy => (O5.out.lt y hy).1)); have K6 : w6.cell? ⟨p, 3, none⟩ = some (.slice B n c) := (C6.out.cell (p := ⟨p, 3, none⟩) hrl).trans cc; have f6 : w6.frozen? ⟨p, 3, none⟩ = false := (RR.out.blk.below C6.out hrl).free 3; have z1 : w6.cell? ⟨w.heap.size, 1, none⟩ = some (encStr v.key) := (C6.out.cell (p := ⟨w.heap.size, 1, none⟩) hnb).trans q1; have z2 : w6.cell? ⟨w.heap.size, 2, none⟩ = some (.int .i64 v.gen) := (C6.out.cell (p := ⟨w.heap.size, 2, none⟩) hnb).trans q2; clear hown6 hgr6)
            clear hHeld
            refine hK.out _ _ ⟨z1, z2⟩ (fun hHeld => ?_)
            clear hK K
            refine tk (i := 14) (v := ?vT25n1b1b5b614) rfl ?hyT25n1b1b5b614 ?restT25n1b1b5b614
            case hyT25n1b1b5b614 => (intro w hSw; (try dsimp only at hSw); go_simp <;> with_reducible rfl)
            refine tk (i := 15) (v := ?vT25n1b1b5b615) rfl ?hyT25n1b1b5b615 ?restT25n1b1b5b615
            case hyT25n1b1b5b615 => (intro w hSw; (try dsimp only at hSw); go_simp <;> with_reducible rfl)
            refine wpAnyH_ready (rs := [16]) (by kernel_rfl) (by simp) ?_
            refine AllReadyH.cons rfl (fun K hK => ?_) AllReadyH.nil
            go_simp
            clear hHeld
            refine hK.out _ _ ⟨cell_other z1 hnp, cell_other z2 hnp⟩ (fun hHeld => ?_)
            clear hK K
            refine wpAnyH_done (by kernel_rfl) ?_ _
            go_wp2_with fail
            go_meet
            rw [HL.out]
            have hl : (R.tombs ++ [(v.key, v.gen)]).length = n + 1 := by rw [List.length_append, HRN.out]; rfl
            have h6 : w6.ownsRow w2.heap.size 91 2 (.slice B6 (n + 1) c6) (R.tombs ++ [(v.key, v.gen)]).length (markVals (R.tombs ++ [(v.key, v.gen)])) := by rw [hl, markVals_app]; exact O6.out
            exact RR.out.setTombs C6.out h6 (by rw [hl]; have := RR.out.lens; have h2 := HRN.out; omega) (Nat.le_succ _)
          · go_simp
            clear hHeld
            refine hK.out _ _ (by (try dsimp only); go_keep) (fun hHeld => ?_)
            clear hK K
            refine wpAnyH_ready (rs := [6]) (by kernel_rfl) (by simp) ?_
            refine AllReadyH.cons rfl (fun K hK => ?_) AllReadyH.nil
            first | (refine step_append_any _ rfl (.tmp 168) (.tmp 172) 52 rfl w2.heap.size 91 i0 _ 2 24 Tryz.underlying52 hi0 hz0 hz1 hz2 rfl (by omega) (.slice (some ⟨w2.heap.size, 0, none⟩) 0 0) 0 [] rfl (by exact own_d1 w2 _ 2) B n c (markVals R.tombs) rfl (by rw [markVals_len, HRN.out]) HBN.out (by exact SRB.out _ (below_a1 w2 _)) (markVals_one _) (by simp only [maxLen]; omega) (by omega) (by first | omega | (simp; omega) | simp) ?_; intro B5 c5 w5 hown5 hgr5; have O5 := Lib.hid (show w5.ownsRow w2.heap.size 91 2 (.slice B5 n c5) n (markVals R.tombs) by simpa using hown5); have C5 := Lib.hid (show Below w2.heap.size w2 w5 from grown_d1 (by exact hgr5)); have K5 : w5.cell? ⟨p, 3, none⟩ = some (.slice B n c) := (C5.out.cell (p := ⟨p, 3, none⟩) hrl).trans cc; have y1 : w5.cell? ⟨w.heap.size, 1, none⟩ = some (encStr v.key) := (C5.out.cell (p := ⟨w.heap.size, 1, none⟩) hnb).trans q1; have y2 : w5.cell? ⟨w.heap.size, 2, none⟩ = some (.int .i64 v.gen) := (C5.out.cell (p := ⟨w.heap.size, 2, none⟩) hnb).trans q2; clear hown5 hgr5) | (refine step_append_any _ rfl (.tmp 168) (.tmp 172) 52 rfl w2.heap.size 91 i0 _ 2 24 Tryz.underlying52 hi0 hz0 hz1 hz2 rfl (by omega) (.slice (some ⟨w2.heap.size, 0, none⟩) 0 0) 0 [] rfl (by exact own_d2 w2 _ 2 _) B n c (markVals R.tombs) rfl (by rw [markVals_len, HRN.out]) HBN.out (by exact SRB.out _ (below_a2 w2 _ _)) (markVals_one _) (by simp only [maxLen]; omega) (by omega) (by first | omega | (simp; omega) | simp) ?_; intro B5 c5 w5 hown5 hgr5; have O5 := Lib.hid (show w5.ownsRow w2.heap.size 91 2 (.slice B5 n c5) n (markVals R.tombs) by simpa using hown5); have C5 := Lib.hid (show Below w2.heap.size w2 w5 from grown_d2 (by exact hgr5)); have K5 : w5.cell? ⟨p, 3, none⟩ = some (.slice B n c) := (C5.out.cell (p := ⟨p, 3, none⟩) hrl).trans cc; have y1 : w5.cell? ⟨w.heap.size, 1, none⟩ = some (encStr v.key) := (C5.out.cell (p := ⟨w.heap.size, 1, none⟩) hnb).trans q1; have y2 : w5.cell? ⟨w.heap.size, 2, none⟩ = some (.int .i64 v.gen) := (C5.out.cell (p := ⟨w.heap.size, 2, none⟩) hnb).trans q2; have KS := Lib.hid (show SrcAt w5 (some ⟨w2.heap.size + 1, 0, none⟩) 1 [encStr v.key, .int .i64 v.gen] from src_k2 (cs := [encStr v.key, .int .i64 v.gen]) (m := 1) (by exact hgr5)); clear hown5 hgr5) | (refine step_append_any _ rfl (.tmp 168) (.tmp 172) 52 rfl w2.heap.size 91 i0 _ 2 24 Tryz.underlying52 hi0 hz0 hz1 hz2 rfl (by omega) (.slice (some ⟨w2.heap.size + 1, 0, none⟩) 0 0) 0 [] rfl (by exact own_d3 w2 _ 2 _) B n c (markVals R.tombs) rfl (by rw [markVals_len, HRN.out]) HBN.out (by exact SRB.out _ (below_a2 w2 _ _)) (markVals_one _) (by simp only [maxLen]; omega) (by omega) (by first | omega | (simp; omega) | simp) ?_; intro B5 c5 w5 hown5 hgr5; have O5 := Lib.hid (show w5.ownsRow w2.heap.size 91 2 (.slice B5 n c5) n (markVals R.tombs) by simpa using hown5); have C5 := Lib.hid (show Below w2.heap.size w2 w5 from grown_d3 (by exact hgr5)); have K5 : w5.cell? ⟨p, 3, none⟩ = some (.slice B n c) := (C5.out.cell (p := ⟨p, 3, none⟩) hrl).trans cc; have y1 : w5.cell? ⟨w.heap.size, 1, none⟩ = some (encStr v.key) := (C5.out.cell (p := ⟨w.heap.size, 1, none⟩) hnb).trans q1; have y2 : w5.cell? ⟨w.heap.size, 2, none⟩ = some (.int .i64 v.gen) := (C5.out.cell (p := ⟨w.heap.size, 2, none⟩) hnb).trans q2; have KS := Lib.hid (show SrcAt w5 (some ⟨w2.heap.size, 0, none⟩) 1 [encStr v.key, .int .i64 v.gen] from src_k3 (cs := [encStr v.key, .int .i64 v.gen]) (m := 1) (by exact hgr5)); clear hown5 hgr5)
            clear hHeld
            refine hK.out _ _ ⟨y1, y2⟩ (fun hHeld => ?_)
            clear hK K
            refine wpAnyH_ready (rs := [13]) (by kernel_rfl) (by simp) ?_
            refine AllReadyH.cons rfl (fun K hK => ?_) AllReadyH.nil
            first | (refine step_append_any _ rfl (.tmp 173) (.tmp 179) 52 rfl w2.heap.size 91 i0 _ 2 24 Tryz.underlying52 hi0 hz0 hz1 hz2 rfl (by omega) (.slice B5 n c5) n (markVals R.tombs) (by first | rfl | (show Value.slice B5 (0 + n) c5 = Value.slice B5 n c5; rw [Nat.zero_add])) (by exact O5.out.alloc _) (some ⟨w5.heap.size, 0, none⟩) 1 1 [encStr v.key, .int .i64 v.gen] rfl rfl (fun e => by cases e) (by exact src_new _ _ _ _) (by intro u hu; simp only [List.mem_cons, List.not_mem_nil, or_false] at hu; rcases hu with rfl | rfl <;> rfl) (by simp only [maxLen]; omega) (by omega) (C5.out.alloc C5.out.size _).size ?_; intro B6 c6 w6 hown6 hgr6; have O6 := Lib.hid hown6; have C6 := Lib.hid (show Below w2.heap.size w2 w6 from (C5.out.alloc C5.out.size _).grown (by exact hgr6) (C5.out.alloc C5.out.size _).size (fun y hy => (O5.out.lt y hy).1)); have K6 : w6.cell? ⟨p, 3, none⟩ = some (.slice B n c) := (C6.out.cell (p := ⟨p, 3, none⟩) hrl).trans cc; have f6 : w6.frozen? ⟨p, 3, none⟩ = false := (RR.out.blk.below C6.out hrl).free 3; have z1 : w6.cell? ⟨w.heap.size, 1, none⟩ = some (encStr v.key) := (C6.out.cell (p := ⟨w.heap.size, 1, none⟩) hnb).trans q1; have z2 : w6.cell? ⟨w.heap.size, 2, none⟩ = some (.int .i64 v.gen) := (C6.out.cell (p := ⟨w.heap.size, 2, none⟩) hnb).trans q2; clear hown6 hgr6) | (refine step_append_any _ rfl (.tmp 173) (.tmp 179) 52 rfl w2.heap.size 91 i0 _ 2 24 Tryz.underlying52 hi0 hz0 hz1 hz2 rfl (by omega) (.slice B5 n c5) n (markVals R.tombs) (by first | rfl | (show Value.slice B5 (0 + n) c5 = Value.slice B5 n c5; rw [Nat.zero_add])) (by exact O5.out) (some ⟨w2.heap.size + 1, 0, none⟩) 1 1 [encStr v.key, .int .i64 v.gen] rfl rfl (fun e => by cases e) (by exact KS.out) (by intro u hu; simp only [List.mem_cons, List.not_mem_nil, or_false] at hu; rcases hu with rfl | rfl <;> rfl) (by simp only [maxLen]; omega) (by omega) (C5.out).size ?_; intro B6 c6 w6 hown6 hgr6; have O6 := Lib.hid hown6; have C6 := Lib.hid (show Below w2.heap.size w2 w6 from (C5.out).grown (by exact hgr6) (C5.out).size (fun y hy => (O5.out.lt y hy).1)); have K6 : w6.cell? ⟨p, 3, none⟩ = some (.slice B n c) := (C6.out.cell (p := ⟨p, 3, none⟩) hrl).trans cc; have f6 : w6.frozen? ⟨p, 3, none⟩ = false := (RR.out.blk.below C6.out hrl).free 3; have z1 : w6.cell? ⟨w.heap.size, 1, none⟩ = some (encStr v.key) := (C6.out.cell (p := ⟨w.heap.size, 1, none⟩) hnb).trans q1; have z2 : w6.cell? ⟨w.heap.size, 2, none⟩ = some (.int .i64 v.gen) := (C6.out.cell (p := ⟨w.heap.size, 2, none⟩) hnb).trans q2; clear hown6 hgr6) | (refine step_append_any _ rfl (.tmp 173) (.tmp 179) 52 rfl w2.heap.size 91 i0 _ 2 24 Tryz.underlying52 hi0 hz0 hz1 hz2 rfl (by omega) (.slice B5 n c5) n (markVals R.tombs) (by first | rfl | (show Value.slice B5 (0 + n) c5 = Value.slice B5 n c5; rw [Nat.zero_add])) (by exact O5.out) (some ⟨w2.heap.size, 0, none⟩) 1 1 [encStr v.key, .int .i64 v.gen] rfl rfl (fun e => by cases e) (by exact KS.out) (by intro u hu; simp only [List.mem_cons, List.not_mem_nil, or_false] at hu; rcases hu with rfl | rfl <;> rfl) (by simp only [maxLen]; omega) (by omega) (C5.out).size ?_; intro B6 c6 w6 hown6 hgr6; have O6 := Lib.hid hown6; have C6 := Lib.hid (show Below w2.heap.size w2 w6 from (C5.out).grown (by exact hgr6) (C5.out).size (fun y hy => (O5.out.lt y hy).1)); have K6 : w6.cell? ⟨p, 3, none⟩ = some (.slice B n c) := (C6.out.cell (p := ⟨p, 3, none⟩) hrl).trans cc; have f6 : w6.frozen? ⟨p, 3, none⟩ = false := (RR.out.blk.below C6.out hrl).free 3; have z1 : w6.cell? ⟨w.heap.size, 1, none⟩ = some (encStr v.key) := (C6.out.cell (p := ⟨w.heap.size, 1, none⟩) hnb).trans q1; have z2 : w6.cell? ⟨w.heap.size, 2, none⟩ = some (.int .i64 v.gen) := (C6.out.cell (p := ⟨w.heap.size, 2, none⟩) hnb).trans q2; clear hown6 hgr6)
            clear hHeld
            refine hK.out _ _ ⟨z1, z2⟩ (fun hHeld => ?_)
            clear hK K
            refine tk (i := 14) (v := ?vT25n1b1b5b1214) rfl ?hyT25n1b1b5b1214 ?restT25n1b1b5b1214
            case hyT25n1b1b5b1214 => (intro w hSw; (try dsimp only at hSw); go_simp <;> with_reducible rfl)
            refine tk (i := 15) (v := ?vT25n1b1b5b1215) rfl ?hyT25n1b1b5b1215 ?restT25n1b1b5b1215
            case hyT25n1b1b5b1215 => (intro w hSw; (try dsimp only at hSw); go_simp <;> with_reducible rfl)
            refine wpAnyH_ready (rs := [16]) (by kernel_rfl) (by simp) ?_
            refine AllReadyH.cons rfl (fun K hK => ?_) AllReadyH.nil
            go_simp
            clear hHeld
            refine hK.out _ _ ⟨cell_other z1 hnp, cell_other z2 hnp⟩ (fun hHeld => ?_)
            clear hK K
            refine wpAnyH_done (by kernel_rfl) ?_ _
            go_wp2_with fail
            go_meet
            rw [HL.out]
            have hl : (R.tombs ++ [(v.key, v.gen)]).length = n + 1 := by rw [List.length_append, HRN.out]; rfl
            have h6 : w6.ownsRow w2.heap.size 91 2 (.slice B6 (n + 1) c6) (R.tombs ++ [(v.key, v.gen)]).length (markVals (R.tombs ++ [(v.key, v.gen)])) := by rw [hl, markVals_app]; exact O6.out
            exact RR.out.setTombs C6.out h6 (by rw [hl]; have := RR.out.lens; have h2 := HRN.out; omega) (Nat.le_succ _)
        · go_simp
          clear hHeld
          refine hK.out _ _ (by (try dsimp only); go_keep) (fun hHeld => ?_)
          clear hK K
          refine wpAnyH_ready (rs := [5]) (by kernel_rfl) (by simp) ?_
          refine AllReadyH.cons rfl (fun K hK => ?_) AllReadyH.nil
          go_simp
          refine hK.out _ _ hHeld (fun hHeld => ?_)
          clear hK K
          refine wpAnyH_ready (rs := [6]) (by kernel_rfl) (by simp) ?_
          refine AllReadyH.cons rfl (fun K hK => ?_) AllReadyH.nil
          first | (refine step_append_any _ rfl (.tmp 168) (.tmp 172) 52 rfl w2.heap.size 91 i0 _ 2 24 Tryz.underlying52 hi0 hz0 hz1 hz2 rfl (by omega) (.slice (some ⟨w2.heap.size, 0, none⟩) 0 0) 0 [] rfl (by exact own_d1 w2 _ 2) B n c (markVals R.tombs) rfl (by rw [markVals_len, HRN.out]) HBN.out (by exact SRB.out _ (below_a1 w2 _)) (markVals_one _) (by simp only [maxLen]; omega) (by omega) (by first | omega | (simp; omega) | simp) ?_; intro B5 c5 w5 hown5 hgr5; have O5 := Lib.hid (show w5.ownsRow w2.heap.size 91 2 (.slice B5 n c5) n (markVals R.tombs) by simpa using hown5); have C5 := Lib.hid (show Below w2.heap.size w2 w5 from grown_d1 (by exact hgr5)); have K5 : w5.cell? ⟨p, 3, none⟩ = some (.slice B n c) := (C5.out.cell (p := ⟨p, 3, none⟩) hrl).trans cc; have y1 : w5.cell? ⟨w.heap.size, 1, none⟩ = some (encStr v.key) := (C5.out.cell (p := ⟨w.heap.size, 1, none⟩) hnb).trans q1; have y2 : w5.cell? ⟨w.heap.size, 2, none⟩ = some (.int .i64 v.gen) := (C5.out.cell (p := ⟨w.heap.size, 2, none⟩) hnb).trans q2; clear hown5 hgr5) | (refine step_append_any _ rfl (.tmp 168) (.tmp 172) 52 rfl w2.heap.size 91 i0 _ 2 24 Tryz.underlying52 hi0 hz0 hz1 hz2 rfl (by omega) (.slice (some ⟨w2.heap.size, 0, none⟩) 0 0) 0 [] rfl (by exact own_d2 w2 _ 2 _) B n c (markVals R.tombs) rfl (by rw [markVals_len, HRN.out]) HBN.out (by exact SRB.out _ (below_a2 w2 _ _)) (markVals_one _) (by simp only [maxLen]; omega) (by omega) (by first | omega | (simp; omega) | simp) ?_; intro B5 c5 w5 hown5 hgr5; have O5 := Lib.hid (show w5.ownsRow w2.heap.size 91 2 (.slice B5 n c5) n (markVals R.tombs) by simpa using hown5); have C5 := Lib.hid (show Below w2.heap.size w2 w5 from grown_d2 (by exact hgr5)); have K5 : w5.cell? ⟨p, 3, none⟩ = some (.slice B n c) := (C5.out.cell (p := ⟨p, 3, none⟩) hrl).trans cc; have y1 : w5.cell? ⟨w.heap.size, 1, none⟩ = some (encStr v.key) := (C5.out.cell (p := ⟨w.heap.size, 1, none⟩) hnb).trans q1; have y2 : w5.cell? ⟨w.heap.size, 2, none⟩ = some (.int .i64 v.gen) := (C5.out.cell (p := ⟨w.heap.size, 2, none⟩) hnb).trans q2; have KS := Lib.hid (show SrcAt w5 (some ⟨w2.heap.size + 1, 0, none⟩) 1 [encStr v.key, .int .i64 v.gen] from src_k2 (cs := [encStr v.key, .int .i64 v.gen]) (m := 1) (by exact hgr5)); clear hown5 hgr5) | (refine step_append_any _ rfl (.tmp 168) (.tmp 172) 52 rfl w2.heap.size 91 i0 _ 2 24 Tryz.underlying52 hi0 hz0 hz1 hz2 rfl (by omega) (.slice (some ⟨w2.heap.size + 1, 0, none⟩) 0 0) 0 [] rfl (by exact own_d3 w2 _ 2 _) B n c (markVals R.tombs) rfl (by rw [markVals_len, HRN.out]) HBN.out (by exact SRB.out _ (below_a2 w2 _ _)) (markVals_one _) (by simp only [maxLen]; omega) (by omega) (by first | omega | (simp; omega) | simp) ?_; intro B5 c5 w5 hown5 hgr5; have O5 := Lib.hid (show w5.ownsRow w2.heap.size 91 2 (.slice B5 n c5) n (markVals R.tombs) by simpa using hown5); have C5 := Lib.hid (show Below w2.heap.size w2 w5 from grown_d3 (by exact hgr5)); have K5 : w5.cell? ⟨p, 3, none⟩ = some (.slice B n c) := (C5.out.cell (p := ⟨p, 3, none⟩) hrl).trans cc; have y1 : w5.cell? ⟨w.heap.size, 1, none⟩ = some (encStr v.key) := (C5.out.cell (p := ⟨w.heap.size, 1, none⟩) hnb).trans q1; have y2 : w5.cell? ⟨w.heap.size, 2, none⟩ = some (.int .i64 v.gen) := (C5.out.cell (p := ⟨w.heap.size, 2, none⟩) hnb).trans q2; have KS := Lib.hid (show SrcAt w5 (some ⟨w2.heap.size, 0, none⟩) 1 [encStr v.key, .int .i64 v.gen] from src_k3 (cs := [encStr v.key, .int .i64 v.gen]) (m := 1) (by exact hgr5)); clear hown5 hgr5)
          clear hHeld
          refine hK.out _ _ ⟨y1, y2⟩ (fun hHeld => ?_)
          clear hK K
          refine wpAnyH_ready (rs := [13]) (by kernel_rfl) (by simp) ?_
          refine AllReadyH.cons rfl (fun K hK => ?_) AllReadyH.nil
          first | (refine step_append_any _ rfl (.tmp 173) (.tmp 179) 52 rfl w2.heap.size 91 i0 _ 2 24 Tryz.underlying52 hi0 hz0 hz1 hz2 rfl (by omega) (.slice B5 n c5) n (markVals R.tombs) (by first | rfl | (show Value.slice B5 (0 + n) c5 = Value.slice B5 n c5; rw [Nat.zero_add])) (by exact O5.out.alloc _) (some ⟨w5.heap.size, 0, none⟩) 1 1 [encStr v.key, .int .i64 v.gen] rfl rfl (fun e => by cases e) (by exact src_new _ _ _ _) (by intro u hu; simp only [List.mem_cons, List.not_mem_nil, or_false] at hu; rcases hu with rfl | rfl <;> rfl) (by simp only [maxLen]; omega) (by omega) (C5.out.alloc C5.out.size _).size ?_; intro B6 c6 w6 hown6 hgr6; have O6 := Lib.hid hown6; have C6 := Lib.hid (show Below w2.heap.size w2 w6 from (C5.out.alloc C5.out.size _).grown (by exact hgr6) (C5.out.alloc C5.out.size _).size (fun y hy => (O5.out.lt y hy).1)); have K6 : w6.cell? ⟨p, 3, none⟩ = some (.slice B n c) := (C6.out.cell (p := ⟨p, 3, none⟩) hrl).trans cc; have f6 : w6.frozen? ⟨p, 3, none⟩ = false := (RR.out.blk.below C6.out hrl).free 3; have z1 : w6.cell? ⟨w.heap.size, 1, none⟩ = some (encStr v.key) := (C6.out.cell (p := ⟨w.heap.size, 1, none⟩) hnb).trans q1; have z2 : w6.cell? ⟨w.heap.size, 2, none⟩ = some (.int .i64 v.gen) := (C6.out.cell (p := ⟨w.heap.size, 2, none⟩) hnb).trans q2; clear hown6 hgr6) | (refine step_append_any _ rfl (.tmp 173) (.tmp 179) 52 rfl w2.heap.size 91 i0 _ 2 24 Tryz.underlying52 hi0 hz0 hz1 hz2 rfl (by omega) (.slice B5 n c5) n (markVals R.tombs) (by first | rfl | (show Value.slice B5 (0 + n) c5 = Value.slice B5 n c5; rw [Nat.zero_add])) (by exact O5.out) (some ⟨w2.heap.size + 1, 0, none⟩) 1 1 [encStr v.key, .int .i64 v.gen] rfl rfl (fun e => by cases e) (by exact KS.out) (by intro u hu; simp only [List.mem_cons, List.not_mem_nil, or_false] at hu; rcases hu with rfl | rfl <;> rfl) (by simp only [maxLen]; omega) (by omega) (C5.out).size ?_; intro B6 c6 w6 hown6 hgr6; have O6 := Lib.hid hown6; have C6 := Lib.hid (show Below w2.heap.size w2 w6 from (C5.out).grown (by exact hgr6) (C5.out).size (fun y hy => (O5.out.lt y hy).1)); have K6 : w6.cell? ⟨p, 3, none⟩ = some (.slice B n c) := (C6.out.cell (p := ⟨p, 3, none⟩) hrl).trans cc; have f6 : w6.frozen? ⟨p, 3, none⟩ = false := (RR.out.blk.below C6.out hrl).free 3; have z1 : w6.cell? ⟨w.heap.size, 1, none⟩ = some (encStr v.key) := (C6.out.cell (p := ⟨w.heap.size, 1, none⟩) hnb).trans q1; have z2 : w6.cell? ⟨w.heap.size, 2, none⟩ = some (.int .i64 v.gen) := (C6.out.cell (p := ⟨w.heap.size, 2, none⟩) hnb).trans q2; clear hown6 hgr6) | (refine step_append_any _ rfl (.tmp 173) (.tmp 179) 52 rfl w2.heap.size 91 i0 _ 2 24 Tryz.underlying52 hi0 hz0 hz1 hz2 rfl (by omega) (.slice B5 n c5) n (markVals R.tombs) (by first | rfl | (show Value.slice B5 (0 + n) c5 = Value.slice B5 n c5; rw [Nat.zero_add])) (by exact O5.out) (some ⟨w2.heap.size, 0, none⟩) 1 1 [encStr v.key, .int .i64 v.gen] rfl rfl (fun e => by cases e) (by exact KS.out) (by intro u hu; simp only [List.mem_cons, List.not_mem_nil, or_false] at hu; rcases hu with rfl | rfl <;> rfl) (by simp only [maxLen]; omega) (by omega) (C5.out).size ?_; intro B6 c6 w6 hown6 hgr6; have O6 := Lib.hid hown6; have C6 := Lib.hid (show Below w2.heap.size w2 w6 from (C5.out).grown (by exact hgr6) (C5.out).size (fun y hy => (O5.out.lt y hy).1)); have K6 : w6.cell? ⟨p, 3, none⟩ = some (.slice B n c) := (C6.out.cell (p := ⟨p, 3, none⟩) hrl).trans cc; have f6 : w6.frozen? ⟨p, 3, none⟩ = false := (RR.out.blk.below C6.out hrl).free 3; have z1 : w6.cell? ⟨w.heap.size, 1, none⟩ = some (encStr v.key) := (C6.out.cell (p := ⟨w.heap.size, 1, none⟩) hnb).trans q1; have z2 : w6.cell? ⟨w.heap.size, 2, none⟩ = some (.int .i64 v.gen) := (C6.out.cell (p := ⟨w.heap.size, 2, none⟩) hnb).trans q2; clear hown6 hgr6)
          clear hHeld
          refine hK.out _ _ ⟨z1, z2⟩ (fun hHeld => ?_)
          clear hK K
          refine tk (i := 14) (v := ?vT25n1b1b1214) rfl ?hyT25n1b1b1214 ?restT25n1b1b1214
          case hyT25n1b1b1214 => (intro w hSw; (try dsimp only at hSw); go_simp <;> with_reducible rfl)
          refine tk (i := 15) (v := ?vT25n1b1b1215) rfl ?hyT25n1b1b1215 ?restT25n1b1b1215
          case hyT25n1b1b1215 => (intro w hSw; (try dsimp only at hSw); go_simp <;> with_reducible rfl)
          refine wpAnyH_ready (rs := [16]) (by kernel_rfl) (by simp) ?_
          refine AllReadyH.cons rfl (fun K hK => ?_) AllReadyH.nil
          go_simp
          clear hHeld
          refine hK.out _ _ ⟨cell_other z1 hnp, cell_other z2 hnp⟩ (fun hHeld => ?_)
          clear hK K
          refine wpAnyH_done (by kernel_rfl) ?_ _
          go_wp2_with fail
          go_meet
          rw [HL.out]
          have hl : (R.tombs ++ [(v.key, v.gen)]).length = n + 1 := by rw [List.length_append, HRN.out]; rfl
          have h6 : w6.ownsRow w2.heap.size 91 2 (.slice B6 (n + 1) c6) (R.tombs ++ [(v.key, v.gen)]).length (markVals (R.tombs ++ [(v.key, v.gen)])) := by rw [hl, markVals_app]; exact O6.out
          exact RR.out.setTombs C6.out h6 (by rw [hl]; have := RR.out.lens; have h2 := HRN.out; omega) (Nat.le_succ _)
      · go_simp
        refine hK.out _ _ hHeld (fun hHeld => ?_)
        clear hK K
        refine wpAnyH_ready (rs := [1, 12]) (by kernel_rfl) (by simp) ?_
        refine AllReadyH.cons rfl (fun K hK => ?_) (AllReadyH.cons rfl (fun K hK => ?_) AllReadyH.nil)
        · go_simp
          clear hHeld
          refine hK.out _ _ (by (try dsimp only); go_keep) (fun hHeld => ?_)
          clear hK K
          refine wpAnyH_ready (rs := [6, 12]) (by kernel_rfl) (by simp) ?_
          refine AllReadyH.cons rfl (fun K hK => ?_) (AllReadyH.cons rfl (fun K hK => ?_) AllReadyH.nil)
          · first | (refine step_append_any _ rfl (.tmp 168) (.tmp 172) 52 rfl w2.heap.size 91 i0 _ 2 24 Tryz.underlying52 hi0 hz0 hz1 hz2 rfl (by omega) (.slice (some ⟨w2.heap.size, 0, none⟩) 0 0) 0 [] rfl (by exact own_d1 w2 _ 2) B n c (markVals R.tombs) rfl (by rw [markVals_len, HRN.out]) HBN.out (by exact SRB.out _ (below_a1 w2 _)) (markVals_one _) (by simp only [maxLen]; omega) (by omega) (by first | omega | (simp; omega) | simp) ?_; intro B5 c5 w5 hown5 hgr5; have O5 := Lib.hid (show w5.ownsRow w2.heap.size 91 2 (.slice B5 n c5) n (markVals R.tombs) by simpa using hown5); have C5 := Lib.hid (show Below w2.heap.size w2 w5 from grown_d1 (by exact hgr5)); have K5 : w5.cell? ⟨p, 3, none⟩ = some (.slice B n c) := (C5.out.cell (p := ⟨p, 3, none⟩) hrl).trans cc; have y1 : w5.cell? ⟨w.heap.size, 1, none⟩ = some (encStr v.key) := (C5.out.cell (p := ⟨w.heap.size, 1, none⟩) hnb).trans q1; have y2 : w5.cell? ⟨w.heap.size, 2, none⟩ = some (.int .i64 v.gen) := (C5.out.cell (p := ⟨w.heap.size, 2, none⟩) hnb).trans q2; clear hown5 hgr5) | (refine step_append_any _ rfl (.tmp 168) (.tmp 172) 52 rfl w2.heap.size 91 i0 _ 2 24 Tryz.underlying52 hi0 hz0 hz1 hz2 rfl (by omega) (.slice (some ⟨w2.heap.size, 0, none⟩) 0 0) 0 [] rfl (by exact own_d2 w2 _ 2 _) B n c (markVals R.tombs) rfl (by rw [markVals_len, HRN.out]) HBN.out (by exact SRB.out _ (below_a2 w2 _ _)) (markVals_one _) (by simp only [maxLen]; omega) (by omega) (by first | omega | (simp; omega) | simp) ?_; intro B5 c5 w5 hown5 hgr5; have O5 := Lib.hid (show w5.ownsRow w2.heap.size 91 2 (.slice B5 n c5) n (markVals R.tombs) by simpa using hown5); have C5 := Lib.hid (show Below w2.heap.size w2 w5 from grown_d2 (by exact hgr5)); have K5 : w5.cell? ⟨p, 3, none⟩ = some (.slice B n c) := (C5.out.cell (p := ⟨p, 3, none⟩) hrl).trans cc; have y1 : w5.cell? ⟨w.heap.size, 1, none⟩ = some (encStr v.key) := (C5.out.cell (p := ⟨w.heap.size, 1, none⟩) hnb).trans q1; have y2 : w5.cell? ⟨w.heap.size, 2, none⟩ = some (.int .i64 v.gen) := (C5.out.cell (p := ⟨w.heap.size, 2, none⟩) hnb).trans q2; have KS := Lib.hid (show SrcAt w5 (some ⟨w2.heap.size + 1, 0, none⟩) 1 [encStr v.key, .int .i64 v.gen] from src_k2 (cs := [encStr v.key, .int .i64 v.gen]) (m := 1) (by exact hgr5)); clear hown5 hgr5) | (refine step_append_any _ rfl (.tmp 168) (.tmp 172) 52 rfl w2.heap.size 91 i0 _ 2 24 Tryz.underlying52 hi0 hz0 hz1 hz2 rfl (by omega) (.slice (some ⟨w2.heap.size + 1, 0, none⟩) 0 0) 0 [] rfl (by exact own_d3 w2 _ 2 _) B n c (markVals R.tombs) rfl (by rw [markVals_len, HRN.out]) HBN.out (by exact SRB.out _ (below_a2 w2 _ _)) (markVals_one _) (by simp only [maxLen]; omega) (by omega) (by first | omega | (simp; omega) | simp) ?_; intro B5 c5 w5 hown5 hgr5; have O5 := Lib.hid (show w5.ownsRow w2.heap.size 91 2 (.slice B5 n c5) n (markVals R.tombs) by simpa using hown5); have C5 := Lib.hid (show Below w2.heap.size w2 w5 from grown_d3 (by exact hgr5)); have K5 : w5.cell? ⟨p, 3, none⟩ = some (.slice B n c) := (C5.out.cell (p := ⟨p, 3, none⟩) hrl).trans cc; have y1 : w5.cell? ⟨w.heap.size, 1, none⟩ = some (encStr v.key) := (C5.out.cell (p := ⟨w.heap.size, 1, none⟩) hnb).trans q1; have y2 : w5.cell? ⟨w.heap.size, 2, none⟩ = some (.int .i64 v.gen) := (C5.out.cell (p := ⟨w.heap.size, 2, none⟩) hnb).trans q2; have KS := Lib.hid (show SrcAt w5 (some ⟨w2.heap.size, 0, none⟩) 1 [encStr v.key, .int .i64 v.gen] from src_k3 (cs := [encStr v.key, .int .i64 v.gen]) (m := 1) (by exact hgr5)); clear hown5 hgr5)
            clear hHeld
            refine hK.out _ _ ⟨y1, y2⟩ (fun hHeld => ?_)
            clear hK K
            refine wpAnyH_ready (rs := [12]) (by kernel_rfl) (by simp) ?_
            refine AllReadyH.cons rfl (fun K hK => ?_) AllReadyH.nil
            go_simp
            clear hHeld
            refine hK.out _ _ (by (try dsimp only); go_keep) (fun hHeld => ?_)
            clear hK K
            refine wpAnyH_ready (rs := [13]) (by kernel_rfl) (by simp) ?_
            refine AllReadyH.cons rfl (fun K hK => ?_) AllReadyH.nil
            first | (refine step_append_any _ rfl (.tmp 173) (.tmp 179) 52 rfl w2.heap.size 91 i0 _ 2 24 Tryz.underlying52 hi0 hz0 hz1 hz2 rfl (by omega) (.slice B5 n c5) n (markVals R.tombs) (by first | rfl | (show Value.slice B5 (0 + n) c5 = Value.slice B5 n c5; rw [Nat.zero_add])) (by exact O5.out.alloc _) (some ⟨w5.heap.size, 0, none⟩) 1 1 [encStr v.key, .int .i64 v.gen] rfl rfl (fun e => by cases e) (by exact src_new _ _ _ _) (by intro u hu; simp only [List.mem_cons, List.not_mem_nil, or_false] at hu; rcases hu with rfl | rfl <;> rfl) (by simp only [maxLen]; omega) (by omega) (C5.out.alloc C5.out.size _).size ?_; intro B6 c6 w6 hown6 hgr6; have O6 := Lib.hid hown6; have C6 := Lib.hid (show Below w2.heap.size w2 w6 from (C5.out.alloc C5.out.size _).grown (by exact hgr6) (C5.out.alloc C5.out.size _).size (fun y hy => (O5.out.lt y hy).1)); have K6 : w6.cell? ⟨p, 3, none⟩ = some (.slice B n c) := (C6.out.cell (p := ⟨p, 3, none⟩) hrl).trans cc; have f6 : w6.frozen? ⟨p, 3, none⟩ = false := (RR.out.blk.below C6.out hrl).free 3; have z1 : w6.cell? ⟨w.heap.size, 1, none⟩ = some (encStr v.key) := (C6.out.cell (p := ⟨w.heap.size, 1, none⟩) hnb).trans q1; have z2 : w6.cell? ⟨w.heap.size, 2, none⟩ = some (.int .i64 v.gen) := (C6.out.cell (p := ⟨w.heap.size, 2, none⟩) hnb).trans q2; clear hown6 hgr6) | (refine step_append_any _ rfl (.tmp 173) (.tmp 179) 52 rfl w2.heap.size 91 i0 _ 2 24 Tryz.underlying52 hi0 hz0 hz1 hz2 rfl (by omega) (.slice B5 n c5) n (markVals R.tombs) (by first | rfl | (show Value.slice B5 (0 + n) c5 = Value.slice B5 n c5; rw [Nat.zero_add])) (by exact O5.out) (some ⟨w2.heap.size + 1, 0, none⟩) 1 1 [encStr v.key, .int .i64 v.gen] rfl rfl (fun e => by cases e) (by exact KS.out) (by intro u hu; simp only [List.mem_cons, List.not_mem_nil, or_false] at hu; rcases hu with rfl | rfl <;> rfl) (by simp only [maxLen]; omega) (by omega) (C5.out).size ?_; intro B6 c6 w6 hown6 hgr6; have O6 := Lib.hid hown6; have C6 := Lib.hid (show Below w2.heap.size w2 w6 from (C5.out).grown (by exact hgr6) (C5.out).size (fun y hy => (O5.out.lt y hy).1)); have K6 : w6.cell? ⟨p, 3, none⟩ = some (.slice B n c) := (C6.out.cell (p := ⟨p, 3, none⟩) hrl).trans cc; have f6 : w6.frozen? ⟨p, 3, none⟩ = false := (RR.out.blk.below C6.out hrl).free 3; have z1 : w6.cell? ⟨w.heap.size, 1, none⟩ = some (encStr v.key) := (C6.out.cell (p := ⟨w.heap.size, 1, none⟩) hnb).trans q1; have z2 : w6.cell? ⟨w.heap.size, 2, none⟩ = some (.int .i64 v.gen) := (C6.out.cell (p := ⟨w.heap.size, 2, none⟩) hnb).trans q2; clear hown6 hgr6) | (refine step_append_any _ rfl (.tmp 173) (.tmp 179) 52 rfl w2.heap.size 91 i0 _ 2 24 Tryz.underlying52 hi0 hz0 hz1 hz2 rfl (by omega) (.slice B5 n c5) n (markVals R.tombs) (by first | rfl | (show Value.slice B5 (0 + n) c5 = Value.slice B5 n c5; rw [Nat.zero_add])) (by exact O5.out) (some ⟨w2.heap.size, 0, none⟩) 1 1 [encStr v.key, .int .i64 v.gen] rfl rfl (fun e => by cases e) (by exact KS.out) (by intro u hu; simp only [List.mem_cons, List.not_mem_nil, or_false] at hu; rcases hu with rfl | rfl <;> rfl) (by simp only [maxLen]; omega) (by omega) (C5.out).size ?_; intro B6 c6 w6 hown6 hgr6; have O6 := Lib.hid hown6; have C6 := Lib.hid (show Below w2.heap.size w2 w6 from (C5.out).grown (by exact hgr6) (C5.out).size (fun y hy => (O5.out.lt y hy).1)); have K6 : w6.cell? ⟨p, 3, none⟩ = some (.slice B n c) := (C6.out.cell (p := ⟨p, 3, none⟩) hrl).trans cc; have f6 : w6.frozen? ⟨p, 3, none⟩ = false := (RR.out.blk.below C6.out hrl).free 3; have z1 : w6.cell? ⟨w.heap.size, 1, none⟩ = some (encStr v.key) := (C6.out.cell (p := ⟨w.heap.size, 1, none⟩) hnb).trans q1; have z2 : w6.cell? ⟨w.heap.size, 2, none⟩ = some (.int .i64 v.gen) := (C6.out.cell (p := ⟨w.heap.size, 2, none⟩) hnb).trans q2; clear hown6 hgr6)
            clear hHeld
            refine hK.out _ _ ⟨z1, z2⟩ (fun hHeld => ?_)
            clear hK K
            refine tk (i := 14) (v := ?vT25n1b5b1b614) rfl ?hyT25n1b5b1b614 ?restT25n1b5b1b614
            case hyT25n1b5b1b614 => (intro w hSw; (try dsimp only at hSw); go_simp <;> with_reducible rfl)
            refine tk (i := 15) (v := ?vT25n1b5b1b615) rfl ?hyT25n1b5b1b615 ?restT25n1b5b1b615
            case hyT25n1b5b1b615 => (intro w hSw; (try dsimp only at hSw); go_simp <;> with_reducible rfl)
            refine wpAnyH_ready (rs := [16]) (by kernel_rfl) (by simp) ?_
            refine AllReadyH.cons rfl (fun K hK => ?_) AllReadyH.nil
            go_simp
            clear hHeld
            refine hK.out _ _ ⟨cell_other z1 hnp, cell_other z2 hnp⟩ (fun hHeld => ?_)
            clear hK K
            refine wpAnyH_done (by kernel_rfl) ?_ _
            go_wp2_with fail
            go_meet
            rw [HL.out]
            have hl : (R.tombs ++ [(v.key, v.gen)]).length = n + 1 := by rw [List.length_append, HRN.out]; rfl
            have h6 : w6.ownsRow w2.heap.size 91 2 (.slice B6 (n + 1) c6) (R.tombs ++ [(v.key, v.gen)]).length (markVals (R.tombs ++ [(v.key, v.gen)])) := by rw [hl, markVals_app]; exact O6.out
            exact RR.out.setTombs C6.out h6 (by rw [hl]; have := RR.out.lens; have h2 := HRN.out; omega) (Nat.le_succ _)
          · go_simp
            clear hHeld
            refine hK.out _ _ (by (try dsimp only); go_keep) (fun hHeld => ?_)
            clear hK K
            refine wpAnyH_ready (rs := [6]) (by kernel_rfl) (by simp) ?_
            refine AllReadyH.cons rfl (fun K hK => ?_) AllReadyH.nil
            first | (refine step_append_any _ rfl (.tmp 168) (.tmp 172) 52 rfl w2.heap.size 91 i0 _ 2 24 Tryz.underlying52 hi0 hz0 hz1 hz2 rfl (by omega) (.slice (some ⟨w2.heap.size, 0, none⟩) 0 0) 0 [] rfl (by exact own_d1 w2 _ 2) B n c (markVals R.tombs) rfl (by rw [markVals_len, HRN.out]) HBN.out (by exact SRB.out _ (below_a1 w2 _)) (markVals_one _) (by simp only [maxLen]; omega) (by omega) (by first | omega | (simp; omega) | simp) ?_; intro B5 c5 w5 hown5 hgr5; have O5 := Lib.hid (show w5.ownsRow w2.heap.size 91 2 (.slice B5 n c5) n (markVals R.tombs) by simpa using hown5); have C5 := Lib.hid (show Below w2.heap.size w2 w5 from grown_d1 (by exact hgr5)); have K5 : w5.cell? ⟨p, 3, none⟩ = some (.slice B n c) := (C5.out.cell (p := ⟨p, 3, none⟩) hrl).trans cc; have y1 : w5.cell? ⟨w.heap.size, 1, none⟩ = some (encStr v.key) := (C5.out.cell (p := ⟨w.heap.size, 1, none⟩) hnb).trans q1; have y2 : w5.cell? ⟨w.heap.size, 2, none⟩ = some (.int .i64 v.gen) := (C5.out.cell (p := ⟨w.heap.size, 2, none⟩) hnb).trans q2; clear hown5 hgr5) | (refine step_append_any _ rfl (.tmp 168) (.tmp 172) 52 rfl w2.heap.size 91 i0 _ 2 24 Tryz.underlying52 hi0 hz0 hz1 hz2 rfl (by omega) (.slice (some ⟨w2.heap.size, 0, none⟩) 0 0) 0 [] rfl (by exact own_d2 w2 _ 2 _) B n c (markVals R.tombs) rfl (by rw [markVals_len, HRN.out]) HBN.out (by exact SRB.out _ (below_a2 w2 _ _)) (markVals_one _) (by simp only [maxLen]; omega) (by omega) (by first | omega | (simp; omega) | simp) ?_; intro B5 c5 w5 hown5 hgr5; have O5 := Lib.hid (show w5.ownsRow w2.heap.size 91 2 (.slice B5 n c5) n (markVals R.tombs) by simpa using hown5); have C5 := Lib.hid (show Below w2.heap.size w2 w5 from grown_d2 (by exact hgr5)); have K5 : w5.cell? ⟨p, 3, none⟩ = some (.slice B n c) := (C5.out.cell (p := ⟨p, 3, none⟩) hrl).trans cc; have y1 : w5.cell? ⟨w.heap.size, 1, none⟩ = some (encStr v.key) := (C5.out.cell (p := ⟨w.heap.size, 1, none⟩) hnb).trans q1; have y2 : w5.cell? ⟨w.heap.size, 2, none⟩ = some (.int .i64 v.gen) := (C5.out.cell (p := ⟨w.heap.size, 2, none⟩) hnb).trans q2; have KS := Lib.hid (show SrcAt w5 (some ⟨w2.heap.size + 1, 0, none⟩) 1 [encStr v.key, .int .i64 v.gen] from src_k2 (cs := [encStr v.key, .int .i64 v.gen]) (m := 1) (by exact hgr5)); clear hown5 hgr5) | (refine step_append_any _ rfl (.tmp 168) (.tmp 172) 52 rfl w2.heap.size 91 i0 _ 2 24 Tryz.underlying52 hi0 hz0 hz1 hz2 rfl (by omega) (.slice (some ⟨w2.heap.size + 1, 0, none⟩) 0 0) 0 [] rfl (by exact own_d3 w2 _ 2 _) B n c (markVals R.tombs) rfl (by rw [markVals_len, HRN.out]) HBN.out (by exact SRB.out _ (below_a2 w2 _ _)) (markVals_one _) (by simp only [maxLen]; omega) (by omega) (by first | omega | (simp; omega) | simp) ?_; intro B5 c5 w5 hown5 hgr5; have O5 := Lib.hid (show w5.ownsRow w2.heap.size 91 2 (.slice B5 n c5) n (markVals R.tombs) by simpa using hown5); have C5 := Lib.hid (show Below w2.heap.size w2 w5 from grown_d3 (by exact hgr5)); have K5 : w5.cell? ⟨p, 3, none⟩ = some (.slice B n c) := (C5.out.cell (p := ⟨p, 3, none⟩) hrl).trans cc; have y1 : w5.cell? ⟨w.heap.size, 1, none⟩ = some (encStr v.key) := (C5.out.cell (p := ⟨w.heap.size, 1, none⟩) hnb).trans q1; have y2 : w5.cell? ⟨w.heap.size, 2, none⟩ = some (.int .i64 v.gen) := (C5.out.cell (p := ⟨w.heap.size, 2, none⟩) hnb).trans q2; have KS := Lib.hid (show SrcAt w5 (some ⟨w2.heap.size, 0, none⟩) 1 [encStr v.key, .int .i64 v.gen] from src_k3 (cs := [encStr v.key, .int .i64 v.gen]) (m := 1) (by exact hgr5)); clear hown5 hgr5)
            clear hHeld
            refine hK.out _ _ ⟨y1, y2⟩ (fun hHeld => ?_)
            clear hK K
            refine wpAnyH_ready (rs := [13]) (by kernel_rfl) (by simp) ?_
            refine AllReadyH.cons rfl (fun K hK => ?_) AllReadyH.nil
            first | (refine step_append_any _ rfl (.tmp 173) (.tmp 179) 52 rfl w2.heap.size 91 i0 _ 2 24 Tryz.underlying52 hi0 hz0 hz1 hz2 rfl (by omega) (.slice B5 n c5) n (markVals R.tombs) (by first | rfl | (show Value.slice B5 (0 + n) c5 = Value.slice B5 n c5; rw [Nat.zero_add])) (by exact O5.out.alloc _) (some ⟨w5.heap.size, 0, none⟩) 1 1 [encStr v.key, .int .i64 v.gen] rfl rfl (fun e => by cases e) (by exact src_new _ _ _ _) (by intro u hu; simp only [List.mem_cons, List.not_mem_nil, or_false] at hu; rcases hu with rfl | rfl <;> rfl) (by simp only [maxLen]; omega) (by omega) (C5.out.alloc C5.out.size _).size ?_; intro B6 c6 w6 hown6 hgr6; have O6 := Lib.hid hown6; have C6 := Lib.hid (show Below w2.heap.size w2 w6 from (C5.out.alloc C5.out.size _).grown (by exact hgr6) (C5.out.alloc C5.out.size _).size (fun y hy => (O5.out.lt y hy).1)); have K6 : w6.cell? ⟨p, 3, none⟩ = some (.slice B n c) := (C6.out.cell (p := ⟨p, 3, none⟩) hrl).trans cc; have f6 : w6.frozen? ⟨p, 3, none⟩ = false := (RR.out.blk.below C6.out hrl).free 3; have z1 : w6.cell? ⟨w.heap.size, 1, none⟩ = some (encStr v.key) := (C6.out.cell (p := ⟨w.heap.size, 1, none⟩) hnb).trans q1; have z2 : w6.cell? ⟨w.heap.size, 2, none⟩ = some (.int .i64 v.gen) := (C6.out.cell (p := ⟨w.heap.size, 2, none⟩) hnb).trans q2; clear hown6 hgr6) | (refine step_append_any _ rfl (.tmp 173) (.tmp 179) 52 rfl w2.heap.size 91 i0 _ 2 24 Tryz.underlying52 hi0 hz0 hz1 hz2 rfl (by omega) (.slice B5 n c5) n (markVals R.tombs) (by first | rfl | (show Value.slice B5 (0 + n) c5 = Value.slice B5 n c5; rw [Nat.zero_add])) (by exact O5.out) (some ⟨w2.heap.size + 1, 0, none⟩) 1 1 [encStr v.key, .int .i64 v.gen] rfl rfl (fun e => by cases e) (by exact KS.out) (by intro u hu; simp only [List.mem_cons, List.not_mem_nil, or_false] at hu; rcases hu with rfl | rfl <;> rfl) (by simp only [maxLen]; omega) (by omega) (C5.out).size ?_; intro B6 c6 w6 hown6 hgr6; have O6 := Lib.hid hown6; have C6 := Lib.hid (show Below w2.heap.size w2 w6 from (C5.out).grown (by exact hgr6) (C5.out).size (fun y hy => (O5.out.lt y hy).1)); have K6 : w6.cell? ⟨p, 3, none⟩ = some (.slice B n c) := (C6.out.cell (p := ⟨p, 3, none⟩) hrl).trans cc; have f6 : w6.frozen? ⟨p, 3, none⟩ = false := (RR.out.blk.below C6.out hrl).free 3; have z1 : w6.cell? ⟨w.heap.size, 1, none⟩ = some (encStr v.key) := (C6.out.cell (p := ⟨w.heap.size, 1, none⟩) hnb).trans q1; have z2 : w6.cell? ⟨w.heap.size, 2, none⟩ = some (.int .i64 v.gen) := (C6.out.cell (p := ⟨w.heap.size, 2, none⟩) hnb).trans q2; clear hown6 hgr6) | (refine step_append_any _ rfl (.tmp 173) (.tmp 179) 52 rfl w2.heap.size 91 i0 _ 2 24 Tryz.underlying52 hi0 hz0 hz1 hz2 rfl (by omega) (.slice B5 n c5) n (markVals R.tombs) (by first | rfl | (show Value.slice B5 (0 + n) c5 = Value.slice B5 n c5; rw [Nat.zero_add])) (by exact O5.out) (some ⟨w2.heap.size, 0, none⟩) 1 1 [encStr v.key, .int .i64 v.gen] rfl rfl (fun e => by cases e) (by exact KS.out) (by intro u hu; simp only [List.mem_cons, List.not_mem_nil, or_false] at hu; rcases hu with rfl | rfl <;> rfl) (by simp only [maxLen]; omega) (by omega) (C5.out).size ?_; intro B6 c6 w6 hown6 hgr6; have O6 := Lib.hid hown6; have C6 := Lib.hid (show Below w2.heap.size w2 w6 from (C5.out).grown (by exact hgr6) (C5.out).size (fun y hy => (O5.out.lt y hy).1)); have K6 : w6.cell? ⟨p, 3, none⟩ = some (.slice B n c) := (C6.out.cell (p := ⟨p, 3, none⟩) hrl).trans cc; have f6 : w6.frozen? ⟨p, 3, none⟩ = false := (RR.out.blk.below C6.out hrl).free 3; have z1 : w6.cell? ⟨w.heap.size, 1, none⟩ = some (encStr v.key) := (C6.out.cell (p := ⟨w.heap.size, 1, none⟩) hnb).trans q1; have z2 : w6.cell? ⟨w.heap.size, 2, none⟩ = some (.int .i64 v.gen) := (C6.out.cell (p := ⟨w.heap.size, 2, none⟩) hnb).trans q2; clear hown6 hgr6)
            clear hHeld
            refine hK.out _ _ ⟨z1, z2⟩ (fun hHeld => ?_)
            clear hK K
            refine tk (i := 14) (v := ?vT25n1b5b1b1214) rfl ?hyT25n1b5b1b1214 ?restT25n1b5b1b1214
            case hyT25n1b5b1b1214 => (intro w hSw; (try dsimp only at hSw); go_simp <;> with_reducible rfl)
            refine tk (i := 15) (v := ?vT25n1b5b1b1215) rfl ?hyT25n1b5b1b1215 ?restT25n1b5b1b1215
            case hyT25n1b5b1b1215 => (intro w hSw; (try dsimp only at hSw); go_simp <;> with_reducible rfl)
            refine wpAnyH_ready (rs := [16]) (by kernel_rfl) (by simp) ?_
            refine AllReadyH.cons rfl (fun K hK => ?_) AllReadyH.nil
            go_simp
            clear hHeld
            refine hK.out _ _ ⟨cell_other z1 hnp, cell_other z2 hnp⟩ (fun hHeld => ?_)
            clear hK K
            refine wpAnyH_done (by kernel_rfl) ?_ _
            go_wp2_with fail
            go_meet
            rw [HL.out]
            have hl : (R.tombs ++ [(v.key, v.gen)]).length = n + 1 := by rw [List.length_append, HRN.out]; rfl
            have h6 : w6.ownsRow w2.heap.size 91 2 (.slice B6 (n + 1) c6) (R.tombs ++ [(v.key, v.gen)]).length (markVals (R.tombs ++ [(v.key, v.gen)])) := by rw [hl, markVals_app]; exact O6.out
            exact RR.out.setTombs C6.out h6 (by rw [hl]; have := RR.out.lens; have h2 := HRN.out; omega) (Nat.le_succ _)
        · go_simp
          clear hHeld
          refine hK.out _ _ (by (try dsimp only); go_keep) (fun hHeld => ?_)
          clear hK K
          refine wpAnyH_ready (rs := [1]) (by kernel_rfl) (by simp) ?_
          refine AllReadyH.cons rfl (fun K hK => ?_) AllReadyH.nil
          go_simp
          clear hHeld
          refine hK.out _ _ (by (try dsimp only); go_keep) (fun hHeld => ?_)
          clear hK K
          refine wpAnyH_ready (rs := [6]) (by kernel_rfl) (by simp) ?_
          refine AllReadyH.cons rfl (fun K hK => ?_) AllReadyH.nil
          first | (refine step_append_any _ rfl (.tmp 168) (.tmp 172) 52 rfl w2.heap.size 91 i0 _ 2 24 Tryz.underlying52 hi0 hz0 hz1 hz2 rfl (by omega) (.slice (some ⟨w2.heap.size, 0, none⟩) 0 0) 0 [] rfl (by exact own_d1 w2 _ 2) B n c (markVals R.tombs) rfl (by rw [markVals_len, HRN.out]) HBN.out (by exact SRB.out _ (below_a1 w2 _)) (markVals_one _) (by simp only [maxLen]; omega) (by omega) (by first | omega | (simp; omega) | simp) ?_; intro B5 c5 w5 hown5 hgr5; have O5 := Lib.hid (show w5.ownsRow w2.heap.size 91 2 (.slice B5 n c5) n (markVals R.tombs) by simpa using hown5); have C5 := Lib.hid (show Below w2.heap.size w2 w5 from grown_d1 (by exact hgr5)); have K5 : w5.cell? ⟨p, 3, none⟩ = some (.slice B n c) := (C5.out.cell (p := ⟨p, 3, none⟩) hrl).trans cc; have y1 : w5.cell? ⟨w.heap.size, 1, none⟩ = some (encStr v.key) := (C5.out.cell (p := ⟨w.heap.size, 1, none⟩) hnb).trans q1; have y2 : w5.cell? ⟨w.heap.size, 2, none⟩ = some (.int .i64 v.gen) := (C5.out.cell (p := ⟨w.heap.size, 2, none⟩) hnb).trans q2; clear hown5 hgr5) | (refine step_append_any _ rfl (.tmp 168) (.tmp 172) 52 rfl w2.heap.size 91 i0 _ 2 24 Tryz.underlying52 hi0 hz0 hz1 hz2 rfl (by omega) (.slice (some ⟨w2.heap.size, 0, none⟩) 0 0) 0 [] rfl (by exact own_d2 w2 _ 2 _) B n c (markVals R.tombs) rfl (by rw [markVals_len, HRN.out]) HBN.out (by exact SRB.out _ (below_a2 w2 _ _)) (markVals_one _) (by simp only [maxLen]; omega) (by omega) (by first | omega | (simp; omega) | simp) ?_; intro B5 c5 w5 hown5 hgr5; have O5 := Lib.hid (show w5.ownsRow w2.heap.size 91 2 (.slice B5 n c5) n (markVals R.tombs) by simpa using hown5); have C5 := Lib.hid (show Below w2.heap.size w2 w5 from grown_d2 (by exact hgr5)); have K5 : w5.cell? ⟨p, 3, none⟩ = some (.slice B n c) := (C5.out.cell (p := ⟨p, 3, none⟩) hrl).trans cc; have y1 : w5.cell? ⟨w.heap.size, 1, none⟩ = some (encStr v.key) := (C5.out.cell (p := ⟨w.heap.size, 1, none⟩) hnb).trans q1; have y2 : w5.cell? ⟨w.heap.size, 2, none⟩ = some (.int .i64 v.gen) := (C5.out.cell (p := ⟨w.heap.size, 2, none⟩) hnb).trans q2; have KS := Lib.hid (show SrcAt w5 (some ⟨w2.heap.size + 1, 0, none⟩) 1 [encStr v.key, .int .i64 v.gen] from src_k2 (cs := [encStr v.key, .int .i64 v.gen]) (m := 1) (by exact hgr5)); clear hown5 hgr5) | (refine step_append_any _ rfl (.tmp 168) (.tmp 172) 52 rfl w2.heap.size 91 i0 _ 2 24 Tryz.underlying52 hi0 hz0 hz1 hz2 rfl (by omega) (.slice (some ⟨w2.heap.size + 1, 0, none⟩) 0 0) 0 [] rfl (by exact own_d3 w2 _ 2 _) B n c (markVals R.tombs) rfl (by rw [markVals_len, HRN.out]) HBN.out (by exact SRB.out _ (below_a2 w2 _ _)) (markVals_one _) (by simp only [maxLen]; omega) (by omega) (by first | omega | (simp; omega) | simp) ?_; intro B5 c5 w5 hown5 hgr5; have O5 := Lib.hid (show w5.ownsRow w2.heap.size 91 2 (.slice B5 n c5) n (markVals R.tombs) by simpa using hown5); have C5 := Lib.hid (show Below w2.heap.size w2 w5 from grown_d3 (by exact hgr5)); have K5 : w5.cell? ⟨p, 3, none⟩ = some (.slice B n c) := (C5.out.cell (p := ⟨p, 3, none⟩) hrl).trans cc; have y1 : w5.cell? ⟨w.heap.size, 1, none⟩ = some (encStr v.key) := (C5.out.cell (p := ⟨w.heap.size, 1, none⟩) hnb).trans q1; have y2 : w5.cell? ⟨w.heap.size, 2, none⟩ = some (.int .i64 v.gen) := (C5.out.cell (p := ⟨w.heap.size, 2, none⟩) hnb).trans q2; have KS := Lib.hid (show SrcAt w5 (some ⟨w2.heap.size, 0, none⟩) 1 [encStr v.key, .int .i64 v.gen] from src_k3 (cs := [encStr v.key, .int .i64 v.gen]) (m := 1) (by exact hgr5)); clear hown5 hgr5)
          clear hHeld
          refine hK.out _ _ ⟨y1, y2⟩ (fun hHeld => ?_)
          clear hK K
          refine wpAnyH_ready (rs := [13]) (by kernel_rfl) (by simp) ?_
          refine AllReadyH.cons rfl (fun K hK => ?_) AllReadyH.nil
          first | (refine step_append_any _ rfl (.tmp 173) (.tmp 179) 52 rfl w2.heap.size 91 i0 _ 2 24 Tryz.underlying52 hi0 hz0 hz1 hz2 rfl (by omega) (.slice B5 n c5) n (markVals R.tombs) (by first | rfl | (show Value.slice B5 (0 + n) c5 = Value.slice B5 n c5; rw [Nat.zero_add])) (by exact O5.out.alloc _) (some ⟨w5.heap.size, 0, none⟩) 1 1 [encStr v.key, .int .i64 v.gen] rfl rfl (fun e => by cases e) (by exact src_new _ _ _ _) (by intro u hu; simp only [List.mem_cons, List.not_mem_nil, or_false] at hu; rcases hu with rfl | rfl <;> rfl) (by simp only [maxLen]; omega) (by omega) (C5.out.alloc C5.out.size _).size ?_; intro B6 c6 w6 hown6 hgr6; have O6 := Lib.hid hown6; have C6 := Lib.hid (show Below w2.heap.size w2 w6 from (C5.out.alloc C5.out.size _).grown (by exact hgr6) (C5.out.alloc C5.out.size _).size (fun y hy => (O5.out.lt y hy).1)); have K6 : w6.cell? ⟨p, 3, none⟩ = some (.slice B n c) := (C6.out.cell (p := ⟨p, 3, none⟩) hrl).trans cc; have f6 : w6.frozen? ⟨p, 3, none⟩ = false := (RR.out.blk.below C6.out hrl).free 3; have z1 : w6.cell? ⟨w.heap.size, 1, none⟩ = some (encStr v.key) := (C6.out.cell (p := ⟨w.heap.size, 1, none⟩) hnb).trans q1; have z2 : w6.cell? ⟨w.heap.size, 2, none⟩ = some (.int .i64 v.gen) := (C6.out.cell (p := ⟨w.heap.size, 2, none⟩) hnb).trans q2; clear hown6 hgr6) | (refine step_append_any _ rfl (.tmp 173) (.tmp 179) 52 rfl w2.heap.size 91 i0 _ 2 24 Tryz.underlying52 hi0 hz0 hz1 hz2 rfl (by omega) (.slice B5 n c5) n (markVals R.tombs) (by first | rfl | (show Value.slice B5 (0 + n) c5 = Value.slice B5 n c5; rw [Nat.zero_add])) (by exact O5.out) (some ⟨w2.heap.size + 1, 0, none⟩) 1 1 [encStr v.key, .int .i64 v.gen] rfl rfl (fun e => by cases e) (by exact KS.out) (by intro u hu; simp only [List.mem_cons, List.not_mem_nil, or_false] at hu; rcases hu with rfl | rfl <;> rfl) (by simp only [maxLen]; omega) (by omega) (C5.out).size ?_; intro B6 c6 w6 hown6 hgr6; have O6 := Lib.hid hown6; have C6 := Lib.hid (show Below w2.heap.size w2 w6 from (C5.out).grown (by exact hgr6) (C5.out).size (fun y hy => (O5.out.lt y hy).1)); have K6 : w6.cell? ⟨p, 3, none⟩ = some (.slice B n c) := (C6.out.cell (p := ⟨p, 3, none⟩) hrl).trans cc; have f6 : w6.frozen? ⟨p, 3, none⟩ = false := (RR.out.blk.below C6.out hrl).free 3; have z1 : w6.cell? ⟨w.heap.size, 1, none⟩ = some (encStr v.key) := (C6.out.cell (p := ⟨w.heap.size, 1, none⟩) hnb).trans q1; have z2 : w6.cell? ⟨w.heap.size, 2, none⟩ = some (.int .i64 v.gen) := (C6.out.cell (p := ⟨w.heap.size, 2, none⟩) hnb).trans q2; clear hown6 hgr6) | (refine step_append_any _ rfl (.tmp 173) (.tmp 179) 52 rfl w2.heap.size 91 i0 _ 2 24 Tryz.underlying52 hi0 hz0 hz1 hz2 rfl (by omega) (.slice B5 n c5) n (markVals R.tombs) (by first | rfl | (show Value.slice B5 (0 + n) c5 = Value.slice B5 n c5; rw [Nat.zero_add])) (by exact O5.out) (some ⟨w2.heap.size, 0, none⟩) 1 1 [encStr v.key, .int .i64 v.gen] rfl rfl (fun e => by cases e) (by exact KS.out) (by intro u hu; simp only [List.mem_cons, List.not_mem_nil, or_false] at hu; rcases hu with rfl | rfl <;> rfl) (by simp only [maxLen]; omega) (by omega) (C5.out).size ?_; intro B6 c6 w6 hown6 hgr6; have O6 := Lib.hid hown6; have C6 := Lib.hid (show Below w2.heap.size w2 w6 from (C5.out).grown (by exact hgr6) (C5.out).size (fun y hy => (O5.out.lt y hy).1)); have K6 : w6.cell? ⟨p, 3, none⟩ = some (.slice B n c) := (C6.out.cell (p := ⟨p, 3, none⟩) hrl).trans cc; have f6 : w6.frozen? ⟨p, 3, none⟩ = false := (RR.out.blk.below C6.out hrl).free 3; have z1 : w6.cell? ⟨w.heap.size, 1, none⟩ = some (encStr v.key) := (C6.out.cell (p := ⟨w.heap.size, 1, none⟩) hnb).trans q1; have z2 : w6.cell? ⟨w.heap.size, 2, none⟩ = some (.int .i64 v.gen) := (C6.out.cell (p := ⟨w.heap.size, 2, none⟩) hnb).trans q2; clear hown6 hgr6)
          clear hHeld
          refine hK.out _ _ ⟨z1, z2⟩ (fun hHeld => ?_)
          clear hK K
          refine tk (i := 14) (v := ?vT25n1b5b1214) rfl ?hyT25n1b5b1214 ?restT25n1b5b1214
          case hyT25n1b5b1214 => (intro w hSw; (try dsimp only at hSw); go_simp <;> with_reducible rfl)
          refine tk (i := 15) (v := ?vT25n1b5b1215) rfl ?hyT25n1b5b1215 ?restT25n1b5b1215
          case hyT25n1b5b1215 => (intro w hSw; (try dsimp only at hSw); go_simp <;> with_reducible rfl)
          refine wpAnyH_ready (rs := [16]) (by kernel_rfl) (by simp) ?_
          refine AllReadyH.cons rfl (fun K hK => ?_) AllReadyH.nil
          go_simp
          clear hHeld
          refine hK.out _ _ ⟨cell_other z1 hnp, cell_other z2 hnp⟩ (fun hHeld => ?_)
          clear hK K
          refine wpAnyH_done (by kernel_rfl) ?_ _
          go_wp2_with fail
          go_meet
          rw [HL.out]
          have hl : (R.tombs ++ [(v.key, v.gen)]).length = n + 1 := by rw [List.length_append, HRN.out]; rfl
          have h6 : w6.ownsRow w2.heap.size 91 2 (.slice B6 (n + 1) c6) (R.tombs ++ [(v.key, v.gen)]).length (markVals (R.tombs ++ [(v.key, v.gen)])) := by rw [hl, markVals_app]; exact O6.out
          exact RR.out.setTombs C6.out h6 (by rw [hl]; have := RR.out.lens; have h2 := HRN.out; omega) (Nat.le_succ _)
      · go_simp
        clear hHeld
        refine hK.out _ _ (by (try dsimp only); go_keep) (fun hHeld => ?_)
        clear hK K
        refine wpAnyH_ready (rs := [1, 5]) (by kernel_rfl) (by simp) ?_
        refine AllReadyH.cons rfl (fun K hK => ?_) (AllReadyH.cons rfl (fun K hK => ?_) AllReadyH.nil)
        · go_simp
          clear hHeld
          refine hK.out _ _ (by (try dsimp only); go_keep) (fun hHeld => ?_)
          clear hK K
          refine wpAnyH_ready (rs := [5]) (by kernel_rfl) (by simp) ?_
          refine AllReadyH.cons rfl (fun K hK => ?_) AllReadyH.nil
          go_simp
          refine hK.out _ _ hHeld (fun hHeld => ?_)
          clear hK K
          refine wpAnyH_ready (rs := [6]) (by kernel_rfl) (by simp) ?_
          refine AllReadyH.cons rfl (fun K hK => ?_) AllReadyH.nil
          first | (refine step_append_any _ rfl (.tmp 168) (.tmp 172) 52 rfl w2.heap.size 91 i0 _ 2 24 Tryz.underlying52 hi0 hz0 hz1 hz2 rfl (by omega) (.slice (some ⟨w2.heap.size, 0, none⟩) 0 0) 0 [] rfl (by exact own_d1 w2 _ 2) B n c (markVals R.tombs) rfl (by rw [markVals_len, HRN.out]) HBN.out (by exact SRB.out _ (below_a1 w2 _)) (markVals_one _) (by simp only [maxLen]; omega) (by omega) (by first | omega | (simp; omega) | simp) ?_; intro B5 c5 w5 hown5 hgr5; have O5 := Lib.hid (show w5.ownsRow w2.heap.size 91 2 (.slice B5 n c5) n (markVals R.tombs) by simpa using hown5); have C5 := Lib.hid (show Below w2.heap.size w2 w5 from grown_d1 (by exact hgr5)); have K5 : w5.cell? ⟨p, 3, none⟩ = some (.slice B n c) := (C5.out.cell (p := ⟨p, 3, none⟩) hrl).trans cc; have y1 : w5.cell? ⟨w.heap.size, 1, none⟩ = some (encStr v.key) := (C5.out.cell (p := ⟨w.heap.size, 1, none⟩) hnb).trans q1; have y2 : w5.cell? ⟨w.heap.size, 2, none⟩ = some (.int .i64 v.gen) := (C5.out.cell (p := ⟨w.heap.size, 2, none⟩) hnb).trans q2; clear hown5 hgr5) | (refine step_append_any _ rfl (.tmp 168) (.tmp 172) 52 rfl w2.heap.size 91 i0 _ 2 24 Tryz.underlying52 hi0 hz0 hz1 hz2 rfl (by omega) (.slice (some ⟨w2.heap.size, 0, none⟩) 0 0) 0 [] rfl (by exact own_d2 w2 _ 2 _) B n c (markVals R.tombs) rfl (by rw [markVals_len, HRN.out]) HBN.out (by exact SRB.out _ (below_a2 w2 _ _)) (markVals_one _) (by simp only [maxLen]; omega) (by omega) (by first | omega | (simp; omega) | simp) ?_; intro B5 c5 w5 hown5 hgr5; have O5 := Lib.hid (show w5.ownsRow w2.heap.size 91 2 (.slice B5 n c5) n (markVals R.tombs) by simpa using hown5); have C5 := Lib.hid (show Below w2.heap.size w2 w5 from grown_d2 (by exact hgr5)); have K5 : w5.cell? ⟨p, 3, none⟩ = some (.slice B n c) := (C5.out.cell (p := ⟨p, 3, none⟩) hrl).trans cc; have y1 : w5.cell? ⟨w.heap.size, 1, none⟩ = some (encStr v.key) := (C5.out.cell (p := ⟨w.heap.size, 1, none⟩) hnb).trans q1; have y2 : w5.cell? ⟨w.heap.size, 2, none⟩ = some (.int .i64 v.gen) := (C5.out.cell (p := ⟨w.heap.size, 2, none⟩) hnb).trans q2; have KS := Lib.hid (show SrcAt w5 (some ⟨w2.heap.size + 1, 0, none⟩) 1 [encStr v.key, .int .i64 v.gen] from src_k2 (cs := [encStr v.key, .int .i64 v.gen]) (m := 1) (by exact hgr5)); clear hown5 hgr5) | (refine step_append_any _ rfl (.tmp 168) (.tmp 172) 52 rfl w2.heap.size 91 i0 _ 2 24 Tryz.underlying52 hi0 hz0 hz1 hz2 rfl (by omega) (.slice (some ⟨w2.heap.size + 1, 0, none⟩) 0 0) 0 [] rfl (by exact own_d3 w2 _ 2 _) B n c (markVals R.tombs) rfl (by rw [markVals_len, HRN.out]) HBN.out (by exact SRB.out _ (below_a2 w2 _ _)) (markVals_one _) (by simp only [maxLen]; omega) (by omega) (by first | omega | (simp; omega) | simp) ?_; intro B5 c5 w5 hown5 hgr5; have O5 := Lib.hid (show w5.ownsRow w2.heap.size 91 2 (.slice B5 n c5) n (markVals R.tombs) by simpa using hown5); have C5 := Lib.hid (show Below w2.heap.size w2 w5 from grown_d3 (by exact hgr5)); have K5 : w5.cell? ⟨p, 3, none⟩ = some (.slice B n c) := (C5.out.cell (p := ⟨p, 3, none⟩) hrl).trans cc; have y1 : w5.cell? ⟨w.heap.size, 1, none⟩ = some (encStr v.key) := (C5.out.cell (p := ⟨w.heap.size, 1, none⟩) hnb).trans q1; have y2 : w5.cell? ⟨w.heap.size, 2, none⟩ = some (.int .i64 v.gen) := (C5.out.cell (p := ⟨w.heap.size, 2, none⟩) hnb).trans q2; have KS := Lib.hid (show SrcAt w5 (some ⟨w2.heap.size, 0, none⟩) 1 [encStr v.key, .int .i64 v.gen] from src_k3 (cs := [encStr v.key, .int .i64 v.gen]) (m := 1) (by exact hgr5)); clear hown5 hgr5)
          clear hHeld
          refine hK.out _ _ ⟨y1, y2⟩ (fun hHeld => ?_)
          clear hK K
          refine wpAnyH_ready (rs := [13]) (by kernel_rfl) (by simp) ?_
          refine AllReadyH.cons rfl (fun K hK => ?_) AllReadyH.nil
          first | (refine step_append_any _ rfl (.tmp 173) (.tmp 179) 52 rfl w2.heap.size 91 i0 _ 2 24 Tryz.underlying52 hi0 hz0 hz1 hz2 rfl (by omega) (.slice B5 n c5) n (markVals R.tombs) (by first | rfl | (show Value.slice B5 (0 + n) c5 = Value.slice B5 n c5; rw [Nat.zero_add])) (by exact O5.out.alloc _) (some ⟨w5.heap.size, 0, none⟩) 1 1 [encStr v.key, .int .i64 v.gen] rfl rfl (fun e => by cases e) (by exact src_new _ _ _ _) (by intro u hu; simp only [List.mem_cons, List.not_mem_nil, or_false] at hu; rcases hu with rfl | rfl <;> rfl) (by simp only [maxLen]; omega) (by omega) (C5.out.alloc C5.out.size _).size ?_; intro B6 c6 w6 hown6 hgr6; have O6 := Lib.hid hown6; have C6 := Lib.hid (show Below w2.heap.size w2 w6 from (C5.out.alloc C5.out.size _).grown (by exact hgr6) (C5.out.alloc C5.out.size _).size (fun y hy => (O5.out.lt y hy).1)); have K6 : w6.cell? ⟨p, 3, none⟩ = some (.slice B n c) := (C6.out.cell (p := ⟨p, 3, none⟩) hrl).trans cc; have f6 : w6.frozen? ⟨p, 3, none⟩ = false := (RR.out.blk.below C6.out hrl).free 3; have z1 : w6.cell? ⟨w.heap.size, 1, none⟩ = some (encStr v.key) := (C6.out.cell (p := ⟨w.heap.size, 1, none⟩) hnb).trans q1; have z2 : w6.cell? ⟨w.heap.size, 2, none⟩ = some (.int .i64 v.gen) := (C6.out.cell (p := ⟨w.heap.size, 2, none⟩) hnb).trans q2; clear hown6 hgr6) | (refine step_append_any _ rfl (.tmp 173) (.tmp 179) 52 rfl w2.heap.size 91 i0 _ 2 24 Tryz.underlying52 hi0 hz0 hz1 hz2 rfl (by omega) (.slice B5 n c5) n (markVals R.tombs) (by first | rfl | (show Value.slice B5 (0 + n) c5 = Value.slice B5 n c5; rw [Nat.zero_add])) (by exact O5.out) (some ⟨w2.heap.size + 1, 0, none⟩) 1 1 [encStr v.key, .int .i64 v.gen] rfl rfl (fun e => by cases e) (by exact KS.out) (by intro u hu; simp only [List.mem_cons, List.not_mem_nil, or_false] at hu; rcases hu with rfl | rfl <;> rfl) (by simp only [maxLen]; omega) (by omega) (C5.out).size ?_; intro B6 c6 w6 hown6 hgr6; have O6 := Lib.hid hown6; have C6 := Lib.hid (show Below w2.heap.size w2 w6 from (C5.out).grown (by exact hgr6) (C5.out).size (fun y hy => (O5.out.lt y hy).1)); have K6 : w6.cell? ⟨p, 3, none⟩ = some (.slice B n c) := (C6.out.cell (p := ⟨p, 3, none⟩) hrl).trans cc; have f6 : w6.frozen? ⟨p, 3, none⟩ = false := (RR.out.blk.below C6.out hrl).free 3; have z1 : w6.cell? ⟨w.heap.size, 1, none⟩ = some (encStr v.key) := (C6.out.cell (p := ⟨w.heap.size, 1, none⟩) hnb).trans q1; have z2 : w6.cell? ⟨w.heap.size, 2, none⟩ = some (.int .i64 v.gen) := (C6.out.cell (p := ⟨w.heap.size, 2, none⟩) hnb).trans q2; clear hown6 hgr6) | (refine step_append_any _ rfl (.tmp 173) (.tmp 179) 52 rfl w2.heap.size 91 i0 _ 2 24 Tryz.underlying52 hi0 hz0 hz1 hz2 rfl (by omega) (.slice B5 n c5) n (markVals R.tombs) (by first | rfl | (show Value.slice B5 (0 + n) c5 = Value.slice B5 n c5; rw [Nat.zero_add])) (by exact O5.out) (some ⟨w2.heap.size, 0, none⟩) 1 1 [encStr v.key, .int .i64 v.gen] rfl rfl (fun e => by cases e) (by exact KS.out) (by intro u hu; simp only [List.mem_cons, List.not_mem_nil, or_false] at hu; rcases hu with rfl | rfl <;> rfl) (by simp only [maxLen]; omega) (by omega) (C5.out).size ?_; intro B6 c6 w6 hown6 hgr6; have O6 := Lib.hid hown6; have C6 := Lib.hid (show Below w2.heap.size w2 w6 from (C5.out).grown (by exact hgr6) (C5.out).size (fun y hy => (O5.out.lt y hy).1)); have K6 : w6.cell? ⟨p, 3, none⟩ = some (.slice B n c) := (C6.out.cell (p := ⟨p, 3, none⟩) hrl).trans cc; have f6 : w6.frozen? ⟨p, 3, none⟩ = false := (RR.out.blk.below C6.out hrl).free 3; have z1 : w6.cell? ⟨w.heap.size, 1, none⟩ = some (encStr v.key) := (C6.out.cell (p := ⟨w.heap.size, 1, none⟩) hnb).trans q1; have z2 : w6.cell? ⟨w.heap.size, 2, none⟩ = some (.int .i64 v.gen) := (C6.out.cell (p := ⟨w.heap.size, 2, none⟩) hnb).trans q2; clear hown6 hgr6)
          clear hHeld
          refine hK.out _ _ ⟨z1, z2⟩ (fun hHeld => ?_)
          clear hK K
          refine tk (i := 14) (v := ?vT25n1b12b114) rfl ?hyT25n1b12b114 ?restT25n1b12b114
          case hyT25n1b12b114 => (intro w hSw; (try dsimp only at hSw); go_simp <;> with_reducible rfl)
          refine tk (i := 15) (v := ?vT25n1b12b115) rfl ?hyT25n1b12b115 ?restT25n1b12b115
          case hyT25n1b12b115 => (intro w hSw; (try dsimp only at hSw); go_simp <;> with_reducible rfl)
          refine wpAnyH_ready (rs := [16]) (by kernel_rfl) (by simp) ?_
          refine AllReadyH.cons rfl (fun K hK => ?_) AllReadyH.nil
          go_simp
          clear hHeld
          refine hK.out _ _ ⟨cell_other z1 hnp, cell_other z2 hnp⟩ (fun hHeld => ?_)
          clear hK K
          refine wpAnyH_done (by kernel_rfl) ?_ _
          go_wp2_with fail
          go_meet
          rw [HL.out]
          have hl : (R.tombs ++ [(v.key, v.gen)]).length = n + 1 := by rw [List.length_append, HRN.out]; rfl
          have h6 : w6.ownsRow w2.heap.size 91 2 (.slice B6 (n + 1) c6) (R.tombs ++ [(v.key, v.gen)]).length (markVals (R.tombs ++ [(v.key, v.gen)])) := by rw [hl, markVals_app]; exact O6.out
          exact RR.out.setTombs C6.out h6 (by rw [hl]; have := RR.out.lens; have h2 := HRN.out; omega) (Nat.le_succ _)
        · go_simp
          refine hK.out _ _ hHeld (fun hHeld => ?_)
          clear hK K
          refine wpAnyH_ready (rs := [1]) (by kernel_rfl) (by simp) ?_
          refine AllReadyH.cons rfl (fun K hK => ?_) AllReadyH.nil
          go_simp
          clear hHeld
          refine hK.out _ _ (by (try dsimp only); go_keep) (fun hHeld => ?_)
          clear hK K
          refine wpAnyH_ready (rs := [6]) (by kernel_rfl) (by simp) ?_
          refine AllReadyH.cons rfl (fun K hK => ?_) AllReadyH.nil
          first | (refine step_append_any _ rfl (.tmp 168) (.tmp 172) 52 rfl w2.heap.size 91 i0 _ 2 24 Tryz.underlying52 hi0 hz0 hz1 hz2 rfl (by omega) (.slice (some ⟨w2.heap.size, 0, none⟩) 0 0) 0 [] rfl (by exact own_d1 w2 _ 2) B n c (markVals R.tombs) rfl (by rw [markVals_len, HRN.out]) HBN.out (by exact SRB.out _ (below_a1 w2 _)) (markVals_one _) (by simp only [maxLen]; omega) (by omega) (by first | omega | (simp; omega) | simp) ?_; intro B5 c5 w5 hown5 hgr5; have O5 := Lib.hid (show w5.ownsRow w2.heap.size 91 2 (.slice B5 n c5) n (markVals R.tombs) by simpa using hown5); have C5 := Lib.hid (show Below w2.heap.size w2 w5 from grown_d1 (by exact hgr5)); have K5 : w5.cell? ⟨p, 3, none⟩ = some (.slice B n c) := (C5.out.cell (p := ⟨p, 3, none⟩) hrl).trans cc; have y1 : w5.cell? ⟨w.heap.size, 1, none⟩ = some (encStr v.key) := (C5.out.cell (p := ⟨w.heap.size, 1, none⟩) hnb).trans q1; have y2 : w5.cell? ⟨w.heap.size, 2, none⟩ = some (.int .i64 v.gen) := (C5.out.cell (p := ⟨w.heap.size, 2, none⟩) hnb).trans q2; clear hown5 hgr5) | (refine step_append_any _ rfl (.tmp 168) (.tmp 172) 52 rfl w2.heap.size 91 i0 _ 2 24 Tryz.underlying52 hi0 hz0 hz1 hz2 rfl (by omega) (.slice (some ⟨w2.heap.size, 0, none⟩) 0 0) 0 [] rfl (by exact own_d2 w2 _ 2 _) B n c (markVals R.tombs) rfl (by rw [markVals_len, HRN.out]) HBN.out (by exact SRB.out _ (below_a2 w2 _ _)) (markVals_one _) (by simp only [maxLen]; omega) (by omega) (by first | omega | (simp; omega) | simp) ?_; intro B5 c5 w5 hown5 hgr5; have O5 := Lib.hid (show w5.ownsRow w2.heap.size 91 2 (.slice B5 n c5) n (markVals R.tombs) by simpa using hown5); have C5 := Lib.hid (show Below w2.heap.size w2 w5 from grown_d2 (by exact hgr5)); have K5 : w5.cell? ⟨p, 3, none⟩ = some (.slice B n c) := (C5.out.cell (p := ⟨p, 3, none⟩) hrl).trans cc; have y1 : w5.cell? ⟨w.heap.size, 1, none⟩ = some (encStr v.key) := (C5.out.cell (p := ⟨w.heap.size, 1, none⟩) hnb).trans q1; have y2 : w5.cell? ⟨w.heap.size, 2, none⟩ = some (.int .i64 v.gen) := (C5.out.cell (p := ⟨w.heap.size, 2, none⟩) hnb).trans q2; have KS := Lib.hid (show SrcAt w5 (some ⟨w2.heap.size + 1, 0, none⟩) 1 [encStr v.key, .int .i64 v.gen] from src_k2 (cs := [encStr v.key, .int .i64 v.gen]) (m := 1) (by exact hgr5)); clear hown5 hgr5) | (refine step_append_any _ rfl (.tmp 168) (.tmp 172) 52 rfl w2.heap.size 91 i0 _ 2 24 Tryz.underlying52 hi0 hz0 hz1 hz2 rfl (by omega) (.slice (some ⟨w2.heap.size + 1, 0, none⟩) 0 0) 0 [] rfl (by exact own_d3 w2 _ 2 _) B n c (markVals R.tombs) rfl (by rw [markVals_len, HRN.out]) HBN.out (by exact SRB.out _ (below_a2 w2 _ _)) (markVals_one _) (by simp only [maxLen]; omega) (by omega) (by first | omega | (simp; omega) | simp) ?_; intro B5 c5 w5 hown5 hgr5; have O5 := Lib.hid (show w5.ownsRow w2.heap.size 91 2 (.slice B5 n c5) n (markVals R.tombs) by simpa using hown5); have C5 := Lib.hid (show Below w2.heap.size w2 w5 from grown_d3 (by exact hgr5)); have K5 : w5.cell? ⟨p, 3, none⟩ = some (.slice B n c) := (C5.out.cell (p := ⟨p, 3, none⟩) hrl).trans cc; have y1 : w5.cell? ⟨w.heap.size, 1, none⟩ = some (encStr v.key) := (C5.out.cell (p := ⟨w.heap.size, 1, none⟩) hnb).trans q1; have y2 : w5.cell? ⟨w.heap.size, 2, none⟩ = some (.int .i64 v.gen) := (C5.out.cell (p := ⟨w.heap.size, 2, none⟩) hnb).trans q2; have KS := Lib.hid (show SrcAt w5 (some ⟨w2.heap.size, 0, none⟩) 1 [encStr v.key, .int .i64 v.gen] from src_k3 (cs := [encStr v.key, .int .i64 v.gen]) (m := 1) (by exact hgr5)); clear hown5 hgr5)
          clear hHeld
          refine hK.out _ _ ⟨y1, y2⟩ (fun hHeld => ?_)
          clear hK K
          refine wpAnyH_ready (rs := [13]) (by kernel_rfl) (by simp) ?_
          refine AllReadyH.cons rfl (fun K hK => ?_) AllReadyH.nil
          first | (refine step_append_any _ rfl (.tmp 173) (.tmp 179) 52 rfl w2.heap.size 91 i0 _ 2 24 Tryz.underlying52 hi0 hz0 hz1 hz2 rfl (by omega) (.slice B5 n c5) n (markVals R.tombs) (by first | rfl | (show Value.slice B5 (0 + n) c5 = Value.slice B5 n c5; rw [Nat.zero_add])) (by exact O5.out.alloc _) (some ⟨w5.heap.size, 0, none⟩) 1 1 [encStr v.key, .int .i64 v.gen] rfl rfl (fun e => by cases e) (by exact src_new _ _ _ _) (by intro u hu; simp only [List.mem_cons, List.not_mem_nil, or_false] at hu; rcases hu with rfl | rfl <;> rfl) (by simp only [maxLen]; omega) (by omega) (C5.out.alloc C5.out.size _).size ?_; intro B6 c6 w6 hown6 hgr6; have O6 := Lib.hid hown6; have C6 := Lib.hid (show Below w2.heap.size w2 w6 from (C5.out.alloc C5.out.size _).grown (by exact hgr6) (C5.out.alloc C5.out.size _).size (fun y hy => (O5.out.lt y hy).1)); have K6 : w6.cell? ⟨p, 3, none⟩ = some (.slice B n c) := (C6.out.cell (p := ⟨p, 3, none⟩) hrl).trans cc; have f6 : w6.frozen? ⟨p, 3, none⟩ = false := (RR.out.blk.below C6.out hrl).free 3; have z1 : w6.cell? ⟨w.heap.size, 1, none⟩ = some (encStr v.key) := (C6.out.cell (p := ⟨w.heap.size, 1, none⟩) hnb).trans q1; have z2 : w6.cell? ⟨w.heap.size, 2, none⟩ = some (.int .i64 v.gen) := (C6.out.cell (p := ⟨w.heap.size, 2, none⟩) hnb).trans q2; clear hown6 hgr6) | (refine step_append_any _ rfl (.tmp 173) (.tmp 179) 52 rfl w2.heap.size 91 i0 _ 2 24 Tryz.underlying52 hi0 hz0 hz1 hz2 rfl (by omega) (.slice B5 n c5) n (markVals R.tombs) (by first | rfl | (show Value.slice B5 (0 + n) c5 = Value.slice B5 n c5; rw [Nat.zero_add])) (by exact O5.out) (some ⟨w2.heap.size + 1, 0, none⟩) 1 1 [encStr v.key, .int .i64 v.gen] rfl rfl (fun e => by cases e) (by exact KS.out) (by intro u hu; simp only [List.mem_cons, List.not_mem_nil, or_false] at hu; rcases hu with rfl | rfl <;> rfl) (by simp only [maxLen]; omega) (by omega) (C5.out).size ?_; intro B6 c6 w6 hown6 hgr6; have O6 := Lib.hid hown6; have C6 := Lib.hid (show Below w2.heap.size w2 w6 from (C5.out).grown (by exact hgr6) (C5.out).size (fun y hy => (O5.out.lt y hy).1)); have K6 : w6.cell? ⟨p, 3, none⟩ = some (.slice B n c) := (C6.out.cell (p := ⟨p, 3, none⟩) hrl).trans cc; have f6 : w6.frozen? ⟨p, 3, none⟩ = false := (RR.out.blk.below C6.out hrl).free 3; have z1 : w6.cell? ⟨w.heap.size, 1, none⟩ = some (encStr v.key) := (C6.out.cell (p := ⟨w.heap.size, 1, none⟩) hnb).trans q1; have z2 : w6.cell? ⟨w.heap.size, 2, none⟩ = some (.int .i64 v.gen) := (C6.out.cell (p := ⟨w.heap.size, 2, none⟩) hnb).trans q2; clear hown6 hgr6) | (refine step_append_any _ rfl (.tmp 173) (.tmp 179) 52 rfl w2.heap.size 91 i0 _ 2 24 Tryz.underlying52 hi0 hz0 hz1 hz2 rfl (by omega) (.slice B5 n c5) n (markVals R.tombs) (by first | rfl | (show Value.slice B5 (0 + n) c5 = Value.slice B5 n c5; rw [Nat.zero_add])) (by exact O5.out) (some ⟨w2.heap.size, 0, none⟩) 1 1 [encStr v.key, .int .i64 v.gen] rfl rfl (fun e => by cases e) (by exact KS.out) (by intro u hu; simp only [List.mem_cons, List.not_mem_nil, or_false] at hu; rcases hu with rfl | rfl <;> rfl) (by simp only [maxLen]; omega) (by omega) (C5.out).size ?_; intro B6 c6 w6 hown6 hgr6; have O6 := Lib.hid hown6; have C6 := Lib.hid (show Below w2.heap.size w2 w6 from (C5.out).grown (by exact hgr6) (C5.out).size (fun y hy => (O5.out.lt y hy).1)); have K6 : w6.cell? ⟨p, 3, none⟩ = some (.slice B n c) := (C6.out.cell (p := ⟨p, 3, none⟩) hrl).trans cc; have f6 : w6.frozen? ⟨p, 3, none⟩ = false := (RR.out.blk.below C6.out hrl).free 3; have z1 : w6.cell? ⟨w.heap.size, 1, none⟩ = some (encStr v.key) := (C6.out.cell (p := ⟨w.heap.size, 1, none⟩) hnb).trans q1; have z2 : w6.cell? ⟨w.heap.size, 2, none⟩ = some (.int .i64 v.gen) := (C6.out.cell (p := ⟨w.heap.size, 2, none⟩) hnb).trans q2; clear hown6 hgr6)
          clear hHeld
          refine hK.out _ _ ⟨z1, z2⟩ (fun hHeld => ?_)
          clear hK K
          refine tk (i := 14) (v := ?vT25n1b12b514) rfl ?hyT25n1b12b514 ?restT25n1b12b514
          case hyT25n1b12b514 => (intro w hSw; (try dsimp only at hSw); go_simp <;> with_reducible rfl)
          refine tk (i := 15) (v := ?vT25n1b12b515) rfl ?hyT25n1b12b515 ?restT25n1b12b515
          case hyT25n1b12b515 => (intro w hSw; (try dsimp only at hSw); go_simp <;> with_reducible rfl)
          refine wpAnyH_ready (rs := [16]) (by kernel_rfl) (by simp) ?_
          refine AllReadyH.cons rfl (fun K hK => ?_) AllReadyH.nil
          go_simp
          clear hHeld
          refine hK.out _ _ ⟨cell_other z1 hnp, cell_other z2 hnp⟩ (fun hHeld => ?_)
          clear hK K
          refine wpAnyH_done (by kernel_rfl) ?_ _
          go_wp2_with fail
          go_meet
          rw [HL.out]
          have hl : (R.tombs ++ [(v.key, v.gen)]).length = n + 1 := by rw [List.length_append, HRN.out]; rfl
          have h6 : w6.ownsRow w2.heap.size 91 2 (.slice B6 (n + 1) c6) (R.tombs ++ [(v.key, v.gen)]).length (markVals (R.tombs ++ [(v.key, v.gen)])) := by rw [hl, markVals_app]; exact O6.out
          exact RR.out.setTombs C6.out h6 (by rw [hl]; have := RR.out.lens; have h2 := HRN.out; omega) (Nat.le_succ _)
  case rest =>
  obtain ⟨w2, rfl⟩ : ∃ w2 : World, w2 = wc := ⟨_, rfl⟩
  obtain ⟨F2, hc2, ht2⟩ := hcut
  have T2 := Lib.hid ht2
  have H2 := Lib.hid hc2
  have hnf : ¬ Narrow F w w.heap.size := fun h => Nat.lt_irrefl _ h.2
  have x1 : w2.cell? ⟨w.heap.size, 1, none⟩ = some (encStr v.key) := chg_cell ht2.1 hnb hnf q1
  have x2 : w2.cell? ⟨w.heap.size, 2, none⟩ = some (.int .i64 v.gen) := chg_cell ht2.1 hnb hnf q2
  have hnf2 : ¬ F2 w.heap.size := fun h => by
    rcases (ht2.2 _ h).2 with h | h
    · exact hnf h
    · omega
  have hnb2 : w.heap.size < w2.heap.size := Nat.lt_of_lt_of_le hnb ht2.1.size
  clear hc2 ht2 q0 q1 q2 hnf
  go_wp2_with fail
  refine (rDrop F2 p (N + 1) { R with tombs := goneL R v } v.key _ H2.out (by omega) HS.out HEN.out).mono ?_
  rintro e w3 ⟨rfl, F3, hc3, ht3⟩
  have T3 := Lib.hid ht3
  have y1 : w3.cell? ⟨w.heap.size, 1, none⟩ = some (encStr v.key) := chg_cell ht3.1 hnb2 hnf2 x1
  have y2 : w3.cell? ⟨w.heap.size, 2, none⟩ = some (.int .i64 v.gen) := chg_cell ht3.1 hnb2 hnf2 x2
  have hnf3 : ¬ F3 w.heap.size := fun h => by
    rcases (ht3.2 _ h).2 with h | h
    · exact hnf2 h
    · omega
  have hnb3 : w.heap.size < w3.heap.size := Nat.lt_of_lt_of_le hnb2 ht3.1.size
  obtain ⟨R3, hR3⟩ : ∃ R3 : CV, R3 = dropR { R with tombs := goneL R v } v.key := ⟨_, rfl⟩
  rw [← hR3] at hc3
  have HR3 := Lib.hid (show goneV R v = { R3 with begun := delL R.begun v.key, gen := v.gen } by rw [hR3]; rfl)
  have hbe : R3.begun = R.begun := by rw [hR3]; rfl
  obtain ⟨sw3, sh3, sb3, st3, sr3, ER3, hr3⟩ := hc3
  obtain ⟨B, c, rfl, hnc, hcm, hB⟩ := own_form hr3.beg.1
  have hn5 : R.begun.length ≤ 100000 := by have h1 := hr3.lens; rw [hbe] at h1; omega
  have cc : w3.cell? ⟨p, 2, none⟩ = some (.slice B R.begun.length c) := by rw [← hbe]; exact hr3.blk.cell 2
  have hrl : p < w3.heap.size := hr3.blk.size
  have HRW := Lib.hid (show ∀ W : World, Below w3.heap.size w3 W → ∀ (j : Nat) x, R.begun[j]? = some x → ∃ g, B = some ⟨g, 0, none⟩ ∧ g < W.heap.size ∧ W.cell? ⟨g, j * 2, none⟩ = some (encStr x.1) ∧ W.cell? ⟨g, j * 2 + 1, none⟩ = some (.int .i64 x.2) from fun W hb j x hx => by
    rw [← hbe] at hx
    have hlt : j < R3.begun.length := (List.getElem?_eq_some_iff.1 hx).1
    rcases hB with ⟨_, h0, _⟩ | ⟨g, rfl⟩
    · exact absurd (show R3.begun.length = 0 from h0) (by omega)
    · have hg := (hr3.beg.1.lt g rfl).2
      exact ⟨g, rfl, Nat.lt_of_lt_of_le hg hb.size, (hb.cell (p := ⟨g, j * 2, none⟩) hg).trans (hr3.beg.row.cell (mark_get hx).1), (hb.cell (p := ⟨g, j * 2 + 1, none⟩) hg).trans (hr3.beg.row.cell (mark_get hx).2)⟩)
  have RR3 := Lib.hid hr3
  have HBE := Lib.hid hbe
  have hnc' : R.begun.length ≤ c := by rw [← hbe]; exact hnc
  obtain ⟨n, hn⟩ : ∃ n, R.begun.length = n := ⟨_, rfl⟩
  have HBL := Lib.hid hn
  rw [hn] at cc hn5 hnc'
  clear hr3 hB ht3 hR3 hbe hn hnc x1 x2
  go_wp2_with fail
  go_region_law (
    (go_simp; go_at_call 55
     refine (rWithout B n c R.begun v.key _ HBL.out hn5 hnc' (HRW.out _ (below_of_drewR (Below.refl _ _)))).mono ?_
     rintro e w5 ⟨v5, rfl, ho5, hb5⟩
     obtain ⟨X5, c5, rfl, _, _, _⟩ := own_form ho5
     have B5 := Lib.hid (show Below w3.heap.size w3 w5 from below_of_drew hb5)
     have O5 := Lib.hid (show w5.ownsRow w3.heap.size 91 2 (.slice X5 (delL R.begun v.key).length c5) (delL R.begun v.key).length (markVals (delL R.begun v.key)) from ho5)
     have K5 : w5.cell? ⟨p, 2, none⟩ = some (.slice B n c) := (B5.out.cell (p := ⟨p, 2, none⟩) hrl).trans cc
     have f5 : w5.frozen? ⟨p, 2, none⟩ = false := (RR3.out.blk.below B5.out hrl).free 2
     have Y1 : w5.cell? ⟨w.heap.size, 1, none⟩ = some (encStr v.key) := (B5.out.cell (p := ⟨w.heap.size, 1, none⟩) hnb3).trans y1
     have Y2 : w5.cell? ⟨w.heap.size, 2, none⟩ = some (.int .i64 v.gen) := (B5.out.cell (p := ⟨w.heap.size, 2, none⟩) hnb3).trans y2
     clear ho5 hb5))
  all_goals
    have hdl : (delL R.begun v.key).length ≤ R.begun.length := List.length_filter_le _ _
    obtain ⟨F4, hc4, ht4⟩ := RR3.out.setBegun B5.out (L := delL R.begun v.key) (v := .slice X5 (delL R.begun v.key).length c5) O5.out (by have h1 := RR3.out.lens; have h2 := HBE.out; rw [h2] at h1; omega) (Nat.le_refl (N + 1))
    obtain ⟨w6, hw6⟩ : ∃ w6, w6 = w5.setCell ⟨p, 2, none⟩ (.slice X5 (delL R.begun v.key).length c5) := ⟨_, rfl⟩
    have hnp : w.heap.size ≠ p := fun e => hnf3 (e ▸ RR3.out.fp)
    rw [← hw6] at hc4 ht4 ⊢
    have z2 : w6.cell? ⟨w.heap.size, 2, none⟩ = some (.int .i64 v.gen) := by rw [hw6]; exact cell_other Y2 hnp
    obtain ⟨sw4, sh4, sb4, st4, sr4, ER4, hr4⟩ := hc4
    have k5 : w6.cell? ⟨p, 5, none⟩ = some (.int .i64 R3.gen) := hr4.blk.cell 5
    have g5 : w6.frozen? ⟨p, 5, none⟩ = false := hr4.blk.free 5
    have RR4 := Lib.hid hr4
    have T4 := Lib.hid ht4
    clear hr4 ht4 hw6 K5 f5 Y1 Y2
    go_wp2_with fail
    go_ret
    obtain ⟨F5, hc5, ht5⟩ := RR4.out.setGen (Below.refl _ _) v.gen (Nat.le_refl (N + 1))
    rw [HE.out]
    exact ⟨rfl, RefPost.widen (RefPost.of_below B1.out ⟨F5, by rw [HR3.out]; exact hc5, ((T2.out.trans T3.out).trans T4.out).trans ht5⟩)⟩
end
end Go.Proofs.YtmkccblcmiflfaaGreat
