/- Texts joined: KR12, KR20, KR23. No condition beyond those that each theorem states. -/
import Derived.Test.YtmkccblcmiflfaaGreatPK9
import Derived.Test.YtmkccblcmiflfaaGreatPK12
import Derived.Test.YtmkccblcmiflfaaGreatPK14
import Derived.Test.YtmkccblcmiflfaaGreatPK15
import Derived.Test.YtmkccblcmiflfaaGreatPK0
namespace Go.Proofs.YtmkccblcmiflfaaGreat
open Go.RowKit Go.Maps Go.WideMaps

theorem tombC_no {R : CV} {v : NoteV} (h1 : ¬ (v.size = 1 ∧ tombI R v < 0 ∧ 1 ≤ v.key.length ∧ v.key.length ≤ 16 ∧ 1 ≤ v.gen ∧ v.gen ≤ R.gen)) (h2 : ¬ (v.size = 0 ∧ 0 ≤ tombI R v)) : tombC R v = (12, R) := by
  unfold tombC
  rw [if_neg h1, if_neg h2]
section
set_option maxHeartbeats 16000000
set_option maxRecDepth 100000
theorem rRest6 (F : Nat → Prop) (p N : Nat) (R : CV) (v : NoteV) (D : Option Addr) (dn dc : Nat) (Q : Option Addr) (qn qc : Nat) (w : World) (h : RefAt F w p N R) (hN : N ≤ 10000) (hk6 : v.kind = 6) (hkl : v.key.length ≤ maxLen) (hnd : R.tombs.Nodup) :
    Calls Tryz.prog 56 #[.pointer (some ⟨p, 0, none⟩), noteAgg v D dn dc Q qn qc] w fun e w' => e = .returned (.int .i64 (tombC R v).1) ∧ RefPost F p (N + 1) (tombC R v).2 w w' := by
  obtain ⟨i0, hi0, hz0, hz1, hz2⟩ := info_parts mark_info
  have H := Lib.hid h
  have HKL := Lib.hid hkl
  have HND := Lib.hid hnd
  have e4 : (v.kind == 4) = false := by rw [hk6]; rfl
  have e5 : (v.kind == 5) = false := by rw [hk6]; rfl
  have e6 : (v.kind != 6) = false := by rw [hk6]; rfl
  clear h hk6 hkl hnd
  unfold noteAgg
  go_enter Tryz.func56, Tryz.ntmps56
  go_upto_region 1 with fail
  obtain ⟨w1, hw1⟩ : ∃ w1, w1 = w.alloc (.cells #[.int .i64 v.kind, encStr v.key, .int .i64 v.gen, .int .i64 v.cart, .slice D dn dc, encStr v.sum, .int .i64 v.size, .slice Q qn qc] 32) := ⟨_, rfl⟩
  have hb1 : Below w.heap.size w w1 := by rw [hw1]; exact (Below.refl _ _).alloc (Nat.le_refl _) _
  have BB := Lib.hid (show Blk w1 w.heap.size 32 #[.int .i64 v.kind, encStr v.key, .int .i64 v.gen, .int .i64 v.cart, .slice D dn dc, encStr v.sum, .int .i64 v.size, .slice Q qn qc] by rw [hw1]; exact Blk.made w _ _)
  change Code.wp _ _ _ _ (w.alloc (.cells #[.int .i64 v.kind, encStr v.key, .int .i64 v.gen, .int .i64 v.cart, .slice D dn dc, encStr v.sum, .int .i64 v.size, .slice Q qn qc] 32))
  rw [← hw1]
  have B1 := Lib.hid hb1
  have H1 := Lib.hid (H.out.below hb1)
  have hnb : w.heap.size < w1.heap.size := BB.out.size
  obtain ⟨sw, sh, sb, st, sr, ER, hr1⟩ := H1.out
  obtain ⟨B, c, rfl, hnc, hcm, hB⟩ := own_form hr1.tmb.1
  have hrl1 : p < w1.heap.size := hr1.blk.size
  have RR1 := Lib.hid hr1
  have hnR : R.tombs.length ≤ 10000 := by have := hr1.lens; omega
  have hgl : ∀ g, B = some ⟨g, 0, none⟩ → g < w1.heap.size := fun g e => by
    subst e
    exact (hr1.tmb.1.lt g rfl).2
  have HGL := Lib.hid hgl
  obtain ⟨n, hn⟩ : ∃ n, R.tombs.length = n := ⟨_, rfl⟩
  have HRN := Lib.hid hn
  have HC := Lib.hid (show ∀ W : World, Below w1.heap.size w1 W → ∀ (j : Nat) x, R.tombs[j]? = some x → ∃ g, B = some ⟨g, 0, none⟩ ∧ W.cell? ⟨g, j * 2, none⟩ = some (encStr x.1) ∧ W.cell? ⟨g, j * 2 + 1, none⟩ = some (.int .i64 x.2) from fun W hb j x hx => by
    have hlt : j < R.tombs.length := (List.getElem?_eq_some_iff.1 hx).1
    rcases hB with ⟨_, h0, _⟩ | ⟨g, rfl⟩
    · exact absurd (show R.tombs.length = 0 from h0) (by omega)
    · have hg := hgl g rfl
      exact ⟨g, rfl, (hb.cell (p := ⟨g, j * 2, none⟩) hg).trans (hr1.tmb.row.cell (mark_get hx).1), (hb.cell (p := ⟨g, j * 2 + 1, none⟩) hg).trans (hr1.tmb.row.cell (mark_get hx).2)⟩)
  have hq0 : w1.cell? ⟨w.heap.size, 0, none⟩ = some (.int .i64 v.kind) := BB.out.cell 0
  rw [hn] at hnR hnc
  clear hw1 hb1 hr1 hB hgl hn
  go_wp2_with fail
  go_loopw [5, 6] (fun a i wx => ∃ j : Nat, i = .int .i64 j ∧ j ≤ n ∧ a = .int .i64 (idxP (isTomb v.key v.gen) (R.tombs.take j)) ∧ Below w1.heap.size w1 wx) (fun _ i _ => n - (intOf i).toNat)
  case atStart => exact ⟨0, rfl, Nat.zero_le _, rfl, Below.refl _ _⟩
  case round =>
    obtain ⟨j, rfl, hj, rfl, hbl⟩ := hrel
    have hz := hbl.size
    have HBX := Lib.hid hbl
    have q1 : wr.cell? ⟨w.heap.size, 1, none⟩ = some (encStr v.key) := (hbl.cell (p := ⟨w.heap.size, 1, none⟩) hnb).trans (BB.out.cell 1)
    have q2 : wr.cell? ⟨w.heap.size, 2, none⟩ = some (.int .i64 v.gen) := (hbl.cell (p := ⟨w.heap.size, 2, none⟩) hnb).trans (BB.out.cell 2)
    have q6 : wr.cell? ⟨w.heap.size, 6, none⟩ = some (.int .i64 v.size) := (hbl.cell (p := ⟨w.heap.size, 6, none⟩) hnb).trans (BB.out.cell 6)
    have c3 : wr.cell? ⟨p, 3, none⟩ = some (.slice B n c) := by rw [← HRN.out]; exact (hbl.cell (p := ⟨p, 3, none⟩) hrl1).trans (RR1.out.blk.cell 3)
    have c5 : wr.cell? ⟨p, 5, none⟩ = some (.int .i64 R.gen) := (hbl.cell (p := ⟨p, 5, none⟩) hrl1).trans (RR1.out.blk.cell 5)
    by_cases hlt : j < n
    · have d1 : decide (j < n) = true := by simpa using hlt
      obtain ⟨x, hx⟩ : ∃ x, R.tombs[j]? = some x := ⟨_, List.getElem?_eq_getElem (by rw [HRN.out]; exact hlt)⟩
      obtain ⟨g, rfl, k0, k1⟩ := HC.out wr hbl j x hx
      have HT := Lib.hid (tomb_step (k := v.key) (g := v.gen) HND.out hx)
      generalize idxP (isTomb v.key v.gen) (R.tombs.take j) = ij at *
      clear hx hbl
      by_cases hk : x.1 = v.key
      · have d2 : (x.1 == v.key) = true := by simpa using hk
        by_cases hg : x.2 = v.gen
        · have d3 : (x.2 == v.gen) = true := by simpa using hg
          have HV := Lib.hid (HT.out.trans (if_pos (by unfold isTomb; simp [hk, hg])))
          clear hk hg
          go_wp2_with fail
          go_quiet (fail)
          go_wp2_with fail
          go_roundw
          case rel => exact ⟨j + 1, by go_num, hlt, by rw [HV.out], below_drewN HBX.out _⟩
          case measure => simp [intOf]; omega
        · have d3 : (x.2 == v.gen) = false := by simpa using hg
          have HV := Lib.hid (HT.out.trans (if_neg (by unfold isTomb; simp [hg])))
          clear hk hg
          go_wp2_with fail
          go_quiet (fail)
          go_wp2_with fail
          go_roundw
          case rel => exact ⟨j + 1, by go_num, hlt, by rw [HV.out], below_drewN HBX.out _⟩
          case measure => simp [intOf]; omega
      · have d2 : (x.1 == v.key) = false := by simpa using hk
        have HV := Lib.hid (HT.out.trans (if_neg (by unfold isTomb; simp [hk])))
        clear hk
        go_wp2_with fail
        go_quiet (fail)
        go_wp2_with fail
        go_roundw
        case rel => exact ⟨j + 1, by go_num, hlt, by rw [HV.out], below_drewN HBX.out _⟩
        case measure => simp [intOf]; omega
    · have d1 : decide (j < n) = false := by simpa using hlt
      obtain rfl : j = n := by omega
      obtain ⟨n, rfl⟩ : ∃ x, x = j := ⟨_, rfl⟩
      rw [show R.tombs.take n = R.tombs from List.take_of_length_le (by rw [HRN.out]; exact Nat.le_refl _), show idxP (isTomb v.key v.gen) R.tombs = tombI R v from rfl]
      clear hbl hlt hj
      by_cases s1 : v.size = 1
      · have z1 : (v.size == 1) = true := by simpa using s1
        have z0 : (v.size == 0) = false := by rw [s1]; rfl
        by_cases a1 : tombI R v < 0
        · have za : decide (tombI R v < 0) = true := by simpa using a1
          by_cases nm : 1 ≤ v.key.length ∧ v.key.length ≤ 16
          · have zn : decide (1 ≤ v.key.length ∧ v.key.length ≤ 16) = true := decide_eq_true nm
            by_cases g1 : 1 ≤ v.gen
            · have zg1 : decide (1 ≤ v.gen) = true := by simpa using g1
              by_cases g2 : v.gen ≤ R.gen
              · have zg2 : decide (v.gen ≤ R.gen) = true := by simpa using g2
                have HE := Lib.hid (show tombC R v = (0, { R with tombs := R.tombs ++ [(v.key, v.gen)] }) from if_pos ⟨s1, a1, nm.1, nm.2, g1, g2⟩)
                clear s1 a1 nm g1 g2
                go_wp2_with fail
                go_quiet ((go_at_call 51; exact quiet_eq (rNamed v.key _ HKL.out)))
                obtain ⟨w2, hw2⟩ : ∃ w2, w2 = wr.drewN nq := ⟨_, rfl⟩
                rw [← hw2]
                have hb2 : Below wr.heap.size wr w2 := by rw [hw2]; exact below_drewN (Below.refl _ _) _
                have B2 := Lib.hid (HBX.out.trans (hb2.mono hz))
                have hnb2 : w.heap.size < w2.heap.size := Nat.lt_of_lt_of_le hnb B2.out.size
                clear q1 q2 q6 c3 c5 hw2
                have q1 : w2.cell? ⟨w.heap.size, 1, none⟩ = some (encStr v.key) := (B2.out.cell (p := ⟨w.heap.size, 1, none⟩) hnb).trans (BB.out.cell 1)
                have q2 : w2.cell? ⟨w.heap.size, 2, none⟩ = some (.int .i64 v.gen) := (B2.out.cell (p := ⟨w.heap.size, 2, none⟩) hnb).trans (BB.out.cell 2)
                obtain ⟨sw2, sh2, sb2, st2, sr2, ER2, hr2⟩ := H1.out.below B2.out
                obtain ⟨B', c', rfl, hnc', hcm', hB'⟩ := own_form hr2.tmb.1
                clear HC HGL hnc RR1
                obtain ⟨B, rfl⟩ : ∃ B, B = B' := ⟨_, rfl⟩
                obtain ⟨c, rfl⟩ : ∃ c, c = c' := ⟨_, rfl⟩
                have cc : w2.cell? ⟨p, 3, none⟩ = some (.slice B n c) := by rw [← HRN.out]; exact hr2.blk.cell 3
                have hrl : p < w2.heap.size := hr2.blk.size
                have RR := Lib.hid hr2
                have HBN := Lib.hid (show B = none → n = 0 from fun e => by rcases hB' with ⟨_, h, _⟩ | ⟨g, h⟩; rw [← HRN.out]; exact h; rw [h] at e; cases e)
                have SRC := Lib.hid (orow_src hr2.tmb).1
                have SRB := Lib.hid (show ∀ W : World, Below w2.heap.size w2 W → SrcAt W B n (markVals R.tombs) from fun W hb => by rw [← HRN.out]; exact SRC.out.below hb)
                have B12 := Lib.hid (B1.out.trans (B2.out.mono B1.out.size))
                clear hr2 hB' hb2
                have hnp : w.heap.size ≠ p := blk_ne (BB.out.below B2.out hnb) RR.out.blk (by decide)
                go_upto_region 25 with fail
                refine wp_region_held_drew (S := (fun w' => w'.cell? ⟨w.heap.size, 1, none⟩ = some (encStr v.key) ∧ w'.cell? ⟨w.heap.size, 2, none⟩ = some (.int .i64 v.gen))) (by kernel_rfl) ⟨q1, q2⟩ (fun hHeld => ?_)
                refine tk (i := 0) (v := ?vR25n10) rfl ?hyR25n10 ?restR25n10
                case hyR25n10 => (intro w hSw; (try dsimp only at hSw); go_simp <;> with_reducible rfl)
                try simp only [Act.put, pt1, pt2, pt3]
                refine tk (i := 2) (v := ?vR25n12) rfl ?hyR25n12 ?restR25n12
                case hyR25n12 => (intro w hSw; (try dsimp only at hSw); go_simp <;> with_reducible rfl)
                try simp only [Act.put, pt1, pt2, pt3]
                refine tk (i := 3) (v := ?vR25n13) rfl ?hyR25n13 ?restR25n13
                case hyR25n13 => (intro w hSw; (try dsimp only at hSw); go_simp <;> with_reducible rfl)
                try simp only [Act.put, pt1, pt2, pt3]
                refine tk (i := 4) (v := ?vR25n14) rfl ?hyR25n14 ?restR25n14
                case hyR25n14 => (intro w hSw; (try dsimp only at hSw); go_simp <;> with_reducible rfl)
                try simp only [Act.put, pt1, pt2, pt3]
                refine tk (i := 7) (v := ?vR25n17) rfl ?hyR25n17 ?restR25n17
                case hyR25n17 => (intro w hSw; (try dsimp only at hSw); go_simp <;> with_reducible rfl)
                try simp only [Act.put, pt1, pt2, pt3]
                refine tk (i := 8) (v := ?vR25n18) rfl ?hyR25n18 ?restR25n18
                case hyR25n18 => (intro w hSw; (try dsimp only at hSw); go_simp <;> with_reducible rfl)
                try simp only [Act.put, pt1, pt2, pt3]
                refine tk (i := 9) (v := ?vR25n19) rfl ?hyR25n19 ?restR25n19
                case hyR25n19 => (intro w hSw; (try dsimp only at hSw); go_simp <;> with_reducible rfl)
                try simp only [Act.put, pt1, pt2, pt3]
                refine tk (i := 10) (v := ?vR25n110) rfl ?hyR25n110 ?restR25n110
                case hyR25n110 => (intro w hSw; (try dsimp only at hSw); go_simp <;> with_reducible rfl)
                try simp only [Act.put, pt1, pt2, pt3]
                refine tk (i := 11) (v := ?vR25n111) rfl ?hyR25n111 ?restR25n111
                case hyR25n111 => (intro w hSw; (try dsimp only at hSw); go_simp <;> with_reducible rfl)
                try simp only [Act.put, pt1, pt2, pt3]
                refine wpAnyH_ready (rs := [1, 5, 12]) (by kernel_rfl) (by simp) ?_
                refine AllReadyH.cons rfl (fun K hK => ?_) (AllReadyH.cons rfl (fun K hK => ?_) (AllReadyH.cons rfl (fun K hK => ?_) AllReadyH.nil))
                · go_simp
                  clear hHeld
                  refine hK.out _ _ (by (try dsimp only); go_keep) (fun hHeld => ?_)
                  clear hK K
                  refine wpAnyH_ready (rs := [5, 12]) (by kernel_rfl) (by simp) ?_
                  refine AllReadyH.cons rfl (fun K hK => ?_) (AllReadyH.cons rfl (fun K hK => ?_) AllReadyH.nil)
                  · go_simp
                    refine hK.out _ _ hHeld (fun hHeld => ?_)
                    clear hK K
                    refine wpAnyH_ready (rs := [6, 12]) (by kernel_rfl) (by simp) ?_
                    refine AllReadyH.cons rfl (fun K hK => ?_) (AllReadyH.cons rfl (fun K hK => ?_) AllReadyH.nil)
                    · first | (refine step_append_any _ rfl (.tmp 143) (.tmp 147) 52 rfl w2.heap.size 91 i0 _ 2 24 Tryz.underlying52 hi0 hz0 hz1 hz2 rfl (by omega) (.slice (some ⟨w2.heap.size, 0, none⟩) 0 0) 0 [] rfl (by exact own_d1 w2 _ 2) B n c (markVals R.tombs) rfl (by rw [markVals_len, HRN.out]) HBN.out (by exact SRB.out _ (below_a1 w2 _)) (markVals_one _) (by simp only [maxLen]; omega) (by omega) (by first | omega | (simp; omega) | simp) ?_; intro B5 c5 w5 hown5 hgr5; have O5 := Lib.hid (show w5.ownsRow w2.heap.size 91 2 (.slice B5 n c5) n (markVals R.tombs) by simpa using hown5); have C5 := Lib.hid (show Below w2.heap.size w2 w5 from grown_d1 (by exact hgr5)); have K5 : w5.cell? ⟨p, 3, none⟩ = some (.slice B n c) := (C5.out.cell (p := ⟨p, 3, none⟩) hrl).trans cc; have y1 : w5.cell? ⟨w.heap.size, 1, none⟩ = some (encStr v.key) := (C5.out.cell (p := ⟨w.heap.size, 1, none⟩) hnb2).trans q1; have y2 : w5.cell? ⟨w.heap.size, 2, none⟩ = some (.int .i64 v.gen) := (C5.out.cell (p := ⟨w.heap.size, 2, none⟩) hnb2).trans q2; clear hown5 hgr5) | (refine step_append_any _ rfl (.tmp 143) (.tmp 147) 52 rfl w2.heap.size 91 i0 _ 2 24 Tryz.underlying52 hi0 hz0 hz1 hz2 rfl (by omega) (.slice (some ⟨w2.heap.size, 0, none⟩) 0 0) 0 [] rfl (by exact own_d2 w2 _ 2 _) B n c (markVals R.tombs) rfl (by rw [markVals_len, HRN.out]) HBN.out (by exact SRB.out _ (below_a2 w2 _ _)) (markVals_one _) (by simp only [maxLen]; omega) (by omega) (by first | omega | (simp; omega) | simp) ?_; intro B5 c5 w5 hown5 hgr5; have O5 := Lib.hid (show w5.ownsRow w2.heap.size 91 2 (.slice B5 n c5) n (markVals R.tombs) by simpa using hown5); have C5 := Lib.hid (show Below w2.heap.size w2 w5 from grown_d2 (by exact hgr5)); have K5 : w5.cell? ⟨p, 3, none⟩ = some (.slice B n c) := (C5.out.cell (p := ⟨p, 3, none⟩) hrl).trans cc; have y1 : w5.cell? ⟨w.heap.size, 1, none⟩ = some (encStr v.key) := (C5.out.cell (p := ⟨w.heap.size, 1, none⟩) hnb2).trans q1; have y2 : w5.cell? ⟨w.heap.size, 2, none⟩ = some (.int .i64 v.gen) := (C5.out.cell (p := ⟨w.heap.size, 2, none⟩) hnb2).trans q2; have KS := Lib.hid (show SrcAt w5 (some ⟨w2.heap.size + 1, 0, none⟩) 1 [encStr v.key, .int .i64 v.gen] from src_k2 (cs := [encStr v.key, .int .i64 v.gen]) (m := 1) (by exact hgr5)); clear hown5 hgr5) | (refine step_append_any _ rfl (.tmp 143) (.tmp 147) 52 rfl w2.heap.size 91 i0 _ 2 24 Tryz.underlying52 hi0 hz0 hz1 hz2 rfl (by omega) (.slice (some ⟨w2.heap.size + 1, 0, none⟩) 0 0) 0 [] rfl (by exact own_d3 w2 _ 2 _) B n c (markVals R.tombs) rfl (by rw [markVals_len, HRN.out]) HBN.out (by exact SRB.out _ (below_a2 w2 _ _)) (markVals_one _) (by simp only [maxLen]; omega) (by omega) (by first | omega | (simp; omega) | simp) ?_; intro B5 c5 w5 hown5 hgr5; have O5 := Lib.hid (show w5.ownsRow w2.heap.size 91 2 (.slice B5 n c5) n (markVals R.tombs) by simpa using hown5); have C5 := Lib.hid (show Below w2.heap.size w2 w5 from grown_d3 (by exact hgr5)); have K5 : w5.cell? ⟨p, 3, none⟩ = some (.slice B n c) := (C5.out.cell (p := ⟨p, 3, none⟩) hrl).trans cc; have y1 : w5.cell? ⟨w.heap.size, 1, none⟩ = some (encStr v.key) := (C5.out.cell (p := ⟨w.heap.size, 1, none⟩) hnb2).trans q1; have y2 : w5.cell? ⟨w.heap.size, 2, none⟩ = some (.int .i64 v.gen) := (C5.out.cell (p := ⟨w.heap.size, 2, none⟩) hnb2).trans q2; have KS := Lib.hid (show SrcAt w5 (some ⟨w2.heap.size, 0, none⟩) 1 [encStr v.key, .int .i64 v.gen] from src_k3 (cs := [encStr v.key, .int .i64 v.gen]) (m := 1) (by exact hgr5)); clear hown5 hgr5)
                      clear hHeld
                      refine hK.out _ _ ⟨y1, y2⟩ (fun hHeld => ?_)
                      clear hK K
                      refine wpAnyH_ready (rs := [12]) (by kernel_rfl) (by simp) ?_
                      refine AllReadyH.cons rfl (fun K hK => ?_) AllReadyH.nil
                      go_simp
                      clear hHeld
                      refine hK.out _ _ (by (try dsimp only); go_keep) (fun hHeld => ?_)
                      clear hK K
                      refine wpAnyH_ready (rs := [13]) (by kernel_rfl) (by simp) ?_
                      refine AllReadyH.cons rfl (fun K hK => ?_) AllReadyH.nil
                      first | (refine step_append_any _ rfl (.tmp 148) (.tmp 154) 52 rfl w2.heap.size 91 i0 _ 2 24 Tryz.underlying52 hi0 hz0 hz1 hz2 rfl (by omega) (.slice B5 n c5) n (markVals R.tombs) (by first | rfl | (show Value.slice B5 (0 + n) c5 = Value.slice B5 n c5; rw [Nat.zero_add])) (by exact O5.out.alloc _) (some ⟨w5.heap.size, 0, none⟩) 1 1 [encStr v.key, .int .i64 v.gen] rfl rfl (fun e => by cases e) (by exact src_new _ _ _ _) (by intro u hu; simp only [List.mem_cons, List.not_mem_nil, or_false] at hu; rcases hu with rfl | rfl <;> rfl) (by simp only [maxLen]; omega) (by omega) (C5.out.alloc C5.out.size _).size ?_; intro B6 c6 w6 hown6 hgr6; have O6 := Lib.hid hown6; have C6 := Lib.hid (show Below w2.heap.size w2 w6 from (C5.out.alloc C5.out.size _).grown (by exact hgr6) (C5.out.alloc C5.out.size _).size (fun y hy => (O5.out.lt y hy).1)); have K6 : w6.cell? ⟨p, 3, none⟩ = some (.slice B n c) := (C6.out.cell (p := ⟨p, 3, none⟩) hrl).trans cc; have f6 : w6.frozen? ⟨p, 3, none⟩ = false := (RR.out.blk.below C6.out hrl).free 3; have z1 : w6.cell? ⟨w.heap.size, 1, none⟩ = some (encStr v.key) := (C6.out.cell (p := ⟨w.heap.size, 1, none⟩) hnb2).trans q1; have z2 : w6.cell? ⟨w.heap.size, 2, none⟩ = some (.int .i64 v.gen) := (C6.out.cell (p := ⟨w.heap.size, 2, none⟩) hnb2).trans q2; clear hown6 hgr6) | (refine step_append_any _ rfl (.tmp 148) (.tmp 154) 52 rfl w2.heap.size 91 i0 _ 2 24 Tryz.underlying52 hi0 hz0 hz1 hz2 rfl (by omega) (.slice B5 n c5) n (markVals R.tombs) (by first | rfl | (show Value.slice B5 (0 + n) c5 = Value.slice B5 n c5; rw [Nat.zero_add])) (by exact O5.out) (some ⟨w2.heap.size + 1, 0, none⟩) 1 1 [encStr v.key, .int .i64 v.gen] rfl rfl (fun e => by cases e) (by exact KS.out) (by intro u hu; simp only [List.mem_cons, List.not_mem_nil, or_false] at hu; rcases hu with rfl | rfl <;> rfl) (by simp only [maxLen]; omega) (by omega) (C5.out).size ?_; intro B6 c6 w6 hown6 hgr6; have O6 := Lib.hid hown6; have C6 := Lib.hid (show Below w2.heap.size w2 w6 from (C5.out).grown (by exact hgr6) (C5.out).size (fun y hy => (O5.out.lt y hy).1)); have K6 : w6.cell? ⟨p, 3, none⟩ = some (.slice B n c) := (C6.out.cell (p := ⟨p, 3, none⟩) hrl).trans cc; have f6 : w6.frozen? ⟨p, 3, none⟩ = false := (RR.out.blk.below C6.out hrl).free 3; have z1 : w6.cell? ⟨w.heap.size, 1, none⟩ = some (encStr v.key) := (C6.out.cell (p := ⟨w.heap.size, 1, none⟩) hnb2).trans q1; have z2 : w6.cell? ⟨w.heap.size, 2, none⟩ = some (.int .i64 v.gen) := (C6.out.cell (p := ⟨w.heap.size, 2, none⟩) hnb2).trans q2; clear hown6 hgr6) | (refine step_append_any _ rfl (.tmp 148) (.tmp 154) 52 rfl w2.heap.size 91 i0 _ 2 24 Tryz.underlying52 hi0 hz0 hz1 hz2 rfl (by omega) (.slice B5 n c5) n (markVals R.tombs) (by first | rfl | (show Value.slice B5 (0 + n) c5 = Value.slice B5 n c5; rw [Nat.zero_add])) (by exact O5.out) (some ⟨w2.heap.size, 0, none⟩) 1 1 [encStr v.key, .int .i64 v.gen] rfl rfl (fun e => by cases e) (by exact KS.out) (by intro u hu; simp only [List.mem_cons, List.not_mem_nil, or_false] at hu; rcases hu with rfl | rfl <;> rfl) (by simp only [maxLen]; omega) (by omega) (C5.out).size ?_; intro B6 c6 w6 hown6 hgr6; have O6 := Lib.hid hown6; have C6 := Lib.hid (show Below w2.heap.size w2 w6 from (C5.out).grown (by exact hgr6) (C5.out).size (fun y hy => (O5.out.lt y hy).1)); have K6 : w6.cell? ⟨p, 3, none⟩ = some (.slice B n c) := (C6.out.cell (p := ⟨p, 3, none⟩) hrl).trans cc; have f6 : w6.frozen? ⟨p, 3, none⟩ = false := (RR.out.blk.below C6.out hrl).free 3; have z1 : w6.cell? ⟨w.heap.size, 1, none⟩ = some (encStr v.key) := (C6.out.cell (p := ⟨w.heap.size, 1, none⟩) hnb2).trans q1; have z2 : w6.cell? ⟨w.heap.size, 2, none⟩ = some (.int .i64 v.gen) := (C6.out.cell (p := ⟨w.heap.size, 2, none⟩) hnb2).trans q2; clear hown6 hgr6)
                      clear hHeld
                      refine hK.out _ _ ⟨z1, z2⟩ (fun hHeld => ?_)
                      clear hK K
                      refine tk (i := 14) (v := ?vR25n1b1b5b614) rfl ?hyR25n1b1b5b614 ?restR25n1b1b5b614
                      case hyR25n1b1b5b614 => (intro w hSw; (try dsimp only at hSw); go_simp <;> with_reducible rfl)
                      refine tk (i := 15) (v := ?vR25n1b1b5b615) rfl ?hyR25n1b1b5b615 ?restR25n1b1b5b615
                      case hyR25n1b1b5b615 => (intro w hSw; (try dsimp only at hSw); go_simp <;> with_reducible rfl)
                      refine wpAnyH_ready (rs := [16]) (by kernel_rfl) (by simp) ?_
                      refine AllReadyH.cons rfl (fun K hK => ?_) AllReadyH.nil
                      go_simp
                      clear hHeld
                      refine hK.out _ _ ⟨cell_other z1 hnp, cell_other z2 hnp⟩ (fun hHeld => ?_)
                      clear hK K
                      refine wpAnyH_done (by kernel_rfl) ?_ _
                      go_wp2_with fail
                      go_ret
                      rw [HE.out]
                      have hl : (R.tombs ++ [(v.key, v.gen)]).length = n + 1 := by rw [List.length_append, HRN.out]; rfl
                      have h6 : w6.ownsRow w2.heap.size 91 2 (.slice B6 (n + 1) c6) (R.tombs ++ [(v.key, v.gen)]).length (markVals (R.tombs ++ [(v.key, v.gen)])) := by rw [hl, markVals_app]; exact O6.out
                      exact ⟨rfl, RefPost.of_below B12.out (RR.out.setTombs C6.out h6 (by rw [hl]; have := RR.out.lens; have h2 := HRN.out; omega) (Nat.le_succ _))⟩
                    · go_simp
                      clear hHeld
                      refine hK.out _ _ (by (try dsimp only); go_keep) (fun hHeld => ?_)
                      clear hK K
                      refine wpAnyH_ready (rs := [6]) (by kernel_rfl) (by simp) ?_
                      refine AllReadyH.cons rfl (fun K hK => ?_) AllReadyH.nil
                      first | (refine step_append_any _ rfl (.tmp 143) (.tmp 147) 52 rfl w2.heap.size 91 i0 _ 2 24 Tryz.underlying52 hi0 hz0 hz1 hz2 rfl (by omega) (.slice (some ⟨w2.heap.size, 0, none⟩) 0 0) 0 [] rfl (by exact own_d1 w2 _ 2) B n c (markVals R.tombs) rfl (by rw [markVals_len, HRN.out]) HBN.out (by exact SRB.out _ (below_a1 w2 _)) (markVals_one _) (by simp only [maxLen]; omega) (by omega) (by first | omega | (simp; omega) | simp) ?_; intro B5 c5 w5 hown5 hgr5; have O5 := Lib.hid (show w5.ownsRow w2.heap.size 91 2 (.slice B5 n c5) n (markVals R.tombs) by simpa using hown5); have C5 := Lib.hid (show Below w2.heap.size w2 w5 from grown_d1 (by exact hgr5)); have K5 : w5.cell? ⟨p, 3, none⟩ = some (.slice B n c) := (C5.out.cell (p := ⟨p, 3, none⟩) hrl).trans cc; have y1 : w5.cell? ⟨w.heap.size, 1, none⟩ = some (encStr v.key) := (C5.out.cell (p := ⟨w.heap.size, 1, none⟩) hnb2).trans q1; have y2 : w5.cell? ⟨w.heap.size, 2, none⟩ = some (.int .i64 v.gen) := (C5.out.cell (p := ⟨w.heap.size, 2, none⟩) hnb2).trans q2; clear hown5 hgr5) | (refine step_append_any _ rfl (.tmp 143) (.tmp 147) 52 rfl w2.heap.size 91 i0 _ 2 24 Tryz.underlying52 hi0 hz0 hz1 hz2 rfl (by omega) (.slice (some ⟨w2.heap.size, 0, none⟩) 0 0) 0 [] rfl (by exact own_d2 w2 _ 2 _) B n c (markVals R.tombs) rfl (by rw [markVals_len, HRN.out]) HBN.out (by exact SRB.out _ (below_a2 w2 _ _)) (markVals_one _) (by simp only [maxLen]; omega) (by omega) (by first | omega | (simp; omega) | simp) ?_; intro B5 c5 w5 hown5 hgr5; have O5 := Lib.hid (show w5.ownsRow w2.heap.size 91 2 (.slice B5 n c5) n (markVals R.tombs) by simpa using hown5); have C5 := Lib.hid (show Below w2.heap.size w2 w5 from grown_d2 (by exact hgr5)); have K5 : w5.cell? ⟨p, 3, none⟩ = some (.slice B n c) := (C5.out.cell (p := ⟨p, 3, none⟩) hrl).trans cc; have y1 : w5.cell? ⟨w.heap.size, 1, none⟩ = some (encStr v.key) := (C5.out.cell (p := ⟨w.heap.size, 1, none⟩) hnb2).trans q1; have y2 : w5.cell? ⟨w.heap.size, 2, none⟩ = some (.int .i64 v.gen) := (C5.out.cell (p := ⟨w.heap.size, 2, none⟩) hnb2).trans q2; have KS := Lib.hid (show SrcAt w5 (some ⟨w2.heap.size + 1, 0, none⟩) 1 [encStr v.key, .int .i64 v.gen] from src_k2 (cs := [encStr v.key, .int .i64 v.gen]) (m := 1) (by exact hgr5)); clear hown5 hgr5) | (refine step_append_any _ rfl (.tmp 143) (.tmp 147) 52 rfl w2.heap.size 91 i0 _ 2 24 Tryz.underlying52 hi0 hz0 hz1 hz2 rfl (by omega) (.slice (some ⟨w2.heap.size + 1, 0, none⟩) 0 0) 0 [] rfl (by exact own_d3 w2 _ 2 _) B n c (markVals R.tombs) rfl (by rw [markVals_len, HRN.out]) HBN.out (by exact SRB.out _ (below_a2 w2 _ _)) (markVals_one _) (by simp only [maxLen]; omega) (by omega) (by first | omega | (simp; omega) | simp) ?_; intro B5 c5 w5 hown5 hgr5; have O5 := Lib.hid (show w5.ownsRow w2.heap.size 91 2 (.slice B5 n c5) n (markVals R.tombs) by simpa using hown5); have C5 := Lib.hid (show Below w2.heap.size w2 w5 from grown_d3 (by exact hgr5)); have K5 : w5.cell? ⟨p, 3, none⟩ = some (.slice B n c) := (C5.out.cell (p := ⟨p, 3, none⟩) hrl).trans cc; have y1 : w5.cell? ⟨w.heap.size, 1, none⟩ = some (encStr v.key) := (C5.out.cell (p := ⟨w.heap.size, 1, none⟩) hnb2).trans q1; have y2 : w5.cell? ⟨w.heap.size, 2, none⟩ = some (.int .i64 v.gen) := (C5.out.cell (p := ⟨w.heap.size, 2, none⟩) hnb2).trans q2; have KS := Lib.hid (show SrcAt w5 (some ⟨w2.heap.size, 0, none⟩) 1 [encStr v.key, .int .i64 v.gen] from src_k3 (cs := [encStr v.key, .int .i64 v.gen]) (m := 1) (by exact hgr5)); clear hown5 hgr5)
                      clear hHeld
                      refine hK.out _ _ ⟨y1, y2⟩ (fun hHeld => ?_)
                      clear hK K
                      refine wpAnyH_ready (rs := [13]) (by kernel_rfl) (by simp) ?_
                      refine AllReadyH.cons rfl (fun K hK => ?_) AllReadyH.nil
                      first | (refine step_append_any _ rfl (.tmp 148) (.tmp 154) 52 rfl w2.heap.size 91 i0 _ 2 24 Tryz.underlying52 hi0 hz0 hz1 hz2 rfl (by omega) (.slice B5 n c5) n (markVals R.tombs) (by first | rfl | (show Value.slice B5 (0 + n) c5 = Value.slice B5 n c5; rw [Nat.zero_add])) (by exact O5.out.alloc _) (some ⟨w5.heap.size, 0, none⟩) 1 1 [encStr v.key, .int .i64 v.gen] rfl rfl (fun e => by cases e) (by exact src_new _ _ _ _) (by intro u hu; simp only [List.mem_cons, List.not_mem_nil, or_false] at hu; rcases hu with rfl | rfl <;> rfl) (by simp only [maxLen]; omega) (by omega) (C5.out.alloc C5.out.size _).size ?_; intro B6 c6 w6 hown6 hgr6; have O6 := Lib.hid hown6; have C6 := Lib.hid (show Below w2.heap.size w2 w6 from (C5.out.alloc C5.out.size _).grown (by exact hgr6) (C5.out.alloc C5.out.size _).size (fun y hy => (O5.out.lt y hy).1)); have K6 : w6.cell? ⟨p, 3, none⟩ = some (.slice B n c) := (C6.out.cell (p := ⟨p, 3, none⟩) hrl).trans cc; have f6 : w6.frozen? ⟨p, 3, none⟩ = false := (RR.out.blk.below C6.out hrl).free 3; have z1 : w6.cell? ⟨w.heap.size, 1, none⟩ = some (encStr v.key) := (C6.out.cell (p := ⟨w.heap.size, 1, none⟩) hnb2).trans q1; have z2 : w6.cell? ⟨w.heap.size, 2, none⟩ = some (.int .i64 v.gen) := (C6.out.cell (p := ⟨w.heap.size, 2, none⟩) hnb2).trans q2; clear hown6 hgr6) | (refine step_append_any _ rfl (.tmp 148) (.tmp 154) 52 rfl w2.heap.size 91 i0 _ 2 24 Tryz.underlying52 hi0 hz0 hz1 hz2 rfl (by omega) (.slice B5 n c5) n (markVals R.tombs) (by first | rfl | (show Value.slice B5 (0 + n) c5 = Value.slice B5 n c5; rw [Nat.zero_add])) (by exact O5.out) (some ⟨w2.heap.size + 1, 0, none⟩) 1 1 [encStr v.key, .int .i64 v.gen] rfl rfl (fun e => by cases e) (by exact KS.out) (by intro u hu; simp only [List.mem_cons, List.not_mem_nil, or_false] at hu; rcases hu with rfl | rfl <;> rfl) (by simp only [maxLen]; omega) (by omega) (C5.out).size ?_; intro B6 c6 w6 hown6 hgr6; have O6 := Lib.hid hown6; have C6 := Lib.hid (show Below w2.heap.size w2 w6 from (C5.out).grown (by exact hgr6) (C5.out).size (fun y hy => (O5.out.lt y hy).1)); have K6 : w6.cell? ⟨p, 3, none⟩ = some (.slice B n c) := (C6.out.cell (p := ⟨p, 3, none⟩) hrl).trans cc; have f6 : w6.frozen? ⟨p, 3, none⟩ = false := (RR.out.blk.below C6.out hrl).free 3; have z1 : w6.cell? ⟨w.heap.size, 1, none⟩ = some (encStr v.key) := (C6.out.cell (p := ⟨w.heap.size, 1, none⟩) hnb2).trans q1; have z2 : w6.cell? ⟨w.heap.size, 2, none⟩ = some (.int .i64 v.gen) := (C6.out.cell (p := ⟨w.heap.size, 2, none⟩) hnb2).trans q2; clear hown6 hgr6) | (refine step_append_any _ rfl (.tmp 148) (.tmp 154) 52 rfl w2.heap.size 91 i0 _ 2 24 Tryz.underlying52 hi0 hz0 hz1 hz2 rfl (by omega) (.slice B5 n c5) n (markVals R.tombs) (by first | rfl | (show Value.slice B5 (0 + n) c5 = Value.slice B5 n c5; rw [Nat.zero_add])) (by exact O5.out) (some ⟨w2.heap.size, 0, none⟩) 1 1 [encStr v.key, .int .i64 v.gen] rfl rfl (fun e => by cases e) (by exact KS.out) (by intro u hu; simp only [List.mem_cons, List.not_mem_nil, or_false] at hu; rcases hu with rfl | rfl <;> rfl) (by simp only [maxLen]; omega) (by omega) (C5.out).size ?_; intro B6 c6 w6 hown6 hgr6; have O6 := Lib.hid hown6; have C6 := Lib.hid (show Below w2.heap.size w2 w6 from (C5.out).grown (by exact hgr6) (C5.out).size (fun y hy => (O5.out.lt y hy).1)); have K6 : w6.cell? ⟨p, 3, none⟩ = some (.slice B n c) := (C6.out.cell (p := ⟨p, 3, none⟩) hrl).trans cc; have f6 : w6.frozen? ⟨p, 3, none⟩ = false := (RR.out.blk.below C6.out hrl).free 3; have z1 : w6.cell? ⟨w.heap.size, 1, none⟩ = some (encStr v.key) := (C6.out.cell (p := ⟨w.heap.size, 1, none⟩) hnb2).trans q1; have z2 : w6.cell? ⟨w.heap.size, 2, none⟩ = some (.int .i64 v.gen) := (C6.out.cell (p := ⟨w.heap.size, 2, none⟩) hnb2).trans q2; clear hown6 hgr6)
                      clear hHeld
                      refine hK.out _ _ ⟨z1, z2⟩ (fun hHeld => ?_)
                      clear hK K
                      refine tk (i := 14) (v := ?vR25n1b1b5b1214) rfl ?hyR25n1b1b5b1214 ?restR25n1b1b5b1214
                      case hyR25n1b1b5b1214 => (intro w hSw; (try dsimp only at hSw); go_simp <;> with_reducible rfl)
                      refine tk (i := 15) (v := ?vR25n1b1b5b1215) rfl ?hyR25n1b1b5b1215 ?restR25n1b1b5b1215
                      case hyR25n1b1b5b1215 => (intro w hSw; (try dsimp only at hSw); go_simp <;> with_reducible rfl)
                      refine wpAnyH_ready (rs := [16]) (by kernel_rfl) (by simp) ?_
                      refine AllReadyH.cons rfl (fun K hK => ?_) AllReadyH.nil
                      go_simp
                      clear hHeld
                      refine hK.out _ _ ⟨cell_other z1 hnp, cell_other z2 hnp⟩ (fun hHeld => ?_)
                      clear hK K
                      refine wpAnyH_done (by kernel_rfl) ?_ _
                      go_wp2_with fail
                      go_ret
                      rw [HE.out]
                      have hl : (R.tombs ++ [(v.key, v.gen)]).length = n + 1 := by rw [List.length_append, HRN.out]; rfl
                      have h6 : w6.ownsRow w2.heap.size 91 2 (.slice B6 (n + 1) c6) (R.tombs ++ [(v.key, v.gen)]).length (markVals (R.tombs ++ [(v.key, v.gen)])) := by rw [hl, markVals_app]; exact O6.out
                      exact ⟨rfl, RefPost.of_below B12.out (RR.out.setTombs C6.out h6 (by rw [hl]; have := RR.out.lens; have h2 := HRN.out; omega) (Nat.le_succ _))⟩
                  · go_simp
                    clear hHeld
                    refine hK.out _ _ (by (try dsimp only); go_keep) (fun hHeld => ?_)
                    clear hK K
                    refine wpAnyH_ready (rs := [5]) (by kernel_rfl) (by simp) ?_
                    refine AllReadyH.cons rfl (fun K hK => ?_) AllReadyH.nil
                    go_simp
                    refine hK.out _ _ hHeld (fun hHeld => ?_)
                    clear hK K
                    refine wpAnyH_ready (rs := [6]) (by kernel_rfl) (by simp) ?_
                    refine AllReadyH.cons rfl (fun K hK => ?_) AllReadyH.nil
                    first | (refine step_append_any _ rfl (.tmp 143) (.tmp 147) 52 rfl w2.heap.size 91 i0 _ 2 24 Tryz.underlying52 hi0 hz0 hz1 hz2 rfl (by omega) (.slice (some ⟨w2.heap.size, 0, none⟩) 0 0) 0 [] rfl (by exact own_d1 w2 _ 2) B n c (markVals R.tombs) rfl (by rw [markVals_len, HRN.out]) HBN.out (by exact SRB.out _ (below_a1 w2 _)) (markVals_one _) (by simp only [maxLen]; omega) (by omega) (by first | omega | (simp; omega) | simp) ?_; intro B5 c5 w5 hown5 hgr5; have O5 := Lib.hid (show w5.ownsRow w2.heap.size 91 2 (.slice B5 n c5) n (markVals R.tombs) by simpa using hown5); have C5 := Lib.hid (show Below w2.heap.size w2 w5 from grown_d1 (by exact hgr5)); have K5 : w5.cell? ⟨p, 3, none⟩ = some (.slice B n c) := (C5.out.cell (p := ⟨p, 3, none⟩) hrl).trans cc; have y1 : w5.cell? ⟨w.heap.size, 1, none⟩ = some (encStr v.key) := (C5.out.cell (p := ⟨w.heap.size, 1, none⟩) hnb2).trans q1; have y2 : w5.cell? ⟨w.heap.size, 2, none⟩ = some (.int .i64 v.gen) := (C5.out.cell (p := ⟨w.heap.size, 2, none⟩) hnb2).trans q2; clear hown5 hgr5) | (refine step_append_any _ rfl (.tmp 143) (.tmp 147) 52 rfl w2.heap.size 91 i0 _ 2 24 Tryz.underlying52 hi0 hz0 hz1 hz2 rfl (by omega) (.slice (some ⟨w2.heap.size, 0, none⟩) 0 0) 0 [] rfl (by exact own_d2 w2 _ 2 _) B n c (markVals R.tombs) rfl (by rw [markVals_len, HRN.out]) HBN.out (by exact SRB.out _ (below_a2 w2 _ _)) (markVals_one _) (by simp only [maxLen]; omega) (by omega) (by first | omega | (simp; omega) | simp) ?_; intro B5 c5 w5 hown5 hgr5; have O5 := Lib.hid (show w5.ownsRow w2.heap.size 91 2 (.slice B5 n c5) n (markVals R.tombs) by simpa using hown5); have C5 := Lib.hid (show Below w2.heap.size w2 w5 from grown_d2 (by exact hgr5)); have K5 : w5.cell? ⟨p, 3, none⟩ = some (.slice B n c) := (C5.out.cell (p := ⟨p, 3, none⟩) hrl).trans cc; have y1 : w5.cell? ⟨w.heap.size, 1, none⟩ = some (encStr v.key) := (C5.out.cell (p := ⟨w.heap.size, 1, none⟩) hnb2).trans q1; have y2 : w5.cell? ⟨w.heap.size, 2, none⟩ = some (.int .i64 v.gen) := (C5.out.cell (p := ⟨w.heap.size, 2, none⟩) hnb2).trans q2; have KS := Lib.hid (show SrcAt w5 (some ⟨w2.heap.size + 1, 0, none⟩) 1 [encStr v.key, .int .i64 v.gen] from src_k2 (cs := [encStr v.key, .int .i64 v.gen]) (m := 1) (by exact hgr5)); clear hown5 hgr5) | (refine step_append_any _ rfl (.tmp 143) (.tmp 147) 52 rfl w2.heap.size 91 i0 _ 2 24 Tryz.underlying52 hi0 hz0 hz1 hz2 rfl (by omega) (.slice (some ⟨w2.heap.size + 1, 0, none⟩) 0 0) 0 [] rfl (by exact own_d3 w2 _ 2 _) B n c (markVals R.tombs) rfl (by rw [markVals_len, HRN.out]) HBN.out (by exact SRB.out _ (below_a2 w2 _ _)) (markVals_one _) (by simp only [maxLen]; omega) (by omega) (by first | omega | (simp; omega) | simp) ?_; intro B5 c5 w5 hown5 hgr5; have O5 := Lib.hid (show w5.ownsRow w2.heap.size 91 2 (.slice B5 n c5) n (markVals R.tombs) by simpa using hown5); have C5 := Lib.hid (show Below w2.heap.size w2 w5 from grown_d3 (by exact hgr5)); have K5 : w5.cell? ⟨p, 3, none⟩ = some (.slice B n c) := (C5.out.cell (p := ⟨p, 3, none⟩) hrl).trans cc; have y1 : w5.cell? ⟨w.heap.size, 1, none⟩ = some (encStr v.key) := (C5.out.cell (p := ⟨w.heap.size, 1, none⟩) hnb2).trans q1; have y2 : w5.cell? ⟨w.heap.size, 2, none⟩ = some (.int .i64 v.gen) := (C5.out.cell (p := ⟨w.heap.size, 2, none⟩) hnb2).trans q2; have KS := Lib.hid (show SrcAt w5 (some ⟨w2.heap.size, 0, none⟩) 1 [encStr v.key, .int .i64 v.gen] from src_k3 (cs := [encStr v.key, .int .i64 v.gen]) (m := 1) (by exact hgr5)); clear hown5 hgr5)
                    clear hHeld
                    refine hK.out _ _ ⟨y1, y2⟩ (fun hHeld => ?_)
                    clear hK K
                    refine wpAnyH_ready (rs := [13]) (by kernel_rfl) (by simp) ?_
                    refine AllReadyH.cons rfl (fun K hK => ?_) AllReadyH.nil
                    first | (refine step_append_any _ rfl (.tmp 148) (.tmp 154) 52 rfl w2.heap.size 91 i0 _ 2 24 Tryz.underlying52 hi0 hz0 hz1 hz2 rfl (by omega) (.slice B5 n c5) n (markVals R.tombs) (by first | rfl | (show Value.slice B5 (0 + n) c5 = Value.slice B5 n c5; rw [Nat.zero_add])) (by exact O5.out.alloc _) (some ⟨w5.heap.size, 0, none⟩) 1 1 [encStr v.key, .int .i64 v.gen] rfl rfl (fun e => by cases e) (by exact src_new _ _ _ _) (by intro u hu; simp only [List.mem_cons, List.not_mem_nil, or_false] at hu; rcases hu with rfl | rfl <;> rfl) (by simp only [maxLen]; omega) (by omega) (C5.out.alloc C5.out.size _).size ?_; intro B6 c6 w6 hown6 hgr6; have O6 := Lib.hid hown6; have C6 := Lib.hid (show Below w2.heap.size w2 w6 from (C5.out.alloc C5.out.size _).grown (by exact hgr6) (C5.out.alloc C5.out.size _).size (fun y hy => (O5.out.lt y hy).1)); have K6 : w6.cell? ⟨p, 3, none⟩ = some (.slice B n c) := (C6.out.cell (p := ⟨p, 3, none⟩) hrl).trans cc; have f6 : w6.frozen? ⟨p, 3, none⟩ = false := (RR.out.blk.below C6.out hrl).free 3; have z1 : w6.cell? ⟨w.heap.size, 1, none⟩ = some (encStr v.key) := (C6.out.cell (p := ⟨w.heap.size, 1, none⟩) hnb2).trans q1; have z2 : w6.cell? ⟨w.heap.size, 2, none⟩ = some (.int .i64 v.gen) := (C6.out.cell (p := ⟨w.heap.size, 2, none⟩) hnb2).trans q2; clear hown6 hgr6) | (refine step_append_any _ rfl (.tmp 148) (.tmp 154) 52 rfl w2.heap.size 91 i0 _ 2 24 Tryz.underlying52 hi0 hz0 hz1 hz2 rfl (by omega) (.slice B5 n c5) n (markVals R.tombs) (by first | rfl | (show Value.slice B5 (0 + n) c5 = Value.slice B5 n c5; rw [Nat.zero_add])) (by exact O5.out) (some ⟨w2.heap.size + 1, 0, none⟩) 1 1 [encStr v.key, .int .i64 v.gen] rfl rfl (fun e => by cases e) (by exact KS.out) (by intro u hu; simp only [List.mem_cons, List.not_mem_nil, or_false] at hu; rcases hu with rfl | rfl <;> rfl) (by simp only [maxLen]; omega) (by omega) (C5.out).size ?_; intro B6 c6 w6 hown6 hgr6; have O6 := Lib.hid hown6; have C6 := Lib.hid (show Below w2.heap.size w2 w6 from (C5.out).grown (by exact hgr6) (C5.out).size (fun y hy => (O5.out.lt y hy).1)); have K6 : w6.cell? ⟨p, 3, none⟩ = some (.slice B n c) := (C6.out.cell (p := ⟨p, 3, none⟩) hrl).trans cc; have f6 : w6.frozen? ⟨p, 3, none⟩ = false := (RR.out.blk.below C6.out hrl).free 3; have z1 : w6.cell? ⟨w.heap.size, 1, none⟩ = some (encStr v.key) := (C6.out.cell (p := ⟨w.heap.size, 1, none⟩) hnb2).trans q1; have z2 : w6.cell? ⟨w.heap.size, 2, none⟩ = some (.int .i64 v.gen) := (C6.out.cell (p := ⟨w.heap.size, 2, none⟩) hnb2).trans q2; clear hown6 hgr6) | (refine step_append_any _ rfl (.tmp 148) (.tmp 154) 52 rfl w2.heap.size 91 i0 _ 2 24 Tryz.underlying52 hi0 hz0 hz1 hz2 rfl (by omega) (.slice B5 n c5) n (markVals R.tombs) (by first | rfl | (show Value.slice B5 (0 + n) c5 = Value.slice B5 n c5; rw [Nat.zero_add])) (by exact O5.out) (some ⟨w2.heap.size, 0, none⟩) 1 1 [encStr v.key, .int .i64 v.gen] rfl rfl (fun e => by cases e) (by exact KS.out) (by intro u hu; simp only [List.mem_cons, List.not_mem_nil, or_false] at hu; rcases hu with rfl | rfl <;> rfl) (by simp only [maxLen]; omega) (by omega) (C5.out).size ?_; intro B6 c6 w6 hown6 hgr6; have O6 := Lib.hid hown6; have C6 := Lib.hid (show Below w2.heap.size w2 w6 from (C5.out).grown (by exact hgr6) (C5.out).size (fun y hy => (O5.out.lt y hy).1)); have K6 : w6.cell? ⟨p, 3, none⟩ = some (.slice B n c) := (C6.out.cell (p := ⟨p, 3, none⟩) hrl).trans cc; have f6 : w6.frozen? ⟨p, 3, none⟩ = false := (RR.out.blk.below C6.out hrl).free 3; have z1 : w6.cell? ⟨w.heap.size, 1, none⟩ = some (encStr v.key) := (C6.out.cell (p := ⟨w.heap.size, 1, none⟩) hnb2).trans q1; have z2 : w6.cell? ⟨w.heap.size, 2, none⟩ = some (.int .i64 v.gen) := (C6.out.cell (p := ⟨w.heap.size, 2, none⟩) hnb2).trans q2; clear hown6 hgr6)
                    clear hHeld
                    refine hK.out _ _ ⟨z1, z2⟩ (fun hHeld => ?_)
                    clear hK K
                    refine tk (i := 14) (v := ?vR25n1b1b1214) rfl ?hyR25n1b1b1214 ?restR25n1b1b1214
                    case hyR25n1b1b1214 => (intro w hSw; (try dsimp only at hSw); go_simp <;> with_reducible rfl)
                    refine tk (i := 15) (v := ?vR25n1b1b1215) rfl ?hyR25n1b1b1215 ?restR25n1b1b1215
                    case hyR25n1b1b1215 => (intro w hSw; (try dsimp only at hSw); go_simp <;> with_reducible rfl)
                    refine wpAnyH_ready (rs := [16]) (by kernel_rfl) (by simp) ?_
                    refine AllReadyH.cons rfl (fun K hK => ?_) AllReadyH.nil
                    go_simp
                    clear hHeld
                    refine hK.out _ _ ⟨cell_other z1 hnp, cell_other z2 hnp⟩ (fun hHeld => ?_)
                    clear hK K
                    refine wpAnyH_done (by kernel_rfl) ?_ _
                    go_wp2_with fail
                    go_ret
                    rw [HE.out]
                    have hl : (R.tombs ++ [(v.key, v.gen)]).length = n + 1 := by rw [List.length_append, HRN.out]; rfl
                    have h6 : w6.ownsRow w2.heap.size 91 2 (.slice B6 (n + 1) c6) (R.tombs ++ [(v.key, v.gen)]).length (markVals (R.tombs ++ [(v.key, v.gen)])) := by rw [hl, markVals_app]; exact O6.out
                    exact ⟨rfl, RefPost.of_below B12.out (RR.out.setTombs C6.out h6 (by rw [hl]; have := RR.out.lens; have h2 := HRN.out; omega) (Nat.le_succ _))⟩
                · go_simp
                  refine hK.out _ _ hHeld (fun hHeld => ?_)
                  clear hK K
                  refine wpAnyH_ready (rs := [1, 12]) (by kernel_rfl) (by simp) ?_
                  refine AllReadyH.cons rfl (fun K hK => ?_) (AllReadyH.cons rfl (fun K hK => ?_) AllReadyH.nil)
                  · go_simp
                    clear hHeld
                    refine hK.out _ _ (by (try dsimp only); go_keep) (fun hHeld => ?_)
                    clear hK K
                    refine wpAnyH_ready (rs := [6, 12]) (by kernel_rfl) (by simp) ?_
                    refine AllReadyH.cons rfl (fun K hK => ?_) (AllReadyH.cons rfl (fun K hK => ?_) AllReadyH.nil)
                    · first | (refine step_append_any _ rfl (.tmp 143) (.tmp 147) 52 rfl w2.heap.size 91 i0 _ 2 24 Tryz.underlying52 hi0 hz0 hz1 hz2 rfl (by omega) (.slice (some ⟨w2.heap.size, 0, none⟩) 0 0) 0 [] rfl (by exact own_d1 w2 _ 2) B n c (markVals R.tombs) rfl (by rw [markVals_len, HRN.out]) HBN.out (by exact SRB.out _ (below_a1 w2 _)) (markVals_one _) (by simp only [maxLen]; omega) (by omega) (by first | omega | (simp; omega) | simp) ?_; intro B5 c5 w5 hown5 hgr5; have O5 := Lib.hid (show w5.ownsRow w2.heap.size 91 2 (.slice B5 n c5) n (markVals R.tombs) by simpa using hown5); have C5 := Lib.hid (show Below w2.heap.size w2 w5 from grown_d1 (by exact hgr5)); have K5 : w5.cell? ⟨p, 3, none⟩ = some (.slice B n c) := (C5.out.cell (p := ⟨p, 3, none⟩) hrl).trans cc; have y1 : w5.cell? ⟨w.heap.size, 1, none⟩ = some (encStr v.key) := (C5.out.cell (p := ⟨w.heap.size, 1, none⟩) hnb2).trans q1; have y2 : w5.cell? ⟨w.heap.size, 2, none⟩ = some (.int .i64 v.gen) := (C5.out.cell (p := ⟨w.heap.size, 2, none⟩) hnb2).trans q2; clear hown5 hgr5) | (refine step_append_any _ rfl (.tmp 143) (.tmp 147) 52 rfl w2.heap.size 91 i0 _ 2 24 Tryz.underlying52 hi0 hz0 hz1 hz2 rfl (by omega) (.slice (some ⟨w2.heap.size, 0, none⟩) 0 0) 0 [] rfl (by exact own_d2 w2 _ 2 _) B n c (markVals R.tombs) rfl (by rw [markVals_len, HRN.out]) HBN.out (by exact SRB.out _ (below_a2 w2 _ _)) (markVals_one _) (by simp only [maxLen]; omega) (by omega) (by first | omega | (simp; omega) | simp) ?_; intro B5 c5 w5 hown5 hgr5; have O5 := Lib.hid (show w5.ownsRow w2.heap.size 91 2 (.slice B5 n c5) n (markVals R.tombs) by simpa using hown5); have C5 := Lib.hid (show Below w2.heap.size w2 w5 from grown_d2 (by exact hgr5)); have K5 : w5.cell? ⟨p, 3, none⟩ = some (.slice B n c) := (C5.out.cell (p := ⟨p, 3, none⟩) hrl).trans cc; have y1 : w5.cell? ⟨w.heap.size, 1, none⟩ = some (encStr v.key) := (C5.out.cell (p := ⟨w.heap.size, 1, none⟩) hnb2).trans q1; have y2 : w5.cell? ⟨w.heap.size, 2, none⟩ = some (.int .i64 v.gen) := (C5.out.cell (p := ⟨w.heap.size, 2, none⟩) hnb2).trans q2; have KS := Lib.hid (show SrcAt w5 (some ⟨w2.heap.size + 1, 0, none⟩) 1 [encStr v.key, .int .i64 v.gen] from src_k2 (cs := [encStr v.key, .int .i64 v.gen]) (m := 1) (by exact hgr5)); clear hown5 hgr5) | (refine step_append_any _ rfl (.tmp 143) (.tmp 147) 52 rfl w2.heap.size 91 i0 _ 2 24 Tryz.underlying52 hi0 hz0 hz1 hz2 rfl (by omega) (.slice (some ⟨w2.heap.size + 1, 0, none⟩) 0 0) 0 [] rfl (by exact own_d3 w2 _ 2 _) B n c (markVals R.tombs) rfl (by rw [markVals_len, HRN.out]) HBN.out (by exact SRB.out _ (below_a2 w2 _ _)) (markVals_one _) (by simp only [maxLen]; omega) (by omega) (by first | omega | (simp; omega) | simp) ?_; intro B5 c5 w5 hown5 hgr5; have O5 := Lib.hid (show w5.ownsRow w2.heap.size 91 2 (.slice B5 n c5) n (markVals R.tombs) by simpa using hown5); have C5 := Lib.hid (show Below w2.heap.size w2 w5 from grown_d3 (by exact hgr5)); have K5 : w5.cell? ⟨p, 3, none⟩ = some (.slice B n c) := (C5.out.cell (p := ⟨p, 3, none⟩) hrl).trans cc; have y1 : w5.cell? ⟨w.heap.size, 1, none⟩ = some (encStr v.key) := (C5.out.cell (p := ⟨w.heap.size, 1, none⟩) hnb2).trans q1; have y2 : w5.cell? ⟨w.heap.size, 2, none⟩ = some (.int .i64 v.gen) := (C5.out.cell (p := ⟨w.heap.size, 2, none⟩) hnb2).trans q2; have KS := Lib.hid (show SrcAt w5 (some ⟨w2.heap.size, 0, none⟩) 1 [encStr v.key, .int .i64 v.gen] from src_k3 (cs := [encStr v.key, .int .i64 v.gen]) (m := 1) (by exact hgr5)); clear hown5 hgr5)
                      clear hHeld
                      refine hK.out _ _ ⟨y1, y2⟩ (fun hHeld => ?_)
                      clear hK K
                      refine wpAnyH_ready (rs := [12]) (by kernel_rfl) (by simp) ?_
                      refine AllReadyH.cons rfl (fun K hK => ?_) AllReadyH.nil
                      go_simp
                      clear hHeld
                      refine hK.out _ _ (by (try dsimp only); go_keep) (fun hHeld => ?_)
                      clear hK K
                      refine wpAnyH_ready (rs := [13]) (by kernel_rfl) (by simp) ?_
                      refine AllReadyH.cons rfl (fun K hK => ?_) AllReadyH.nil
                      first | (refine step_append_any _ rfl (.tmp 148) (.tmp 154) 52 rfl w2.heap.size 91 i0 _ 2 24 Tryz.underlying52 hi0 hz0 hz1 hz2 rfl (by omega) (.slice B5 n c5) n (markVals R.tombs) (by first | rfl | (show Value.slice B5 (0 + n) c5 = Value.slice B5 n c5; rw [Nat.zero_add])) (by exact O5.out.alloc _) (some ⟨w5.heap.size, 0, none⟩) 1 1 [encStr v.key, .int .i64 v.gen] rfl rfl (fun e => by cases e) (by exact src_new _ _ _ _) (by intro u hu; simp only [List.mem_cons, List.not_mem_nil, or_false] at hu; rcases hu with rfl | rfl <;> rfl) (by simp only [maxLen]; omega) (by omega) (C5.out.alloc C5.out.size _).size ?_; intro B6 c6 w6 hown6 hgr6; have O6 := Lib.hid hown6; have C6 := Lib.hid (show Below w2.heap.size w2 w6 from (C5.out.alloc C5.out.size _).grown (by exact hgr6) (C5.out.alloc C5.out.size _).size (fun y hy => (O5.out.lt y hy).1)); have K6 : w6.cell? ⟨p, 3, none⟩ = some (.slice B n c) := (C6.out.cell (p := ⟨p, 3, none⟩) hrl).trans cc; have f6 : w6.frozen? ⟨p, 3, none⟩ = false := (RR.out.blk.below C6.out hrl).free 3; have z1 : w6.cell? ⟨w.heap.size, 1, none⟩ = some (encStr v.key) := (C6.out.cell (p := ⟨w.heap.size, 1, none⟩) hnb2).trans q1; have z2 : w6.cell? ⟨w.heap.size, 2, none⟩ = some (.int .i64 v.gen) := (C6.out.cell (p := ⟨w.heap.size, 2, none⟩) hnb2).trans q2; clear hown6 hgr6) | (refine step_append_any _ rfl (.tmp 148) (.tmp 154) 52 rfl w2.heap.size 91 i0 _ 2 24 Tryz.underlying52 hi0 hz0 hz1 hz2 rfl (by omega) (.slice B5 n c5) n (markVals R.tombs) (by first | rfl | (show Value.slice B5 (0 + n) c5 = Value.slice B5 n c5; rw [Nat.zero_add])) (by exact O5.out) (some ⟨w2.heap.size + 1, 0, none⟩) 1 1 [encStr v.key, .int .i64 v.gen] rfl rfl (fun e => by cases e) (by exact KS.out) (by intro u hu; simp only [List.mem_cons, List.not_mem_nil, or_false] at hu; rcases hu with rfl | rfl <;> rfl) (by simp only [maxLen]; omega) (by omega) (C5.out).size ?_; intro B6 c6 w6 hown6 hgr6; have O6 := Lib.hid hown6; have C6 := Lib.hid (show Below w2.heap.size w2 w6 from (C5.out).grown (by exact hgr6) (C5.out).size (fun y hy => (O5.out.lt y hy).1)); have K6 : w6.cell? ⟨p, 3, none⟩ = some (.slice B n c) := (C6.out.cell (p := ⟨p, 3, none⟩) hrl).trans cc; have f6 : w6.frozen? ⟨p, 3, none⟩ = false := (RR.out.blk.below C6.out hrl).free 3; have z1 : w6.cell? ⟨w.heap.size, 1, none⟩ = some (encStr v.key) := (C6.out.cell (p := ⟨w.heap.size, 1, none⟩) hnb2).trans q1; have z2 : w6.cell? ⟨w.heap.size, 2, none⟩ = some (.int .i64 v.gen) := (C6.out.cell (p := ⟨w.heap.size, 2, none⟩) hnb2).trans q2; clear hown6 hgr6) | (refine step_append_any _ rfl (.tmp 148) (.tmp 154) 52 rfl w2.heap.size 91 i0 _ 2 24 Tryz.underlying52 hi0 hz0 hz1 hz2 rfl (by omega) (.slice B5 n c5) n (markVals R.tombs) (by first | rfl | (show Value.slice B5 (0 + n) c5 = Value.slice B5 n c5; rw [Nat.zero_add])) (by exact O5.out) (some ⟨w2.heap.size, 0, none⟩) 1 1 [encStr v.key, .int .i64 v.gen] rfl rfl (fun e => by cases e) (by exact KS.out) (by intro u hu; simp only [List.mem_cons, List.not_mem_nil, or_false] at hu; rcases hu with rfl | rfl <;> rfl) (by simp only [maxLen]; omega) (by omega) (C5.out).size ?_; intro B6 c6 w6 hown6 hgr6; have O6 := Lib.hid hown6; have C6 := Lib.hid (show Below w2.heap.size w2 w6 from (C5.out).grown (by exact hgr6) (C5.out).size (fun y hy => (O5.out.lt y hy).1)); have K6 : w6.cell? ⟨p, 3, none⟩ = some (.slice B n c) := (C6.out.cell (p := ⟨p, 3, none⟩) hrl).trans cc; have f6 : w6.frozen? ⟨p, 3, none⟩ = false := (RR.out.blk.below C6.out hrl).free 3; have z1 : w6.cell? ⟨w.heap.size, 1, none⟩ = some (encStr v.key) := (C6.out.cell (p := ⟨w.heap.size, 1, none⟩) hnb2).trans q1; have z2 : w6.cell? ⟨w.heap.size, 2, none⟩ = some (.int .i64 v.gen) := (C6.out.cell (p := ⟨w.heap.size, 2, none⟩) hnb2).trans q2; clear hown6 hgr6)
                      clear hHeld
                      refine hK.out _ _ ⟨z1, z2⟩ (fun hHeld => ?_)
                      clear hK K
                      refine tk (i := 14) (v := ?vR25n1b5b1b614) rfl ?hyR25n1b5b1b614 ?restR25n1b5b1b614
                      case hyR25n1b5b1b614 => (intro w hSw; (try dsimp only at hSw); go_simp <;> with_reducible rfl)
                      refine tk (i := 15) (v := ?vR25n1b5b1b615) rfl ?hyR25n1b5b1b615 ?restR25n1b5b1b615
                      case hyR25n1b5b1b615 => (intro w hSw; (try dsimp only at hSw); go_simp <;> with_reducible rfl)
                      refine wpAnyH_ready (rs := [16]) (by kernel_rfl) (by simp) ?_
                      refine AllReadyH.cons rfl (fun K hK => ?_) AllReadyH.nil
                      go_simp
                      clear hHeld
                      refine hK.out _ _ ⟨cell_other z1 hnp, cell_other z2 hnp⟩ (fun hHeld => ?_)
                      clear hK K
                      refine wpAnyH_done (by kernel_rfl) ?_ _
                      go_wp2_with fail
                      go_ret
                      rw [HE.out]
                      have hl : (R.tombs ++ [(v.key, v.gen)]).length = n + 1 := by rw [List.length_append, HRN.out]; rfl
                      have h6 : w6.ownsRow w2.heap.size 91 2 (.slice B6 (n + 1) c6) (R.tombs ++ [(v.key, v.gen)]).length (markVals (R.tombs ++ [(v.key, v.gen)])) := by rw [hl, markVals_app]; exact O6.out
                      exact ⟨rfl, RefPost.of_below B12.out (RR.out.setTombs C6.out h6 (by rw [hl]; have := RR.out.lens; have h2 := HRN.out; omega) (Nat.le_succ _))⟩
                    · go_simp
                      clear hHeld
                      refine hK.out _ _ (by (try dsimp only); go_keep) (fun hHeld => ?_)
                      clear hK K
                      refine wpAnyH_ready (rs := [6]) (by kernel_rfl) (by simp) ?_
                      refine AllReadyH.cons rfl (fun K hK => ?_) AllReadyH.nil
                      first | (refine step_append_any _ rfl (.tmp 143) (.tmp 147) 52 rfl w2.heap.size 91 i0 _ 2 24 Tryz.underlying52 hi0 hz0 hz1 hz2 rfl (by omega) (.slice (some ⟨w2.heap.size, 0, none⟩) 0 0) 0 [] rfl (by exact own_d1 w2 _ 2) B n c (markVals R.tombs) rfl (by rw [markVals_len, HRN.out]) HBN.out (by exact SRB.out _ (below_a1 w2 _)) (markVals_one _) (by simp only [maxLen]; omega) (by omega) (by first | omega | (simp; omega) | simp) ?_; intro B5 c5 w5 hown5 hgr5; have O5 := Lib.hid (show w5.ownsRow w2.heap.size 91 2 (.slice B5 n c5) n (markVals R.tombs) by simpa using hown5); have C5 := Lib.hid (show Below w2.heap.size w2 w5 from grown_d1 (by exact hgr5)); have K5 : w5.cell? ⟨p, 3, none⟩ = some (.slice B n c) := (C5.out.cell (p := ⟨p, 3, none⟩) hrl).trans cc; have y1 : w5.cell? ⟨w.heap.size, 1, none⟩ = some (encStr v.key) := (C5.out.cell (p := ⟨w.heap.size, 1, none⟩) hnb2).trans q1; have y2 : w5.cell? ⟨w.heap.size, 2, none⟩ = some (.int .i64 v.gen) := (C5.out.cell (p := ⟨w.heap.size, 2, none⟩) hnb2).trans q2; clear hown5 hgr5) | (refine step_append_any _ rfl (.tmp 143) (.tmp 147) 52 rfl w2.heap.size 91 i0 _ 2 24 Tryz.underlying52 hi0 hz0 hz1 hz2 rfl (by omega) (.slice (some ⟨w2.heap.size, 0, none⟩) 0 0) 0 [] rfl (by exact own_d2 w2 _ 2 _) B n c (markVals R.tombs) rfl (by rw [markVals_len, HRN.out]) HBN.out (by exact SRB.out _ (below_a2 w2 _ _)) (markVals_one _) (by simp only [maxLen]; omega) (by omega) (by first | omega | (simp; omega) | simp) ?_; intro B5 c5 w5 hown5 hgr5; have O5 := Lib.hid (show w5.ownsRow w2.heap.size 91 2 (.slice B5 n c5) n (markVals R.tombs) by simpa using hown5); have C5 := Lib.hid (show Below w2.heap.size w2 w5 from grown_d2 (by exact hgr5)); have K5 : w5.cell? ⟨p, 3, none⟩ = some (.slice B n c) := (C5.out.cell (p := ⟨p, 3, none⟩) hrl).trans cc; have y1 : w5.cell? ⟨w.heap.size, 1, none⟩ = some (encStr v.key) := (C5.out.cell (p := ⟨w.heap.size, 1, none⟩) hnb2).trans q1; have y2 : w5.cell? ⟨w.heap.size, 2, none⟩ = some (.int .i64 v.gen) := (C5.out.cell (p := ⟨w.heap.size, 2, none⟩) hnb2).trans q2; have KS := Lib.hid (show SrcAt w5 (some ⟨w2.heap.size + 1, 0, none⟩) 1 [encStr v.key, .int .i64 v.gen] from src_k2 (cs := [encStr v.key, .int .i64 v.gen]) (m := 1) (by exact hgr5)); clear hown5 hgr5) | (refine step_append_any _ rfl (.tmp 143) (.tmp 147) 52 rfl w2.heap.size 91 i0 _ 2 24 Tryz.underlying52 hi0 hz0 hz1 hz2 rfl (by omega) (.slice (some ⟨w2.heap.size + 1, 0, none⟩) 0 0) 0 [] rfl (by exact own_d3 w2 _ 2 _) B n c (markVals R.tombs) rfl (by rw [markVals_len, HRN.out]) HBN.out (by exact SRB.out _ (below_a2 w2 _ _)) (markVals_one _) (by simp only [maxLen]; omega) (by omega) (by first | omega | (simp; omega) | simp) ?_; intro B5 c5 w5 hown5 hgr5; have O5 := Lib.hid (show w5.ownsRow w2.heap.size 91 2 (.slice B5 n c5) n (markVals R.tombs) by simpa using hown5); have C5 := Lib.hid (show Below w2.heap.size w2 w5 from grown_d3 (by exact hgr5)); have K5 : w5.cell? ⟨p, 3, none⟩ = some (.slice B n c) := (C5.out.cell (p := ⟨p, 3, none⟩) hrl).trans cc; have y1 : w5.cell? ⟨w.heap.size, 1, none⟩ = some (encStr v.key) := (C5.out.cell (p := ⟨w.heap.size, 1, none⟩) hnb2).trans q1; have y2 : w5.cell? ⟨w.heap.size, 2, none⟩ = some (.int .i64 v.gen) := (C5.out.cell (p := ⟨w.heap.size, 2, none⟩) hnb2).trans q2; have KS := Lib.hid (show SrcAt w5 (some ⟨w2.heap.size, 0, none⟩) 1 [encStr v.key, .int .i64 v.gen] from src_k3 (cs := [encStr v.key, .int .i64 v.gen]) (m := 1) (by exact hgr5)); clear hown5 hgr5)
                      clear hHeld
                      refine hK.out _ _ ⟨y1, y2⟩ (fun hHeld => ?_)
                      clear hK K
                      refine wpAnyH_ready (rs := [13]) (by kernel_rfl) (by simp) ?_
                      refine AllReadyH.cons rfl (fun K hK => ?_) AllReadyH.nil
                      first | (refine step_append_any _ rfl (.tmp 148) (.tmp 154) 52 rfl w2.heap.size 91 i0 _ 2 24 Tryz.underlying52 hi0 hz0 hz1 hz2 rfl (by omega) (.slice B5 n c5) n (markVals R.tombs) (by first | rfl | (show Value.slice B5 (0 + n) c5 = Value.slice B5 n c5; rw [Nat.zero_add])) (by exact O5.out.alloc _) (some ⟨w5.heap.size, 0, none⟩) 1 1 [encStr v.key, .int .i64 v.gen] rfl rfl (fun e => by cases e) (by exact src_new _ _ _ _) (by intro u hu; simp only [List.mem_cons, List.not_mem_nil, or_false] at hu; rcases hu with rfl | rfl <;> rfl) (by simp only [maxLen]; omega) (by omega) (C5.out.alloc C5.out.size _).size ?_; intro B6 c6 w6 hown6 hgr6; have O6 := Lib.hid hown6; have C6 := Lib.hid (show Below w2.heap.size w2 w6 from (C5.out.alloc C5.out.size _).grown (by exact hgr6) (C5.out.alloc C5.out.size _).size (fun y hy => (O5.out.lt y hy).1)); have K6 : w6.cell? ⟨p, 3, none⟩ = some (.slice B n c) := (C6.out.cell (p := ⟨p, 3, none⟩) hrl).trans cc; have f6 : w6.frozen? ⟨p, 3, none⟩ = false := (RR.out.blk.below C6.out hrl).free 3; have z1 : w6.cell? ⟨w.heap.size, 1, none⟩ = some (encStr v.key) := (C6.out.cell (p := ⟨w.heap.size, 1, none⟩) hnb2).trans q1; have z2 : w6.cell? ⟨w.heap.size, 2, none⟩ = some (.int .i64 v.gen) := (C6.out.cell (p := ⟨w.heap.size, 2, none⟩) hnb2).trans q2; clear hown6 hgr6) | (refine step_append_any _ rfl (.tmp 148) (.tmp 154) 52 rfl w2.heap.size 91 i0 _ 2 24 Tryz.underlying52 hi0 hz0 hz1 hz2 rfl (by omega) (.slice B5 n c5) n (markVals R.tombs) (by first | rfl | (show Value.slice B5 (0 + n) c5 = Value.slice B5 n c5; rw [Nat.zero_add])) (by exact O5.out) (some ⟨w2.heap.size + 1, 0, none⟩) 1 1 [encStr v.key, .int .i64 v.gen] rfl rfl (fun e => by cases e) (by exact KS.out) (by intro u hu; simp only [List.mem_cons, List.not_mem_nil, or_false] at hu; rcases hu with rfl | rfl <;> rfl) (by simp only [maxLen]; omega) (by omega) (C5.out).size ?_; intro B6 c6 w6 hown6 hgr6; have O6 := Lib.hid hown6; have C6 := Lib.hid (show Below w2.heap.size w2 w6 from (C5.out).grown (by exact hgr6) (C5.out).size (fun y hy => (O5.out.lt y hy).1)); have K6 : w6.cell? ⟨p, 3, none⟩ = some (.slice B n c) := (C6.out.cell (p := ⟨p, 3, none⟩) hrl).trans cc; have f6 : w6.frozen? ⟨p, 3, none⟩ = false := (RR.out.blk.below C6.out hrl).free 3; have z1 : w6.cell? ⟨w.heap.size, 1, none⟩ = some (encStr v.key) := (C6.out.cell (p := ⟨w.heap.size, 1, none⟩) hnb2).trans q1; have z2 : w6.cell? ⟨w.heap.size, 2, none⟩ = some (.int .i64 v.gen) := (C6.out.cell (p := ⟨w.heap.size, 2, none⟩) hnb2).trans q2; clear hown6 hgr6) | (refine step_append_any _ rfl (.tmp 148) (.tmp 154) 52 rfl w2.heap.size 91 i0 _ 2 24 Tryz.underlying52 hi0 hz0 hz1 hz2 rfl (by omega) (.slice B5 n c5) n (markVals R.tombs) (by first | rfl | (show Value.slice B5 (0 + n) c5 = Value.slice B5 n c5; rw [Nat.zero_add])) (by exact O5.out) (some ⟨w2.heap.size, 0, none⟩) 1 1 [encStr v.key, .int .i64 v.gen] rfl rfl (fun e => by cases e) (by exact KS.out) (by intro u hu; simp only [List.mem_cons, List.not_mem_nil, or_false] at hu; rcases hu with rfl | rfl <;> rfl) (by simp only [maxLen]; omega) (by omega) (C5.out).size ?_; intro B6 c6 w6 hown6 hgr6; have O6 := Lib.hid hown6; have C6 := Lib.hid (show Below w2.heap.size w2 w6 from (C5.out).grown (by exact hgr6) (C5.out).size (fun y hy => (O5.out.lt y hy).1)); have K6 : w6.cell? ⟨p, 3, none⟩ = some (.slice B n c) := (C6.out.cell (p := ⟨p, 3, none⟩) hrl).trans cc; have f6 : w6.frozen? ⟨p, 3, none⟩ = false := (RR.out.blk.below C6.out hrl).free 3; have z1 : w6.cell? ⟨w.heap.size, 1, none⟩ = some (encStr v.key) := (C6.out.cell (p := ⟨w.heap.size, 1, none⟩) hnb2).trans q1; have z2 : w6.cell? ⟨w.heap.size, 2, none⟩ = some (.int .i64 v.gen) := (C6.out.cell (p := ⟨w.heap.size, 2, none⟩) hnb2).trans q2; clear hown6 hgr6)
                      clear hHeld
                      refine hK.out _ _ ⟨z1, z2⟩ (fun hHeld => ?_)
                      clear hK K
                      refine tk (i := 14) (v := ?vR25n1b5b1b1214) rfl ?hyR25n1b5b1b1214 ?restR25n1b5b1b1214
                      case hyR25n1b5b1b1214 => (intro w hSw; (try dsimp only at hSw); go_simp <;> with_reducible rfl)
                      refine tk (i := 15) (v := ?vR25n1b5b1b1215) rfl ?hyR25n1b5b1b1215 ?restR25n1b5b1b1215
                      case hyR25n1b5b1b1215 => (intro w hSw; (try dsimp only at hSw); go_simp <;> with_reducible rfl)
                      refine wpAnyH_ready (rs := [16]) (by kernel_rfl) (by simp) ?_
                      refine AllReadyH.cons rfl (fun K hK => ?_) AllReadyH.nil
                      go_simp
                      clear hHeld
                      refine hK.out _ _ ⟨cell_other z1 hnp, cell_other z2 hnp⟩ (fun hHeld => ?_)
                      clear hK K
                      refine wpAnyH_done (by kernel_rfl) ?_ _
                      go_wp2_with fail
                      go_ret
                      rw [HE.out]
                      have hl : (R.tombs ++ [(v.key, v.gen)]).length = n + 1 := by rw [List.length_append, HRN.out]; rfl
                      have h6 : w6.ownsRow w2.heap.size 91 2 (.slice B6 (n + 1) c6) (R.tombs ++ [(v.key, v.gen)]).length (markVals (R.tombs ++ [(v.key, v.gen)])) := by rw [hl, markVals_app]; exact O6.out
                      exact ⟨rfl, RefPost.of_below B12.out (RR.out.setTombs C6.out h6 (by rw [hl]; have := RR.out.lens; have h2 := HRN.out; omega) (Nat.le_succ _))⟩
                  · go_simp
                    clear hHeld
                    refine hK.out _ _ (by (try dsimp only); go_keep) (fun hHeld => ?_)
                    clear hK K
                    refine wpAnyH_ready (rs := [1]) (by kernel_rfl) (by simp) ?_
                    refine AllReadyH.cons rfl (fun K hK => ?_) AllReadyH.nil
                    go_simp
                    clear hHeld
                    refine hK.out _ _ (by (try dsimp only); go_keep) (fun hHeld => ?_)
                    clear hK K
                    refine wpAnyH_ready (rs := [6]) (by kernel_rfl) (by simp) ?_
                    refine AllReadyH.cons rfl (fun K hK => ?_) AllReadyH.nil
                    first | (refine step_append_any _ rfl (.tmp 143) (.tmp 147) 52 rfl w2.heap.size 91 i0 _ 2 24 Tryz.underlying52 hi0 hz0 hz1 hz2 rfl (by omega) (.slice (some ⟨w2.heap.size, 0, none⟩) 0 0) 0 [] rfl (by exact own_d1 w2 _ 2) B n c (markVals R.tombs) rfl (by rw [markVals_len, HRN.out]) HBN.out (by exact SRB.out _ (below_a1 w2 _)) (markVals_one _) (by simp only [maxLen]; omega) (by omega) (by first | omega | (simp; omega) | simp) ?_; intro B5 c5 w5 hown5 hgr5; have O5 := Lib.hid (show w5.ownsRow w2.heap.size 91 2 (.slice B5 n c5) n (markVals R.tombs) by simpa using hown5); have C5 := Lib.hid (show Below w2.heap.size w2 w5 from grown_d1 (by exact hgr5)); have K5 : w5.cell? ⟨p, 3, none⟩ = some (.slice B n c) := (C5.out.cell (p := ⟨p, 3, none⟩) hrl).trans cc; have y1 : w5.cell? ⟨w.heap.size, 1, none⟩ = some (encStr v.key) := (C5.out.cell (p := ⟨w.heap.size, 1, none⟩) hnb2).trans q1; have y2 : w5.cell? ⟨w.heap.size, 2, none⟩ = some (.int .i64 v.gen) := (C5.out.cell (p := ⟨w.heap.size, 2, none⟩) hnb2).trans q2; clear hown5 hgr5) | (refine step_append_any _ rfl (.tmp 143) (.tmp 147) 52 rfl w2.heap.size 91 i0 _ 2 24 Tryz.underlying52 hi0 hz0 hz1 hz2 rfl (by omega) (.slice (some ⟨w2.heap.size, 0, none⟩) 0 0) 0 [] rfl (by exact own_d2 w2 _ 2 _) B n c (markVals R.tombs) rfl (by rw [markVals_len, HRN.out]) HBN.out (by exact SRB.out _ (below_a2 w2 _ _)) (markVals_one _) (by simp only [maxLen]; omega) (by omega) (by first | omega | (simp; omega) | simp) ?_; intro B5 c5 w5 hown5 hgr5; have O5 := Lib.hid (show w5.ownsRow w2.heap.size 91 2 (.slice B5 n c5) n (markVals R.tombs) by simpa using hown5); have C5 := Lib.hid (show Below w2.heap.size w2 w5 from grown_d2 (by exact hgr5)); have K5 : w5.cell? ⟨p, 3, none⟩ = some (.slice B n c) := (C5.out.cell (p := ⟨p, 3, none⟩) hrl).trans cc; have y1 : w5.cell? ⟨w.heap.size, 1, none⟩ = some (encStr v.key) := (C5.out.cell (p := ⟨w.heap.size, 1, none⟩) hnb2).trans q1; have y2 : w5.cell? ⟨w.heap.size, 2, none⟩ = some (.int .i64 v.gen) := (C5.out.cell (p := ⟨w.heap.size, 2, none⟩) hnb2).trans q2; have KS := Lib.hid (show SrcAt w5 (some ⟨w2.heap.size + 1, 0, none⟩) 1 [encStr v.key, .int .i64 v.gen] from src_k2 (cs := [encStr v.key, .int .i64 v.gen]) (m := 1) (by exact hgr5)); clear hown5 hgr5) | (refine step_append_any _ rfl (.tmp 143) (.tmp 147) 52 rfl w2.heap.size 91 i0 _ 2 24 Tryz.underlying52 hi0 hz0 hz1 hz2 rfl (by omega) (.slice (some ⟨w2.heap.size + 1, 0, none⟩) 0 0) 0 [] rfl (by exact own_d3 w2 _ 2 _) B n c (markVals R.tombs) rfl (by rw [markVals_len, HRN.out]) HBN.out (by exact SRB.out _ (below_a2 w2 _ _)) (markVals_one _) (by simp only [maxLen]; omega) (by omega) (by first | omega | (simp; omega) | simp) ?_; intro B5 c5 w5 hown5 hgr5; have O5 := Lib.hid (show w5.ownsRow w2.heap.size 91 2 (.slice B5 n c5) n (markVals R.tombs) by simpa using hown5); have C5 := Lib.hid (show Below w2.heap.size w2 w5 from grown_d3 (by exact hgr5)); have K5 : w5.cell? ⟨p, 3, none⟩ = some (.slice B n c) := (C5.out.cell (p := ⟨p, 3, none⟩) hrl).trans cc; have y1 : w5.cell? ⟨w.heap.size, 1, none⟩ = some (encStr v.key) := (C5.out.cell (p := ⟨w.heap.size, 1, none⟩) hnb2).trans q1; have y2 : w5.cell? ⟨w.heap.size, 2, none⟩ = some (.int .i64 v.gen) := (C5.out.cell (p := ⟨w.heap.size, 2, none⟩) hnb2).trans q2; have KS := Lib.hid (show SrcAt w5 (some ⟨w2.heap.size, 0, none⟩) 1 [encStr v.key, .int .i64 v.gen] from src_k3 (cs := [encStr v.key, .int .i64 v.gen]) (m := 1) (by exact hgr5)); clear hown5 hgr5)
                    clear hHeld
                    refine hK.out _ _ ⟨y1, y2⟩ (fun hHeld => ?_)
                    clear hK K
                    refine wpAnyH_ready (rs := [13]) (by kernel_rfl) (by simp) ?_
                    refine AllReadyH.cons rfl (fun K hK => ?_) AllReadyH.nil
                    first | (refine step_append_any _ rfl (.tmp 148) (.tmp 154) 52 rfl w2.heap.size 91 i0 _ 2 24 Tryz.underlying52 hi0 hz0 hz1 hz2 rfl (by omega) (.slice B5 n c5) n (markVals R.tombs) (by first | rfl | (show Value.slice B5 (0 + n) c5 = Value.slice B5 n c5; rw [Nat.zero_add])) (by exact O5.out.alloc _) (some ⟨w5.heap.size, 0, none⟩) 1 1 [encStr v.key, .int .i64 v.gen] rfl rfl (fun e => by cases e) (by exact src_new _ _ _ _) (by intro u hu; simp only [List.mem_cons, List.not_mem_nil, or_false] at hu; rcases hu with rfl | rfl <;> rfl) (by simp only [maxLen]; omega) (by omega) (C5.out.alloc C5.out.size _).size ?_; intro B6 c6 w6 hown6 hgr6; have O6 := Lib.hid hown6; have C6 := Lib.hid (show Below w2.heap.size w2 w6 from (C5.out.alloc C5.out.size _).grown (by exact hgr6) (C5.out.alloc C5.out.size _).size (fun y hy => (O5.out.lt y hy).1)); have K6 : w6.cell? ⟨p, 3, none⟩ = some (.slice B n c) := (C6.out.cell (p := ⟨p, 3, none⟩) hrl).trans cc; have f6 : w6.frozen? ⟨p, 3, none⟩ = false := (RR.out.blk.below C6.out hrl).free 3; have z1 : w6.cell? ⟨w.heap.size, 1, none⟩ = some (encStr v.key) := (C6.out.cell (p := ⟨w.heap.size, 1, none⟩) hnb2).trans q1; have z2 : w6.cell? ⟨w.heap.size, 2, none⟩ = some (.int .i64 v.gen) := (C6.out.cell (p := ⟨w.heap.size, 2, none⟩) hnb2).trans q2; clear hown6 hgr6) | (refine step_append_any _ rfl (.tmp 148) (.tmp 154) 52 rfl w2.heap.size 91 i0 _ 2 24 Tryz.underlying52 hi0 hz0 hz1 hz2 rfl (by omega) (.slice B5 n c5) n (markVals R.tombs) (by first | rfl | (show Value.slice B5 (0 + n) c5 = Value.slice B5 n c5; rw [Nat.zero_add])) (by exact O5.out) (some ⟨w2.heap.size + 1, 0, none⟩) 1 1 [encStr v.key, .int .i64 v.gen] rfl rfl (fun e => by cases e) (by exact KS.out) (by intro u hu; simp only [List.mem_cons, List.not_mem_nil, or_false] at hu; rcases hu with rfl | rfl <;> rfl) (by simp only [maxLen]; omega) (by omega) (C5.out).size ?_; intro B6 c6 w6 hown6 hgr6; have O6 := Lib.hid hown6; have C6 := Lib.hid (show Below w2.heap.size w2 w6 from (C5.out).grown (by exact hgr6) (C5.out).size (fun y hy => (O5.out.lt y hy).1)); have K6 : w6.cell? ⟨p, 3, none⟩ = some (.slice B n c) := (C6.out.cell (p := ⟨p, 3, none⟩) hrl).trans cc; have f6 : w6.frozen? ⟨p, 3, none⟩ = false := (RR.out.blk.below C6.out hrl).free 3; have z1 : w6.cell? ⟨w.heap.size, 1, none⟩ = some (encStr v.key) := (C6.out.cell (p := ⟨w.heap.size, 1, none⟩) hnb2).trans q1; have z2 : w6.cell? ⟨w.heap.size, 2, none⟩ = some (.int .i64 v.gen) := (C6.out.cell (p := ⟨w.heap.size, 2, none⟩) hnb2).trans q2; clear hown6 hgr6) | (refine step_append_any _ rfl (.tmp 148) (.tmp 154) 52 rfl w2.heap.size 91 i0 _ 2 24 Tryz.underlying52 hi0 hz0 hz1 hz2 rfl (by omega) (.slice B5 n c5) n (markVals R.tombs) (by first | rfl | (show Value.slice B5 (0 + n) c5 = Value.slice B5 n c5; rw [Nat.zero_add])) (by exact O5.out) (some ⟨w2.heap.size, 0, none⟩) 1 1 [encStr v.key, .int .i64 v.gen] rfl rfl (fun e => by cases e) (by exact KS.out) (by intro u hu; simp only [List.mem_cons, List.not_mem_nil, or_false] at hu; rcases hu with rfl | rfl <;> rfl) (by simp only [maxLen]; omega) (by omega) (C5.out).size ?_; intro B6 c6 w6 hown6 hgr6; have O6 := Lib.hid hown6; have C6 := Lib.hid (show Below w2.heap.size w2 w6 from (C5.out).grown (by exact hgr6) (C5.out).size (fun y hy => (O5.out.lt y hy).1)); have K6 : w6.cell? ⟨p, 3, none⟩ = some (.slice B n c) := (C6.out.cell (p := ⟨p, 3, none⟩) hrl).trans cc; have f6 : w6.frozen? ⟨p, 3, none⟩ = false := (RR.out.blk.below C6.out hrl).free 3; have z1 : w6.cell? ⟨w.heap.size, 1, none⟩ = some (encStr v.key) := (C6.out.cell (p := ⟨w.heap.size, 1, none⟩) hnb2).trans q1; have z2 : w6.cell? ⟨w.heap.size, 2, none⟩ = some (.int .i64 v.gen) := (C6.out.cell (p := ⟨w.heap.size, 2, none⟩) hnb2).trans q2; clear hown6 hgr6)
                    clear hHeld
                    refine hK.out _ _ ⟨z1, z2⟩ (fun hHeld => ?_)
                    clear hK K
                    refine tk (i := 14) (v := ?vR25n1b5b1214) rfl ?hyR25n1b5b1214 ?restR25n1b5b1214
                    case hyR25n1b5b1214 => (intro w hSw; (try dsimp only at hSw); go_simp <;> with_reducible rfl)
                    refine tk (i := 15) (v := ?vR25n1b5b1215) rfl ?hyR25n1b5b1215 ?restR25n1b5b1215
                    case hyR25n1b5b1215 => (intro w hSw; (try dsimp only at hSw); go_simp <;> with_reducible rfl)
                    refine wpAnyH_ready (rs := [16]) (by kernel_rfl) (by simp) ?_
                    refine AllReadyH.cons rfl (fun K hK => ?_) AllReadyH.nil
                    go_simp
                    clear hHeld
                    refine hK.out _ _ ⟨cell_other z1 hnp, cell_other z2 hnp⟩ (fun hHeld => ?_)
                    clear hK K
                    refine wpAnyH_done (by kernel_rfl) ?_ _
                    go_wp2_with fail
                    go_ret
                    rw [HE.out]
                    have hl : (R.tombs ++ [(v.key, v.gen)]).length = n + 1 := by rw [List.length_append, HRN.out]; rfl
                    have h6 : w6.ownsRow w2.heap.size 91 2 (.slice B6 (n + 1) c6) (R.tombs ++ [(v.key, v.gen)]).length (markVals (R.tombs ++ [(v.key, v.gen)])) := by rw [hl, markVals_app]; exact O6.out
                    exact ⟨rfl, RefPost.of_below B12.out (RR.out.setTombs C6.out h6 (by rw [hl]; have := RR.out.lens; have h2 := HRN.out; omega) (Nat.le_succ _))⟩
                · go_simp
                  clear hHeld
                  refine hK.out _ _ (by (try dsimp only); go_keep) (fun hHeld => ?_)
                  clear hK K
                  refine wpAnyH_ready (rs := [1, 5]) (by kernel_rfl) (by simp) ?_
                  refine AllReadyH.cons rfl (fun K hK => ?_) (AllReadyH.cons rfl (fun K hK => ?_) AllReadyH.nil)
                  · go_simp
                    clear hHeld
                    refine hK.out _ _ (by (try dsimp only); go_keep) (fun hHeld => ?_)
                    clear hK K
                    refine wpAnyH_ready (rs := [5]) (by kernel_rfl) (by simp) ?_
                    refine AllReadyH.cons rfl (fun K hK => ?_) AllReadyH.nil
                    go_simp
                    refine hK.out _ _ hHeld (fun hHeld => ?_)
                    clear hK K
                    refine wpAnyH_ready (rs := [6]) (by kernel_rfl) (by simp) ?_
                    refine AllReadyH.cons rfl (fun K hK => ?_) AllReadyH.nil
                    first | (refine step_append_any _ rfl (.tmp 143) (.tmp 147) 52 rfl w2.heap.size 91 i0 _ 2 24 Tryz.underlying52 hi0 hz0 hz1 hz2 rfl (by omega) (.slice (some ⟨w2.heap.size, 0, none⟩) 0 0) 0 [] rfl (by exact own_d1 w2 _ 2) B n c (markVals R.tombs) rfl (by rw [markVals_len, HRN.out]) HBN.out (by exact SRB.out _ (below_a1 w2 _)) (markVals_one _) (by simp only [maxLen]; omega) (by omega) (by first | omega | (simp; omega) | simp) ?_; intro B5 c5 w5 hown5 hgr5; have O5 := Lib.hid (show w5.ownsRow w2.heap.size 91 2 (.slice B5 n c5) n (markVals R.tombs) by simpa using hown5); have C5 := Lib.hid (show Below w2.heap.size w2 w5 from grown_d1 (by exact hgr5)); have K5 : w5.cell? ⟨p, 3, none⟩ = some (.slice B n c) := (C5.out.cell (p := ⟨p, 3, none⟩) hrl).trans cc; have y1 : w5.cell? ⟨w.heap.size, 1, none⟩ = some (encStr v.key) := (C5.out.cell (p := ⟨w.heap.size, 1, none⟩) hnb2).trans q1; have y2 : w5.cell? ⟨w.heap.size, 2, none⟩ = some (.int .i64 v.gen) := (C5.out.cell (p := ⟨w.heap.size, 2, none⟩) hnb2).trans q2; clear hown5 hgr5) | (refine step_append_any _ rfl (.tmp 143) (.tmp 147) 52 rfl w2.heap.size 91 i0 _ 2 24 Tryz.underlying52 hi0 hz0 hz1 hz2 rfl (by omega) (.slice (some ⟨w2.heap.size, 0, none⟩) 0 0) 0 [] rfl (by exact own_d2 w2 _ 2 _) B n c (markVals R.tombs) rfl (by rw [markVals_len, HRN.out]) HBN.out (by exact SRB.out _ (below_a2 w2 _ _)) (markVals_one _) (by simp only [maxLen]; omega) (by omega) (by first | omega | (simp; omega) | simp) ?_; intro B5 c5 w5 hown5 hgr5; have O5 := Lib.hid (show w5.ownsRow w2.heap.size 91 2 (.slice B5 n c5) n (markVals R.tombs) by simpa using hown5); have C5 := Lib.hid (show Below w2.heap.size w2 w5 from grown_d2 (by exact hgr5)); have K5 : w5.cell? ⟨p, 3, none⟩ = some (.slice B n c) := (C5.out.cell (p := ⟨p, 3, none⟩) hrl).trans cc; have y1 : w5.cell? ⟨w.heap.size, 1, none⟩ = some (encStr v.key) := (C5.out.cell (p := ⟨w.heap.size, 1, none⟩) hnb2).trans q1; have y2 : w5.cell? ⟨w.heap.size, 2, none⟩ = some (.int .i64 v.gen) := (C5.out.cell (p := ⟨w.heap.size, 2, none⟩) hnb2).trans q2; have KS := Lib.hid (show SrcAt w5 (some ⟨w2.heap.size + 1, 0, none⟩) 1 [encStr v.key, .int .i64 v.gen] from src_k2 (cs := [encStr v.key, .int .i64 v.gen]) (m := 1) (by exact hgr5)); clear hown5 hgr5) | (refine step_append_any _ rfl (.tmp 143) (.tmp 147) 52 rfl w2.heap.size 91 i0 _ 2 24 Tryz.underlying52 hi0 hz0 hz1 hz2 rfl (by omega) (.slice (some ⟨w2.heap.size + 1, 0, none⟩) 0 0) 0 [] rfl (by exact own_d3 w2 _ 2 _) B n c (markVals R.tombs) rfl (by rw [markVals_len, HRN.out]) HBN.out (by exact SRB.out _ (below_a2 w2 _ _)) (markVals_one _) (by simp only [maxLen]; omega) (by omega) (by first | omega | (simp; omega) | simp) ?_; intro B5 c5 w5 hown5 hgr5; have O5 := Lib.hid (show w5.ownsRow w2.heap.size 91 2 (.slice B5 n c5) n (markVals R.tombs) by simpa using hown5); have C5 := Lib.hid (show Below w2.heap.size w2 w5 from grown_d3 (by exact hgr5)); have K5 : w5.cell? ⟨p, 3, none⟩ = some (.slice B n c) := (C5.out.cell (p := ⟨p, 3, none⟩) hrl).trans cc; have y1 : w5.cell? ⟨w.heap.size, 1, none⟩ = some (encStr v.key) := (C5.out.cell (p := ⟨w.heap.size, 1, none⟩) hnb2).trans q1; have y2 : w5.cell? ⟨w.heap.size, 2, none⟩ = some (.int .i64 v.gen) := (C5.out.cell (p := ⟨w.heap.size, 2, none⟩) hnb2).trans q2; have KS := Lib.hid (show SrcAt w5 (some ⟨w2.heap.size, 0, none⟩) 1 [encStr v.key, .int .i64 v.gen] from src_k3 (cs := [encStr v.key, .int .i64 v.gen]) (m := 1) (by exact hgr5)); clear hown5 hgr5)
                    clear hHeld
                    refine hK.out _ _ ⟨y1, y2⟩ (fun hHeld => ?_)
                    clear hK K
                    refine wpAnyH_ready (rs := [13]) (by kernel_rfl) (by simp) ?_
                    refine AllReadyH.cons rfl (fun K hK => ?_) AllReadyH.nil
                    first | (refine step_append_any _ rfl (.tmp 148) (.tmp 154) 52 rfl w2.heap.size 91 i0 _ 2 24 Tryz.underlying52 hi0 hz0 hz1 hz2 rfl (by omega) (.slice B5 n c5) n (markVals R.tombs) (by first | rfl | (show Value.slice B5 (0 + n) c5 = Value.slice B5 n c5; rw [Nat.zero_add])) (by exact O5.out.alloc _) (some ⟨w5.heap.size, 0, none⟩) 1 1 [encStr v.key, .int .i64 v.gen] rfl rfl (fun e => by cases e) (by exact src_new _ _ _ _) (by intro u hu; simp only [List.mem_cons, List.not_mem_nil, or_false] at hu; rcases hu with rfl | rfl <;> rfl) (by simp only [maxLen]; omega) (by omega) (C5.out.alloc C5.out.size _).size ?_; intro B6 c6 w6 hown6 hgr6; have O6 := Lib.hid hown6; have C6 := Lib.hid (show Below w2.heap.size w2 w6 from (C5.out.alloc C5.out.size _).grown (by exact hgr6) (C5.out.alloc C5.out.size _).size (fun y hy => (O5.out.lt y hy).1)); have K6 : w6.cell? ⟨p, 3, none⟩ = some (.slice B n c) := (C6.out.cell (p := ⟨p, 3, none⟩) hrl).trans cc; have f6 : w6.frozen? ⟨p, 3, none⟩ = false := (RR.out.blk.below C6.out hrl).free 3; have z1 : w6.cell? ⟨w.heap.size, 1, none⟩ = some (encStr v.key) := (C6.out.cell (p := ⟨w.heap.size, 1, none⟩) hnb2).trans q1; have z2 : w6.cell? ⟨w.heap.size, 2, none⟩ = some (.int .i64 v.gen) := (C6.out.cell (p := ⟨w.heap.size, 2, none⟩) hnb2).trans q2; clear hown6 hgr6) | (refine step_append_any _ rfl (.tmp 148) (.tmp 154) 52 rfl w2.heap.size 91 i0 _ 2 24 Tryz.underlying52 hi0 hz0 hz1 hz2 rfl (by omega) (.slice B5 n c5) n (markVals R.tombs) (by first | rfl | (show Value.slice B5 (0 + n) c5 = Value.slice B5 n c5; rw [Nat.zero_add])) (by exact O5.out) (some ⟨w2.heap.size + 1, 0, none⟩) 1 1 [encStr v.key, .int .i64 v.gen] rfl rfl (fun e => by cases e) (by exact KS.out) (by intro u hu; simp only [List.mem_cons, List.not_mem_nil, or_false] at hu; rcases hu with rfl | rfl <;> rfl) (by simp only [maxLen]; omega) (by omega) (C5.out).size ?_; intro B6 c6 w6 hown6 hgr6; have O6 := Lib.hid hown6; have C6 := Lib.hid (show Below w2.heap.size w2 w6 from (C5.out).grown (by exact hgr6) (C5.out).size (fun y hy => (O5.out.lt y hy).1)); have K6 : w6.cell? ⟨p, 3, none⟩ = some (.slice B n c) := (C6.out.cell (p := ⟨p, 3, none⟩) hrl).trans cc; have f6 : w6.frozen? ⟨p, 3, none⟩ = false := (RR.out.blk.below C6.out hrl).free 3; have z1 : w6.cell? ⟨w.heap.size, 1, none⟩ = some (encStr v.key) := (C6.out.cell (p := ⟨w.heap.size, 1, none⟩) hnb2).trans q1; have z2 : w6.cell? ⟨w.heap.size, 2, none⟩ = some (.int .i64 v.gen) := (C6.out.cell (p := ⟨w.heap.size, 2, none⟩) hnb2).trans q2; clear hown6 hgr6) | (refine step_append_any _ rfl (.tmp 148) (.tmp 154) 52 rfl w2.heap.size 91 i0 _ 2 24 Tryz.underlying52 hi0 hz0 hz1 hz2 rfl (by omega) (.slice B5 n c5) n (markVals R.tombs) (by first | rfl | (show Value.slice B5 (0 + n) c5 = Value.slice B5 n c5; rw [Nat.zero_add])) (by exact O5.out) (some ⟨w2.heap.size, 0, none⟩) 1 1 [encStr v.key, .int .i64 v.gen] rfl rfl (fun e => by cases e) (by exact KS.out) (by intro u hu; simp only [List.mem_cons, List.not_mem_nil, or_false] at hu; rcases hu with rfl | rfl <;> rfl) (by simp only [maxLen]; omega) (by omega) (C5.out).size ?_; intro B6 c6 w6 hown6 hgr6; have O6 := Lib.hid hown6; have C6 := Lib.hid (show Below w2.heap.size w2 w6 from (C5.out).grown (by exact hgr6) (C5.out).size (fun y hy => (O5.out.lt y hy).1)); have K6 : w6.cell? ⟨p, 3, none⟩ = some (.slice B n c) := (C6.out.cell (p := ⟨p, 3, none⟩) hrl).trans cc; have f6 : w6.frozen? ⟨p, 3, none⟩ = false := (RR.out.blk.below C6.out hrl).free 3; have z1 : w6.cell? ⟨w.heap.size, 1, none⟩ = some (encStr v.key) := (C6.out.cell (p := ⟨w.heap.size, 1, none⟩) hnb2).trans q1; have z2 : w6.cell? ⟨w.heap.size, 2, none⟩ = some (.int .i64 v.gen) := (C6.out.cell (p := ⟨w.heap.size, 2, none⟩) hnb2).trans q2; clear hown6 hgr6)
                    clear hHeld
                    refine hK.out _ _ ⟨z1, z2⟩ (fun hHeld => ?_)
                    clear hK K
                    refine tk (i := 14) (v := ?vR25n1b12b114) rfl ?hyR25n1b12b114 ?restR25n1b12b114
                    case hyR25n1b12b114 => (intro w hSw; (try dsimp only at hSw); go_simp <;> with_reducible rfl)
                    refine tk (i := 15) (v := ?vR25n1b12b115) rfl ?hyR25n1b12b115 ?restR25n1b12b115
                    case hyR25n1b12b115 => (intro w hSw; (try dsimp only at hSw); go_simp <;> with_reducible rfl)
                    refine wpAnyH_ready (rs := [16]) (by kernel_rfl) (by simp) ?_
                    refine AllReadyH.cons rfl (fun K hK => ?_) AllReadyH.nil
                    go_simp
                    clear hHeld
                    refine hK.out _ _ ⟨cell_other z1 hnp, cell_other z2 hnp⟩ (fun hHeld => ?_)
                    clear hK K
                    refine wpAnyH_done (by kernel_rfl) ?_ _
                    go_wp2_with fail
                    go_ret
                    rw [HE.out]
                    have hl : (R.tombs ++ [(v.key, v.gen)]).length = n + 1 := by rw [List.length_append, HRN.out]; rfl
                    have h6 : w6.ownsRow w2.heap.size 91 2 (.slice B6 (n + 1) c6) (R.tombs ++ [(v.key, v.gen)]).length (markVals (R.tombs ++ [(v.key, v.gen)])) := by rw [hl, markVals_app]; exact O6.out
                    exact ⟨rfl, RefPost.of_below B12.out (RR.out.setTombs C6.out h6 (by rw [hl]; have := RR.out.lens; have h2 := HRN.out; omega) (Nat.le_succ _))⟩
                  · go_simp
                    refine hK.out _ _ hHeld (fun hHeld => ?_)
                    clear hK K
                    refine wpAnyH_ready (rs := [1]) (by kernel_rfl) (by simp) ?_
                    refine AllReadyH.cons rfl (fun K hK => ?_) AllReadyH.nil
                    go_simp
                    clear hHeld
                    refine hK.out _ _ (by (try dsimp only); go_keep) (fun hHeld => ?_)
                    clear hK K
                    refine wpAnyH_ready (rs := [6]) (by kernel_rfl) (by simp) ?_
                    refine AllReadyH.cons rfl (fun K hK => ?_) AllReadyH.nil
                    first | (refine step_append_any _ rfl (.tmp 143) (.tmp 147) 52 rfl w2.heap.size 91 i0 _ 2 24 Tryz.underlying52 hi0 hz0 hz1 hz2 rfl (by omega) (.slice (some ⟨w2.heap.size, 0, none⟩) 0 0) 0 [] rfl (by exact own_d1 w2 _ 2) B n c (markVals R.tombs) rfl (by rw [markVals_len, HRN.out]) HBN.out (by exact SRB.out _ (below_a1 w2 _)) (markVals_one _) (by simp only [maxLen]; omega) (by omega) (by first | omega | (simp; omega) | simp) ?_; intro B5 c5 w5 hown5 hgr5; have O5 := Lib.hid (show w5.ownsRow w2.heap.size 91 2 (.slice B5 n c5) n (markVals R.tombs) by simpa using hown5); have C5 := Lib.hid (show Below w2.heap.size w2 w5 from grown_d1 (by exact hgr5)); have K5 : w5.cell? ⟨p, 3, none⟩ = some (.slice B n c) := (C5.out.cell (p := ⟨p, 3, none⟩) hrl).trans cc; have y1 : w5.cell? ⟨w.heap.size, 1, none⟩ = some (encStr v.key) := (C5.out.cell (p := ⟨w.heap.size, 1, none⟩) hnb2).trans q1; have y2 : w5.cell? ⟨w.heap.size, 2, none⟩ = some (.int .i64 v.gen) := (C5.out.cell (p := ⟨w.heap.size, 2, none⟩) hnb2).trans q2; clear hown5 hgr5) | (refine step_append_any _ rfl (.tmp 143) (.tmp 147) 52 rfl w2.heap.size 91 i0 _ 2 24 Tryz.underlying52 hi0 hz0 hz1 hz2 rfl (by omega) (.slice (some ⟨w2.heap.size, 0, none⟩) 0 0) 0 [] rfl (by exact own_d2 w2 _ 2 _) B n c (markVals R.tombs) rfl (by rw [markVals_len, HRN.out]) HBN.out (by exact SRB.out _ (below_a2 w2 _ _)) (markVals_one _) (by simp only [maxLen]; omega) (by omega) (by first | omega | (simp; omega) | simp) ?_; intro B5 c5 w5 hown5 hgr5; have O5 := Lib.hid (show w5.ownsRow w2.heap.size 91 2 (.slice B5 n c5) n (markVals R.tombs) by simpa using hown5); have C5 := Lib.hid (show Below w2.heap.size w2 w5 from grown_d2 (by exact hgr5)); have K5 : w5.cell? ⟨p, 3, none⟩ = some (.slice B n c) := (C5.out.cell (p := ⟨p, 3, none⟩) hrl).trans cc; have y1 : w5.cell? ⟨w.heap.size, 1, none⟩ = some (encStr v.key) := (C5.out.cell (p := ⟨w.heap.size, 1, none⟩) hnb2).trans q1; have y2 : w5.cell? ⟨w.heap.size, 2, none⟩ = some (.int .i64 v.gen) := (C5.out.cell (p := ⟨w.heap.size, 2, none⟩) hnb2).trans q2; have KS := Lib.hid (show SrcAt w5 (some ⟨w2.heap.size + 1, 0, none⟩) 1 [encStr v.key, .int .i64 v.gen] from src_k2 (cs := [encStr v.key, .int .i64 v.gen]) (m := 1) (by exact hgr5)); clear hown5 hgr5) | (refine step_append_any _ rfl (.tmp 143) (.tmp 147) 52 rfl w2.heap.size 91 i0 _ 2 24 Tryz.underlying52 hi0 hz0 hz1 hz2 rfl (by omega) (.slice (some ⟨w2.heap.size + 1, 0, none⟩) 0 0) 0 [] rfl (by exact own_d3 w2 _ 2 _) B n c (markVals R.tombs) rfl (by rw [markVals_len, HRN.out]) HBN.out (by exact SRB.out _ (below_a2 w2 _ _)) (markVals_one _) (by simp only [maxLen]; omega) (by omega) (by first | omega | (simp; omega) | simp) ?_; intro B5 c5 w5 hown5 hgr5; have O5 := Lib.hid (show w5.ownsRow w2.heap.size 91 2 (.slice B5 n c5) n (markVals R.tombs) by simpa using hown5); have C5 := Lib.hid (show Below w2.heap.size w2 w5 from grown_d3 (by exact hgr5)); have K5 : w5.cell? ⟨p, 3, none⟩ = some (.slice B n c) := (C5.out.cell (p := ⟨p, 3, none⟩) hrl).trans cc; have y1 : w5.cell? ⟨w.heap.size, 1, none⟩ = some (encStr v.key) := (C5.out.cell (p := ⟨w.heap.size, 1, none⟩) hnb2).trans q1; have y2 : w5.cell? ⟨w.heap.size, 2, none⟩ = some (.int .i64 v.gen) := (C5.out.cell (p := ⟨w.heap.size, 2, none⟩) hnb2).trans q2; have KS := Lib.hid (show SrcAt w5 (some ⟨w2.heap.size, 0, none⟩) 1 [encStr v.key, .int .i64 v.gen] from src_k3 (cs := [encStr v.key, .int .i64 v.gen]) (m := 1) (by exact hgr5)); clear hown5 hgr5)
                    clear hHeld
                    refine hK.out _ _ ⟨y1, y2⟩ (fun hHeld => ?_)
                    clear hK K
                    refine wpAnyH_ready (rs := [13]) (by kernel_rfl) (by simp) ?_
                    refine AllReadyH.cons rfl (fun K hK => ?_) AllReadyH.nil
                    first | (refine step_append_any _ rfl (.tmp 148) (.tmp 154) 52 rfl w2.heap.size 91 i0 _ 2 24 Tryz.underlying52 hi0 hz0 hz1 hz2 rfl (by omega) (.slice B5 n c5) n (markVals R.tombs) (by first | rfl | (show Value.slice B5 (0 + n) c5 = Value.slice B5 n c5; rw [Nat.zero_add])) (by exact O5.out.alloc _) (some ⟨w5.heap.size, 0, none⟩) 1 1 [encStr v.key, .int .i64 v.gen] rfl rfl (fun e => by cases e) (by exact src_new _ _ _ _) (by intro u hu; simp only [List.mem_cons, List.not_mem_nil, or_false] at hu; rcases hu with rfl | rfl <;> rfl) (by simp only [maxLen]; omega) (by omega) (C5.out.alloc C5.out.size _).size ?_; intro B6 c6 w6 hown6 hgr6; have O6 := Lib.hid hown6; have C6 := Lib.hid (show Below w2.heap.size w2 w6 from (C5.out.alloc C5.out.size _).grown (by exact hgr6) (C5.out.alloc C5.out.size _).size (fun y hy => (O5.out.lt y hy).1)); have K6 : w6.cell? ⟨p, 3, none⟩ = some (.slice B n c) := (C6.out.cell (p := ⟨p, 3, none⟩) hrl).trans cc; have f6 : w6.frozen? ⟨p, 3, none⟩ = false := (RR.out.blk.below C6.out hrl).free 3; have z1 : w6.cell? ⟨w.heap.size, 1, none⟩ = some (encStr v.key) := (C6.out.cell (p := ⟨w.heap.size, 1, none⟩) hnb2).trans q1; have z2 : w6.cell? ⟨w.heap.size, 2, none⟩ = some (.int .i64 v.gen) := (C6.out.cell (p := ⟨w.heap.size, 2, none⟩) hnb2).trans q2; clear hown6 hgr6) | (refine step_append_any _ rfl (.tmp 148) (.tmp 154) 52 rfl w2.heap.size 91 i0 _ 2 24 Tryz.underlying52 hi0 hz0 hz1 hz2 rfl (by omega) (.slice B5 n c5) n (markVals R.tombs) (by first | rfl | (show Value.slice B5 (0 + n) c5 = Value.slice B5 n c5; rw [Nat.zero_add])) (by exact O5.out) (some ⟨w2.heap.size + 1, 0, none⟩) 1 1 [encStr v.key, .int .i64 v.gen] rfl rfl (fun e => by cases e) (by exact KS.out) (by intro u hu; simp only [List.mem_cons, List.not_mem_nil, or_false] at hu; rcases hu with rfl | rfl <;> rfl) (by simp only [maxLen]; omega) (by omega) (C5.out).size ?_; intro B6 c6 w6 hown6 hgr6; have O6 := Lib.hid hown6; have C6 := Lib.hid (show Below w2.heap.size w2 w6 from (C5.out).grown (by exact hgr6) (C5.out).size (fun y hy => (O5.out.lt y hy).1)); have K6 : w6.cell? ⟨p, 3, none⟩ = some (.slice B n c) := (C6.out.cell (p := ⟨p, 3, none⟩) hrl).trans cc; have f6 : w6.frozen? ⟨p, 3, none⟩ = false := (RR.out.blk.below C6.out hrl).free 3; have z1 : w6.cell? ⟨w.heap.size, 1, none⟩ = some (encStr v.key) := (C6.out.cell (p := ⟨w.heap.size, 1, none⟩) hnb2).trans q1; have z2 : w6.cell? ⟨w.heap.size, 2, none⟩ = some (.int .i64 v.gen) := (C6.out.cell (p := ⟨w.heap.size, 2, none⟩) hnb2).trans q2; clear hown6 hgr6) | (refine step_append_any _ rfl (.tmp 148) (.tmp 154) 52 rfl w2.heap.size 91 i0 _ 2 24 Tryz.underlying52 hi0 hz0 hz1 hz2 rfl (by omega) (.slice B5 n c5) n (markVals R.tombs) (by first | rfl | (show Value.slice B5 (0 + n) c5 = Value.slice B5 n c5; rw [Nat.zero_add])) (by exact O5.out) (some ⟨w2.heap.size, 0, none⟩) 1 1 [encStr v.key, .int .i64 v.gen] rfl rfl (fun e => by cases e) (by exact KS.out) (by intro u hu; simp only [List.mem_cons, List.not_mem_nil, or_false] at hu; rcases hu with rfl | rfl <;> rfl) (by simp only [maxLen]; omega) (by omega) (C5.out).size ?_; intro B6 c6 w6 hown6 hgr6; have O6 := Lib.hid hown6; have C6 := Lib.hid (show Below w2.heap.size w2 w6 from (C5.out).grown (by exact hgr6) (C5.out).size (fun y hy => (O5.out.lt y hy).1)); have K6 : w6.cell? ⟨p, 3, none⟩ = some (.slice B n c) := (C6.out.cell (p := ⟨p, 3, none⟩) hrl).trans cc; have f6 : w6.frozen? ⟨p, 3, none⟩ = false := (RR.out.blk.below C6.out hrl).free 3; have z1 : w6.cell? ⟨w.heap.size, 1, none⟩ = some (encStr v.key) := (C6.out.cell (p := ⟨w.heap.size, 1, none⟩) hnb2).trans q1; have z2 : w6.cell? ⟨w.heap.size, 2, none⟩ = some (.int .i64 v.gen) := (C6.out.cell (p := ⟨w.heap.size, 2, none⟩) hnb2).trans q2; clear hown6 hgr6)
                    clear hHeld
                    refine hK.out _ _ ⟨z1, z2⟩ (fun hHeld => ?_)
                    clear hK K
                    refine tk (i := 14) (v := ?vR25n1b12b514) rfl ?hyR25n1b12b514 ?restR25n1b12b514
                    case hyR25n1b12b514 => (intro w hSw; (try dsimp only at hSw); go_simp <;> with_reducible rfl)
                    refine tk (i := 15) (v := ?vR25n1b12b515) rfl ?hyR25n1b12b515 ?restR25n1b12b515
                    case hyR25n1b12b515 => (intro w hSw; (try dsimp only at hSw); go_simp <;> with_reducible rfl)
                    refine wpAnyH_ready (rs := [16]) (by kernel_rfl) (by simp) ?_
                    refine AllReadyH.cons rfl (fun K hK => ?_) AllReadyH.nil
                    go_simp
                    clear hHeld
                    refine hK.out _ _ ⟨cell_other z1 hnp, cell_other z2 hnp⟩ (fun hHeld => ?_)
                    clear hK K
                    refine wpAnyH_done (by kernel_rfl) ?_ _
                    go_wp2_with fail
                    go_ret
                    rw [HE.out]
                    have hl : (R.tombs ++ [(v.key, v.gen)]).length = n + 1 := by rw [List.length_append, HRN.out]; rfl
                    have h6 : w6.ownsRow w2.heap.size 91 2 (.slice B6 (n + 1) c6) (R.tombs ++ [(v.key, v.gen)]).length (markVals (R.tombs ++ [(v.key, v.gen)])) := by rw [hl, markVals_app]; exact O6.out
                    exact ⟨rfl, RefPost.of_below B12.out (RR.out.setTombs C6.out h6 (by rw [hl]; have := RR.out.lens; have h2 := HRN.out; omega) (Nat.le_succ _))⟩
              · have zg2 : decide (v.gen ≤ R.gen) = false := by simpa using g2
                have HE := Lib.hid (show tombC R v = (12, R) from tombC_no (fun h => g2 h.2.2.2.2.2) (fun h => by omega))
                clear s1 a1 nm g1 g2
                go_wp2_with fail
                go_quiet ((go_at_call 51; exact quiet_eq (rNamed v.key _ HKL.out)))
                go_wp2_with fail
                go_ret
                rw [HE.out]
                exact ⟨rfl, RefPost.same H.out (Nat.le_succ _) (B1.out.trans ((below_drewN HBX.out _).mono B1.out.size))⟩
            · have zg1 : decide (1 ≤ v.gen) = false := by simpa using g1
              have HE := Lib.hid (show tombC R v = (12, R) from tombC_no (fun h => g1 h.2.2.2.2.1) (fun h => by omega))
              clear s1 a1 nm g1
              go_wp2_with fail
              go_quiet ((go_at_call 51; exact quiet_eq (rNamed v.key _ HKL.out)))
              go_wp2_with fail
              go_ret
              rw [HE.out]
              exact ⟨rfl, RefPost.same H.out (Nat.le_succ _) (B1.out.trans ((below_drewN HBX.out _).mono B1.out.size))⟩
          · have zn : decide (1 ≤ v.key.length ∧ v.key.length ≤ 16) = false := decide_eq_false nm
            have HE := Lib.hid (show tombC R v = (12, R) from tombC_no (fun h => nm ⟨h.2.2.1, h.2.2.2.1⟩) (fun h => by omega))
            clear s1 a1 nm
            go_wp2_with fail
            go_quiet ((go_at_call 51; exact quiet_eq (rNamed v.key _ HKL.out)))
            go_wp2_with fail
            go_ret
            rw [HE.out]
            exact ⟨rfl, RefPost.same H.out (Nat.le_succ _) (B1.out.trans ((below_drewN HBX.out _).mono B1.out.size))⟩
        · have za : decide (tombI R v < 0) = false := by simpa using a1
          have HE := Lib.hid (show tombC R v = (12, R) from tombC_no (fun h => a1 h.2.1) (fun h => by omega))
          clear s1 a1
          go_wp2_with fail
          go_quiet ((go_at_call 51; exact quiet_eq (rNamed v.key _ HKL.out)))
          go_wp2_with fail
          go_ret
          rw [HE.out]
          exact ⟨rfl, RefPost.same H.out (Nat.le_succ _) (B1.out.trans ((below_drewN HBX.out _).mono B1.out.size))⟩
      · have z1 : (v.size == 1) = false := by simpa using s1
        by_cases s0 : v.size = 0
        · have z0 : (v.size == 0) = true := by simpa using s0
          by_cases a0 : 0 ≤ tombI R v
          · have za : decide (0 ≤ tombI R v) = true := by simpa using a0
            have HE0 := Lib.hid (show tombC R v = (0, { R with tombs := R.tombs.eraseIdx (tombI R v).toNat }) by unfold tombC; rw [if_neg (fun h => s1 h.1), if_pos ⟨s0, a0⟩])
            obtain ⟨k, hk⟩ : ∃ k : Nat, tombI R v = k := ⟨(tombI R v).toNat, by omega⟩
            have HK := Lib.hid (show idxP (isTomb v.key v.gen) R.tombs = k from hk)
            have HE := Lib.hid (show tombC R v = (0, { R with tombs := remL R.tombs k }) by rw [HE0.out, hk, remL_erase]; rfl)
            clear s1 s0 a0 HE0
            rw [hk] at za ⊢
            clear hk
            go_wp2_with fail
            go_quiet ((go_at_call 51; exact quiet_eq (rNamed v.key _ HKL.out)))
            go_upto_region 28 with fail
            obtain ⟨w2, hw2⟩ : ∃ w2, w2 = wr.drewN nq := ⟨_, rfl⟩
            rw [← hw2]
            have hb2 : Below wr.heap.size wr w2 := by rw [hw2]; exact below_drewN (Below.refl _ _) _
            have B2 := Lib.hid (HBX.out.trans (hb2.mono hz))
            clear q1 q2 q6 c3 c5 hw2
            obtain ⟨sw2, sh2, sb2, st2, sr2, ER2, hr2⟩ := H1.out.below B2.out
            clear HC HGL hnc RR1
            have RR := Lib.hid hr2
            have hB12 := B1.out.trans (B2.out.mono B1.out.size)
            have B12 := Lib.hid hB12
            clear hr2 hb2 hB12 hnb hrl1 hq0
            obtain ⟨B, c, rfl, hnc, hcm, hB⟩ := own_form RR.out.tmb.1
            have hkR := idx_lt (HK.out)
            obtain ⟨g, rfl⟩ : ∃ g, B = some ⟨g, 0, none⟩ := by
              rcases hB with ⟨_, h0, _⟩ | h
              · omega
              · exact h
            have hrow := RR.out.tmb.1
            have hgl := (hrow.lt g rfl).2
            have cc : w2.cell? ⟨p, 3, none⟩ = some (.slice (some ⟨g, 0, none⟩) (R.tombs).length c) := RR.out.blk.cell 3
            have hrl : p < w2.heap.size := RR.out.blk.size
            have RW := Lib.hid hrow
            have SR := Lib.hid (own_src hrow 0 k (markVals ((R.tombs).take k)) (markVals_take _ _))
            have hlen := (show (R.tombs).length ≤ 100000 by have := RR.out.lens; omega)
            obtain ⟨n, hn⟩ : ∃ n, (R.tombs).length = n := ⟨_, rfl⟩
            have HLV := Lib.hid (show (R.tombs).length = n from hn)
            have HN := Lib.hid hn
            rw [hn] at hnc hkR cc RW hlen
            have hkc : (k : Int) ≤ (c : Int) := by omega
            obtain ⟨k1, hk1⟩ : ∃ k1, k1 = k + 1 := ⟨_, rfl⟩
            have hw64 : IntKind.i64.wrap ((k : Int) + 1) = (k1 : Int) := by
              rw [hk1]
              exact wrap_small3 (by omega)
            have hkn1 : (k1 : Int) ≤ (n : Int) := by omega
            have hkc1 : (k1 : Int) ≤ (c : Int) := by omega
            have HK1 := Lib.hid hk1
            have S2 := Lib.hid (show ∀ w5 : World, Below w2.heap.size w2 w5 → SrcAt w5 (if c = k1 then some ⟨g, 0, none⟩ else some ⟨g, k1 * 2, none⟩) (n - k1) (markVals ((R.tombs).drop k1)) from fun w5 hb => by
              by_cases hck : c = k1
              · rw [if_pos hck]
                have hd : (R.tombs).drop k1 = [] := List.drop_of_length_le (by rw [HLV.out]; omega)
                rw [hd]
                exact .inl ⟨by omega, rfl⟩
              · rw [if_neg hck]
                exact src_kept (own_src RW.out (k1 * 2) (n - k1) (markVals ((R.tombs).drop k1)) (markVals_drop _ (by rw [HLV.out]; omega))) (hb.block g hgl))
            have hk1n : k1 ≤ n := by omega
            have hkk : k ≤ n := by omega
            have hidx : decide ((0 : Int) ≤ (k : Int)) = true := by simp
            clear hk1 hrow hn hB
            go_wp2_with fail
            go_region_law ((first
              | (refine step_append_any _ rfl (.tmp 166) (.tmp 172) 52 rfl w2.heap.size 91 i0 _ 2 24 Tryz.underlying52 hi0 hz0 hz1 hz2 rfl (by omega) _ 0 [] rfl (own_d1 w2 _ 2) (some ⟨g, 0, none⟩) k c (markVals ((R.tombs).take k)) rfl (by rw [markVals_len, List.length_take, HLV.out, Nat.min_eq_left (by omega)]) (fun e => by cases e) (src_below SR.out (fun b off e => by cases e; exact hgl) (below_a1 w2 _)) (markVals_one _) (by simp only [maxLen]; omega) (by omega) (by simp <;> omega) ?_
                 intro B5 c5 w5 hown5 hgr5
                 have O5 := Lib.hid (show w5.ownsRow w2.heap.size 91 2 (.slice B5 k c5) k (markVals ((R.tombs).take k)) by simpa using hown5)
                 have C5 := Lib.hid (show Below w2.heap.size w2 w5 from grown_d1 hgr5)
                 have K5 : w5.cell? ⟨p, 3, none⟩ = some (.slice (some ⟨g, 0, none⟩) n c) := (C5.out.cell (p := ⟨p, 3, none⟩) hrl).trans cc
                 clear hown5 hgr5)
              | (refine step_append_any _ rfl (.tmp 173) (.tmp 180) 52 rfl w2.heap.size 91 i0 _ 2 24 Tryz.underlying52 hi0 hz0 hz1 hz2 rfl (by omega) _ k (markVals ((R.tombs).take k)) rfl O5.out (if c = k1 then some ⟨g, 0, none⟩ else some ⟨g, k1 * 2, none⟩) (n - k1) (c - k1) (markVals ((R.tombs).drop k1)) rfl (by rw [markVals_len, List.length_drop, HLV.out]) (fun e => by by_cases hck : c = k1 <;> simp [hck] at e) (S2.out _ C5.out) (markVals_one _) (by simp only [maxLen]; omega) (by omega) C5.out.size ?_
                 intro B6 c6 w6 hown6 hgr6
                 have O6 := Lib.hid hown6
                 have C6 := Lib.hid (show Below w2.heap.size w2 w6 from C5.out.grown hgr6 C5.out.size (fun y hy => (O5.out.lt y hy).1))
                 have K6 : w6.cell? ⟨p, 3, none⟩ = some (.slice (some ⟨g, 0, none⟩) n c) := (C6.out.cell (p := ⟨p, 3, none⟩) hrl).trans cc
                 have f6 : w6.frozen? ⟨p, 3, none⟩ = false := (RR.out.blk.below C6.out hrl).free 3
                 clear hown6 hgr6)))
            all_goals
              go_wp2_with fail
            all_goals
              go_ret
              rw [HE.out]
              have h6 := O6.out
              rw [← markVals_app, HK1.out, show R.tombs.take k ++ R.tombs.drop (k + 1) = remL R.tombs k from rfl] at h6
              have hl : (remL R.tombs k).length = k + (n - (k + 1)) := by
                unfold remL
                rw [List.length_append, List.length_take, List.length_drop, HN.out, Nat.min_eq_left (by omega)]
              exact ⟨rfl, RefPost.of_below B12.out (RR.out.setTombs C6.out (by rw [hl, HK1.out]; exact h6) (by have h1 := RR.out.lens; have h2 := remL_len R.tombs k; omega) (Nat.le_succ _))⟩
          · have za : decide (0 ≤ tombI R v) = false := by simpa using a0
            have HE := Lib.hid (show tombC R v = (12, R) from tombC_no (fun h => s1 h.1) (fun h => a0 h.2))
            clear s1 s0 a0
            go_wp2_with fail
            go_quiet ((go_at_call 51; exact quiet_eq (rNamed v.key _ HKL.out)))
            go_wp2_with fail
            go_ret
            rw [HE.out]
            exact ⟨rfl, RefPost.same H.out (Nat.le_succ _) (B1.out.trans ((below_drewN HBX.out _).mono B1.out.size))⟩
        · have z0 : (v.size == 0) = false := by simpa using s0
          have HE := Lib.hid (show tombC R v = (12, R) from tombC_no (fun h => s1 h.1) (fun h => s0 h.1))
          clear s1 s0
          go_wp2_with fail
          go_quiet ((go_at_call 51; exact quiet_eq (rNamed v.key _ HKL.out)))
          go_wp2_with fail
          go_ret
          rw [HE.out]
          exact ⟨rfl, RefPost.same H.out (Nat.le_succ _) (B1.out.trans ((below_drewN HBX.out _).mono B1.out.size))⟩
end
end Go.Proofs.YtmkccblcmiflfaaGreat

namespace Go.Proofs.YtmkccblcmiflfaaGreat
open Go.RowKit Go.Maps Go.WideMaps

theorem rApply (F : Nat → Prop) (p N : Nat) (R : CV) (v : NoteV) (D : Option Addr) (dn dc : Nat) (Q : Option Addr) (qn qc : Nat) (w : World) (h : RefAt F w p N R) (hN : N ≤ 10000) (hin : NoteIn w v D dn dc Q qn qc) (hap : 0 < qn → ∀ b off, Q = some ⟨b, off, none⟩ → ¬ F b)
    (hs : (R.staged.map Prod.fst).Nodup) (he : (R.entries.map Prod.fst).Nodup) (hbg : ∀ q ∈ R.begun, 1 ≤ q.2) (htn : R.tombs.Nodup) :
    Calls Tryz.prog 23 #[.pointer (some ⟨p, 0, none⟩), noteAgg v D dn dc Q qn qc] w fun e w' => e = .returned (.int .i64 (refApply R v).1) ∧ RefPost F p (N + 1) (refApply R v).2 w w' := by
  unfold refApply
  by_cases k1 : v.kind = 1
  · rw [if_pos k1]
    exact rApply1 F p N R v D dn dc Q qn qc w h hN hin k1
  rw [if_neg k1]
  by_cases k2 : v.kind = 2
  · rw [if_pos k2]
    by_cases hg : 1 ≤ v.key.length ∧ v.key.length ≤ 16 ∧ 1 ≤ v.gen ∧ v.gen ≤ R.gen ∧ 0 ≤ v.size ∧ v.size ≤ 512 ∧ (qn : Int) = 10 * groupsI v.size
    · exact rApply2p F p N R v D dn dc Q qn qc w h hN hin hap k2 hg hs he
    · exact rApply2n F p N R v D dn dc Q qn qc w h hin hap k2 hg hs he
  rw [if_neg k2]
  by_cases k3 : v.kind = 3
  · rw [if_pos k3]
    exact rApply3 F p N R v D dn dc Q qn qc w h hN k3 hs he hbg
  rw [if_neg k3]
  by_cases k4 : v.kind = 4
  · rw [if_pos k4]
    exact rApplyE F p N v D dn dc Q qn qc w _ k1 k2 k3 (fun w1 hb => rRest4 F p N R v D dn dc Q qn qc w1 (h.below hb) hN k4)
  rw [if_neg k4]
  by_cases k5 : v.kind = 5
  · rw [if_pos k5]
    exact rApplyE F p N v D dn dc Q qn qc w _ k1 k2 k3 (fun w1 hb => rRest5 F p N R v D dn dc Q qn qc w1 (h.below hb) hN k5)
  rw [if_neg k5]
  by_cases k6 : v.kind = 6
  · rw [if_pos k6]
    exact rApplyE F p N v D dn dc Q qn qc w _ k1 k2 k3 (fun w1 hb => rRest6 F p N R v D dn dc Q qn qc w1 (h.below hb) hN k6 hin.key htn)
  · rw [if_neg k6]
    exact rApplyE F p N v D dn dc Q qn qc w (12, R) k1 k2 k3 (fun w1 hb => rRestNo F p N R v D dn dc Q qn qc w1 (h.below hb) k4 k5 k6)
end Go.Proofs.YtmkccblcmiflfaaGreat

namespace Go.Proofs.YtmkccblcmiflfaaGreat
open Go.RowKit Go.Maps Go.WideMaps

theorem ref_new (w : World) : RefAt (fun k => k = w.heap.size) (w.alloc (.cells #[.slice none 0 0, .slice none 0 0, .slice none 0 0, .slice none 0 0, .slice none 0 0, .int .i64 0] 55)) w.heap.size 0 newC :=
  ⟨.slice none 0 0, .slice none 0 0, .slice none 0 0, .slice none 0 0, .slice none 0 0, [], ⟨Blk.made w _ _, rfl, ⟨World.ownsRow_nil _ _ _ _, fun g hg => by cases hg⟩, ⟨World.ownsRow_nil _ _ _ _, fun g hg => by cases hg⟩, rfl, fun r hr => (by cases hr), ⟨World.ownsRow_nil _ _ _ _, fun g hg => by cases hg⟩, ⟨World.ownsRow_nil _ _ _ _, fun g hg => by cases hg⟩, ⟨World.ownsRow_nil _ _ _ _, fun g hg => by cases hg⟩, ⟨Nat.le_refl _, Nat.le_refl _, Nat.le_refl _, Nat.le_refl _, Nat.le_refl _⟩⟩⟩
theorem idx_has' {β : Type} (L : List (Str × β)) (k : Str) : decide (0 ≤ idxP (isKey k) L) = hasL L k := by
  cases hh : hasL L k with
  | false => have := idxP_neg.2 ((hasL_any L k).symm.trans hh); exact decide_eq_false (by omega)
  | true => refine decide_eq_true ?_; rcases Int.lt_or_le (idxP (isKey k) L) 0 with h | h; (have h1 := idxP_neg.1 h; rw [hasL_any, h1] at hh; cases hh); exact h
theorem DataTold.told {C : CV} {key : Str} {w w' : World} {e : Ending} (h : DataTold C key w w' e) : ∃ dv, e = .returned (.tuple #[dv, .bool (hasL C.staged key)]) := by
  rcases h with ⟨h1, h2⟩ | ⟨d, v, ⟨i, hi, _⟩, _, h2, _⟩
  · exact ⟨_, by rw [h1]; exact h2⟩
  · refine ⟨v, ?_⟩
    cases hh : hasL C.staged key with
    | true => exact h2
    | false => have := (waitsC_neg C key).2 hh; omega
theorem rel_facts {N : Nat} {C R : CV} (h : RelR C R) (hw : CWf N C) (ne : (C.entries.map Prod.fst).Nodup) (hj : JC C) :
    (R.staged.map Prod.fst).Nodup ∧ (R.entries.map Prod.fst).Nodup ∧ (∀ q ∈ R.begun, 1 ≤ q.2) ∧ R.tombs.Nodup := by
  refine ⟨by rw [h.st]; exact hw.nds, ?_, fun q hq => ?_, by rw [h.tb]; exact hj.tn⟩
  · rw [h.en]
    have hs : ((entsC C).map Prod.fst).Pairwise fun a b => a < b := List.pairwise_map.2 (entsC_sorted ne)
    exact hs.imp fun h e => by rw [e] at h; exact str_irrefl _ h
  · rw [h.bg] at hq
    exact (hw.begun q hq).2.2.1
section
set_option maxHeartbeats 16000000
set_option maxRecDepth 16000
theorem catPlays_walk (A : Option Addr) (n c : Nat) (f : Nat → NoteA) (key : Str) (w : World) (h : NotesIn w A n f) (hnc : n ≤ c) (hc : c ≤ maxLen) (hk : key.length ≤ maxLen) :
    Calls Tryz.prog 5 #[.slice A n c, encStr key] w fun e w' => e = .returned (.bool true) ∧ Below w.heap.size w w' := by
  have H := Lib.hid h
  have hn63 : n ≤ 9223372036854775807 := by have := Nat.le_trans hnc hc; simpa [maxLen] using this
  clear h hnc hc
  go_enter Tryz.func5, Tryz.ntmps5
  go_wp2_with fail
  refine (cNew _).mono ?_
  rintro e w1 ⟨p, rfl, hp, hca, hb1⟩
  have C1 := Lib.hid (show CatAt (fun k => w.heap.size ≤ k ∧ k < w1.heap.size) w1 p 0 newC from (CatAt.owning ..).mono _ _ _ hca (fun k h1 h2 => ⟨h2, h1⟩))
  have R1 := Lib.hid (ref_new w1)
  have B1 := Lib.hid hb1
  have hz1 := hb1.size
  clear hca hb1 hp
  go_wp2_with fail
  go_loopw [7] (fun i wx => ∃ (j : Nat) (Fc Fr : Nat → Prop) (Cj Rj : CV), i = .int .i64 j ∧ j ≤ 60 ∧ j ≤ n ∧ CatAt Fc wx p j Cj ∧ RefAt Fr wx w1.heap.size j Rj ∧ RelR Cj Rj ∧ JC Cj ∧ (∀ k, Fc k → ¬ Fr k) ∧ (∀ k, Fc k → w.heap.size ≤ k ∧ k < wx.heap.size) ∧ (∀ k, Fr k → w.heap.size ≤ k ∧ k < wx.heap.size) ∧ Below w.heap.size w wx) (fun i _ => n - (intOf i).toNat)
  case atStart => exact ⟨0, _, _, newC, newC, rfl, by omega, by omega, C1.out.below ((Below.refl _ w1).alloc (Nat.le_refl _) _), R1.out, RelR.new, JC.new, fun k h1 h2 => by omega, fun k hk => ⟨hk.1, by simp; omega⟩, fun k hk => ⟨by omega, by simp; omega⟩, B1.out.alloc hz1 _⟩
  case round =>
    obtain ⟨j, Fc, Fr, Cj, Rj, rfl, hj60, hj, hca, hra, hrel', hjc, hdj, hFc, hFr, hbl⟩ := hrel
    clear C1 R1 B1 hz1
    generalize w1.heap.size = q at *
    have hz := hbl.size
    have CAw := Lib.hid hca
    have CA60 := Lib.hid (hca.up hj60)
    have RB := Lib.hid hra
    have RELX := Lib.hid hrel'
    have JCc := Lib.hid hjc
    have DJ := Lib.hid hdj
    have FC := Lib.hid hFc
    have FR := Lib.hid hFr
    have BLW := Lib.hid hbl
    have RF := Lib.hid (rel_facts hrel' hca.facts.1 hca.facts.2.1 hjc)
    have hst := rel_step (v := (f j).v) hrel' hca.facts.2.1
    clear hca hra hrel' hjc hdj hFc hFr hbl
    by_cases hlt : j < n
    · have d1 : decide (j < n) = true := by simpa using hlt
      by_cases hl60 : j < 60
      · have d2 : decide (j < 60) = true := by simpa using hl60
        have d3 : decide ((j : Int) < 60) = true := by simp; omega
        obtain ⟨b, off, rfl, hlbw, hall⟩ : ∃ b off, A = some ⟨b, off, none⟩ ∧ b < w.heap.size ∧ ∀ i, i < n → NoteOk w (f i) ∧ ∀ t u, (f i).cells[t]? = some u → w.cell? ⟨b, off + i * 8 + t, none⟩ = some u := by
          rcases H.out with h0 | h0
          · omega
          · exact h0
        obtain ⟨hok, hce⟩ := hall j hlt
        generalize f j = r at *
        have OKw := Lib.hid hok
        have OKd := Lib.hid (show NoteOk wr.drew r from (hok.below BLW.out).below ⟨rfl, rfl, rfl, Nat.le_refl _, fun _ _ => rfl⟩)
        have CAd := Lib.hid (show CatAt Fc wr.drew p j Cj from CAw.out.below ⟨rfl, rfl, rfl, Nat.le_refl _, fun _ _ => rfl⟩)
        have HAPc := Lib.hid (show 0 < r.qn → ∀ b off, r.Q = some ⟨b, off, none⟩ → ¬ Fc b from fun h0 b' off' e hFb => by have h1 := hok.old h0 b' off' e; have h2 := (FC.out b' hFb).1; omega)
        have hlb := hlbw
        have HE1 := Lib.hid hst.1
        have HE2 := Lib.hid hst.2
        have hne : ((applyC Cj r.v).1 != (applyC Cj r.v).1) = false := by simp
        have x0 : wr.cell? ⟨b, off + j * 8, none⟩ = some (.int .i64 r.v.kind) := (BLW.out.cell (p := ⟨b, off + j * 8, none⟩) hlbw).trans (hce 0 _ rfl)
        have x1 : wr.cell? ⟨b, off + j * 8 + 1, none⟩ = some (encStr r.v.key) := (BLW.out.cell (p := ⟨b, off + j * 8 + 1, none⟩) hlbw).trans (hce 1 _ rfl)
        have x2 : wr.cell? ⟨b, off + j * 8 + 2, none⟩ = some (.int .i64 r.v.gen) := (BLW.out.cell (p := ⟨b, off + j * 8 + 2, none⟩) hlbw).trans (hce 2 _ rfl)
        have x3 : wr.cell? ⟨b, off + j * 8 + 3, none⟩ = some (.int .i64 r.v.cart) := (BLW.out.cell (p := ⟨b, off + j * 8 + 3, none⟩) hlbw).trans (hce 3 _ rfl)
        have x4 : wr.cell? ⟨b, off + j * 8 + 4, none⟩ = some (.slice r.D r.dn r.dc) := (BLW.out.cell (p := ⟨b, off + j * 8 + 4, none⟩) hlbw).trans (hce 4 _ rfl)
        have x5 : wr.cell? ⟨b, off + j * 8 + 5, none⟩ = some (encStr r.v.sum) := (BLW.out.cell (p := ⟨b, off + j * 8 + 5, none⟩) hlbw).trans (hce 5 _ rfl)
        have x6 : wr.cell? ⟨b, off + j * 8 + 6, none⟩ = some (.int .i64 r.v.size) := (BLW.out.cell (p := ⟨b, off + j * 8 + 6, none⟩) hlbw).trans (hce 6 _ rfl)
        have x7 : wr.cell? ⟨b, off + j * 8 + 7, none⟩ = some (.slice r.Q r.qn r.qc) := (BLW.out.cell (p := ⟨b, off + j * 8 + 7, none⟩) hlbw).trans (hce 7 _ rfl)
        clear hok hce hall hst CA60
        go_upto_region 5 with fail
        refine wp_region_held_drew (S := (fun w' => w'.cell? ⟨b, off + j * 8, none⟩ = some (.int .i64 r.v.kind) ∧ w'.cell? ⟨b, off + j * 8 + 1, none⟩ = some (encStr r.v.key) ∧ w'.cell? ⟨b, off + j * 8 + 2, none⟩ = some (.int .i64 r.v.gen) ∧ w'.cell? ⟨b, off + j * 8 + 3, none⟩ = some (.int .i64 r.v.cart) ∧ w'.cell? ⟨b, off + j * 8 + 4, none⟩ = some (.slice r.D r.dn r.dc) ∧ w'.cell? ⟨b, off + j * 8 + 5, none⟩ = some (encStr r.v.sum) ∧ w'.cell? ⟨b, off + j * 8 + 6, none⟩ = some (.int .i64 r.v.size) ∧ w'.cell? ⟨b, off + j * 8 + 7, none⟩ = some (.slice r.Q r.qn r.qc))) (by kernel_rfl) ⟨x0, x1, x2, x3, x4, x5, x6, x7⟩ (fun hHeld => ?_)
        refine tk (i := 0) (v := ?vCpn10) rfl ?hyCpn10 ?restCpn10
        case hyCpn10 => (intro w hSw; (try dsimp only at hSw); go_simp <;> with_reducible rfl)
        try simp only [Act.put, pt1, pt2, pt3]
        refine tk (i := 1) (v := ?vCpn11) rfl ?hyCpn11 ?restCpn11
        case hyCpn11 => (intro w hSw; (try dsimp only at hSw); go_simp <;> with_reducible rfl)
        try simp only [Act.put, pt1, pt2, pt3]
        refine tk (i := 2) (v := ?vCpn12) rfl ?hyCpn12 ?restCpn12
        case hyCpn12 => (intro w hSw; (try dsimp only at hSw); go_simp <;> with_reducible rfl)
        try simp only [Act.put, pt1, pt2, pt3]
        refine tk (i := 3) (v := ?vCpn13) rfl ?hyCpn13 ?restCpn13
        case hyCpn13 => (intro w hSw; (try dsimp only at hSw); go_simp <;> with_reducible rfl)
        try simp only [Act.put, pt1, pt2, pt3]
        refine tk (i := 4) (v := ?vCpn14) rfl ?hyCpn14 ?restCpn14
        case hyCpn14 => (intro w hSw; (try dsimp only at hSw); go_simp <;> with_reducible rfl)
        try simp only [Act.put, pt1, pt2, pt3]
        refine tk (i := 6) (v := ?vCpn16) rfl ?hyCpn16 ?restCpn16
        case hyCpn16 => (intro w hSw; (try dsimp only at hSw); go_simp <;> with_reducible rfl)
        try simp only [Act.put, pt1, pt2, pt3]
        refine tk (i := 7) (v := ?vCpn17) rfl ?hyCpn17 ?restCpn17
        case hyCpn17 => (intro w hSw; (try dsimp only at hSw); go_simp <;> with_reducible rfl)
        try simp only [Act.put, pt1, pt2, pt3]
        refine tk (i := 8) (v := ?vCpn18) rfl ?hyCpn18 ?restCpn18
        case hyCpn18 => (intro w hSw; (try dsimp only at hSw); go_simp <;> with_reducible rfl)
        try simp only [Act.put, pt1, pt2, pt3]
        refine tk (i := 9) (v := ?vCpn19) rfl ?hyCpn19 ?restCpn19
        case hyCpn19 => (intro w hSw; (try dsimp only at hSw); go_simp <;> with_reducible rfl)
        try simp only [Act.put, pt1, pt2, pt3]
        refine tk (i := 10) (v := ?vCpn110) rfl ?hyCpn110 ?restCpn110
        case hyCpn110 => (intro w hSw; (try dsimp only at hSw); go_simp <;> with_reducible rfl)
        try simp only [Act.put, pt1, pt2, pt3]
        refine wpAnyH_ready (rs := [5]) (by kernel_rfl) (by simp) ?_
        refine AllReadyH.cons rfl (fun K hK => ?_) AllReadyH.nil
        go_simp
        go_wp2_with (go_at_call 10; refine (cApply Fc p j Cj r.v r.D r.dn r.dc r.Q r.qn r.qc _ CAd.out (by omega) OKd.out.is HAPc.out).mono ?_; rintro e wa ⟨rfl, Fc', hca', htk'⟩; have CA' := Lib.hid hca'; have GC := Lib.hid (show Chg Fc wr wa from ⟨htk'.1.os, htk'.1.tape, htk'.1.output, htk'.1.size, htk'.1.block⟩); have FC' := Lib.hid (show ∀ k, Fc' k → k < wa.heap.size ∧ (Fc k ∨ wr.heap.size ≤ k) from htk'.2); have BA := Lib.hid (show Below w.heap.size wr wa from GC.out.below hz (fun i hi => (FC.out i hi).1)); have RA := Lib.hid ((RefAt.owning ..).chg RB.out GC.out (fun k _ h1 h2 => DJ.out k h2 h1)); have OKa := Lib.hid (OKw.out.below (BLW.out.trans BA.out)); have HAPr := Lib.hid (show 0 < r.qn → ∀ b off, r.Q = some ⟨b, off, none⟩ → ¬ Fr b from fun h0 b' off' e hFb => by have h1 := OKw.out.old h0 b' off' e; have h2 := (FR.out b' hFb).1; omega); have y0 : wa.cell? ⟨b, off + j * 8, none⟩ = some (.int .i64 r.v.kind) := (BA.out.cell (p := ⟨b, off + j * 8, none⟩) hlb).trans x0; have y1 : wa.cell? ⟨b, off + j * 8 + 1, none⟩ = some (encStr r.v.key) := (BA.out.cell (p := ⟨b, off + j * 8 + 1, none⟩) hlb).trans x1; have y2 : wa.cell? ⟨b, off + j * 8 + 2, none⟩ = some (.int .i64 r.v.gen) := (BA.out.cell (p := ⟨b, off + j * 8 + 2, none⟩) hlb).trans x2; have y3 : wa.cell? ⟨b, off + j * 8 + 3, none⟩ = some (.int .i64 r.v.cart) := (BA.out.cell (p := ⟨b, off + j * 8 + 3, none⟩) hlb).trans x3; have y4 : wa.cell? ⟨b, off + j * 8 + 4, none⟩ = some (.slice r.D r.dn r.dc) := (BA.out.cell (p := ⟨b, off + j * 8 + 4, none⟩) hlb).trans x4; have y5 : wa.cell? ⟨b, off + j * 8 + 5, none⟩ = some (encStr r.v.sum) := (BA.out.cell (p := ⟨b, off + j * 8 + 5, none⟩) hlb).trans x5; have y6 : wa.cell? ⟨b, off + j * 8 + 6, none⟩ = some (.int .i64 r.v.size) := (BA.out.cell (p := ⟨b, off + j * 8 + 6, none⟩) hlb).trans x6; have y7 : wa.cell? ⟨b, off + j * 8 + 7, none⟩ = some (.slice r.Q r.qn r.qc) := (BA.out.cell (p := ⟨b, off + j * 8 + 7, none⟩) hlb).trans x7; clear hca' htk')
        clear hHeld
        refine hK.out _ _ ⟨y0, y1, y2, y3, y4, y5, y6, y7⟩ (fun hHeld => ?_)
        clear hK K
        refine wpAnyH_ready (rs := [11]) (by kernel_rfl) (by simp) ?_
        refine AllReadyH.cons rfl (fun K hK => ?_) AllReadyH.nil
        go_simp
        go_wp2_with (go_at_call 23; refine (rApply Fr q j Rj r.v r.D r.dn r.dc r.Q r.qn r.qc _ RA.out (by omega) OKa.out.is HAPr.out RF.out.1 RF.out.2.1 RF.out.2.2.1 RF.out.2.2.2).mono ?_; rintro e wb ⟨rfl, Fr', hra', htk'⟩; rw [HE1.out]; have RA' := Lib.hid hra'; have GR := Lib.hid htk'.1; have FR' := Lib.hid (show ∀ k, Fr' k → k < wb.heap.size ∧ (Fr k ∨ wa.heap.size ≤ k) from htk'.2); have BB := Lib.hid (show Below w.heap.size wa wb from GR.out.below (Nat.le_trans hz BA.out.size) (fun i hi => (FR.out i hi).1)); have CB' := Lib.hid ((CatAt.owning ..).chg CA'.out GR.out (fun k hk h1 h2 => by rcases (FC'.out k h1).2 with h | h; exact DJ.out k h h2; have := (FR.out k h2).2; omega)); have BAB := Lib.hid (BA.out.trans BB.out); have z0 : wb.cell? ⟨b, off + j * 8, none⟩ = some (.int .i64 r.v.kind) := (BAB.out.cell (p := ⟨b, off + j * 8, none⟩) hlb).trans x0; have z1 : wb.cell? ⟨b, off + j * 8 + 1, none⟩ = some (encStr r.v.key) := (BAB.out.cell (p := ⟨b, off + j * 8 + 1, none⟩) hlb).trans x1; have z2 : wb.cell? ⟨b, off + j * 8 + 2, none⟩ = some (.int .i64 r.v.gen) := (BAB.out.cell (p := ⟨b, off + j * 8 + 2, none⟩) hlb).trans x2; have z3 : wb.cell? ⟨b, off + j * 8 + 3, none⟩ = some (.int .i64 r.v.cart) := (BAB.out.cell (p := ⟨b, off + j * 8 + 3, none⟩) hlb).trans x3; have z4 : wb.cell? ⟨b, off + j * 8 + 4, none⟩ = some (.slice r.D r.dn r.dc) := (BAB.out.cell (p := ⟨b, off + j * 8 + 4, none⟩) hlb).trans x4; have z5 : wb.cell? ⟨b, off + j * 8 + 5, none⟩ = some (encStr r.v.sum) := (BAB.out.cell (p := ⟨b, off + j * 8 + 5, none⟩) hlb).trans x5; have z6 : wb.cell? ⟨b, off + j * 8 + 6, none⟩ = some (.int .i64 r.v.size) := (BAB.out.cell (p := ⟨b, off + j * 8 + 6, none⟩) hlb).trans x6; have z7 : wb.cell? ⟨b, off + j * 8 + 7, none⟩ = some (.slice r.Q r.qn r.qc) := (BAB.out.cell (p := ⟨b, off + j * 8 + 7, none⟩) hlb).trans x7; clear hra' htk')
        clear hHeld
        refine hK.out _ _ ⟨z0, z1, z2, z3, z4, z5, z6, z7⟩ (fun hHeld => ?_)
        clear hK K
        refine tk (i := 12) (v := ?vCpn112) rfl ?hyCpn112 ?restCpn112
        case hyCpn112 => (intro w hSw; (try dsimp only at hSw); go_simp <;> with_reducible rfl)
        try simp only [Act.put, pt1, pt2, pt3]
        refine tk (i := 13) (v := ?vCpn113) rfl ?hyCpn113 ?restCpn113
        case hyCpn113 => (intro w hSw; (try dsimp only at hSw); go_simp <;> with_reducible rfl)
        try simp only [Act.put, pt1, pt2, pt3]
        refine tk (i := 14) (v := ?vCpn114) rfl ?hyCpn114 ?restCpn114
        case hyCpn114 => (intro w hSw; (try dsimp only at hSw); go_simp <;> with_reducible rfl)
        try simp only [Act.put, pt1, pt2, pt3]
        refine tk (i := 15) (v := ?vCpn115) rfl ?hyCpn115 ?restCpn115
        case hyCpn115 => (intro w hSw; (try dsimp only at hSw); go_simp <;> with_reducible rfl)
        try simp only [Act.put, pt1, pt2, pt3]
        refine wpAnyH_ready (rs := [16]) (by kernel_rfl) (by simp) ?_
        refine AllReadyH.cons rfl (fun K hK => ?_) AllReadyH.nil
        go_simp
        go_wp2_with (go_at_call 24; refine (cAlike Fc' Fr' p q (j + 1) (j + 1) _ _ _ CB'.out RA'.out (by omega) (by omega) HE2.out).mono ?_; rintro e wc ⟨rfl, hbc⟩; have BC := Lib.hid (show Below wb.heap.size wb wc from hbc); have BABC := Lib.hid (BAB.out.trans (hbc.mono (Nat.le_trans hz BAB.out.size))); have u0 : wc.cell? ⟨b, off + j * 8, none⟩ = some (.int .i64 r.v.kind) := (BABC.out.cell (p := ⟨b, off + j * 8, none⟩) hlb).trans x0; have u1 : wc.cell? ⟨b, off + j * 8 + 1, none⟩ = some (encStr r.v.key) := (BABC.out.cell (p := ⟨b, off + j * 8 + 1, none⟩) hlb).trans x1; have u2 : wc.cell? ⟨b, off + j * 8 + 2, none⟩ = some (.int .i64 r.v.gen) := (BABC.out.cell (p := ⟨b, off + j * 8 + 2, none⟩) hlb).trans x2; have u3 : wc.cell? ⟨b, off + j * 8 + 3, none⟩ = some (.int .i64 r.v.cart) := (BABC.out.cell (p := ⟨b, off + j * 8 + 3, none⟩) hlb).trans x3; have u4 : wc.cell? ⟨b, off + j * 8 + 4, none⟩ = some (.slice r.D r.dn r.dc) := (BABC.out.cell (p := ⟨b, off + j * 8 + 4, none⟩) hlb).trans x4; have u5 : wc.cell? ⟨b, off + j * 8 + 5, none⟩ = some (encStr r.v.sum) := (BABC.out.cell (p := ⟨b, off + j * 8 + 5, none⟩) hlb).trans x5; have u6 : wc.cell? ⟨b, off + j * 8 + 6, none⟩ = some (.int .i64 r.v.size) := (BABC.out.cell (p := ⟨b, off + j * 8 + 6, none⟩) hlb).trans x6; have u7 : wc.cell? ⟨b, off + j * 8 + 7, none⟩ = some (.slice r.Q r.qn r.qc) := (BABC.out.cell (p := ⟨b, off + j * 8 + 7, none⟩) hlb).trans x7; clear hbc)
        clear hHeld
        refine hK.out _ _ ⟨u0, u1, u2, u3, u4, u5, u6, u7⟩ (fun hHeld => ?_)
        clear hK K
        refine tk (i := 17) (v := ?vCpn117) rfl ?hyCpn117 ?restCpn117
        case hyCpn117 => (intro w hSw; (try dsimp only at hSw); go_simp <;> with_reducible rfl)
        try simp only [Act.put, pt1, pt2, pt3]
        refine tk (i := 18) (v := ?vCpn118) rfl ?hyCpn118 ?restCpn118
        case hyCpn118 => (intro w hSw; (try dsimp only at hSw); go_simp <;> with_reducible rfl)
        try simp only [Act.put, pt1, pt2, pt3]
        refine wpAnyH_done (by kernel_rfl) ?_ _
        go_wp2_with fail
        go_roundw
        case rel => exact ⟨j + 1, Fc', Fr', _, _, by go_num, by omega, by omega, CB'.out.below BC.out, RA'.out.below BC.out, HE2.out, JCc.out.step, fun k h1 h2 => (by have h3 := FC'.out k h1; have h4 := FR'.out k h2; rcases h4.2 with h | h; (rcases h3.2 with h' | h'; exact DJ.out k h' h; have := (FR.out k h).2; omega); omega), fun k hk => ⟨(by rcases (FC'.out k hk).2 with h | h; exact (FC.out k h).1; omega), Nat.lt_of_lt_of_le (FC'.out k hk).1 (Nat.le_trans BB.out.size BC.out.size)⟩, fun k hk => ⟨(by rcases (FR'.out k hk).2 with h | h; exact (FR.out k h).1; have := BA.out.size; omega), Nat.lt_of_lt_of_le (FR'.out k hk).1 BC.out.size⟩, BLW.out.trans BABC.out⟩
        case measure => simp [intOf]; omega
      · have d2 : decide (j < 60) = false := by simpa using hl60
        have d3 : decide ((j : Int) < 60) = false := by simp; omega
        clear hst H CAw RF
        go_wp2_with fail
        refine (cData Fc p 60 Cj key _ CA60.out).mono ?_
        rintro e w5 ⟨hdt, hb5⟩
        obtain ⟨dv, rfl⟩ := hdt.told
        have B5 := Lib.hid hb5
        clear hdt hb5
        go_wp2_with fail
        refine (cEntry Fc p 60 Cj key _ (CA60.out.below B5.out) hk).mono ?_
        rintro e w6 ⟨⟨ev, rfl, EB, rfl, hoe⟩, hb6⟩
        clear hoe
        generalize (if hasL Cj.entries key = true then key else []) = kx
        have B6 := Lib.hid hb6
        have CE := Lib.hid ((CA60.out.below B5.out).below B6.out)
        have RE := Lib.hid ((RB.out.below B5.out).below B6.out)
        have BE := Lib.hid (show Below w.heap.size w w6 from (BLW.out.trans (B5.out.mono hz)).trans (B6.out.mono (Nat.le_trans hz B5.out.size)))
        clear hb6
        go_wp2_with fail
        refine (awake13 _).mono ?_
        rintro e w7 ⟨rfl, hb7⟩
        have h67 : Below w6.heap.size w6 w7 := ((Below.refl w6.heap.size w6).alloc (Nat.le_refl _) _ |>.trans (hb7.mono (by simp)))
        have CG := Lib.hid (CE.out.below h67)
        have RG := Lib.hid (RE.out.below h67)
        have BG := Lib.hid (show Below w.heap.size w w7 from BE.out.trans (h67.mono BE.out.size))
        clear hb7 h67
        go_wp2_with fail
        refine (cHas Fc p 60 Cj key _ CG.out hk).mono ?_
        rintro e w8 ⟨rfl, hb8⟩
        have CH := Lib.hid (CG.out.below hb8)
        have RH := Lib.hid (RG.out.below hb8)
        have BH := Lib.hid (show Below w.heap.size w w8 from BG.out.trans (hb8.mono BG.out.size))
        clear hb8
        go_wp2_with fail
        refine (rHas Fr q j Rj key _ RH.out (by omega)).mono ?_
        rintro e w9 ⟨rfl, rfl⟩
        rw [RELX.out.has key]
        generalize hasC Cj key = bh
        have hbb : (bh == bh) = true := by simp
        go_wp2_with fail
        refine (rWaits Fr q j Rj key _ RH.out (by omega)).mono ?_
        rintro e w10 ⟨rfl, rfl⟩
        obtain ⟨ki, hki⟩ : ∃ ki : Int, idxP (isKey key) Rj.staged = ki := ⟨_, rfl⟩
        rw [hki]
        have KW := Lib.hid (show decide (0 ≤ ki) = hasL Cj.staged key by rw [← hki, ← RELX.out.st]; exact idx_has' _ _)
        clear hki
        generalize hasL Cj.staged key = bw at *
        obtain rfl : decide (0 ≤ ki) = bw := KW.out
        clear KW
        have hbw : (decide (0 ≤ ki) == decide (0 ≤ ki)) = true := by simp
        go_wp2_with fail
        refine (rIs Fr q j Rj key _ RH.out (by omega)).mono ?_
        rintro e w11 ⟨rfl, rfl⟩
        obtain ⟨ke, hke⟩ : ∃ ke : Int, idxP (isKey key) Rj.entries = ke := ⟨_, rfl⟩
        rw [hke]
        have KE := Lib.hid (show decide (0 ≤ ke) = hasL Cj.entries key by rw [← hke, idx_has', RELX.out.en, entsC_has])
        clear hke
        generalize hasL Cj.entries key = be at *
        obtain rfl : decide (0 ≤ ke) = be := KE.out
        clear KE
        have hbe : (decide (0 ≤ ke) == decide (0 ≤ ke)) = true := by simp
        go_wp2_with fail
        go_ret
        exact ⟨rfl, BH.out⟩
    · have d1 : decide (j < n) = false := by simpa using hlt
      clear hst H CAw RF
      go_wp2_with fail
      refine (cData Fc p 60 Cj key _ CA60.out).mono ?_
      rintro e w5 ⟨hdt, hb5⟩
      obtain ⟨dv, rfl⟩ := hdt.told
      have B5 := Lib.hid hb5
      clear hdt hb5
      go_wp2_with fail
      refine (cEntry Fc p 60 Cj key _ (CA60.out.below B5.out) hk).mono ?_
      rintro e w6 ⟨⟨ev, rfl, EB, rfl, hoe⟩, hb6⟩
      clear hoe
      generalize (if hasL Cj.entries key = true then key else []) = kx
      have B6 := Lib.hid hb6
      have CE := Lib.hid ((CA60.out.below B5.out).below B6.out)
      have RE := Lib.hid ((RB.out.below B5.out).below B6.out)
      have BE := Lib.hid (show Below w.heap.size w w6 from (BLW.out.trans (B5.out.mono hz)).trans (B6.out.mono (Nat.le_trans hz B5.out.size)))
      clear hb6
      go_wp2_with fail
      refine (awake13 _).mono ?_
      rintro e w7 ⟨rfl, hb7⟩
      have h67 : Below w6.heap.size w6 w7 := ((Below.refl w6.heap.size w6).alloc (Nat.le_refl _) _ |>.trans (hb7.mono (by simp)))
      have CG := Lib.hid (CE.out.below h67)
      have RG := Lib.hid (RE.out.below h67)
      have BG := Lib.hid (show Below w.heap.size w w7 from BE.out.trans (h67.mono BE.out.size))
      clear hb7 h67
      go_wp2_with fail
      refine (cHas Fc p 60 Cj key _ CG.out hk).mono ?_
      rintro e w8 ⟨rfl, hb8⟩
      have CH := Lib.hid (CG.out.below hb8)
      have RH := Lib.hid (RG.out.below hb8)
      have BH := Lib.hid (show Below w.heap.size w w8 from BG.out.trans (hb8.mono BG.out.size))
      clear hb8
      go_wp2_with fail
      refine (rHas Fr q j Rj key _ RH.out (by omega)).mono ?_
      rintro e w9 ⟨rfl, rfl⟩
      rw [RELX.out.has key]
      generalize hasC Cj key = bh
      have hbb : (bh == bh) = true := by simp
      go_wp2_with fail
      refine (rWaits Fr q j Rj key _ RH.out (by omega)).mono ?_
      rintro e w10 ⟨rfl, rfl⟩
      obtain ⟨ki, hki⟩ : ∃ ki : Int, idxP (isKey key) Rj.staged = ki := ⟨_, rfl⟩
      rw [hki]
      have KW := Lib.hid (show decide (0 ≤ ki) = hasL Cj.staged key by rw [← hki, ← RELX.out.st]; exact idx_has' _ _)
      clear hki
      generalize hasL Cj.staged key = bw at *
      obtain rfl : decide (0 ≤ ki) = bw := KW.out
      clear KW
      have hbw : (decide (0 ≤ ki) == decide (0 ≤ ki)) = true := by simp
      go_wp2_with fail
      refine (rIs Fr q j Rj key _ RH.out (by omega)).mono ?_
      rintro e w11 ⟨rfl, rfl⟩
      obtain ⟨ke, hke⟩ : ∃ ke : Int, idxP (isKey key) Rj.entries = ke := ⟨_, rfl⟩
      rw [hke]
      have KE := Lib.hid (show decide (0 ≤ ke) = hasL Cj.entries key by rw [← hke, idx_has', RELX.out.en, entsC_has])
      clear hke
      generalize hasL Cj.entries key = be at *
      obtain rfl : decide (0 ≤ ke) = be := KE.out
      clear KE
      have hbe : (decide (0 ≤ ke) == decide (0 ≤ ke)) = true := by simp
      go_wp2_with fail
      go_ret
      exact ⟨rfl, BH.out⟩
end
end Go.Proofs.YtmkccblcmiflfaaGreat
