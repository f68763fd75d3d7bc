/- Texts joined: KR16. No condition beyond those that each theorem states. -/
import Derived.Test.YtmkccblcmiflfaaGreatPK13
import Derived.Test.YtmkccblcmiflfaaGreatPK0
namespace Go.Proofs.YtmkccblcmiflfaaGreat
open Go.RowKit Go.Maps Go.WideMaps

section
set_option maxHeartbeats 16000000
set_option maxRecDepth 100000
theorem rApply2p (F : Nat → Prop) (p N : Nat) (R : CV) (v : NoteV) (D : Option Addr) (dn dc : Nat) (Q : Option Addr) (qn qc : Nat) (w : World) (h : RefAt F w p N R) (hN : N ≤ 10000) (hin : NoteIn w v D dn dc Q qn qc) (hap : 0 < qn → ∀ b off, Q = some ⟨b, off, none⟩ → ¬ F b) (hk2 : v.kind = 2) (hgood : 1 ≤ v.key.length ∧ v.key.length ≤ 16 ∧ 1 ≤ v.gen ∧ v.gen ≤ R.gen ∧ 0 ≤ v.size ∧ v.size ≤ 512 ∧ (qn : Int) = 10 * groupsI v.size) (hs : (R.staged.map Prod.fst).Nodup) (he : (R.entries.map Prod.fst).Nodup) :
    Calls Tryz.prog 23 #[.pointer (some ⟨p, 0, none⟩), noteAgg v D dn dc Q qn qc] w fun e w' => e = .returned (.int .i64 (refPlaced R v).1) ∧ RefPost F p (N + 1) (refPlaced R v).2 w w' := by
  obtain ⟨i0, hi0, hz0, hz1, hz2⟩ := info_parts place_info
  have H := Lib.hid h.narrow
  have HI := Lib.hid hin
  have HAP := Lib.hid hap
  have HS := Lib.hid hs
  have HEN := Lib.hid he
  have hkl : v.key.length ≤ maxLen := hin.key
  have HKL := Lib.hid hkl
  have hq63 : qn ≤ 9223372036854775807 := by have := hin.pform.1; have := hin.pform.2.1; simp only [maxLen] at this; omega
  have hpl : v.places.length = qn := hin.places.1
  have e1 : (v.kind == 1) = false := by rw [hk2]; rfl
  have e2 : (v.kind == 2) = true := by rw [hk2]; rfl
  obtain ⟨hd1, hd2, hd3, hd4, hd5, hd6, hd7⟩ := hgood
  clear h hk2 hs he hin hap hkl
  unfold noteAgg
  go_enter Tryz.func23, Tryz.ntmps23
  go_upto_region 1 with fail
  obtain ⟨w1, hw1⟩ : ∃ w1, w1 = w.alloc (.cells #[.int .i64 v.kind, encStr v.key, .int .i64 v.gen, .int .i64 v.cart, .slice D dn dc, encStr v.sum, .int .i64 v.size, .slice Q qn qc] 32) := ⟨_, rfl⟩
  have hb1 : Below w.heap.size w w1 := by rw [hw1]; exact (Below.refl _ _).alloc (Nat.le_refl _) _
  have BB := Lib.hid (show Blk w1 w.heap.size 32 #[.int .i64 v.kind, encStr v.key, .int .i64 v.gen, .int .i64 v.cart, .slice D dn dc, encStr v.sum, .int .i64 v.size, .slice Q qn qc] by rw [hw1]; exact Blk.made w _ _)
  change Code.wp _ _ _ _ (w.alloc (.cells #[.int .i64 v.kind, encStr v.key, .int .i64 v.gen, .int .i64 v.cart, .slice D dn dc, encStr v.sum, .int .i64 v.size, .slice Q qn qc] 32))
  rw [← hw1]
  have B1 := Lib.hid hb1
  have H1 := Lib.hid (H.out.below hb1)
  have q0 : w1.cell? ⟨w.heap.size, 0, none⟩ = some (.int .i64 v.kind) := BB.out.cell 0
  have q1 : w1.cell? ⟨w.heap.size, 1, none⟩ = some (encStr v.key) := BB.out.cell 1
  have q2 : w1.cell? ⟨w.heap.size, 2, none⟩ = some (.int .i64 v.gen) := BB.out.cell 2
  have q6 : w1.cell? ⟨w.heap.size, 6, none⟩ = some (.int .i64 v.size) := BB.out.cell 6
  have q7 : w1.cell? ⟨w.heap.size, 7, none⟩ = some (.slice Q qn qc) := BB.out.cell 7
  have hnb : w.heap.size < w1.heap.size := BB.out.size
  have c5 : w1.cell? ⟨p, 5, none⟩ = some (.int .i64 R.gen) := by
    obtain ⟨sw, sh, sb, st, sr, ER, hr1⟩ := H1.out
    exact hr1.blk.cell 5
  clear hw1 hb1
  by_cases nm : 1 ≤ v.key.length ∧ v.key.length ≤ 16
  case neg => exact absurd ⟨hd1, hd2⟩ nm
  have zn : decide (1 ≤ v.key.length ∧ v.key.length ≤ 16) = true := decide_eq_true nm
  by_cases g1 : v.gen < 1
  · omega
  have z1 : decide (v.gen < 1) = false := by simpa using g1
  by_cases g2 : R.gen < v.gen
  · omega
  have z2 : decide (R.gen < v.gen) = false := by simpa using g2
  by_cases g3 : v.size < 0
  · omega
  have z3 : decide (v.size < 0) = false := by simpa using g3
  by_cases g4 : 512 < v.size
  · omega
  have z4 : decide (512 < v.size) = false := by simpa using g4
  have hs0 : 0 ≤ v.size := by omega
  have hs5 : v.size ≤ 512 := by omega
  have hgr : 1 ≤ groupsI v.size ∧ groupsI v.size ≤ 4 := by unfold groupsI; omega
  have HG := Lib.hid hgr
  have HNO := Lib.hid (show ¬ (v.key.length < 1 ∨ 16 < v.key.length ∨ v.gen < 1 ∨ R.gen < v.gen ∨ v.size < 0 ∨ 512 < v.size) by omega)
  clear nm g1 g2 g3 g4 hd1 hd2 hd3 hd4 hd5 hd6
  obtain ⟨gi, hgi⟩ : ∃ gi, groupsI v.size = gi := ⟨_, rfl⟩
  have HGI := Lib.hid hgi
  rw [hgi] at hgr
  have hw64 : IntKind.i64.wrap (10 * gi) = 10 * gi := by unfold IntKind.wrap; simp [IntKind.bits, IntKind.signed]; omega
  have hcg : ∀ W : World, Calls Tryz.prog 20 #[.int .i64 v.size] W fun e w' => e = .returned (.int .i64 gi) ∧ W = w' := fun W => by
    have h := cGroups13 v.size W hs0 hs5
    rw [hgi] at h
    exact h
  have HCG := Lib.hid hcg
  clear hgi hcg
  by_cases g5 : (qn : Int) = 10 * gi
  case neg => exact absurd (by rw [← HGI.out]; exact hd7) g5
  have z5 : ((qn : Int) != 10 * gi) = false := by simpa using g5
  have HE := Lib.hid (show refPlaced R v = (0, { R with staged := delL R.staged v.key, entries := insE (delL R.entries v.key) (v.key, ⟨v.gen, v.size, v.sum, v.places⟩) }) by unfold refPlaced; rw [if_neg HNO.out, if_neg (by rw [HGI.out, hpl]; omega)])
  have hq40 : qn ≤ 40 := by omega
  clear g5 hgr hd7
  go_wp2_with fail
  go_quiet ((first | (go_at_call 51; exact quiet_eq (rNamed v.key _ HKL.out)) | (go_at_call 20; exact quiet_eq (HCG.out _))))
  go_wp2_with fail
  obtain ⟨w2, hw2⟩ : ∃ w2, w2 = w1.drewN nq := ⟨_, rfl⟩
  rw [← hw2]
  have hb2 : Below w1.heap.size w1 w2 := by rw [hw2]; exact below_drewN (Below.refl _ _) _
  have B2 := Lib.hid hb2
  have hnb2 : w.heap.size < w2.heap.size := Nat.lt_of_lt_of_le hnb hb2.size
  have BB2 := Lib.hid (BB.out.below hb2 hnb)
  have BW2 := Lib.hid (B1.out.trans (hb2.mono B1.out.size))
  clear q0 q1 q2 q6 q7 c5 hw2 hb2
  refine (rDrop (Narrow F w) p N R v.key _ (H1.out.below B2.out) (by omega) HS.out HEN.out).mono ?_
  rintro e w3 ⟨rfl, F3, hc3, ht3⟩
  have T3 := Lib.hid ht3
  have hnf : ¬ Narrow F w w.heap.size := fun h => Nat.lt_irrefl _ h.2
  have BB3 := Lib.hid (BB2.out.of_eq (ht3.1.block _ hnb2 hnf))
  have hnf3 : ¬ F3 w.heap.size := fun h => by
    rcases (ht3.2 _ h).2 with h | h
    · exact hnf h
    · omega
  have hnb3 : w.heap.size < w3.heap.size := Nat.lt_of_lt_of_le hnb2 ht3.1.size
  have PL3 := Lib.hid (show PlacesIn w3 Q qn v.places from ⟨HI.out.places.1, by
    rcases Nat.eq_zero_or_pos qn with h0 | h0
    · exact .inl ⟨h0, by have h1 := HI.out.places.1; rw [h0] at h1; rw [List.eq_nil_of_length_eq_zero h1]; rfl⟩
    · exact (HI.out.places.below BW2.out).2.keep fun b off hQ hbl => ht3.1.block b hbl (fun e => HAP.out h0 b off hQ e.1)⟩)
  have y1 : w3.cell? ⟨w.heap.size, 1, none⟩ = some (encStr v.key) := BB3.out.cell 1
  have y2 : w3.cell? ⟨w.heap.size, 2, none⟩ = some (.int .i64 v.gen) := BB3.out.cell 2
  have y5 : w3.cell? ⟨w.heap.size, 5, none⟩ = some (encStr v.sum) := BB3.out.cell 5
  have y6 : w3.cell? ⟨w.heap.size, 6, none⟩ = some (.int .i64 v.size) := BB3.out.cell 6
  have y7 : w3.cell? ⟨w.heap.size, 7, none⟩ = some (.slice Q qn qc) := BB3.out.cell 7
  have C3 := Lib.hid hc3
  have HQN := Lib.hid (show Q = none → qn = 0 from fun e => (HI.out.pform.2.2 e).1)
  have HPL := Lib.hid hpl
  have SRB := Lib.hid (show ∀ W : World, Below w3.heap.size w3 W → SrcAt W Q qn (placeVals v.places) from fun W hb => PL3.out.2.below hb)
  clear hc3 ht3 hpl hnf
  go_upto_region 12 with fail
  go_cut [5] (fun s wx => ∃ be B5 c5, s = .pointer (some ⟨be, 0, none⟩) ∧ w3.heap.size ≤ be ∧ Blk wx be 43 #[encStr v.key, .int .i64 v.gen, .int .i64 v.size, encStr v.sum, .slice B5 qn c5] ∧ wx.ownsRow w3.heap.size 95 2 (.slice B5 qn c5) qn (placeVals v.places) ∧ Below w3.heap.size w3 wx)
  case first =>
    refine wp_region_held_drew (S := (fun w' => w'.cell? ⟨w.heap.size, 1, none⟩ = some (encStr v.key) ∧ w'.cell? ⟨w.heap.size, 2, none⟩ = some (.int .i64 v.gen) ∧ w'.cell? ⟨w.heap.size, 5, none⟩ = some (encStr v.sum) ∧ w'.cell? ⟨w.heap.size, 6, none⟩ = some (.int .i64 v.size) ∧ w'.cell? ⟨w.heap.size, 7, none⟩ = some (.slice Q qn qc))) (by as_aux_lemma => kernel_rfl) ⟨y1, y2, y5, y6, y7⟩ (fun hHeld => ?_)
    refine wpAnyH_take (i := 0) (v := ?vP12n10) (take_list rfl) (by as_aux_lemma => kernel_rfl) (by as_aux_lemma => kernel_rfl) (by as_aux_lemma => kernel_rfl) (fun _ _ _ h => h) (Or.inl ⟨by rfl, ?hyP12n10⟩) (by assumption) ?restP12n10
    case hyP12n10 => (intro w hSw; (try dsimp only at hSw); go_simp <;> with_reducible rfl)
    try simp only [Act.put, pt1, pt2, pt3]
    refine wpAnyH_take (i := 1) (v := ?vP12n11) (take_list rfl) (by as_aux_lemma => kernel_rfl) (by as_aux_lemma => kernel_rfl) (by as_aux_lemma => kernel_rfl) (fun _ _ _ h => h) (Or.inl ⟨by rfl, ?hyP12n11⟩) (by assumption) ?restP12n11
    case hyP12n11 => (intro w hSw; (try dsimp only at hSw); go_simp <;> with_reducible rfl)
    try simp only [Act.put, pt1, pt2, pt3]
    refine wpAnyH_take (i := 2) (v := ?vP12n12) (take_list rfl) (by as_aux_lemma => kernel_rfl) (by as_aux_lemma => kernel_rfl) (by as_aux_lemma => kernel_rfl) (fun _ _ _ h => h) (Or.inl ⟨by rfl, ?hyP12n12⟩) (by assumption) ?restP12n12
    case hyP12n12 => (intro w hSw; (try dsimp only at hSw); go_simp <;> with_reducible rfl)
    try simp only [Act.put, pt1, pt2, pt3]
    refine wpAnyH_take (i := 3) (v := ?vP12n13) (take_list rfl) (by as_aux_lemma => kernel_rfl) (by as_aux_lemma => kernel_rfl) (by as_aux_lemma => kernel_rfl) (fun _ _ _ h => h) (Or.inl ⟨by rfl, ?hyP12n13⟩) (by assumption) ?restP12n13
    case hyP12n13 => (intro w hSw; (try dsimp only at hSw); go_simp <;> with_reducible rfl)
    try simp only [Act.put, pt1, pt2, pt3]
    refine wpAnyH_take (i := 4) (v := ?vP12n14) (take_list rfl) (by as_aux_lemma => kernel_rfl) (by as_aux_lemma => kernel_rfl) (by as_aux_lemma => kernel_rfl) (fun _ _ _ h => h) (Or.inl ⟨by rfl, ?hyP12n14⟩) (by assumption) ?restP12n14
    case hyP12n14 => (intro w hSw; (try dsimp only at hSw); go_simp <;> with_reducible rfl)
    try simp only [Act.put, pt1, pt2, pt3]
    refine wpAnyH_take (i := 5) (v := ?vP12n15) (take_list rfl) (by as_aux_lemma => kernel_rfl) (by as_aux_lemma => kernel_rfl) (by as_aux_lemma => kernel_rfl) (fun _ _ _ h => h) (Or.inl ⟨by rfl, ?hyP12n15⟩) (by assumption) ?restP12n15
    case hyP12n15 => (intro w hSw; (try dsimp only at hSw); go_simp <;> with_reducible rfl)
    try simp only [Act.put, pt1, pt2, pt3]
    refine wpAnyH_take (i := 6) (v := ?vP12n16) (take_list rfl) (by as_aux_lemma => kernel_rfl) (by as_aux_lemma => kernel_rfl) (by as_aux_lemma => kernel_rfl) (fun _ _ _ h => h) (Or.inl ⟨by rfl, ?hyP12n16⟩) (by assumption) ?restP12n16
    case hyP12n16 => (intro w hSw; (try dsimp only at hSw); go_simp <;> with_reducible rfl)
    try simp only [Act.put, pt1, pt2, pt3]
    refine wpAnyH_take (i := 7) (v := ?vP12n17) (take_list rfl) (by as_aux_lemma => kernel_rfl) (by as_aux_lemma => kernel_rfl) (by as_aux_lemma => kernel_rfl) (fun _ _ _ h => h) (Or.inl ⟨by rfl, ?hyP12n17⟩) (by assumption) ?restP12n17
    case hyP12n17 => (intro w hSw; (try dsimp only at hSw); go_simp <;> with_reducible rfl)
    try simp only [Act.put, pt1, pt2, pt3]
    refine wpAnyH_take (i := 9) (v := ?vP12n19) (take_list rfl) (by as_aux_lemma => kernel_rfl) (by as_aux_lemma => kernel_rfl) (by as_aux_lemma => kernel_rfl) (fun _ _ _ h => h) (Or.inl ⟨by rfl, ?hyP12n19⟩) (by assumption) ?restP12n19
    case hyP12n19 => (intro w hSw; (try dsimp only at hSw); go_simp <;> with_reducible rfl)
    try simp only [Act.put, pt1, pt2, pt3]
    refine wpAnyH_take (i := 10) (v := ?vP12n110) (take_list rfl) (by as_aux_lemma => kernel_rfl) (by as_aux_lemma => kernel_rfl) (by as_aux_lemma => kernel_rfl) (fun _ _ _ h => h) (Or.inl ⟨by rfl, ?hyP12n110⟩) (by assumption) ?restP12n110
    case hyP12n110 => (intro w hSw; (try dsimp only at hSw); go_simp <;> with_reducible rfl)
    try simp only [Act.put, pt1, pt2, pt3]
    refine wpAnyH_ready (rs := [8, 13]) (by as_aux_lemma => kernel_rfl) (by simp) ?_
    refine AllReadyH.cons rfl (fun K hK => ?_) (AllReadyH.cons rfl (fun K hK => ?_) AllReadyH.nil)
    · go_simp
      clear hHeld
      refine hK.out _ _ (by (try dsimp only); go_keep) (fun hHeld => ?_)
      clear hK K
      refine wpAnyH_ready (rs := [11, 13]) (by as_aux_lemma => kernel_rfl) (by simp) ?_
      refine AllReadyH.cons rfl (fun K hK => ?_) (AllReadyH.cons rfl (fun K hK => ?_) AllReadyH.nil)
      · first | (refine step_append_any _ rfl (.tmp 93) (.tmp 95) 30 rfl w3.heap.size 95 i0 _ 2 16 Tryz.underlying30 hi0 hz0 hz1 hz2 rfl (by as_aux_lemma => omega) (.slice (some ⟨w3.heap.size + 1, 0, none⟩) 0 0) 0 [] rfl (by exact own_d3 w3 _ 2 _) Q qn qc (placeVals v.places) rfl (by rw [placeVals_len, HPL.out]) HQN.out (by exact SRB.out _ (below_a2 w3 _ _)) (placeVals_one _) (by as_aux_lemma => (simp only [maxLen]; omega)) (by as_aux_lemma => omega) (by first | omega | (simp; omega) | simp) ?_; intro B5 c5 w5 hown5 hgr5; have O5 := Lib.hid (show w5.ownsRow w3.heap.size 95 2 (.slice B5 qn c5) qn (placeVals v.places) by simpa using hown5); have C5 := Lib.hid (show Below w3.heap.size w3 w5 from grown_d3 (by exact hgr5)); have hn5 : w.heap.size < w5.heap.size := Nat.lt_of_lt_of_le hnb3 C5.out.size; have z1 : w5.cell? ⟨w.heap.size, 1, none⟩ = some (encStr v.key) := (C5.out.cell (p := ⟨w.heap.size, 1, none⟩) hnb3).trans y1; have z2 : w5.cell? ⟨w.heap.size, 2, none⟩ = some (.int .i64 v.gen) := (C5.out.cell (p := ⟨w.heap.size, 2, none⟩) hnb3).trans y2; have z5 : w5.cell? ⟨w.heap.size, 5, none⟩ = some (encStr v.sum) := (C5.out.cell (p := ⟨w.heap.size, 5, none⟩) hnb3).trans y5; have z6 : w5.cell? ⟨w.heap.size, 6, none⟩ = some (.int .i64 v.size) := (C5.out.cell (p := ⟨w.heap.size, 6, none⟩) hnb3).trans y6; have z7 : w5.cell? ⟨w.heap.size, 7, none⟩ = some (.slice Q qn qc) := (C5.out.cell (p := ⟨w.heap.size, 7, none⟩) hnb3).trans y7; have EB := Lib.hid (show Blk w5 w3.heap.size 43 #[.string ⟨#[]⟩, .int .i64 0, .int .i64 0, .string ⟨#[]⟩, .slice none 0 0] from ent_a3 (by exact hgr5)); have EK0 : w5.cell? ⟨w3.heap.size, 0, none⟩ = some (.string ⟨#[]⟩) := EB.out.cell 0; have EF0 : w5.frozen? ⟨w3.heap.size, 0, none⟩ = false := EB.out.free 0; have EK1 : w5.cell? ⟨w3.heap.size, 1, none⟩ = some (.int .i64 0) := EB.out.cell 1; have EF1 : w5.frozen? ⟨w3.heap.size, 1, none⟩ = false := EB.out.free 1; have EK2 : w5.cell? ⟨w3.heap.size, 2, none⟩ = some (.int .i64 0) := EB.out.cell 2; have EF2 : w5.frozen? ⟨w3.heap.size, 2, none⟩ = false := EB.out.free 2; have EK3 : w5.cell? ⟨w3.heap.size, 3, none⟩ = some (.string ⟨#[]⟩) := EB.out.cell 3; have EF3 : w5.frozen? ⟨w3.heap.size, 3, none⟩ = false := EB.out.free 3; have EK4 : w5.cell? ⟨w3.heap.size, 4, none⟩ = some (.slice none 0 0) := EB.out.cell 4; have EF4 : w5.frozen? ⟨w3.heap.size, 4, none⟩ = false := EB.out.free 4; have HBE := Lib.hid (show w3.heap.size ≤ w3.heap.size by omega); have ZK := Lib.hid (fun u0 u1 u2 u3 u4 : Value => (⟨s5_cell z1 (by as_aux_lemma => omega), s5_cell z2 (by as_aux_lemma => omega), s5_cell z5 (by as_aux_lemma => omega), s5_cell z6 (by as_aux_lemma => omega), s5_cell z7 (by as_aux_lemma => omega)⟩ : ((((((w5.setCell ⟨w3.heap.size, 0, none⟩ u0).setCell ⟨w3.heap.size, 1, none⟩ u1).setCell ⟨w3.heap.size, 2, none⟩ u2).setCell ⟨w3.heap.size, 3, none⟩ u3).setCell ⟨w3.heap.size, 4, none⟩ u4).cell? ⟨w.heap.size, 1, none⟩ = some (encStr v.key)) ∧ ((((((w5.setCell ⟨w3.heap.size, 0, none⟩ u0).setCell ⟨w3.heap.size, 1, none⟩ u1).setCell ⟨w3.heap.size, 2, none⟩ u2).setCell ⟨w3.heap.size, 3, none⟩ u3).setCell ⟨w3.heap.size, 4, none⟩ u4).cell? ⟨w.heap.size, 2, none⟩ = some (.int .i64 v.gen)) ∧ ((((((w5.setCell ⟨w3.heap.size, 0, none⟩ u0).setCell ⟨w3.heap.size, 1, none⟩ u1).setCell ⟨w3.heap.size, 2, none⟩ u2).setCell ⟨w3.heap.size, 3, none⟩ u3).setCell ⟨w3.heap.size, 4, none⟩ u4).cell? ⟨w.heap.size, 5, none⟩ = some (encStr v.sum)) ∧ ((((((w5.setCell ⟨w3.heap.size, 0, none⟩ u0).setCell ⟨w3.heap.size, 1, none⟩ u1).setCell ⟨w3.heap.size, 2, none⟩ u2).setCell ⟨w3.heap.size, 3, none⟩ u3).setCell ⟨w3.heap.size, 4, none⟩ u4).cell? ⟨w.heap.size, 6, none⟩ = some (.int .i64 v.size)) ∧ ((((((w5.setCell ⟨w3.heap.size, 0, none⟩ u0).setCell ⟨w3.heap.size, 1, none⟩ u1).setCell ⟨w3.heap.size, 2, none⟩ u2).setCell ⟨w3.heap.size, 3, none⟩ u3).setCell ⟨w3.heap.size, 4, none⟩ u4).cell? ⟨w.heap.size, 7, none⟩ = some (.slice Q qn qc)))); clear hown5 hgr5) | (refine step_append_any _ rfl (.tmp 93) (.tmp 95) 30 rfl w3.heap.size 95 i0 _ 2 16 Tryz.underlying30 hi0 hz0 hz1 hz2 rfl (by as_aux_lemma => omega) (.slice (some ⟨w3.heap.size, 0, none⟩) 0 0) 0 [] rfl (by exact own_d2 w3 _ 2 _) Q qn qc (placeVals v.places) rfl (by rw [placeVals_len, HPL.out]) HQN.out (by exact SRB.out _ (below_a2 w3 _ _)) (placeVals_one _) (by as_aux_lemma => (simp only [maxLen]; omega)) (by as_aux_lemma => omega) (by first | omega | (simp; omega) | simp) ?_; intro B5 c5 w5 hown5 hgr5; have O5 := Lib.hid (show w5.ownsRow w3.heap.size 95 2 (.slice B5 qn c5) qn (placeVals v.places) by simpa using hown5); have C5 := Lib.hid (show Below w3.heap.size w3 w5 from grown_d2 (by exact hgr5)); have hn5 : w.heap.size < w5.heap.size := Nat.lt_of_lt_of_le hnb3 C5.out.size; have z1 : w5.cell? ⟨w.heap.size, 1, none⟩ = some (encStr v.key) := (C5.out.cell (p := ⟨w.heap.size, 1, none⟩) hnb3).trans y1; have z2 : w5.cell? ⟨w.heap.size, 2, none⟩ = some (.int .i64 v.gen) := (C5.out.cell (p := ⟨w.heap.size, 2, none⟩) hnb3).trans y2; have z5 : w5.cell? ⟨w.heap.size, 5, none⟩ = some (encStr v.sum) := (C5.out.cell (p := ⟨w.heap.size, 5, none⟩) hnb3).trans y5; have z6 : w5.cell? ⟨w.heap.size, 6, none⟩ = some (.int .i64 v.size) := (C5.out.cell (p := ⟨w.heap.size, 6, none⟩) hnb3).trans y6; have z7 : w5.cell? ⟨w.heap.size, 7, none⟩ = some (.slice Q qn qc) := (C5.out.cell (p := ⟨w.heap.size, 7, none⟩) hnb3).trans y7; have EB := Lib.hid (show Blk w5 (w3.heap.size + 1) 43 #[.string ⟨#[]⟩, .int .i64 0, .int .i64 0, .string ⟨#[]⟩, .slice none 0 0] from ent_a2 (by exact hgr5)); have EK0 : w5.cell? ⟨w3.heap.size + 1, 0, none⟩ = some (.string ⟨#[]⟩) := EB.out.cell 0; have EF0 : w5.frozen? ⟨w3.heap.size + 1, 0, none⟩ = false := EB.out.free 0; have EK1 : w5.cell? ⟨w3.heap.size + 1, 1, none⟩ = some (.int .i64 0) := EB.out.cell 1; have EF1 : w5.frozen? ⟨w3.heap.size + 1, 1, none⟩ = false := EB.out.free 1; have EK2 : w5.cell? ⟨w3.heap.size + 1, 2, none⟩ = some (.int .i64 0) := EB.out.cell 2; have EF2 : w5.frozen? ⟨w3.heap.size + 1, 2, none⟩ = false := EB.out.free 2; have EK3 : w5.cell? ⟨w3.heap.size + 1, 3, none⟩ = some (.string ⟨#[]⟩) := EB.out.cell 3; have EF3 : w5.frozen? ⟨w3.heap.size + 1, 3, none⟩ = false := EB.out.free 3; have EK4 : w5.cell? ⟨w3.heap.size + 1, 4, none⟩ = some (.slice none 0 0) := EB.out.cell 4; have EF4 : w5.frozen? ⟨w3.heap.size + 1, 4, none⟩ = false := EB.out.free 4; have HBE := Lib.hid (show w3.heap.size ≤ w3.heap.size + 1 by omega); have ZK := Lib.hid (fun u0 u1 u2 u3 u4 : Value => (⟨s5_cell z1 (by as_aux_lemma => omega), s5_cell z2 (by as_aux_lemma => omega), s5_cell z5 (by as_aux_lemma => omega), s5_cell z6 (by as_aux_lemma => omega), s5_cell z7 (by as_aux_lemma => omega)⟩ : ((((((w5.setCell ⟨w3.heap.size + 1, 0, none⟩ u0).setCell ⟨w3.heap.size + 1, 1, none⟩ u1).setCell ⟨w3.heap.size + 1, 2, none⟩ u2).setCell ⟨w3.heap.size + 1, 3, none⟩ u3).setCell ⟨w3.heap.size + 1, 4, none⟩ u4).cell? ⟨w.heap.size, 1, none⟩ = some (encStr v.key)) ∧ ((((((w5.setCell ⟨w3.heap.size + 1, 0, none⟩ u0).setCell ⟨w3.heap.size + 1, 1, none⟩ u1).setCell ⟨w3.heap.size + 1, 2, none⟩ u2).setCell ⟨w3.heap.size + 1, 3, none⟩ u3).setCell ⟨w3.heap.size + 1, 4, none⟩ u4).cell? ⟨w.heap.size, 2, none⟩ = some (.int .i64 v.gen)) ∧ ((((((w5.setCell ⟨w3.heap.size + 1, 0, none⟩ u0).setCell ⟨w3.heap.size + 1, 1, none⟩ u1).setCell ⟨w3.heap.size + 1, 2, none⟩ u2).setCell ⟨w3.heap.size + 1, 3, none⟩ u3).setCell ⟨w3.heap.size + 1, 4, none⟩ u4).cell? ⟨w.heap.size, 5, none⟩ = some (encStr v.sum)) ∧ ((((((w5.setCell ⟨w3.heap.size + 1, 0, none⟩ u0).setCell ⟨w3.heap.size + 1, 1, none⟩ u1).setCell ⟨w3.heap.size + 1, 2, none⟩ u2).setCell ⟨w3.heap.size + 1, 3, none⟩ u3).setCell ⟨w3.heap.size + 1, 4, none⟩ u4).cell? ⟨w.heap.size, 6, none⟩ = some (.int .i64 v.size)) ∧ ((((((w5.setCell ⟨w3.heap.size + 1, 0, none⟩ u0).setCell ⟨w3.heap.size + 1, 1, none⟩ u1).setCell ⟨w3.heap.size + 1, 2, none⟩ u2).setCell ⟨w3.heap.size + 1, 3, none⟩ u3).setCell ⟨w3.heap.size + 1, 4, none⟩ u4).cell? ⟨w.heap.size, 7, none⟩ = some (.slice Q qn qc)))); clear hown5 hgr5) | (refine step_append_any _ rfl (.tmp 93) (.tmp 95) 30 rfl w3.heap.size 95 i0 _ 2 16 Tryz.underlying30 hi0 hz0 hz1 hz2 rfl (by as_aux_lemma => omega) (.slice (some ⟨w3.heap.size, 0, none⟩) 0 0) 0 [] rfl (by exact own_d1 w3 _ 2) Q qn qc (placeVals v.places) rfl (by rw [placeVals_len, HPL.out]) HQN.out (by exact SRB.out _ (below_a1 w3 _)) (placeVals_one _) (by as_aux_lemma => (simp only [maxLen]; omega)) (by as_aux_lemma => omega) (by first | omega | (simp; omega) | simp) ?_; intro B5 c5 w5 hown5 hgr5; have O5 := Lib.hid (show w5.ownsRow w3.heap.size 95 2 (.slice B5 qn c5) qn (placeVals v.places) by simpa using hown5); have C5 := Lib.hid (show Below w3.heap.size w3 w5 from grown_d1 (by exact hgr5)); have hn5 : w.heap.size < w5.heap.size := Nat.lt_of_lt_of_le hnb3 C5.out.size; have z1 : w5.cell? ⟨w.heap.size, 1, none⟩ = some (encStr v.key) := (C5.out.cell (p := ⟨w.heap.size, 1, none⟩) hnb3).trans y1; have z2 : w5.cell? ⟨w.heap.size, 2, none⟩ = some (.int .i64 v.gen) := (C5.out.cell (p := ⟨w.heap.size, 2, none⟩) hnb3).trans y2; have z5 : w5.cell? ⟨w.heap.size, 5, none⟩ = some (encStr v.sum) := (C5.out.cell (p := ⟨w.heap.size, 5, none⟩) hnb3).trans y5; have z6 : w5.cell? ⟨w.heap.size, 6, none⟩ = some (.int .i64 v.size) := (C5.out.cell (p := ⟨w.heap.size, 6, none⟩) hnb3).trans y6; have z7 : w5.cell? ⟨w.heap.size, 7, none⟩ = some (.slice Q qn qc) := (C5.out.cell (p := ⟨w.heap.size, 7, none⟩) hnb3).trans y7; have ZA := Lib.hid (fun o : Obj => (⟨al_cell z1 hn5, al_cell z2 hn5, al_cell z5 hn5, al_cell z6 hn5, al_cell z7 hn5⟩ : (w5.alloc o).cell? ⟨w.heap.size, 1, none⟩ = some (encStr v.key) ∧ (w5.alloc o).cell? ⟨w.heap.size, 2, none⟩ = some (.int .i64 v.gen) ∧ (w5.alloc o).cell? ⟨w.heap.size, 5, none⟩ = some (encStr v.sum) ∧ (w5.alloc o).cell? ⟨w.heap.size, 6, none⟩ = some (.int .i64 v.size) ∧ (w5.alloc o).cell? ⟨w.heap.size, 7, none⟩ = some (.slice Q qn qc))); have ZB := Lib.hid (show Blk (w5.alloc (.cells #[encStr v.key, .int .i64 v.gen, .int .i64 v.size, encStr v.sum, .slice B5 qn c5] 43)) w5.heap.size 43 #[encStr v.key, .int .i64 v.gen, .int .i64 v.size, encStr v.sum, .slice B5 qn c5] ∧ (w5.alloc (.cells #[encStr v.key, .int .i64 v.gen, .int .i64 v.size, encStr v.sum, .slice B5 qn c5] 43)).ownsRow w3.heap.size 95 2 (.slice B5 qn c5) qn (placeVals v.places) ∧ Below w3.heap.size w3 (w5.alloc (.cells #[encStr v.key, .int .i64 v.gen, .int .i64 v.size, encStr v.sum, .slice B5 qn c5] 43)) from ⟨Blk.made w5 _ _, O5.out.alloc _, C5.out.alloc C5.out.size _⟩); clear hown5 hgr5)
        clear hHeld
        refine hK.out _ _ ⟨z1, z2, z5, z6, z7⟩ (fun hHeld => ?_)
        clear hK K
        refine wpAnyH_take (i := 12) (v := ?vP12n1b8b1112) (take_list rfl) (by as_aux_lemma => kernel_rfl) (by as_aux_lemma => kernel_rfl) (by as_aux_lemma => kernel_rfl) (fun _ _ _ h => h) (Or.inl ⟨by rfl, ?hyP12n1b8b1112⟩) (by assumption) ?restP12n1b8b1112
        case hyP12n1b8b1112 => (intro w hSw; (try dsimp only at hSw); go_simp <;> with_reducible rfl)
        refine wpAnyH_ready (rs := [13]) (by as_aux_lemma => kernel_rfl) (by simp) ?_
        refine AllReadyH.cons rfl (fun K hK => ?_) AllReadyH.nil
        go_simp
        clear hHeld
        refine hK.out _ _ (by (try dsimp only); go_keep) (fun hHeld => ?_)
        clear hK K
        refine wpAnyH_ready (rs := [14]) (by as_aux_lemma => kernel_rfl) (by simp) ?_
        refine AllReadyH.cons rfl (fun K hK => ?_) AllReadyH.nil
        go_simp
        clear hHeld
        refine hK.out _ _ (by first | exact ZK.out _ _ _ _ _ | exact ZA.out _) (fun hHeld => ?_)
        clear hK K
        refine wpAnyH_done (by as_aux_lemma => kernel_rfl) ?_ _
        go_wp2_with fail
        go_meet
        first | exact ⟨_, B5, c5, rfl, HBE.out, s5_blk EB.out, s5_own O5.out EB.out (by decide), s5_below C5.out HBE.out⟩ | exact ⟨w5.heap.size, B5, c5, rfl, C5.out.size, ZB.out.1, ZB.out.2.1, ZB.out.2.2⟩
      · go_simp
        clear hHeld
        refine hK.out _ _ (by (try dsimp only); go_keep) (fun hHeld => ?_)
        clear hK K
        refine wpAnyH_ready (rs := [11]) (by as_aux_lemma => kernel_rfl) (by simp) ?_
        refine AllReadyH.cons rfl (fun K hK => ?_) AllReadyH.nil
        first | (refine step_append_any _ rfl (.tmp 93) (.tmp 95) 30 rfl w3.heap.size 95 i0 _ 2 16 Tryz.underlying30 hi0 hz0 hz1 hz2 rfl (by as_aux_lemma => omega) (.slice (some ⟨w3.heap.size + 1, 0, none⟩) 0 0) 0 [] rfl (by exact own_d3 w3 _ 2 _) Q qn qc (placeVals v.places) rfl (by rw [placeVals_len, HPL.out]) HQN.out (by exact SRB.out _ (below_a2 w3 _ _)) (placeVals_one _) (by as_aux_lemma => (simp only [maxLen]; omega)) (by as_aux_lemma => omega) (by first | omega | (simp; omega) | simp) ?_; intro B5 c5 w5 hown5 hgr5; have O5 := Lib.hid (show w5.ownsRow w3.heap.size 95 2 (.slice B5 qn c5) qn (placeVals v.places) by simpa using hown5); have C5 := Lib.hid (show Below w3.heap.size w3 w5 from grown_d3 (by exact hgr5)); have hn5 : w.heap.size < w5.heap.size := Nat.lt_of_lt_of_le hnb3 C5.out.size; have z1 : w5.cell? ⟨w.heap.size, 1, none⟩ = some (encStr v.key) := (C5.out.cell (p := ⟨w.heap.size, 1, none⟩) hnb3).trans y1; have z2 : w5.cell? ⟨w.heap.size, 2, none⟩ = some (.int .i64 v.gen) := (C5.out.cell (p := ⟨w.heap.size, 2, none⟩) hnb3).trans y2; have z5 : w5.cell? ⟨w.heap.size, 5, none⟩ = some (encStr v.sum) := (C5.out.cell (p := ⟨w.heap.size, 5, none⟩) hnb3).trans y5; have z6 : w5.cell? ⟨w.heap.size, 6, none⟩ = some (.int .i64 v.size) := (C5.out.cell (p := ⟨w.heap.size, 6, none⟩) hnb3).trans y6; have z7 : w5.cell? ⟨w.heap.size, 7, none⟩ = some (.slice Q qn qc) := (C5.out.cell (p := ⟨w.heap.size, 7, none⟩) hnb3).trans y7; have EB := Lib.hid (show Blk w5 w3.heap.size 43 #[.string ⟨#[]⟩, .int .i64 0, .int .i64 0, .string ⟨#[]⟩, .slice none 0 0] from ent_a3 (by exact hgr5)); have EK0 : w5.cell? ⟨w3.heap.size, 0, none⟩ = some (.string ⟨#[]⟩) := EB.out.cell 0; have EF0 : w5.frozen? ⟨w3.heap.size, 0, none⟩ = false := EB.out.free 0; have EK1 : w5.cell? ⟨w3.heap.size, 1, none⟩ = some (.int .i64 0) := EB.out.cell 1; have EF1 : w5.frozen? ⟨w3.heap.size, 1, none⟩ = false := EB.out.free 1; have EK2 : w5.cell? ⟨w3.heap.size, 2, none⟩ = some (.int .i64 0) := EB.out.cell 2; have EF2 : w5.frozen? ⟨w3.heap.size, 2, none⟩ = false := EB.out.free 2; have EK3 : w5.cell? ⟨w3.heap.size, 3, none⟩ = some (.string ⟨#[]⟩) := EB.out.cell 3; have EF3 : w5.frozen? ⟨w3.heap.size, 3, none⟩ = false := EB.out.free 3; have EK4 : w5.cell? ⟨w3.heap.size, 4, none⟩ = some (.slice none 0 0) := EB.out.cell 4; have EF4 : w5.frozen? ⟨w3.heap.size, 4, none⟩ = false := EB.out.free 4; have HBE := Lib.hid (show w3.heap.size ≤ w3.heap.size by omega); have ZK := Lib.hid (fun u0 u1 u2 u3 u4 : Value => (⟨s5_cell z1 (by as_aux_lemma => omega), s5_cell z2 (by as_aux_lemma => omega), s5_cell z5 (by as_aux_lemma => omega), s5_cell z6 (by as_aux_lemma => omega), s5_cell z7 (by as_aux_lemma => omega)⟩ : ((((((w5.setCell ⟨w3.heap.size, 0, none⟩ u0).setCell ⟨w3.heap.size, 1, none⟩ u1).setCell ⟨w3.heap.size, 2, none⟩ u2).setCell ⟨w3.heap.size, 3, none⟩ u3).setCell ⟨w3.heap.size, 4, none⟩ u4).cell? ⟨w.heap.size, 1, none⟩ = some (encStr v.key)) ∧ ((((((w5.setCell ⟨w3.heap.size, 0, none⟩ u0).setCell ⟨w3.heap.size, 1, none⟩ u1).setCell ⟨w3.heap.size, 2, none⟩ u2).setCell ⟨w3.heap.size, 3, none⟩ u3).setCell ⟨w3.heap.size, 4, none⟩ u4).cell? ⟨w.heap.size, 2, none⟩ = some (.int .i64 v.gen)) ∧ ((((((w5.setCell ⟨w3.heap.size, 0, none⟩ u0).setCell ⟨w3.heap.size, 1, none⟩ u1).setCell ⟨w3.heap.size, 2, none⟩ u2).setCell ⟨w3.heap.size, 3, none⟩ u3).setCell ⟨w3.heap.size, 4, none⟩ u4).cell? ⟨w.heap.size, 5, none⟩ = some (encStr v.sum)) ∧ ((((((w5.setCell ⟨w3.heap.size, 0, none⟩ u0).setCell ⟨w3.heap.size, 1, none⟩ u1).setCell ⟨w3.heap.size, 2, none⟩ u2).setCell ⟨w3.heap.size, 3, none⟩ u3).setCell ⟨w3.heap.size, 4, none⟩ u4).cell? ⟨w.heap.size, 6, none⟩ = some (.int .i64 v.size)) ∧ ((((((w5.setCell ⟨w3.heap.size, 0, none⟩ u0).setCell ⟨w3.heap.size, 1, none⟩ u1).setCell ⟨w3.heap.size, 2, none⟩ u2).setCell ⟨w3.heap.size, 3, none⟩ u3).setCell ⟨w3.heap.size, 4, none⟩ u4).cell? ⟨w.heap.size, 7, none⟩ = some (.slice Q qn qc)))); clear hown5 hgr5) | (refine step_append_any _ rfl (.tmp 93) (.tmp 95) 30 rfl w3.heap.size 95 i0 _ 2 16 Tryz.underlying30 hi0 hz0 hz1 hz2 rfl (by as_aux_lemma => omega) (.slice (some ⟨w3.heap.size, 0, none⟩) 0 0) 0 [] rfl (by exact own_d2 w3 _ 2 _) Q qn qc (placeVals v.places) rfl (by rw [placeVals_len, HPL.out]) HQN.out (by exact SRB.out _ (below_a2 w3 _ _)) (placeVals_one _) (by as_aux_lemma => (simp only [maxLen]; omega)) (by as_aux_lemma => omega) (by first | omega | (simp; omega) | simp) ?_; intro B5 c5 w5 hown5 hgr5; have O5 := Lib.hid (show w5.ownsRow w3.heap.size 95 2 (.slice B5 qn c5) qn (placeVals v.places) by simpa using hown5); have C5 := Lib.hid (show Below w3.heap.size w3 w5 from grown_d2 (by exact hgr5)); have hn5 : w.heap.size < w5.heap.size := Nat.lt_of_lt_of_le hnb3 C5.out.size; have z1 : w5.cell? ⟨w.heap.size, 1, none⟩ = some (encStr v.key) := (C5.out.cell (p := ⟨w.heap.size, 1, none⟩) hnb3).trans y1; have z2 : w5.cell? ⟨w.heap.size, 2, none⟩ = some (.int .i64 v.gen) := (C5.out.cell (p := ⟨w.heap.size, 2, none⟩) hnb3).trans y2; have z5 : w5.cell? ⟨w.heap.size, 5, none⟩ = some (encStr v.sum) := (C5.out.cell (p := ⟨w.heap.size, 5, none⟩) hnb3).trans y5; have z6 : w5.cell? ⟨w.heap.size, 6, none⟩ = some (.int .i64 v.size) := (C5.out.cell (p := ⟨w.heap.size, 6, none⟩) hnb3).trans y6; have z7 : w5.cell? ⟨w.heap.size, 7, none⟩ = some (.slice Q qn qc) := (C5.out.cell (p := ⟨w.heap.size, 7, none⟩) hnb3).trans y7; have EB := Lib.hid (show Blk w5 (w3.heap.size + 1) 43 #[.string ⟨#[]⟩, .int .i64 0, .int .i64 0, .string ⟨#[]⟩, .slice none 0 0] from ent_a2 (by exact hgr5)); have EK0 : w5.cell? ⟨w3.heap.size + 1, 0, none⟩ = some (.string ⟨#[]⟩) := EB.out.cell 0; have EF0 : w5.frozen? ⟨w3.heap.size + 1, 0, none⟩ = false := EB.out.free 0; have EK1 : w5.cell? ⟨w3.heap.size + 1, 1, none⟩ = some (.int .i64 0) := EB.out.cell 1; have EF1 : w5.frozen? ⟨w3.heap.size + 1, 1, none⟩ = false := EB.out.free 1; have EK2 : w5.cell? ⟨w3.heap.size + 1, 2, none⟩ = some (.int .i64 0) := EB.out.cell 2; have EF2 : w5.frozen? ⟨w3.heap.size + 1, 2, none⟩ = false := EB.out.free 2; have EK3 : w5.cell? ⟨w3.heap.size + 1, 3, none⟩ = some (.string ⟨#[]⟩) := EB.out.cell 3; have EF3 : w5.frozen? ⟨w3.heap.size + 1, 3, none⟩ = false := EB.out.free 3; have EK4 : w5.cell? ⟨w3.heap.size + 1, 4, none⟩ = some (.slice none 0 0) := EB.out.cell 4; have EF4 : w5.frozen? ⟨w3.heap.size + 1, 4, none⟩ = false := EB.out.free 4; have HBE := Lib.hid (show w3.heap.size ≤ w3.heap.size + 1 by omega); have ZK := Lib.hid (fun u0 u1 u2 u3 u4 : Value => (⟨s5_cell z1 (by as_aux_lemma => omega), s5_cell z2 (by as_aux_lemma => omega), s5_cell z5 (by as_aux_lemma => omega), s5_cell z6 (by as_aux_lemma => omega), s5_cell z7 (by as_aux_lemma => omega)⟩ : ((((((w5.setCell ⟨w3.heap.size + 1, 0, none⟩ u0).setCell ⟨w3.heap.size + 1, 1, none⟩ u1).setCell ⟨w3.heap.size + 1, 2, none⟩ u2).setCell ⟨w3.heap.size + 1, 3, none⟩ u3).setCell ⟨w3.heap.size + 1, 4, none⟩ u4).cell? ⟨w.heap.size, 1, none⟩ = some (encStr v.key)) ∧ ((((((w5.setCell ⟨w3.heap.size + 1, 0, none⟩ u0).setCell ⟨w3.heap.size + 1, 1, none⟩ u1).setCell ⟨w3.heap.size + 1, 2, none⟩ u2).setCell ⟨w3.heap.size + 1, 3, none⟩ u3).setCell ⟨w3.heap.size + 1, 4, none⟩ u4).cell? ⟨w.heap.size, 2, none⟩ = some (.int .i64 v.gen)) ∧ ((((((w5.setCell ⟨w3.heap.size + 1, 0, none⟩ u0).setCell ⟨w3.heap.size + 1, 1, none⟩ u1).setCell ⟨w3.heap.size + 1, 2, none⟩ u2).setCell ⟨w3.heap.size + 1, 3, none⟩ u3).setCell ⟨w3.heap.size + 1, 4, none⟩ u4).cell? ⟨w.heap.size, 5, none⟩ = some (encStr v.sum)) ∧ ((((((w5.setCell ⟨w3.heap.size + 1, 0, none⟩ u0).setCell ⟨w3.heap.size + 1, 1, none⟩ u1).setCell ⟨w3.heap.size + 1, 2, none⟩ u2).setCell ⟨w3.heap.size + 1, 3, none⟩ u3).setCell ⟨w3.heap.size + 1, 4, none⟩ u4).cell? ⟨w.heap.size, 6, none⟩ = some (.int .i64 v.size)) ∧ ((((((w5.setCell ⟨w3.heap.size + 1, 0, none⟩ u0).setCell ⟨w3.heap.size + 1, 1, none⟩ u1).setCell ⟨w3.heap.size + 1, 2, none⟩ u2).setCell ⟨w3.heap.size + 1, 3, none⟩ u3).setCell ⟨w3.heap.size + 1, 4, none⟩ u4).cell? ⟨w.heap.size, 7, none⟩ = some (.slice Q qn qc)))); clear hown5 hgr5) | (refine step_append_any _ rfl (.tmp 93) (.tmp 95) 30 rfl w3.heap.size 95 i0 _ 2 16 Tryz.underlying30 hi0 hz0 hz1 hz2 rfl (by as_aux_lemma => omega) (.slice (some ⟨w3.heap.size, 0, none⟩) 0 0) 0 [] rfl (by exact own_d1 w3 _ 2) Q qn qc (placeVals v.places) rfl (by rw [placeVals_len, HPL.out]) HQN.out (by exact SRB.out _ (below_a1 w3 _)) (placeVals_one _) (by as_aux_lemma => (simp only [maxLen]; omega)) (by as_aux_lemma => omega) (by first | omega | (simp; omega) | simp) ?_; intro B5 c5 w5 hown5 hgr5; have O5 := Lib.hid (show w5.ownsRow w3.heap.size 95 2 (.slice B5 qn c5) qn (placeVals v.places) by simpa using hown5); have C5 := Lib.hid (show Below w3.heap.size w3 w5 from grown_d1 (by exact hgr5)); have hn5 : w.heap.size < w5.heap.size := Nat.lt_of_lt_of_le hnb3 C5.out.size; have z1 : w5.cell? ⟨w.heap.size, 1, none⟩ = some (encStr v.key) := (C5.out.cell (p := ⟨w.heap.size, 1, none⟩) hnb3).trans y1; have z2 : w5.cell? ⟨w.heap.size, 2, none⟩ = some (.int .i64 v.gen) := (C5.out.cell (p := ⟨w.heap.size, 2, none⟩) hnb3).trans y2; have z5 : w5.cell? ⟨w.heap.size, 5, none⟩ = some (encStr v.sum) := (C5.out.cell (p := ⟨w.heap.size, 5, none⟩) hnb3).trans y5; have z6 : w5.cell? ⟨w.heap.size, 6, none⟩ = some (.int .i64 v.size) := (C5.out.cell (p := ⟨w.heap.size, 6, none⟩) hnb3).trans y6; have z7 : w5.cell? ⟨w.heap.size, 7, none⟩ = some (.slice Q qn qc) := (C5.out.cell (p := ⟨w.heap.size, 7, none⟩) hnb3).trans y7; have ZA := Lib.hid (fun o : Obj => (⟨al_cell z1 hn5, al_cell z2 hn5, al_cell z5 hn5, al_cell z6 hn5, al_cell z7 hn5⟩ : (w5.alloc o).cell? ⟨w.heap.size, 1, none⟩ = some (encStr v.key) ∧ (w5.alloc o).cell? ⟨w.heap.size, 2, none⟩ = some (.int .i64 v.gen) ∧ (w5.alloc o).cell? ⟨w.heap.size, 5, none⟩ = some (encStr v.sum) ∧ (w5.alloc o).cell? ⟨w.heap.size, 6, none⟩ = some (.int .i64 v.size) ∧ (w5.alloc o).cell? ⟨w.heap.size, 7, none⟩ = some (.slice Q qn qc))); have ZB := Lib.hid (show Blk (w5.alloc (.cells #[encStr v.key, .int .i64 v.gen, .int .i64 v.size, encStr v.sum, .slice B5 qn c5] 43)) w5.heap.size 43 #[encStr v.key, .int .i64 v.gen, .int .i64 v.size, encStr v.sum, .slice B5 qn c5] ∧ (w5.alloc (.cells #[encStr v.key, .int .i64 v.gen, .int .i64 v.size, encStr v.sum, .slice B5 qn c5] 43)).ownsRow w3.heap.size 95 2 (.slice B5 qn c5) qn (placeVals v.places) ∧ Below w3.heap.size w3 (w5.alloc (.cells #[encStr v.key, .int .i64 v.gen, .int .i64 v.size, encStr v.sum, .slice B5 qn c5] 43)) from ⟨Blk.made w5 _ _, O5.out.alloc _, C5.out.alloc C5.out.size _⟩); clear hown5 hgr5)
        clear hHeld
        refine hK.out _ _ ⟨z1, z2, z5, z6, z7⟩ (fun hHeld => ?_)
        clear hK K
        refine wpAnyH_take (i := 12) (v := ?vP12n1b8b1312) (take_list rfl) (by as_aux_lemma => kernel_rfl) (by as_aux_lemma => kernel_rfl) (by as_aux_lemma => kernel_rfl) (fun _ _ _ h => h) (Or.inl ⟨by rfl, ?hyP12n1b8b1312⟩) (by assumption) ?restP12n1b8b1312
        case hyP12n1b8b1312 => (intro w hSw; (try dsimp only at hSw); go_simp <;> with_reducible rfl)
        refine wpAnyH_ready (rs := [14]) (by as_aux_lemma => kernel_rfl) (by simp) ?_
        refine AllReadyH.cons rfl (fun K hK => ?_) AllReadyH.nil
        go_simp
        clear hHeld
        refine hK.out _ _ (by first | exact ZK.out _ _ _ _ _ | exact ZA.out _) (fun hHeld => ?_)
        clear hK K
        refine wpAnyH_done (by as_aux_lemma => kernel_rfl) ?_ _
        go_wp2_with fail
        go_meet
        first | exact ⟨_, B5, c5, rfl, HBE.out, s5_blk EB.out, s5_own O5.out EB.out (by decide), s5_below C5.out HBE.out⟩ | exact ⟨w5.heap.size, B5, c5, rfl, C5.out.size, ZB.out.1, ZB.out.2.1, ZB.out.2.2⟩
    · go_simp
      clear hHeld
      refine hK.out _ _ (by (try dsimp only); go_keep) (fun hHeld => ?_)
      clear hK K
      refine wpAnyH_ready (rs := [8]) (by as_aux_lemma => kernel_rfl) (by simp) ?_
      refine AllReadyH.cons rfl (fun K hK => ?_) AllReadyH.nil
      go_simp
      clear hHeld
      refine hK.out _ _ (by (try dsimp only); go_keep) (fun hHeld => ?_)
      clear hK K
      refine wpAnyH_ready (rs := [11]) (by as_aux_lemma => kernel_rfl) (by simp) ?_
      refine AllReadyH.cons rfl (fun K hK => ?_) AllReadyH.nil
      first | (refine step_append_any _ rfl (.tmp 93) (.tmp 95) 30 rfl w3.heap.size 95 i0 _ 2 16 Tryz.underlying30 hi0 hz0 hz1 hz2 rfl (by as_aux_lemma => omega) (.slice (some ⟨w3.heap.size + 1, 0, none⟩) 0 0) 0 [] rfl (by exact own_d3 w3 _ 2 _) Q qn qc (placeVals v.places) rfl (by rw [placeVals_len, HPL.out]) HQN.out (by exact SRB.out _ (below_a2 w3 _ _)) (placeVals_one _) (by as_aux_lemma => (simp only [maxLen]; omega)) (by as_aux_lemma => omega) (by first | omega | (simp; omega) | simp) ?_; intro B5 c5 w5 hown5 hgr5; have O5 := Lib.hid (show w5.ownsRow w3.heap.size 95 2 (.slice B5 qn c5) qn (placeVals v.places) by simpa using hown5); have C5 := Lib.hid (show Below w3.heap.size w3 w5 from grown_d3 (by exact hgr5)); have hn5 : w.heap.size < w5.heap.size := Nat.lt_of_lt_of_le hnb3 C5.out.size; have z1 : w5.cell? ⟨w.heap.size, 1, none⟩ = some (encStr v.key) := (C5.out.cell (p := ⟨w.heap.size, 1, none⟩) hnb3).trans y1; have z2 : w5.cell? ⟨w.heap.size, 2, none⟩ = some (.int .i64 v.gen) := (C5.out.cell (p := ⟨w.heap.size, 2, none⟩) hnb3).trans y2; have z5 : w5.cell? ⟨w.heap.size, 5, none⟩ = some (encStr v.sum) := (C5.out.cell (p := ⟨w.heap.size, 5, none⟩) hnb3).trans y5; have z6 : w5.cell? ⟨w.heap.size, 6, none⟩ = some (.int .i64 v.size) := (C5.out.cell (p := ⟨w.heap.size, 6, none⟩) hnb3).trans y6; have z7 : w5.cell? ⟨w.heap.size, 7, none⟩ = some (.slice Q qn qc) := (C5.out.cell (p := ⟨w.heap.size, 7, none⟩) hnb3).trans y7; have EB := Lib.hid (show Blk w5 w3.heap.size 43 #[.string ⟨#[]⟩, .int .i64 0, .int .i64 0, .string ⟨#[]⟩, .slice none 0 0] from ent_a3 (by exact hgr5)); have EK0 : w5.cell? ⟨w3.heap.size, 0, none⟩ = some (.string ⟨#[]⟩) := EB.out.cell 0; have EF0 : w5.frozen? ⟨w3.heap.size, 0, none⟩ = false := EB.out.free 0; have EK1 : w5.cell? ⟨w3.heap.size, 1, none⟩ = some (.int .i64 0) := EB.out.cell 1; have EF1 : w5.frozen? ⟨w3.heap.size, 1, none⟩ = false := EB.out.free 1; have EK2 : w5.cell? ⟨w3.heap.size, 2, none⟩ = some (.int .i64 0) := EB.out.cell 2; have EF2 : w5.frozen? ⟨w3.heap.size, 2, none⟩ = false := EB.out.free 2; have EK3 : w5.cell? ⟨w3.heap.size, 3, none⟩ = some (.string ⟨#[]⟩) := EB.out.cell 3; have EF3 : w5.frozen? ⟨w3.heap.size, 3, none⟩ = false := EB.out.free 3; have EK4 : w5.cell? ⟨w3.heap.size, 4, none⟩ = some (.slice none 0 0) := EB.out.cell 4; have EF4 : w5.frozen? ⟨w3.heap.size, 4, none⟩ = false := EB.out.free 4; have HBE := Lib.hid (show w3.heap.size ≤ w3.heap.size by omega); have ZK := Lib.hid (fun u0 u1 u2 u3 u4 : Value => (⟨s5_cell z1 (by as_aux_lemma => omega), s5_cell z2 (by as_aux_lemma => omega), s5_cell z5 (by as_aux_lemma => omega), s5_cell z6 (by as_aux_lemma => omega), s5_cell z7 (by as_aux_lemma => omega)⟩ : ((((((w5.setCell ⟨w3.heap.size, 0, none⟩ u0).setCell ⟨w3.heap.size, 1, none⟩ u1).setCell ⟨w3.heap.size, 2, none⟩ u2).setCell ⟨w3.heap.size, 3, none⟩ u3).setCell ⟨w3.heap.size, 4, none⟩ u4).cell? ⟨w.heap.size, 1, none⟩ = some (encStr v.key)) ∧ ((((((w5.setCell ⟨w3.heap.size, 0, none⟩ u0).setCell ⟨w3.heap.size, 1, none⟩ u1).setCell ⟨w3.heap.size, 2, none⟩ u2).setCell ⟨w3.heap.size, 3, none⟩ u3).setCell ⟨w3.heap.size, 4, none⟩ u4).cell? ⟨w.heap.size, 2, none⟩ = some (.int .i64 v.gen)) ∧ ((((((w5.setCell ⟨w3.heap.size, 0, none⟩ u0).setCell ⟨w3.heap.size, 1, none⟩ u1).setCell ⟨w3.heap.size, 2, none⟩ u2).setCell ⟨w3.heap.size, 3, none⟩ u3).setCell ⟨w3.heap.size, 4, none⟩ u4).cell? ⟨w.heap.size, 5, none⟩ = some (encStr v.sum)) ∧ ((((((w5.setCell ⟨w3.heap.size, 0, none⟩ u0).setCell ⟨w3.heap.size, 1, none⟩ u1).setCell ⟨w3.heap.size, 2, none⟩ u2).setCell ⟨w3.heap.size, 3, none⟩ u3).setCell ⟨w3.heap.size, 4, none⟩ u4).cell? ⟨w.heap.size, 6, none⟩ = some (.int .i64 v.size)) ∧ ((((((w5.setCell ⟨w3.heap.size, 0, none⟩ u0).setCell ⟨w3.heap.size, 1, none⟩ u1).setCell ⟨w3.heap.size, 2, none⟩ u2).setCell ⟨w3.heap.size, 3, none⟩ u3).setCell ⟨w3.heap.size, 4, none⟩ u4).cell? ⟨w.heap.size, 7, none⟩ = some (.slice Q qn qc)))); clear hown5 hgr5) | (refine step_append_any _ rfl (.tmp 93) (.tmp 95) 30 rfl w3.heap.size 95 i0 _ 2 16 Tryz.underlying30 hi0 hz0 hz1 hz2 rfl (by as_aux_lemma => omega) (.slice (some ⟨w3.heap.size, 0, none⟩) 0 0) 0 [] rfl (by exact own_d2 w3 _ 2 _) Q qn qc (placeVals v.places) rfl (by rw [placeVals_len, HPL.out]) HQN.out (by exact SRB.out _ (below_a2 w3 _ _)) (placeVals_one _) (by as_aux_lemma => (simp only [maxLen]; omega)) (by as_aux_lemma => omega) (by first | omega | (simp; omega) | simp) ?_; intro B5 c5 w5 hown5 hgr5; have O5 := Lib.hid (show w5.ownsRow w3.heap.size 95 2 (.slice B5 qn c5) qn (placeVals v.places) by simpa using hown5); have C5 := Lib.hid (show Below w3.heap.size w3 w5 from grown_d2 (by exact hgr5)); have hn5 : w.heap.size < w5.heap.size := Nat.lt_of_lt_of_le hnb3 C5.out.size; have z1 : w5.cell? ⟨w.heap.size, 1, none⟩ = some (encStr v.key) := (C5.out.cell (p := ⟨w.heap.size, 1, none⟩) hnb3).trans y1; have z2 : w5.cell? ⟨w.heap.size, 2, none⟩ = some (.int .i64 v.gen) := (C5.out.cell (p := ⟨w.heap.size, 2, none⟩) hnb3).trans y2; have z5 : w5.cell? ⟨w.heap.size, 5, none⟩ = some (encStr v.sum) := (C5.out.cell (p := ⟨w.heap.size, 5, none⟩) hnb3).trans y5; have z6 : w5.cell? ⟨w.heap.size, 6, none⟩ = some (.int .i64 v.size) := (C5.out.cell (p := ⟨w.heap.size, 6, none⟩) hnb3).trans y6; have z7 : w5.cell? ⟨w.heap.size, 7, none⟩ = some (.slice Q qn qc) := (C5.out.cell (p := ⟨w.heap.size, 7, none⟩) hnb3).trans y7; have EB := Lib.hid (show Blk w5 (w3.heap.size + 1) 43 #[.string ⟨#[]⟩, .int .i64 0, .int .i64 0, .string ⟨#[]⟩, .slice none 0 0] from ent_a2 (by exact hgr5)); have EK0 : w5.cell? ⟨w3.heap.size + 1, 0, none⟩ = some (.string ⟨#[]⟩) := EB.out.cell 0; have EF0 : w5.frozen? ⟨w3.heap.size + 1, 0, none⟩ = false := EB.out.free 0; have EK1 : w5.cell? ⟨w3.heap.size + 1, 1, none⟩ = some (.int .i64 0) := EB.out.cell 1; have EF1 : w5.frozen? ⟨w3.heap.size + 1, 1, none⟩ = false := EB.out.free 1; have EK2 : w5.cell? ⟨w3.heap.size + 1, 2, none⟩ = some (.int .i64 0) := EB.out.cell 2; have EF2 : w5.frozen? ⟨w3.heap.size + 1, 2, none⟩ = false := EB.out.free 2; have EK3 : w5.cell? ⟨w3.heap.size + 1, 3, none⟩ = some (.string ⟨#[]⟩) := EB.out.cell 3; have EF3 : w5.frozen? ⟨w3.heap.size + 1, 3, none⟩ = false := EB.out.free 3; have EK4 : w5.cell? ⟨w3.heap.size + 1, 4, none⟩ = some (.slice none 0 0) := EB.out.cell 4; have EF4 : w5.frozen? ⟨w3.heap.size + 1, 4, none⟩ = false := EB.out.free 4; have HBE := Lib.hid (show w3.heap.size ≤ w3.heap.size + 1 by omega); have ZK := Lib.hid (fun u0 u1 u2 u3 u4 : Value => (⟨s5_cell z1 (by as_aux_lemma => omega), s5_cell z2 (by as_aux_lemma => omega), s5_cell z5 (by as_aux_lemma => omega), s5_cell z6 (by as_aux_lemma => omega), s5_cell z7 (by as_aux_lemma => omega)⟩ : ((((((w5.setCell ⟨w3.heap.size + 1, 0, none⟩ u0).setCell ⟨w3.heap.size + 1, 1, none⟩ u1).setCell ⟨w3.heap.size + 1, 2, none⟩ u2).setCell ⟨w3.heap.size + 1, 3, none⟩ u3).setCell ⟨w3.heap.size + 1, 4, none⟩ u4).cell? ⟨w.heap.size, 1, none⟩ = some (encStr v.key)) ∧ ((((((w5.setCell ⟨w3.heap.size + 1, 0, none⟩ u0).setCell ⟨w3.heap.size + 1, 1, none⟩ u1).setCell ⟨w3.heap.size + 1, 2, none⟩ u2).setCell ⟨w3.heap.size + 1, 3, none⟩ u3).setCell ⟨w3.heap.size + 1, 4, none⟩ u4).cell? ⟨w.heap.size, 2, none⟩ = some (.int .i64 v.gen)) ∧ ((((((w5.setCell ⟨w3.heap.size + 1, 0, none⟩ u0).setCell ⟨w3.heap.size + 1, 1, none⟩ u1).setCell ⟨w3.heap.size + 1, 2, none⟩ u2).setCell ⟨w3.heap.size + 1, 3, none⟩ u3).setCell ⟨w3.heap.size + 1, 4, none⟩ u4).cell? ⟨w.heap.size, 5, none⟩ = some (encStr v.sum)) ∧ ((((((w5.setCell ⟨w3.heap.size + 1, 0, none⟩ u0).setCell ⟨w3.heap.size + 1, 1, none⟩ u1).setCell ⟨w3.heap.size + 1, 2, none⟩ u2).setCell ⟨w3.heap.size + 1, 3, none⟩ u3).setCell ⟨w3.heap.size + 1, 4, none⟩ u4).cell? ⟨w.heap.size, 6, none⟩ = some (.int .i64 v.size)) ∧ ((((((w5.setCell ⟨w3.heap.size + 1, 0, none⟩ u0).setCell ⟨w3.heap.size + 1, 1, none⟩ u1).setCell ⟨w3.heap.size + 1, 2, none⟩ u2).setCell ⟨w3.heap.size + 1, 3, none⟩ u3).setCell ⟨w3.heap.size + 1, 4, none⟩ u4).cell? ⟨w.heap.size, 7, none⟩ = some (.slice Q qn qc)))); clear hown5 hgr5) | (refine step_append_any _ rfl (.tmp 93) (.tmp 95) 30 rfl w3.heap.size 95 i0 _ 2 16 Tryz.underlying30 hi0 hz0 hz1 hz2 rfl (by as_aux_lemma => omega) (.slice (some ⟨w3.heap.size, 0, none⟩) 0 0) 0 [] rfl (by exact own_d1 w3 _ 2) Q qn qc (placeVals v.places) rfl (by rw [placeVals_len, HPL.out]) HQN.out (by exact SRB.out _ (below_a1 w3 _)) (placeVals_one _) (by as_aux_lemma => (simp only [maxLen]; omega)) (by as_aux_lemma => omega) (by first | omega | (simp; omega) | simp) ?_; intro B5 c5 w5 hown5 hgr5; have O5 := Lib.hid (show w5.ownsRow w3.heap.size 95 2 (.slice B5 qn c5) qn (placeVals v.places) by simpa using hown5); have C5 := Lib.hid (show Below w3.heap.size w3 w5 from grown_d1 (by exact hgr5)); have hn5 : w.heap.size < w5.heap.size := Nat.lt_of_lt_of_le hnb3 C5.out.size; have z1 : w5.cell? ⟨w.heap.size, 1, none⟩ = some (encStr v.key) := (C5.out.cell (p := ⟨w.heap.size, 1, none⟩) hnb3).trans y1; have z2 : w5.cell? ⟨w.heap.size, 2, none⟩ = some (.int .i64 v.gen) := (C5.out.cell (p := ⟨w.heap.size, 2, none⟩) hnb3).trans y2; have z5 : w5.cell? ⟨w.heap.size, 5, none⟩ = some (encStr v.sum) := (C5.out.cell (p := ⟨w.heap.size, 5, none⟩) hnb3).trans y5; have z6 : w5.cell? ⟨w.heap.size, 6, none⟩ = some (.int .i64 v.size) := (C5.out.cell (p := ⟨w.heap.size, 6, none⟩) hnb3).trans y6; have z7 : w5.cell? ⟨w.heap.size, 7, none⟩ = some (.slice Q qn qc) := (C5.out.cell (p := ⟨w.heap.size, 7, none⟩) hnb3).trans y7; have ZA := Lib.hid (fun o : Obj => (⟨al_cell z1 hn5, al_cell z2 hn5, al_cell z5 hn5, al_cell z6 hn5, al_cell z7 hn5⟩ : (w5.alloc o).cell? ⟨w.heap.size, 1, none⟩ = some (encStr v.key) ∧ (w5.alloc o).cell? ⟨w.heap.size, 2, none⟩ = some (.int .i64 v.gen) ∧ (w5.alloc o).cell? ⟨w.heap.size, 5, none⟩ = some (encStr v.sum) ∧ (w5.alloc o).cell? ⟨w.heap.size, 6, none⟩ = some (.int .i64 v.size) ∧ (w5.alloc o).cell? ⟨w.heap.size, 7, none⟩ = some (.slice Q qn qc))); have ZB := Lib.hid (show Blk (w5.alloc (.cells #[encStr v.key, .int .i64 v.gen, .int .i64 v.size, encStr v.sum, .slice B5 qn c5] 43)) w5.heap.size 43 #[encStr v.key, .int .i64 v.gen, .int .i64 v.size, encStr v.sum, .slice B5 qn c5] ∧ (w5.alloc (.cells #[encStr v.key, .int .i64 v.gen, .int .i64 v.size, encStr v.sum, .slice B5 qn c5] 43)).ownsRow w3.heap.size 95 2 (.slice B5 qn c5) qn (placeVals v.places) ∧ Below w3.heap.size w3 (w5.alloc (.cells #[encStr v.key, .int .i64 v.gen, .int .i64 v.size, encStr v.sum, .slice B5 qn c5] 43)) from ⟨Blk.made w5 _ _, O5.out.alloc _, C5.out.alloc C5.out.size _⟩); clear hown5 hgr5)
      clear hHeld
      refine hK.out _ _ ⟨z1, z2, z5, z6, z7⟩ (fun hHeld => ?_)
      clear hK K
      refine wpAnyH_take (i := 12) (v := ?vP12n1b1312) (take_list rfl) (by as_aux_lemma => kernel_rfl) (by as_aux_lemma => kernel_rfl) (by as_aux_lemma => kernel_rfl) (fun _ _ _ h => h) (Or.inl ⟨by rfl, ?hyP12n1b1312⟩) (by assumption) ?restP12n1b1312
      case hyP12n1b1312 => (intro w hSw; (try dsimp only at hSw); go_simp <;> with_reducible rfl)
      refine wpAnyH_ready (rs := [14]) (by as_aux_lemma => kernel_rfl) (by simp) ?_
      refine AllReadyH.cons rfl (fun K hK => ?_) AllReadyH.nil
      go_simp
      clear hHeld
      refine hK.out _ _ (by first | exact ZK.out _ _ _ _ _ | exact ZA.out _) (fun hHeld => ?_)
      clear hK K
      refine wpAnyH_done (by as_aux_lemma => kernel_rfl) ?_ _
      go_wp2_with fail
      go_meet
      first | exact ⟨_, B5, c5, rfl, HBE.out, s5_blk EB.out, s5_own O5.out EB.out (by decide), s5_below C5.out HBE.out⟩ | exact ⟨w5.heap.size, B5, c5, rfl, C5.out.size, ZB.out.1, ZB.out.2.1, ZB.out.2.2⟩
  case rest =>
  obtain ⟨be, PB, pc, rfl, hbe, hbb, hop, hb4⟩ := hcut
  obtain ⟨w4, rfl⟩ : ∃ w4 : World, w4 = wc := ⟨_, rfl⟩
  have EB := Lib.hid hbb
  have OP := Lib.hid hop
  have C4 := Lib.hid hb4
  have hz4 := hb4.size
  have hbl4 : be < w4.heap.size := hbb.size
  have hn4 : w.heap.size < w4.heap.size := Nat.lt_of_lt_of_le hnb3 hz4
  have z1 : w4.cell? ⟨w.heap.size, 1, none⟩ = some (encStr v.key) := (hb4.cell (p := ⟨w.heap.size, 1, none⟩) hnb3).trans y1
  obtain ⟨sw, sh, sb, st, sr, ER, hr3⟩ := C3.out
  obtain ⟨E1, hE1⟩ : ∃ E1, E1 = delL R.entries v.key := ⟨_, rfl⟩
  obtain ⟨R3, hR3⟩ : ∃ R3, R3 = dropR R v.key := ⟨_, rfl⟩
  have HR3 := Lib.hid (show { R with staged := delL R.staged v.key, entries := insE (delL R.entries v.key) (v.key, ⟨v.gen, v.size, v.sum, v.places⟩) } = { R3 with entries := insE E1 (v.key, ⟨v.gen, v.size, v.sum, v.places⟩) } by rw [hR3, hE1]; rfl)
  have hRE : R3.entries = E1 := by rw [hR3, hE1]; rfl
  rw [← hR3] at hr3
  obtain ⟨B, c, rfl, hnc, hcm, hB⟩ := own_form hr3.here.1
  have hpz : p < w3.heap.size := hr3.blk.size
  have hpz4 : p < w4.heap.size := Nat.lt_of_lt_of_le hpz hz4
  have cc3 : w3.cell? ⟨p, 1, none⟩ = some (.slice B R3.entries.length c) := hr3.blk.cell 1
  have cc : w4.cell? ⟨p, 1, none⟩ = some (.slice B R3.entries.length c) := (hb4.cell (p := ⟨p, 1, none⟩) hpz).trans cc3
  have hnN : R3.entries.length ≤ 10000 := by have := hr3.lens; omega
  have HERE := Lib.hid hr3.here.1
  have HER := Lib.hid (show ER.map (fun r => (r.key, r.e)) = E1 from hr3.ents.trans hRE)
  have HC := Lib.hid (show ∀ W : World, Below w4.heap.size w4 W → ∀ (j : Nat) x, E1[j]? = some x → ∃ g, B = some ⟨g, 0, none⟩ ∧ W.cell? ⟨g, j * 5, none⟩ = some (encStr x.1) from fun W hb j x hx => by
    have hx' := hx
    rw [← hRE] at hx
    have hlt : j < R3.entries.length := (List.getElem?_eq_some_iff.1 hx).1
    rcases hB with ⟨_, h0, _⟩ | ⟨g, rfl⟩
    · omega
    · have hg := (hr3.here.1.lt g rfl).2
      exact ⟨g, rfl, by
        obtain ⟨r, hr1, hr2⟩ := ent_at hr3.ents hx
        have h1 := hr3.here.row.cell (ent5_get hr1 0 (by omega))
        simp only [Nat.add_zero] at h1
        rw [hr2] at h1
        exact (hb.cell (p := ⟨g, j * 5, none⟩) (Nat.lt_of_lt_of_le hg hz4)).trans ((hb4.cell (p := ⟨g, j * 5, none⟩) hg).trans h1)⟩)
  have hB3 : (B = none ∧ R3.entries.length = 0 ∧ c = 0) ∨ ∃ g, B = some ⟨g, 0, none⟩ ∧ g < w3.heap.size := hB.imp id (fun ⟨g, h⟩ => ⟨g, h, by subst h; exact (hr3.here.1.lt g rfl).2⟩)
  have HBLK := Lib.hid hr3.blk
  have RR := Lib.hid hr3
  have hE1l : E1.length = R3.entries.length := by rw [hRE]
  generalize hnl : R3.entries.length = n at *
  have HNL := Lib.hid hnl
  have HL := Lib.hid hE1l
  have HEL := Lib.hid (show ER.length = n by have h := congrArg List.length HER.out; rw [List.length_map] at h; rw [h, hE1l])
  clear hE1 hR3 hRE hr3 hB hnl hE1l hbb hop hb4 cc3 hcm
  clear y1 y2 y5 y6 y7
  go_upto_block 0 with fail
  go_cut [6] (fun s wx => ∃ j : Nat, s = .int .i64 j ∧ j ≤ n ∧ E1.takeWhile (fun x => decide (x.1 < v.key)) = E1.take j ∧ E1.dropWhile (fun x => decide (x.1 < v.key)) = E1.drop j ∧ Below w4.heap.size w4 wx)
  case first =>
    go_wp2_with fail
    go_loopw [6] (fun i wx => ∃ j : Nat, i = .int .i64 j ∧ j ≤ n ∧ (∀ (t : Nat) y, t < j → E1[t]? = some y → y.1 < v.key) ∧ Below w4.heap.size w4 wx) (fun i _ => n - (intOf i).toNat)
    case atStart => exact ⟨0, rfl, Nat.zero_le _, fun t y ht _ => by omega, Below.refl _ _⟩
    case round =>
      obtain ⟨j, rfl, hj, hlo, hbj⟩ := hrel
      have LO := Lib.hid hlo
      have BJ := Lib.hid hbj
      have dcc : wr.cell? ⟨p, 1, none⟩ = some (.slice B n c) := (hbj.cell (p := ⟨p, 1, none⟩) hpz4).trans cc
      have dz1 : wr.cell? ⟨w.heap.size, 1, none⟩ = some (encStr v.key) := (hbj.cell (p := ⟨w.heap.size, 1, none⟩) hn4).trans z1
      clear hlo
      by_cases hlt : j < n
      · have d3 : decide (j < n) = true := by simpa using hlt
        obtain ⟨y, hy⟩ : ∃ y, E1[j]? = some y := ⟨_, List.getElem?_eq_getElem (by rw [HL.out]; exact hlt)⟩
        obtain ⟨g, rfl, k0⟩ := HC.out wr hbj j y hy
        have HY := Lib.hid hy
        clear hy hbj hB3
        by_cases hls : y.1 < v.key
        · have hb : Op.bytesLess y.1 v.key = true := by rw [bytesLess_eq]; simpa using hls
          have hb2 : Op.bytesLess (ByteArray.mk y.1.toArray).toList (ByteArray.mk v.key.toArray).toList = true := by rw [ByteArray.toList_mk, ByteArray.toList_mk]; exact hb
          have HLS := Lib.hid hls
          clear hls
          go_wp2_with fail
          go_quiet (fail)
          go_wp2_with fail
          go_roundw
          case rel => exact ⟨j + 1, by go_num, hlt, fun t z ht hz => by
            rcases Nat.lt_succ_iff_lt_or_eq.1 ht with h | h
            · exact LO.out t z h hz
            · rw [h, HY.out] at hz
              cases hz
              exact HLS.out, below_drewN BJ.out _⟩
          case measure => simp [intOf]; omega
        · have hb : Op.bytesLess y.1 v.key = false := by rw [bytesLess_eq]; simpa using hls
          have hb2 : Op.bytesLess (ByteArray.mk y.1.toArray).toList (ByteArray.mk v.key.toArray).toList = false := by rw [ByteArray.toList_mk, ByteArray.toList_mk]; exact hb
          have TW := Lib.hid (tw_at (p := fun x : Str × EntV => decide (x.1 < v.key)) (l := E1) (i := j) (fun t z ht hz => decide_eq_true (LO.out t z ht hz)) (by rw [HL.out]; exact hj) (fun z hz => by rw [HY.out] at hz; cases hz; exact decide_eq_false hls))
          clear hls
          go_wp2_with fail
          go_quiet (fail)
          go_wp2_with fail
          go_meet
          exact ⟨j, rfl, hj, TW.out.1, TW.out.2, below_drewN BJ.out _⟩
      · have d3 : decide (j < n) = false := by simpa using hlt
        obtain rfl : j = n := by omega
        have TW := Lib.hid (tw_at (p := fun x : Str × EntV => decide (x.1 < v.key)) (l := E1) (i := j) (fun t z ht hz => decide_eq_true (LO.out t z ht hz)) (by rw [HL.out]; exact hj) (fun z hz => by rw [List.getElem?_eq_none (by rw [HL.out]; exact Nat.le_refl _)] at hz; cases hz))
        clear hbj hB3
        go_wp2_with fail
        go_quiet (fail)
        go_wp2_with fail
        go_meet
        exact ⟨j, rfl, hj, TW.out.1, TW.out.2, below_drewN BJ.out _⟩
  case rest =>
  obtain ⟨j, rfl, hjn, htw, hdw, hbw⟩ := hcut
  obtain ⟨wm, rfl⟩ : ∃ wm : World, wm = wc := ⟨_, rfl⟩
  have HI := Lib.hid (show insE E1 (v.key, ⟨v.gen, v.size, v.sum, v.places⟩) = E1.take j ++ (v.key, ⟨v.gen, v.size, v.sum, v.places⟩) :: E1.drop j by unfold insE; rw [htw, hdw])
  have BM := Lib.hid (C4.out.trans (hbw.mono hz4))
  have hzm := hbw.size
  have hzm3 : w3.heap.size ≤ wm.heap.size := Nat.le_trans hz4 hzm
  have OM := Lib.hid (show wm.ownsRow 0 43 5 (.slice B n c) n (ent5 ER) by
    have h := HERE.out
    exact own_of_eq h (fun q hq => BM.out.block q (h.lt q hq).2))
  have EBM := Lib.hid (EB.out.below hbw hbl4)
  have OPM := Lib.hid (show wm.ownsRow w3.heap.size 95 2 (.slice PB qn pc) qn (placeVals v.places) from own_of_eq OP.out (fun q hq => hbw.block q (OP.out.lt q hq).2))
  have ecc : wm.cell? ⟨p, 1, none⟩ = some (.slice B n c) := (hbw.cell (p := ⟨p, 1, none⟩) hpz4).trans cc
  have x0 : wm.cell? ⟨be, 0, none⟩ = some (encStr v.key) := EBM.out.cell 0
  have x1 : wm.cell? ⟨be, 1, none⟩ = some (.int .i64 v.gen) := EBM.out.cell 1
  have x2 : wm.cell? ⟨be, 2, none⟩ = some (.int .i64 v.size) := EBM.out.cell 2
  have x3 : wm.cell? ⟨be, 3, none⟩ = some (encStr v.sum) := EBM.out.cell 3
  have x4 : wm.cell? ⟨be, 4, none⟩ = some (.slice PB qn pc) := EBM.out.cell 4
  have hpm : p < wm.heap.size := Nat.lt_of_lt_of_le hpz hzm3
  have hbm : be < wm.heap.size := EBM.out.size
  have hB2 : (B = none ∧ n = 0 ∧ c = 0) ∨ ∃ g, B = some ⟨g, 0, none⟩ ∧ g < wm.heap.size := hB3.imp id (fun ⟨g, h1, h3⟩ => ⟨g, h1, Nat.lt_of_lt_of_le h3 hzm3⟩)
  obtain ⟨i1, hi1, hy0, hy1, hy2⟩ := info_parts entC_info
  clear cc z1 htw hdw hbw hB3 HC hpz4 hn4
  clear hi0 hz0 hz1 hz2
  obtain ⟨i0, hi0, hz0, hz1, hz2⟩ := info_parts entC_info
  go_upto_region 16 with fail
  go_cut [7] (fun s wx => ∃ B6 c6, s = .slice B6 (j + 1) c6 ∧ wx.ownsRow wm.heap.size 43 5 (.slice B6 (j + 1) c6) (j + 1) (ent5 (ER.take j) ++ [encStr v.key, .int .i64 v.gen, .int .i64 v.size, encStr v.sum, .slice PB qn pc]) ∧ Below wm.heap.size wm wx)
  case first =>
    have hjc : (j : Int) ≤ (c : Int) := by rcases hB2 with ⟨_, h0, _⟩ | ⟨g, rfl, _⟩ <;> omega
    have HBJ := Lib.hid (show B = none → j = 0 from fun e => by
      rcases hB2 with ⟨_, h0, _⟩ | ⟨g, h, _⟩
      · omega
      · rw [h] at e
        cases e)
    have HB2 := Lib.hid (show (B = none ∧ j = 0 ∧ c = 0) ∨ ∃ g, B = some ⟨g, 0, none⟩ from hB2.imp (fun h => ⟨h.1, by omega, h.2.2⟩) (fun ⟨g, h, _⟩ => ⟨g, h⟩))
    have SRG := Lib.hid (show ∀ W : World, Below wm.heap.size wm W → SrcAt W B j (ent5 (ER.take j)) from fun W hb => by
      rcases hB2 with ⟨_, h0, _⟩ | ⟨g, rfl, hgl⟩
      · have h1 : j = 0 := by omega
        rw [h1]
        exact .inl ⟨rfl, rfl⟩
      · exact src_below (own_src OM.out 0 j (ent5 (ER.take j)) (ent5_take _ _)) (fun b off e => by cases e; exact hgl) hb)
    clear hB2
    refine wp_region_held_drew (S := (fun w' => w'.cell? ⟨p, 1, none⟩ = some (.slice B n c) ∧ w'.cell? ⟨be, 0, none⟩ = some (encStr v.key) ∧ w'.cell? ⟨be, 1, none⟩ = some (.int .i64 v.gen) ∧ w'.cell? ⟨be, 2, none⟩ = some (.int .i64 v.size) ∧ w'.cell? ⟨be, 3, none⟩ = some (encStr v.sum) ∧ w'.cell? ⟨be, 4, none⟩ = some (.slice PB qn pc))) (by as_aux_lemma => kernel_rfl) ⟨ecc, x0, x1, x2, x3, x4⟩ (fun hHeld => ?_)
    refine wpAnyH_take (i := 1) (v := ?vS16n21) (take_list rfl) (by as_aux_lemma => kernel_rfl) (by as_aux_lemma => kernel_rfl) (by as_aux_lemma => kernel_rfl) (fun _ _ _ h => h) (Or.inl ⟨by rfl, ?hyS16n21⟩) (by assumption) ?restS16n21
    case hyS16n21 => (intro w hSw; (try dsimp only at hSw); go_simp <;> with_reducible rfl)
    try simp only [Act.put, pt1, pt2, pt3]
    refine wpAnyH_take (i := 2) (v := ?vS16n22) (take_list rfl) (by as_aux_lemma => kernel_rfl) (by as_aux_lemma => kernel_rfl) (by as_aux_lemma => kernel_rfl) (fun _ _ _ h => h) (Or.inl ⟨by rfl, ?hyS16n22⟩) (by assumption) ?restS16n22
    case hyS16n22 => (intro w hSw; (try dsimp only at hSw); go_simp <;> with_reducible rfl)
    try simp only [Act.put, pt1, pt2, pt3]
    refine wpAnyH_take (i := 3) (v := ?vS16n23) (take_list rfl) (by as_aux_lemma => kernel_rfl) (by as_aux_lemma => kernel_rfl) (by as_aux_lemma => kernel_rfl) (fun _ _ _ h => h) (Or.inl ⟨by rfl, ?hyS16n23⟩) (by assumption) ?restS16n23
    case hyS16n23 => (intro w hSw; (try dsimp only at hSw); go_simp <;> with_reducible rfl)
    try simp only [Act.put, pt1, pt2, pt3]
    refine wpAnyH_take (i := 4) (v := ?vS16n24) (take_list rfl) (by as_aux_lemma => kernel_rfl) (by as_aux_lemma => kernel_rfl) (by as_aux_lemma => kernel_rfl) (fun _ _ _ h => h) (Or.inl ⟨by rfl, ?hyS16n24⟩) (by assumption) ?restS16n24
    case hyS16n24 => (intro w hSw; (try dsimp only at hSw); go_simp <;> with_reducible rfl)
    try simp only [Act.put, pt1, pt2, pt3]
    refine wpAnyH_take (i := 5) (v := ?vS16n25) (take_list rfl) (by as_aux_lemma => kernel_rfl) (by as_aux_lemma => kernel_rfl) (by as_aux_lemma => kernel_rfl) (fun _ _ _ h => h) (Or.inl ⟨by rfl, ?hyS16n25⟩) (by assumption) ?restS16n25
    case hyS16n25 => (intro w hSw; (try dsimp only at hSw); go_simp <;> with_reducible rfl)
    try simp only [Act.put, pt1, pt2, pt3]
    refine wpAnyH_take (i := 6) (v := Value.slice B j c) (take_list rfl) (by as_aux_lemma => kernel_rfl) (by as_aux_lemma => kernel_rfl) (by as_aux_lemma => kernel_rfl) (fun _ _ _ h => h) (Or.inl ⟨by rfl, ?hyS16n26⟩) (by assumption) ?restS16n26
    case hyS16n26 => (intro w hSw; (try dsimp only at hSw); rcases HB2.out with ⟨rfl, rfl, rfl⟩ | ⟨g, rfl⟩ <;> go_simp <;> (first | rfl | simp))
    try simp only [Act.put, pt1, pt2, pt3]
    refine wpAnyH_take (i := 8) (v := ?vS16n28) (take_list rfl) (by as_aux_lemma => kernel_rfl) (by as_aux_lemma => kernel_rfl) (by as_aux_lemma => kernel_rfl) (fun _ _ _ h => h) (Or.inl ⟨by rfl, ?hyS16n28⟩) (by assumption) ?restS16n28
    case hyS16n28 => (intro w hSw; (try dsimp only at hSw); go_simp <;> with_reducible rfl)
    try simp only [Act.put, pt1, pt2, pt3]
    refine wpAnyH_ready (rs := [0, 9]) (by as_aux_lemma => kernel_rfl) (by simp) ?_
    refine AllReadyH.cons rfl (fun K hK => ?_) (AllReadyH.cons rfl (fun K hK => ?_) AllReadyH.nil)
    · go_simp
      clear hHeld
      refine hK.out _ _ (by (try dsimp only); go_keep) (fun hHeld => ?_)
      clear hK K
      refine wpAnyH_ready (rs := [7, 9]) (by as_aux_lemma => kernel_rfl) (by simp) ?_
      refine AllReadyH.cons rfl (fun K hK => ?_) (AllReadyH.cons rfl (fun K hK => ?_) AllReadyH.nil)
      · first | (refine step_append_any _ rfl (.tmp 120) (.tmp 126) 38 rfl wm.heap.size 43 i0 _ 5 72 Tryz.underlying38 hi0 hz0 hz1 hz2 rfl (by as_aux_lemma => omega) (.slice (some ⟨wm.heap.size, 0, none⟩) 0 0) 0 [] rfl (by exact own_d1 wm _ 5) B j c ((ent5 (ER.take j))) rfl (by rw [ent5_len, List.length_take, HEL.out, Nat.min_eq_left (by as_aux_lemma => omega)]) (HBJ.out) (by exact SRG.out _ (below_a1 wm _)) (ent5_one _) (by as_aux_lemma => (simp only [maxLen]; omega)) (by as_aux_lemma => omega) (by first | omega | (simp; omega) | simp) ?_; intro B5 c5 w5 hown5 hgr5; have O5 := Lib.hid (show w5.ownsRow wm.heap.size 43 5 (.slice B5 j c5) j ((ent5 (ER.take j))) by simpa using hown5); have C5 := Lib.hid (show Below wm.heap.size wm w5 from grown_d1 (by exact hgr5)); have ya0 : w5.cell? ⟨p, 1, none⟩ = some (.slice B n c) := (C5.out.cell (p := ⟨p, 1, none⟩) hpm).trans ecc; have ya1 : w5.cell? ⟨be, 0, none⟩ = some (encStr v.key) := (C5.out.cell (p := ⟨be, 0, none⟩) hbm).trans x0; have ya2 : w5.cell? ⟨be, 1, none⟩ = some (.int .i64 v.gen) := (C5.out.cell (p := ⟨be, 1, none⟩) hbm).trans x1; have ya3 : w5.cell? ⟨be, 2, none⟩ = some (.int .i64 v.size) := (C5.out.cell (p := ⟨be, 2, none⟩) hbm).trans x2; have ya4 : w5.cell? ⟨be, 3, none⟩ = some (encStr v.sum) := (C5.out.cell (p := ⟨be, 3, none⟩) hbm).trans x3; have ya5 : w5.cell? ⟨be, 4, none⟩ = some (.slice PB qn pc) := (C5.out.cell (p := ⟨be, 4, none⟩) hbm).trans x4; clear hown5 hgr5) | (refine step_append_any _ rfl (.tmp 120) (.tmp 126) 38 rfl wm.heap.size 43 i0 _ 5 72 Tryz.underlying38 hi0 hz0 hz1 hz2 rfl (by as_aux_lemma => omega) (.slice (some ⟨wm.heap.size, 0, none⟩) 0 0) 0 [] rfl (by exact own_d2 wm _ 5 _) B j c ((ent5 (ER.take j))) rfl (by rw [ent5_len, List.length_take, HEL.out, Nat.min_eq_left (by as_aux_lemma => omega)]) (HBJ.out) (by exact SRG.out _ (below_a2 wm _ _)) (ent5_one _) (by as_aux_lemma => (simp only [maxLen]; omega)) (by as_aux_lemma => omega) (by first | omega | (simp; omega) | simp) ?_; intro B5 c5 w5 hown5 hgr5; have O5 := Lib.hid (show w5.ownsRow wm.heap.size 43 5 (.slice B5 j c5) j ((ent5 (ER.take j))) by simpa using hown5); have C5 := Lib.hid (show Below wm.heap.size wm w5 from grown_d2 (by exact hgr5)); have ya0 : w5.cell? ⟨p, 1, none⟩ = some (.slice B n c) := (C5.out.cell (p := ⟨p, 1, none⟩) hpm).trans ecc; have ya1 : w5.cell? ⟨be, 0, none⟩ = some (encStr v.key) := (C5.out.cell (p := ⟨be, 0, none⟩) hbm).trans x0; have ya2 : w5.cell? ⟨be, 1, none⟩ = some (.int .i64 v.gen) := (C5.out.cell (p := ⟨be, 1, none⟩) hbm).trans x1; have ya3 : w5.cell? ⟨be, 2, none⟩ = some (.int .i64 v.size) := (C5.out.cell (p := ⟨be, 2, none⟩) hbm).trans x2; have ya4 : w5.cell? ⟨be, 3, none⟩ = some (encStr v.sum) := (C5.out.cell (p := ⟨be, 3, none⟩) hbm).trans x3; have ya5 : w5.cell? ⟨be, 4, none⟩ = some (.slice PB qn pc) := (C5.out.cell (p := ⟨be, 4, none⟩) hbm).trans x4; have KS := Lib.hid (show SrcAt w5 (some ⟨wm.heap.size + 1, 0, none⟩) 1 [encStr v.key, .int .i64 v.gen, .int .i64 v.size, encStr v.sum, .slice PB qn pc] from src_k2 (cs := [encStr v.key, .int .i64 v.gen, .int .i64 v.size, encStr v.sum, .slice PB qn pc]) (m := 1) (by exact hgr5)); clear hown5 hgr5) | (refine step_append_any _ rfl (.tmp 120) (.tmp 126) 38 rfl wm.heap.size 43 i0 _ 5 72 Tryz.underlying38 hi0 hz0 hz1 hz2 rfl (by as_aux_lemma => omega) (.slice (some ⟨wm.heap.size + 1, 0, none⟩) 0 0) 0 [] rfl (by exact own_d3 wm _ 5 _) B j c ((ent5 (ER.take j))) rfl (by rw [ent5_len, List.length_take, HEL.out, Nat.min_eq_left (by as_aux_lemma => omega)]) (HBJ.out) (by exact SRG.out _ (below_a2 wm _ _)) (ent5_one _) (by as_aux_lemma => (simp only [maxLen]; omega)) (by as_aux_lemma => omega) (by first | omega | (simp; omega) | simp) ?_; intro B5 c5 w5 hown5 hgr5; have O5 := Lib.hid (show w5.ownsRow wm.heap.size 43 5 (.slice B5 j c5) j ((ent5 (ER.take j))) by simpa using hown5); have C5 := Lib.hid (show Below wm.heap.size wm w5 from grown_d3 (by exact hgr5)); have ya0 : w5.cell? ⟨p, 1, none⟩ = some (.slice B n c) := (C5.out.cell (p := ⟨p, 1, none⟩) hpm).trans ecc; have ya1 : w5.cell? ⟨be, 0, none⟩ = some (encStr v.key) := (C5.out.cell (p := ⟨be, 0, none⟩) hbm).trans x0; have ya2 : w5.cell? ⟨be, 1, none⟩ = some (.int .i64 v.gen) := (C5.out.cell (p := ⟨be, 1, none⟩) hbm).trans x1; have ya3 : w5.cell? ⟨be, 2, none⟩ = some (.int .i64 v.size) := (C5.out.cell (p := ⟨be, 2, none⟩) hbm).trans x2; have ya4 : w5.cell? ⟨be, 3, none⟩ = some (encStr v.sum) := (C5.out.cell (p := ⟨be, 3, none⟩) hbm).trans x3; have ya5 : w5.cell? ⟨be, 4, none⟩ = some (.slice PB qn pc) := (C5.out.cell (p := ⟨be, 4, none⟩) hbm).trans x4; have KS := Lib.hid (show SrcAt w5 (some ⟨wm.heap.size, 0, none⟩) 1 [encStr v.key, .int .i64 v.gen, .int .i64 v.size, encStr v.sum, .slice PB qn pc] from src_k3 (cs := [encStr v.key, .int .i64 v.gen, .int .i64 v.size, encStr v.sum, .slice PB qn pc]) (m := 1) (by exact hgr5)); clear hown5 hgr5)
        clear hHeld
        refine hK.out _ _ ⟨ya0, ya1, ya2, ya3, ya4, ya5⟩ (fun hHeld => ?_)
        clear hK K
        refine wpAnyH_ready (rs := [9]) (by as_aux_lemma => kernel_rfl) (by simp) ?_
        refine AllReadyH.cons rfl (fun K hK => ?_) AllReadyH.nil
        go_simp
        clear hHeld
        refine hK.out _ _ (by (try dsimp only); go_keep) (fun hHeld => ?_)
        clear hK K
        refine wpAnyH_ready (rs := [10]) (by as_aux_lemma => kernel_rfl) (by simp) ?_
        refine AllReadyH.cons rfl (fun K hK => ?_) AllReadyH.nil
        first | (refine step_append_any _ rfl (.tmp 127) (.tmp 129) 38 rfl wm.heap.size 43 i0 _ 5 72 Tryz.underlying38 hi0 hz0 hz1 hz2 rfl (by as_aux_lemma => omega) (.slice B5 j c5) j ((ent5 (ER.take j))) (by first | rfl | (show Value.slice B5 (0 + j) c5 = Value.slice B5 j c5; rw [Nat.zero_add])) (by exact O5.out.alloc _) (some ⟨w5.heap.size, 0, none⟩) 1 1 [encStr v.key, .int .i64 v.gen, .int .i64 v.size, encStr v.sum, .slice PB qn pc] rfl rfl (fun e => by cases e) (by exact src_new _ _ _ _) (by intro u hu; simp only [List.mem_cons, List.not_mem_nil, or_false] at hu; rcases hu with rfl | rfl | rfl | rfl | rfl <;> rfl) (by as_aux_lemma => (simp only [maxLen]; omega)) (by as_aux_lemma => omega) (C5.out.alloc C5.out.size _).size ?_; intro B6 c6 w6 hown6 hgr6; have O6 := Lib.hid hown6; have C6 := Lib.hid (show Below wm.heap.size wm w6 from (C5.out.alloc C5.out.size _).grown (by exact hgr6) (C5.out.alloc C5.out.size _).size (fun y hy => (O5.out.lt y hy).1)); have za0 : w6.cell? ⟨p, 1, none⟩ = some (.slice B n c) := (C6.out.cell (p := ⟨p, 1, none⟩) hpm).trans ecc; have za1 : w6.cell? ⟨be, 0, none⟩ = some (encStr v.key) := (C6.out.cell (p := ⟨be, 0, none⟩) hbm).trans x0; have za2 : w6.cell? ⟨be, 1, none⟩ = some (.int .i64 v.gen) := (C6.out.cell (p := ⟨be, 1, none⟩) hbm).trans x1; have za3 : w6.cell? ⟨be, 2, none⟩ = some (.int .i64 v.size) := (C6.out.cell (p := ⟨be, 2, none⟩) hbm).trans x2; have za4 : w6.cell? ⟨be, 3, none⟩ = some (encStr v.sum) := (C6.out.cell (p := ⟨be, 3, none⟩) hbm).trans x3; have za5 : w6.cell? ⟨be, 4, none⟩ = some (.slice PB qn pc) := (C6.out.cell (p := ⟨be, 4, none⟩) hbm).trans x4; clear hown6 hgr6) | (refine step_append_any _ rfl (.tmp 127) (.tmp 129) 38 rfl wm.heap.size 43 i0 _ 5 72 Tryz.underlying38 hi0 hz0 hz1 hz2 rfl (by as_aux_lemma => omega) (.slice B5 j c5) j ((ent5 (ER.take j))) (by first | rfl | (show Value.slice B5 (0 + j) c5 = Value.slice B5 j c5; rw [Nat.zero_add])) (by exact O5.out) (some ⟨wm.heap.size + 1, 0, none⟩) 1 1 [encStr v.key, .int .i64 v.gen, .int .i64 v.size, encStr v.sum, .slice PB qn pc] rfl rfl (fun e => by cases e) (by exact KS.out) (by intro u hu; simp only [List.mem_cons, List.not_mem_nil, or_false] at hu; rcases hu with rfl | rfl | rfl | rfl | rfl <;> rfl) (by as_aux_lemma => (simp only [maxLen]; omega)) (by as_aux_lemma => omega) (C5.out).size ?_; intro B6 c6 w6 hown6 hgr6; have O6 := Lib.hid hown6; have C6 := Lib.hid (show Below wm.heap.size wm w6 from (C5.out).grown (by exact hgr6) (C5.out).size (fun y hy => (O5.out.lt y hy).1)); have za0 : w6.cell? ⟨p, 1, none⟩ = some (.slice B n c) := (C6.out.cell (p := ⟨p, 1, none⟩) hpm).trans ecc; have za1 : w6.cell? ⟨be, 0, none⟩ = some (encStr v.key) := (C6.out.cell (p := ⟨be, 0, none⟩) hbm).trans x0; have za2 : w6.cell? ⟨be, 1, none⟩ = some (.int .i64 v.gen) := (C6.out.cell (p := ⟨be, 1, none⟩) hbm).trans x1; have za3 : w6.cell? ⟨be, 2, none⟩ = some (.int .i64 v.size) := (C6.out.cell (p := ⟨be, 2, none⟩) hbm).trans x2; have za4 : w6.cell? ⟨be, 3, none⟩ = some (encStr v.sum) := (C6.out.cell (p := ⟨be, 3, none⟩) hbm).trans x3; have za5 : w6.cell? ⟨be, 4, none⟩ = some (.slice PB qn pc) := (C6.out.cell (p := ⟨be, 4, none⟩) hbm).trans x4; clear hown6 hgr6) | (refine step_append_any _ rfl (.tmp 127) (.tmp 129) 38 rfl wm.heap.size 43 i0 _ 5 72 Tryz.underlying38 hi0 hz0 hz1 hz2 rfl (by as_aux_lemma => omega) (.slice B5 j c5) j ((ent5 (ER.take j))) (by first | rfl | (show Value.slice B5 (0 + j) c5 = Value.slice B5 j c5; rw [Nat.zero_add])) (by exact O5.out) (some ⟨wm.heap.size, 0, none⟩) 1 1 [encStr v.key, .int .i64 v.gen, .int .i64 v.size, encStr v.sum, .slice PB qn pc] rfl rfl (fun e => by cases e) (by exact KS.out) (by intro u hu; simp only [List.mem_cons, List.not_mem_nil, or_false] at hu; rcases hu with rfl | rfl | rfl | rfl | rfl <;> rfl) (by as_aux_lemma => (simp only [maxLen]; omega)) (by as_aux_lemma => omega) (C5.out).size ?_; intro B6 c6 w6 hown6 hgr6; have O6 := Lib.hid hown6; have C6 := Lib.hid (show Below wm.heap.size wm w6 from (C5.out).grown (by exact hgr6) (C5.out).size (fun y hy => (O5.out.lt y hy).1)); have za0 : w6.cell? ⟨p, 1, none⟩ = some (.slice B n c) := (C6.out.cell (p := ⟨p, 1, none⟩) hpm).trans ecc; have za1 : w6.cell? ⟨be, 0, none⟩ = some (encStr v.key) := (C6.out.cell (p := ⟨be, 0, none⟩) hbm).trans x0; have za2 : w6.cell? ⟨be, 1, none⟩ = some (.int .i64 v.gen) := (C6.out.cell (p := ⟨be, 1, none⟩) hbm).trans x1; have za3 : w6.cell? ⟨be, 2, none⟩ = some (.int .i64 v.size) := (C6.out.cell (p := ⟨be, 2, none⟩) hbm).trans x2; have za4 : w6.cell? ⟨be, 3, none⟩ = some (encStr v.sum) := (C6.out.cell (p := ⟨be, 3, none⟩) hbm).trans x3; have za5 : w6.cell? ⟨be, 4, none⟩ = some (.slice PB qn pc) := (C6.out.cell (p := ⟨be, 4, none⟩) hbm).trans x4; clear hown6 hgr6)
        clear hHeld
        refine hK.out _ _ ⟨za0, za1, za2, za3, za4, za5⟩ (fun hHeld => ?_)
        clear hK K
        refine wpAnyH_take (i := 11) (v := ?vS16n2b0b711) (take_list rfl) (by as_aux_lemma => kernel_rfl) (by as_aux_lemma => kernel_rfl) (by as_aux_lemma => kernel_rfl) (fun _ _ _ h => h) (Or.inl ⟨by rfl, ?hyS16n2b0b711⟩) (by assumption) ?restS16n2b0b711
        case hyS16n2b0b711 => (intro w hSw; (try dsimp only at hSw); go_simp <;> with_reducible rfl)
        refine wpAnyH_done (by as_aux_lemma => kernel_rfl) ?_ _
        go_wp2_with fail
        go_meet
        exact ⟨_, _, rfl, O6.out, C6.out⟩
      · go_simp
        clear hHeld
        refine hK.out _ _ (by (try dsimp only); go_keep) (fun hHeld => ?_)
        clear hK K
        refine wpAnyH_ready (rs := [7]) (by as_aux_lemma => kernel_rfl) (by simp) ?_
        refine AllReadyH.cons rfl (fun K hK => ?_) AllReadyH.nil
        first | (refine step_append_any _ rfl (.tmp 120) (.tmp 126) 38 rfl wm.heap.size 43 i0 _ 5 72 Tryz.underlying38 hi0 hz0 hz1 hz2 rfl (by as_aux_lemma => omega) (.slice (some ⟨wm.heap.size, 0, none⟩) 0 0) 0 [] rfl (by exact own_d1 wm _ 5) B j c ((ent5 (ER.take j))) rfl (by rw [ent5_len, List.length_take, HEL.out, Nat.min_eq_left (by as_aux_lemma => omega)]) (HBJ.out) (by exact SRG.out _ (below_a1 wm _)) (ent5_one _) (by as_aux_lemma => (simp only [maxLen]; omega)) (by as_aux_lemma => omega) (by first | omega | (simp; omega) | simp) ?_; intro B5 c5 w5 hown5 hgr5; have O5 := Lib.hid (show w5.ownsRow wm.heap.size 43 5 (.slice B5 j c5) j ((ent5 (ER.take j))) by simpa using hown5); have C5 := Lib.hid (show Below wm.heap.size wm w5 from grown_d1 (by exact hgr5)); have ya0 : w5.cell? ⟨p, 1, none⟩ = some (.slice B n c) := (C5.out.cell (p := ⟨p, 1, none⟩) hpm).trans ecc; have ya1 : w5.cell? ⟨be, 0, none⟩ = some (encStr v.key) := (C5.out.cell (p := ⟨be, 0, none⟩) hbm).trans x0; have ya2 : w5.cell? ⟨be, 1, none⟩ = some (.int .i64 v.gen) := (C5.out.cell (p := ⟨be, 1, none⟩) hbm).trans x1; have ya3 : w5.cell? ⟨be, 2, none⟩ = some (.int .i64 v.size) := (C5.out.cell (p := ⟨be, 2, none⟩) hbm).trans x2; have ya4 : w5.cell? ⟨be, 3, none⟩ = some (encStr v.sum) := (C5.out.cell (p := ⟨be, 3, none⟩) hbm).trans x3; have ya5 : w5.cell? ⟨be, 4, none⟩ = some (.slice PB qn pc) := (C5.out.cell (p := ⟨be, 4, none⟩) hbm).trans x4; clear hown5 hgr5) | (refine step_append_any _ rfl (.tmp 120) (.tmp 126) 38 rfl wm.heap.size 43 i0 _ 5 72 Tryz.underlying38 hi0 hz0 hz1 hz2 rfl (by as_aux_lemma => omega) (.slice (some ⟨wm.heap.size, 0, none⟩) 0 0) 0 [] rfl (by exact own_d2 wm _ 5 _) B j c ((ent5 (ER.take j))) rfl (by rw [ent5_len, List.length_take, HEL.out, Nat.min_eq_left (by as_aux_lemma => omega)]) (HBJ.out) (by exact SRG.out _ (below_a2 wm _ _)) (ent5_one _) (by as_aux_lemma => (simp only [maxLen]; omega)) (by as_aux_lemma => omega) (by first | omega | (simp; omega) | simp) ?_; intro B5 c5 w5 hown5 hgr5; have O5 := Lib.hid (show w5.ownsRow wm.heap.size 43 5 (.slice B5 j c5) j ((ent5 (ER.take j))) by simpa using hown5); have C5 := Lib.hid (show Below wm.heap.size wm w5 from grown_d2 (by exact hgr5)); have ya0 : w5.cell? ⟨p, 1, none⟩ = some (.slice B n c) := (C5.out.cell (p := ⟨p, 1, none⟩) hpm).trans ecc; have ya1 : w5.cell? ⟨be, 0, none⟩ = some (encStr v.key) := (C5.out.cell (p := ⟨be, 0, none⟩) hbm).trans x0; have ya2 : w5.cell? ⟨be, 1, none⟩ = some (.int .i64 v.gen) := (C5.out.cell (p := ⟨be, 1, none⟩) hbm).trans x1; have ya3 : w5.cell? ⟨be, 2, none⟩ = some (.int .i64 v.size) := (C5.out.cell (p := ⟨be, 2, none⟩) hbm).trans x2; have ya4 : w5.cell? ⟨be, 3, none⟩ = some (encStr v.sum) := (C5.out.cell (p := ⟨be, 3, none⟩) hbm).trans x3; have ya5 : w5.cell? ⟨be, 4, none⟩ = some (.slice PB qn pc) := (C5.out.cell (p := ⟨be, 4, none⟩) hbm).trans x4; have KS := Lib.hid (show SrcAt w5 (some ⟨wm.heap.size + 1, 0, none⟩) 1 [encStr v.key, .int .i64 v.gen, .int .i64 v.size, encStr v.sum, .slice PB qn pc] from src_k2 (cs := [encStr v.key, .int .i64 v.gen, .int .i64 v.size, encStr v.sum, .slice PB qn pc]) (m := 1) (by exact hgr5)); clear hown5 hgr5) | (refine step_append_any _ rfl (.tmp 120) (.tmp 126) 38 rfl wm.heap.size 43 i0 _ 5 72 Tryz.underlying38 hi0 hz0 hz1 hz2 rfl (by as_aux_lemma => omega) (.slice (some ⟨wm.heap.size + 1, 0, none⟩) 0 0) 0 [] rfl (by exact own_d3 wm _ 5 _) B j c ((ent5 (ER.take j))) rfl (by rw [ent5_len, List.length_take, HEL.out, Nat.min_eq_left (by as_aux_lemma => omega)]) (HBJ.out) (by exact SRG.out _ (below_a2 wm _ _)) (ent5_one _) (by as_aux_lemma => (simp only [maxLen]; omega)) (by as_aux_lemma => omega) (by first | omega | (simp; omega) | simp) ?_; intro B5 c5 w5 hown5 hgr5; have O5 := Lib.hid (show w5.ownsRow wm.heap.size 43 5 (.slice B5 j c5) j ((ent5 (ER.take j))) by simpa using hown5); have C5 := Lib.hid (show Below wm.heap.size wm w5 from grown_d3 (by exact hgr5)); have ya0 : w5.cell? ⟨p, 1, none⟩ = some (.slice B n c) := (C5.out.cell (p := ⟨p, 1, none⟩) hpm).trans ecc; have ya1 : w5.cell? ⟨be, 0, none⟩ = some (encStr v.key) := (C5.out.cell (p := ⟨be, 0, none⟩) hbm).trans x0; have ya2 : w5.cell? ⟨be, 1, none⟩ = some (.int .i64 v.gen) := (C5.out.cell (p := ⟨be, 1, none⟩) hbm).trans x1; have ya3 : w5.cell? ⟨be, 2, none⟩ = some (.int .i64 v.size) := (C5.out.cell (p := ⟨be, 2, none⟩) hbm).trans x2; have ya4 : w5.cell? ⟨be, 3, none⟩ = some (encStr v.sum) := (C5.out.cell (p := ⟨be, 3, none⟩) hbm).trans x3; have ya5 : w5.cell? ⟨be, 4, none⟩ = some (.slice PB qn pc) := (C5.out.cell (p := ⟨be, 4, none⟩) hbm).trans x4; have KS := Lib.hid (show SrcAt w5 (some ⟨wm.heap.size, 0, none⟩) 1 [encStr v.key, .int .i64 v.gen, .int .i64 v.size, encStr v.sum, .slice PB qn pc] from src_k3 (cs := [encStr v.key, .int .i64 v.gen, .int .i64 v.size, encStr v.sum, .slice PB qn pc]) (m := 1) (by exact hgr5)); clear hown5 hgr5)
        clear hHeld
        refine hK.out _ _ ⟨ya0, ya1, ya2, ya3, ya4, ya5⟩ (fun hHeld => ?_)
        clear hK K
        refine wpAnyH_ready (rs := [10]) (by as_aux_lemma => kernel_rfl) (by simp) ?_
        refine AllReadyH.cons rfl (fun K hK => ?_) AllReadyH.nil
        first | (refine step_append_any _ rfl (.tmp 127) (.tmp 129) 38 rfl wm.heap.size 43 i0 _ 5 72 Tryz.underlying38 hi0 hz0 hz1 hz2 rfl (by as_aux_lemma => omega) (.slice B5 j c5) j ((ent5 (ER.take j))) (by first | rfl | (show Value.slice B5 (0 + j) c5 = Value.slice B5 j c5; rw [Nat.zero_add])) (by exact O5.out.alloc _) (some ⟨w5.heap.size, 0, none⟩) 1 1 [encStr v.key, .int .i64 v.gen, .int .i64 v.size, encStr v.sum, .slice PB qn pc] rfl rfl (fun e => by cases e) (by exact src_new _ _ _ _) (by intro u hu; simp only [List.mem_cons, List.not_mem_nil, or_false] at hu; rcases hu with rfl | rfl | rfl | rfl | rfl <;> rfl) (by as_aux_lemma => (simp only [maxLen]; omega)) (by as_aux_lemma => omega) (C5.out.alloc C5.out.size _).size ?_; intro B6 c6 w6 hown6 hgr6; have O6 := Lib.hid hown6; have C6 := Lib.hid (show Below wm.heap.size wm w6 from (C5.out.alloc C5.out.size _).grown (by exact hgr6) (C5.out.alloc C5.out.size _).size (fun y hy => (O5.out.lt y hy).1)); have za0 : w6.cell? ⟨p, 1, none⟩ = some (.slice B n c) := (C6.out.cell (p := ⟨p, 1, none⟩) hpm).trans ecc; have za1 : w6.cell? ⟨be, 0, none⟩ = some (encStr v.key) := (C6.out.cell (p := ⟨be, 0, none⟩) hbm).trans x0; have za2 : w6.cell? ⟨be, 1, none⟩ = some (.int .i64 v.gen) := (C6.out.cell (p := ⟨be, 1, none⟩) hbm).trans x1; have za3 : w6.cell? ⟨be, 2, none⟩ = some (.int .i64 v.size) := (C6.out.cell (p := ⟨be, 2, none⟩) hbm).trans x2; have za4 : w6.cell? ⟨be, 3, none⟩ = some (encStr v.sum) := (C6.out.cell (p := ⟨be, 3, none⟩) hbm).trans x3; have za5 : w6.cell? ⟨be, 4, none⟩ = some (.slice PB qn pc) := (C6.out.cell (p := ⟨be, 4, none⟩) hbm).trans x4; clear hown6 hgr6) | (refine step_append_any _ rfl (.tmp 127) (.tmp 129) 38 rfl wm.heap.size 43 i0 _ 5 72 Tryz.underlying38 hi0 hz0 hz1 hz2 rfl (by as_aux_lemma => omega) (.slice B5 j c5) j ((ent5 (ER.take j))) (by first | rfl | (show Value.slice B5 (0 + j) c5 = Value.slice B5 j c5; rw [Nat.zero_add])) (by exact O5.out) (some ⟨wm.heap.size + 1, 0, none⟩) 1 1 [encStr v.key, .int .i64 v.gen, .int .i64 v.size, encStr v.sum, .slice PB qn pc] rfl rfl (fun e => by cases e) (by exact KS.out) (by intro u hu; simp only [List.mem_cons, List.not_mem_nil, or_false] at hu; rcases hu with rfl | rfl | rfl | rfl | rfl <;> rfl) (by as_aux_lemma => (simp only [maxLen]; omega)) (by as_aux_lemma => omega) (C5.out).size ?_; intro B6 c6 w6 hown6 hgr6; have O6 := Lib.hid hown6; have C6 := Lib.hid (show Below wm.heap.size wm w6 from (C5.out).grown (by exact hgr6) (C5.out).size (fun y hy => (O5.out.lt y hy).1)); have za0 : w6.cell? ⟨p, 1, none⟩ = some (.slice B n c) := (C6.out.cell (p := ⟨p, 1, none⟩) hpm).trans ecc; have za1 : w6.cell? ⟨be, 0, none⟩ = some (encStr v.key) := (C6.out.cell (p := ⟨be, 0, none⟩) hbm).trans x0; have za2 : w6.cell? ⟨be, 1, none⟩ = some (.int .i64 v.gen) := (C6.out.cell (p := ⟨be, 1, none⟩) hbm).trans x1; have za3 : w6.cell? ⟨be, 2, none⟩ = some (.int .i64 v.size) := (C6.out.cell (p := ⟨be, 2, none⟩) hbm).trans x2; have za4 : w6.cell? ⟨be, 3, none⟩ = some (encStr v.sum) := (C6.out.cell (p := ⟨be, 3, none⟩) hbm).trans x3; have za5 : w6.cell? ⟨be, 4, none⟩ = some (.slice PB qn pc) := (C6.out.cell (p := ⟨be, 4, none⟩) hbm).trans x4; clear hown6 hgr6) | (refine step_append_any _ rfl (.tmp 127) (.tmp 129) 38 rfl wm.heap.size 43 i0 _ 5 72 Tryz.underlying38 hi0 hz0 hz1 hz2 rfl (by as_aux_lemma => omega) (.slice B5 j c5) j ((ent5 (ER.take j))) (by first | rfl | (show Value.slice B5 (0 + j) c5 = Value.slice B5 j c5; rw [Nat.zero_add])) (by exact O5.out) (some ⟨wm.heap.size, 0, none⟩) 1 1 [encStr v.key, .int .i64 v.gen, .int .i64 v.size, encStr v.sum, .slice PB qn pc] rfl rfl (fun e => by cases e) (by exact KS.out) (by intro u hu; simp only [List.mem_cons, List.not_mem_nil, or_false] at hu; rcases hu with rfl | rfl | rfl | rfl | rfl <;> rfl) (by as_aux_lemma => (simp only [maxLen]; omega)) (by as_aux_lemma => omega) (C5.out).size ?_; intro B6 c6 w6 hown6 hgr6; have O6 := Lib.hid hown6; have C6 := Lib.hid (show Below wm.heap.size wm w6 from (C5.out).grown (by exact hgr6) (C5.out).size (fun y hy => (O5.out.lt y hy).1)); have za0 : w6.cell? ⟨p, 1, none⟩ = some (.slice B n c) := (C6.out.cell (p := ⟨p, 1, none⟩) hpm).trans ecc; have za1 : w6.cell? ⟨be, 0, none⟩ = some (encStr v.key) := (C6.out.cell (p := ⟨be, 0, none⟩) hbm).trans x0; have za2 : w6.cell? ⟨be, 1, none⟩ = some (.int .i64 v.gen) := (C6.out.cell (p := ⟨be, 1, none⟩) hbm).trans x1; have za3 : w6.cell? ⟨be, 2, none⟩ = some (.int .i64 v.size) := (C6.out.cell (p := ⟨be, 2, none⟩) hbm).trans x2; have za4 : w6.cell? ⟨be, 3, none⟩ = some (encStr v.sum) := (C6.out.cell (p := ⟨be, 3, none⟩) hbm).trans x3; have za5 : w6.cell? ⟨be, 4, none⟩ = some (.slice PB qn pc) := (C6.out.cell (p := ⟨be, 4, none⟩) hbm).trans x4; clear hown6 hgr6)
        clear hHeld
        refine hK.out _ _ ⟨za0, za1, za2, za3, za4, za5⟩ (fun hHeld => ?_)
        clear hK K
        refine wpAnyH_take (i := 11) (v := ?vS16n2b0b911) (take_list rfl) (by as_aux_lemma => kernel_rfl) (by as_aux_lemma => kernel_rfl) (by as_aux_lemma => kernel_rfl) (fun _ _ _ h => h) (Or.inl ⟨by rfl, ?hyS16n2b0b911⟩) (by assumption) ?restS16n2b0b911
        case hyS16n2b0b911 => (intro w hSw; (try dsimp only at hSw); go_simp <;> with_reducible rfl)
        refine wpAnyH_done (by as_aux_lemma => kernel_rfl) ?_ _
        go_wp2_with fail
        go_meet
        exact ⟨_, _, rfl, O6.out, C6.out⟩
    · go_simp
      clear hHeld
      refine hK.out _ _ (by (try dsimp only); go_keep) (fun hHeld => ?_)
      clear hK K
      refine wpAnyH_ready (rs := [0]) (by as_aux_lemma => kernel_rfl) (by simp) ?_
      refine AllReadyH.cons rfl (fun K hK => ?_) AllReadyH.nil
      go_simp
      clear hHeld
      refine hK.out _ _ (by (try dsimp only); go_keep) (fun hHeld => ?_)
      clear hK K
      refine wpAnyH_ready (rs := [7]) (by as_aux_lemma => kernel_rfl) (by simp) ?_
      refine AllReadyH.cons rfl (fun K hK => ?_) AllReadyH.nil
      first | (refine step_append_any _ rfl (.tmp 120) (.tmp 126) 38 rfl wm.heap.size 43 i0 _ 5 72 Tryz.underlying38 hi0 hz0 hz1 hz2 rfl (by as_aux_lemma => omega) (.slice (some ⟨wm.heap.size, 0, none⟩) 0 0) 0 [] rfl (by exact own_d1 wm _ 5) B j c ((ent5 (ER.take j))) rfl (by rw [ent5_len, List.length_take, HEL.out, Nat.min_eq_left (by as_aux_lemma => omega)]) (HBJ.out) (by exact SRG.out _ (below_a1 wm _)) (ent5_one _) (by as_aux_lemma => (simp only [maxLen]; omega)) (by as_aux_lemma => omega) (by first | omega | (simp; omega) | simp) ?_; intro B5 c5 w5 hown5 hgr5; have O5 := Lib.hid (show w5.ownsRow wm.heap.size 43 5 (.slice B5 j c5) j ((ent5 (ER.take j))) by simpa using hown5); have C5 := Lib.hid (show Below wm.heap.size wm w5 from grown_d1 (by exact hgr5)); have ya0 : w5.cell? ⟨p, 1, none⟩ = some (.slice B n c) := (C5.out.cell (p := ⟨p, 1, none⟩) hpm).trans ecc; have ya1 : w5.cell? ⟨be, 0, none⟩ = some (encStr v.key) := (C5.out.cell (p := ⟨be, 0, none⟩) hbm).trans x0; have ya2 : w5.cell? ⟨be, 1, none⟩ = some (.int .i64 v.gen) := (C5.out.cell (p := ⟨be, 1, none⟩) hbm).trans x1; have ya3 : w5.cell? ⟨be, 2, none⟩ = some (.int .i64 v.size) := (C5.out.cell (p := ⟨be, 2, none⟩) hbm).trans x2; have ya4 : w5.cell? ⟨be, 3, none⟩ = some (encStr v.sum) := (C5.out.cell (p := ⟨be, 3, none⟩) hbm).trans x3; have ya5 : w5.cell? ⟨be, 4, none⟩ = some (.slice PB qn pc) := (C5.out.cell (p := ⟨be, 4, none⟩) hbm).trans x4; clear hown5 hgr5) | (refine step_append_any _ rfl (.tmp 120) (.tmp 126) 38 rfl wm.heap.size 43 i0 _ 5 72 Tryz.underlying38 hi0 hz0 hz1 hz2 rfl (by as_aux_lemma => omega) (.slice (some ⟨wm.heap.size, 0, none⟩) 0 0) 0 [] rfl (by exact own_d2 wm _ 5 _) B j c ((ent5 (ER.take j))) rfl (by rw [ent5_len, List.length_take, HEL.out, Nat.min_eq_left (by as_aux_lemma => omega)]) (HBJ.out) (by exact SRG.out _ (below_a2 wm _ _)) (ent5_one _) (by as_aux_lemma => (simp only [maxLen]; omega)) (by as_aux_lemma => omega) (by first | omega | (simp; omega) | simp) ?_; intro B5 c5 w5 hown5 hgr5; have O5 := Lib.hid (show w5.ownsRow wm.heap.size 43 5 (.slice B5 j c5) j ((ent5 (ER.take j))) by simpa using hown5); have C5 := Lib.hid (show Below wm.heap.size wm w5 from grown_d2 (by exact hgr5)); have ya0 : w5.cell? ⟨p, 1, none⟩ = some (.slice B n c) := (C5.out.cell (p := ⟨p, 1, none⟩) hpm).trans ecc; have ya1 : w5.cell? ⟨be, 0, none⟩ = some (encStr v.key) := (C5.out.cell (p := ⟨be, 0, none⟩) hbm).trans x0; have ya2 : w5.cell? ⟨be, 1, none⟩ = some (.int .i64 v.gen) := (C5.out.cell (p := ⟨be, 1, none⟩) hbm).trans x1; have ya3 : w5.cell? ⟨be, 2, none⟩ = some (.int .i64 v.size) := (C5.out.cell (p := ⟨be, 2, none⟩) hbm).trans x2; have ya4 : w5.cell? ⟨be, 3, none⟩ = some (encStr v.sum) := (C5.out.cell (p := ⟨be, 3, none⟩) hbm).trans x3; have ya5 : w5.cell? ⟨be, 4, none⟩ = some (.slice PB qn pc) := (C5.out.cell (p := ⟨be, 4, none⟩) hbm).trans x4; have KS := Lib.hid (show SrcAt w5 (some ⟨wm.heap.size + 1, 0, none⟩) 1 [encStr v.key, .int .i64 v.gen, .int .i64 v.size, encStr v.sum, .slice PB qn pc] from src_k2 (cs := [encStr v.key, .int .i64 v.gen, .int .i64 v.size, encStr v.sum, .slice PB qn pc]) (m := 1) (by exact hgr5)); clear hown5 hgr5) | (refine step_append_any _ rfl (.tmp 120) (.tmp 126) 38 rfl wm.heap.size 43 i0 _ 5 72 Tryz.underlying38 hi0 hz0 hz1 hz2 rfl (by as_aux_lemma => omega) (.slice (some ⟨wm.heap.size + 1, 0, none⟩) 0 0) 0 [] rfl (by exact own_d3 wm _ 5 _) B j c ((ent5 (ER.take j))) rfl (by rw [ent5_len, List.length_take, HEL.out, Nat.min_eq_left (by as_aux_lemma => omega)]) (HBJ.out) (by exact SRG.out _ (below_a2 wm _ _)) (ent5_one _) (by as_aux_lemma => (simp only [maxLen]; omega)) (by as_aux_lemma => omega) (by first | omega | (simp; omega) | simp) ?_; intro B5 c5 w5 hown5 hgr5; have O5 := Lib.hid (show w5.ownsRow wm.heap.size 43 5 (.slice B5 j c5) j ((ent5 (ER.take j))) by simpa using hown5); have C5 := Lib.hid (show Below wm.heap.size wm w5 from grown_d3 (by exact hgr5)); have ya0 : w5.cell? ⟨p, 1, none⟩ = some (.slice B n c) := (C5.out.cell (p := ⟨p, 1, none⟩) hpm).trans ecc; have ya1 : w5.cell? ⟨be, 0, none⟩ = some (encStr v.key) := (C5.out.cell (p := ⟨be, 0, none⟩) hbm).trans x0; have ya2 : w5.cell? ⟨be, 1, none⟩ = some (.int .i64 v.gen) := (C5.out.cell (p := ⟨be, 1, none⟩) hbm).trans x1; have ya3 : w5.cell? ⟨be, 2, none⟩ = some (.int .i64 v.size) := (C5.out.cell (p := ⟨be, 2, none⟩) hbm).trans x2; have ya4 : w5.cell? ⟨be, 3, none⟩ = some (encStr v.sum) := (C5.out.cell (p := ⟨be, 3, none⟩) hbm).trans x3; have ya5 : w5.cell? ⟨be, 4, none⟩ = some (.slice PB qn pc) := (C5.out.cell (p := ⟨be, 4, none⟩) hbm).trans x4; have KS := Lib.hid (show SrcAt w5 (some ⟨wm.heap.size, 0, none⟩) 1 [encStr v.key, .int .i64 v.gen, .int .i64 v.size, encStr v.sum, .slice PB qn pc] from src_k3 (cs := [encStr v.key, .int .i64 v.gen, .int .i64 v.size, encStr v.sum, .slice PB qn pc]) (m := 1) (by exact hgr5)); clear hown5 hgr5)
      clear hHeld
      refine hK.out _ _ ⟨ya0, ya1, ya2, ya3, ya4, ya5⟩ (fun hHeld => ?_)
      clear hK K
      refine wpAnyH_ready (rs := [10]) (by as_aux_lemma => kernel_rfl) (by simp) ?_
      refine AllReadyH.cons rfl (fun K hK => ?_) AllReadyH.nil
      first | (refine step_append_any _ rfl (.tmp 127) (.tmp 129) 38 rfl wm.heap.size 43 i0 _ 5 72 Tryz.underlying38 hi0 hz0 hz1 hz2 rfl (by as_aux_lemma => omega) (.slice B5 j c5) j ((ent5 (ER.take j))) (by first | rfl | (show Value.slice B5 (0 + j) c5 = Value.slice B5 j c5; rw [Nat.zero_add])) (by exact O5.out.alloc _) (some ⟨w5.heap.size, 0, none⟩) 1 1 [encStr v.key, .int .i64 v.gen, .int .i64 v.size, encStr v.sum, .slice PB qn pc] rfl rfl (fun e => by cases e) (by exact src_new _ _ _ _) (by intro u hu; simp only [List.mem_cons, List.not_mem_nil, or_false] at hu; rcases hu with rfl | rfl | rfl | rfl | rfl <;> rfl) (by as_aux_lemma => (simp only [maxLen]; omega)) (by as_aux_lemma => omega) (C5.out.alloc C5.out.size _).size ?_; intro B6 c6 w6 hown6 hgr6; have O6 := Lib.hid hown6; have C6 := Lib.hid (show Below wm.heap.size wm w6 from (C5.out.alloc C5.out.size _).grown (by exact hgr6) (C5.out.alloc C5.out.size _).size (fun y hy => (O5.out.lt y hy).1)); have za0 : w6.cell? ⟨p, 1, none⟩ = some (.slice B n c) := (C6.out.cell (p := ⟨p, 1, none⟩) hpm).trans ecc; have za1 : w6.cell? ⟨be, 0, none⟩ = some (encStr v.key) := (C6.out.cell (p := ⟨be, 0, none⟩) hbm).trans x0; have za2 : w6.cell? ⟨be, 1, none⟩ = some (.int .i64 v.gen) := (C6.out.cell (p := ⟨be, 1, none⟩) hbm).trans x1; have za3 : w6.cell? ⟨be, 2, none⟩ = some (.int .i64 v.size) := (C6.out.cell (p := ⟨be, 2, none⟩) hbm).trans x2; have za4 : w6.cell? ⟨be, 3, none⟩ = some (encStr v.sum) := (C6.out.cell (p := ⟨be, 3, none⟩) hbm).trans x3; have za5 : w6.cell? ⟨be, 4, none⟩ = some (.slice PB qn pc) := (C6.out.cell (p := ⟨be, 4, none⟩) hbm).trans x4; clear hown6 hgr6) | (refine step_append_any _ rfl (.tmp 127) (.tmp 129) 38 rfl wm.heap.size 43 i0 _ 5 72 Tryz.underlying38 hi0 hz0 hz1 hz2 rfl (by as_aux_lemma => omega) (.slice B5 j c5) j ((ent5 (ER.take j))) (by first | rfl | (show Value.slice B5 (0 + j) c5 = Value.slice B5 j c5; rw [Nat.zero_add])) (by exact O5.out) (some ⟨wm.heap.size + 1, 0, none⟩) 1 1 [encStr v.key, .int .i64 v.gen, .int .i64 v.size, encStr v.sum, .slice PB qn pc] rfl rfl (fun e => by cases e) (by exact KS.out) (by intro u hu; simp only [List.mem_cons, List.not_mem_nil, or_false] at hu; rcases hu with rfl | rfl | rfl | rfl | rfl <;> rfl) (by as_aux_lemma => (simp only [maxLen]; omega)) (by as_aux_lemma => omega) (C5.out).size ?_; intro B6 c6 w6 hown6 hgr6; have O6 := Lib.hid hown6; have C6 := Lib.hid (show Below wm.heap.size wm w6 from (C5.out).grown (by exact hgr6) (C5.out).size (fun y hy => (O5.out.lt y hy).1)); have za0 : w6.cell? ⟨p, 1, none⟩ = some (.slice B n c) := (C6.out.cell (p := ⟨p, 1, none⟩) hpm).trans ecc; have za1 : w6.cell? ⟨be, 0, none⟩ = some (encStr v.key) := (C6.out.cell (p := ⟨be, 0, none⟩) hbm).trans x0; have za2 : w6.cell? ⟨be, 1, none⟩ = some (.int .i64 v.gen) := (C6.out.cell (p := ⟨be, 1, none⟩) hbm).trans x1; have za3 : w6.cell? ⟨be, 2, none⟩ = some (.int .i64 v.size) := (C6.out.cell (p := ⟨be, 2, none⟩) hbm).trans x2; have za4 : w6.cell? ⟨be, 3, none⟩ = some (encStr v.sum) := (C6.out.cell (p := ⟨be, 3, none⟩) hbm).trans x3; have za5 : w6.cell? ⟨be, 4, none⟩ = some (.slice PB qn pc) := (C6.out.cell (p := ⟨be, 4, none⟩) hbm).trans x4; clear hown6 hgr6) | (refine step_append_any _ rfl (.tmp 127) (.tmp 129) 38 rfl wm.heap.size 43 i0 _ 5 72 Tryz.underlying38 hi0 hz0 hz1 hz2 rfl (by as_aux_lemma => omega) (.slice B5 j c5) j ((ent5 (ER.take j))) (by first | rfl | (show Value.slice B5 (0 + j) c5 = Value.slice B5 j c5; rw [Nat.zero_add])) (by exact O5.out) (some ⟨wm.heap.size, 0, none⟩) 1 1 [encStr v.key, .int .i64 v.gen, .int .i64 v.size, encStr v.sum, .slice PB qn pc] rfl rfl (fun e => by cases e) (by exact KS.out) (by intro u hu; simp only [List.mem_cons, List.not_mem_nil, or_false] at hu; rcases hu with rfl | rfl | rfl | rfl | rfl <;> rfl) (by as_aux_lemma => (simp only [maxLen]; omega)) (by as_aux_lemma => omega) (C5.out).size ?_; intro B6 c6 w6 hown6 hgr6; have O6 := Lib.hid hown6; have C6 := Lib.hid (show Below wm.heap.size wm w6 from (C5.out).grown (by exact hgr6) (C5.out).size (fun y hy => (O5.out.lt y hy).1)); have za0 : w6.cell? ⟨p, 1, none⟩ = some (.slice B n c) := (C6.out.cell (p := ⟨p, 1, none⟩) hpm).trans ecc; have za1 : w6.cell? ⟨be, 0, none⟩ = some (encStr v.key) := (C6.out.cell (p := ⟨be, 0, none⟩) hbm).trans x0; have za2 : w6.cell? ⟨be, 1, none⟩ = some (.int .i64 v.gen) := (C6.out.cell (p := ⟨be, 1, none⟩) hbm).trans x1; have za3 : w6.cell? ⟨be, 2, none⟩ = some (.int .i64 v.size) := (C6.out.cell (p := ⟨be, 2, none⟩) hbm).trans x2; have za4 : w6.cell? ⟨be, 3, none⟩ = some (encStr v.sum) := (C6.out.cell (p := ⟨be, 3, none⟩) hbm).trans x3; have za5 : w6.cell? ⟨be, 4, none⟩ = some (.slice PB qn pc) := (C6.out.cell (p := ⟨be, 4, none⟩) hbm).trans x4; clear hown6 hgr6)
      clear hHeld
      refine hK.out _ _ ⟨za0, za1, za2, za3, za4, za5⟩ (fun hHeld => ?_)
      clear hK K
      refine wpAnyH_take (i := 11) (v := ?vS16n2b911) (take_list rfl) (by as_aux_lemma => kernel_rfl) (by as_aux_lemma => kernel_rfl) (by as_aux_lemma => kernel_rfl) (fun _ _ _ h => h) (Or.inl ⟨by rfl, ?hyS16n2b911⟩) (by assumption) ?restS16n2b911
      case hyS16n2b911 => (intro w hSw; (try dsimp only at hSw); go_simp <;> with_reducible rfl)
      refine wpAnyH_done (by as_aux_lemma => kernel_rfl) ?_ _
      go_wp2_with fail
      go_meet
      exact ⟨_, _, rfl, O6.out, C6.out⟩
  case rest =>
  obtain ⟨B6, c6, rfl, ho6, hb6⟩ := hcut
  obtain ⟨w6, rfl⟩ : ∃ w6 : World, w6 = wc := ⟨_, rfl⟩
  have O6 := Lib.hid ho6
  have C6 := Lib.hid hb6
  have hz6 := hb6.size
  have fcc : w6.cell? ⟨p, 1, none⟩ = some (.slice B n c) := (hb6.cell (p := ⟨p, 1, none⟩) hpm).trans ecc
  have hp6 : p < w6.heap.size := Nat.lt_of_lt_of_le hpm hz6
  have HLD := Lib.hid (show (ER.drop j).length = n - j by rw [List.length_drop, HEL.out])
  have hnew : ([encStr v.key, .int .i64 v.gen, .int .i64 v.size, encStr v.sum, .slice PB qn pc] : List Value) = ent5 [(⟨v.key, ⟨v.gen, v.size, v.sum, v.places⟩, PB, qn, pc⟩ : EntR)] := rfl
  have HNEW := Lib.hid hnew
  have HPM := Lib.hid (show (ER.take j ++ (⟨v.key, ⟨v.gen, v.size, v.sum, v.places⟩, PB, qn, pc⟩ : EntR) :: ER.drop j).map (fun r => (r.key, r.e)) = insE E1 (v.key, ⟨v.gen, v.size, v.sum, v.places⟩) by
    rw [HI.out, ← HER.out]
    simp [List.map_take, List.map_drop])
  have HPL2 := Lib.hid (show (insE E1 (v.key, ⟨v.gen, v.size, v.sum, v.places⟩)).length = j + 1 + (n - j) by rw [HI.out, List.length_append, List.length_cons, List.length_take, List.length_drop, HL.out, Nat.min_eq_left hjn]; omega)
  have HPV := Lib.hid (show ent5 (ER.take j ++ (⟨v.key, ⟨v.gen, v.size, v.sum, v.places⟩, PB, qn, pc⟩ : EntR) :: ER.drop j) = ent5 (ER.take j) ++ [encStr v.key, .int .i64 v.gen, .int .i64 v.size, encStr v.sum, .slice PB qn pc] ++ ent5 (ER.drop j) by rw [ent5_app, List.append_assoc]; rfl)
  have FIN := Lib.hid (show ∀ (w7 : World) (B7 : Option Addr) (c7 : Nat), w7.ownsRow wm.heap.size 43 5 (.slice B7 (j + 1 + (n - j)) c7) (j + 1 + (n - j)) (ent5 (ER.take j) ++ [encStr v.key, .int .i64 v.gen, .int .i64 v.size, encStr v.sum, .slice PB qn pc] ++ ent5 (ER.drop j)) → Below wm.heap.size wm w7 → RefPost F p (N + 1) { R3 with entries := insE E1 (v.key, ⟨v.gen, v.size, v.sum, v.places⟩) } w (w7.setCell ⟨p, 1, none⟩ (.slice B7 (j + 1 + (n - j)) c7)) from fun w7 B7 c7 ho hb => by
    have hb37 : Below w3.heap.size w3 w7 := BM.out.trans (hb.mono hzm3)
    have h1 := RR.out.setHere (M := N + 1) hb37 (E := insE E1 (v.key, ⟨v.gen, v.size, v.sum, v.places⟩)) (ER' := ER.take j ++ (⟨v.key, ⟨v.gen, v.size, v.sum, v.places⟩, PB, qn, pc⟩ : EntR) :: ER.drop j) (v := .slice B7 (j + 1 + (n - j)) c7) (by rw [HPL2.out, HPV.out]; exact own_le ho hzm3) HPM.out (fun r hr => by
      rcases List.mem_append.1 hr with hr | hr
      · exact .inl (List.mem_of_mem_take hr)
      · rcases List.mem_cons.1 hr with hr | hr
        · subst hr
          exact .inr (own_of_eq OPM.out (fun q hq => hb.block q (OPM.out.lt q hq).2))
        · exact .inl (List.mem_of_mem_drop hr)) (by rw [HPL2.out]; have h2 := RR.out.lens; have h3 := HNL.out; omega) (Nat.le_succ _)
    obtain ⟨F4, hc4, ht4⟩ := h1
    exact RefPost.widen (RefPost.of_below BW2.out ⟨F4, hc4, T3.out.trans ht4⟩))
  clear ho6 hb6 hnew
  rcases hB2 with ⟨rfl, h0, h1⟩ | ⟨g, rfl, hgl⟩
  · obtain rfl : j = 0 := by omega
    have hE0 : ER = [] := List.eq_nil_of_length_eq_zero (by rw [HEL.out, h0])
    subst h0 h1
    go_wp2_with (
      (at_builtin
       refine wpList_append_src _ rfl (.tmp 132) (.tmp 138) 38 rfl wm.heap.size 43 i0 _ 5 72 Tryz.underlying38 hi0 hz0 hz1 hz2 rfl (by omega) _ 1 _ rfl (by exact O6.out) none 0 0 ([] : List Value) rfl rfl (fun _ => rfl) (by exact .inl ⟨rfl, rfl⟩) (by intro u hu; cases hu) (by simp only [maxLen]; omega) (by omega) (by omega) ?_
       intro v' w7 hown7 hgr7 hat7
       obtain ⟨B7, c7, rfl, _, _, _⟩ := own_form hown7
       have O7 := Lib.hid hown7
       have B7b := Lib.hid (show Below wm.heap.size wm w7 from C6.out.grown hgr7 hz6 (fun q hq => (O6.out.lt q hq).1))
       have f7 : w7.frozen? ⟨p, 1, none⟩ = false := (HBLK.out.below (BM.out.trans (B7b.out.mono hzm3)) hpz).free 1
       have k7 : w7.cell? ⟨p, 1, none⟩ = some (.slice none 0 0) := (B7b.out.cell (p := ⟨p, 1, none⟩) hpm).trans ecc
       clear hown7 hgr7 hat7))
    go_ret
    rw [HE.out, HR3.out]
    exact ⟨rfl, FIN.out w7 B7 c7 (by rw [hE0]; simpa [hE0, ent5] using O7.out) B7b.out⟩
  · have S7 := Lib.hid (show SrcAt w6 (if c = j then some ⟨g, 0, none⟩ else some ⟨g, j * 5, none⟩) (n - j) (ent5 (ER.drop j)) by
      by_cases hck : c = j
      · rw [if_pos hck]
        have hd : ER.drop j = [] := List.drop_of_length_le (by rw [HEL.out]; omega)
        rw [hd]
        exact .inl ⟨by omega, rfl⟩
      · rw [if_neg hck]
        exact src_kept (own_src OM.out (j * 5) (n - j) (ent5 (ER.drop j)) (ent5_drop _ (by rw [HEL.out]; exact hjn))) (C6.out.block g hgl))
    have hjc : (j : Int) ≤ (c : Int) := by omega
    have hjn' : (j : Int) ≤ (n : Int) := by omega
    go_wp2_with (
      (at_builtin
       refine wpList_append_src _ rfl (.tmp 132) (.tmp 138) 38 rfl wm.heap.size 43 i0 _ 5 72 Tryz.underlying38 hi0 hz0 hz1 hz2 rfl (by omega) _ (j + 1) _ rfl (by exact O6.out) (if c = j then some ⟨g, 0, none⟩ else some ⟨g, j * 5, none⟩) (n - j) (c - j) (ent5 (ER.drop j)) (by first | rfl | simp) (by rw [ent5_len, HLD.out]) (fun e => by by_cases hck : c = j <;> simp [hck] at e) (by exact S7.out) (ent5_one _) (by simp only [maxLen]; omega) (by omega) (by omega) ?_
       intro v' w7 hown7 hgr7 hat7
       obtain ⟨B7, c7, rfl, _, _, _⟩ := own_form hown7
       have O7 := Lib.hid hown7
       have B7b := Lib.hid (show Below wm.heap.size wm w7 from C6.out.grown hgr7 hz6 (fun q hq => (O6.out.lt q hq).1))
       have f7 : w7.frozen? ⟨p, 1, none⟩ = false := (HBLK.out.below (BM.out.trans (B7b.out.mono hzm3)) hpz).free 1
       have k7 : w7.cell? ⟨p, 1, none⟩ = some (.slice (some ⟨g, 0, none⟩) n c) := (B7b.out.cell (p := ⟨p, 1, none⟩) hpm).trans ecc
       clear hown7 hgr7 hat7))
    all_goals
      go_ret
      rw [HE.out, HR3.out]
      exact ⟨rfl, FIN.out w7 B7 c7 O7.out B7b.out⟩
end
end Go.Proofs.YtmkccblcmiflfaaGreat
