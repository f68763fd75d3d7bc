/- Texts joined: KR13, KR14. No condition beyond those that each theorem states. -/
import Derived.Test.YtmkccblcmiflfaaGreatPK9
namespace Go.Proofs.YtmkccblcmiflfaaGreat
open Go.RowKit Go.Maps Go.WideMaps

def Narrow (F : Nat → Prop) (w : World) (k : Nat) : Prop := F k ∧ k < w.heap.size
theorem RefAt.narrow {F : Nat → Prop} {w : World} {p N : Nat} {R : CV} (h : RefAt F w p N R) : RefAt (Narrow F w) w p N R := (RefAt.owning p N R).mono _ _ _ h (fun _ h1 h2 => ⟨h2, h1⟩)
theorem RefPost.widen {F : Nat → Prop} {w w' : World} {p N : Nat} {R : CV} (h : RefPost (Narrow F w) p N R w w') : RefPost F p N R w w' := by
  obtain ⟨F', h1, h2, h3⟩ := h
  exact ⟨F', h1, h2.mono (fun _ h => h.1), fun k hk => ⟨(h3 k hk).1, (h3 k hk).2.imp And.left id⟩⟩
section
set_option maxHeartbeats 8000000
set_option maxRecDepth 100000
theorem rApply1 (F : Nat → Prop) (p N : Nat) (R : CV) (v : NoteV) (D : Option Addr) (dn dc : Nat) (Q : Option Addr) (qn qc : Nat) (w : World) (h : RefAt F w p N R) (hN : N ≤ 10000) (hin : NoteIn w v D dn dc Q qn qc) (hk1 : v.kind = 1) :
    Calls Tryz.prog 23 #[.pointer (some ⟨p, 0, none⟩), noteAgg v D dn dc Q qn qc] w fun e w' => e = .returned (.int .i64 (putC R v).1) ∧ RefPost F p (N + 1) (putC R v).2 w w' := by
  obtain ⟨i0, hi0, hz0, hz1, hz2⟩ := info_parts rblob_info
  have H := Lib.hid h
  have HI := Lib.hid hin
  have hkl : v.key.length ≤ maxLen := hin.key
  have HKL := Lib.hid hkl
  have hdl : v.data.length = dn := hin.data.1
  have hd63 : dn ≤ 9223372036854775807 := by have := hin.dform.1; have := hin.dform.2.1; simp only [maxLen] at this; omega
  have e1 : (v.kind == 1) = true := by simpa using hk1
  clear h hk1 hin
  unfold noteAgg
  go_enter Tryz.func23, Tryz.ntmps23
  go_upto_region 1 with fail
  obtain ⟨w1, hw1⟩ : ∃ w1, w1 = w.alloc (.cells #[.int .i64 v.kind, encStr v.key, .int .i64 v.gen, .int .i64 v.cart, .slice D dn dc, encStr v.sum, .int .i64 v.size, .slice Q qn qc] 32) := ⟨_, rfl⟩
  have hb1 : Below w.heap.size w w1 := by rw [hw1]; exact (Below.refl _ _).alloc (Nat.le_refl _) _
  have BB := Lib.hid (show Blk w1 w.heap.size 32 #[.int .i64 v.kind, encStr v.key, .int .i64 v.gen, .int .i64 v.cart, .slice D dn dc, encStr v.sum, .int .i64 v.size, .slice Q qn qc] by rw [hw1]; exact Blk.made w _ _)
  change Code.wp _ _ _ _ (w.alloc (.cells #[.int .i64 v.kind, encStr v.key, .int .i64 v.gen, .int .i64 v.cart, .slice D dn dc, encStr v.sum, .int .i64 v.size, .slice Q qn qc] 32))
  rw [← hw1]
  have B1 := Lib.hid hb1
  have H1 := Lib.hid (H.out.below hb1)
  have BD := Lib.hid (HI.out.data.below hb1)
  have q0 : w1.cell? ⟨w.heap.size, 0, none⟩ = some (.int .i64 v.kind) := BB.out.cell 0
  have q1 : w1.cell? ⟨w.heap.size, 1, none⟩ = some (encStr v.key) := BB.out.cell 1
  have q4 : w1.cell? ⟨w.heap.size, 4, none⟩ = some (.slice D dn dc) := BB.out.cell 4
  have hnb : w.heap.size < w1.heap.size := BB.out.size
  clear hw1 hb1
  go_wp2_with fail
  refine (rNamed v.key _ HKL.out).mono ?_
  rintro e w1' ⟨rfl, rfl⟩
  by_cases nm : 1 ≤ v.key.length ∧ v.key.length ≤ 16
  case neg =>
    have HE := Lib.hid (show putC R v = (12, R) from if_pos (by omega))
    rw [decide_eq_false nm]
    clear nm
    go_wp2_with fail
    go_ret
    rw [HE.out]
    exact ⟨rfl, RefPost.same H.out (Nat.le_succ _) B1.out⟩
  rw [decide_eq_true nm]
  by_cases g3 : 512 < dn
  · have d3 : decide ((512 : Int) < dn) = true := by simp; omega
    have HE := Lib.hid (show putC R v = (12, R) from if_pos (.inr (.inr (by omega))))
    clear nm
    go_wp2_with fail
    go_ret
    rw [HE.out]
    exact ⟨rfl, RefPost.same H.out (Nat.le_succ _) B1.out⟩
  have d3 : decide ((512 : Int) < dn) = false := by simp; omega
  have hne : ¬ (v.key.length < 1 ∨ 16 < v.key.length ∨ 512 < v.data.length) := by omega
  have HNE := Lib.hid hne
  clear nm hne
  go_wp2_with fail
  refine (rHas F p N R v.key _ H1.out (by omega)).mono ?_
  rintro e w1' ⟨rfl, rfl⟩
  cases hh : hasC R v.key with
  | true =>
    have HE := Lib.hid (show putC R v = (4, R) by unfold putC; rw [if_neg HNE.out, if_pos hh])
    clear hh
    go_wp2_with fail
    go_ret
    rw [HE.out]
    exact ⟨rfl, RefPost.same H.out (Nat.le_succ _) B1.out⟩
  | false =>
    have HE := Lib.hid (show putC R v = (0, { R with staged := R.staged ++ [(v.key, v.data)] }) by unfold putC; rw [if_neg HNE.out, hh]; rfl)
    clear hh
    obtain ⟨sw, sh, sb, st, sr, ER, hr1⟩ := H1.out
    obtain ⟨B, c, rfl, hnc, hcm, hB⟩ := own_form hr1.wait.1
    have cc : w1.cell? ⟨p, 0, none⟩ = some (.slice B R.staged.length c) := hr1.blk.cell 0
    have hrl : p < w1.heap.size := hr1.blk.size
    have RR := Lib.hid hr1
    have hnR : R.staged.length ≤ 10000 := by have := hr1.lens; omega
    obtain ⟨n, hn⟩ : ∃ n, R.staged.length = n := ⟨_, rfl⟩
    have HRN := Lib.hid hn
    have RW := Lib.hid (show w1.ownsRow 0 88 2 (.slice B n c) n (waitVals R.staged) by rw [← hn]; exact hr1.wait.1)
    have hcv : (convert 29 9 (.slice D dn dc)).run Tryz.prog w1.drew = .ok (encStr v.data) w1.drew := arg_string (BD.out.below ⟨rfl, rfl, rfl, Nat.le_refl _, fun _ _ => rfl⟩)
    have HWN := Lib.hid (show ∀ g, (Value.slice B n c).ownBlock = some g → g ≠ p by rw [← hn]; exact fun g hg => hr1.wait_ne hg)
    rw [hn] at cc hnR
    clear hr1 hB hn hnc hcm
    go_upto_region 6 with fail
    go_region_law (
      (refine step_append_form _ rfl (.tmp 29) (.tmp 36) 51 rfl 0 88 i0 _ 2 32 Tryz.underlying51 hi0 hz0 hz1 hz2 rfl (by omega) _ n (waitVals R.staged) rfl (by exact own_of_eq RW.out (fun q hq => Below.heap_alloc _ _ q (RW.out.lt q hq).2)) (some ⟨w1.heap.size, 0, none⟩) 1 1 [encStr v.key, encStr v.data] rfl rfl (fun e => by cases e) (by exact src_new _ _ _ _) (by intro u hu; simp only [List.mem_cons, List.not_mem_nil, or_false] at hu; rcases hu with rfl | rfl <;> rfl) (by omega) (by simp only [maxLen]; omega) (by omega) (Nat.zero_le _) ?_
       intro g4 cap4 w4 hown4 hgr4 hat4 hlt4
       have HG4 := Lib.hid (show (w1.alloc (.cells #[encStr v.key, encStr v.data] 88)).grownBy w4 (Value.slice B n c).ownBlock from ⟨hgr4.os, hgr4.tape, hgr4.output, hgr4.size, hgr4.block⟩)
       have BK4 := Lib.hid ((RR.out.blk.alloc (.cells #[encStr v.key, encStr v.data] 88)).grown HG4.out (fun e => HWN.out p e rfl))
       have kp4 : w4.cell? ⟨p, 0, none⟩ = some (.slice B n c) := by rw [← HRN.out]; exact BK4.out.cell 0
       have fp4 : w4.frozen? ⟨p, 0, none⟩ = false := BK4.out.free 0
       have HO4 := Lib.hid hown4
       have HA4 := Lib.hid hat4
       clear hown4 hgr4 hat4))
    all_goals
      go_wp2_with fail
    all_goals
      go_ret
      rw [HE.out]
      have hx := RR.out
      have ho := HO4.out
      have ha := HA4.out
      have hg := HG4.out
      rw [← HRN.out] at ho hg ha ⊢
      exact ⟨rfl, RefPost.of_below B1.out (rput_close hx (Below.refl _ _) ho hg ha)⟩
/-- Where Apply hands a note on. -/
theorem rApplyE (F : Nat → Prop) (p N : Nat) (v : NoteV) (D : Option Addr) (dn dc : Nat) (Q : Option Addr) (qn qc : Nat) (w : World) (r : Int × CV) (h1 : v.kind ≠ 1) (h2 : v.kind ≠ 2) (h3 : v.kind ≠ 3)
    (hr : ∀ w1, Below w.heap.size w w1 → Calls Tryz.prog 56 #[.pointer (some ⟨p, 0, none⟩), noteAgg v D dn dc Q qn qc] w1 fun e w' => e = .returned (.int .i64 r.1) ∧ RefPost F p (N + 1) r.2 w1 w') :
    Calls Tryz.prog 23 #[.pointer (some ⟨p, 0, none⟩), noteAgg v D dn dc Q qn qc] w fun e w' => e = .returned (.int .i64 r.1) ∧ RefPost F p (N + 1) r.2 w w' := by
  have HR := Lib.hid hr
  have e1 : (v.kind == 1) = false := by simpa using h1
  have e2 : (v.kind == 2) = false := by simpa using h2
  have e3 : (v.kind == 3) = false := by simpa using h3
  clear hr h1 h2 h3
  unfold noteAgg at *
  go_enter Tryz.func23, Tryz.ntmps23
  go_wp2_with fail
  have hb1 : Below w.heap.size w (w.alloc (.cells #[.int .i64 v.kind, encStr v.key, .int .i64 v.gen, .int .i64 v.cart, .slice D dn dc, encStr v.sum, .int .i64 v.size, .slice Q qn qc] 32)) := (Below.refl _ _).alloc (Nat.le_refl _) _
  refine (HR.out _ hb1).mono ?_
  rintro e w2 ⟨rfl, hp⟩
  have HP := Lib.hid (RefPost.of_below hb1 hp)
  clear hp hb1
  go_wp2_with fail
  go_ret
  exact ⟨rfl, HP.out⟩
end
end Go.Proofs.YtmkccblcmiflfaaGreat

namespace Go.Proofs.YtmkccblcmiflfaaGreat
open Go.RowKit Go.Maps Go.WideMaps

theorem ent_a2 {W w5 : World} {t t' : TypeId} {cs : Array Value} (h : ((W.alloc (.cells #[] t)).alloc (.cells cs t')).drew.grownBy w5 (some W.heap.size)) : Blk w5 (W.heap.size + 1) t' cs := by
  have e : (W.alloc (.cells #[] t)).heap.size = W.heap.size + 1 := by simp
  have h1 := Blk.made (W.alloc (.cells #[] t)) t' cs
  rw [e] at h1
  exact (h.block _ (by show W.heap.size + 1 < ((W.alloc _).alloc _).heap.size; simp) (by simp)).trans h1
theorem ent_a3 {W w5 : World} {t t' : TypeId} {cs : Array Value} (h : ((W.alloc (.cells cs t')).alloc (.cells #[] t)).drew.grownBy w5 (some (W.heap.size + 1))) : Blk w5 W.heap.size t' cs := by
  have h1 := (Blk.made W t' cs).alloc (.cells #[] t)
  exact (h.block _ (by show W.heap.size < ((W.alloc _).alloc _).heap.size; simp; omega) (by simp)).trans h1
theorem s5_cell {w5 : World} {a i be : Nat} {v u0 u1 u2 u3 u4 : Value} (h : w5.cell? ⟨a, i, none⟩ = some v) (hne : a ≠ be) : (((((w5.setCell ⟨be, 0, none⟩ u0).setCell ⟨be, 1, none⟩ u1).setCell ⟨be, 2, none⟩ u2).setCell ⟨be, 3, none⟩ u3).setCell ⟨be, 4, none⟩ u4).cell? ⟨a, i, none⟩ = some v :=
  cell_other (cell_other (cell_other (cell_other (cell_other h hne) hne) hne) hne) hne
theorem al_cell {w5 : World} {a i : Nat} {v : Value} {o : Obj} (h : w5.cell? ⟨a, i, none⟩ = some v) (hlt : a < w5.heap.size) : (w5.alloc o).cell? ⟨a, i, none⟩ = some v := (World.cell?_of_block (a := ⟨a, i, none⟩) (Below.heap_alloc w5 o a hlt)).trans h
theorem s5_blk {w5 : World} {be : Nat} {t : TypeId} {a0 a1 a2 a3 a4 u0 u1 u2 u3 u4 : Value} (h : Blk w5 be t #[a0, a1, a2, a3, a4]) : Blk (((((w5.setCell ⟨be, 0, none⟩ u0).setCell ⟨be, 1, none⟩ u1).setCell ⟨be, 2, none⟩ u2).setCell ⟨be, 3, none⟩ u3).setCell ⟨be, 4, none⟩ u4) be t #[u0, u1, u2, u3, u4] :=
  ((((h.store 0 u0).store 1 u1).store 2 u2).store 3 u3).store 4 u4
theorem s5_heap {w5 : World} {q be : Nat} {u0 u1 u2 u3 u4 : Value} (hne : q ≠ be) : (((((w5.setCell ⟨be, 0, none⟩ u0).setCell ⟨be, 1, none⟩ u1).setCell ⟨be, 2, none⟩ u2).setCell ⟨be, 3, none⟩ u3).setCell ⟨be, 4, none⟩ u4).heap[q]? = w5.heap[q]? :=
  (Below.heap_setCell _ _ _ _ hne).trans ((Below.heap_setCell _ _ _ _ hne).trans ((Below.heap_setCell _ _ _ _ hne).trans ((Below.heap_setCell _ _ _ _ hne).trans (Below.heap_setCell _ _ _ _ hne))))
theorem s5_below {w3 w5 : World} {be : Nat} {u0 u1 u2 u3 u4 : Value} (h : Below w3.heap.size w3 w5) (hbe : w3.heap.size ≤ be) : Below w3.heap.size w3 (((((w5.setCell ⟨be, 0, none⟩ u0).setCell ⟨be, 1, none⟩ u1).setCell ⟨be, 2, none⟩ u2).setCell ⟨be, 3, none⟩ u3).setCell ⟨be, 4, none⟩ u4) :=
  ((((h.setCell (p := ⟨be, 0, none⟩) hbe _).setCell (p := ⟨be, 1, none⟩) hbe _).setCell (p := ⟨be, 2, none⟩) hbe _).setCell (p := ⟨be, 3, none⟩) hbe _).setCell (p := ⟨be, 4, none⟩) hbe _
theorem s5_own {w5 : World} {base be n size : Nat} {t t' : TypeId} {v : Value} {xs : List Value} {cs : Array Value} {u0 u1 u2 u3 u4 : Value} (h : w5.ownsRow base t size v n xs) (hb : Blk w5 be t' cs) (ht : t ≠ t') : (((((w5.setCell ⟨be, 0, none⟩ u0).setCell ⟨be, 1, none⟩ u1).setCell ⟨be, 2, none⟩ u2).setCell ⟨be, 3, none⟩ u3).setCell ⟨be, 4, none⟩ u4).ownsRow base t size v n xs :=
  own_of_eq h (fun q hq => s5_heap (by
    obtain ⟨cs', hb'⟩ := own_blk h hq
    exact blk_ne hb' hb ht))
theorem refPlaced_no {R : CV} {v : NoteV} (h : v.key.length < 1 ∨ 16 < v.key.length ∨ v.gen < 1 ∨ R.gen < v.gen ∨ v.size < 0 ∨ 512 < v.size) : refPlaced R v = (12, R) := if_pos h
section
set_option maxHeartbeats 16000000
set_option maxRecDepth 100000
theorem rApply2n (F : Nat → Prop) (p N : Nat) (R : CV) (v : NoteV) (D : Option Addr) (dn dc : Nat) (Q : Option Addr) (qn qc : Nat) (w : World) (h : RefAt F w p N R) (hin : NoteIn w v D dn dc Q qn qc) (hap : 0 < qn → ∀ b off, Q = some ⟨b, off, none⟩ → ¬ F b) (hk2 : v.kind = 2) (hno : ¬ (1 ≤ v.key.length ∧ v.key.length ≤ 16 ∧ 1 ≤ v.gen ∧ v.gen ≤ R.gen ∧ 0 ≤ v.size ∧ v.size ≤ 512 ∧ (qn : Int) = 10 * groupsI v.size)) (hs : (R.staged.map Prod.fst).Nodup) (he : (R.entries.map Prod.fst).Nodup) :
    Calls Tryz.prog 23 #[.pointer (some ⟨p, 0, none⟩), noteAgg v D dn dc Q qn qc] w fun e w' => e = .returned (.int .i64 (refPlaced R v).1) ∧ RefPost F p (N + 1) (refPlaced R v).2 w w' := by
  obtain ⟨i0, hi0, hz0, hz1, hz2⟩ := info_parts place_info
  have H := Lib.hid h.narrow
  have HI := Lib.hid hin
  have HAP := Lib.hid hap
  have HS := Lib.hid hs
  have HEN := Lib.hid he
  have hkl : v.key.length ≤ maxLen := hin.key
  have HKL := Lib.hid hkl
  have hq63 : qn ≤ 9223372036854775807 := by have := hin.pform.1; have := hin.pform.2.1; simp only [maxLen] at this; omega
  have hpl : v.places.length = qn := hin.places.1
  have e1 : (v.kind == 1) = false := by rw [hk2]; rfl
  have e2 : (v.kind == 2) = true := by rw [hk2]; rfl
  have HNG := Lib.hid hno
  clear hno
  clear h hk2 hs he hin hap hkl
  unfold noteAgg
  go_enter Tryz.func23, Tryz.ntmps23
  go_upto_region 1 with fail
  obtain ⟨w1, hw1⟩ : ∃ w1, w1 = w.alloc (.cells #[.int .i64 v.kind, encStr v.key, .int .i64 v.gen, .int .i64 v.cart, .slice D dn dc, encStr v.sum, .int .i64 v.size, .slice Q qn qc] 32) := ⟨_, rfl⟩
  have hb1 : Below w.heap.size w w1 := by rw [hw1]; exact (Below.refl _ _).alloc (Nat.le_refl _) _
  have BB := Lib.hid (show Blk w1 w.heap.size 32 #[.int .i64 v.kind, encStr v.key, .int .i64 v.gen, .int .i64 v.cart, .slice D dn dc, encStr v.sum, .int .i64 v.size, .slice Q qn qc] by rw [hw1]; exact Blk.made w _ _)
  change Code.wp _ _ _ _ (w.alloc (.cells #[.int .i64 v.kind, encStr v.key, .int .i64 v.gen, .int .i64 v.cart, .slice D dn dc, encStr v.sum, .int .i64 v.size, .slice Q qn qc] 32))
  rw [← hw1]
  have B1 := Lib.hid hb1
  have H1 := Lib.hid (H.out.below hb1)
  have q0 : w1.cell? ⟨w.heap.size, 0, none⟩ = some (.int .i64 v.kind) := BB.out.cell 0
  have q1 : w1.cell? ⟨w.heap.size, 1, none⟩ = some (encStr v.key) := BB.out.cell 1
  have q2 : w1.cell? ⟨w.heap.size, 2, none⟩ = some (.int .i64 v.gen) := BB.out.cell 2
  have q6 : w1.cell? ⟨w.heap.size, 6, none⟩ = some (.int .i64 v.size) := BB.out.cell 6
  have q7 : w1.cell? ⟨w.heap.size, 7, none⟩ = some (.slice Q qn qc) := BB.out.cell 7
  have hnb : w.heap.size < w1.heap.size := BB.out.size
  have c5 : w1.cell? ⟨p, 5, none⟩ = some (.int .i64 R.gen) := by
    obtain ⟨sw, sh, sb, st, sr, ER, hr1⟩ := H1.out
    exact hr1.blk.cell 5
  clear hw1 hb1
  by_cases nm : 1 ≤ v.key.length ∧ v.key.length ≤ 16
  case neg =>
    have zn : decide (1 ≤ v.key.length ∧ v.key.length ≤ 16) = false := decide_eq_false nm
    have HE := Lib.hid (show refPlaced R v = (12, R) from refPlaced_no (by omega))
    go_wp2_with fail
    go_quiet ((first | (go_at_call 51; exact quiet_eq (rNamed v.key _ HKL.out)) | (go_at_call 20; exact quiet_eq (cGroups13 v.size _ (by omega) (by omega)))))
    go_wp2_with fail
    go_ret
    rw [HE.out]
    exact ⟨rfl, RefPost.widen (RefPost.same H.out (Nat.le_succ _) (B1.out.trans ((below_drewN (Below.refl _ _) _).mono B1.out.size)))⟩
  have zn : decide (1 ≤ v.key.length ∧ v.key.length ≤ 16) = true := decide_eq_true nm
  by_cases g1 : v.gen < 1
  · have z1 : decide (v.gen < 1) = true := by simpa using g1
    have HE := Lib.hid (show refPlaced R v = (12, R) from refPlaced_no (by omega))
    go_wp2_with fail
    go_quiet ((first | (go_at_call 51; exact quiet_eq (rNamed v.key _ HKL.out)) | (go_at_call 20; exact quiet_eq (cGroups13 v.size _ (by omega) (by omega)))))
    go_wp2_with fail
    go_ret
    rw [HE.out]
    exact ⟨rfl, RefPost.widen (RefPost.same H.out (Nat.le_succ _) (B1.out.trans ((below_drewN (Below.refl _ _) _).mono B1.out.size)))⟩
  have z1 : decide (v.gen < 1) = false := by simpa using g1
  by_cases g2 : R.gen < v.gen
  · have z2 : decide (R.gen < v.gen) = true := by simpa using g2
    have HE := Lib.hid (show refPlaced R v = (12, R) from refPlaced_no (by omega))
    go_wp2_with fail
    go_quiet ((first | (go_at_call 51; exact quiet_eq (rNamed v.key _ HKL.out)) | (go_at_call 20; exact quiet_eq (cGroups13 v.size _ (by omega) (by omega)))))
    go_wp2_with fail
    go_ret
    rw [HE.out]
    exact ⟨rfl, RefPost.widen (RefPost.same H.out (Nat.le_succ _) (B1.out.trans ((below_drewN (Below.refl _ _) _).mono B1.out.size)))⟩
  have z2 : decide (R.gen < v.gen) = false := by simpa using g2
  by_cases g3 : v.size < 0
  · have z3 : decide (v.size < 0) = true := by simpa using g3
    have HE := Lib.hid (show refPlaced R v = (12, R) from refPlaced_no (by omega))
    go_wp2_with fail
    go_quiet ((first | (go_at_call 51; exact quiet_eq (rNamed v.key _ HKL.out)) | (go_at_call 20; exact quiet_eq (cGroups13 v.size _ (by omega) (by omega)))))
    go_wp2_with fail
    go_ret
    rw [HE.out]
    exact ⟨rfl, RefPost.widen (RefPost.same H.out (Nat.le_succ _) (B1.out.trans ((below_drewN (Below.refl _ _) _).mono B1.out.size)))⟩
  have z3 : decide (v.size < 0) = false := by simpa using g3
  by_cases g4 : 512 < v.size
  · have z4 : decide (512 < v.size) = true := by simpa using g4
    have HE := Lib.hid (show refPlaced R v = (12, R) from refPlaced_no (by omega))
    go_wp2_with fail
    go_quiet ((first | (go_at_call 51; exact quiet_eq (rNamed v.key _ HKL.out)) | (go_at_call 20; exact quiet_eq (cGroups13 v.size _ (by omega) (by omega)))))
    go_wp2_with fail
    go_ret
    rw [HE.out]
    exact ⟨rfl, RefPost.widen (RefPost.same H.out (Nat.le_succ _) (B1.out.trans ((below_drewN (Below.refl _ _) _).mono B1.out.size)))⟩
  have z4 : decide (512 < v.size) = false := by simpa using g4
  have hs0 : 0 ≤ v.size := by omega
  have hs5 : v.size ≤ 512 := by omega
  have hgr : 1 ≤ groupsI v.size ∧ groupsI v.size ≤ 4 := by unfold groupsI; omega
  have HG := Lib.hid hgr
  have HNO := Lib.hid (show ¬ (v.key.length < 1 ∨ 16 < v.key.length ∨ v.gen < 1 ∨ R.gen < v.gen ∨ v.size < 0 ∨ 512 < v.size) by omega)
  have HGD := Lib.hid (show 1 ≤ v.key.length ∧ v.key.length ≤ 16 ∧ 1 ≤ v.gen ∧ v.gen ≤ R.gen ∧ 0 ≤ v.size ∧ v.size ≤ 512 from ⟨nm.1, nm.2, by omega, by omega, by omega, by omega⟩)
  clear nm g1 g2 g3 g4
  obtain ⟨gi, hgi⟩ : ∃ gi, groupsI v.size = gi := ⟨_, rfl⟩
  have HGI := Lib.hid hgi
  rw [hgi] at hgr
  have hw64 : IntKind.i64.wrap (10 * gi) = 10 * gi := by unfold IntKind.wrap; simp [IntKind.bits, IntKind.signed]; omega
  have hcg : ∀ W : World, Calls Tryz.prog 20 #[.int .i64 v.size] W fun e w' => e = .returned (.int .i64 gi) ∧ W = w' := fun W => by
    have h := cGroups13 v.size W hs0 hs5
    rw [hgi] at h
    exact h
  have HCG := Lib.hid hcg
  clear hgi hcg
  by_cases g5 : (qn : Int) = 10 * gi
  case neg =>
    have z5 : ((qn : Int) != 10 * gi) = true := by simpa using g5
    have HE := Lib.hid (show refPlaced R v = (12, R) by unfold refPlaced; rw [if_neg HNO.out, if_pos (by rw [HGI.out, hpl]; omega)])
    clear g5
    go_wp2_with fail
    go_quiet ((first | (go_at_call 51; exact quiet_eq (rNamed v.key _ HKL.out)) | (go_at_call 20; exact quiet_eq (HCG.out _))))
    go_wp2_with fail
    go_ret
    rw [HE.out]
    exact ⟨rfl, RefPost.widen (RefPost.same H.out (Nat.le_succ _) (B1.out.trans ((below_drewN (Below.refl _ _) _).mono B1.out.size)))⟩
  exact absurd (show 1 ≤ v.key.length ∧ v.key.length ≤ 16 ∧ 1 ≤ v.gen ∧ v.gen ≤ R.gen ∧ 0 ≤ v.size ∧ v.size ≤ 512 ∧ (qn : Int) = 10 * groupsI v.size from ⟨HGD.out.1, HGD.out.2.1, HGD.out.2.2.1, HGD.out.2.2.2.1, HGD.out.2.2.2.2.1, HGD.out.2.2.2.2.2, by rw [HGI.out]; exact g5⟩) HNG.out
end
end Go.Proofs.YtmkccblcmiflfaaGreat
