/- What Append does to the document's cartridge. No condition beyond those that each theorem states. -/
import Derived.Test.YtiiilimmjoadeaaR2
import Derived.Deep.RegionLaw
import Derived.Deep.DeepCutAuto
import Derived.Deep.CutBlock
namespace Go.Proofs.Ytiiilimmjoadeaa
open Go.RowKit

section
variable {F : Nat → Prop} {w w2 : World} {p g2 cap2 m n k : Nat} {rv bv : Value} {most : Int} {gone : Bool} {xs ys zs : List Value} {o : Obj} {wd : World}
/-- The first field has a row that grew. -/
theorem ref_step1 (hb : OwnBlk F w p 47 #[rv, bv, .int .i64 most, .bool gone]) (hr : OwnRow F w 9 1 rv n xs) (hq : OwnRow F w 4 1 bv k ys) (hd : Below w.heap.size w wd)
    (hown : w2.ownsRow 0 9 1 (.slice (some ⟨g2, 0, none⟩) m cap2) m zs) (hgr : wd.grownBy w2 rv.ownBlock) (hat : rv.ownBlock = some g2 ∨ g2 = wd.heap.size) :
    OwnBlk (fun k => F k ∨ w.heap.size ≤ k) (w2.setCell ⟨p, 0, none⟩ (.slice (some ⟨g2, 0, none⟩) m cap2)) p 47 #[.slice (some ⟨g2, 0, none⟩) m cap2, bv, .int .i64 most, .bool gone] ∧
    OwnRow (fun k => F k ∨ w.heap.size ≤ k) (w2.setCell ⟨p, 0, none⟩ (.slice (some ⟨g2, 0, none⟩) m cap2)) 9 1 (.slice (some ⟨g2, 0, none⟩) m cap2) m zs ∧
    OwnRow (fun k => F k ∨ w.heap.size ≤ k) (w2.setCell ⟨p, 0, none⟩ (.slice (some ⟨g2, 0, none⟩) m cap2)) 4 1 bv k ys ∧
    Chg F w (w2.setCell ⟨p, 0, none⟩ (.slice (some ⟨g2, 0, none⟩) m cap2)) := by
  obtain ⟨h1, hc1⟩ := hr.grown hd hown hgr hat
  have hc0 : Chg (fun k => rv.ownBlock = some k) w w2 := (Chg.of_below _ hd).grown hgr (fun q hq => .inl hq)
  have hb2 : Blk w2 p 47 #[rv, bv, .int .i64 most, .bool gone] := hb.1.of_eq (hc0.block p hb.1.size (fun e => hr.ne_blk hb.1 (by decide) e rfl))
  refine ⟨⟨hb2.store 0 _, .inl hb.2⟩, ⟨own_of_eq h1.1 (fun g hg => Below.heap_setCell _ _ _ _ (h1.ne_blk hb2 (by decide) hg)), h1.2⟩, ⟨own_of_eq hq.1 (fun g hg => ?_), fun g hg => .inl (hq.2 g hg)⟩, hc1.store (p := ⟨p, 0, none⟩) (.inl hb.2) _⟩
  exact (Below.heap_setCell _ _ _ _ (hq.ne_blk hb.1 (by decide) hg)).trans (hc0.block g (hq.1.lt g hg).2 (fun e => hr.ne_row hq (by decide) e hg rfl))
theorem ref_step2 (hb : OwnBlk F w p 47 #[rv, bv, .int .i64 most, .bool gone]) (hr : OwnRow F w 9 1 rv n xs) (hq : OwnRow F w 4 1 bv k ys) (hd : Below w.heap.size w wd)
    (hown : w2.ownsRow 0 4 1 (.slice (some ⟨g2, 0, none⟩) m cap2) m zs) (hgr : wd.grownBy w2 bv.ownBlock) (hat : bv.ownBlock = some g2 ∨ g2 = wd.heap.size) :
    OwnBlk (fun k => F k ∨ w.heap.size ≤ k) (w2.setCell ⟨p, 1, none⟩ (.slice (some ⟨g2, 0, none⟩) m cap2)) p 47 #[rv, .slice (some ⟨g2, 0, none⟩) m cap2, .int .i64 most, .bool gone] ∧
    OwnRow (fun k => F k ∨ w.heap.size ≤ k) (w2.setCell ⟨p, 1, none⟩ (.slice (some ⟨g2, 0, none⟩) m cap2)) 4 1 (.slice (some ⟨g2, 0, none⟩) m cap2) m zs ∧
    OwnRow (fun k => F k ∨ w.heap.size ≤ k) (w2.setCell ⟨p, 1, none⟩ (.slice (some ⟨g2, 0, none⟩) m cap2)) 9 1 rv n xs ∧
    Chg F w (w2.setCell ⟨p, 1, none⟩ (.slice (some ⟨g2, 0, none⟩) m cap2)) := by
  obtain ⟨h1, hc1⟩ := hq.grown hd hown hgr hat
  have hc0 : Chg (fun k => bv.ownBlock = some k) w w2 := (Chg.of_below _ hd).grown hgr (fun q hq => .inl hq)
  have hb2 : Blk w2 p 47 #[rv, bv, .int .i64 most, .bool gone] := hb.1.of_eq (hc0.block p hb.1.size (fun e => hq.ne_blk hb.1 (by decide) e rfl))
  refine ⟨⟨hb2.store 1 _, .inl hb.2⟩, ⟨own_of_eq h1.1 (fun g hg => Below.heap_setCell _ _ _ _ (h1.ne_blk hb2 (by decide) hg)), h1.2⟩, ⟨own_of_eq hr.1 (fun g hg => ?_), fun g hg => .inl (hr.2 g hg)⟩, hc1.store (p := ⟨p, 1, none⟩) (.inl hb.2) _⟩
  exact (Below.heap_setCell _ _ _ _ (hr.ne_blk hb.1 (by decide) hg)).trans (hc0.block g (hr.1.lt g hg).2 (fun e => hq.ne_row hr (by decide) e hg rfl))
end

/-- The texts have grown, the marks not yet. -/
def RefMid (F : Nat → Prop) (w : World) (p : Nat) (bv v2 : Value) (M : Recs) (most : Int) (l : List UInt8) (wx : World) : Prop :=
  OwnBlk (fun k => F k ∨ w.heap.size ≤ k) wx p 47 #[v2, bv, .int .i64 most, .bool false] ∧ OwnRow (fun k => F k ∨ w.heap.size ≤ k) wx 9 1 v2 (M.length + 1) (strs M ++ [.string ⟨l.toArray⟩]) ∧
  OwnRow (fun k => F k ∨ w.heap.size ≤ k) wx 4 1 bv M.length (rotVals M) ∧ Chg F w wx
/-- Both have grown. -/
def RefEnd (F : Nat → Prop) (w : World) (p : Nat) (v2 v3 : Value) (M : Recs) (most : Int) (l : List UInt8) (wx : World) : Prop :=
  OwnBlk (fun k => F k ∨ w.heap.size ≤ k) wx p 47 #[v2, v3, .int .i64 most, .bool false] ∧ OwnRow (fun k => F k ∨ w.heap.size ≤ k) wx 4 1 v3 (M.length + 1) (rotVals M ++ [.bool false]) ∧
  OwnRow (fun k => F k ∨ w.heap.size ≤ k) wx 9 1 v2 (M.length + 1) (strs M ++ [.string ⟨l.toArray⟩]) ∧ Chg F w wx
theorem row_apart {F : Nat → Prop} {w wd w2 : World} {p : Nat} {t t' : TypeId} {cs : Array Value} {v : Value} {size n : Nat} {xs : List Value} (hb : OwnBlk F w p t cs) (hr : OwnRow F w t' size v n xs) (hne : t' ≠ t) (hd : Below w.heap.size w wd) (hgr : wd.grownBy w2 v.ownBlock) : Blk w2 p t cs :=
  hb.1.of_eq (((Chg.of_below (fun k => v.ownBlock = some k) hd).grown hgr (fun _ hq => .inl hq)).block p hb.1.size (fun e => hr.ne_blk hb.1 hne e rfl))

set_option maxRecDepth 100000 in
set_option maxHeartbeats 2000000 in
theorem refAppend_ok (F : Nat → Prop) (p : Nat) (M : Recs) (most : Int) (b off n c : Nat) (l : List UInt8) (w : World) (h : ROwn F w p M most false) (hbs : BytesIn w (some ⟨b, off, none⟩) n l) (h1 : 1 ≤ n) (h2 : n ≤ 256) (hf : (M.length : Int) < most) :
    Calls Try.prog 48 #[.pointer (some ⟨p, 0, none⟩), .slice (some ⟨b, off, none⟩) n c] w fun e w' => e = .returned (.tuple #[.int .i64 M.length, .int .i64 0]) ∧ ∃ F', ROwn F' w' p (M ++ [(l, false)]) most false ∧ Took F F' w w' := by
  obtain ⟨rv, bv, hb, hr, hq, hl⟩ := h
  have c0 : w.cell? ⟨p, 0, none⟩ = some rv := hb.1.cell 0
  have c2 : w.cell? ⟨p, 2, none⟩ = some (.int .i64 most) := hb.1.cell 2
  have c3 : w.cell? ⟨p, 3, none⟩ = some (.bool false) := hb.1.cell 3
  have f0 : w.frozen? ⟨p, 0, none⟩ = false := hb.1.free 0
  have hpz : p < w.heap.size := hb.1.size
  have ka : ∀ N o, ((w.drewN N).alloc o).cell? ⟨p, 0, none⟩ = some rv := fun N o => ((hb.1.drewN N).alloc o).cell 0
  have kf : ∀ N o, ((w.drewN N).alloc o).frozen? ⟨p, 0, none⟩ = false := fun N o => ((hb.1.drewN N).alloc o).free 0
  have d1 : decide ((n : Int) < 1) = false := by simp; omega
  have d2 : decide ((256 : Int) < n) = false := by simp; omega
  have hcv := fun N => bytes_string (w := w.drewN N) (c := c) (hbs.below ⟨rfl, rfl, rfl, Nat.le_refl _, fun _ _ => rfl⟩) (.inr ⟨_, _, rfl⟩)
  obtain ⟨i0, hi0, hz0, hz1, hz2⟩ := info_parts string_info
  obtain ⟨b0, hb0, hb1, hb2, hb3⟩ := info_parts bool_info
  have hm1 : M.length < 1024 := by omega
  have hln := hbs.1
  have HB := Lib.hid hb
  have HR := Lib.hid hr
  have HQ := Lib.hid hq
  have HL := Lib.hid hl
  have HLN := Lib.hid hln
  have hfm := hr.form
  have HFM := Lib.hid hfm
  clear hln hl hb hr hq hbs hfm
  go_enter Try.func48, Try.ntmps48
  go_upto_region 5 with fail
  go_cut [27] (fun s27 wx => s27 = .bool false ∧ ∃ N, wx = w.drewN N)
  case first =>
    rcases HFM.out with ⟨rfl, h0⟩ | ⟨g, cap, rfl, _, _, _, _⟩
    · have hm0 : (most ≤ 0) = False := by rw [h0] at hf; simp; exact hf
      clear h0
      go_quiet (fail)
      go_wp2_with fail
      go_meet
      exact ⟨rfl, _, rfl⟩
    · have hm0 : decide (most ≤ (M.length : Int)) = false := by simpa using hf
      go_quiet (fail)
      go_wp2_with fail
      go_meet
      exact ⟨rfl, _, rfl⟩
  case rest =>
    obtain ⟨rfl, N, rfl⟩ := hcut
    go_upto_region 7 with fail
    go_cut [] (fun wx => ∃ v2, RefMid F w p bv v2 M most l wx)
    case first =>
      go_region_law (
        (refine step_append_form _ rfl (.tmp 32) (.tmp 35) 35 rfl 0 9 i0 _ 1 16 Try.underlying35 hi0 hz0 hz1 hz2 rfl (by omega) _ M.length (strs M) rfl (by exact own_of_eq HR.out.1 (fun q hq => (Below.heap_alloc _ _ _ (HR.out.1.lt q hq).2))) (some ⟨w.heap.size, 0, none⟩) 1 1 [.string ⟨l.toArray⟩] rfl rfl (fun e => by cases e) (by exact src_new _ _ _ _) (by intro u hu; simp only [List.mem_cons, List.not_mem_nil, or_false] at hu; subst hu; rfl) (by omega) (by simp only [maxLen]; omega) (by omega) (Nat.zero_le _) ?_
         intro g2 cap2 w2 hown2 hgr2 hat2 hlt2
         have ST := Lib.hid (ref_step1 HB.out HR.out HQ.out (by exact (below_drewN (Below.refl _ _) _).alloc (Nat.le_refl _) _) hown2 hgr2 hat2)
         have hpf : w2.frozen? ⟨p, 0, none⟩ = false := (row_apart HB.out HR.out (by decide) (by exact (below_drewN (Below.refl _ _) _).alloc (Nat.le_refl _) _) hgr2).free 0
         have hpc : (w2.cell? ⟨p, 0, none⟩) = some rv := (row_apart HB.out HR.out (by decide) (by exact (below_drewN (Below.refl _ _) _).alloc (Nat.le_refl _) _) hgr2).cell 0
         clear hown2 hgr2 hat2))
      all_goals
        go_wp2_with fail
        go_meet
        exact ⟨_, ST.out⟩
    case rest =>
      obtain ⟨wm, rfl⟩ : ∃ wm : World, wm = wc := ⟨_, rfl⟩
      obtain ⟨v2, hb1, hr1, hq1, hc1⟩ := hcut
      have k0 : wm.cell? ⟨p, 0, none⟩ = some v2 := hb1.1.cell 0
      have k1 : wm.cell? ⟨p, 1, none⟩ = some bv := hb1.1.cell 1
      have kd : ∀ o, (wm.alloc o).cell? ⟨p, 1, none⟩ = some bv := fun o => (hb1.1.alloc o).cell 1
      have ke : ∀ o, (wm.alloc o).frozen? ⟨p, 1, none⟩ = false := fun o => (hb1.1.alloc o).free 1
      have hpz1 : p < wm.heap.size := hb1.1.size
      have HB1 := Lib.hid hb1
      have HR1 := Lib.hid hr1
      have HQ1 := Lib.hid hq1
      have HC1 := Lib.hid hc1
      clear hb1 hr1 hq1 hc1
      go_upto_region 8 with fail
      go_cut [] (fun wx => ∃ v3, RefEnd (fun k => F k ∨ w.heap.size ≤ k) wm p v2 v3 M most l wx)
      case first =>
        go_wp2_with (
          (at_builtin
           refine wpList_append_form _ rfl (.tmp 43) (.tmp 44) 36 rfl 0 4 b0 _ 1 1 Try.underlying36 hb0 hb1 hb2 hb3 rfl (by omega) _ M.length (rotVals M) rfl (by exact own_of_eq HQ1.out.1 (fun q hq => (Below.heap_alloc _ _ _ (HQ1.out.1.lt q hq).2))) (some ⟨wm.heap.size, 0, none⟩) 1 1 [.bool false] rfl rfl (fun e => by cases e) (by exact src_new _ _ _ _) (by intro u hu; simp only [List.mem_cons, List.not_mem_nil, or_false] at hu; subst hu; rfl) (by omega) (by simp only [maxLen]; omega) (by omega) (Nat.zero_le _) ?_
           intro g3 cap3 w3 hown3 hgr3 hat3 hlt3
           have ST := Lib.hid (ref_step2 HB1.out HR1.out HQ1.out (by exact (Below.refl _ _).alloc (Nat.le_refl _) _) hown3 hgr3 hat3)
           have hpf : w3.frozen? ⟨p, 1, none⟩ = false := (row_apart HB1.out HQ1.out (by decide) (by exact (Below.refl _ _).alloc (Nat.le_refl _) _) hgr3).free 1
           have hpc : (w3.cell? ⟨p, 1, none⟩) = some bv := (row_apart HB1.out HQ1.out (by decide) (by exact (Below.refl _ _).alloc (Nat.le_refl _) _) hgr3).cell 1
           clear hown3 hgr3 hat3))
        go_meet
        exact ⟨_, ST.out⟩
      case rest =>
        obtain ⟨v3, hb2, hq2, hr2, hc2⟩ := hcut
        have k2 : wc.cell? ⟨p, 0, none⟩ = some v2 := hb2.1.cell 0
        have hz2 : wm.heap.size ≤ wc.heap.size := hc2.size
        rcases hr2.form with ⟨_, h0⟩ | ⟨g, cap, rfl, _, _, _, _⟩
        · omega
        have fin : ∃ F', ROwn F' wc p (M ++ [(l, false)]) most false ∧ Took F F' w wc := by
          have hz1 := HC1.out.size
          have hcc : Chg F w wc := HC1.out.trans' hc2 (fun i hi h => h.resolve_right (by omega))
          refine Took.of (ROwn.owning p _ most false) ((ROwn.owning p _ most false).mono (fun k => (F k ∨ w.heap.size ≤ k) ∨ wm.heap.size ≤ k) _ _ ⟨_, _, hb2, ?_, ?_, HL.out.1, HL.out.2.1, by simp; omega⟩ (fun k _ hk => hk.elim id (fun h => .inr (by omega)))) hcc
          · rw [strs_snoc, List.length_append]; exact hr2
          · rw [List.length_append, show rotVals (M ++ [(l, false)]) = rotVals M ++ [.bool false] by simp [rotVals]]; exact hq2
        have HF := Lib.hid fin
        clear hb2 hq2 hr2 hc2 fin
        go_wp2_with fail
        go_ret2
        exact ⟨rfl, HF.out⟩

theorem refAppend (F : Nat → Prop) (p : Nat) (M : Recs) (most : Int) (gone : Bool) (A : Option Addr) (n c : Nat) (l : List UInt8) (w : World) (h : ROwn F w p M most gone) (hb : BytesIn w A n l) (hn : n ≤ 9223372036854775807) :
    Calls Try.prog 48 #[.pointer (some ⟨p, 0, none⟩), .slice A n c] w fun e w' => e = .returned (.tuple #[.int .i64 (appendM M most gone l).1, .int .i64 (appendM M most gone l).2.1]) ∧ ∃ F', ROwn F' w' p (appendM M most gone l).2.2 most gone ∧ Took F F' w w' := by
  have hln := hb.1
  by_cases hbad : n = 0 ∨ 256 < n
  · rw [appendM_bad (by rw [hln]; exact hbad)]
    refine (refAppend_bad F p M most gone A n c w h hn (.inl hbad)).mono fun e w' ⟨he, hw⟩ => ?_
    subst hw
    rw [if_pos hbad] at he
    exact ⟨he, h.same (Below.refl _ _)⟩
  · have h1 : 1 ≤ n := by omega
    have h2 : n ≤ 256 := by omega
    cases gone with
    | true =>
      rw [appendM_lost (by omega) (by omega)]
      refine (refAppend_bad F p M most true A n c w h hn (.inr rfl)).mono fun e w' ⟨he, hw⟩ => ?_
      subst hw
      rw [if_neg hbad] at he
      exact ⟨he, h.same (Below.refl _ _)⟩
    | false =>
      by_cases hf : most ≤ M.length
      · have e1 : appendM M most false l = (0, 7, M) := by unfold appendM; rw [if_neg (by omega), if_neg (by simp), if_pos hf]
        rw [e1]
        exact (refAppend_full F p M most A n c w h h1 h2 hf).mono fun e w' ⟨he, hw⟩ => ⟨he, h.same hw⟩
      · rw [appendM_ok (by omega) (by omega) (by omega)]
        obtain ⟨b, off, rfl, _⟩ := hb.2.resolve_left (by omega)
        exact refAppend_ok F p M most b off n c l w h hb h1 h2 (by omega)
end Go.Proofs.Ytiiilimmjoadeaa
