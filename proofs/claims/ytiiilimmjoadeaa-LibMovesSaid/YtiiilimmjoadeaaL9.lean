/- What a library's method Add does. No condition beyond those that each theorem states. -/
import Derived.Test.YtiiilimmjoadeaaL8
import Derived.Deep.RegionLaw
namespace Go.Proofs.Ytiiilimmjoadeaa
open Go.RowKit

theorem ptr_info : (Try.prog.info? 23).map (fun i => (i.zero, i.size, i.bytes)) = some (some (.pointer none), 1, 8) := by kernel_rfl
theorem drive_info : (Try.prog.info? 93).map (fun i => (i.zero, i.size, i.bytes)) = some (some (.agg #[.int .i64 0, .int .i64 0, .int .i64 0, .bool false]), 4, 32) := by kernel_rfl
theorem ptrs_snoc (cs : List CV) (C : CV) : ptrs (cs ++ [C]) = ptrs cs ++ [.pointer (some ⟨C.p, 0, none⟩)] := by simp [ptrs]
theorem drvs_snoc (ds : List DV) (d : DV) : drvs (ds ++ [d]) = drvs ds ++ drVals d := by simp [drvs]

/-- A cartridge more. -/
def LAdded (own : Nat → Nat) (w w' : World) (lp : Nat) (dv : Value) (L' : LV) : Prop :=
  ∃ own' cv', LCore own' w' lp cv' dv L' ∧ (∀ k, own' k ≠ 0 → own k ≠ 0 ∨ w.heap.size ≤ k) ∧ Chg (fun k => own k ≠ 0) w w'
theorem LAdded.step {own : Nat → Nat} {w w' : World} {lp : Nat} {dv : Value} {L' : LV} (h : LAdded own w w' lp dv L') : LStep own w w' lp L' := by
  obtain ⟨o, c, h1, h2, h3⟩ := h
  exact ⟨o, c, dv, h1, h2, h3⟩
theorem LCore.add {own : Nat → Nat} {w w1 w2 : World} {lp p g cap : Nat} {cv dv : Value} {L : LV} {m : Int} {o : Obj} (h : LCore own w lp cv dv L) (hC : COwn (fun k => w.heap.size ≤ k) w1 p [] m false) (hb : Below w.heap.size w w1) (h32 : L.carts.length < 32)
    (hr : w2.ownsRow 0 23 1 (.slice (some ⟨g, 0, none⟩) (L.carts.length + 1) cap) (L.carts.length + 1) (ptrs L.carts ++ [.pointer (some ⟨p, 0, none⟩)])) (hgr : (w1.alloc o).grownBy w2 cv.ownBlock) (hat : cv.ownBlock = some g ∨ g = (w1.alloc o).heap.size) :
    LAdded own w (w2.setCell ⟨lp, 0, none⟩ (.slice (some ⟨g, 0, none⟩) (L.carts.length + 1) cap)) lp dv ⟨L.carts ++ [⟨p, [], m, false⟩], L.drives, L.now⟩ := by
  have hz1 := hb.size
  have hlp := h.blk.size
  have hcl : ∀ q, cv.ownBlock = some q → q < w.heap.size ∧ own q = 1 ∧ q ≠ lp := fun q hq => by
    obtain ⟨cs, hcs⟩ := own_blk h.rc.1 hq
    exact ⟨hcs.size, h.rc.2 q hq, blk_ne hcs h.blk (by decide)⟩
  let own' : Nat → Nat := fun k => if k < w.heap.size then own k else if k < w1.heap.size then L.carts.length + 10 else 1
  have e1 : ∀ k, k < w.heap.size → own' k = own k := fun k hk => if_pos hk
  have e2 : ∀ k, w.heap.size ≤ k → k < w1.heap.size → own' k = L.carts.length + 10 := fun k h1 h2 => by show (if _ then _ else _) = _; rw [if_neg (by omega), if_pos h2]
  have e3 : ∀ k, w1.heap.size ≤ k → own' k = 1 := fun k h1 => by show (if _ then _ else _) = _; rw [if_neg (by omega), if_neg (by omega)]
  have h1 : LCore own' w1 lp cv dv L := (h.relab e1).below hb
  have hsz2 : w1.heap.size ≤ w2.heap.size := by have := hgr.size; rw [World.size_alloc] at this; omega
  have old : ∀ k, k < w1.heap.size → cv.ownBlock ≠ some k → k ≠ lp → (w2.setCell ⟨lp, 0, none⟩ (.slice (some ⟨g, 0, none⟩) (L.carts.length + 1) cap)).heap[k]? = w1.heap[k]? := fun k hk hne hl =>
    (Below.heap_setCell _ _ _ _ hl).trans ((hgr.block k (by simp; omega) (fun e => hne e.symm)).trans (Below.heap_alloc _ _ _ hk))
  have hbk : Blk w2 lp 91 #[cv, dv, .int .i64 L.now] := (h1.blk.alloc o).grown hgr (fun e => (hcl _ e).2.2 rfl)
  obtain ⟨cs2, hcs2⟩ := own_blk hr (g := g) rfl
  have hgl : g ≠ lp := blk_ne hcs2 hbk (by decide)
  have hsz3 : (w2.setCell ⟨lp, 0, none⟩ (.slice (some ⟨g, 0, none⟩) (L.carts.length + 1) cap)).heap.size = w2.heap.size := by simp [World.setCell]
  refine ⟨own', .slice (some ⟨g, 0, none⟩) (L.carts.length + 1) cap, ⟨hbk.store 0 _, (e1 lp hlp).trans h.lab, ⟨own_of_eq (w := w2) ?_ (fun q hq => ?_), fun q hq => ?_⟩, ?_, fun i D hD => ?_, by simp; omega, h.four⟩, fun k hk => ?_, ?_⟩
  · rw [ptrs_snoc, List.length_append]; exact hr
  · have e : g = q := Option.some.inj hq
    subst e
    exact Below.heap_setCell _ _ _ _ hgl
  · have e : g = q := Option.some.inj hq
    subst e
    rcases hat with h' | h'
    · exact (e1 _ (hcl _ h').1).trans (hcl _ h').2.1
    · exact e3 _ (by rw [World.size_alloc] at h'; omega)
  · refine ⟨own_of_eq h1.rd.1 (fun q hq => ?_), h1.rd.2⟩
    obtain ⟨cd, hcd⟩ := own_blk h1.rd.1 hq
    refine old q hcd.size (fun e => ?_) (blk_ne hcd h1.blk (by decide))
    obtain ⟨cc, hcc⟩ := own_blk h1.rc.1 e
    exact blk_ne hcc hcd (by decide) rfl
  · by_cases hi : i < L.carts.length
    · rw [List.getElem?_append_left hi] at hD
      refine (COwn.owning _ _ _ _).keep _ _ _ (h1.cs i D hD) (by omega) (fun k hk hf => old k hk (fun e => ?_) (fun e => ?_))
      · have := e1 _ (hcl _ e).1
        have := (hcl _ e).2.1
        omega
      · subst e
        have := e1 _ hlp
        have := h.lab
        omega
    · have hi2 : i = L.carts.length := by have := (List.getElem?_eq_some_iff.1 hD).1; simp at this; omega
      subst hi2
      have e : D = ⟨p, [], m, false⟩ := by simp at hD; exact hD.symm
      subst e
      refine (COwn.owning _ _ _ _).keep (fun k => own' k = L.carts.length + 10) w1 _ ((COwn.owning _ _ _ _).mono _ _ _ hC (fun k hk hf => e2 k hf hk)) (by omega) (fun k hk hf => old k hk (fun e => ?_) (fun e => ?_))
      · have := e1 _ (hcl _ e).1
        have := (hcl _ e).2.1
        omega
      · subst e
        have := e1 _ hlp
        have := h.lab
        omega
  · by_cases hk1 : k < w.heap.size
    · exact .inl (by rw [← e1 k hk1]; exact hk)
    · exact .inr (by omega)
  · exact (((Chg.of_below (fun k => own k ≠ 0) hb).alloc o).grown hgr (fun q hq => .inl (by show own q ≠ 0; rw [(hcl q hq).2.1]; decide))).store (p := ⟨lp, 0, none⟩) (.inl (by show own lp ≠ 0; rw [h.lab]; decide)) _

def laddM (L : LV) (m : Int) (p : Nat) : (Int × Bool) × LV := if L.carts.length < 32 then (((L.carts.length : Int), true), ⟨L.carts ++ [⟨p, [], max 0 (min m 1024), false⟩], L.drives, L.now⟩) else ((0, false), L)

theorem addt_ret {a b : Int} (h : a = b) : Ending.returned (.tuple #[.int .i64 a, .bool true]) = .returned (.tuple #[.int .i64 b, .bool true]) := by rw [h]
set_option maxRecDepth 100000 in
set_option maxHeartbeats 2000000 in
theorem lAdd (own : Nat → Nat) (w : World) (lp : Nat) (cv dv : Value) (L : LV) (m : Int) (h : LCore own w lp cv dv L) :
    Calls Try.prog 30 #[.pointer (some ⟨lp, 0, none⟩), .int .i64 m] w fun e w' => ∃ p, e = .returned (.tuple #[.int .i64 (laddM L m p).1.1, .bool (laddM L m p).1.2]) ∧ LStep own w w' lp (laddM L m p).2 := by
  have H := Lib.hid h
  have c0 : w.cell? ⟨lp, 0, none⟩ = some cv := h.blk.cell 0
  have f0 : w.frozen? ⟨lp, 0, none⟩ = false := h.blk.free 0
  have hpz := h.blk.size
  obtain ⟨i0, hi0, hz0, hz1, hz2⟩ := info_parts ptr_info
  have hcl : ∀ q, cv.ownBlock = some q → q < w.heap.size ∧ q ≠ lp := fun q hq => by
    obtain ⟨cs, hcs⟩ := own_blk h.rc.1 hq
    exact ⟨hcs.size, blk_ne hcs h.blk (by decide)⟩
  have HCL := Lib.hid hcl
  have HRC := Lib.hid h.rc.1
  clear hcl
  by_cases h32 : L.carts.length < 32
  · have e1 : ∀ p, laddM L m p = (((L.carts.length : Int), true), ⟨L.carts ++ [⟨p, [], max 0 (min m 1024), false⟩], L.drives, L.now⟩) := fun p => if_pos h32
    simp only [e1]
    clear e1
    rcases h.rc.form with ⟨rfl, h0⟩ | ⟨g, cap, rfl, hgc, hgm, _, hg0⟩
    · clear h h0
      go_enter Try.func30, Try.ntmps30
      go_wp2_with fail
      go_region_law (first
        | (refine step_append_form _ rfl (.tmp 20) (.tmp 23) 88 rfl 0 23 i0 _ 1 8 Try.underlying88 hi0 hz0 hz1 hz2 rfl (by omega) _ L.carts.length (ptrs L.carts) rfl (by exact own_of_eq HRC.out (fun q hq => by cases hq)) (some ⟨w1.heap.size, 0, none⟩) 1 1 [.pointer (some ⟨p, 0, none⟩)] rfl rfl (fun e => by cases e) (by exact src_new _ _ _ _) (by intro u hu; simp only [List.mem_cons, List.not_mem_nil, or_false] at hu; subst hu; rfl) (by omega) (by simp only [maxLen]; omega) (by omega) (Nat.zero_le _) ?_
           intro g2 cap2 w2 hown2 hgr2 hat2 hlt2
           have BK2 := Lib.hid (((H.out.blk.below HB1.out hpz).alloc _).grown hgr2 (fun e => by cases e))
           have K2 : w2.cell? ⟨lp, 0, none⟩ = some (.slice none 0 0) := BK2.out.cell 0
           have f2 : w2.frozen? ⟨lp, 0, none⟩ = false := BK2.out.free 0
           have FIN := Lib.hid (H.out.add HC1.out HB1.out h32 hown2 hgr2 hat2)
           clear hown2 hgr2 hat2)
        | (go_simp; go_at_call 13
           refine (cNew m _).mono ?_
           rintro e w1 ⟨p, rfl, hp1, hC1, hb1⟩
           have K1 : w1.cell? ⟨lp, 0, none⟩ = some (.slice none 0 0) := (hb1.cell (p := ⟨lp, 0, none⟩) hpz).trans c0
           have HC1 := Lib.hid hC1
           have HB1 := Lib.hid (show Below w.heap.size w w1 from below_of_drewN hb1)
           have hy1 : w.heap.size ≤ w1.heap.size := hb1.size
           have hpw1 : lp < w1.heap.size := by omega
           clear hC1 hb1))
      all_goals
        go_wp2_with fail
        go_ret2
        exact ⟨p, addt_ret (by first | rfl | (simp only [wrap64, IntKind.wrap_i64]; omega) | omega), FIN.out.step⟩
    · have hgp : lp ≠ g := Ne.symm (HCL.out g rfl).2
      clear h
      go_enter Try.func30, Try.ntmps30
      go_wp2_with fail
      go_region_law (first
        | (refine step_append_form _ rfl (.tmp 20) (.tmp 23) 88 rfl 0 23 i0 _ 1 8 Try.underlying88 hi0 hz0 hz1 hz2 rfl (by omega) _ L.carts.length (ptrs L.carts) rfl (by exact own_of_eq HRC.out (fun q hq => (Below.heap_alloc _ _ _ (by have := (HCL.out q hq).1; omega)).trans (HB1.out.block q (HCL.out q hq).1))) (some ⟨w1.heap.size, 0, none⟩) 1 1 [.pointer (some ⟨p, 0, none⟩)] rfl rfl (fun e => by cases e) (by exact src_new _ _ _ _) (by intro u hu; simp only [List.mem_cons, List.not_mem_nil, or_false] at hu; subst hu; rfl) (by omega) (by simp only [maxLen]; omega) (by omega) (Nat.zero_le _) ?_
           intro g2 cap2 w2 hown2 hgr2 hat2 hlt2
           have BK2 := Lib.hid (((H.out.blk.below HB1.out hpz).alloc _).grown hgr2 (fun e => hgp (Option.some.inj e).symm))
           have K2 : w2.cell? ⟨lp, 0, none⟩ = some (.slice (some ⟨g, 0, none⟩) L.carts.length cap) := BK2.out.cell 0
           have f2 : w2.frozen? ⟨lp, 0, none⟩ = false := BK2.out.free 0
           have FIN := Lib.hid (H.out.add HC1.out HB1.out h32 hown2 hgr2 hat2)
           clear hown2 hgr2 hat2)
        | (go_simp; go_at_call 13
           refine (cNew m _).mono ?_
           rintro e w1 ⟨p, rfl, hp1, hC1, hb1⟩
           have K1 : w1.cell? ⟨lp, 0, none⟩ = some (.slice (some ⟨g, 0, none⟩) L.carts.length cap) := (hb1.cell (p := ⟨lp, 0, none⟩) hpz).trans c0
           have HC1 := Lib.hid hC1
           have HB1 := Lib.hid (show Below w.heap.size w w1 from below_of_drewN hb1)
           have hy1 : w.heap.size ≤ w1.heap.size := hb1.size
           have hpw1 : lp < w1.heap.size := by omega
           clear hC1 hb1))
      all_goals
        go_wp2_with fail
        go_ret2
        exact ⟨p, addt_ret (by first | rfl | (simp only [wrap64, IntKind.wrap_i64]; omega) | omega), FIN.out.step⟩
  · have e1 : ∀ p, laddM L m p = ((0, false), L) := fun p => if_neg h32
    simp only [e1]
    have h32' : 32 ≤ L.carts.length := by omega
    rcases h.rc.form with ⟨_, h0⟩ | ⟨g, cap, rfl, _, _, _, _⟩
    · omega
    clear e1 h
    go_enter Try.func30, Try.ntmps30
    go_wp2_with fail
    go_ret2
    exact ⟨0, rfl, LStep.below H.out (Below.refl _ _)⟩
end Go.Proofs.Ytiiilimmjoadeaa
