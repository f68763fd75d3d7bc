/- The document's library: Add and asked. No condition beyond those that each theorem states. -/
import Derived.Test.YtiiilimmjoadeaaQ2
namespace Go.Proofs.Ytiiilimmjoadeaa
open Go.RowKit

theorem rptr_info : (Try.prog.info? 40).map (fun i => (i.zero, i.size, i.bytes)) = some (some (.pointer none), 1, 8) := by kernel_rfl
theorem int_info : (Try.prog.info? 3).map (fun i => (i.zero, i.size, i.bytes)) = some (some (.int .i64 0), 1, 8) := by kernel_rfl
theorem rdrive_info : (Try.prog.info? 105).map (fun i => (i.zero, i.size, i.bytes)) = some (some (.agg #[.int .i64 0, .int .i64 0, .bool false]), 3, 24) := by kernel_rfl
theorem askV_snoc (zs : List Nat) (a : Nat) : askV (zs ++ [a]) = askV zs ++ [.int .i64 (a : Int)] := by simp [askV]
theorem askV_length (zs : List Nat) : (askV zs).length = zs.length := by simp [askV]

theorem own_zero {w : World} {base : Nat} {t : TypeId} {size n : Nat} {v : Value} {xs : List Value} (h : w.ownsRow base t size v n xs) : w.ownsRow 0 t size v n xs :=
  ⟨h.1, h.2.imp id fun ⟨g, cap, cur, h1, _, h3⟩ => ⟨g, cap, cur, h1, Nat.zero_le _, h3⟩⟩
section
variable {own : Nat → Nat} {w w1 w2 : World} {rp p g cap : Nat} {cv dv av v : Value} {R : RLV} {m : Int} {o : Obj} {zs : List Nat}
/-- A cartridge more. -/
theorem RCore.add (h : RCore own w rp cv dv av R) (hC : ROwn (fun k => w.heap.size ≤ k) w1 p [] m false) (hb : Below w.heap.size w w1) (h32 : R.carts.length < 32)
    (hr : w2.ownsRow 0 40 1 (.slice (some ⟨g, 0, none⟩) (R.carts.length + 1) cap) (R.carts.length + 1) (ptrs R.carts ++ [.pointer (some ⟨p, 0, none⟩)])) (hgr : (w1.alloc o).grownBy w2 cv.ownBlock) (hat : cv.ownBlock = some g ∨ g = (w1.alloc o).heap.size) :
    RStep own w (w2.setCell ⟨rp, 0, none⟩ (.slice (some ⟨g, 0, none⟩) (R.carts.length + 1) cap)) rp (R.carts.length + 1) R.drives.length R.asked.length := by
  have hz1 := hb.size
  have hlp := h.blk.size
  have hcl : ∀ q, cv.ownBlock = some q → q < w.heap.size ∧ own q = 1 ∧ q ≠ rp := fun q hq => by
    obtain ⟨cs, hcs⟩ := own_blk h.rc.1 hq
    exact ⟨hcs.size, h.rc.2 q hq, blk_ne hcs h.blk (by decide)⟩
  let own' : Nat → Nat := fun k => if k < w.heap.size then own k else if k < w1.heap.size then R.carts.length + 10 else 1
  have e1 : ∀ k, k < w.heap.size → own' k = own k := fun k hk => if_pos hk
  have e2 : ∀ k, w.heap.size ≤ k → k < w1.heap.size → own' k = R.carts.length + 10 := fun k h1 h2 => by show (if _ then _ else _) = _; rw [if_neg (by omega), if_pos h2]
  have e3 : ∀ k, w1.heap.size ≤ k → own' k = 1 := fun k h1 => by show (if _ then _ else _) = _; rw [if_neg (by omega), if_neg (by omega)]
  have h1 : RCore own' w1 rp cv dv av R := (h.relab e1).below hb
  have hsz2 : w1.heap.size ≤ w2.heap.size := by have := hgr.size; rw [World.size_alloc] at this; omega
  have old : ∀ k, k < w1.heap.size → cv.ownBlock ≠ some k → k ≠ rp → (w2.setCell ⟨rp, 0, none⟩ (.slice (some ⟨g, 0, none⟩) (R.carts.length + 1) cap)).heap[k]? = w1.heap[k]? := fun k hk hne hl =>
    (Below.heap_setCell _ _ _ _ hl).trans ((hgr.block k (by simp; omega) (fun e => hne e.symm)).trans (Below.heap_alloc _ _ _ hk))
  have hbk : Blk w2 rp 102 #[cv, dv, av] := (h1.blk.alloc o).grown hgr (fun e => (hcl _ e).2.2 rfl)
  obtain ⟨cs2, hcs2⟩ := own_blk hr (g := g) rfl
  have hgl : g ≠ rp := blk_ne hcs2 hbk (by decide)
  have hsz3 : (w2.setCell ⟨rp, 0, none⟩ (.slice (some ⟨g, 0, none⟩) (R.carts.length + 1) cap)).heap.size = w2.heap.size := by simp [World.setCell]
  have keepRow : ∀ {t : TypeId} {size n : Nat} {u : Value} {xs : List Value}, 40 ≠ t → t ≠ 102 → OwnRow (fun k => own' k = 1) w1 t size u n xs → OwnRow (fun k => own' k = 1) (w2.setCell ⟨rp, 0, none⟩ (.slice (some ⟨g, 0, none⟩) (R.carts.length + 1) cap)) t size u n xs := fun h2 h3 hx => by
    refine ⟨own_of_eq hx.1 (fun q hq => ?_), hx.2⟩
    obtain ⟨cd, hcd⟩ := own_blk hx.1 hq
    refine old q hcd.size (fun e => ?_) (blk_ne hcd h1.blk h3)
    obtain ⟨cc, hcc⟩ := own_blk h1.rc.1 e
    exact blk_ne hcc hcd h2 rfl
  refine ⟨own', .slice (some ⟨g, 0, none⟩) (R.carts.length + 1) cap, dv, av, ⟨R.carts ++ [⟨p, [], m, false⟩], R.drives, R.asked⟩, ⟨hbk.store 0 _, (e1 rp hlp).trans h.lab, ⟨own_of_eq (w := w2) ?_ (fun q hq => ?_), fun q hq => ?_⟩, keepRow (by decide) (by decide) h1.rd, keepRow (by decide) (by decide) h1.ra, fun i D hD => ?_, by simp; omega, h.four, h.ask⟩, by simp, rfl, Nat.le_refl _, fun k hk => ?_, ?_⟩
  · rw [ptrs_snoc, List.length_append]; exact hr
  · have e : g = q := Option.some.inj hq
    subst e
    exact Below.heap_setCell _ _ _ _ hgl
  · have e : g = q := Option.some.inj hq
    subst e
    rcases hat with h' | h'
    · exact (e1 _ (hcl _ h').1).trans (hcl _ h').2.1
    · exact e3 _ (by rw [World.size_alloc] at h'; omega)
  · by_cases hi : i < R.carts.length
    · rw [List.getElem?_append_left hi] at hD
      refine (ROwn.owning _ _ _ _).keep _ _ _ (h1.cs i D hD) (by omega) (fun k hk hf => old k hk (fun e => ?_) (fun e => ?_))
      · have := e1 _ (hcl _ e).1
        have := (hcl _ e).2.1
        omega
      · subst e
        have := e1 _ hlp
        have := h.lab
        omega
    · have hi2 : i = R.carts.length := by have := (List.getElem?_eq_some_iff.1 hD).1; simp at this; omega
      subst hi2
      have e : D = ⟨p, [], m, false⟩ := by simp at hD; exact hD.symm
      subst e
      refine (ROwn.owning _ _ _ _).keep (fun k => own' k = R.carts.length + 10) w1 _ ((ROwn.owning _ _ _ _).mono _ _ _ hC (fun k hk hf => e2 k hf hk)) (by omega) (fun k hk hf => old k hk (fun e => ?_) (fun e => ?_))
      · have := e1 _ (hcl _ e).1
        have := (hcl _ e).2.1
        omega
      · subst e
        have := e1 _ hlp
        have := h.lab
        omega
  · by_cases hk1 : k < w.heap.size
    · exact .inl (by rw [← e1 k hk1]; exact hk)
    · exact .inr (by omega)
  · exact (((Chg.of_below (fun k => own k ≠ 0) hb).alloc o).grown hgr (fun q hq => .inl (by show own q ≠ 0; rw [(hcl q hq).2.1]; decide))).store (p := ⟨rp, 0, none⟩) (.inl (by show own rp ≠ 0; rw [h.lab]; decide)) _
/-- The list of those that were asked for is a new one. -/
theorem RCore.setAsk (h : RCore own w rp cv dv av R) (hb : Below w.heap.size w w2) (hr : w2.ownsRow w.heap.size 3 1 v zs.length (askV zs)) (hz : ∀ a ∈ zs, a < R.drives.length) :
    RStep own w (w2.setCell ⟨rp, 2, none⟩ v) rp R.carts.length R.drives.length zs.length := by
  have hlp := h.blk.size
  let own' : Nat → Nat := fun k => if k < w.heap.size then own k else 1
  have e1 : ∀ k, k < w.heap.size → own' k = own k := fun k hk => if_pos hk
  have e3 : ∀ k, w.heap.size ≤ k → own' k = 1 := fun k h1 => by show (if _ then _ else _) = _; rw [if_neg (by omega)]
  have h1 : RCore own' w2 rp cv dv av R := (h.relab e1).below hb
  have hc : Chg (fun k => k = rp) w2 (w2.setCell ⟨rp, 2, none⟩ v) := (Chg.refl (fun k => k = rp) w2).store (p := ⟨rp, 2, none⟩) (.inl rfl) _
  have hS : ∀ k, k = rp → ∃ cs, Blk w2 k 102 cs := fun k hk => by subst hk; exact ⟨_, h1.blk⟩
  have hr' : OwnRow (fun k => own' k = 1) w2 3 1 v zs.length (askV zs) := ⟨own_zero hr, fun q hq => e3 q (hr.lt q hq).1⟩
  refine ⟨own', cv, dv, v, ⟨R.carts, R.drives, zs⟩, ⟨h1.blk.store 2 _, (e1 rp hlp).trans h.lab, h1.rc.off hc hS (by decide), h1.rd.off hc hS (by decide), hr'.off hc hS (by decide), h1.cs_keep hc (fun k hk => by rw [hk]; exact h1.lab), h.few, h.four, hz⟩, rfl, rfl, Nat.le_refl _, fun k hk => ?_, ?_⟩
  · by_cases hk1 : k < w.heap.size
    · exact .inl (by rw [← e1 k hk1]; exact hk)
    · exact .inr (by omega)
  · exact (Chg.of_below (fun k => own k ≠ 0) hb).store (p := ⟨rp, 2, none⟩) (.inl (by show own rp ≠ 0; rw [h.lab]; decide)) _
end
end Go.Proofs.Ytiiilimmjoadeaa
