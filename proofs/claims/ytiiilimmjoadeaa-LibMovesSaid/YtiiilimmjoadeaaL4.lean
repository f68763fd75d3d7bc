/- What a library's method Go does. No condition beyond those that each theorem states. -/
import Derived.Test.YtiiilimmjoadeaaL3
namespace Go.Proofs.Ytiiilimmjoadeaa
open Go.RowKit

def isC (L : LV) (n : Int) : Bool := decide (0 ≤ n) && decide (n < L.carts.length)
theorem isC_iff {L : LV} {n : Int} : isC L n = true ↔ 0 ≤ n ∧ n < L.carts.length := by simp [isC]
theorem cartV_no {L : LV} {n : Int} (h : isC L n = false) : cartV L n = .pointer none := by
  unfold cartV
  split
  · rw [List.getElem?_eq_none]
    have : ¬ (0 ≤ n ∧ n < L.carts.length) := fun h' => by rw [isC_iff.2 h'] at h; cases h
    omega
  · rfl
theorem isC_get {L : LV} {n : Int} (h : isC L n = true) : ∃ (i : Nat) (C : CV), n = i ∧ i < L.carts.length ∧ L.carts[i]? = some C ∧ cartV L n = .pointer (some ⟨C.p, 0, none⟩) := by
  obtain ⟨h1, h2⟩ := isC_iff.1 h
  obtain ⟨i, rfl⟩ := Int.eq_ofNat_of_zero_le h1
  have hi : i < L.carts.length := by omega
  refine ⟨i, L.carts[i], rfl, hi, List.getElem?_eq_getElem hi, ?_⟩
  unfold cartV
  rw [if_pos h1, Int.toNat_natCast, List.getElem?_eq_getElem hi]

/-- A store into a row of one's own. -/
theorem OwnRow.storeAt {F : Nat → Prop} {w : World} {t : TypeId} {size n g cap : Nat} {xs : List Value} (h : OwnRow F w t size (.slice (some ⟨g, 0, none⟩) n cap) n xs) (i : Nat) (u : Value) : OwnRow F (w.setCell ⟨g, i, none⟩ u) t size (.slice (some ⟨g, 0, none⟩) n cap) n (xs.set i u) := by
  refine ⟨?_, h.2⟩
  have hx := h.1
  refine ⟨by rw [List.length_set]; exact hx.1, ?_⟩
  rcases hx.2 with ⟨h', _⟩ | ⟨g', cap', cur, hv, h1, h2, h3, h4, h5, h6⟩
  · cases h'
  · have e1 : g = g' := by
      injection hv with hv
      injection hv with hv
      injection hv
    subst e1
    refine .inr ⟨g, cap', cur.setIfInBounds i u, hv, h1, ?_, h3, h4, by simpa using h5, ?_⟩
    · simp [World.setCell, Array.getElem?_modify, h2]
    · rw [← h6, Array.toList_setIfInBounds, List.take_set]
theorem drvs_set {d d' : DV} {q : Nat} {u : Value} (hq : q < 4) (hd' : drVals d' = (drVals d).set q u) : ∀ {ds : List DV} {k : Nat}, ds[k]? = some d → drvs (ds.set k d') = (drvs ds).set (k * 4 + q) u := by
  intro ds
  induction ds with
  | nil => intro k h; simp at h
  | cons x ds ih =>
    intro k h
    cases k with
    | zero =>
      have e : x = d := by simpa using h
      subst e
      show drVals d' ++ drvs ds = (drVals x ++ drvs ds).set (0 * 4 + q) u
      rw [hd', List.set_append_left _ _ (by simp [drVals]; omega)]
      simp
    | succ k =>
      have h' : ds[k]? = some d := by simpa using h
      show drVals x ++ drvs (ds.set k d') = (drVals x ++ drvs ds).set ((k + 1) * 4 + q) u
      rw [ih h', List.set_append_right _ _ (by rw [drVals_length]; omega)]
      congr 2
      simp only [drVals_length]
      omega

section
variable {own : Nat → Nat} {w w' : World} {lp : Nat} {cv : Value} {L : LV} {g n cap : Nat}
/-- The library's struct and its drives have turned, and nothing else. -/
theorem LCore.turn {S : Nat → Prop} (h : LCore own w lp cv (.slice (some ⟨g, 0, none⟩) n cap) L) {ds : List DV} {now : Int} (hS : ∀ k, S k → k = lp ∨ k = g) (hb : Blk w' lp 91 #[cv, .slice (some ⟨g, 0, none⟩) n cap, .int .i64 now]) (hr : OwnRow (fun k => own k = 1) w' 93 4 (.slice (some ⟨g, 0, none⟩) n cap) ds.length (drvs ds)) (hl : ds.length = L.drives.length)
    (hc : Chg S w w') : LCore own w' lp cv (.slice (some ⟨g, 0, none⟩) n cap) ⟨L.carts, ds, now⟩ := by
  have hg : own g = 1 := h.rd.2 g rfl
  have ho : ∀ k, k < w.heap.size → k ≠ lp → k ≠ g → w'.heap[k]? = w.heap[k]? := fun k hk h1 h2 => hc.block k hk (fun hs => (hS k hs).elim h1 h2)
  obtain ⟨cs, hcs⟩ := own_blk h.rd.1 (g := g) rfl
  refine ⟨hb, h.lab, ⟨own_of_eq h.rc.1 (fun q hq => ?_), h.rc.2⟩, hr, fun i C hC => (COwn.owning _ _ _ _).keep _ _ _ (h.cs i C hC) hc.size (fun k hk hf => ho k hk (fun e => by have := h.lab; rw [e] at hf; omega) (fun e => by rw [e] at hf; omega)), h.few, by rw [hl]; exact h.four⟩
  obtain ⟨cq, hcq⟩ := own_blk h.rc.1 hq
  exact ho q hcq.size (blk_ne hcq h.blk (by decide)) (blk_ne hcq hcs (by decide))
/-- One drive is turned as a whole. -/
theorem OwnRow.setDrive {F : Nat → Prop} {ds : List DV} {k : Nat} {d : DV} (h : OwnRow F w 93 4 (.slice (some ⟨g, 0, none⟩) n cap) n (drvs ds)) (hd : ds[k]? = some d) (a b c : Int) (br : Bool) :
    OwnRow F ((((w.setCell ⟨g, k * 4, none⟩ (.int .i64 a)).setCell ⟨g, k * 4 + 1, none⟩ (.int .i64 b)).setCell ⟨g, k * 4 + 2, none⟩ (.int .i64 c)).setCell ⟨g, k * 4 + 3, none⟩ (.bool br)) 93 4 (.slice (some ⟨g, 0, none⟩) n cap) n (drvs (ds.set k ⟨a, b, c, br⟩)) := by
  have hk : k < ds.length := (List.getElem?_eq_some_iff.1 hd).1
  have x1 := drvs_set (d := d) (d' := ⟨a, d.pos, d.last, d.broken⟩) (q := 0) (u := .int .i64 a) (by decide) rfl hd
  have h1 := h.storeAt (k * 4) (.int .i64 a)
  rw [show k * 4 = k * 4 + 0 from rfl, ← x1] at h1
  have g1 : (ds.set k ⟨a, d.pos, d.last, d.broken⟩)[k]? = some ⟨a, d.pos, d.last, d.broken⟩ := by simp [hk]
  have x2 := drvs_set (d := ⟨a, d.pos, d.last, d.broken⟩) (d' := ⟨a, b, d.last, d.broken⟩) (q := 1) (u := .int .i64 b) (by decide) rfl g1
  rw [List.set_set] at x2
  have h2 := h1.storeAt (k * 4 + 1) (.int .i64 b)
  rw [← x2] at h2
  have g2 : (ds.set k ⟨a, b, d.last, d.broken⟩)[k]? = some ⟨a, b, d.last, d.broken⟩ := by simp [hk]
  have x3 := drvs_set (d := ⟨a, b, d.last, d.broken⟩) (d' := ⟨a, b, c, d.broken⟩) (q := 2) (u := .int .i64 c) (by decide) rfl g2
  rw [List.set_set] at x3
  have h3 := h2.storeAt (k * 4 + 2) (.int .i64 c)
  rw [← x3] at h3
  have g3 : (ds.set k ⟨a, b, c, d.broken⟩)[k]? = some ⟨a, b, c, d.broken⟩ := by simp [hk]
  have x4 := drvs_set (d := ⟨a, b, c, d.broken⟩) (d' := ⟨a, b, c, br⟩) (q := 3) (u := .bool br) (by decide) rfl g3
  rw [List.set_set] at x4
  have h4 := h3.storeAt (k * 4 + 3) (.bool br)
  rw [← x4] at h4
  exact h4
/-- One number of a drive is turned. -/
theorem OwnRow.setPart {F : Nat → Prop} {ds : List DV} {k q : Nat} {d d' : DV} {u : Value} (h : OwnRow F w 93 4 (.slice (some ⟨g, 0, none⟩) n cap) n (drvs ds)) (hd : ds[k]? = some d) (hq : q < 4) (hd' : drVals d' = (drVals d).set q u) :
    OwnRow F (w.setCell ⟨g, k * 4 + q, none⟩ u) 93 4 (.slice (some ⟨g, 0, none⟩) n cap) n (drvs (ds.set k d')) := by
  rw [drvs_set hq hd' hd]
  exact h.storeAt _ _
end
end Go.Proofs.Ytiiilimmjoadeaa
