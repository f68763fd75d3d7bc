/- The table of words, in memory. No condition beyond those that each theorem states. -/
import Derived.Test.YtkkmojbaoflafaaDoorK4
import Derived.Test.YtkkmojbaoflafaaDoorYP2
namespace Go.Proofs.YtkkmojbaoflafaaDoor
open Go.RowKit

abbrev strV (l : Str) : Value := .string ⟨l.toArray⟩
def formVals (f : Str × Str) : List Value := [strV f.1, strV f.2]
def FormsAt (w : World) (g : Nat) : Prop := g < w.heap.size ∧ ∀ (n : Nat) f, formsT[n]? = some f → w.cell? ⟨g, n * 2, none⟩ = some (strV f.1) ∧ w.cell? ⟨g, n * 2 + 1, none⟩ = some (strV f.2)
theorem FormsAt.below {w w' : World} {g : Nat} (h : FormsAt w g) (hb : Below w.heap.size w w') : FormsAt w' g :=
  ⟨Nat.lt_of_lt_of_le h.1 hb.size, fun n f hf => ⟨(hb.cell (p := ⟨g, n * 2, none⟩) h.1).trans (h.2 n f hf).1, (hb.cell (p := ⟨g, n * 2 + 1, none⟩) h.1).trans (h.2 n f hf).2⟩⟩
theorem FormsAt.made (w : World) (t : TypeId) : FormsAt (w.alloc (.cells (formsT.flatMap formVals).toArray t)) w.heap.size := by
  refine ⟨by simp, fun n f hf => ?_⟩
  have hc := Blk.cell (Blk.made w t (formsT.flatMap formVals).toArray)
  constructor
  · rw [hc, List.getElem?_toArray]
    exact (flat_get (vals := formVals) (k := 2) (fun _ => rfl) (q := 0) hf (by omega)).trans rfl
  · rw [hc, List.getElem?_toArray]
    exact (flat_get (vals := formVals) (k := 2) (fun _ => rfl) (q := 1) hf (by omega)).trans rfl
section
set_option maxHeartbeats 4000000
set_option maxRecDepth 100000
theorem tForms (w : World) : Calls Tryd.prog 17 #[] w fun e w' => ∃ g, e = .returned (.slice (some ⟨g, 0, none⟩) 19 19) ∧ w.heap.size ≤ g ∧ FormsAt w' g ∧ Below w.heap.size w w' := by
  go_enter Tryd.func17, Tryd.ntmps17
  go_wp2
  go_ret
  exact ⟨_, rfl, Nat.le_refl _, FormsAt.made w _, (Below.refl _ w).alloc (Nat.le_refl _) _⟩
end
end Go.Proofs.YtkkmojbaoflafaaDoor
