/- Plain laws of what notes do to a catalog. No condition beyond those that each theorem states. -/
import Derived.Test.YtmkccblcmiflfaaKC11
namespace Go.Proofs.Ytmkccblcmiflfaa
open Go.RowKit Go.Maps Go.WideMaps

theorem laterB_lt {C : CV} {g : Int} (h : ¬ laterB C g = false) : C.gen < g ∧ g ≤ 1099511627776 := by
  unfold laterB at h
  simpa using h
theorem applyC_refused {C : CV} {v : NoteV} : (applyC C v).1 ≠ 0 → (applyC C v).2 = C := by
  unfold applyC putC placedC goneC beginC retireC tombC
  repeat' split
  all_goals first | (intro _; rfl) | (intro h; exact absurd rfl h)
theorem applyC_gen {C : CV} {v : NoteV} : C.gen ≤ (applyC C v).2.gen := by
  unfold applyC putC placedC goneC beginC retireC tombC
  repeat' split
  all_goals first | exact Int.le_refl _ | (have hl := laterB_lt (C := C) (g := v.gen) (by assumption); exact Int.le_of_lt hl.1)
theorem applyC_errno {C : CV} {v : NoteV} : 0 ≤ (applyC C v).1 ∧ (applyC C v).1 ≤ 12 := by
  unfold applyC putC placedC goneC beginC retireC tombC
  repeat' split
  all_goals simp
end Go.Proofs.Ytmkccblcmiflfaa
