/- Plain lists: what lift.along chooses is met first. No condition beyond those that each theorem states. -/
import Derived.Test.YthnjakmiknaihaaL1
namespace Go.Proofs.Ythnjakmiknaihaa
open Go.RowKit

def mineTo (f : Nat → Ask) (hc : Int) : Nat → Bool
  | 0 => false
  | k + 1 => mineTo f hc k || (f k).cart == hc

theorem before_irr (a hp : Int) : beforeB a a hp = false := by unfold beforeB; simp
theorem before_trans {a b c hp : Int} (h1 : beforeB b a hp = true) (h2 : beforeB c a hp = false) : beforeB c b hp = false := by
  unfold beforeB at *
  by_cases ha : hp ≤ a <;> by_cases hb : hp ≤ b <;> by_cases hc : hp ≤ c <;> simp [ha, hb, hc] at * <;> omega

/-- What along comes to: none exactly if nothing is of the head's cartridge; else one of it that no other one of it is before. -/
theorem along_best (f : Nat → Ask) (hc hp : Int) (k : Nat) :
    (alongTo f hc hp k = none ∧ mineTo f hc k = false) ∨ ∃ j, alongTo f hc hp k = some j ∧ j < k ∧ mineTo f hc k = true ∧ (f j).cart = hc ∧ ∀ i, i < k → (f i).cart = hc → beforeB (f i).pos (f j).pos hp = false := by
  induction k with
  | zero => exact .inl ⟨rfl, rfl⟩
  | succ k ih =>
    rcases ih with ⟨h1, h2⟩ | ⟨j, h1, h2, h3, h4, h5⟩
    · by_cases hk : (f k).cart = hc
      · refine .inr ⟨k, ?_, by omega, ?_, hk, fun i hi hic => ?_⟩
        · rw [alongTo, h1]; simp [takesB, hk]
        · simp [mineTo, hk]
        · rcases Nat.lt_or_ge i k with hlt | hge
          · exfalso
            have : ∀ m, mineTo f hc m = false → ∀ i, i < m → (f i).cart ≠ hc := by
              intro m
              induction m with
              | zero => intro _ i hi; omega
              | succ m ihm =>
                intro hm i hi
                simp only [mineTo, Bool.or_eq_false_iff] at hm
                rcases Nat.lt_or_ge i m with h | h
                · exact ihm hm.1 i h
                · obtain rfl : i = m := by omega
                  simpa using hm.2
            exact this k h2 i hlt hic
          · obtain rfl : i = k := by omega
            exact before_irr _ _
      · refine .inl ⟨?_, ?_⟩
        · rw [alongTo, h1]; simp [takesB, hk]
        · simp [mineTo, h2, hk]
    · have hm : mineTo f hc (k + 1) = true := by simp [mineTo, h3]
      by_cases hk : (f k).cart = hc
      · cases hb : beforeB (f k).pos (f j).pos hp with
        | true =>
          refine .inr ⟨k, ?_, by omega, hm, hk, fun i hi hic => ?_⟩
          · rw [alongTo, h1]; simp [takesB, hk, hb]
          · rcases Nat.lt_or_ge i k with hlt | hge
            · exact before_trans hb (h5 i hlt hic)
            · obtain rfl : i = k := by omega
              exact before_irr _ _
        | false =>
          refine .inr ⟨j, ?_, by omega, hm, h4, fun i hi hic => ?_⟩
          · rw [alongTo, h1]; simp [takesB, hb]
          · rcases Nat.lt_or_ge i k with hlt | hge
            · exact h5 i hlt hic
            · obtain rfl : i = k := by omega
              exact hb
      · refine .inr ⟨j, ?_, by omega, hm, h4, fun i hi hic => ?_⟩
        · rw [alongTo, h1]; simp [takesB, hk]
        · rcases Nat.lt_or_ge i k with hlt | hge
          · exact h5 i hlt hic
          · obtain rfl : i = k := by omega
            exact absurd hic hk

theorem due_early {born : Int} (h : 0 ≤ born) : dueB born 0 1 = false := by
  unfold dueB
  simp only [IntKind.wrap_u64, Bool.and_eq_false_iff, decide_eq_false_iff_not]
  omega
theorem nextOf_head {f : Nat → Ask} {n : Nat} {g : Nat → Hd} {m : Nat} {j : Nat} (h0 : 0 ≤ (f (oldestTo f n)).born) (hm : 0 < m) (h : alongTo f (g 0).cart (g 0).pos n = some j) : nextOf f n g m 0 1 = j :=
  nextOf_meet (due_early h0) (k := 0) hm rfl h

/-- A head ahead of a list of heads. -/
def consHd (h : Hd) (g : Nat → Hd) : Nat → Hd
  | 0 => h
  | i + 1 => g i
end Go.Proofs.Ythnjakmiknaihaa
