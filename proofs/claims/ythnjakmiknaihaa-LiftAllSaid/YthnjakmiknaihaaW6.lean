/- Plain lists: the reference way of meeting requests is the way of lift.along. No condition beyond those that each theorem states. -/
import Derived.Test.YthnjakmiknaihaaW5
namespace Go.Proofs.Ythnjakmiknaihaa
open Go.RowKit

def upB (f : Nat → Ask) (hc hp : Int) (k : Nat) : Option Nat → Bool
  | none => (f k).cart == hc && decide (hp ≤ (f k).pos)
  | some u => (f k).cart == hc && (decide (hp ≤ (f k).pos) && decide ((f k).pos < (f u).pos))
def lowB (f : Nat → Ask) (hc : Int) (k : Nat) : Option Nat → Bool
  | none => (f k).cart == hc
  | some u => (f k).cart == hc && decide ((f k).pos < (f u).pos)
def upTo (f : Nat → Ask) (hc hp : Int) : Nat → Option Nat
  | 0 => none
  | k + 1 => if upB f hc hp k (upTo f hc hp k) then some k else upTo f hc hp k
def lowTo (f : Nat → Ask) (hc : Int) : Nat → Option Nat
  | 0 => none
  | k + 1 => if lowB f hc k (lowTo f hc k) then some k else lowTo f hc k
theorem upTo_lt {f : Nat → Ask} {hc hp : Int} {k o : Nat} (h : upTo f hc hp k = some o) : o < k := by
  induction k with
  | zero => simp [upTo] at h
  | succ k ih =>
    unfold upTo at h
    split at h
    · injection h; omega
    · have := ih h; omega
theorem lowTo_lt {f : Nat → Ask} {hc : Int} {k o : Nat} (h : lowTo f hc k = some o) : o < k := by
  induction k with
  | zero => simp [lowTo] at h
  | succ k ih =>
    unfold lowTo at h
    split at h
    · injection h; omega
    · have := ih h; omega
theorem upTo_yes {f : Nat → Ask} {hc hp : Int} {k : Nat} {o} (ho : upTo f hc hp k = o) (h : upB f hc hp k o = true) : upTo f hc hp (k + 1) = some k := by rw [upTo, ho, if_pos h]
theorem upTo_no {f : Nat → Ask} {hc hp : Int} {k : Nat} {o} (ho : upTo f hc hp k = o) (h : upB f hc hp k o = false) : upTo f hc hp (k + 1) = o := by rw [upTo, ho, if_neg (by simp [h])]
theorem lowTo_yes {f : Nat → Ask} {hc : Int} {k : Nat} {o} (ho : lowTo f hc k = o) (h : lowB f hc k o = true) : lowTo f hc (k + 1) = some k := by rw [lowTo, ho, if_pos h]
theorem lowTo_no {f : Nat → Ask} {hc : Int} {k : Nat} {o} (ho : lowTo f hc k = o) (h : lowB f hc k o = false) : lowTo f hc (k + 1) = o := by rw [lowTo, ho, if_neg (by simp [h])]

/-- What the reference calls Meets is what the program calls along. -/
theorem meets_along (f : Nat → Ask) (hc hp : Int) (k : Nat) :
    alongTo f hc hp k = (match upTo f hc hp k with | some u => some u | none => lowTo f hc k) ∧ (∀ u, upTo f hc hp k = some u → hp ≤ (f u).pos) ∧
    (upTo f hc hp k = none → ∀ u, lowTo f hc k = some u → (f u).pos < hp) := by
  induction k with
  | zero => simp [alongTo, upTo, lowTo]
  | succ k ih =>
    obtain ⟨h1, h2, h3⟩ := ih
    rw [alongTo, upTo, lowTo, h1]
    cases hu : upTo f hc hp k with
    | some u =>
      have := h2 u hu
      by_cases hca : (f k).cart = hc
      · by_cases hp1 : hp ≤ (f k).pos
        · by_cases hp2 : (f k).pos < (f u).pos
          · simp [upB, takesB, beforeB, hca, hp1, hp2, this]
          · simp [upB, takesB, beforeB, hca, hp1, hp2, this]
        · simp [upB, takesB, beforeB, hca, hp1, this]
      · simp [upB, takesB, hca, this]
    | none =>
      have h3 := h3 hu
      cases hl : lowTo f hc k with
      | none =>
        by_cases hca : (f k).cart = hc
        · by_cases hp1 : hp ≤ (f k).pos
          · simp [upB, lowB, takesB, hca, hp1]
          · simp [upB, lowB, takesB, hca, hp1]; omega
        · simp [upB, lowB, takesB, hca]
      | some l =>
        have := h3 l hl
        have hnl : ¬ hp ≤ (f l).pos := by omega
        by_cases hca : (f k).cart = hc
        · by_cases hp1 : hp ≤ (f k).pos
          · simp [upB, lowB, takesB, beforeB, hca, hp1, hnl]
          · by_cases hp2 : (f k).pos < (f l).pos
            · simp [upB, lowB, takesB, beforeB, hca, hp1, hp2, hnl]; omega
            · simp [upB, lowB, takesB, beforeB, hca, hp1, hp2, hnl]; omega
        · simp [upB, lowB, takesB, hca]; omega
end Go.Proofs.Ythnjakmiknaihaa
