/- What the reference functions Oldest and Far compute. No condition beyond those that each theorem states. -/
import Derived.Test.YthnjakmiknaihaaW4
namespace Go.Proofs.Ythnjakmiknaihaa
open Go.RowKit

set_option maxHeartbeats 400000 in
theorem rOldest_any (b off n c : Nat) (f : Nat → Ask) (w : World) (hm : n ≤ 1000000) (hn0 : 0 < n) (hb : b < w.heap.size) (hx : AsksAt w b off n f) :
    Calls Try.prog 14 #[.slice (some ⟨b, off, none⟩) n c] w fun e w' => e = .returned (.int .i64 (oldestTo f n)) ∧ Below w.heap.size w w' := by
  have h1 : oldestTo f 1 = 0 := by simp [oldestTo]
  go_enter Try.func14, Try.ntmps14
  go_wp2
  go_loopw [3, 4] (fun best i wr => ∃ k : Nat, k ≤ n ∧ 1 ≤ k ∧ best = .int .i64 (oldestTo f k) ∧ i = .int .i64 k ∧ Below w.heap.size w wr) (fun _ i _ => n - (intOf i).toNat)
  case atStart => exact ⟨1, by omega, by omega, by rw [h1]; rfl, rfl, Below.refl _ _⟩
  case round =>
    obtain ⟨k, hk, hk1, rfl, rfl, hbel⟩ := hrel
    obtain ⟨h0, h1, h2, h3, h4, h5⟩ := hx.below hbel hb
    have HB := Lib.hid hbel
    have hsz := hbel.size
    clear hbel hx
    by_cases hlt : k < n
    · have hbest : oldestTo f k < n := by
        have := oldestTo_lt f k hk1; omega
      generalize ho : oldestTo f k = o at *
      have Ho := Lib.hid ho
      clear ho
      go_wp2
      go_quiet (fail)
      go_wp2
      · go_roundw
        case rel => exact ⟨k + 1, hlt, by omega, by rw [oldestTo_yes f k (by rw [Ho.out]; assumption)], by go_num, below_drewN HB.out _⟩
        case measure => simp [intOf]; omega
      · go_roundw
        case rel => exact ⟨k + 1, hlt, by omega, by rw [oldestTo_no f k (by rw [Ho.out]; assumption), Ho.out], by go_num, below_drewN HB.out _⟩
        case measure => simp [intOf]; omega
    · obtain rfl : k = n := by omega
      go_wp2
      go_ret
      exact ⟨rfl, HB.out⟩


def I64 (n : Int) : Prop := -9223372036854775808 ≤ n ∧ n ≤ 9223372036854775807

set_option maxHeartbeats 400000 in
theorem far_any (now born age : Int) (hn : I64 now) (hb : I64 born) (ha : I64 age) (w : World) :
    Calls Try.prog 15 #[.int .i64 now, .int .i64 born, .int .i64 age] w fun e w' => e = .returned (.bool (dueB born now age)) ∧ w' = w := by
  go_enter Try.func15, Try.ntmps15
  go_wp2
  all_goals go_ret
  all_goals refine ⟨?_, rfl⟩
  all_goals refine congrArg (fun x => Ending.returned (Value.bool x)) ?_
  all_goals
    unfold I64 at hn hb ha
    unfold dueB
    simp only [IntKind.wrap_u64, wrap64]
    symm
    rw [Bool.eq_iff_iff]
    simp only [Bool.and_eq_true, decide_eq_true_eq, Bool.false_eq_true, iff_true, iff_false, not_and]
    omega
end Go.Proofs.Ythnjakmiknaihaa
