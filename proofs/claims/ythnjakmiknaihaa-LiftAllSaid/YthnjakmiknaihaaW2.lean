/- What lift.oldest computes. No condition beyond those that each theorem states. -/
import Derived.Test.YthnjakmiknaihaaRows
import Derived.WalkKit
import Derived.WalkSpells
import Derived.WalkLawsBesides
import Derived.BigQuiet
import Derived.Deep.QuietTactic
import Derived.Lib.Hide
import Derived.Deep.Draws
namespace Go.Proofs.Ythnjakmiknaihaa
open Go.RowKit

structure Ask where
  job : Int
  op : Int
  cart : Int
  pos : Int
  slot : Int
  born : Int

/-- The Asks f 0 .. f (n - 1) lie in the cells from (b, off) on. -/
def AsksAt (w : World) (b off n : Nat) (f : Nat → Ask) : Prop :=
  (∀ i, i < n → w.cell? ⟨b, off + i * 6, none⟩ = some (.int .i64 (f i).job)) ∧ (∀ i, i < n → w.cell? ⟨b, off + i * 6 + 1, none⟩ = some (.int .i64 (f i).op)) ∧
    (∀ i, i < n → w.cell? ⟨b, off + i * 6 + 2, none⟩ = some (.int .i64 (f i).cart)) ∧ (∀ i, i < n → w.cell? ⟨b, off + i * 6 + 3, none⟩ = some (.int .i64 (f i).pos)) ∧
    (∀ i, i < n → w.cell? ⟨b, off + i * 6 + 4, none⟩ = some (.int .i64 (f i).slot)) ∧ (∀ i, i < n → w.cell? ⟨b, off + i * 6 + 5, none⟩ = some (.int .i64 (f i).born))

theorem AsksAt.below {w w' : World} {B b off n : Nat} {f : Nat → Ask} (h : AsksAt w b off n f) (hb : Below B w w') (hB : b < B) : AsksAt w' b off n f := by
  have hc : ∀ j, w'.cell? ⟨b, j, none⟩ = w.cell? ⟨b, j, none⟩ := fun j => hb.cell (p := ⟨b, j, none⟩) hB
  unfold AsksAt
  simp only [hc]
  exact h

def oldestTo (f : Nat → Ask) : Nat → Nat
  | 0 => 0
  | k + 1 => if (f k).born < (f (oldestTo f k)).born then k else oldestTo f k

theorem oldestTo_lt (f : Nat → Ask) (k : Nat) (h : 0 < k) : oldestTo f k < k := by
  induction k with
  | zero => omega
  | succ k ih =>
    unfold oldestTo
    split
    · omega
    · rcases Nat.eq_zero_or_pos k with rfl | hk
      · simp [oldestTo]
      · have := ih hk; omega

theorem oldestTo_yes (f : Nat → Ask) (k : Nat) (h : (f k).born < (f (oldestTo f k)).born) : oldestTo f (k + 1) = k := by rw [oldestTo, if_pos h]
theorem oldestTo_no (f : Nat → Ask) (k : Nat) (h : (f (oldestTo f k)).born ≤ (f k).born) : oldestTo f (k + 1) = oldestTo f k := by rw [oldestTo, if_neg (by omega)]

theorem below_drewN {B : Nat} {a w : World} (h : Below B a w) (n : Nat) : Below B a (w.drewN n) := ⟨h.os, h.tape, h.output, h.size, h.block⟩

set_option maxHeartbeats 400000 in
theorem oldest_any (b off n c : Nat) (f : Nat → Ask) (w : World) (hm : n ≤ 1000000) (hn0 : 0 < n) (hb : b < w.heap.size) (hx : AsksAt w b off n f) :
    Calls Try.prog 12 #[.slice (some ⟨b, off, none⟩) n c] w fun e w' => e = .returned (.int .i64 (oldestTo f n)) ∧ Below w.heap.size w w' := by
  go_enter Try.func12, Try.ntmps12
  go_wp2
  go_loopw [3, 8] (fun best i wr => ∃ k : Nat, k ≤ n ∧ best = .int .i64 (oldestTo f k) ∧ i = .int .i64 k ∧ Below w.heap.size w wr) (fun _ i _ => n - (intOf i).toNat)
  case atStart => exact ⟨0, Nat.zero_le _, rfl, rfl, Below.refl _ _⟩
  case round =>
    obtain ⟨k, hk, rfl, rfl, hbel⟩ := hrel
    obtain ⟨h0, h1, h2, h3, h4, h5⟩ := hx.below hbel hb
    have HB := Lib.hid hbel
    have hsz := hbel.size
    clear hbel hx
    have hbw : b < wr.heap.size := by omega
    by_cases hlt : k < n
    · have hbest : oldestTo f k < n := by
        rcases Nat.eq_zero_or_pos k with rfl | hk0
        · simpa [oldestTo] using hn0
        · have := oldestTo_lt f k hk0; omega
      generalize ho : oldestTo f k = o at *
      have Ho := Lib.hid ho
      clear ho
      go_wp2
      go_quiet (fail)
      go_wp2
      · go_roundw
        case rel => exact ⟨k + 1, hlt, by rw [oldestTo_yes f k (by rw [Ho.out]; assumption)], by go_num, below_drewN (HB.out.alloc hsz _) _⟩
        case measure => simp [intOf]; omega
      · go_roundw
        case rel => exact ⟨k + 1, hlt, by rw [oldestTo_no f k (by rw [Ho.out]; assumption), Ho.out], by go_num, below_drewN (HB.out.alloc hsz _) _⟩
        case measure => simp [intOf]; omega
    · obtain rfl : k = n := by omega
      go_wp2
      go_ret
      exact ⟨rfl, HB.out⟩
end Go.Proofs.Ythnjakmiknaihaa
