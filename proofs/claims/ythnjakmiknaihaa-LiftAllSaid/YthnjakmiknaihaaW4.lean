/- What lift.Next computes. No condition beyond those that each theorem states. -/
import Derived.Test.YthnjakmiknaihaaW3
namespace Go.Proofs.Ythnjakmiknaihaa
open Go.RowKit

structure Hd where
  cart : Int
  pos : Int

def HeadsAt (w : World) (b off n : Nat) (f : Nat → Hd) : Prop :=
  (∀ i, i < n → w.cell? ⟨b, off + i * 2, none⟩ = some (.int .i64 (f i).cart)) ∧ (∀ i, i < n → w.cell? ⟨b, off + i * 2 + 1, none⟩ = some (.int .i64 (f i).pos))

theorem HeadsAt.below {w w' : World} {B b off n : Nat} {f : Nat → Hd} (h : HeadsAt w b off n f) (hb : Below B w w') (hB : b < B) : HeadsAt w' b off n f := by
  have hc : ∀ j, w'.cell? ⟨b, j, none⟩ = w.cell? ⟨b, j, none⟩ := fun j => hb.cell (p := ⟨b, j, none⟩) hB
  unfold HeadsAt
  simp only [hc]
  exact h

def InArg (w : World) (A : Option Addr) (n : Nat) (R : Nat → Nat → Prop) : Prop := n = 0 ∨ ∃ b off, A = some ⟨b, off, none⟩ ∧ b < w.heap.size ∧ R b off

set_option maxHeartbeats 1000000 in
theorem next_none (A : Option Addr) (c : Nat) (hv : Value) (now age : Int) (w : World) :
    Calls Try.prog 9 #[.slice A 0 c, hv, .int .i64 now, .int .i64 age] w fun e w' => e = .returned (.tuple #[.int .i64 0, .bool false]) ∧ w = w' := by
  go_enter Try.func9, Try.ntmps9
  go_wp2
  go_ret2
  exact ⟨rfl, rfl⟩


def dueB (born now age : Int) : Bool := decide (born ≤ now) && decide (IntKind.u64.wrap (if age < 0 then 0 else age) ≤ IntKind.u64.wrap (IntKind.u64.wrap now - IntKind.u64.wrap born))

theorem due_yes {born now age : Int} (h1 : born ≤ now) (h2 : IntKind.u64.wrap (if age < 0 then 0 else age) ≤ IntKind.u64.wrap (IntKind.u64.wrap now - IntKind.u64.wrap born)) : dueB born now age = true := by
  unfold dueB; simp [h1, h2]
theorem due_no {born now age : Int} (h2 : IntKind.u64.wrap (IntKind.u64.wrap now - IntKind.u64.wrap born) < IntKind.u64.wrap (if age < 0 then 0 else age)) : dueB born now age = false := by
  unfold dueB; simp [Int.not_le.2 h2]
theorem due_not {born now age : Int} (h2 : now < born) : dueB born now age = false := by
  unfold dueB; simp [Int.not_le.2 h2]

def meetTo (F : Hd → Option Nat) (g : Nat → Hd) : Nat → Option Nat
  | 0 => none
  | k + 1 => match meetTo F g k with
    | some j => some j
    | none => F (g k)

theorem meetTo_some {F : Hd → Option Nat} {g : Nat → Hd} {k j : Nat} (h : meetTo F g k = some j) (m : Nat) (hm : k ≤ m) : meetTo F g m = some j := by
  induction m with
  | zero => obtain rfl : k = 0 := by omega
            exact h
  | succ m ih =>
    rcases Nat.lt_or_ge m k with hlt | hge
    · obtain rfl : k = m + 1 := by omega
      exact h
    · rw [meetTo, ih hge]
theorem meetTo_next {F : Hd → Option Nat} {g : Nat → Hd} {k : Nat} (h : meetTo F g k = none) : meetTo F g (k + 1) = F (g k) := by rw [meetTo, h]

def nextOf (f : Nat → Ask) (n : Nat) (g : Nat → Hd) (m : Nat) (now age : Int) : Nat :=
  if dueB (f (oldestTo f n)).born now age then oldestTo f n else (meetTo (fun h => alongTo f h.cart h.pos n) g m).getD (oldestTo f n)

theorem nextOf_due {f : Nat → Ask} {n : Nat} {g : Nat → Hd} {m : Nat} {now age : Int} (h : dueB (f (oldestTo f n)).born now age = true) : nextOf f n g m now age = oldestTo f n := by rw [nextOf, if_pos h]
theorem nextOf_meet {f : Nat → Ask} {n : Nat} {g : Nat → Hd} {m : Nat} {now age : Int} (h : dueB (f (oldestTo f n)).born now age = false) {k j : Nat} (hk : k < m) (h1 : meetTo (fun h => alongTo f h.cart h.pos n) g k = none)
    (h2 : alongTo f (g k).cart (g k).pos n = some j) : nextOf f n g m now age = j := by
  rw [nextOf, if_neg (by simp [h]), meetTo_some (k := k + 1) (j := j) (by rw [meetTo_next h1]; exact h2) m (by omega)]; rfl
theorem nextOf_none {f : Nat → Ask} {n : Nat} {g : Nat → Hd} {m : Nat} {now age : Int} (h : dueB (f (oldestTo f n)).born now age = false) (h1 : meetTo (fun h => alongTo f h.cart h.pos n) g m = none) : nextOf f n g m now age = oldestTo f n := by
  rw [nextOf, if_neg (by simp [h]), h1]; rfl

theorem tup_ret {a b : Nat} {x : Bool} (h : a = b) : Ending.returned (.tuple #[.int .i64 (a : Int), .bool x]) = .returned (.tuple #[.int .i64 (b : Int), .bool x]) := by rw [h]

set_option maxHeartbeats 1000000 in
theorem next_any (b off n c : Nat) (f : Nat → Ask) (B : Option Addr) (m d : Nat) (g : Nat → Hd) (now age : Int) (w : World) (hm : n ≤ 1000000) (hmm : m ≤ 1000000) (hn0 : 0 < n) (hb : b < w.heap.size) (hx : AsksAt w b off n f)
   (hg : InArg w B m fun b off => HeadsAt w b off m g) :
    Calls Try.prog 9 #[.slice (some ⟨b, off, none⟩) n c, .slice B m d, .int .i64 now, .int .i64 age] w fun e w' => e = .returned (.tuple #[.int .i64 (nextOf f n g m now age), .bool true]) ∧ Below w.heap.size w w' := by
  have hn1 : ((n : Int) == 0) = false := by rw [beq_eq_false_iff_ne]; omega
  have hol := oldestTo_lt f n hn0
  go_enter Try.func9, Try.ntmps9
  go_wp2_with (go_at_call 12; refine (oldest_any _ _ _ _ f _ hm hn0 hb hx).mono ?_; rintro e w1 ⟨rfl, hb1⟩; obtain ⟨h0, h1, h2, h3, h4, h5⟩ := hx.below hb1 hb)
  rotate_left 2
  all_goals first
    | (have D : Hid (dueB (f (oldestTo f n)).born now age = false) := due_no (by assumption))
    | (have D : Hid (dueB (f (oldestTo f n)).born now age = false) := due_not (by assumption))
    | (have D : Hid (dueB (f (oldestTo f n)).born now age = true) := due_yes (by assumption) (by assumption))
  all_goals try (go_ret2; exact ⟨tup_ret (nextOf_due D.out).symm, hb1⟩)
  all_goals (clear h0 h1 h2 h3 h4 h5)
  all_goals (go_loopw [42] (fun i wr => ∃ k : Nat, k ≤ m ∧ i = .int .i64 k ∧ meetTo (fun h => alongTo f h.cart h.pos n) g k = none ∧ Below w.heap.size w wr) (fun i _ => m - (intOf i).toNat))
  all_goals try exact ⟨0, Nat.zero_le _, rfl, rfl, hb1⟩
  all_goals
    obtain ⟨k, hk, rfl, hme, hbel⟩ := hrel
    have HM := Lib.hid hme
    clear hme
    by_cases hlt : k < m
    · obtain ⟨b', off', rfl, hb', hh⟩ := hg.resolve_left (by omega)
      obtain ⟨g0, g1⟩ := hh.below hbel hb'
      have hxr := hx.below hbel hb
      have HB := Lib.hid hbel
      have hsz := hbel.size
      clear hbel hh hx
      have hbw : b < wr.heap.size := by omega
      cases ha : alongTo f (g k).cart (g k).pos n
      · have HA := Lib.hid ha
        clear ha
        go_wp2_with (go_at_call 13; refine (along_any b off n c f (g k).cart (g k).pos _ hm (by simp; omega) (hxr.below ((Below.refl _ _).alloc (Nat.le_refl _) _) hbw)).mono ?_; rintro e w2 ⟨rfl, hb2⟩; rw [HA.out]; simp only [optI])
        go_roundw
        case rel => exact ⟨k + 1, hlt, by go_num, by rw [meetTo_next HM.out]; exact HA.out, (HB.out.alloc hsz _).trans (hb2.mono (by simp; omega))⟩
        case measure => simp [intOf]; omega
      · rename_i j
        have HA := Lib.hid ha
        clear ha
        go_wp2_with (go_at_call 13; refine (along_any b off n c f (g k).cart (g k).pos _ hm (by simp; omega) (hxr.below ((Below.refl _ _).alloc (Nat.le_refl _) _) hbw)).mono ?_; rintro e w2 ⟨rfl, hb2⟩; rw [HA.out]; simp only [optI])
        go_ret2
        exact ⟨tup_ret (nextOf_meet D.out hlt HM.out HA.out).symm, (HB.out.alloc hsz _).trans (hb2.mono (by simp; omega))⟩
    · obtain rfl : k = m := by omega
      go_wp2
      go_ret2
      exact ⟨tup_ret (nextOf_none D.out HM.out).symm, hbel⟩
end Go.Proofs.Ythnjakmiknaihaa
