/- What the reference function Next, and few and some, compute. No condition beyond those that each theorem states. -/
import Derived.Test.YthnjakmiknaihaaW7
namespace Go.Proofs.Ythnjakmiknaihaa
open Go.RowKit

set_option maxHeartbeats 1000000 in
theorem rNext_none (A : Option Addr) (c : Nat) (hv : Value) (now age : Int) (w : World) :
    Calls Try.prog 10 #[.slice A 0 c, hv, .int .i64 now, .int .i64 age] w fun e w' => e = .returned (.tuple #[.int .i64 0, .bool false]) ∧ w = w' := by
  go_enter Try.func10, Try.ntmps10
  go_wp2
  go_ret2
  exact ⟨rfl, rfl⟩

set_option maxHeartbeats 1000000 in
theorem rNext_any (b off n c : Nat) (f : Nat → Ask) (B : Option Addr) (m d : Nat) (g : Nat → Hd) (now age : Int) (w : World) (hnow : I64 now) (hage : I64 age) (hI : ∀ i, i < n → I64 (f i).born) (hm : n ≤ 1000000) (hmm : m ≤ 1000000) (hn0 : 0 < n) (hb : b < w.heap.size) (hx : AsksAt w b off n f)
   (hg : InArg w B m fun b off => HeadsAt w b off m g) :
    Calls Try.prog 10 #[.slice (some ⟨b, off, none⟩) n c, .slice B m d, .int .i64 now, .int .i64 age] w fun e w' => e = .returned (.tuple #[.int .i64 (nextOf f n g m now age), .bool true]) ∧ Below w.heap.size w w' := by
  have hn1 : ((n : Int) == 0) = false := by rw [beq_eq_false_iff_ne]; omega
  have hol := oldestTo_lt f n hn0
  have Hfar := fun W => far_any now (f (oldestTo f n)).born age hnow (hI _ hol) hage W
  have Hi := Lib.hid Hfar
  clear Hfar
  cases hd : dueB (f (oldestTo f n)).born now age
  all_goals
    have D := Lib.hid hd
    clear hd
    go_enter Try.func10, Try.ntmps10
    go_wp2_with (first | (go_at_call 14; refine (rOldest_any _ _ _ _ f _ hm hn0 hb hx).mono ?_; rintro e w1 ⟨rfl, hb1⟩; obtain ⟨h0, h1, h2, h3, h4, h5⟩ := hx.below hb1 hb) | (go_at_call 15; refine (Hi.out _).mono ?_; rintro e w1 ⟨rfl, rfl⟩; rw [D.out]))
  rotate_left 1
  · go_ret2
    exact ⟨tup_ret (nextOf_due D.out).symm, hb1⟩
  clear h0 h1 h2 h3 h4 h5
  go_loopw [11] (fun i wr => ∃ k : Nat, k ≤ m ∧ i = .int .i64 k ∧ meetTo (fun h => alongTo f h.cart h.pos n) g k = none ∧ Below w.heap.size w wr) (fun i _ => m - (intOf i).toNat)
  · exact ⟨0, Nat.zero_le _, rfl, rfl, hb1⟩
  obtain ⟨k, hk, rfl, hme, hbel⟩ := hrel
  have HM := Lib.hid hme
  clear hme
  by_cases hlt : k < m
  · obtain ⟨b', off', rfl, hb', hh⟩ := hg.resolve_left (by omega)
    obtain ⟨g0, g1⟩ := hh.below hbel hb'
    have hxr := hx.below hbel hb
    have HB := Lib.hid hbel
    have hsz := hbel.size
    clear hbel hh hx
    have hbw : b < wr.heap.size := by omega
    cases ha : alongTo f (g k).cart (g k).pos n
    · have HA := Lib.hid ha
      clear ha
      go_wp2_with (go_at_call 16; refine (meets_any b off n c f (g k).cart (g k).pos _ hm hbw hxr).mono ?_; rintro e w2 ⟨rfl, hb2⟩; rw [HA.out]; simp only [optI])
      go_roundw
      case rel => exact ⟨k + 1, hlt, by go_num, by rw [meetTo_next HM.out]; exact HA.out, HB.out.trans (hb2.mono hsz)⟩
      case measure => simp [intOf]; omega
    · rename_i j
      have HA := Lib.hid ha
      clear ha
      go_wp2_with (go_at_call 16; refine (meets_any b off n c f (g k).cart (g k).pos _ hm hbw hxr).mono ?_; rintro e w2 ⟨rfl, hb2⟩; rw [HA.out]; simp only [optI])
      go_ret2
      exact ⟨tup_ret (nextOf_meet D.out hlt HM.out HA.out).symm, HB.out.trans (hb2.mono hsz)⟩
  · obtain rfl : k = m := by omega
    go_wp2
    go_ret2
    exact ⟨tup_ret (nextOf_none D.out HM.out).symm, hbel⟩

set_option maxHeartbeats 400000 in
theorem few_small (A : Option Addr) (n c : Nat) (hn : n ≤ 60) (w : World) :
    Calls Try.prog 7 #[.slice A n c] w fun e w' => e = .returned (.slice A n c) ∧ w = w' := by
  have h' : ¬ 60 < (n : Int) := by omega
  go_enter Try.func7, Try.ntmps7
  go_wp2
  go_ret
  exact ⟨rfl, rfl⟩
set_option maxHeartbeats 400000 in
theorem few_big (b off n c : Nat) (hn : 60 < n) (hc : n ≤ c) (hm : c ≤ 9223372036854775807) (w : World) :
    Calls Try.prog 7 #[.slice (some ⟨b, off, none⟩) n c] w fun e w' => e = .returned (.slice (some ⟨b, off, none⟩) 60 c) ∧ w = w' := by
  have h' : 60 < (n : Int) := by omega
  go_enter Try.func7, Try.ntmps7
  go_wp2
  go_ret
  exact ⟨rfl, rfl⟩
set_option maxHeartbeats 400000 in
theorem some_small (A : Option Addr) (n c : Nat) (hn : n ≤ 20) (w : World) :
    Calls Try.prog 8 #[.slice A n c] w fun e w' => e = .returned (.slice A n c) ∧ w = w' := by
  have h' : ¬ 20 < (n : Int) := by omega
  go_enter Try.func8, Try.ntmps8
  go_wp2
  go_ret
  exact ⟨rfl, rfl⟩
set_option maxHeartbeats 400000 in
theorem some_big (b off n c : Nat) (hn : 20 < n) (hc : n ≤ c) (hm : c ≤ 9223372036854775807) (w : World) :
    Calls Try.prog 8 #[.slice (some ⟨b, off, none⟩) n c] w fun e w' => e = .returned (.slice (some ⟨b, off, none⟩) 20 c) ∧ w = w' := by
  have h' : 20 < (n : Int) := by omega
  go_enter Try.func8, Try.ntmps8
  go_wp2
  go_ret
  exact ⟨rfl, rfl⟩

end Go.Proofs.Ythnjakmiknaihaa
