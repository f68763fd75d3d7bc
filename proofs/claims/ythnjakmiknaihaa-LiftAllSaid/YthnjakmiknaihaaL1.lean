/- The law LiftNext returns true on values. No condition beyond those that each theorem states. -/
import Derived.Test.YthnjakmiknaihaaW9
namespace Go.Proofs.Ythnjakmiknaihaa
open Go.RowKit

theorem few_any (A : Option Addr) (n c : Nat) (hA : n = 0 ∨ ∃ b off, A = some ⟨b, off, none⟩) (hc : n ≤ c) (hm : c ≤ 9223372036854775807) (w : World) :
    Calls Try.prog 7 #[.slice A n c] w fun e w' => e = .returned (.slice A (min n 60) c) ∧ w = w' := by
  rcases Nat.lt_or_ge 60 n with h | h
  · obtain ⟨b, off, rfl⟩ := hA.resolve_left (by omega)
    rw [Nat.min_eq_right (by omega)]
    exact few_big b off n c h hc hm w
  · rw [Nat.min_eq_left (by omega)]
    exact few_small A n c h w
theorem some_any (A : Option Addr) (n c : Nat) (hA : n = 0 ∨ ∃ b off, A = some ⟨b, off, none⟩) (hc : n ≤ c) (hm : c ≤ 9223372036854775807) (w : World) :
    Calls Try.prog 8 #[.slice A n c] w fun e w' => e = .returned (.slice A (min n 20) c) ∧ w = w' := by
  rcases Nat.lt_or_ge 20 n with h | h
  · obtain ⟨b, off, rfl⟩ := hA.resolve_left (by omega)
    rw [Nat.min_eq_right (by omega)]
    exact some_big b off n c h hc hm w
  · rw [Nat.min_eq_left (by omega)]
    exact some_small A n c h w

theorem InArg.form {w : World} {A : Option Addr} {n : Nat} {R : Nat → Nat → Prop} (h : InArg w A n R) : n = 0 ∨ ∃ b off, A = some ⟨b, off, none⟩ :=
  h.imp id fun ⟨b, off, h, _⟩ => ⟨b, off, h⟩
theorem AsksAt.less {w : World} {b off n m : Nat} {f : Nat → Ask} (h : AsksAt w b off n f) (hm : m ≤ n) : AsksAt w b off m f := by
  obtain ⟨h0, h1, h2, h3, h4, h5⟩ := h
  exact ⟨fun i hi => h0 i (by omega), fun i hi => h1 i (by omega), fun i hi => h2 i (by omega), fun i hi => h3 i (by omega), fun i hi => h4 i (by omega), fun i hi => h5 i (by omega)⟩
theorem HeadsAt.less {w : World} {b off n m : Nat} {f : Nat → Hd} (h : HeadsAt w b off n f) (hm : m ≤ n) : HeadsAt w b off m f := by
  obtain ⟨h0, h1⟩ := h
  exact ⟨fun i hi => h0 i (by omega), fun i hi => h1 i (by omega)⟩
theorem InArg.heads {w : World} {A : Option Addr} {n m : Nat} {g : Nat → Hd} (h : InArg w A n fun b off => HeadsAt w b off n g) (hm : m ≤ n) : InArg w A m fun b off => HeadsAt w b off m g := by
  rcases h with h | ⟨b, off, h1, h2, h3⟩
  · exact .inl (by omega)
  · exact .inr ⟨b, off, h1, h2, h3.less hm⟩
theorem InArg.below {w w' : World} {A : Option Addr} {n : Nat} {g : Nat → Hd} (h : InArg w A n fun b off => HeadsAt w b off n g) (hb : Below w.heap.size w w') : InArg w' A n fun b off => HeadsAt w' b off n g := by
  rcases h with h | ⟨b, off, h1, h2, h3⟩
  · exact .inl h
  · exact .inr ⟨b, off, h1, Nat.lt_of_lt_of_le h2 hb.size, h3.below hb h2⟩

set_option maxHeartbeats 1000000 in
theorem liftNext_walk (A B : Option Addr) (n c m d : Nat) (f : Nat → Ask) (g : Nat → Hd) (now age : Int) (w : World) (hnc : n ≤ c) (hcm : c ≤ 9223372036854775807) (hmd : m ≤ d) (hdm : d ≤ 9223372036854775807)
    (hA : InArg w A n fun b off => AsksAt w b off n f) (hB : InArg w B m fun b off => HeadsAt w b off m g) (hnow : I64 now) (hage : I64 age) (hI : ∀ i, i < n → I64 (f i).born) :
    Calls Try.prog 3 #[.slice A n c, .slice B m d, .int .i64 now, .int .i64 age] w fun e w' => e = .returned (.bool true) ∧ Below w.heap.size w w' := by
  rcases Nat.eq_zero_or_pos n with h0 | h0
  · subst h0
    go_enter Try.func3, Try.ntmps3
    go_wp2_with (first
      | (go_at_call 7; refine (few_any _ _ _ hA.form hnc hcm _).mono ?_; rintro e w1 ⟨rfl, rfl⟩)
      | (go_at_call 8; refine (some_any _ _ _ hB.form hmd hdm _).mono ?_; rintro e w1 ⟨rfl, rfl⟩)
      | (go_at_call 9; refine (next_none _ _ _ _ _ _).mono ?_; rintro e w1 ⟨rfl, rfl⟩)
      | (go_at_call 10; refine (rNext_none _ _ _ _ _ _).mono ?_; rintro e w1 ⟨rfl, rfl⟩)
      | (go_at_call 11; refine (awake_any _).mono ?_; rintro e w1 ⟨rfl, hb1⟩))
    go_ret
    exact ⟨rfl, hb1⟩
  · obtain ⟨b, off, rfl, hb, hx⟩ := hA.resolve_left (by omega)
    have hx' := hx.less (Nat.min_le_left n 60)
    have hB' := hB.heads (Nat.min_le_left m 20)
    have hmin : 0 < min n 60 := by omega
    have hle : min n 60 ≤ 1000000 := by omega
    have hle2 : min m 20 ≤ 1000000 := by omega
    have hI' : ∀ i, i < min n 60 → I64 (f i).born := fun i hi => hI i (by omega)
    generalize hq : nextOf f (min n 60) g (min m 20) now age = q
    have Q := Lib.hid hq
    clear hq
    generalize hp : min n 60 = p at *
    generalize hr : min m 20 = r at *
    have HP := Lib.hid hp
    have HR := Lib.hid hr
    clear hp hr
    go_enter Try.func3, Try.ntmps3
    go_wp2_with (first
      | (go_at_call 7; refine (few_any _ _ _ hA.form hnc hcm _).mono ?_; rintro e w1 ⟨rfl, rfl⟩; rw [HP.out])
      | (go_at_call 8; refine (some_any _ _ _ hB.form hmd hdm _).mono ?_; rintro e w1 ⟨rfl, rfl⟩; rw [HR.out])
      | (go_at_call 9; refine (next_any b off p c f B r d g now age _ hle hle2 hmin hb hx' hB').mono ?_; rintro e w1 ⟨rfl, hb1⟩; rw [Q.out])
      | (go_at_call 10; refine (rNext_any b off p c f B r d g now age _ hnow hage hI' hle hle2 hmin (Nat.lt_of_lt_of_le hb hb1.size) (hx'.below hb1 hb) (hB'.below hb1)).mono ?_; rintro e w2 ⟨rfl, hb2⟩; rw [Q.out])
      | (go_at_call 11; refine (awake_any _).mono ?_; rintro e w3 ⟨rfl, hb3⟩))
    go_ret
    exact ⟨rfl, (hb1.trans (hb2.mono hb1.size)).trans (hb3.mono (Nat.le_trans hb1.size hb2.size))⟩
end Go.Proofs.Ythnjakmiknaihaa
