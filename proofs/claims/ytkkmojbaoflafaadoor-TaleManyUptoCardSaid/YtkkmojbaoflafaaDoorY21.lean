/- The document's number of a word. No condition beyond those that each theorem states. -/
import Derived.Test.YtkkmojbaoflafaaDoorY19
namespace Go.Proofs.YtkkmojbaoflafaaDoor
open Go.RowKit Go.Shelf
attribute [local go_sem] Oper.semAt_some

def numR : Str → Nat → Option Nat
  | [], acc => some acc
  | c :: r, acc => if 48 ≤ c.toNat ∧ c.toNat ≤ 57 then numR r ((acc * 10 + (c.toNat - 48)) % 18446744073709551616) else none
def numS (s : Str) : Option Nat := if s.head? = some 45 then numR s.tail 0 else numR s 0
def numI (s : Str) (u : Nat) : Int := if s.head? = some 45 then IntKind.i64.wrap (-IntKind.i64.wrap (u : Int)) else IntKind.i64.wrap (u : Int)
theorem numR_dec (k : Nat) : ∀ r, k < 18446744073709551616 → numR (Lib.decDigits k ++ r) 0 = numR r k := by
  induction k using Nat.strongRecOn with
  | _ k ih =>
    intro r hk
    rw [Lib.decDigits]
    split
    · rename_i h
      have e : (UInt8.ofNat (48 + k)).toNat = 48 + k := by rw [UInt8.toNat_ofNat']; omega
      rw [List.cons_append, List.nil_append, numR, e, if_pos (by omega)]
      congr 1
      omega
    · rename_i h
      have e : (UInt8.ofNat (48 + k % 10)).toNat = 48 + k % 10 := by rw [UInt8.toNat_ofNat']; omega
      rw [List.append_assoc, ih (k / 10) (by omega) _ (by omega), List.cons_append, List.nil_append, numR, e, if_pos (by omega)]
      congr 1
      omega
theorem dec_short : ∀ (d k : Nat), k < 10 ^ (d + 1) → (Lib.decDigits k).length ≤ d + 1 ∧ 1 ≤ (Lib.decDigits k).length
  | 0, k, h => by
    rw [Lib.decDigits, dif_pos (by omega)]
    simp
  | d + 1, k, h => by
    rw [Lib.decDigits]
    split
    · simp
    · have h2 := dec_short d (k / 10) (by rw [Nat.div_lt_iff_lt_mul (by omega)]; rw [Nat.pow_succ] at h; exact h)
      rw [List.length_append, List.length_singleton]
      omega
theorem dec_head (k : Nat) : ∃ c r, Lib.decDigits k = c :: r ∧ c ≠ 45 := by
  induction k using Nat.strongRecOn with
  | _ k ih =>
    rw [Lib.decDigits]
    split
    · rename_i h
      refine ⟨_, _, rfl, fun e => ?_⟩
      have e2 := congrArg UInt8.toNat e
      rw [UInt8.toNat_ofNat'] at e2
      have e3 : (45 : UInt8).toNat = 45 := rfl
      omega
    · obtain ⟨c, r, h1, h2⟩ := ih (k / 10) (by omega)
      exact ⟨c, _, by rw [h1, List.cons_append], h2⟩
/-- Of a number's own text the document computes that number. -/
theorem numS_itoa {n : Int} (h : Wf64 n) : ∃ u, numS (Lib.itoa n) = some u ∧ numI (Lib.itoa n) u = n ∧ u < 18446744073709551616 ∧ 1 ≤ (Lib.itoa n).length ∧ (Lib.itoa n).length ≤ 20 := by
  unfold Lib.itoa
  by_cases hn : n < 0
  · rw [if_pos hn]
    obtain ⟨k, hk⟩ : ∃ k, n.natAbs = k := ⟨_, rfl⟩
    have h1 := h.1
    have hk2 : k ≤ 9223372036854775808 := by omega
    rw [hk]
    have hl := dec_short 18 k (by omega)
    refine ⟨k, ?_, ?_, by omega, by simp, by rw [List.length_cons]; omega⟩
    · unfold numS
      rw [if_pos List.head?_cons, List.tail_cons]
      have := numR_dec k [] (by omega)
      rw [List.append_nil] at this
      rw [this]
      rfl
    · unfold numI
      rw [if_pos List.head?_cons]
      simp [IntKind.wrap, IntKind.signed, IntKind.bits]
      omega
  · rw [if_neg hn]
    obtain ⟨k, rfl⟩ : ∃ k : Nat, n = k := ⟨n.toNat, by omega⟩
    have h1 := h.2
    obtain ⟨c, r, e, hc⟩ := dec_head k
    have hl := dec_short 18 k (by omega)
    rw [Int.toNat_natCast]
    refine ⟨k, ?_, ?_, by omega, hl.2, by omega⟩
    · unfold numS
      rw [if_neg (by rw [e]; simpa using hc)]
      have := numR_dec k [] (by omega)
      rw [List.append_nil] at this
      rw [this]
      rfl
    · unfold numI
      rw [if_neg (by rw [e]; simpa using hc)]
      exact IntWalk.i64_in _ (by omega)
theorem wrap_wf (x : Int) : Wf64 (IntKind.i64.wrap x) := by
  unfold Wf64
  simp [IntKind.wrap, IntKind.signed, IntKind.bits]
  omega
theorem numI_wf (s : Str) (u : Nat) : Wf64 (numI s u) := by
  unfold numI
  split <;> exact wrap_wf _
theorem numT_fact {s : Str} {n : Int} (h : numT s = some n) : ∃ u, numS s = some u ∧ numI s u = n ∧ 1 ≤ s.length ∧ s.length ≤ 20 := by
  obtain ⟨h1, h2, h3⟩ := numT_some h
  obtain ⟨u, a, b, _, c, d⟩ := numS_itoa (n := n) ⟨h2, h3⟩
  rw [h1] at a b c d
  exact ⟨u, a, b, c, d⟩
theorem num_none {s : Str} (h : numS s = none ∨ s.length < 1 ∨ 20 < s.length) : numT s = none := by
  cases ht : numT s with
  | none => rfl
  | some n =>
    obtain ⟨u, a, _, b, c⟩ := numT_fact ht
    rcases h with h | h | h
    · rw [h] at a; cases a
    · omega
    · omega
theorem num_law {s : Str} {u : Nat} (h : numS s = some u) : (Lib.itoa (numI s u) == s) = (numT s).isSome ∧ ∀ n, numT s = some n → numI s u = n := by
  have h2 : ∀ n, numT s = some n → numI s u = n := fun n hn => by
    obtain ⟨u', a, b, _⟩ := numT_fact hn
    rw [h] at a
    cases a
    exact b
  refine ⟨?_, h2⟩
  cases ht : numT s with
  | none =>
    have : Lib.itoa (numI s u) ≠ s := fun e => by
      have hw := numI_wf s u
      have := numT_itoa hw.1 hw.2
      rw [e, ht] at this
      cases this
    simpa using this
  | some n =>
    have e := h2 n ht
    rw [e]
    simpa using (numT_some ht).1
def NumTold (s : Str) (e : Ending) : Prop := ∃ v, e = .returned (.tuple #[.int .i64 v, .bool (numT s).isSome]) ∧ ∀ n, numT s = some n → v = n
end Go.Proofs.YtkkmojbaoflafaaDoor
