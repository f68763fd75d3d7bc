/- Bytes and numbers as words of a line: plain lists. No condition beyond those that each theorem states. -/
import Derived.Lib.ItoaNum
import Derived.Lib.AtoiAll
import Derived.Lib.AtoiAllCases
namespace Go.Proofs.YtkkmojbaoflafaaDoor

abbrev Str := List UInt8
/-- A digit of sixteen. -/
def hexD (n : Nat) : UInt8 := UInt8.ofNat (if n < 10 then 48 + n else 87 + n)
/-- What a byte says as a digit of sixteen. -/
def unD (c : UInt8) : Option Nat := if 48 ≤ c.toNat ∧ c.toNat ≤ 57 then some (c.toNat - 48) else if 97 ≤ c.toNat ∧ c.toNat ≤ 102 then some (c.toNat - 87) else none
def hexB (c : UInt8) : Str := [hexD (c.toNat / 16), hexD (c.toNat % 16)]
def hexT (l : Str) : Str := 120 :: l.flatMap hexB
def unhexP : Str → Option Str
  | [] => some []
  | [_] => none
  | a :: b :: r => match unD a, unD b with
    | some x, some y => (unhexP r).map (UInt8.ofNat (16 * x + y) :: ·)
    | _, _ => none
def unhexT : Str → Option Str
  | [] => none
  | c :: r => if c = 120 then unhexP r else none

theorem hexD_nat {n : Nat} (h : n < 16) : (hexD n).toNat = if n < 10 then 48 + n else 87 + n := by
  unfold hexD
  rw [UInt8.toNat_ofNat']
  split <;> omega
theorem unD_hex {n : Nat} (h : n < 16) : unD (hexD n) = some n := by
  unfold unD
  rw [hexD_nat h]
  split
  · rw [if_pos (by omega)]
    congr 1
    omega
  · rw [if_neg (by omega), if_pos (by omega)]
    congr 1
    omega
theorem unD_lt {c : UInt8} {n : Nat} (h : unD c = some n) : n < 16 := by
  unfold unD at h
  split at h
  · injection h with h
    omega
  · split at h
    · injection h with h
      omega
    · cases h
theorem hex_unD {c : UInt8} {n : Nat} (h : unD c = some n) : hexD n = c := by
  have hn := unD_lt h
  apply UInt8.toNat_inj.1
  rw [hexD_nat hn]
  unfold unD at h
  split at h
  · injection h with h
    split <;> omega
  · split at h
    · injection h with h
      split <;> omega
    · cases h
theorem unhexP_hex : ∀ l : Str, unhexP (l.flatMap hexB) = some l
  | [] => rfl
  | c :: r => by
    have hc : c.toNat < 256 := c.toNat_lt
    rw [List.flatMap_cons]
    show unhexP (hexD (c.toNat / 16) :: hexD (c.toNat % 16) :: r.flatMap hexB) = _
    rw [unhexP, unD_hex (by omega), unD_hex (by omega), unhexP_hex r]
    show some (_ :: r) = _
    rw [show 16 * (c.toNat / 16) + c.toNat % 16 = c.toNat by omega]
    simp
theorem unhexT_hex (l : Str) : unhexT (hexT l) = some l := by
  show (if (120 : UInt8) = 120 then unhexP (l.flatMap hexB) else none) = some l
  rw [if_pos rfl, unhexP_hex]
theorem hex_unhexP : ∀ (s l : Str), unhexP s = some l → l.flatMap hexB = s
  | [], l, h => by
    injection h with h
    subst h
    rfl
  | [_], l, h => by cases h
  | a :: b :: r, l, h => by
    rw [unhexP] at h
    split at h
    · rename_i x y hx hy
      cases hr : unhexP r with
      | none => rw [hr] at h; cases h
      | some t =>
        rw [hr] at h
        injection h with h
        subst h
        have h1 := unD_lt hx
        have h2 := unD_lt hy
        rw [List.flatMap_cons, hex_unhexP r t hr]
        unfold hexB
        rw [UInt8.toNat_ofNat', show (16 * x + y) % 2 ^ 8 = 16 * x + y by omega, show (16 * x + y) / 16 = x by omega, show (16 * x + y) % 16 = y by omega, hex_unD hx, hex_unD hy]
        rfl
    · cases h
theorem hex_unhexT {s l : Str} (h : unhexT s = some l) : hexT l = s := by
  cases s with
  | nil => cases h
  | cons c r =>
    change (if c = 120 then unhexP r else none) = some l at h
    by_cases hc : c = 120
    · rw [if_pos hc] at h
      rw [hexT, hex_unhexP r l h, hc]
    · rw [if_neg hc] at h
      cases h

/-! Numbers. -/
def dig (c : UInt8) : Bool := decide (48 ≤ c.toNat ∧ c.toNat ≤ 57)
/-- What digits say, behind what was said already. -/
def valD (acc : Nat) : Str → Nat
  | [] => acc
  | c :: r => valD (acc * 10 + (c.toNat - 48)) r
theorem valD_append (acc : Nat) (l r : Str) : valD acc (l ++ r) = valD (valD acc l) r := by
  induction l generalizing acc with
  | nil => rfl
  | cons c l ih => exact ih _
theorem valD_mono (acc : Nat) (l : Str) : acc ≤ valD acc l := by
  induction l generalizing acc with
  | nil => exact Nat.le_refl _
  | cons c l ih => exact Nat.le_trans (by omega) (ih _)
theorem dec_dig (u : Nat) : ∀ c ∈ Lib.decDigits u, dig c = true := by
  induction u using Nat.strongRecOn with
  | ind u ih =>
    rw [Lib.decDigits]
    have hd : ∀ n, n < 10 → dig (UInt8.ofNat (48 + n)) = true := fun n hn => by
      unfold dig
      rw [UInt8.toNat_ofNat']
      simp only [decide_eq_true_eq]
      omega
    split
    · intro c hc
      rw [List.mem_singleton] at hc
      subst hc
      exact hd _ (by omega)
    · intro c hc
      rcases List.mem_append.1 hc with h | h
      · exact ih (u / 10) (by omega) c h
      · rw [List.mem_singleton] at h
        subst h
        exact hd _ (by omega)
theorem dec_val (u : Nat) : valD 0 (Lib.decDigits u) = u := by
  induction u using Nat.strongRecOn with
  | ind u ih =>
    rw [Lib.decDigits]
    split
    · show 0 * 10 + ((UInt8.ofNat (48 + u)).toNat - 48) = u
      rw [UInt8.toNat_ofNat']
      omega
    · rw [valD_append, ih (u / 10) (by omega)]
      show u / 10 * 10 + ((UInt8.ofNat (48 + u % 10)).toNat - 48) = u
      rw [UInt8.toNat_ofNat']
      omega
theorem dec_ne (u : Nat) : Lib.decDigits u ≠ [] := by
  rw [Lib.decDigits]
  split <;> simp
theorem parse_val : ∀ (l : Str) (acc : Nat), (∀ c ∈ l, dig c = true) → valD acc l < 18446744073709551616 → Lib.parseUint10 acc l = .ok (valD acc l)
  | [], acc, _, _ => rfl
  | c :: r, acc, hd, hv => by
    have hc : 48 ≤ c.toNat ∧ c.toNat ≤ 57 := by simpa [dig] using hd c (by simp)
    have hm := valD_mono (acc * 10 + (c.toNat - 48)) r
    have hv' : valD (acc * 10 + (c.toNat - 48)) r < 18446744073709551616 := hv
    rw [Lib.parseUint10, if_pos hc, if_neg (by omega), if_neg (by omega)]
    exact parse_val r _ (fun x hx => hd x (by simp [hx])) hv'
theorem dec_cons (u : Nat) : ∃ c r, Lib.decDigits u = c :: r ∧ 48 ≤ c.toNat ∧ c.toNat ≤ 57 := by
  cases h : Lib.decDigits u with
  | nil => exact absurd h (dec_ne u)
  | cons c r =>
    have := dec_dig u c (by rw [h]; simp)
    exact ⟨c, r, rfl, by simpa [dig] using this⟩
theorem parseMag_dec {u : Nat} (h : u < 18446744073709551616) : Lib.parseMag (Lib.decDigits u) = .ok u := by
  unfold Lib.parseMag
  rw [if_neg (dec_ne u), parse_val _ _ (dec_dig u) (by rw [dec_val]; exact h), dec_val]
theorem atoi_itoa {n : Int} (h1 : -9223372036854775808 ≤ n) (h2 : n ≤ 9223372036854775807) : Lib.atoiAll (Lib.itoa n) = .ok n := by
  unfold Lib.itoa
  split
  · rw [Lib.atoiAll_minus, parseMag_dec (by omega)]
    simp only [Lib.signed]
    rw [if_neg (by omega)]
    congr 1
    omega
  · obtain ⟨c, r, hd, hc1, hc2⟩ := dec_cons n.toNat
    have hp := parseMag_dec (u := n.toNat) (by omega)
    rw [hd] at hp ⊢
    rw [Lib.atoiAll_plain c r (by omega) (by omega), hp]
    simp only [Lib.signless]
    rw [if_neg (by omega)]
    congr 1
    omega
/-- The number that a word says, written as it is. -/
def numT (s : Str) : Option Int := match Lib.atoiAll s with
  | .ok n => if Lib.itoa n = s then some n else none
  | _ => none
theorem numT_itoa {n : Int} (h1 : -9223372036854775808 ≤ n) (h2 : n ≤ 9223372036854775807) : numT (Lib.itoa n) = some n := by
  unfold numT
  rw [atoi_itoa h1 h2]
  exact if_pos rfl
theorem numT_some {s : Str} {n : Int} (h : numT s = some n) : Lib.itoa n = s ∧ -9223372036854775808 ≤ n ∧ n ≤ 9223372036854775807 := by
  unfold numT at h
  split at h
  · rename_i m hm
    split at h
    · rename_i hi
      injection h with h
      subst h
      exact ⟨hi, Lib.atoiAll_bounds hm⟩
    · cases h
  · cases h
/-- The signs of words. -/
def calm (c : UInt8) : Prop := c ≠ 32 ∧ c ≠ 10
theorem calm_hex (l : Str) : ∀ c ∈ hexT l, calm c := by
  have hd : ∀ n, n < 16 → calm (hexD n) := fun n hn => by
    have h := hexD_nat hn
    constructor <;>
    · intro e
      rw [e] at h
      split at h <;> simp at h <;> omega
  intro c hc
  unfold hexT at hc
  rcases List.mem_cons.1 hc with rfl | hc
  · exact ⟨by decide, by decide⟩
  · obtain ⟨x, _, hx⟩ := List.mem_flatMap.1 hc
    have hx2 : x.toNat < 256 := x.toNat_lt
    unfold hexB at hx
    rcases List.mem_cons.1 hx with rfl | hx
    · exact hd _ (by omega)
    · rw [List.mem_singleton] at hx
      subst hx
      exact hd _ (by omega)
theorem calm_itoa (n : Int) : ∀ c ∈ Lib.itoa n, calm c := by
  have hd : ∀ u, ∀ c ∈ Lib.decDigits u, calm c := fun u c hc => by
    have h : 48 ≤ c.toNat ∧ c.toNat ≤ 57 := by simpa [dig] using dec_dig u c hc
    constructor <;>
    · rintro rfl
      simp at h
  intro c hc
  unfold Lib.itoa at hc
  split at hc
  · rcases List.mem_cons.1 hc with rfl | hc
    · exact ⟨by decide, by decide⟩
    · exact hd _ c hc
  · exact hd _ c hc
end Go.Proofs.YtkkmojbaoflafaaDoor
