/- How bytes that come in are read. No condition beyond those that each theorem states. -/
import Derived.Test.YtmkccblcmiflfaaK4
namespace Go.Proofs.Ytmkccblcmiflfaa
open Go.ChangeShapes Go.WideShapes Go.ChangeAt Go.RowKit Go.Deep

theorem own : ownKnob Try.prog.godebug = none := by kernel_rfl
theorem laidOut : laidOutB Try.prog = true := by kernel_rfl
theorem byteCells : Try.prog.cellsOf 5 = 1 := by kernel_rfl

section
variable {H : Type} {enc : TypeId × Value → H} {w : World} {base : Nat} {spare : Nat → Bool} {held : Bool}
/-- Bytes that come in. -/
theorem open_bytes_cells {m : Nat} {v : Value} {y : DataW H × List MemPlace} (h : DataW.trod enc Try.prog w base spare held m 23 [v] = some y) :
    ∃ (A : Option Addr) (n c : Nat) (l : List UInt8), v = .slice A n c ∧ n ≤ c ∧ c ≤ maxLen ∧ BytesIn w A n l ∧ (n = 0 ∨ ∃ b off, A = some ⟨b, off, none⟩) ∧ (A = none → n = 0 ∧ c = 0) := by
  rcases open_ints Try.underlying23 Try.underlying5 byteCells h with ⟨hcs, _⟩ | ⟨a, n, c, zs, hcs, _, hl, hm, hz, _, hcell, hwf⟩
  · injection hcs with hcs
    subst hcs
    exact ⟨_, 0, 0, [], rfl, Nat.le_refl _, by simp [maxLen], BytesIn.empty _ _, .inl rfl, fun _ => ⟨rfl, rfl⟩⟩
  · injection hcs with hcs
    subst hcs
    have hnz : n ≤ zs.length := by rw [hz]; split <;> omega
    rcases Nat.eq_zero_or_pos n with h0 | h0
    · subst h0
      exact ⟨_, 0, c, [], rfl, hl, hm, BytesIn.empty _ _, .inl rfl, fun h => by cases h⟩
    · have h1 := hcell 0 (by omega)
      have hlt := World.block_lt_of_cell? _ _ h1
      have ea := addr_of_cell h1
      obtain ⟨b, o, sp⟩ := a
      injection ea with _ _ ea
      subst ea
      rw [add_plain] at hlt
      refine ⟨_, n, c, (zs.take n).map fun z => UInt8.ofNat z.toNat, rfl, hl, hm, ⟨by simp; omega, .inr ⟨b, o, rfl, hlt, fun i u hu => ?_⟩⟩, .inr ⟨b, o, rfl⟩, fun h => by cases h⟩
      have hi : i < n := by
        have := (List.getElem?_eq_some_iff.1 hu).1
        simp at this
        omega
      have hc := hcell i (by omega)
      rw [add_plain] at hc
      have hz' : zs.getD i 0 = zs[i]'(by omega) := by simp [List.getD_eq_getElem?_getD, show i < zs.length by omega]
      have hr : 0 ≤ zs[i]'(by omega) ∧ zs[i]'(by omega) ≤ 255 := by
        have hw := hwf _ (List.getElem_mem (l := zs) (n := i) (by omega))
        simpa [Lit.wf, IntKind.min, IntKind.max, IntKind.signed, IntKind.bits] using hw
      have hu' : UInt8.ofNat (zs[i]'(by omega)).toNat = u := by
        simp [hi, show i < zs.length by omega] at hu
        exact hu
      rw [hc, hz', ← hu']
      have e : ((UInt8.ofNat (zs[i]'(by omega)).toNat).toNat : Int) = zs[i]'(by omega) := by
        rw [UInt8.toNat_ofNat']
        omega
      rw [e]
set_option maxRecDepth 100000 in
theorem open_bytes {r : Reach} {b0 : Nat} {v : Value} {d : DataW H} {p : List MemPlace} (hv : Value.okWide Try.prog w r b0 23 v) (h : DataW.Trod enc Try.prog w base spare held 23 v d p) :
    ∃ (A : Option Addr) (n c : Nat) (l : List UInt8), v = .slice A n c ∧ n ≤ c ∧ c ≤ maxLen ∧ BytesIn w A n l ∧ (n = 0 ∨ ∃ b off, A = some ⟨b, off, none⟩) ∧ (A = none → n = 0 ∧ c = 0) := by
  obtain ⟨A, n, c, rfl⟩ := okWide_slice Try.underlying23 hv
  obtain ⟨fuel, hf⟩ := h
  exact open_bytes_cells hf
end
end Go.Proofs.Ytmkccblcmiflfaa
