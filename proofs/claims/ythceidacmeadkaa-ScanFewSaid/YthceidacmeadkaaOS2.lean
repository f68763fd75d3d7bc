/- How a list of small numbers that comes in is read. No condition beyond those that each theorem states. -/
import Derived.Test.YthceidacmeadkaaOS1
import Derived.ChangeSlices
namespace Go.Proofs.Ythceidacmeadkaa
open Go.ChangeShapes Go.WideShapes Go.ChangeAt Go.RowKit Go.Deep

theorem u16Cells : Try.prog.cellsOf 45 = 1 := by kernel_rfl
section
variable {H : Type} {enc : TypeId × Value → H} {w : World} {base : Nat} {spare : Nat → Bool} {held : Bool}
set_option maxRecDepth 100000 in
theorem open_u16s {r : Reach} {b0 : Nat} {v : Value} {d : DataW H} {p : List MemPlace} (hv : Value.okWide Try.prog w r b0 46 v) (h : DataW.Trod enc Try.prog w base spare held 46 v d p) :
    ∃ (A : Option Addr) (n c : Nat) (ls : List Nat), v = .slice A n c ∧ n ≤ c ∧ c ≤ maxLen ∧ ls.length = n ∧ (n = 0 ∨ ∃ b off, A = some ⟨b, off, none⟩ ∧ b < w.heap.size ∧ ∀ (i x : Nat), ls[i]? = some x → w.cell? ⟨b, off + i, none⟩ = some (.int .u16 (x : Int))) := by
  obtain ⟨A, n, c, rfl⟩ := okWide_slice Try.underlying46 hv
  obtain ⟨fuel, hf⟩ := h
  rcases open_ints Try.underlying46 Try.underlying45 u16Cells hf with ⟨hcs, _⟩ | ⟨a, n, c, zs, hcs, _, hl, hm, hz, _, hcell, hwf⟩
  · have hcs : [Value.slice A n c] = [Value.slice none 0 0] := hcs
    injection hcs with hcs
    injection hcs with h1 h2 h3
    subst h1 h2 h3
    exact ⟨_, 0, 0, [], rfl, Nat.le_refl _, by simp [maxLen], rfl, .inl rfl⟩
  · have hcs : [Value.slice A _ _] = [Value.slice (some a) n c] := hcs
    injection hcs with hcs
    injection hcs with h1 h2 h3
    subst h1 h2 h3
    have hnz : n ≤ zs.length := by rw [hz]; split <;> omega
    rcases Nat.eq_zero_or_pos n with h0 | h0
    · subst h0
      exact ⟨_, 0, c, [], rfl, hl, hm, rfl, .inl rfl⟩
    · have h1 := hcell 0 (by omega)
      have hlt := World.block_lt_of_cell? _ _ h1
      have ea := addr_of_cell h1
      obtain ⟨b, o, sp⟩ := a
      injection ea with _ _ ea
      subst ea
      rw [add_plain] at hlt
      refine ⟨_, n, c, (zs.take n).map Int.toNat, rfl, hl, hm, by simp; omega, .inr ⟨b, o, rfl, hlt, fun i u hu => ?_⟩⟩
      have hi : i < n := by
        have := (List.getElem?_eq_some_iff.1 hu).1
        simp at this
        omega
      have hil : i < zs.length := by omega
      have hc := hcell i (by omega)
      rw [add_plain] at hc
      have hz' : zs.getD i 0 = zs[i]'hil := by simp [List.getD_eq_getElem?_getD, hil]
      have hw := hwf (zs[i]'hil) (List.getElem_mem hil)
      simp [Lit.wf, IntKind.min, IntKind.max, IntKind.signed, IntKind.bits] at hw
      have hu' : (zs[i]'hil).toNat = u := by
        rw [List.getElem?_map, List.getElem?_take, if_pos hi, List.getElem?_eq_getElem hil] at hu
        exact Option.some.inj hu
      rw [hc, hz', ← hu']
      congr 2
      omega
end
end Go.Proofs.Ythceidacmeadkaa
