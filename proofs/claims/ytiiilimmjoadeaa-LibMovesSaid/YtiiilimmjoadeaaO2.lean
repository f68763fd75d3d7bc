/- How rows of bytes that come in are read. No condition beyond those that each theorem states. -/
import Derived.Test.YtiiilimmjoadeaaO
namespace Go.Proofs.Ytiiilimmjoadeaa
open Go.ChangeShapes Go.WideShapes Go.ChangeAt Go.RowKit Go.Deep

theorem byteRowCells : Try.prog.cellsOf 22 = 1 := by kernel_rfl

/-- One row of bytes in the cell of a slice of such rows. -/
def RowIn (w : World) (a : Addr) (x : Option Addr × Nat × Nat × List UInt8) : Prop :=
  w.cell? a = some (.slice x.1 x.2.1 x.2.2.1) ∧ x.2.1 ≤ x.2.2.1 ∧ x.2.2.1 ≤ maxLen ∧ BytesIn w x.1 x.2.1 x.2.2.2 ∧ (x.2.1 = 0 ∨ ∃ b off, x.1 = some ⟨b, off, none⟩) ∧ (x.1 = none → x.2.1 = 0 ∧ x.2.2.1 = 0)

section
variable {H : Type} {enc : TypeId × Value → H} {w : World} {base : Nat} {spare : Nat → Bool} {held : Bool}
set_option maxRecDepth 100000 in
theorem open_byte_rows {r : Reach} {b0 : Nat} {v : Value} {d : DataW H} {p : List MemPlace} (hv : Value.okWide Try.prog w r b0 34 v) (h : DataW.Trod enc Try.prog w base spare held 34 v d p) :
    ∃ (A : Option Addr) (n c : Nat), v = .slice A n c ∧ n ≤ c ∧ c ≤ maxLen ∧ (n = 0 ∨ ∃ b off, A = some ⟨b, off, none⟩ ∧ b < w.heap.size ∧ ∃ F : Nat → Option Addr × Nat × Nat × List UInt8, ∀ i, i < n → RowIn w ⟨b, off + i, none⟩ (F i)) := by
  obtain ⟨A, n, c, rfl⟩ := okWide_slice Try.underlying34 hv
  obtain ⟨fuel, hf⟩ := h
  rcases open_slice Try.underlying34 hf with ⟨hcs, _⟩ | ⟨a, len, cap, m, q, D, Pl, hcs, _, hl, hm, hmm, _, hi⟩
  · simp [Value.cells] at hcs
    obtain ⟨rfl, rfl, rfl⟩ := hcs
    exact ⟨_, _, _, rfl, Nat.le_refl _, by simp [maxLen], .inl rfl⟩
  · simp [Value.cells] at hcs
    obtain ⟨rfl, rfl, rfl⟩ := hcs
    refine ⟨_, _, _, rfl, hl, hm, ?_⟩
    rcases Nat.eq_zero_or_pos n with h0 | h0
    · exact .inl h0
    right
    have hnm : n ≤ m := by rw [hmm]; split <;> omega
    have key : ∀ i, i < n → ∃ x, RowIn w (a.add i) x := by
      intro i hin
      obtain ⟨cs', hc, ht'⟩ := hi i (by omega)
      rw [byteRowCells] at hc
      obtain ⟨_, hcl, hat⟩ := World.cells?_some hc
      match cs', hcl with
      | [u], _ =>
        obtain ⟨A', n', c', l', rfl, h1, h2, h3, h4, h5⟩ := open_bytes_cells ht'
        have hcell := hat 0 (by omega)
        rw [add_add, Nat.mul_one, Nat.add_zero] at hcell
        exact ⟨(A', n', c', l'), hcell, h1, h2, h3, h4, h5⟩
    obtain ⟨x0, hx0⟩ := key 0 h0
    have hlt := World.block_lt_of_cell? _ _ hx0.1
    have ea := addr_of_cell hx0.1
    obtain ⟨b, o, sp⟩ := a
    injection ea with _ _ ea
    subst ea
    rw [add_plain] at hlt
    refine ⟨b, o, rfl, hlt, fun i => if h : i < n then Classical.choose (key i h) else x0, fun i hin => ?_⟩
    rw [← add_plain]
    simp only [dif_pos hin]
    exact Classical.choose_spec (key i hin)
end
end Go.Proofs.Ytiiilimmjoadeaa
