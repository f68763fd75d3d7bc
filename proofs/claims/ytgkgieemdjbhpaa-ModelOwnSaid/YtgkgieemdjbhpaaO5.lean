/- The length of bytes that come in. No condition beyond those that the theorem states. -/
import Derived.Test.YtgkgieemdjbhpaaO
namespace Go.Proofs.Ytgkgieemdjbhpaa
open Go.RowKit
section
open Go.ChangeShapes Go.WideShapes Go.ChangeAt Go.Deep
variable {H : Type} {enc : TypeId × Value → H} {w : World} {base : Nat} {spare : Nat → Bool} {held : Bool}
/-- The datum of bytes that come in has at least their number of elements. -/
theorem open_bytes_len {A : Option Addr} {n c : Nat} {d : DataW H} {p : List MemPlace} (h : DataW.Trod enc Try.prog w base spare held 29 (.slice A n c) d p) : n = 0 ∨ ∃ es sp, d = .slice es sp ∧ es.length = n := by
  obtain ⟨fuel, hf⟩ := h
  rcases open_ints Try.underlying29 Try.underlying5 byteCells hf with ⟨hcs, _⟩ | ⟨a, n', c', zs, hcs, _, hl, hm, hz, hx, hcell, hwf⟩
  · injection hcs with hcs
    injection hcs with _ hn _
    exact .inl hn
  · injection hcs with hcs
    injection hcs with _ hn _
    subst hn
    injection hx with hd _
    have hnz : n ≤ zs.length := by rw [hz]; split <;> omega
    exact .inr ⟨_, _, hd, by simp [lits]; omega⟩
end
end Go.Proofs.Ytgkgieemdjbhpaa
