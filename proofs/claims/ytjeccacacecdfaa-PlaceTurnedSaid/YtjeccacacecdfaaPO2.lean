/- A byte that came in, as a number. No condition beyond those that the theorem states. -/
import Derived.Test.YtjeccacacecdfaaPO
namespace Go.Proofs.Ytjeccacacecdfaa
open Go.RowKit Go.Shelf

theorem u8_nat {k : Int} (h : (Lit.int .u8 k).wf = true) : ∃ x : Nat, k = (x : Int) ∧ x ≤ 255 := by
  have h2 : 0 ≤ k ∧ k ≤ 255 := by simpa [Lit.wf, IntKind.min, IntKind.max, IntKind.signed, IntKind.bits] using h
  exact ⟨k.toNat, by omega, by omega⟩
end Go.Proofs.Ytjeccacacecdfaa
