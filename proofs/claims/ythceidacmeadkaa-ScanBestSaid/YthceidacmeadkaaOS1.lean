/- How small numbers that come in are read. No condition beyond those that each theorem states. -/
import Derived.Test.YthceidacmeadkaaK4
namespace Go.Proofs.Ythceidacmeadkaa

theorem own : ownKnob Try.prog.godebug = none := by kernel_rfl
theorem u8_nat {k : Int} (h : (Lit.int .u8 k).wf = true) : ∃ x : Nat, k = (x : Int) ∧ x < 256 := by
  simp [Lit.wf, IntKind.min, IntKind.max, IntKind.signed, IntKind.bits] at h
  exact ⟨k.toNat, by omega, by omega⟩
theorem u16_nat {k : Int} (h : (Lit.int .u16 k).wf = true) : ∃ x : Nat, k = (x : Int) ∧ x < 65536 := by
  simp [Lit.wf, IntKind.min, IntKind.max, IntKind.signed, IntKind.bits] at h
  exact ⟨k.toNat, by omega, by omega⟩
end Go.Proofs.Ythceidacmeadkaa
