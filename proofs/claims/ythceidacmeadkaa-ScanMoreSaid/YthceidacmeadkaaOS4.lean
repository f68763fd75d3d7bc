/- How a record that comes in is read. No condition beyond those that the theorem states. -/
import Derived.Test.YthceidacmeadkaaOS3
namespace Go.Proofs.Ythceidacmeadkaa
open Go.ChangeShapes Go.WideShapes Go.ChangeAt Go.RowKit Go.Deep

theorem recCells10 : Try.prog.cellsOf 37 = 10 := by kernel_rfl
section
variable {H : Type} {enc : TypeId × Value → H} {w : World} {base : Nat} {spare : Nat → Bool} {held : Bool}
set_option maxRecDepth 100000 in
theorem open_rec {r : Reach} {b0 : Nat} {v : Value} {d : DataW H} {p : List MemPlace} (hv : Value.okWide Try.prog w r b0 37 v) (h : DataW.Trod enc Try.prog w base spare held 37 v d p) :
    ∃ (x : RecV) (A : Option Addr) (c : Nat), v = recV x A c := by
  obtain ⟨cs, rfl, hsz⟩ := okWide_struct Try.underlying37 hv
  rw [recCells10] at hsz
  obtain ⟨fuel, hf⟩ := h
  obtain ⟨x, A, c, hx⟩ := rec_open (cs := cs.toList) (by simpa using hsz) hf
  refine ⟨x, A, c, ?_⟩
  unfold recV
  congr 1
  exact Array.toList_inj.1 hx
end
end Go.Proofs.Ythceidacmeadkaa
