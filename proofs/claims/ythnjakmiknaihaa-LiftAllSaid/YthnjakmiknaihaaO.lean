/- How the arguments of the laws of this seat are read. No condition beyond those that each theorem states. -/
import Derived.Test.YthnjakmiknaihaaL1
import Derived.Test.YthnjakmiknaihaaK
namespace Go.Proofs.Ythnjakmiknaihaa
open Go.ChangeShapes Go.WideShapes Go.ChangeAt Go.RowKit Go.Deep

theorem own : ownKnob Try.prog.godebug = none := by kernel_rfl
theorem laidOut : laidOutB Try.prog = true := by kernel_rfl
theorem askCells : Try.prog.cellsOf 32 = 6 := by kernel_rfl
theorem headCells : Try.prog.cellsOf 35 = 2 := by kernel_rfl

section
variable {H : Type} {enc : TypeId × Value → H} {w : World} {base : Nat} {spare : Nat → Bool} {held : Bool}

/-- A list of requests that comes in. -/
theorem open_asks {r : Reach} {b0 : Nat} {v : Value} {d : DataW H} {p : List MemPlace} (hv : Value.okWide Try.prog w r b0 22 v) (h : DataW.Trod enc Try.prog w base spare held 22 v d p) :
    ∃ (A : Option Addr) (n c : Nat) (f : Nat → Ask), v = .slice A n c ∧ n ≤ c ∧ c ≤ 9223372036854775807 ∧ (InArg w A n fun b off => AsksAt w b off n f) ∧ ∀ i, i < n → I64 (f i).born := by
  obtain ⟨A, n, c, rfl, hnc, hc, hr⟩ := open_rows Try.underlying22 Try.underlying32 (by kernel_rfl) askCells (by simp) hv h
  have hc' : c ≤ 9223372036854775807 := by simpa [maxLen] using hc
  rcases hr with rfl | ⟨b, off, rfl, hb, hx⟩
  · exact ⟨A, 0, c, fun _ => ⟨0, 0, 0, 0, 0, 0⟩, rfl, hnc, hc', .inl rfl, fun i hi => absurd hi (by omega)⟩
  · have h0 := fun i hi => cell_i64 (k := 6) rfl hx (j := 0) rfl Try.underlying3 i hi
    have h1 := fun i hi => cell_i64 (k := 6) rfl hx (j := 1) rfl Try.underlying3 i hi
    have h2 := fun i hi => cell_i64 (k := 6) rfl hx (j := 2) rfl Try.underlying3 i hi
    have h3 := fun i hi => cell_i64 (k := 6) rfl hx (j := 3) rfl Try.underlying3 i hi
    have h4 := fun i hi => cell_i64 (k := 6) rfl hx (j := 4) rfl Try.underlying3 i hi
    have h5 := fun i hi => cell_i64 (k := 6) rfl hx (j := 5) rfl Try.underlying3 i hi
    refine ⟨_, n, c, fun i => ⟨cellInt w b (off + i * 6), cellInt w b (off + i * 6 + 1), cellInt w b (off + i * 6 + 2), cellInt w b (off + i * 6 + 3), cellInt w b (off + i * 6 + 4), cellInt w b (off + i * 6 + 5)⟩, rfl, hnc, hc', .inr ⟨b, off, rfl, hb, ?_⟩, fun i hi => (h5 i hi).2⟩
    exact ⟨fun i hi => (h0 i hi).1, fun i hi => (h1 i hi).1, fun i hi => (h2 i hi).1, fun i hi => (h3 i hi).1, fun i hi => (h4 i hi).1, fun i hi => (h5 i hi).1⟩

/-- A list of heads that comes in. -/
theorem open_heads {r : Reach} {b0 : Nat} {v : Value} {d : DataW H} {p : List MemPlace} (hv : Value.okWide Try.prog w r b0 23 v) (h : DataW.Trod enc Try.prog w base spare held 23 v d p) :
    ∃ (A : Option Addr) (n c : Nat) (f : Nat → Hd), v = .slice A n c ∧ n ≤ c ∧ c ≤ 9223372036854775807 ∧ (InArg w A n fun b off => HeadsAt w b off n f) := by
  obtain ⟨A, n, c, rfl, hnc, hc, hr⟩ := open_rows Try.underlying23 Try.underlying35 (by kernel_rfl) headCells (by simp) hv h
  have hc' : c ≤ 9223372036854775807 := by simpa [maxLen] using hc
  rcases hr with rfl | ⟨b, off, rfl, hb, hx⟩
  · exact ⟨A, 0, c, fun _ => ⟨0, 0⟩, rfl, hnc, hc', .inl rfl⟩
  · have h0 := fun i hi => cell_i64 (k := 2) rfl hx (j := 0) rfl Try.underlying3 i hi
    have h1 := fun i hi => cell_i64 (k := 2) rfl hx (j := 1) rfl Try.underlying3 i hi
    exact ⟨_, n, c, fun i => ⟨cellInt w b (off + i * 2), cellInt w b (off + i * 2 + 1)⟩, rfl, hnc, hc', .inr ⟨b, off, rfl, hb, fun i hi => (h0 i hi).1, fun i hi => (h1 i hi).1⟩⟩
end

end Go.Proofs.Ythnjakmiknaihaa
