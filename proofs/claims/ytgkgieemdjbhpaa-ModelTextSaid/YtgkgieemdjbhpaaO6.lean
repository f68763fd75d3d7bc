/- How a list of puts and deletes that comes in is read. No condition beyond those that each theorem states. -/
import Derived.Test.YtgkgieemdjbhpaaMC1
import Derived.Test.YtgkgieemdjbhpaaO
namespace Go.Proofs.Ytgkgieemdjbhpaa
open Go.ChangeShapes Go.WideShapes Go.ChangeAt Go.RowKit Go.Deep

theorem act22Cells : Try.prog.cellsOf 31 = 3 := by kernel_rfl
section
variable {H : Type} {enc : TypeId × Value → H} {w : World} {base : Nat} {spare : Nat → Bool} {held : Bool}
set_option maxRecDepth 100000 in
theorem open_acts22 {r : Reach} {b0 : Nat} {v : Value} {d : DataW H} {p : List MemPlace} (hv : Value.okWide Try.prog w r b0 22 v) (h : DataW.Trod enc Try.prog w base spare held 22 v d p) :
    ∃ (A : Option Addr) (n c : Nat) (f : Nat → ActV), v = .slice A n c ∧ n ≤ c ∧ c ≤ maxLen ∧ ActsIn w A n f := by
  obtain ⟨A, n, c, rfl, hnc, hc, hr⟩ := open_rows Try.underlying22 Try.underlying31 (by kernel_rfl) act22Cells (by simp) hv h
  rcases hr with rfl | ⟨b, off, rfl, hb, hx⟩
  · exact ⟨A, 0, c, fun _ => ⟨false, [], none, 0, 0, []⟩, rfl, hnc, hc, .inl rfl⟩
  · have key : ∀ i, i < n → ∃ v : ActV, ActIn w b (off + i * 3) v := by
      intro i hi
      obtain ⟨u0, y0, m0, c0, t0⟩ := hx i 0 _ hi rfl
      obtain ⟨u1, y1, m1, c1, t1⟩ := hx i 1 _ hi rfl
      obtain ⟨u2, y2, m2, c2, t2⟩ := hx i 2 _ hi rfl
      obtain ⟨g, hx0, _⟩ := DataW.trod_bool Try.underlying4 t0
      obtain ⟨s, hx1, _, hs⟩ := DataW.trod_string Try.underlying9 t1
      obtain ⟨B, m, d, l, rfl, hmd, hdm, hbs, _, hA0⟩ := open_bytes_cells t2
      injection hx0 with hx0
      injection hx1 with hx1
      subst hx0
      subst hx1
      simp only [Nat.add_zero, ← Nat.add_assoc] at c0 c1 c2
      exact ⟨⟨g, s.data.toList, B, m, d, l⟩, c0, c1.trans (by simp [encStr]), c2, (by show s.data.toList.length ≤ maxLen; rw [Array.length_toList]; exact hs), ⟨hmd, hdm, hA0⟩, hbs⟩
    refine ⟨_, n, c, fun i => if h : i < n then Classical.choose (key i h) else ⟨false, [], none, 0, 0, []⟩, rfl, hnc, hc, .inr ⟨b, off, rfl, hb, fun i hi => ?_⟩⟩
    simp only [dif_pos hi]
    exact Classical.choose_spec (key i hi)
end
end Go.Proofs.Ytgkgieemdjbhpaa
