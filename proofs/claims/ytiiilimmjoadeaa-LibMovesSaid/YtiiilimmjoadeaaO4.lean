/- How a list of a library's acts that comes in is read. No condition beyond those that each theorem states. -/
import Derived.Test.YtiiilimmjoadeaaT4
import Derived.Test.YtiiilimmjoadeaaO
namespace Go.Proofs.Ytiiilimmjoadeaa
open Go.ChangeShapes Go.WideShapes Go.ChangeAt Go.RowKit Go.Deep

theorem act08Cells : Try.prog.cellsOf 69 = 4 := by kernel_rfl

section
variable {H : Type} {enc : TypeId × Value → H} {w : World} {base : Nat} {spare : Nat → Bool} {held : Bool}
theorem u8_of_wf {n : Int} (h : (Lit.int .u8 n).wf = true) : 0 ≤ n ∧ n ≤ 255 := by
  simpa [Lit.wf, IntKind.min, IntKind.max, IntKind.signed, IntKind.bits] using h
set_option maxRecDepth 100000 in
theorem open_acts08 {r : Reach} {b0 : Nat} {v : Value} {d : DataW H} {p : List MemPlace} (hv : Value.okWide Try.prog w r b0 64 v) (h : DataW.Trod enc Try.prog w base spare held 64 v d p) :
    ∃ (A : Option Addr) (n c : Nat) (f : Nat → Act8V), v = .slice A n c ∧ n ≤ c ∧ c ≤ maxLen ∧ Acts8In w A n f := by
  obtain ⟨A, n, c, rfl, hnc, hc, hr⟩ := open_rows Try.underlying64 Try.underlying69 (by kernel_rfl) act08Cells (by simp) hv h
  rcases hr with rfl | ⟨b, off, rfl, hb, hx⟩
  · exact ⟨A, 0, c, fun _ => ⟨0, 0, 0, none, 0, 0, []⟩, rfl, hnc, hc, .inl rfl⟩
  · have key : ∀ i, i < n → ∃ v : Act8V, Act8In w b (off + i * 4) v := by
      intro i hi
      obtain ⟨u0, y0, m0, c0, t0⟩ := hx i 0 _ hi rfl
      obtain ⟨u1, y1, m1, c1, t1⟩ := hx i 1 _ hi rfl
      obtain ⟨u2, y2, m2, c2, t2⟩ := hx i 2 _ hi rfl
      obtain ⟨u3, y3, m3, c3, t3⟩ := hx i 3 _ hi rfl
      obtain ⟨x, hx0, _, hw⟩ := DataW.trod_int Try.underlying5 t0
      obtain ⟨z, hx1, _, _⟩ := DataW.trod_int Try.underlying3 t1
      obtain ⟨q, hx2, _, _⟩ := DataW.trod_int Try.underlying3 t2
      obtain ⟨B, m, d, l, rfl, hmd, hdm, hbs, _⟩ := open_bytes_cells t3
      injection hx0 with hx0
      injection hx1 with hx1
      injection hx2 with hx2
      subst hx0
      subst hx1
      subst hx2
      have hr := u8_of_wf hw
      obtain ⟨k, rfl⟩ := Int.eq_ofNat_of_zero_le hr.1
      simp only [Nat.add_zero, ← Nat.add_assoc] at c0 c1 c2 c3
      exact ⟨⟨k, z, q, B, m, d, l⟩, c0, c1, c2, c3, by simp only; omega, hmd, hdm, hbs⟩
    refine ⟨_, n, c, fun i => if h : i < n then Classical.choose (key i h) else ⟨0, 0, 0, none, 0, 0, []⟩, rfl, hnc, hc, .inr ⟨b, off, rfl, hb, fun i hi => ?_⟩⟩
    simp only [dif_pos hi]
    exact Classical.choose_spec (key i hi)
end
end Go.Proofs.Ytiiilimmjoadeaa
