/- How lists of numbers and of cartridges that come in are read. No condition beyond those that each theorem states. -/
import Derived.Test.YtjeccacacecdfaaPL3
namespace Go.Proofs.Ytjeccacacecdfaa
open Go.ChangeShapes Go.WideShapes Go.ChangeAt Go.RowKit Go.Deep

theorem own : ownKnob Try.prog.godebug = none := by kernel_rfl
theorem laidOut : laidOutB Try.prog = true := by kernel_rfl
theorem intCells : Try.prog.cellsOf 3 = 1 := by kernel_rfl
theorem freeCells : Try.prog.cellsOf 32 = 2 := by kernel_rfl

section
variable {H : Type} {enc : TypeId × Value → H} {w : World} {base : Nat} {spare : Nat → Bool} {held : Bool}
set_option maxRecDepth 100000 in
theorem open_nums {r : Reach} {b0 : Nat} {v : Value} {d : DataW H} {p : List MemPlace} (hv : Value.okWide Try.prog w r b0 23 v) (h : DataW.Trod enc Try.prog w base spare held 23 v d p) :
    ∃ (A : Option Addr) (n c : Nat) (l : List Int), v = .slice A n c ∧ n ≤ c ∧ c ≤ maxLen ∧ IntsIn w A n l ∧ ∀ x ∈ l, wfI x := by
  obtain ⟨A, n, c, rfl⟩ := okWide_slice Try.underlying23 hv
  obtain ⟨fuel, hf⟩ := h
  rcases open_ints Try.underlying23 Try.underlying3 intCells hf with ⟨hcs, _⟩ | ⟨a, n, c, zs, hcs, _, hl, hm, hz, _, hcell, hwf⟩
  · have hcs : [Value.slice A n c] = [Value.slice none 0 0] := hcs
    injection hcs with hcs
    injection hcs with h1 h2 h3
    subst h1 h2 h3
    exact ⟨_, 0, 0, [], rfl, Nat.le_refl _, by simp [maxLen], ⟨rfl, .inl rfl⟩, by simp⟩
  · have hcs : [Value.slice A _ _] = [Value.slice (some a) n c] := hcs
    injection hcs with hcs
    injection hcs with h1 h2 h3
    subst h1 h2 h3
    have hnz : n ≤ zs.length := by rw [hz]; split <;> omega
    rcases Nat.eq_zero_or_pos n with h0 | h0
    · subst h0
      exact ⟨_, 0, c, [], rfl, hl, hm, ⟨rfl, .inl rfl⟩, by simp⟩
    · have h1 := hcell 0 (by omega)
      have hlt := World.block_lt_of_cell? _ _ h1
      have ea := addr_of_cell h1
      obtain ⟨b, o, sp⟩ := a
      injection ea with _ _ ea
      subst ea
      rw [add_plain] at hlt
      refine ⟨_, n, c, zs.take n, rfl, hl, hm, ⟨by simp; omega, .inr ⟨b, o, rfl, hlt, fun i u hu => ?_⟩⟩, fun x hx => hwf x (List.mem_of_mem_take hx)⟩
      have hi : i < n := by
        have := (List.getElem?_eq_some_iff.1 hu).1
        simp at this
        omega
      have hc := hcell i (by omega)
      rw [add_plain] at hc
      have hz' : zs.getD i 0 = zs[i]'(by omega) := by simp [List.getD_eq_getElem?_getD, show i < zs.length by omega]
      have hu' : zs[i]'(by omega) = u := by
        simp [hi, show i < zs.length by omega] at hu
        exact hu
      rw [hc, hz', hu']
set_option maxRecDepth 100000 in
theorem open_frees {r : Reach} {b0 : Nat} {v : Value} {d : DataW H} {p : List MemPlace} (hv : Value.okWide Try.prog w r b0 22 v) (h : DataW.Trod enc Try.prog w base spare held 22 v d p) :
    ∃ (A : Option Addr) (n c : Nat) (fs : List (Int × Int)), v = .slice A n c ∧ n ≤ c ∧ c ≤ maxLen ∧ FreesIn w A n fs := by
  obtain ⟨A, n, c, rfl, hnc, hc, hr⟩ := open_rows Try.underlying22 Try.underlying32 (by kernel_rfl) freeCells (by simp) hv h
  rcases hr with rfl | ⟨b, off, rfl, hb, hx⟩
  · exact ⟨A, 0, c, [], rfl, hnc, hc, rfl, .inl rfl, by simp⟩
  · have key : ∀ i, i < n → ∃ q : Int × Int, (w.cell? ⟨b, off + i * 2, none⟩ = some (.int .i64 q.1) ∧ w.cell? ⟨b, off + i * 2 + 1, none⟩ = some (.int .i64 q.2)) ∧ wfI q.1 ∧ wfI q.2 := by
      intro i hi
      obtain ⟨u0, y0, m0, c0, t0⟩ := hx i 0 _ hi rfl
      obtain ⟨u1, y1, m1, c1, t1⟩ := hx i 1 _ hi rfl
      obtain ⟨x, hx0, _, hw0⟩ := DataW.trod_int Try.underlying3 t0
      obtain ⟨z, hx1, _, hw1⟩ := DataW.trod_int Try.underlying3 t1
      injection hx0 with hx0
      injection hx1 with hx1
      subst hx0
      subst hx1
      simp only [Nat.add_zero, ← Nat.add_assoc] at c0 c1
      exact ⟨(x, z), ⟨c0, c1⟩, hw0, hw1⟩
    have hget : ∀ i (q : Int × Int), ((List.range n).map fun i => if h : i < n then Classical.choose (key i h) else (0, 0))[i]? = some q → ∃ h : i < n, q = Classical.choose (key i h) := by
      intro i q hq
      have hi : i < n := by
        have := (List.getElem?_eq_some_iff.1 hq).1
        simpa using this
      refine ⟨hi, ?_⟩
      rw [List.getElem?_map, List.getElem?_range hi] at hq
      simp only [Option.map_some, dif_pos hi, Option.some.injEq] at hq
      exact hq.symm
    refine ⟨_, n, c, (List.range n).map fun i => if h : i < n then Classical.choose (key i h) else (0, 0), rfl, hnc, hc, by simp, .inr ⟨b, off, rfl, hb, fun i c r hi => ?_⟩, fun q hq => ?_⟩
    · obtain ⟨h1, h2⟩ := hget i _ hi
      have := (Classical.choose_spec (key i h1)).1
      rw [← h2] at this
      exact this
    · obtain ⟨i, hi⟩ := List.mem_iff_getElem?.1 hq
      obtain ⟨h1, rfl⟩ := hget i _ hi
      exact (Classical.choose_spec (key i h1)).2
end
end Go.Proofs.Ytjeccacacecdfaa
