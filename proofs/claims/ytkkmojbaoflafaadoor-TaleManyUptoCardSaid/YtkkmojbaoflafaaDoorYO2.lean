/- How a list of steps that comes in is read. No condition beyond those that each theorem states. -/
import Derived.Test.YtkkmojbaoflafaaDoorYO
import Derived.Test.YtkkmojbaoflafaaDoorY32
namespace Go.Proofs.YtkkmojbaoflafaaDoor
open Go.ChangeShapes Go.WideShapes Go.ChangeAt Go.RowKit Go.Deep

section
variable {H : Type} {enc : TypeId × Value → H} {w : World} {base : Nat} {spare : Nat → Bool} {held : Bool}
theorem bulk_mem {l : List (DataW H)} {d : DataW H} (h : d ∈ l) : Rows.uptoBulk d ≤ Rows.uptoBulkAll l := by
  induction l with
  | nil => cases h
  | cons x r ih =>
    simp only [Rows.uptoBulkAll]
    rcases List.mem_cons.1 h with rfl | h
    · omega
    · have := ih h
      omega
set_option maxRecDepth 100000 in
theorem step_cells {m : Nat} {cs : List Value} {y : DataW H × List MemPlace} (hl : cs.length = 5) (hf : DataW.trod enc Tryd.prog w base spare held m 24 cs = some y) :
    ∃ p : StepP, cs = (stepCells p.x p.A p.c).toList ∧ BytesIn w p.A p.x.data.length p.x.data ∧ Wf64 p.x.a ∧ Wf64 p.x.b ∧ p.x.key.length + p.x.data.length ≤ Rows.uptoBulk y.1 := by
  obtain ⟨xs, n, _, hd, _, hxl, hg⟩ := DataW.trod_struct Tryd.underlying24 hf
  obtain ⟨c0, c1, c2, c3, c4, rfl⟩ : ∃ c0 c1 c2 c3 c4, cs = [c0, c1, c2, c3, c4] := by
    match cs, hl with
    | [c0, c1, c2, c3, c4], _ => exact ⟨_, _, _, _, _, rfl⟩
  obtain ⟨x0, x1, x2, x3, x4, rfl⟩ : ∃ x0 x1 x2 x3 x4, xs = [x0, x1, x2, x3, x4] := by
    have hx5 : xs.length = 5 := hxl
    match xs, hx5 with
    | [x0, x1, x2, x3, x4], _ => exact ⟨_, _, _, _, _, rfl⟩
  have t0 : DataW.trod enc Tryd.prog w base spare held n 3 [c0] = some x0 := hg 0 _ rfl
  have t1 : DataW.trod enc Tryd.prog w base spare held n 3 [c1] = some x1 := hg 1 _ rfl
  have t2 : DataW.trod enc Tryd.prog w base spare held n 3 [c2] = some x2 := hg 2 _ rfl
  have t3 : DataW.trod enc Tryd.prog w base spare held n 9 [c3] = some x3 := hg 3 _ rfl
  have t4 : DataW.trod enc Tryd.prog w base spare held n 22 [c4] = some x4 := hg 4 _ rfl
  obtain ⟨z0, e0, _, _⟩ := DataW.trod_int Tryd.underlying3 t0
  injection e0 with e0
  subst e0
  obtain ⟨z1, e1, _, w1⟩ := DataW.trod_int Tryd.underlying3 t1
  injection e1 with e1
  subst e1
  obtain ⟨z2, e2, _, w2⟩ := DataW.trod_int Tryd.underlying3 t2
  injection e2 with e2
  subst e2
  obtain ⟨s3, e3, h3, _⟩ := DataW.trod_string Tryd.underlying9 t3
  injection e3 with e3
  subst e3
  obtain ⟨D, dn, dc, b, rfl, _, _, hbs, _, _⟩ := open_bytes_cells t4
  have hb4 := bytes_bulk t4
  have hdn := hbs.1
  subst hdn
  refine ⟨⟨⟨z0, z1, z2, s3.data.toList, b⟩, D, dc⟩, by simp [stepCells], hbs, ?_, ?_, ?_⟩
  · simpa [Wf64, Lit.wf, IntKind.min, IntKind.max, IntKind.signed, IntKind.bits] using w1
  · simpa [Wf64, Lit.wf, IntKind.min, IntKind.max, IntKind.signed, IntKind.bits] using w2
  · subst h3
    rw [hd]
    simp only [List.map_cons, List.map_nil, Rows.uptoBulk, Rows.uptoBulkAll]
    show s3.data.toList.length + b.length ≤ _
    omega
set_option maxRecDepth 100000 in
theorem open_steps {r : Reach} {b0 : Nat} {v : Value} {d : DataW H} {p : List MemPlace} (hv : Value.okWide Tryd.prog w r b0 38 v) (h : DataW.Trod enc Tryd.prog w base spare held 38 v d p) (hk : Rows.uptoBulk d ≤ 100000000) :
    ∃ (A : Option Addr) (n c : Nat) (F : Nat → StepP), v = .slice A n c ∧ StepsIn w A n F := by
  obtain ⟨A, n, c, rfl⟩ := okWide_slice Tryd.underlying38 hv
  obtain ⟨fuel, hf⟩ := h
  rcases DataW.trod_slice Tryd.underlying38 hf with ⟨hcs, _⟩ | ⟨a, len, cap, elems, rest, m, _, hcs, hx, _, hl, hm, hel, hat, _⟩
  · simp [Value.cells] at hcs
    obtain ⟨rfl, rfl, rfl⟩ := hcs
    exact ⟨_, _, _, fun _ => ⟨⟨0, 0, 0, [], []⟩, none, 0⟩, rfl, .inl rfl⟩
  · simp [Value.cells] at hcs
    obtain ⟨rfl, rfl, rfl⟩ := hcs
    rcases Nat.eq_zero_or_pos n with h0 | h0
    · exact ⟨_, n, _, fun _ => ⟨⟨0, 0, 0, [], []⟩, none, 0⟩, rfl, .inl h0⟩
    · injection hx with hd _
      have key : ∀ i, i < n → ∃ p : StepP, StepOk w p ∧ ∀ q u, (stepCells p.x p.A p.c)[q]? = some u → w.cell? (a.add (i * 5 + q)) = some u := by
        intro i hi
        have h1 := hat i hi
        rw [stepCells5] at h1
        obtain ⟨y, hy⟩ : ∃ y, elems[i]? = some y := ⟨_, List.getElem?_eq_getElem (by omega)⟩
        rw [hy] at h1
        obtain ⟨cs, hc, ht⟩ := Option.bind_eq_some_iff.1 h1
        obtain ⟨_, hcl, hca⟩ := World.cells?_some hc
        obtain ⟨p, hp, hb, ha1, ha2, hbk⟩ := step_cells hcl ht
        have hmem := bulk_mem (l := elems.map (·.1)) (List.mem_map_of_mem (List.mem_of_getElem? hy))
        rw [hd] at hk
        simp only [Rows.uptoBulk] at hk
        refine ⟨p, ⟨hb, ha1, ha2, by omega⟩, fun q u hu => ?_⟩
        have hq : q < 5 := (Array.getElem?_eq_some_iff.1 hu).1
        have h2 := hca q hq
        rw [hp] at h2
        rw [← add_add, h2]
        simpa using hu
      obtain ⟨p0, _, hc0⟩ := key 0 h0
      have h1 := hc0 0 _ rfl
      have hlt := World.block_lt_of_cell? _ _ h1
      have ea := addr_of_cell h1
      obtain ⟨b, o, sp⟩ := a
      injection ea with _ _ ea
      subst ea
      rw [add_plain] at hlt
      refine ⟨_, n, _, fun i => if h : i < n then Classical.choose (key i h) else ⟨⟨0, 0, 0, [], []⟩, none, 0⟩, rfl, .inr ⟨b, o, rfl, hlt, fun i hi => ?_⟩⟩
      simp only [dif_pos hi]
      have hs := Classical.choose_spec (key i hi)
      refine ⟨hs.1, fun q u hu => ?_⟩
      have h2 := hs.2 q u hu
      rw [add_plain] at h2
      rw [Nat.add_assoc]
      exact h2
end
end Go.Proofs.YtkkmojbaoflafaaDoor
