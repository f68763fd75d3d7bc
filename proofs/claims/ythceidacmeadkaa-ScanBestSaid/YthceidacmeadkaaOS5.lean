/- How records that come in are read, with their bytes. No condition beyond those that each theorem states. -/
import Derived.Test.YthceidacmeadkaaOS3
namespace Go.Proofs.Ythceidacmeadkaa
open Go.ChangeShapes Go.WideShapes Go.ChangeAt Go.RowKit Go.Deep

section
variable {H : Type} {enc : TypeId × Value → H} {w : World} {base : Nat} {spare : Nat → Bool} {held : Bool}
/-- Bytes that come in. -/
theorem open_bytes_cells {m : Nat} {v : Value} {y : DataW H × List MemPlace} (h : DataW.trod enc Try.prog w base spare held m 35 [v] = some y) :
    ∃ (A : Option Addr) (n c : Nat) (l : List UInt8), v = .slice A n c ∧ n ≤ c ∧ c ≤ maxLen ∧ BytesIn w A n l ∧ (n = 0 ∨ ∃ b off, A = some ⟨b, off, none⟩) ∧ (A = none → n = 0 ∧ c = 0) := by
  rcases open_ints Try.underlying35 Try.underlying5 byteCells1 h with ⟨hcs, _⟩ | ⟨a, n, c, zs, hcs, _, hl, hm, hz, _, hcell, hwf⟩
  · injection hcs with hcs
    subst hcs
    exact ⟨_, 0, 0, [], rfl, Nat.le_refl _, by simp [maxLen], BytesIn.empty _ _, .inl rfl, fun _ => ⟨rfl, rfl⟩⟩
  · injection hcs with hcs
    subst hcs
    have hnz : n ≤ zs.length := by rw [hz]; split <;> omega
    rcases Nat.eq_zero_or_pos n with h0 | h0
    · subst h0
      exact ⟨_, 0, c, [], rfl, hl, hm, BytesIn.empty _ _, .inl rfl, fun h => by cases h⟩
    · have h1 := hcell 0 (by omega)
      have hlt := World.block_lt_of_cell? _ _ h1
      have ea := addr_of_cell h1
      obtain ⟨b, o, sp⟩ := a
      injection ea with _ _ ea
      subst ea
      rw [add_plain] at hlt
      refine ⟨_, n, c, (zs.take n).map fun z => UInt8.ofNat z.toNat, rfl, hl, hm, ⟨by simp; omega, .inr ⟨b, o, rfl, hlt, fun i u hu => ?_⟩⟩, .inr ⟨b, o, rfl⟩, fun h => by cases h⟩
      have hi : i < n := by
        have := (List.getElem?_eq_some_iff.1 hu).1
        simp at this
        omega
      have hc := hcell i (by omega)
      rw [add_plain] at hc
      have hz' : zs.getD i 0 = zs[i]'(by omega) := by simp [List.getD_eq_getElem?_getD, show i < zs.length by omega]
      have hr : 0 ≤ zs[i]'(by omega) ∧ zs[i]'(by omega) ≤ 255 := by
        have hw := hwf _ (List.getElem_mem (l := zs) (n := i) (by omega))
        simpa [Lit.wf, IntKind.min, IntKind.max, IntKind.signed, IntKind.bits] using hw
      have hu' : UInt8.ofNat (zs[i]'(by omega)).toNat = u := by
        simp [hi, show i < zs.length by omega] at hu
        exact hu
      rw [hc, hz', ← hu']
      have e : ((UInt8.ofNat (zs[i]'(by omega)).toNat).toNat : Int) = zs[i]'(by omega) := by
        rw [UInt8.toNat_ofNat']
        omega
      rw [e]
theorem trod_bD {m : Nat} {u : Value} {y : DataW H × List MemPlace} (h : DataW.trod enc Try.prog w base spare held m 35 [u] = some y) : ∃ (A : Option Addr) (l : Str) (c : Nat), u = .slice A l.length c ∧ BytesIn w A l.length l := by
  obtain ⟨A, n, c, l, rfl, _, _, hb, _, _⟩ := open_bytes_cells h
  exact ⟨A, l, c, by rw [hb.1], by rw [hb.1]; exact hb⟩
set_option maxRecDepth 100000 in
theorem rec_openD {m : Nat} {cs : List Value} {y : DataW H × List MemPlace} (hl : cs.length = 10) (h : DataW.trod enc Try.prog w base spare held m 37 cs = some y) : ∃ (r : RecV) (A : Option Addr) (c : Nat), cs = (recCells r A c).toList ∧ BytesIn w A r.data.length r.data := by
  obtain ⟨xs, n, _, _, _, hxl, hg⟩ := DataW.trod_struct Try.underlying37 h
  obtain ⟨u0, hu0⟩ := len_one hl (i := 0) (by omega)
  obtain ⟨x0, hx0⟩ := len_one (n := 10) hxl (i := 0) (by omega)
  have t0 : DataW.trod enc Try.prog w base spare held n 3 ((cs.drop 0).take 1) = xs[0]? := hg 0 _ rfl
  rw [one_at hu0, hx0] at t0
  obtain ⟨z0, rfl⟩ := trod_i t0
  obtain ⟨u1, hu1⟩ := len_one hl (i := 1) (by omega)
  obtain ⟨x1, hx1⟩ := len_one (n := 10) hxl (i := 1) (by omega)
  have t1 : DataW.trod enc Try.prog w base spare held n 3 ((cs.drop 1).take 1) = xs[1]? := hg 1 _ rfl
  rw [one_at hu1, hx1] at t1
  obtain ⟨z1, rfl⟩ := trod_i t1
  obtain ⟨u2, hu2⟩ := len_one hl (i := 2) (by omega)
  obtain ⟨x2, hx2⟩ := len_one (n := 10) hxl (i := 2) (by omega)
  have t2 : DataW.trod enc Try.prog w base spare held n 9 ((cs.drop 2).take 1) = xs[2]? := hg 2 _ rfl
  rw [one_at hu2, hx2] at t2
  obtain ⟨s2, rfl⟩ := trod_s t2
  obtain ⟨u3, hu3⟩ := len_one hl (i := 3) (by omega)
  obtain ⟨x3, hx3⟩ := len_one (n := 10) hxl (i := 3) (by omega)
  have t3 : DataW.trod enc Try.prog w base spare held n 3 ((cs.drop 3).take 1) = xs[3]? := hg 3 _ rfl
  rw [one_at hu3, hx3] at t3
  obtain ⟨z3, rfl⟩ := trod_i t3
  obtain ⟨u4, hu4⟩ := len_one hl (i := 4) (by omega)
  obtain ⟨x4, hx4⟩ := len_one (n := 10) hxl (i := 4) (by omega)
  have t4 : DataW.trod enc Try.prog w base spare held n 3 ((cs.drop 4).take 1) = xs[4]? := hg 4 _ rfl
  rw [one_at hu4, hx4] at t4
  obtain ⟨z4, rfl⟩ := trod_i t4
  obtain ⟨u5, hu5⟩ := len_one hl (i := 5) (by omega)
  obtain ⟨x5, hx5⟩ := len_one (n := 10) hxl (i := 5) (by omega)
  have t5 : DataW.trod enc Try.prog w base spare held n 3 ((cs.drop 5).take 1) = xs[5]? := hg 5 _ rfl
  rw [one_at hu5, hx5] at t5
  obtain ⟨z5, rfl⟩ := trod_i t5
  obtain ⟨u6, hu6⟩ := len_one hl (i := 6) (by omega)
  obtain ⟨x6, hx6⟩ := len_one (n := 10) hxl (i := 6) (by omega)
  have t6 : DataW.trod enc Try.prog w base spare held n 3 ((cs.drop 6).take 1) = xs[6]? := hg 6 _ rfl
  rw [one_at hu6, hx6] at t6
  obtain ⟨z6, rfl⟩ := trod_i t6
  obtain ⟨u7, hu7⟩ := len_one hl (i := 7) (by omega)
  obtain ⟨x7, hx7⟩ := len_one (n := 10) hxl (i := 7) (by omega)
  have t7 : DataW.trod enc Try.prog w base spare held n 3 ((cs.drop 7).take 1) = xs[7]? := hg 7 _ rfl
  rw [one_at hu7, hx7] at t7
  obtain ⟨z7, rfl⟩ := trod_i t7
  obtain ⟨u8, hu8⟩ := len_one hl (i := 8) (by omega)
  obtain ⟨x8, hx8⟩ := len_one (n := 10) hxl (i := 8) (by omega)
  have t8 : DataW.trod enc Try.prog w base spare held n 9 ((cs.drop 8).take 1) = xs[8]? := hg 8 _ rfl
  rw [one_at hu8, hx8] at t8
  obtain ⟨s8, rfl⟩ := trod_s t8
  obtain ⟨u9, hu9⟩ := len_one hl (i := 9) (by omega)
  obtain ⟨x9, hx9⟩ := len_one (n := 10) hxl (i := 9) (by omega)
  have t9 : DataW.trod enc Try.prog w base spare held n 35 ((cs.drop 9).take 1) = xs[9]? := hg 9 _ rfl
  rw [one_at hu9, hx9] at t9
  obtain ⟨A, l, c, rfl, hby⟩ := trod_bD t9
  refine ⟨⟨z0, z1, s2, z3, z4, z5, z6, z7, s8, l⟩, A, c, ?_, hby⟩
  apply List.ext_getElem?
  intro i
  match i with
  | 0 => exact hu0
  | 1 => exact hu1
  | 2 => exact hu2
  | 3 => exact hu3
  | 4 => exact hu4
  | 5 => exact hu5
  | 6 => exact hu6
  | 7 => exact hu7
  | 8 => exact hu8
  | 9 => exact hu9
  | i + 10 => rw [List.getElem?_eq_none (by omega)]; rfl
set_option maxRecDepth 100000 in
theorem found_openD {m : Nat} {cs : List Value} {y : DataW H × List MemPlace} (hl : cs.length = 12) (h : DataW.trod enc Try.prog w base spare held m 39 cs = some y) : ∃ p : FoundP, cs = (foundCells p).toList ∧ BytesIn w p.A p.r.data.length p.r.data := by
  obtain ⟨xs, n, _, _, _, hxl, hg⟩ := DataW.trod_struct Try.underlying39 h
  obtain ⟨x0, hx0⟩ := len_one (n := 2) hxl (i := 0) (by omega)
  obtain ⟨x1, hx1⟩ := len_one (n := 2) hxl (i := 1) (by omega)
  have t0 : DataW.trod enc Try.prog w base spare held n 34 ((cs.drop 0).take 2) = xs[0]? := hg 0 _ rfl
  have t1 : DataW.trod enc Try.prog w base spare held n 37 ((cs.drop 2).take 10) = xs[1]? := hg 1 _ rfl
  rw [hx0] at t0
  rw [hx1] at t1
  obtain ⟨r, A, c, hr, hby⟩ := rec_openD (by rw [List.length_take, List.length_drop]; omega) t1
  obtain ⟨ys, n2, _, _, _, hyl, hg2⟩ := DataW.trod_struct Try.underlying34 t0
  obtain ⟨u0, hu0⟩ := len_one hl (i := 0) (by omega)
  obtain ⟨u1, hu1⟩ := len_one hl (i := 1) (by omega)
  obtain ⟨y0, hy0⟩ := len_one (n := 2) hyl (i := 0) (by omega)
  obtain ⟨y1, hy1⟩ := len_one (n := 2) hyl (i := 1) (by omega)
  have p0 : DataW.trod enc Try.prog w base spare held n2 3 ((((cs.drop 0).take 2).drop 0).take 1) = ys[0]? := hg2 0 _ rfl
  have p1 : DataW.trod enc Try.prog w base spare held n2 3 ((((cs.drop 0).take 2).drop 1).take 1) = ys[1]? := hg2 1 _ rfl
  rw [one_at (by rw [List.drop_zero, List.getElem?_take, if_pos (by omega)]; exact hu0), hy0] at p0
  rw [one_at (by rw [List.drop_zero, List.getElem?_take, if_pos (by omega)]; exact hu1), hy1] at p1
  obtain ⟨z0, rfl⟩ := trod_i p0
  obtain ⟨z1, rfl⟩ := trod_i p1
  refine ⟨⟨z0, z1, r, A, c⟩, ?_, hby⟩
  apply List.ext_getElem?
  intro i
  match i with
  | 0 => exact hu0
  | 1 => exact hu1
  | i + 2 =>
    have e : cs[i + 2]? = ((cs.drop 2).take 10)[i]? := by
      rw [List.getElem?_take, List.getElem?_drop, Nat.add_comm 2 i]
      by_cases hi : i < 10
      · rw [if_pos hi]
      · rw [if_neg hi, List.getElem?_eq_none (by omega)]
    rw [e, hr]
    rfl
set_option maxRecDepth 100000 in
theorem open_foundsD {r : Reach} {b0 : Nat} {v : Value} {d : DataW H} {p : List MemPlace} (hv : Value.okWide Try.prog w r b0 22 v) (h : DataW.Trod enc Try.prog w base spare held 22 v d p) :
    ∃ (A : Option Addr) (n c : Nat) (G : Nat → FoundP), v = .slice A n c ∧ n ≤ c ∧ c ≤ maxLen ∧ FoundsIn w A n G ∧ (∀ i, i < n → BytesIn w (G i).A (G i).r.data.length (G i).r.data) := by
  obtain ⟨A, n, c, rfl, hnc, hc, hr⟩ := open_rows_any Try.underlying22 foundCells12 (by omega) hv h
  rcases hr with rfl | ⟨b, off, rfl, hb, hx⟩
  · exact ⟨A, 0, c, fun _ => ⟨0, 0, ⟨0, 0, [], 0, 0, 0, 0, 0, [], []⟩, none, 0⟩, rfl, hnc, hc, .inl rfl, fun i hi => by omega⟩
  · have key : ∀ i, i < n → ∃ p : FoundP, (∀ q u, (foundCells p)[q]? = some u → w.cell? ⟨b, off + i * 12 + q, none⟩ = some u) ∧ BytesIn w p.A p.r.data.length p.r.data := by
      intro i hi
      obtain ⟨cs, y, m, hl, hcell, ht⟩ := hx i hi
      obtain ⟨p, rfl, hby⟩ := found_openD hl ht
      refine ⟨p, fun q u hu => ?_, hby⟩
      have hq : q < 12 := (Array.getElem?_eq_some_iff.1 hu).1
      rw [Nat.add_assoc, hcell q hq, Array.getElem?_toList]
      exact hu
    refine ⟨_, n, c, fun i => if h : i < n then Classical.choose (key i h) else ⟨0, 0, ⟨0, 0, [], 0, 0, 0, 0, 0, [], []⟩, none, 0⟩, rfl, hnc, hc, .inr ⟨b, off, rfl, hb, fun i hi => ?_⟩, fun i hi => ?_⟩
    · simp only [dif_pos hi]
      exact (Classical.choose_spec (key i hi)).1
    · simp only [dif_pos hi]
      exact (Classical.choose_spec (key i hi)).2
end
end Go.Proofs.Ythceidacmeadkaa
