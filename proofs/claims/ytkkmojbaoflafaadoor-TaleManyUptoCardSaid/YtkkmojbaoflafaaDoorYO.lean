/- How steps that come in are read, and the witness of a row that lists variables. No condition beyond those that each theorem states. -/
import Derived.Test.YtkkmojbaoflafaaDoorYE
import Derived.Test.YtkkmojbaoflafaaDoorY9
import Derived.Deep.DeepHandedRow
namespace Go.Proofs.YtkkmojbaoflafaaDoor
open Go.ChangeShapes Go.WideShapes Go.ChangeAt Go.RowKit Go.Deep

theorem byteCells : Tryd.prog.cellsOf 5 = 1 := by kernel_rfl
theorem stepCells5 : Tryd.prog.cellsOf 24 = 5 := by kernel_rfl
section
variable {H : Type} {enc : TypeId × Value → H} {w : World} {base : Nat} {spare : Nat → Bool} {held : Bool}
/-- Bytes that come in. -/
theorem open_bytes_cells {m : Nat} {v : Value} {y : DataW H × List MemPlace} (h : DataW.trod enc Tryd.prog w base spare held m 22 [v] = some y) :
    ∃ (A : Option Addr) (n c : Nat) (l : List UInt8), v = .slice A n c ∧ n ≤ c ∧ c ≤ maxLen ∧ BytesIn w A n l ∧ (n = 0 ∨ ∃ b off, A = some ⟨b, off, none⟩) ∧ (A = none → n = 0 ∧ c = 0) := by
  rcases open_ints Tryd.underlying22 Tryd.underlying5 byteCells h with ⟨hcs, _⟩ | ⟨a, n, c, zs, hcs, _, hl, hm, hz, _, hcell, hwf⟩
  · injection hcs with hcs
    subst hcs
    exact ⟨_, 0, 0, [], rfl, Nat.le_refl _, by simp [maxLen], BytesIn.empty _ _, .inl rfl, fun _ => ⟨rfl, rfl⟩⟩
  · injection hcs with hcs
    subst hcs
    have hnz : n ≤ zs.length := by rw [hz]; split <;> omega
    rcases Nat.eq_zero_or_pos n with h0 | h0
    · subst h0
      exact ⟨_, 0, c, [], rfl, hl, hm, BytesIn.empty _ _, .inl rfl, fun h => by cases h⟩
    · have h1 := hcell 0 (by omega)
      have hlt := World.block_lt_of_cell? _ _ h1
      have ea := addr_of_cell h1
      obtain ⟨b, o, sp⟩ := a
      injection ea with _ _ ea
      subst ea
      rw [add_plain] at hlt
      refine ⟨_, n, c, (zs.take n).map fun z => UInt8.ofNat z.toNat, rfl, hl, hm, ⟨by simp; omega, .inr ⟨b, o, rfl, hlt, fun i u hu => ?_⟩⟩, .inr ⟨b, o, rfl⟩, fun h => by cases h⟩
      have hi : i < n := by
        have := (List.getElem?_eq_some_iff.1 hu).1
        simp at this
        omega
      have hc := hcell i (by omega)
      rw [add_plain] at hc
      have hz' : zs.getD i 0 = zs[i]'(by omega) := by simp [List.getD_eq_getElem?_getD, show i < zs.length by omega]
      have hr : 0 ≤ zs[i]'(by omega) ∧ zs[i]'(by omega) ≤ 255 := by
        have hw := hwf _ (List.getElem_mem (l := zs) (n := i) (by omega))
        simpa [Lit.wf, IntKind.min, IntKind.max, IntKind.signed, IntKind.bits] using hw
      have hu' : UInt8.ofNat (zs[i]'(by omega)).toNat = u := by
        simp [hi, show i < zs.length by omega] at hu
        exact hu
      rw [hc, hz', ← hu']
      have e : ((UInt8.ofNat (zs[i]'(by omega)).toNat).toNat : Int) = zs[i]'(by omega) := by
        rw [UInt8.toNat_ofNat']
        omega
      rw [e]
theorem bulk_one (d : DataW H) : 1 ≤ Rows.uptoBulk d := by
  cases d with
  | lit l => cases l <;> simp [Rows.uptoBulk]
  | nil => simp [Rows.uptoBulk]
  | ptr d => simp [Rows.uptoBulk]
  | slice elems spare => simp [Rows.uptoBulk]
  | agg parts => simp [Rows.uptoBulk]
  | iface t d => simp [Rows.uptoBulk]
  | map entries => simp [Rows.uptoBulk]
  | held h => simp [Rows.uptoBulk]
theorem bulk_len (l : List (DataW H)) : l.length ≤ Rows.uptoBulkAll l := by
  induction l with
  | nil => simp [Rows.uptoBulkAll]
  | cons x r ih => have := bulk_one x; simp only [Rows.uptoBulkAll, List.length_cons]; omega
theorem bytes_bulk {m : Nat} {A : Option Addr} {n c : Nat} {y : DataW H × List MemPlace} (h : DataW.trod enc Tryd.prog w base spare held m 22 [.slice A n c] = some y) : n ≤ Rows.uptoBulk y.1 := by
  rcases open_ints Tryd.underlying22 Tryd.underlying5 byteCells h with ⟨hcs, _⟩ | ⟨a, n', c', zs, hcs, _, hl, hm, hz, hx, hcell, hwf⟩
  · injection hcs with hcs
    injection hcs with _ hn _
    omega
  · injection hcs with hcs
    injection hcs with _ hn _
    subst hn
    have hnz : n ≤ zs.length := by rw [hz]; split <;> omega
    obtain ⟨d, p⟩ := y
    injection hx with hd _
    subst hd
    have h1 := bulk_len (H := H) ((List.take n zs).map fun z => .lit (.int .u8 z))
    simp only [Rows.uptoBulk, lits]
    simp only [List.length_take, List.length_map] at h1
    omega
set_option maxRecDepth 100000 in
theorem open_step {r : Reach} {b0 : Nat} {v : Value} {d : DataW H} {p : List MemPlace} (hv : Value.okWide Tryd.prog w r b0 24 v) (h : DataW.Trod enc Tryd.prog w base spare held 24 v d p) :
    ∃ (x : StepV) (A : Option Addr) (c : Nat), v = stepV x A c ∧ BytesIn w A x.data.length x.data ∧ Wf64 x.a ∧ Wf64 x.b ∧ x.key.length + x.data.length ≤ Rows.uptoBulk d := by
  obtain ⟨cs, rfl, hsz⟩ := okWide_struct Tryd.underlying24 hv
  rw [stepCells5] at hsz
  obtain ⟨fuel, hf⟩ := h
  obtain ⟨xs, n, _, hd, _, hxl, hg⟩ := DataW.trod_struct Tryd.underlying24 hf
  injection hd with hd _
  obtain ⟨l, rfl⟩ : ∃ l : List Value, cs = l.toArray := ⟨cs.toList, by simp⟩
  have hl : l.length = 5 := by simpa using hsz
  obtain ⟨c0, c1, c2, c3, c4, rfl⟩ : ∃ c0 c1 c2 c3 c4, l = [c0, c1, c2, c3, c4] := by
    match l, hl with
    | [c0, c1, c2, c3, c4], _ => exact ⟨_, _, _, _, _, rfl⟩
  obtain ⟨x0, x1, x2, x3, x4, rfl⟩ : ∃ x0 x1 x2 x3 x4, xs = [x0, x1, x2, x3, x4] := by
    have hx5 : xs.length = 5 := hxl
    match xs, hx5 with
    | [x0, x1, x2, x3, x4], _ => exact ⟨_, _, _, _, _, rfl⟩
  have t0 : DataW.trod enc Tryd.prog w base spare held n 3 [c0] = some x0 := hg 0 _ rfl
  have t1 : DataW.trod enc Tryd.prog w base spare held n 3 [c1] = some x1 := hg 1 _ rfl
  have t2 : DataW.trod enc Tryd.prog w base spare held n 3 [c2] = some x2 := hg 2 _ rfl
  have t3 : DataW.trod enc Tryd.prog w base spare held n 9 [c3] = some x3 := hg 3 _ rfl
  have t4 : DataW.trod enc Tryd.prog w base spare held n 22 [c4] = some x4 := hg 4 _ rfl
  obtain ⟨z0, e0, _, _⟩ := DataW.trod_int Tryd.underlying3 t0
  injection e0 with e0
  subst e0
  obtain ⟨z1, e1, _, w1⟩ := DataW.trod_int Tryd.underlying3 t1
  injection e1 with e1
  subst e1
  obtain ⟨z2, e2, _, w2⟩ := DataW.trod_int Tryd.underlying3 t2
  injection e2 with e2
  subst e2
  obtain ⟨s3, e3, h3, _⟩ := DataW.trod_string Tryd.underlying9 t3
  injection e3 with e3
  subst e3
  obtain ⟨D, dn, dc, b, rfl, _, _, hbs, _, _⟩ := open_bytes_cells t4
  have hb4 := bytes_bulk t4
  have hdn := hbs.1
  subst hdn
  refine ⟨⟨z0, z1, z2, s3.data.toList, b⟩, D, dc, by simp [stepV], hbs, ?_, ?_, ?_⟩
  · simpa [Wf64, Lit.wf, IntKind.min, IntKind.max, IntKind.signed, IntKind.bits] using w1
  · simpa [Wf64, Lit.wf, IntKind.min, IntKind.max, IntKind.signed, IntKind.bits] using w2
  · subst h3
    rw [hd]
    simp only [List.map_cons, List.map_nil, Rows.uptoBulk, Rows.uptoBulkAll]
    show s3.data.toList.length + b.length ≤ _
    omega
end
section
variable {H : Type} {enc : TypeId × Value → H}
/-- An input that fits a row, at a world that is written out. -/
theorem witness_laid {C : Checked} {os : Os} {f : FuncId} {fn : Func} {s : OpenSpec} {conds : List PathCond} {apart : Bool} {laid : List (String × DataW Unit)} (w0 : World) (args : Array Value) (hos : w0.os = os)
    (hsh : (w0.forCall (fun _ _ => 0) ⟨#[], args, []⟩).Shaped C.prog) (hok : Input.okWideB C.prog (w0.forCall (fun _ _ => 0) ⟨#[], args, []⟩) f ⟨#[], args, []⟩ = true)
    (hrow : s.preRow enc C.prog fn conds apart laid (w0.forCall (fun _ _ => 0) ⟨#[], args, []⟩).memory args) :
    ∃ (w : World) (tape : Tape) (i : Input), w.os = os ∧ (w.forCall tape i).Shaped C.prog ∧ i.vars = [] ∧ Input.okWide C.prog (w.forCall tape i) .any w.heap.size f i ∧
      s.preRow enc C.prog fn conds apart laid (w.forCall tape i).memory i.args ∧ ({} : Assume).holds C.prog (lone (Frame.enter C.prog f i.args .normal) [] (w.forCall tape i)) :=
  ⟨w0, fun _ _ => 0, ⟨#[], args, []⟩, hos, hsh, (Input.okWide_of_okWideB (base := 0) hok).1, (Input.okWide_of_okWideB hok).2, hrow, by
    simp only [Assume.holds]
    exact ⟨by simp, by simp, fun _ => Modest.zero, by simp, by simp⟩⟩
end
end Go.Proofs.YtkkmojbaoflafaaDoor
