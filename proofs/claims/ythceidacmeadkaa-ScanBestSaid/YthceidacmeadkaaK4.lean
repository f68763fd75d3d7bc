/- Bytes in memory, and as a string. No condition beyond those that each theorem states. -/
import Derived.Test.YthceidacmeadkaaK3
import Derived.Laws.BytesArg
namespace Go.Proofs.Ythceidacmeadkaa
open Go.RowKit

theorem below_of_drewN {B k : Nat} {w w' : World} (h : Below B (w.drewN k) w') : Below B w w' := ⟨h.os, h.tape, h.output, h.size, h.block⟩
theorem below_of_drew {B : Nat} {w w' : World} (h : Below B w.drew w') : Below B w w' := ⟨h.os, h.tape, h.output, h.size, h.block⟩
theorem below_drewN {B : Nat} {a w : World} (h : Below B a w) (n : Nat) : Below B a (w.drewN n) := ⟨h.os, h.tape, h.output, h.size, h.block⟩
theorem keepc {B : Nat} {w w' : World} {b o : Nat} {v : Value} (h : Below B w w') (hb : b < B) (hc : w.cell? ⟨b, o, none⟩ = some v) : w'.cell? ⟨b, o, none⟩ = some v := (h.cell (p := ⟨b, o, none⟩) hb).trans hc

/-- A list of bytes as cells. -/
def byteVals (l : List UInt8) : List Value := l.map fun c => .int .u8 (c.toNat : Int)
theorem byteVals_length (l : List UInt8) : (byteVals l).length = l.length := by simp [byteVals]
theorem byteVals_get (l : List UInt8) (i : Nat) : (byteVals l)[i]? = (l[i]?).map fun c => .int .u8 (c.toNat : Int) := by simp [byteVals]
theorem byteVals_one (l : List UInt8) : ∀ u ∈ byteVals l, u.oneCell' = true := by
  intro u hu
  simp only [byteVals, List.mem_map] at hu
  obtain ⟨c, _, rfl⟩ := hu
  rfl

/-- The slice's n elements, read from its address on, are these bytes. -/
def BytesIn (w : World) (A : Option Addr) (n : Nat) (l : List UInt8) : Prop :=
  l.length = n ∧ (n = 0 ∨ ∃ b off, A = some ⟨b, off, none⟩ ∧ b < w.heap.size ∧ ∀ i u, l[i]? = some u → w.cell? ⟨b, off + i, none⟩ = some (.int .u8 (u.toNat : Int)))

theorem BytesIn.empty (w : World) (A : Option Addr) : BytesIn w A 0 [] := ⟨rfl, .inl rfl⟩
theorem BytesIn.keep {w w' : World} {A : Option Addr} {n : Nat} {l : List UInt8} (h : BytesIn w A n l) (hz : w.heap.size ≤ w'.heap.size) (hk : ∀ b off, A = some ⟨b, off, none⟩ → b < w.heap.size → w'.heap[b]? = w.heap[b]?) : BytesIn w' A n l := by
  refine ⟨h.1, h.2.imp id fun ⟨b, off, h1, h2, h3⟩ => ⟨b, off, h1, by omega, fun i u hu => ?_⟩⟩
  exact (World.cell?_of_block (w := w) (a := ⟨b, off + i, none⟩) (hk b off h1 h2)).trans (h3 i u hu)
theorem BytesIn.below {w w' : World} {A : Option Addr} {n : Nat} {l : List UInt8} (h : BytesIn w A n l) (hb : Below w.heap.size w w') : BytesIn w' A n l :=
  h.keep hb.size fun b _ _ hlt => hb.block b hlt
theorem BytesIn.src {w : World} {A : Option Addr} {n : Nat} {l : List UInt8} (h : BytesIn w A n l) : SrcAt w A n (byteVals l) := by
  rcases h.2 with h0 | ⟨b, off, h1, h2, h3⟩
  · exact .inl ⟨h0, by have := h.1; rw [h0] at this; rw [List.eq_nil_of_length_eq_zero this]; rfl⟩
  · refine .inr ⟨b, off, h1, fun j u hu => ?_⟩
    rw [byteVals_get] at hu
    cases hl : l[j]? with
    | none => rw [hl] at hu; cases hu
    | some c =>
      rw [hl] at hu
      injection hu with hu
      subst hu
      exact h3 j c hl

/-- Block g begins with these n cells of element type t; none is frozen. -/
def RowAt (w : World) (g : Nat) (t : TypeId) (vals : List Value) : Prop := ∃ cs : Array Value, w.heap[g]? = some (.cells cs t (0, 0)) ∧ cs.toList.take vals.length = vals
section
variable {w w' : World} {g : Nat} {t : TypeId} {vals : List Value}
theorem RowAt.size (h : RowAt w g t vals) : g < w.heap.size := by
  obtain ⟨cs, h, _⟩ := h
  exact (Array.getElem?_eq_some_iff.1 h).1
theorem RowAt.cell (h : RowAt w g t vals) {i : Nat} {u : Value} (hu : vals[i]? = some u) : w.cell? ⟨g, i, none⟩ = some u := by
  obtain ⟨cs, h, ht⟩ := h
  rw [cell_of_row w g i cs t (0, 0) h]
  have hi : i < vals.length := (List.getElem?_eq_some_iff.1 hu).1
  rw [← ht, List.getElem?_take, if_pos hi] at hu
  simpa using hu
theorem RowAt.free (h : RowAt w g t vals) (i : Nat) : w.frozen? ⟨g, i, none⟩ = false := by
  obtain ⟨cs, h, _⟩ := h
  simp [World.frozen?, h]
theorem RowAt.of_eq (h : RowAt w g t vals) (he : w'.heap[g]? = w.heap[g]?) : RowAt w' g t vals := by
  obtain ⟨cs, h, ht⟩ := h
  exact ⟨cs, he.trans h, ht⟩
theorem RowAt.ne {g' : Nat} {t' : TypeId} {cs : Array Value} (h : RowAt w g t vals) (h' : Blk w g' t' cs) (hne : t ≠ t') : g ≠ g' := by
  rintro rfl
  obtain ⟨cs', h, _⟩ := h
  unfold Blk at h'
  rw [h] at h'
  injection h' with h'
  injection h' with _ ht
  exact hne ht
theorem RowAt.less (h : RowAt w g t vals) (n : Nat) : RowAt w g t (vals.take n) := by
  obtain ⟨cs, h, ht⟩ := h
  refine ⟨cs, h, ?_⟩
  rw [List.length_take]
  conv => rhs; rw [← ht]
  rw [List.take_take]
theorem RowAt.of_own {base size n cap : Nat} (h : w.ownsRow base t size (.slice (some ⟨g, 0, none⟩) n cap) n vals) : RowAt w g t vals := by
  rcases h.2 with ⟨h, _⟩ | ⟨g', cap', cur, hv, _, h2, _, _, _, h5⟩
  · cases h
  · have e : g = g' := by
      injection hv with hv
      injection hv with hv
      injection hv
    subst e
    exact ⟨cur, h2, by rw [h.1]; exact h5⟩
theorem RowAt.bytesIn {l : List UInt8} (h : RowAt w g t (byteVals l)) : BytesIn w (some ⟨g, 0, none⟩) l.length l :=
  ⟨rfl, .inr ⟨g, 0, rfl, h.size, fun i u hu => by rw [Nat.zero_add]; exact h.cell (by rw [byteVals_get, hu]; rfl)⟩⟩
end

/-- 'string(b)'. -/
theorem run_string_of {P : Program} {w : World} {src e dst : TypeId} (hs : P.underlying src = some (.slice e)) (he : P.underlying e = some (.int .u8)) (hd : P.underlying dst = some .string)
    {A : Option Addr} {n c : Nat} {l : List UInt8} (h : BytesIn w A n l) (hA : A = none ∨ (∃ b off, A = some ⟨b, off, none⟩)) : (convert src dst (.slice A n c)).run P w = .ok (.string ⟨l.toArray⟩) w := by
  rcases hA with rfl | ⟨b, off, rfl⟩
  · rw [run_convert_bytes_nil w src e hs he n c dst hd]
    rcases h.2 with h0 | ⟨b, off, h1, _⟩
    · have hl := h.1
      rw [h0] at hl
      rw [List.eq_nil_of_length_eq_zero hl]
      rfl
    · cases h1
  · rw [run_convert_bytes_arg w src e hs he b off n c (l.map fun u => (u.toNat : Int)) (by simpa using h.1) ?_ dst hd]
    · congr 3
      unfold strOfNums
      rw [List.map_map]
      congr 2
      conv => rhs; rw [← List.map_id l]
      exact List.map_congr_left fun u _ => by simp
    · intro i hi
      rcases h.2 with h0 | ⟨b', off', h1, _, h3⟩
      · omega
      · injection h1 with h1
        injection h1 with h1 h2
        subst h1; subst h2
        have hl := h.1
        have hil : i < l.length := by omega
        rw [h3 i l[i] (List.getElem?_eq_getElem hil)]
        simp [List.getD_eq_getElem?_getD, hil]

theorem wp_string_of {P : Program} {w : World} {o : Oper} {a : Act} {K : Act → World → Prop} {Q : Exit → Act → World → Prop} (src dst : TypeId) (x : Operand) (ho : o.op = .convert src dst x) (e : TypeId)
    (hs : P.underlying src = some (.slice e)) (he : P.underlying e = some (.int .u8)) (hd : P.underlying dst = some .string)
    (A : Option Addr) (n c : Nat) (l : List UInt8) (hx : a.eval x = .slice A n c) (h : BytesIn w A n l) (hA : A = none ∨ (∃ b off, A = some ⟨b, off, none⟩)) (hk : K (a.put o.dst (.string ⟨l.toArray⟩)) w) : o.wp P a w K Q := by
  unfold Oper.wp execOp
  simp only [ho, Sem.run_bind, hx, run_string_of (c := c) hs he hd h hA, Result.andThen_ok, Sem.run_pure]
  exact hk
theorem wpList_string_of {P : Program} {w : World} {ops : Array Oper} {rest : List Oper} {o : Oper} {a : Act} {Q : Exit → Act → World → Prop} (hgd : o.guard = none) (src dst : TypeId) (x : Operand) (ho : o.op = .convert src dst x) (e : TypeId)
    (hs : P.underlying src = some (.slice e)) (he : P.underlying e = some (.int .u8)) (hd : P.underlying dst = some .string)
    (A : Option Addr) (n c : Nat) (l : List UInt8) (hx : a.eval x = .slice A n c) (h : BytesIn w A n l) (hA : A = none ∨ (∃ b off, A = some ⟨b, off, none⟩)) (hk : wpList P ops Q rest (a.put o.dst (.string ⟨l.toArray⟩)) w) : wpList P ops Q (o :: rest) a w :=
  wpList_plain hgd fun _ hK => wp_string_of src dst x ho e hs he hd A n c l hx h hA (hK _ _ hk)
theorem step_string_of {P : Program} {w : World} {ops : Array Oper} {o : Oper} {a : Act} {K : Act → World → Prop} {Q : Exit → Act → World → Prop} {E : Prop} (hgd : o.guard = none) (src dst : TypeId) (x : Operand) (ho : o.op = .convert src dst x) (e : TypeId)
    (hs : P.underlying src = some (.slice e)) (he : P.underlying e = some (.int .u8)) (hd : P.underlying dst = some .string)
    (A : Option Addr) (n c : Nat) (l : List UInt8) (hx : a.eval x = .slice A n c) (h : BytesIn w A n l) (hA : A = none ∨ (∃ b off, A = some ⟨b, off, none⟩)) (hk : K (a.put o.dst (.string ⟨l.toArray⟩)) w) :
    if Region.wanted o (yielded ops a.tmps) = true then Oper.wp P o a w K Q else E := by
  have hw : Region.wanted o (yielded ops a.tmps) = true := by simp [Region.wanted, hgd]
  rw [if_pos hw]
  exact wp_string_of src dst x ho e hs he hd A n c l hx h hA hk
end Go.Proofs.Ythceidacmeadkaa
