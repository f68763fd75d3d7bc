/- Writing a text byte by byte: the library's contracts at this program; bytes as a word. No condition beyond those that each theorem states. -/
import Derived.Test.YtkkmojbaoflafaaDoorY1
import Derived.Shelf.Strings.BuilderK
import Derived.Ground.NamesProg
namespace Go.Proofs.YtkkmojbaoflafaaDoor
open Go.RowKit Go.Shelf

def wbL_ren : Go.Shelf.Ren := ⟨fun | 167 => 35 | 240 => 48 | 276 => 59 | n => n, fun | 20 => 20 | 70 => 71 | 5 => 5 | 75 => 75 | 0 => 0 | 72 => 73 | 37 => 22 | 4 => 4 | 164 => 94 | 80 => 77 | 9 => 9 | n => n, fun | n => n⟩
theorem wbL : Go.Proofs.Lays.n167 Tryd.prog wbL_ren := {
  mixed := by kernel_rfl
  f167 := Tryd.func35.trans (congrArg some (by kernel_rfl))
  f240 := Tryd.func48.trans (congrArg some (by kernel_rfl))
  f276 := Tryd.func59.trans (congrArg some (by kernel_rfl))
  t0 := Tryd.underlying0
  a0 := Tryd.isAgg0
  z0 := Tryd.sizeOf0
  v0 := Tryd.zeroValue0
  t4 := Tryd.underlying4
  a4 := Tryd.isAgg4
  z4 := Tryd.sizeOf4
  v4 := Tryd.zeroValue4
  t5 := Tryd.underlying5
  a5 := Tryd.isAgg5
  z5 := Tryd.sizeOf5
  v5 := Tryd.zeroValue5
  t9 := Tryd.underlying9
  a9 := Tryd.isAgg9
  z9 := Tryd.sizeOf9
  v9 := Tryd.zeroValue9
  t20 := Tryd.underlying20
  a20 := Tryd.isAgg20
  z20 := Tryd.sizeOf20
  v20 := Tryd.zeroValue20
  t37 := Tryd.underlying22
  a37 := Tryd.isAgg22
  z37 := Tryd.sizeOf22
  v37 := Tryd.zeroValue22
  t70 := Tryd.underlying71
  a70 := Tryd.isAgg71
  z70 := Tryd.sizeOf71
  v70 := Tryd.zeroValue71
  t72 := Tryd.underlying73
  a72 := Tryd.isAgg73
  z72 := Tryd.sizeOf73
  v72 := Tryd.zeroValue73
  t75 := Tryd.underlying75
  a75 := Tryd.isAgg75
  z75 := Tryd.sizeOf75
  v75 := Tryd.zeroValue75
  t164 := Tryd.underlying94
  a164 := Tryd.isAgg94
  z164 := Tryd.sizeOf94
  v164 := Tryd.zeroValue94 }
def bsL_ren : Go.Shelf.Ren := ⟨fun | 169 => 36 | n => n, fun | 20 => 20 | 70 => 71 | 9 => 9 | 0 => 0 | 72 => 73 | 37 => 22 | 127 => 89 | 3 => 3 | 5 => 5 | n => n, fun | n => n⟩
theorem bsL : Go.Proofs.Lays.n169 Tryd.prog bsL_ren := {
  mixed := by kernel_rfl
  f169 := Tryd.func36.trans (congrArg some (by kernel_rfl))
  t0 := Tryd.underlying0
  a0 := Tryd.isAgg0
  z0 := Tryd.sizeOf0
  v0 := Tryd.zeroValue0
  t3 := Tryd.underlying3
  a3 := Tryd.isAgg3
  z3 := Tryd.sizeOf3
  v3 := Tryd.zeroValue3
  t9 := Tryd.underlying9
  a9 := Tryd.isAgg9
  z9 := Tryd.sizeOf9
  v9 := Tryd.zeroValue9
  t37 := Tryd.underlying22
  a37 := Tryd.isAgg22
  z37 := Tryd.sizeOf22
  v37 := Tryd.zeroValue22
  t70 := Tryd.underlying71
  a70 := Tryd.isAgg71
  z70 := Tryd.sizeOf71
  v70 := Tryd.zeroValue71
  t72 := Tryd.underlying73
  a72 := Tryd.isAgg73
  z72 := Tryd.sizeOf73
  v72 := Tryd.zeroValue73
  t127 := Tryd.underlying89
  a127 := Tryd.isAgg89
  z127 := Tryd.sizeOf89
  v127 := Tryd.zeroValue89 }
theorem wbX : Builder.Extra Tryd.prog wbL_ren := {
  sizeBuilder := by kernel_rfl
  liesBuilder := by kernel_rfl
  t5 := Tryd.underlying5
  a5 := Tryd.isAgg5
  z5 := Tryd.sizeOf5
  v5 := Tryd.zeroValue5
  infoByte := by kernel_rfl
  cellsByte := by kernel_rfl
  sizeByte := by kernel_rfl
  neB5 := by decide }
theorem bsX : Builder.Extra Tryd.prog bsL_ren := {
  sizeBuilder := by kernel_rfl
  liesBuilder := by kernel_rfl
  t5 := Tryd.underlying5
  a5 := Tryd.isAgg5
  z5 := Tryd.sizeOf5
  v5 := Tryd.zeroValue5
  infoByte := by kernel_rfl
  cellsByte := by kernel_rfl
  sizeByte := by kernel_rfl
  neB5 := by decide }
/-- A Builder at b that holds these bytes, new since B. -/
def BuiltAt (w0 : World) (b : Nat) (l : Str) (w : World) : Prop := Lib.IsBuilderF 73 5 w0.heap.size b (Lib.byteCells l) w ∧ Below w0.heap.size w0 w
theorem byteCells_snoc (l : Str) (c : UInt8) : Lib.byteCells l ++ [.int .u8 (c.toNat : Int)] = Lib.byteCells (l ++ [c]) := by simp [Lib.byteCells]
theorem bWrite (w0 : World) (b : Nat) (l : Str) (c : UInt8) (w : World) (h : BuiltAt w0 b l w) (hl : l.length + 1 ≤ 140737488355328) :
    Calls Tryd.prog 35 #[.pointer (some ⟨b, 0, none⟩), .int .u8 (c.toNat : Int)] w fun e w' => e = .returned .nilIface ∧ BuiltAt w0 b (l ++ [c]) w' := by
  refine (Any.Builder_WriteByte_k wbL wbX w0.heap.size b _ (c.toNat : Int) w h.1 (by rw [Lib.byteCells_length]; exact hl) h.2.size).mono ?_
  rintro e w' ⟨rfl, h1, h2, _⟩
  rw [byteCells_snoc] at h1
  exact ⟨rfl, .inr h1, h.2.trans h2⟩
theorem bString (w0 : World) (b : Nat) (l : Str) (w : World) (h : BuiltAt w0 b l w) :
    Calls Tryd.prog 36 #[.pointer (some ⟨b, 0, none⟩)] w fun e w' => e = .returned (strV l) ∧ Below w0.heap.size w0 w' := by
  refine (Any.Builder_String_any_k bsL bsX w0.heap.size b l w h.1 h.2.size).mono ?_
  rintro e w' ⟨rfl, _, h2, _⟩
  exact ⟨rfl, h.2.trans h2⟩
theorem BuiltAt.new (w : World) : BuiltAt w w.heap.size [] (w.alloc (.cells #[.pointer none, .slice none 0 0] 73)) :=
  ⟨Lib.IsBuilderF.of (Lib.fresh_isBuilder 73 5 w), (Below.refl _ w).alloc (Nat.le_refl _) _⟩
theorem hexS_fin : ∀ n : Fin 16, (#[48, 49, 50, 51, 52, 53, 54, 55, 56, 57, 97, 98, 99, 100, 101, 102] : Array UInt8)[n.val]'(by simp) = hexD n.val := by decide
theorem hexS_at {n : Nat} (h : n < (⟨#[48, 49, 50, 51, 52, 53, 54, 55, 56, 57, 97, 98, 99, 100, 101, 102]⟩ : ByteArray).size) : (⟨#[48, 49, 50, 51, 52, 53, 54, 55, 56, 57, 97, 98, 99, 100, 101, 102]⟩ : ByteArray)[n]'h = hexD n := hexS_fin ⟨n, h⟩
theorem hex_len (l : Str) : (l.flatMap hexB).length = l.length + l.length := by
  induction l with
  | nil => rfl
  | cons c l ih => rw [List.flatMap_cons, List.length_append, ih]; simp [hexB]; omega
section
set_option maxHeartbeats 4000000
set_option maxRecDepth 8000
theorem tHex (A : Option Addr) (n c : Nat) (l : Str) (w : World) (h : BytesIn w A n l) (hn : n + n + 1 ≤ 140737488355328) :
    Calls Tryd.prog 19 #[.slice A n c] w fun e w' => e = .returned (strV (hexT l)) ∧ Below w.heap.size w w' := by
  have H := Lib.hid h
  have hln : l.length = n := h.1
  clear h
  have h63 : n ≤ 9223372036854775807 := by omega
  go_enter Tryd.func19, Tryd.ntmps19
  go_wp2_with fail
  have B0 := Lib.hid (BuiltAt.new w)
  refine (bWrite w w.heap.size [] 120 _ B0.out (by simp)).mono ?_
  rintro e w1 ⟨rfl, hb1⟩
  have B1 := Lib.hid hb1
  clear hb1 B0
  go_wp2_with fail
  go_loopw [9] (fun i wx => ∃ (j : Nat), i = .int .i64 j ∧ j ≤ n ∧ BuiltAt w w.heap.size (120 :: (l.take j).flatMap hexB) wx) (fun i _ => n - (intOf i).toNat)
  case atStart => exact ⟨0, rfl, Nat.zero_le _, B1.out⟩
  case round =>
    obtain ⟨j, rfl, hj, hbu⟩ := hrel
    have BU := Lib.hid hbu
    clear hbu B1
    by_cases hlt : j < n
    · have d1 : decide (j < n) = true := by simpa using hlt
      obtain ⟨b, off, rfl, hlb, hce⟩ : ∃ b off, A = some ⟨b, off, none⟩ ∧ b < w.heap.size ∧ ∀ i u, l[i]? = some u → w.cell? ⟨b, off + i, none⟩ = some (.int .u8 (u.toNat : Int)) := by
        rcases H.out.2 with h0 | h0
        · omega
        · exact h0
      obtain ⟨x, hx⟩ : ∃ x, l[j]? = some x := ⟨_, List.getElem?_eq_getElem (by omega)⟩
      have hc : wr.cell? ⟨b, off + j, none⟩ = some (.int .u8 (x.toNat : Int)) := (BU.out.2.cell (p := ⟨b, off + j, none⟩) hlb).trans (hce j x hx)
      have hx2 : x.toNat < 256 := x.toNat_lt
      go_wp2_with fail
      simp only [hexS_at]
      have hle : (120 :: (l.take j).flatMap hexB).length = j + j + 1 := by rw [List.length_cons, hex_len, List.length_take]; omega
      refine (bWrite w w.heap.size _ _ _ BU.out (by omega)).mono ?_
      rintro e w2 ⟨rfl, hb2⟩
      have B2 := Lib.hid hb2
      clear hb2 BU
      go_wp2_with fail
      simp only [hexS_at]
      refine (bWrite w w.heap.size _ _ _ B2.out (by rw [List.length_append, hle, List.length_singleton]; omega)).mono ?_
      rintro e w3 ⟨rfl, hb3⟩
      have B3 := Lib.hid hb3
      clear hb3 B2
      go_wp2_with fail
      go_roundw
      case rel =>
        refine ⟨j + 1, by go_num, by omega, ?_⟩
        rw [List.take_add_one, hx]
        have h3 := B3.out
        simpa [hexB] using h3
      case measure => simp [intOf]; omega
    · have d1 : decide (j < n) = false := by simpa using hlt
      obtain rfl : j = n := by omega
      go_wp2_with fail
      refine (bString w w.heap.size _ _ BU.out).mono ?_
      rintro e w2 ⟨rfl, hb2⟩
      go_wp2_with fail
      go_ret
      refine ⟨?_, hb2⟩
      rw [List.take_of_length_le (by omega)]
      rfl
end
end Go.Proofs.YtkkmojbaoflafaaDoor
