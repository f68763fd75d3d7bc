/- Any step as a line, and read again: TaleLines. No condition beyond those that each theorem states. -/
import Derived.Test.YtkkmojbaoflafaaDoorY16
import Derived.Test.YtkkmojbaoflafaaDoorY26
import Derived.Test.YtkkmojbaoflafaaDoorY29
namespace Go.Proofs.YtkkmojbaoflafaaDoor
open Go.RowKit Go.Shelf
attribute [local go_sem] Oper.semAt_some

theorem lines_len {x : StepV} {s : Str} (h : lineT x = some s) (ha : Wf64 x.a) (hb : Wf64 x.b) : s.length ≤ 100 + 2 * x.key.length + 2 * x.data.length := by
  unfold lineT at h
  cases hf : formAt x.kind with
  | none => rw [hf] at h; cases h
  | some f =>
    rw [hf] at h
    simp only at h
    have hm : f ∈ formsT := by
      unfold formAt at hf
      split at hf
      · exact List.mem_of_getElem? hf
      · cases hf
    split at h
    · obtain rfl := Option.some.inj h
      exact line_len hm ha hb
    · cases h
set_option maxHeartbeats 4000000 in
set_option maxRecDepth 100000 in
theorem lines_walk (x : StepV) (A : Option Addr) (c : Nat) (w : World) (he : Env w) (hx : BytesIn w A x.data.length x.data) (hxa : Wf64 x.a) (hxb : Wf64 x.b) (hxs : x.key.length + x.data.length ≤ 100000000) :
    Calls Tryd.prog 3 #[stepV x A c] w fun e w' => e = .returned (.bool true) ∧ Below w.heap.size w w' := by
  have HE := Lib.hid he
  have HX := Lib.hid (And.intro hx (And.intro hxa (And.intro hxb hxs)))
  clear he hx hxa hxb hxs
  obtain ⟨w0, hw0⟩ : ∃ z, w.alloc (.cells (stepCells x A c) 24) = z := ⟨_, rfl⟩
  have B0 := Lib.hid (show Below w.heap.size w w0 by rw [← hw0]; exact (Below.refl _ w).alloc (Nat.le_refl _) _)
  have X0 := Lib.hid (show Blk w0 w.heap.size 24 (stepCells x A c) by rw [← hw0]; exact Blk.made _ _ _)
  have L1 := Lib.hid (tLine x A c w0 (HX.out.1.below B0.out) HX.out.2.1 HX.out.2.2.1 (HE.out.below B0.out) (by have := HX.out.2.2.2; omega))
  simp only [lineV_eq, stepV] at L1
  obtain ⟨sx, hsx⟩ : ∃ v, lineS (lineT x) = v := ⟨_, rfl⟩
  obtain ⟨ex, hex⟩ : ∃ v, lineE (lineT x) = v := ⟨_, rfl⟩
  rw [hsx, hex] at L1
  have HSX := Lib.hid (And.intro hsx hex)
  clear hsx hex
  simp only [stepCells] at hw0
  unfold stepV
  go_enter Tryd.func3, Tryd.ntmps3
  go_upto_region 1 with fail
  clear hw0
  have x0 : w0.cell? ⟨w.heap.size, 0, none⟩ = some (.int .i64 x.kind) := X0.out.cell 0
  have x1 : w0.cell? ⟨w.heap.size, 1, none⟩ = some (.int .i64 x.a) := X0.out.cell 1
  have x2 : w0.cell? ⟨w.heap.size, 2, none⟩ = some (.int .i64 x.b) := X0.out.cell 2
  have x3 : w0.cell? ⟨w.heap.size, 3, none⟩ = some (strV x.key) := X0.out.cell 3
  have x4 : w0.cell? ⟨w.heap.size, 4, none⟩ = some (.slice A x.data.length c) := X0.out.cell 4
  go_upto_region 2 with (
    go_at_call 9
    refine L1.out.mono ?_
    rintro e w1 ⟨rfl, hb1⟩
    have B1 := Lib.hid (show Below w.heap.size w w1 from B0.out.trans (hb1.mono B0.out.size))
    have X1 := Lib.hid (X0.out.below hb1 X0.out.size)
    clear hb1)
  have L2 := Lib.hid (rLine x A c w1 (HX.out.1.below B1.out) HX.out.2.1 HX.out.2.2.1 (by have := HX.out.2.2.2; omega))
  simp only [lineV_eq, stepV] at L2
  rw [HSX.out.1, HSX.out.2] at L2
  clear L1 X0 x0 x1 x2 x3 x4
  have y0 : w1.cell? ⟨w.heap.size, 0, none⟩ = some (.int .i64 x.kind) := X1.out.cell 0
  have y1 : w1.cell? ⟨w.heap.size, 1, none⟩ = some (.int .i64 x.a) := X1.out.cell 1
  have y2 : w1.cell? ⟨w.heap.size, 2, none⟩ = some (.int .i64 x.b) := X1.out.cell 2
  have y3 : w1.cell? ⟨w.heap.size, 3, none⟩ = some (strV x.key) := X1.out.cell 3
  have y4 : w1.cell? ⟨w.heap.size, 4, none⟩ = some (.slice A x.data.length c) := X1.out.cell 4
  go_upto_region 3 with (
    go_at_call 10
    refine L2.out.mono ?_
    rintro e w2 ⟨rfl, hb2⟩
    have B2 := Lib.hid (show Below w.heap.size w w2 from B1.out.trans (hb2.mono B1.out.size))
    have X2 := Lib.hid (X1.out.below hb2 X1.out.size)
    clear hb2)
  clear L2 X1 y0 y1 y2 y3 y4
  cases hlx : lineT x with
  | none =>
    obtain rfl : sx = [] := by rw [← HSX.out.1, hlx]; rfl
    obtain rfl : ex = 1 := by rw [← HSX.out.2, hlx]; rfl
    clear hlx HSX
    go_wp2_with (
      go_at_call 11
      refine (tAwake w2 (HE.out.below B2.out)).mono ?_
      rintro e w4 ⟨rfl, hb4⟩
      have B4 := Lib.hid (show Below w.heap.size w w4 from B2.out.trans (hb4.mono B2.out.size))
      clear hb4)
    go_ret
    exact ⟨rfl, B4.out⟩
  | some lx =>
    have hll := lines_len hlx HX.out.2.1 HX.out.2.2.1
    have TS := Lib.hid (tStep lx w2 (HE.out.below B2.out) (by have := HX.out.2.2.2; omega))
    rw [line_step hlx HX.out.2.1 HX.out.2.2.1] at TS
    obtain rfl : sx = lx := by rw [← HSX.out.1, hlx]; rfl
    obtain rfl : ex = 0 := by rw [← HSX.out.2, hlx]; rfl
    clear hlx HSX hll
    go_upto_region 8 with (
      go_at_call 12
      refine TS.out.mono ?_
      rintro e w4 ⟨⟨Z, cz, rfl, hd, _⟩, hb4⟩
      have B4 := Lib.hid (show Below w.heap.size w w4 from B2.out.trans (hb4.mono B2.out.size))
      have X4 := Lib.hid (X2.out.below hb4 X2.out.size)
      have D4 := Lib.hid hd.bytes
      clear hb4 hd
      unfold stepV)
    obtain ⟨w5, hw5⟩ : ∃ v, w4.alloc (.cells #[.int .i64 x.kind, .int .i64 x.a, .int .i64 x.b, .string ⟨x.key.toArray⟩, .slice Z x.data.length cz] 24) = v := ⟨_, rfl⟩
    have hb45 : Below w4.heap.size w4 w5 := by rw [← hw5]; exact (Below.refl _ w4).alloc (Nat.le_refl _) _
    have B5 := Lib.hid (show Below w.heap.size w w5 from B4.out.trans (hb45.mono B4.out.size))
    have X5 := Lib.hid (X4.out.below hb45 X4.out.size)
    have Z5 := Lib.hid (show Blk w5 w4.heap.size 24 (stepCells x Z cz) by rw [← hw5]; exact Blk.made _ _ _)
    have D5 := Lib.hid (D4.out.below hb45)
    rw [hw5]
    clear hw5 hb45
    go_wp2_with (first
      | (go_at_call 11
         refine (tAwake w5 (HE.out.below B5.out)).mono ?_
         rintro e w8 ⟨rfl, hb8⟩
         have B8 := Lib.hid (show Below w.heap.size w w8 from B5.out.trans (hb8.mono B5.out.size))
         have X8 := Lib.hid (X5.out.below hb8 X5.out.size)
         have Y8 := Lib.hid (Z5.out.below hb8 Z5.out.size)
         have SM := Lib.hid (tSame x x A Z c cz w8 (HX.out.1.below B8.out) (D5.out.below hb8))
         rw [same_iff.2 rfl] at SM
         simp only [stepV] at SM
         clear hb8
         have x0 : w8.cell? ⟨w.heap.size, 0, none⟩ = some (.int .i64 x.kind) := X8.out.cell 0
         have x1 : w8.cell? ⟨w.heap.size, 1, none⟩ = some (.int .i64 x.a) := X8.out.cell 1
         have x2 : w8.cell? ⟨w.heap.size, 2, none⟩ = some (.int .i64 x.b) := X8.out.cell 2
         have x3 : w8.cell? ⟨w.heap.size, 3, none⟩ = some (strV x.key) := X8.out.cell 3
         have x4 : w8.cell? ⟨w.heap.size, 4, none⟩ = some (.slice A x.data.length c) := X8.out.cell 4
         have y0 : w8.cell? ⟨w4.heap.size, 0, none⟩ = some (.int .i64 x.kind) := Y8.out.cell 0
         have y1 : w8.cell? ⟨w4.heap.size, 1, none⟩ = some (.int .i64 x.a) := Y8.out.cell 1
         have y2 : w8.cell? ⟨w4.heap.size, 2, none⟩ = some (.int .i64 x.b) := Y8.out.cell 2
         have y3 : w8.cell? ⟨w4.heap.size, 3, none⟩ = some (strV x.key) := Y8.out.cell 3
         have y4 : w8.cell? ⟨w4.heap.size, 4, none⟩ = some (.slice Z x.data.length cz) := Y8.out.cell 4)
      | (go_at_call 13
         refine SM.out.mono ?_
         rintro e w9 ⟨rfl, hb9⟩
         have B9 := Lib.hid (show Below w.heap.size w w9 from B8.out.trans (hb9.mono B8.out.size))
         clear hb9))
    go_ret
    exact ⟨rfl, B9.out⟩
end Go.Proofs.YtkkmojbaoflafaaDoor
