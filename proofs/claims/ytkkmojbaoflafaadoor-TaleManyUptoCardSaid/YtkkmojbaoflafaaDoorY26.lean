/- The step that any line is, or that it is none: TaleSteps. No condition beyond those that each theorem states. -/
import Derived.Test.YtkkmojbaoflafaaDoorY13
import Derived.Test.YtkkmojbaoflafaaDoorY15
import Derived.Test.YtkkmojbaoflafaaDoorY25
namespace Go.Proofs.YtkkmojbaoflafaaDoor
open Go.RowKit Go.Shelf
attribute [local go_sem] Oper.semAt_some

def codeS (o : Option StepV) : Int := if o.isSome then 0 else 15
theorem told_any {w w' : World} {o : Option StepV} {e : Ending} (h : StepTold w o e w') : ∃ A c, e = .returned (.tuple #[stepV (o.getD zeroS) A c, .int .i64 (codeS o)]) ∧ BytesIn w' A (o.getD zeroS).data.length (o.getD zeroS).data := by
  cases o with
  | none => exact ⟨none, 0, h, BytesIn.empty _ _⟩
  | some x =>
    obtain ⟨A, c, he, hd, _⟩ := h
    exact ⟨A, c, he, hd.bytes⟩
theorem rtold_any {w w' : World} {o : Option StepV} {e : Ending} (h : RStepTold w o e w') : ∃ A c, e = .returned (.tuple #[stepV (o.getD zeroS) A c, .int .i64 (codeS o)]) ∧ BytesIn w' A (o.getD zeroS).data.length (o.getD zeroS).data := by
  cases o with
  | none => exact ⟨none, 0, h, BytesIn.empty _ _⟩
  | some x =>
    obtain ⟨A, c, he, hd⟩ := h
    exact ⟨A, c, he, hd.bytes⟩
set_option maxHeartbeats 4000000 in
set_option maxRecDepth 100000 in
theorem steps_walk (s : Str) (w : World) (he : Env w) :
    Calls Tryd.prog 4 #[strV s] w fun e w' => e = .returned (.bool true) ∧ Below w.heap.size w w' := by
  have HE := Lib.hid he
  clear he
  by_cases hl : 5000 < s.length
  · have d1 : decide ((5000 : Int) < (s.length : Int)) = true := decide_eq_true (by omega)
    have d2 : (5000 : Int) < (s.length : Int) := by omega
    go_enter Tryd.func4, Tryd.ntmps4
    go_wp2_with (
      go_at_call 11
      refine (tAwake w HE.out).mono ?_
      rintro e w4 ⟨rfl, hb4⟩
      have B4 := Lib.hid hb4
      clear hb4)
    go_ret
    exact ⟨rfl, B4.out⟩
  · have d1 : decide ((5000 : Int) < (s.length : Int)) = false := decide_eq_false (by omega)
    have d2 : ¬ (5000 : Int) < (s.length : Int) := by omega
    have TS := Lib.hid (tStep s w HE.out (by omega))
    obtain ⟨z, hz⟩ : ∃ z, (stepT s).getD zeroS = z := ⟨_, rfl⟩
    obtain ⟨cd, hcd⟩ : ∃ z, codeS (stepT s) = z := ⟨_, rfl⟩
    have SS := Lib.hid (show sameT z z = true from same_iff.2 rfl)
    go_enter Tryd.func4, Tryd.ntmps4
    go_upto_region 4 with (
      go_at_call 12
      refine TS.out.mono ?_
      rintro e w4 ⟨htold, hb4⟩
      obtain ⟨Z, cz, rfl, hd4⟩ := told_any htold
      rw [hz] at hd4
      rw [hz, hcd]
      have B4 := Lib.hid hb4
      have D4 := Lib.hid hd4
      clear hb4 htold hd4
      unfold stepV)
    obtain ⟨w5, hw5⟩ : ∃ v, w4.alloc (.cells #[.int .i64 z.kind, .int .i64 z.a, .int .i64 z.b, .string ⟨z.key.toArray⟩, .slice Z z.data.length cz] 24) = v := ⟨_, rfl⟩
    have B5 := Lib.hid (show Below w.heap.size w w5 by rw [← hw5]; exact B4.out.alloc B4.out.size _)
    have Z5 := Lib.hid (show Blk w5 w4.heap.size 24 (stepCells z Z cz) by rw [← hw5]; exact Blk.made _ _ _)
    have D5 := Lib.hid (show BytesIn w5 Z z.data.length z.data by rw [← hw5]; exact D4.out.below ((Below.refl _ w4).alloc (Nat.le_refl _) _))
    rw [hw5]
    clear hw5
    have RS := Lib.hid (rStep s w5 (by omega))
    go_upto_region 5 with (
      go_at_call 14
      refine RS.out.mono ?_
      rintro e w6 ⟨htold, hb6⟩
      obtain ⟨Y, cy, rfl, hd6⟩ := rtold_any htold
      rw [hz] at hd6
      rw [hz, hcd]
      have B6 := Lib.hid (show Below w.heap.size w w6 from B5.out.trans (hb6.mono B5.out.size))
      have Z6 := Lib.hid (Z5.out.below hb6 Z5.out.size)
      have DX6 := Lib.hid (D5.out.below hb6)
      have DY6 := Lib.hid hd6
      clear hb6 htold hd6
      unfold stepV)
    obtain ⟨w7, hw7⟩ : ∃ v, w6.alloc (.cells #[.int .i64 z.kind, .int .i64 z.a, .int .i64 z.b, .string ⟨z.key.toArray⟩, .slice Y z.data.length cy] 24) = v := ⟨_, rfl⟩
    have hb67 : Below w6.heap.size w6 w7 := by rw [← hw7]; exact (Below.refl _ w6).alloc (Nat.le_refl _) _
    have B7 := Lib.hid (show Below w.heap.size w w7 from B6.out.trans (hb67.mono B6.out.size))
    have X7 := Lib.hid (Z6.out.below hb67 Z6.out.size)
    have Y7 := Lib.hid (show Blk w7 w6.heap.size 24 (stepCells z Y cy) by rw [← hw7]; exact Blk.made _ _ _)
    have DX7 := Lib.hid (DX6.out.below hb67)
    have DY7 := Lib.hid (DY6.out.below hb67)
    rw [hw7]
    clear hw7 hb67 hz hcd TS RS
    go_wp2_with (first
      | (go_at_call 11
         refine (tAwake w7 (HE.out.below B7.out)).mono ?_
         rintro e w8 ⟨rfl, hb8⟩
         have B8 := Lib.hid (show Below w.heap.size w w8 from B7.out.trans (hb8.mono B7.out.size))
         have X8 := Lib.hid (X7.out.below hb8 X7.out.size)
         have Y8 := Lib.hid (Y7.out.below hb8 Y7.out.size)
         have SM := Lib.hid (tSame z z Z Y cz cy w8 (DX7.out.below hb8) (DY7.out.below hb8))
         rw [SS.out] at SM
         simp only [stepV] at SM
         clear hb8
         have x0 : w8.cell? ⟨w4.heap.size, 0, none⟩ = some (.int .i64 z.kind) := X8.out.cell 0
         have x1 : w8.cell? ⟨w4.heap.size, 1, none⟩ = some (.int .i64 z.a) := X8.out.cell 1
         have x2 : w8.cell? ⟨w4.heap.size, 2, none⟩ = some (.int .i64 z.b) := X8.out.cell 2
         have x3 : w8.cell? ⟨w4.heap.size, 3, none⟩ = some (strV z.key) := X8.out.cell 3
         have x4 : w8.cell? ⟨w4.heap.size, 4, none⟩ = some (.slice Z z.data.length cz) := X8.out.cell 4
         have y0 : w8.cell? ⟨w6.heap.size, 0, none⟩ = some (.int .i64 z.kind) := Y8.out.cell 0
         have y1 : w8.cell? ⟨w6.heap.size, 1, none⟩ = some (.int .i64 z.a) := Y8.out.cell 1
         have y2 : w8.cell? ⟨w6.heap.size, 2, none⟩ = some (.int .i64 z.b) := Y8.out.cell 2
         have y3 : w8.cell? ⟨w6.heap.size, 3, none⟩ = some (strV z.key) := Y8.out.cell 3
         have y4 : w8.cell? ⟨w6.heap.size, 4, none⟩ = some (.slice Y z.data.length cy) := Y8.out.cell 4)
      | (go_at_call 13
         refine SM.out.mono ?_
         rintro e w9 ⟨rfl, hb9⟩
         have B9 := Lib.hid (show Below w.heap.size w w9 from B8.out.trans (hb9.mono B8.out.size))
         clear hb9))
    go_ret
    exact ⟨rfl, B9.out⟩
end Go.Proofs.YtkkmojbaoflafaaDoor
