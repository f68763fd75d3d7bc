/- The document's questions over a list of records. No condition beyond those that each theorem states. -/
import Derived.Test.YthceidacmeadkaaU2
import Derived.Test.YthceidacmeadkaaSL
namespace Go.Proofs.Ythceidacmeadkaa
open Go.RowKit Go.Maps Go.WideMaps Go.Sort Go.Shelf
attribute [local go_sem] Oper.semAt_some

theorem any_take {P : List FoundP} {f : FoundP → Bool} {i : Nat} {p : FoundP} (h : P[i]? = some p) : (P.take (i + 1)).any f = ((P.take i).any f || f p) := by
  rw [List.take_add_one, h]
  simp [List.any_append]
theorem any_here {P : List FoundP} {f : FoundP → Bool} {i : Nat} {p : FoundP} (h : P[i]? = some p) (hf : f p = true) : P.any f = true := List.any_eq_true.2 ⟨p, List.mem_of_getElem? h, hf⟩
def toldB (r : RecV) (p : FoundP) : Bool := decide (p.r.kind = 2) && (decide (p.r.gen = r.gen) && (decide (p.r.size = r.size) && (decide (p.r.key = r.key) && decide (p.r.sum = r.sum))))
def deadB (k : Str) (gn : Int) (p : FoundP) : Bool := decide (p.r.kind = 3) && (decide (p.r.key = k) && decide (gn ≤ p.r.gen))
set_option maxHeartbeats 8000000
set_option maxRecDepth 100000
theorem sTold10 (A : Option Addr) (n c : Nat) (P : List FoundP) (r : RecV) (RA : Option Addr) (rc : Nat) (w : World) (hP : P.length = n) (_ : n ≤ c) (hn : n ≤ 1000000) (hS : SrcAt w A n (foundVals P)) :
    Calls Try.prog 27 #[.slice A n c, recV r RA rc] w fun e w' => e = .returned (.bool (P.any (toldB r))) ∧ Below w.heap.size w w' := by
  have HP := Lib.hid hP
  have S0 := Lib.hid hS
  clear hP hS
  obtain ⟨F, hF⟩ : ∃ F, toldB r = F := ⟨_, rfl⟩
  rw [hF]
  have HF := Lib.hid hF
  clear hF
  obtain ⟨w0, hw0⟩ : ∃ z, w.alloc (.cells #[.int .i64 r.kind, .int .i64 r.cart, strV r.key, .int .i64 r.gen, .int .i64 r.group, .int .i64 r.groups, .int .i64 r.index, .int .i64 r.size, strV r.sum, .slice RA r.data.length rc] 37) = z := ⟨_, rfl⟩
  have BX := Lib.hid (show Blk w0 w.heap.size 37 #[.int .i64 r.kind, .int .i64 r.cart, strV r.key, .int .i64 r.gen, .int .i64 r.group, .int .i64 r.groups, .int .i64 r.index, .int .i64 r.size, strV r.sum, .slice RA r.data.length rc] by rw [← hw0]; exact Blk.made _ _ _)
  have B0 := Lib.hid (show Below w.heap.size w w0 by rw [← hw0]; exact below_al7 w _)
  have hz0 := BX.out.size
  have S1 := Lib.hid (src_below S0.out B0.out)
  clear S0
  unfold recV recCells
  go_enter Try.func27, Try.ntmps27
  go_upto_region 1 with fail
  clear hw0
  go_wp2_with fail
  go_loopw [5] (fun iv wr => ∃ i : Nat, iv = .int .i64 (i : Int) ∧ i ≤ n ∧ (P.take i).any F = false ∧ Below w0.heap.size w0 wr) (fun iv _ => n - (intOf iv).toNat)
  case atStart => exact ⟨0, rfl, Nat.zero_le _, rfl, Below.refl _ _⟩
  case round =>
    obtain ⟨i, rfl, hi, hfi, hbl⟩ := hrel
    obtain ⟨wo, rfl⟩ : ∃ wo : World, wo = wr := ⟨_, rfl⟩
    have FI := Lib.hid hfi
    have BL := Lib.hid hbl
    have hzo := hbl.size
    clear hfi hbl
    by_cases hlt : i < n
    · have e1 : decide (i < n) = true := decide_eq_true hlt
      have e2 : decide ((i : Int) < (n : Int)) = true := decide_eq_true (by omega)
      have e3 : (i : Int) < (n : Int) := by omega
      have e4 : (0 : Int) ≤ (i : Int) := by omega
      have p9 : IntKind.i64.wrap ((i : Int) + 1) = ((i + 1 : Nat) : Int) := by rw [IntWalk.i64_in _ (by omega)]; omega
      obtain ⟨p, hp⟩ : ∃ p, P[i]? = some p := ⟨_, List.getElem?_eq_getElem (by rw [HP.out]; exact hlt)⟩
      obtain ⟨b, o, hAe, hc⟩ := src_some S1.out (by omega)
      subst hAe
      have y2 := hc (i * 12 + 2) (.int .i64 p.r.kind) (by rw [foundVals_get hp (by omega)]; rfl)
      have x2 : wo.cell? ⟨b, o + i * 12 + 2, none⟩ = some (.int .i64 p.r.kind) := keepc BL.out (World.block_lt_of_cell? _ _ y2) (by rw [show o + i * 12 + 2 = o + (i * 12 + 2) by omega]; exact y2)
      have y4 := hc (i * 12 + 4) (strV p.r.key) (by rw [foundVals_get hp (by omega)]; rfl)
      have x4 : wo.cell? ⟨b, o + i * 12 + 4, none⟩ = some (strV p.r.key) := keepc BL.out (World.block_lt_of_cell? _ _ y4) (by rw [show o + i * 12 + 4 = o + (i * 12 + 4) by omega]; exact y4)
      have y5 := hc (i * 12 + 5) (.int .i64 p.r.gen) (by rw [foundVals_get hp (by omega)]; rfl)
      have x5 : wo.cell? ⟨b, o + i * 12 + 5, none⟩ = some (.int .i64 p.r.gen) := keepc BL.out (World.block_lt_of_cell? _ _ y5) (by rw [show o + i * 12 + 5 = o + (i * 12 + 5) by omega]; exact y5)
      have y9 := hc (i * 12 + 9) (.int .i64 p.r.size) (by rw [foundVals_get hp (by omega)]; rfl)
      have x9 : wo.cell? ⟨b, o + i * 12 + 9, none⟩ = some (.int .i64 p.r.size) := keepc BL.out (World.block_lt_of_cell? _ _ y9) (by rw [show o + i * 12 + 9 = o + (i * 12 + 9) by omega]; exact y9)
      have y10 := hc (i * 12 + 10) (strV p.r.sum) (by rw [foundVals_get hp (by omega)]; rfl)
      have x10 : wo.cell? ⟨b, o + i * 12 + 10, none⟩ = some (strV p.r.sum) := keepc BL.out (World.block_lt_of_cell? _ _ y10) (by rw [show o + i * 12 + 10 = o + (i * 12 + 10) by omega]; exact y10)
      clear y2 y4 y5 y9 y10
      have HPI := Lib.hid hp
      clear hc hp
      have t0 : wo.cell? ⟨w.heap.size, 0, none⟩ = some (.int .i64 r.kind) := keepc BL.out hz0 (BX.out.cell 0)
      have t1 : wo.cell? ⟨w.heap.size, 1, none⟩ = some (.int .i64 r.cart) := keepc BL.out hz0 (BX.out.cell 1)
      have t2 : wo.cell? ⟨w.heap.size, 2, none⟩ = some (strV r.key) := keepc BL.out hz0 (BX.out.cell 2)
      have t3 : wo.cell? ⟨w.heap.size, 3, none⟩ = some (.int .i64 r.gen) := keepc BL.out hz0 (BX.out.cell 3)
      have t4 : wo.cell? ⟨w.heap.size, 4, none⟩ = some (.int .i64 r.group) := keepc BL.out hz0 (BX.out.cell 4)
      have t5 : wo.cell? ⟨w.heap.size, 5, none⟩ = some (.int .i64 r.groups) := keepc BL.out hz0 (BX.out.cell 5)
      have t6 : wo.cell? ⟨w.heap.size, 6, none⟩ = some (.int .i64 r.index) := keepc BL.out hz0 (BX.out.cell 6)
      have t7 : wo.cell? ⟨w.heap.size, 7, none⟩ = some (.int .i64 r.size) := keepc BL.out hz0 (BX.out.cell 7)
      have t8 : wo.cell? ⟨w.heap.size, 8, none⟩ = some (strV r.sum) := keepc BL.out hz0 (BX.out.cell 8)
      have t9 : wo.cell? ⟨w.heap.size, 9, none⟩ = some (.slice RA r.data.length rc) := keepc BL.out hz0 (BX.out.cell 9)
      by_cases c0 : p.r.kind = 2
      · have q0 : (p.r.kind == 2) = true := by simpa using c0
        by_cases c1 : p.r.gen = r.gen
        · have q1 : (p.r.gen == r.gen) = true := by simpa using c1
          by_cases c2 : p.r.size = r.size
          · have q2 : (p.r.size == r.size) = true := by simpa using c2
            by_cases c3 : p.r.key = r.key
            · have q3 : (p.r.key == r.key) = true := by simpa using c3
              by_cases c4 : p.r.sum = r.sum
              · have q4 : (p.r.sum == r.sum) = true := by simpa using c4
                have V := Lib.hid (show F p = true by rw [← HF.out]; unfold toldB; simp only [decide_eq_true c0, decide_eq_true c1, decide_eq_true c2, decide_eq_true c3, decide_eq_true c4, Bool.true_and])
                clear c0 c1 c2 c3 c4
                go_upto_region 4 with fail
                go_quiet (fail)
                go_wp2_with fail
                go_ret
                rw [any_here HPI.out V.out]
                exact ⟨rfl, B0.out.trans ((below_drewN BL.out _).mono (by omega))⟩
              · have q4 : (p.r.sum == r.sum) = false := by simpa using c4
                have p4 : (⟨(p.r.sum).toArray⟩ : ByteArray) ≠ ⟨(r.sum).toArray⟩ := fun h => c4 (by have h2 := congrArg (fun b => b.data.toList) h; simpa using h2)
                have V := Lib.hid (show F p = false by rw [← HF.out]; unfold toldB; simp only [decide_eq_true c0, decide_eq_true c1, decide_eq_true c2, decide_eq_true c3, decide_eq_false c4, Bool.true_and])
                clear c0 c1 c2 c3 c4
                go_upto_region 4 with fail
                go_quiet (fail)
                go_wp2_with fail
                go_roundw
                case rel => first | exact ⟨i + 1, rfl, hlt, by rw [any_take HPI.out, FI.out, V.out]; rfl, below_drewN BL.out _⟩ | ((repeat apply Exists.intro); exact ⟨⟨i + 1, rfl, hlt, by rw [any_take HPI.out, FI.out, V.out]; rfl, below_drewN BL.out _⟩, rfl⟩)
                case measure => (simp only [intOf]; omega)
            · have q3 : (p.r.key == r.key) = false := by simpa using c3
              have p3 : (⟨(p.r.key).toArray⟩ : ByteArray) ≠ ⟨(r.key).toArray⟩ := fun h => c3 (by have h2 := congrArg (fun b => b.data.toList) h; simpa using h2)
              have V := Lib.hid (show F p = false by rw [← HF.out]; unfold toldB; simp only [decide_eq_true c0, decide_eq_true c1, decide_eq_true c2, decide_eq_false c3, Bool.true_and, Bool.false_and])
              clear c0 c1 c2 c3
              go_upto_region 4 with fail
              go_quiet (fail)
              go_wp2_with fail
              go_roundw
              case rel => first | exact ⟨i + 1, rfl, hlt, by rw [any_take HPI.out, FI.out, V.out]; rfl, below_drewN BL.out _⟩ | ((repeat apply Exists.intro); exact ⟨⟨i + 1, rfl, hlt, by rw [any_take HPI.out, FI.out, V.out]; rfl, below_drewN BL.out _⟩, rfl⟩)
              case measure => (simp only [intOf]; omega)
          · have q2 : (p.r.size == r.size) = false := by simpa using c2
            have V := Lib.hid (show F p = false by rw [← HF.out]; unfold toldB; simp only [decide_eq_true c0, decide_eq_true c1, decide_eq_false c2, Bool.true_and, Bool.false_and])
            clear c0 c1 c2
            go_upto_region 4 with fail
            go_quiet (fail)
            go_wp2_with fail
            go_roundw
            case rel => first | exact ⟨i + 1, rfl, hlt, by rw [any_take HPI.out, FI.out, V.out]; rfl, below_drewN BL.out _⟩ | ((repeat apply Exists.intro); exact ⟨⟨i + 1, rfl, hlt, by rw [any_take HPI.out, FI.out, V.out]; rfl, below_drewN BL.out _⟩, rfl⟩)
            case measure => (simp only [intOf]; omega)
        · have q1 : (p.r.gen == r.gen) = false := by simpa using c1
          have V := Lib.hid (show F p = false by rw [← HF.out]; unfold toldB; simp only [decide_eq_true c0, decide_eq_false c1, Bool.true_and, Bool.false_and])
          clear c0 c1
          go_upto_region 4 with fail
          go_quiet (fail)
          go_wp2_with fail
          go_roundw
          case rel => first | exact ⟨i + 1, rfl, hlt, by rw [any_take HPI.out, FI.out, V.out]; rfl, below_drewN BL.out _⟩ | ((repeat apply Exists.intro); exact ⟨⟨i + 1, rfl, hlt, by rw [any_take HPI.out, FI.out, V.out]; rfl, below_drewN BL.out _⟩, rfl⟩)
          case measure => (simp only [intOf]; omega)
      · have q0 : (p.r.kind == 2) = false := by simpa using c0
        have V := Lib.hid (show F p = false by rw [← HF.out]; unfold toldB; simp only [decide_eq_false c0, Bool.false_and])
        clear c0
        go_upto_region 4 with fail
        go_quiet (fail)
        go_wp2_with fail
        go_roundw
        case rel => first | exact ⟨i + 1, rfl, hlt, by rw [any_take HPI.out, FI.out, V.out]; rfl, below_drewN BL.out _⟩ | ((repeat apply Exists.intro); exact ⟨⟨i + 1, rfl, hlt, by rw [any_take HPI.out, FI.out, V.out]; rfl, below_drewN BL.out _⟩, rfl⟩)
        case measure => (simp only [intOf]; omega)
    · have e1 : decide (i < n) = false := decide_eq_false hlt
      have e2 : decide ((i : Int) < (n : Int)) = false := decide_eq_false (by omega)
      have VF := Lib.hid (show P.any F = false by have h := FI.out; rwa [List.take_of_length_le (by rw [HP.out]; omega)] at h)
      go_wp2_with fail
      go_ret
      rw [VF.out]
      exact ⟨rfl, B0.out.trans (BL.out.mono (by omega))⟩
theorem sDead10 (A : Option Addr) (n c : Nat) (P : List FoundP) (k : Str) (gn sz : Int) (sm : Str) (V : Value) (w : World) (hP : P.length = n) (_ : n ≤ c) (hn : n ≤ 1000000) (hS : SrcAt w A n (foundVals P)) :
    Calls Try.prog 30 #[.slice A n c, .agg #[strV k, .int .i64 gn, .int .i64 sz, strV sm, V]] w fun e w' => e = .returned (.bool (P.any (deadB k gn))) ∧ Below w.heap.size w w' := by
  have HP := Lib.hid hP
  have S0 := Lib.hid hS
  clear hP hS
  obtain ⟨F, hF⟩ : ∃ F, deadB k gn = F := ⟨_, rfl⟩
  rw [hF]
  have HF := Lib.hid hF
  clear hF
  obtain ⟨w0, hw0⟩ : ∃ z, w.alloc (.cells #[strV k, .int .i64 gn, .int .i64 sz, strV sm, V] 32) = z := ⟨_, rfl⟩
  have BX := Lib.hid (show Blk w0 w.heap.size 32 #[strV k, .int .i64 gn, .int .i64 sz, strV sm, V] by rw [← hw0]; exact Blk.made _ _ _)
  have B0 := Lib.hid (show Below w.heap.size w w0 by rw [← hw0]; exact below_al7 w _)
  have hz0 := BX.out.size
  have S1 := Lib.hid (src_below S0.out B0.out)
  clear S0
  go_enter Try.func30, Try.ntmps30
  go_upto_region 1 with fail
  clear hw0
  go_wp2_with fail
  go_loopw [5] (fun iv wr => ∃ i : Nat, iv = .int .i64 (i : Int) ∧ i ≤ n ∧ (P.take i).any F = false ∧ Below w0.heap.size w0 wr) (fun iv _ => n - (intOf iv).toNat)
  case atStart => exact ⟨0, rfl, Nat.zero_le _, rfl, Below.refl _ _⟩
  case round =>
    obtain ⟨i, rfl, hi, hfi, hbl⟩ := hrel
    obtain ⟨wo, rfl⟩ : ∃ wo : World, wo = wr := ⟨_, rfl⟩
    have FI := Lib.hid hfi
    have BL := Lib.hid hbl
    have hzo := hbl.size
    clear hfi hbl
    by_cases hlt : i < n
    · have e1 : decide (i < n) = true := decide_eq_true hlt
      have e2 : decide ((i : Int) < (n : Int)) = true := decide_eq_true (by omega)
      have e3 : (i : Int) < (n : Int) := by omega
      have e4 : (0 : Int) ≤ (i : Int) := by omega
      have p9 : IntKind.i64.wrap ((i : Int) + 1) = ((i + 1 : Nat) : Int) := by rw [IntWalk.i64_in _ (by omega)]; omega
      obtain ⟨p, hp⟩ : ∃ p, P[i]? = some p := ⟨_, List.getElem?_eq_getElem (by rw [HP.out]; exact hlt)⟩
      obtain ⟨b, o, hAe, hc⟩ := src_some S1.out (by omega)
      subst hAe
      have y2 := hc (i * 12 + 2) (.int .i64 p.r.kind) (by rw [foundVals_get hp (by omega)]; rfl)
      have x2 : wo.cell? ⟨b, o + i * 12 + 2, none⟩ = some (.int .i64 p.r.kind) := keepc BL.out (World.block_lt_of_cell? _ _ y2) (by rw [show o + i * 12 + 2 = o + (i * 12 + 2) by omega]; exact y2)
      have y4 := hc (i * 12 + 4) (strV p.r.key) (by rw [foundVals_get hp (by omega)]; rfl)
      have x4 : wo.cell? ⟨b, o + i * 12 + 4, none⟩ = some (strV p.r.key) := keepc BL.out (World.block_lt_of_cell? _ _ y4) (by rw [show o + i * 12 + 4 = o + (i * 12 + 4) by omega]; exact y4)
      have y5 := hc (i * 12 + 5) (.int .i64 p.r.gen) (by rw [foundVals_get hp (by omega)]; rfl)
      have x5 : wo.cell? ⟨b, o + i * 12 + 5, none⟩ = some (.int .i64 p.r.gen) := keepc BL.out (World.block_lt_of_cell? _ _ y5) (by rw [show o + i * 12 + 5 = o + (i * 12 + 5) by omega]; exact y5)
      clear y2 y4 y5
      have HPI := Lib.hid hp
      clear hc hp
      have t0 : wo.cell? ⟨w.heap.size, 0, none⟩ = some (strV k) := keepc BL.out hz0 (BX.out.cell 0)
      have t1 : wo.cell? ⟨w.heap.size, 1, none⟩ = some (.int .i64 gn) := keepc BL.out hz0 (BX.out.cell 1)
      have t2 : wo.cell? ⟨w.heap.size, 2, none⟩ = some (.int .i64 sz) := keepc BL.out hz0 (BX.out.cell 2)
      have t3 : wo.cell? ⟨w.heap.size, 3, none⟩ = some (strV sm) := keepc BL.out hz0 (BX.out.cell 3)
      have t4 : wo.cell? ⟨w.heap.size, 4, none⟩ = some (V) := keepc BL.out hz0 (BX.out.cell 4)
      by_cases c0 : p.r.kind = 3
      · have q0 : (p.r.kind == 3) = true := by simpa using c0
        by_cases c1 : p.r.key = k
        · have q1 : (p.r.key == k) = true := by simpa using c1
          by_cases c2 : gn ≤ p.r.gen
          · have q2 : decide (gn ≤ p.r.gen) = true := decide_eq_true c2
            have VV := Lib.hid (show F p = true by rw [← HF.out]; unfold deadB; simp only [decide_eq_true c0, decide_eq_true c1, decide_eq_true c2, Bool.true_and])
            clear c0 c1 c2
            go_upto_region 4 with fail
            go_quiet (fail)
            go_wp2_with fail
            go_ret
            rw [any_here HPI.out VV.out]
            exact ⟨rfl, B0.out.trans ((below_drewN BL.out _).mono (by omega))⟩
          · have q2 : decide (gn ≤ p.r.gen) = false := decide_eq_false c2
            have VV := Lib.hid (show F p = false by rw [← HF.out]; unfold deadB; simp only [decide_eq_true c0, decide_eq_true c1, decide_eq_false c2, Bool.true_and])
            clear c0 c1 c2
            go_upto_region 4 with fail
            go_quiet (fail)
            go_wp2_with fail
            go_roundw
            case rel => first | exact ⟨i + 1, rfl, hlt, by rw [any_take HPI.out, FI.out, VV.out]; rfl, below_drewN BL.out _⟩ | ((repeat apply Exists.intro); exact ⟨⟨i + 1, rfl, hlt, by rw [any_take HPI.out, FI.out, VV.out]; rfl, below_drewN BL.out _⟩, rfl⟩)
            case measure => (simp only [intOf]; omega)
        · have q1 : (p.r.key == k) = false := by simpa using c1
          have p1 : (⟨(p.r.key).toArray⟩ : ByteArray) ≠ ⟨(k).toArray⟩ := fun h => c1 (by have h2 := congrArg (fun b => b.data.toList) h; simpa using h2)
          have VV := Lib.hid (show F p = false by rw [← HF.out]; unfold deadB; simp only [decide_eq_true c0, decide_eq_false c1, Bool.true_and, Bool.false_and])
          clear c0 c1
          go_upto_region 4 with fail
          go_quiet (fail)
          go_wp2_with fail
          go_roundw
          case rel => first | exact ⟨i + 1, rfl, hlt, by rw [any_take HPI.out, FI.out, VV.out]; rfl, below_drewN BL.out _⟩ | ((repeat apply Exists.intro); exact ⟨⟨i + 1, rfl, hlt, by rw [any_take HPI.out, FI.out, VV.out]; rfl, below_drewN BL.out _⟩, rfl⟩)
          case measure => (simp only [intOf]; omega)
      · have q0 : (p.r.kind == 3) = false := by simpa using c0
        have VV := Lib.hid (show F p = false by rw [← HF.out]; unfold deadB; simp only [decide_eq_false c0, Bool.false_and])
        clear c0
        go_upto_region 4 with fail
        go_quiet (fail)
        go_wp2_with fail
        go_roundw
        case rel => first | exact ⟨i + 1, rfl, hlt, by rw [any_take HPI.out, FI.out, VV.out]; rfl, below_drewN BL.out _⟩ | ((repeat apply Exists.intro); exact ⟨⟨i + 1, rfl, hlt, by rw [any_take HPI.out, FI.out, VV.out]; rfl, below_drewN BL.out _⟩, rfl⟩)
        case measure => (simp only [intOf]; omega)
    · have e1 : decide (i < n) = false := decide_eq_false hlt
      have e2 : decide ((i : Int) < (n : Int)) = false := decide_eq_false (by omega)
      have VF := Lib.hid (show P.any F = false by have h := FI.out; rwa [List.take_of_length_le (by rw [HP.out]; omega)] at h)
      go_wp2_with fail
      go_ret
      rw [VF.out]
      exact ⟨rfl, B0.out.trans (BL.out.mono (by omega))⟩
def DataP (w : World) (P : List FoundP) : Prop := ∀ p ∈ P, BytesIn w p.A p.r.data.length p.r.data
theorem DataP.below {w w' : World} {P : List FoundP} (h : DataP w P) (hb : Below w.heap.size w w') : DataP w' P := fun p hp => (h p hp).belowU hb
theorem filter_take {P : List FoundP} {i : Nat} {p : FoundP} (h : P[i]? = some p) : (P.take (i + 1)).filter okF = (P.take i).filter okF ++ (if okF p then [p] else []) := by
  rw [List.take_add_one, h, List.filter_append]
  cases hp : okF p <;> simp [hp]
theorem sCounts10 (A : Option Addr) (n c : Nat) (P : List FoundP) (w : World) (hP : P.length = n) (_ : n ≤ c) (hn : n ≤ 1000000) (hS : SrcAt w A n (foundVals P)) (hD : DataP w P) :
    Calls Try.prog 26 #[.slice A n c] w fun e w' => ∃ v, e = .returned v ∧ w'.ownsRow w.heap.size 39 12 v (P.filter okF).length (foundVals (P.filter okF)) ∧ Below w.heap.size w w' := by
  obtain ⟨i0, hi0, hz0, hz1, hz2⟩ := info_parts found_info
  have HP := Lib.hid hP
  have S1 := Lib.hid hS
  have HD := Lib.hid hD
  clear hP hS hD
  go_enter Try.func26, Try.ntmps26
  go_wp2_with fail
  go_loopw [3, 4] (fun v iv wr => ∃ (i m : Nat) (Q : List FoundP), iv = .int .i64 (i : Int) ∧ i ≤ n ∧ Q = (P.take i).filter okF ∧ Q.length = m ∧ wr.ownsRow w.heap.size 39 12 v m (foundVals Q) ∧ Below w.heap.size w wr) (fun _ iv _ => n - (intOf iv).toNat)
  case atStart => exact ⟨0, 0, [], rfl, Nat.zero_le _, rfl, rfl, own_made _ _ 12 rfl (Nat.le_refl _), below_al7 w _⟩
  case round =>
    obtain ⟨i, m, Q, rfl, hi, hq, hm, hrow, hbl⟩ := hrel
    obtain ⟨wo, rfl⟩ : ∃ wo : World, wo = wr := ⟨_, rfl⟩
    have HQ := Lib.hid hq
    have HM := Lib.hid hm
    have RW := Lib.hid hrow
    have BL := Lib.hid hbl
    have hzo := hbl.size
    have hmn : m ≤ n := by rw [← hm, hq]; exact Nat.le_trans (List.length_filter_le _ _) (by rw [List.length_take]; omega)
    clear hq hm hrow hbl
    obtain ⟨A1, k1, rfl, hn1, hc1, hA1⟩ := own_form RW.out
    by_cases hlt : i < n
    · have e1 : decide (i < n) = true := decide_eq_true hlt
      have e2 : decide ((i : Int) < (n : Int)) = true := decide_eq_true (by omega)
      have e3 : (i : Int) < (n : Int) := by omega
      have e4 : (0 : Int) ≤ (i : Int) := by omega
      have p9 : IntKind.i64.wrap ((i : Int) + 1) = ((i + 1 : Nat) : Int) := by rw [IntWalk.i64_in _ (by omega)]; omega
      obtain ⟨p, hp⟩ : ∃ p, P[i]? = some p := ⟨_, List.getElem?_eq_getElem (by rw [HP.out]; exact hlt)⟩
      have DP := Lib.hid (HD.out p (List.mem_of_getElem? hp))
      obtain ⟨b, o, hAe, hc⟩ := src_some S1.out (by omega)
      subst hAe
      have y0 := hc (i * 12 + 0) (.int .i64 p.cart) (by rw [foundVals_get hp (by omega)]; rfl)
      have x0 : wo.cell? ⟨b, o + i * 12, none⟩ = some (.int .i64 p.cart) := keepc BL.out (World.block_lt_of_cell? _ _ y0) (by rw [show o + i * 12 = o + (i * 12 + 0) by omega]; exact y0)
      have y1 := hc (i * 12 + 1) (.int .i64 p.pos) (by rw [foundVals_get hp (by omega)]; rfl)
      have x1 : wo.cell? ⟨b, o + i * 12 + 1, none⟩ = some (.int .i64 p.pos) := keepc BL.out (World.block_lt_of_cell? _ _ y1) (by rw [show o + i * 12 + 1 = o + (i * 12 + 1) by omega]; exact y1)
      have y2 := hc (i * 12 + 2) (.int .i64 p.r.kind) (by rw [foundVals_get hp (by omega)]; rfl)
      have x2 : wo.cell? ⟨b, o + i * 12 + 2, none⟩ = some (.int .i64 p.r.kind) := keepc BL.out (World.block_lt_of_cell? _ _ y2) (by rw [show o + i * 12 + 2 = o + (i * 12 + 2) by omega]; exact y2)
      have y3 := hc (i * 12 + 3) (.int .i64 p.r.cart) (by rw [foundVals_get hp (by omega)]; rfl)
      have x3 : wo.cell? ⟨b, o + i * 12 + 3, none⟩ = some (.int .i64 p.r.cart) := keepc BL.out (World.block_lt_of_cell? _ _ y3) (by rw [show o + i * 12 + 3 = o + (i * 12 + 3) by omega]; exact y3)
      have y4 := hc (i * 12 + 4) (strV p.r.key) (by rw [foundVals_get hp (by omega)]; rfl)
      have x4 : wo.cell? ⟨b, o + i * 12 + 4, none⟩ = some (strV p.r.key) := keepc BL.out (World.block_lt_of_cell? _ _ y4) (by rw [show o + i * 12 + 4 = o + (i * 12 + 4) by omega]; exact y4)
      have y5 := hc (i * 12 + 5) (.int .i64 p.r.gen) (by rw [foundVals_get hp (by omega)]; rfl)
      have x5 : wo.cell? ⟨b, o + i * 12 + 5, none⟩ = some (.int .i64 p.r.gen) := keepc BL.out (World.block_lt_of_cell? _ _ y5) (by rw [show o + i * 12 + 5 = o + (i * 12 + 5) by omega]; exact y5)
      have y6 := hc (i * 12 + 6) (.int .i64 p.r.group) (by rw [foundVals_get hp (by omega)]; rfl)
      have x6 : wo.cell? ⟨b, o + i * 12 + 6, none⟩ = some (.int .i64 p.r.group) := keepc BL.out (World.block_lt_of_cell? _ _ y6) (by rw [show o + i * 12 + 6 = o + (i * 12 + 6) by omega]; exact y6)
      have y7 := hc (i * 12 + 7) (.int .i64 p.r.groups) (by rw [foundVals_get hp (by omega)]; rfl)
      have x7 : wo.cell? ⟨b, o + i * 12 + 7, none⟩ = some (.int .i64 p.r.groups) := keepc BL.out (World.block_lt_of_cell? _ _ y7) (by rw [show o + i * 12 + 7 = o + (i * 12 + 7) by omega]; exact y7)
      have y8 := hc (i * 12 + 8) (.int .i64 p.r.index) (by rw [foundVals_get hp (by omega)]; rfl)
      have x8 : wo.cell? ⟨b, o + i * 12 + 8, none⟩ = some (.int .i64 p.r.index) := keepc BL.out (World.block_lt_of_cell? _ _ y8) (by rw [show o + i * 12 + 8 = o + (i * 12 + 8) by omega]; exact y8)
      have y9 := hc (i * 12 + 9) (.int .i64 p.r.size) (by rw [foundVals_get hp (by omega)]; rfl)
      have x9 : wo.cell? ⟨b, o + i * 12 + 9, none⟩ = some (.int .i64 p.r.size) := keepc BL.out (World.block_lt_of_cell? _ _ y9) (by rw [show o + i * 12 + 9 = o + (i * 12 + 9) by omega]; exact y9)
      have y10 := hc (i * 12 + 10) (strV p.r.sum) (by rw [foundVals_get hp (by omega)]; rfl)
      have x10 : wo.cell? ⟨b, o + i * 12 + 10, none⟩ = some (strV p.r.sum) := keepc BL.out (World.block_lt_of_cell? _ _ y10) (by rw [show o + i * 12 + 10 = o + (i * 12 + 10) by omega]; exact y10)
      have y11 := hc (i * 12 + 11) (.slice p.A p.r.data.length p.c) (by rw [foundVals_get hp (by omega)]; rfl)
      have x11 : wo.cell? ⟨b, o + i * 12 + 11, none⟩ = some (.slice p.A p.r.data.length p.c) := keepc BL.out (World.block_lt_of_cell? _ _ y11) (by rw [show o + i * 12 + 11 = o + (i * 12 + 11) by omega]; exact y11)
      clear y0 y1 y2 y3 y4 y5 y6 y7 y8 y9 y10 y11
      have hbo : b < wo.heap.size := World.block_lt_of_cell? _ _ x0
      have FT := Lib.hid (filter_take hp)
      clear hc hp
      go_upto_region 6 with fail
      obtain ⟨wq, hwq⟩ : ∃ z, wo.alloc (.cells #[.int .i64 p.cart, .int .i64 p.pos] 34) = z := ⟨_, rfl⟩
      have BQ := Lib.hid (show Blk wq wo.heap.size 34 #[.int .i64 p.cart, .int .i64 p.pos] by rw [← hwq]; exact Blk.made _ _ _)
      have BPQ := Lib.hid (show Below wo.heap.size wo wq by rw [← hwq]; exact below_al7 _ _)
      rw [hwq]
      clear hwq
      have hzq : wo.heap.size < wq.heap.size := BQ.out.size
      have g0 : wq.cell? ⟨wo.heap.size, 0, none⟩ = some (.int .i64 p.cart) := BQ.out.cell 0
      have g1 : wq.cell? ⟨wo.heap.size, 1, none⟩ = some (.int .i64 p.pos) := BQ.out.cell 1
      have x0 := keepc BPQ.out hbo x0
      have x1 := keepc BPQ.out hbo x1
      have x2 := keepc BPQ.out hbo x2
      have x3 := keepc BPQ.out hbo x3
      have x4 := keepc BPQ.out hbo x4
      have x5 := keepc BPQ.out hbo x5
      have x6 := keepc BPQ.out hbo x6
      have x7 := keepc BPQ.out hbo x7
      have x8 := keepc BPQ.out hbo x8
      have x9 := keepc BPQ.out hbo x9
      have x10 := keepc BPQ.out hbo x10
      have x11 := keepc BPQ.out hbo x11
      have BLQ := Lib.hid (show Below w.heap.size w wq from BL.out.trans (BPQ.out.mono hzo))
      have RWQ := Lib.hid (own_of_eq RW.out (fun g1 hg1 => BPQ.out.block g1 (RW.out.lt g1 hg1).2))
      have DQ := Lib.hid (DP.out.belowU BLQ.out)
      go_cut [43] from 18 to 42 (fun v wx => v = .bool (okF p) ∧ Below wq.heap.size wq wx)
      case first =>
        by_cases c0 : 0 ≤ p.cart
        · have q0 : decide (0 ≤ p.cart) = true := decide_eq_true c0
          by_cases c1 : p.cart < 32
          · have q1 : decide (p.cart < 32) = true := decide_eq_true c1
            by_cases c2 : 0 ≤ p.pos
            · have q2 : decide (0 ≤ p.pos) = true := decide_eq_true c2
              by_cases c3 : p.pos < 1024
              · have q3 : decide (p.pos < 1024) = true := decide_eq_true c3
                by_cases c4 : goodV p.r = true
                · skip
                  have V := Lib.hid (show okF p = true by unfold okF; simp only [decide_eq_true c0, decide_eq_true c1, decide_eq_true c2, decide_eq_true c3, c4, Bool.true_and])
                  clear c0 c1 c2 c3
                  go_wp2_with (go_at_call 49; refine (sGood9 p.r p.A p.c _ DQ.out).mono ?_; rintro e wg ⟨rfl, hb⟩; rw [c4]; have KB := Lib.hid hb; clear hb)
                  go_meet
                  exact ⟨by rw [V.out], KB.out⟩
                · have c4 : goodV p.r = false := by simpa using c4
                  have V := Lib.hid (show okF p = false by unfold okF; simp only [decide_eq_true c0, decide_eq_true c1, decide_eq_true c2, decide_eq_true c3, c4, Bool.true_and])
                  clear c0 c1 c2 c3
                  go_wp2_with (go_at_call 49; refine (sGood9 p.r p.A p.c _ DQ.out).mono ?_; rintro e wg ⟨rfl, hb⟩; rw [c4]; have KB := Lib.hid hb; clear hb)
                  go_meet
                  exact ⟨by rw [V.out], KB.out⟩
              · have q3 : decide (p.pos < 1024) = false := decide_eq_false c3
                have V := Lib.hid (show okF p = false by unfold okF; simp only [decide_eq_true c0, decide_eq_true c1, decide_eq_true c2, decide_eq_false c3, Bool.true_and, Bool.false_and])
                clear c0 c1 c2 c3
                go_wp2_with fail
                go_meet
                exact ⟨by rw [V.out], Below.refl _ _⟩
            · have q2 : decide (0 ≤ p.pos) = false := decide_eq_false c2
              have V := Lib.hid (show okF p = false by unfold okF; simp only [decide_eq_true c0, decide_eq_true c1, decide_eq_false c2, Bool.true_and, Bool.false_and])
              clear c0 c1 c2
              go_wp2_with fail
              go_meet
              exact ⟨by rw [V.out], Below.refl _ _⟩
          · have q1 : decide (p.cart < 32) = false := decide_eq_false c1
            have V := Lib.hid (show okF p = false by unfold okF; simp only [decide_eq_true c0, decide_eq_false c1, Bool.true_and, Bool.false_and])
            clear c0 c1
            go_wp2_with fail
            go_meet
            exact ⟨by rw [V.out], Below.refl _ _⟩
        · have q0 : decide (0 ≤ p.cart) = false := decide_eq_false c0
          have V := Lib.hid (show okF p = false by unfold okF; simp only [decide_eq_false c0, Bool.false_and])
          clear c0
          go_wp2_with fail
          go_meet
          exact ⟨by rw [V.out], Below.refl _ _⟩
      case rest =>
        obtain ⟨rfl, hbc⟩ := hcut
        obtain ⟨wm, rfl⟩ : ∃ wm : World, wm = wc := ⟨_, rfl⟩
        have x0 := keepc hbc (by omega) x0
        have x1 := keepc hbc (by omega) x1
        have x2 := keepc hbc (by omega) x2
        have x3 := keepc hbc (by omega) x3
        have x4 := keepc hbc (by omega) x4
        have x5 := keepc hbc (by omega) x5
        have x6 := keepc hbc (by omega) x6
        have x7 := keepc hbc (by omega) x7
        have x8 := keepc hbc (by omega) x8
        have x9 := keepc hbc (by omega) x9
        have x10 := keepc hbc (by omega) x10
        have x11 := keepc hbc (by omega) x11
        have BLM := Lib.hid (show Below w.heap.size w wm from BLQ.out.trans (hbc.mono BLQ.out.size))
        have RWM := Lib.hid (own_of_eq RWQ.out (fun g1 hg1 => hbc.block g1 (RWQ.out.lt g1 hg1).2))
        have hzm := BLM.out.size
        have hbm : b < wm.heap.size := World.block_lt_of_cell? _ _ x0
        clear hbc g0 g1
        cases hok : okF p with
        | false =>
          have FT2 := Lib.hid (show (P.take (i + 1)).filter okF = (P.take i).filter okF by rw [FT.out, hok]; simp)
          clear hok
          go_wp2_with fail
          go_roundw
          case rel => exact ⟨i + 1, m, Q, rfl, hlt, by rw [FT2.out]; exact HQ.out, HM.out, RWM.out, BLM.out⟩
          case measure => (simp only [intOf]; omega)
        | true =>
          have FT2 := Lib.hid (show (P.take (i + 1)).filter okF = (P.take i).filter okF ++ [p] by rw [FT.out, hok]; simp)
          clear hok
          go_wp2_with (
            (at_builtin
             refine wpList_append_src _ rfl (.tmp 44) (.tmp 49) 22 rfl w.heap.size 39 i0 _ 12 128 Try.underlying22 hi0 hz0 hz1 hz2 rfl (by omega) _ _ _ rfl (by exact RWM.out.alloc _) (some ⟨wm.heap.size, 0, none⟩) 1 1 (foundCells p).toList rfl rfl (fun e => by cases e) (by exact src_new _ _ _ _) (foundCells_one _) (by simp only [maxLen]; omega) (by omega) (by simp; omega) ?_
             intro v' w9 hown9 hgr9 hat9
             rw [← foundVals_snoc] at hown9
             have OW9 := Lib.hid hown9
             have HB9 := Lib.hid ((BLM.out.alloc (by omega) _).grown hgr9 (by simp; omega) (fun q hq => (RWM.out.lt q hq).1))
             clear hown9 hgr9 hat9))
          go_roundw
          case rel => exact ⟨i + 1, m + 1, Q ++ [p], rfl, hlt, by rw [FT2.out, HQ.out], by rw [List.length_append, HM.out]; rfl, OW9.out, HB9.out⟩
          case measure => (simp only [intOf]; omega)
    · have e1 : decide (i < n) = false := decide_eq_false hlt
      have e2 : decide ((i : Int) < (n : Int)) = false := decide_eq_false (by omega)
      have HF := Lib.hid (show Q = P.filter okF by rw [HQ.out, List.take_of_length_le (by rw [HP.out]; omega)])
      go_wp2_with fail
      go_ret
      exact ⟨_, rfl, by rw [← HF.out, HM.out]; exact RW.out, BL.out⟩
end Go.Proofs.Ythceidacmeadkaa
