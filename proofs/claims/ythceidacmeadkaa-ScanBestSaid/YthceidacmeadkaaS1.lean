/- What a record may be. No condition beyond those that each theorem states. -/
import Derived.Test.YthceidacmeadkaaSM
import Derived.BigQuiet
import Derived.Deep.DeepCutAuto
import Derived.Deep.CutBlock
namespace Go.Proofs.Ythceidacmeadkaa
open Go.RowKit
attribute [local go_sem] Oper.semAt_some

abbrev Str := List UInt8
abbrev strV (l : Str) : Value := .string ⟨l.toArray⟩
theorem quiet_eq {P : Program} {f : FuncId} {args : Array Value} {w : World} {n : Nat} {v : Value} (h : Calls P f args (w.drewN n) fun e w' => e = .returned v ∧ w.drewN n = w') :
    Calls P f args (w.drewN n) fun e w' => e = .returned v ∧ ∃ m, w' = w.drewN m :=
  h.mono fun _ _ ⟨he, hm⟩ => ⟨he, n, hm.symm⟩
structure RecV where
  kind : Int
  cart : Int
  key : Str
  gen : Int
  group : Int
  groups : Int
  index : Int
  size : Int
  sum : Str
  data : Str
deriving DecidableEq
def recCells (r : RecV) (A : Option Addr) (c : Nat) : Array Value := #[.int .i64 r.kind, .int .i64 r.cart, strV r.key, .int .i64 r.gen, .int .i64 r.group, .int .i64 r.groups, .int .i64 r.index, .int .i64 r.size, strV r.sum, .slice A r.data.length c]
def recV (r : RecV) (A : Option Addr) (c : Nat) : Value := .agg (recCells r A c)
def withinV (n m : Int) : Bool := decide (0 ≤ n) && decide (n ≤ m)
def keyV (s : Str) : Bool := decide (1 ≤ s.length) && decide (s.length ≤ 16)
def groupsV (n : Int) : Int := max 1 ((n + 127) / 128)
def noneV (r : RecV) : Bool := decide (r.group = 0) && (decide (r.groups = 0) && (decide (r.index = 0) && (decide (r.size = 0) && (decide (r.sum = []) && decide (r.data = [])))))
def shardV (r : RecV) : Bool := withinV r.size 512 && (decide (r.groups = groupsV r.size) && (withinV r.group (r.groups - 1) && (withinV r.index 9 && (decide (r.sum.length = 32) && decide (r.data.length = 16)))))
def goodV (r : RecV) : Bool :=
  if r.kind = 1 then withinV r.cart 31 && (decide (r.key = []) && (decide (r.gen = 0) && noneV r))
  else if r.kind = 3 then decide (r.cart = 0) && (keyV r.key && (withinV r.gen 1099511627776 && noneV r))
  else if r.kind = 2 then decide (r.cart = 0) && (keyV r.key && (withinV r.gen 1099511627776 && shardV r))
  else false
theorem sWithin (n m : Int) (w : World) : Calls Try.prog 33 #[.int .i64 n, .int .i64 m] w fun e w' => e = .returned (.bool (withinV n m)) ∧ w = w' := by
  by_cases h1 : 0 ≤ n
  · have d1 : decide ((0 : Int) ≤ n) = true := by simpa using h1
    by_cases h2 : n ≤ m
    · have d2 : decide (n ≤ m) = true := by simpa using h2
      have V := Lib.hid (show withinV n m = true by simp [withinV, h1, h2])
      clear h1 h2
      go_enter Try.func33, Try.ntmps33
      go_wp2_with fail
      go_ret
      exact ⟨by rw [V.out]; rfl, rfl⟩
    · have d2 : decide (n ≤ m) = false := by simpa using h2
      have V := Lib.hid (show withinV n m = false by simp [withinV, h2])
      clear h1 h2
      go_enter Try.func33, Try.ntmps33
      go_wp2_with fail
      go_ret
      exact ⟨by rw [V.out]; rfl, rfl⟩
  · have d1 : decide ((0 : Int) ≤ n) = false := by simpa using h1
    have V := Lib.hid (show withinV n m = false by simp [withinV, h1])
    clear h1
    go_enter Try.func33, Try.ntmps33
    go_wp2_with fail
    go_ret
    exact ⟨by rw [V.out]; rfl, rfl⟩
theorem sKey (s : Str) (w : World) : Calls Try.prog 35 #[strV s] w fun e w' => e = .returned (.bool (keyV s)) ∧ w = w' := by
  obtain ⟨n, hn⟩ : ∃ n, s.length = n := ⟨_, rfl⟩
  have HV : keyV s = (decide (1 ≤ n) && decide (n ≤ 16)) := by unfold keyV; rw [hn]
  rw [HV]
  clear HV
  by_cases h1 : 1 ≤ n
  · have d1 : decide ((1 : Int) ≤ (n : Int)) = true := decide_eq_true (by omega)
    by_cases h2 : n ≤ 16
    · have d2 : decide ((n : Int) ≤ 16) = true := decide_eq_true (by omega)
      have V := Lib.hid (show (decide (1 ≤ n) && decide (n ≤ 16)) = true by simp [h1, h2])
      clear h1 h2
      go_enter Try.func35, Try.ntmps35
      go_wp2_with fail
      go_ret
      exact ⟨by rw [V.out]; rfl, rfl⟩
    · have d2 : decide ((n : Int) ≤ 16) = false := decide_eq_false (by omega)
      have V := Lib.hid (show (decide (1 ≤ n) && decide (n ≤ 16)) = false by simp [h2])
      clear h1 h2
      go_enter Try.func35, Try.ntmps35
      go_wp2_with fail
      go_ret
      exact ⟨by rw [V.out]; rfl, rfl⟩
  · have d1 : decide ((1 : Int) ≤ (n : Int)) = false := decide_eq_false (by omega)
    have V := Lib.hid (show (decide (1 ≤ n) && decide (n ≤ 16)) = false by simp [h1])
    clear h1
    go_enter Try.func35, Try.ntmps35
    go_wp2_with fail
    go_ret
    exact ⟨by rw [V.out]; rfl, rfl⟩
theorem sGroups (n : Int) (w : World) (h0 : 0 ≤ n) (h1 : n ≤ 512) : Calls Try.prog 50 #[.int .i64 n] w fun e w' => e = .returned (.int .i64 (groupsV n)) ∧ w = w' := by
  have p1 : IntKind.i64.wrap (n + 128) = n + 128 := IntWalk.i64_in _ (by omega)
  have p2 : IntKind.i64.wrap (n + 128 - 1) = n + 127 := by rw [IntWalk.i64_in _ (by omega)]; omega
  obtain ⟨q, hq⟩ : ∃ q, (n + 127) / 128 = q := ⟨_, rfl⟩
  have p3 : (n + 127).tdiv 128 = q := by rw [Int.tdiv_eq_ediv_of_nonneg (by omega), hq]
  have p4 : IntKind.i64.wrap q = q := IntWalk.i64_in _ (by omega)
  have V := Lib.hid (show groupsV n = max 1 q by unfold groupsV; rw [hq])
  clear hq
  go_enter Try.func50, Try.ntmps50
  go_wp2_with fail
  · go_ret
    exact ⟨by rw [V.out, Int.max_eq_right (by omega)]; rfl, rfl⟩
  · go_ret
    exact ⟨by rw [V.out, Int.max_eq_left (by omega)]; rfl, rfl⟩
section
set_option maxHeartbeats 4000000
set_option maxRecDepth 100000
theorem sNone (r : RecV) (A : Option Addr) (c : Nat) (w : World) : Calls Try.prog 34 #[recV r A c] w fun e w' => e = .returned (.bool (noneV r)) ∧ Below w.heap.size w w' := by
  obtain ⟨w0, hw0⟩ : ∃ z, w.alloc (.cells (recCells r A c) 37) = z := ⟨_, rfl⟩
  have BX := Lib.hid (show Blk w0 w.heap.size 37 (recCells r A c) by rw [← hw0]; exact Blk.made _ _ _)
  have B0 := Lib.hid (show Below w.heap.size w w0 by rw [← hw0]; exact (Below.refl _ w).alloc (Nat.le_refl _) _)
  simp only [recCells] at hw0
  unfold recV recCells
  go_enter Try.func34, Try.ntmps34
  go_upto_region 1 with fail
  clear hw0
  have x0 : w0.cell? ⟨w.heap.size, 0, none⟩ = some (.int .i64 r.kind) := BX.out.cell 0
  have x1 : w0.cell? ⟨w.heap.size, 1, none⟩ = some (.int .i64 r.cart) := BX.out.cell 1
  have x2 : w0.cell? ⟨w.heap.size, 2, none⟩ = some (strV r.key) := BX.out.cell 2
  have x3 : w0.cell? ⟨w.heap.size, 3, none⟩ = some (.int .i64 r.gen) := BX.out.cell 3
  have x4 : w0.cell? ⟨w.heap.size, 4, none⟩ = some (.int .i64 r.group) := BX.out.cell 4
  have x5 : w0.cell? ⟨w.heap.size, 5, none⟩ = some (.int .i64 r.groups) := BX.out.cell 5
  have x6 : w0.cell? ⟨w.heap.size, 6, none⟩ = some (.int .i64 r.index) := BX.out.cell 6
  have x7 : w0.cell? ⟨w.heap.size, 7, none⟩ = some (.int .i64 r.size) := BX.out.cell 7
  have x8 : w0.cell? ⟨w.heap.size, 8, none⟩ = some (strV r.sum) := BX.out.cell 8
  have x9 : w0.cell? ⟨w.heap.size, 9, none⟩ = some (.slice A r.data.length c) := BX.out.cell 9
  by_cases c1 : r.group = 0
  · have qc1 : (r.group == 0) = true := by simpa using c1
    by_cases c2 : r.groups = 0
    · have qc2 : (r.groups == 0) = true := by simpa using c2
      by_cases c3 : r.index = 0
      · have qc3 : (r.index == 0) = true := by simpa using c3
        by_cases c4 : r.size = 0
        · have qc4 : (r.size == 0) = true := by simpa using c4
          by_cases c5 : r.sum = []
          · have qc5 : (r.sum == []) = true := by simpa using c5
            by_cases c6 : r.data = []
            · have qc6 : ((r.data.length : Int) == 0) = true := by rw [c6]; rfl
              have V := Lib.hid (show noneV r = true by unfold noneV; simp [c1, c2, c3, c4, c5, c6])
              clear c1 c2 c3 c4 c5 c6
              go_wp2_with fail
              go_ret
              rw [V.out]
              exact ⟨rfl, B0.out⟩
            · have qc6 : ((r.data.length : Int) == 0) = false := by rw [beq_eq_false_iff_ne]; have := List.length_pos_iff.2 c6; omega
              have V := Lib.hid (show noneV r = false by unfold noneV; simp [c1, c2, c3, c4, c5, c6])
              clear c1 c2 c3 c4 c5 c6
              go_wp2_with fail
              go_ret
              rw [V.out]
              exact ⟨rfl, B0.out⟩
          · have qc5 : (r.sum == []) = false := by simpa using c5
            have pc5 : (⟨r.sum.toArray⟩ : ByteArray) ≠ ⟨#[]⟩ := fun h => c5 (by have h2 := congrArg (fun b => b.data.toList) h; simpa using h2)
            have V := Lib.hid (show noneV r = false by unfold noneV; simp [c1, c2, c3, c4, c5])
            clear c1 c2 c3 c4 c5
            go_wp2_with fail
            go_ret
            rw [V.out]
            exact ⟨rfl, B0.out⟩
        · have qc4 : (r.size == 0) = false := by simpa using c4
          have V := Lib.hid (show noneV r = false by unfold noneV; simp [c1, c2, c3, c4])
          clear c1 c2 c3 c4
          go_wp2_with fail
          go_ret
          rw [V.out]
          exact ⟨rfl, B0.out⟩
      · have qc3 : (r.index == 0) = false := by simpa using c3
        have V := Lib.hid (show noneV r = false by unfold noneV; simp [c1, c2, c3])
        clear c1 c2 c3
        go_wp2_with fail
        go_ret
        rw [V.out]
        exact ⟨rfl, B0.out⟩
    · have qc2 : (r.groups == 0) = false := by simpa using c2
      have V := Lib.hid (show noneV r = false by unfold noneV; simp [c1, c2])
      clear c1 c2
      go_wp2_with fail
      go_ret
      rw [V.out]
      exact ⟨rfl, B0.out⟩
  · have qc1 : (r.group == 0) = false := by simpa using c1
    have V := Lib.hid (show noneV r = false by unfold noneV; simp [c1])
    clear c1
    go_wp2_with fail
    go_ret
    rw [V.out]
    exact ⟨rfl, B0.out⟩
theorem sShard (r : RecV) (A : Option Addr) (c : Nat) (w : World) : Calls Try.prog 36 #[recV r A c] w fun e w' => e = .returned (.bool (shardV r)) ∧ Below w.heap.size w w' := by
  obtain ⟨w0, hw0⟩ : ∃ z, w.alloc (.cells (recCells r A c) 37) = z := ⟨_, rfl⟩
  have BX := Lib.hid (show Blk w0 w.heap.size 37 (recCells r A c) by rw [← hw0]; exact Blk.made _ _ _)
  have B0 := Lib.hid (show Below w.heap.size w w0 by rw [← hw0]; exact (Below.refl _ w).alloc (Nat.le_refl _) _)
  simp only [recCells] at hw0
  unfold recV recCells
  go_enter Try.func36, Try.ntmps36
  go_upto_region 1 with fail
  clear hw0
  have x0 : w0.cell? ⟨w.heap.size, 0, none⟩ = some (.int .i64 r.kind) := BX.out.cell 0
  have x1 : w0.cell? ⟨w.heap.size, 1, none⟩ = some (.int .i64 r.cart) := BX.out.cell 1
  have x2 : w0.cell? ⟨w.heap.size, 2, none⟩ = some (strV r.key) := BX.out.cell 2
  have x3 : w0.cell? ⟨w.heap.size, 3, none⟩ = some (.int .i64 r.gen) := BX.out.cell 3
  have x4 : w0.cell? ⟨w.heap.size, 4, none⟩ = some (.int .i64 r.group) := BX.out.cell 4
  have x5 : w0.cell? ⟨w.heap.size, 5, none⟩ = some (.int .i64 r.groups) := BX.out.cell 5
  have x6 : w0.cell? ⟨w.heap.size, 6, none⟩ = some (.int .i64 r.index) := BX.out.cell 6
  have x7 : w0.cell? ⟨w.heap.size, 7, none⟩ = some (.int .i64 r.size) := BX.out.cell 7
  have x8 : w0.cell? ⟨w.heap.size, 8, none⟩ = some (strV r.sum) := BX.out.cell 8
  have x9 : w0.cell? ⟨w.heap.size, 9, none⟩ = some (.slice A r.data.length c) := BX.out.cell 9
  by_cases c1 : withinV r.size 512 = true
  · have hs : 0 ≤ r.size ∧ r.size ≤ 512 := by simpa [withinV] using c1
    by_cases c2 : r.groups = groupsV r.size
    · have qc2 : (r.groups != groupsV r.size) = false := by simpa using c2
      have p1 : IntKind.i64.wrap (r.groups - 1) = r.groups - 1 := IntWalk.i64_in _ (by have h := c2; simp only [groupsV] at h; omega)
      by_cases c3 : withinV r.group (r.groups - 1) = true
      · by_cases c4 : withinV r.index 9 = true
        · by_cases c5 : r.sum.length = 32
          · have qc5 : ((r.sum.length : Int) == 32) = true := by rw [c5]; rfl
            by_cases c6 : r.data.length = 16
            · have qc6 : ((r.data.length : Int) == 16) = true := by rw [c6]; rfl
              have V := Lib.hid (show shardV r = true by unfold shardV; simp [c1, decide_eq_true c2, c3, c4, c5, c6])
              clear c2 c5 c6
              go_quiet (first
                | (go_at_call 33; exact quiet_eq (sWithin _ _ _))
                | (go_at_call 50; exact quiet_eq (sGroups _ _ (by omega) (by omega))))
              go_wp2_with (
                go_at_call 33
                refine (sWithin _ _ _).mono ?_
                rintro e w9 ⟨rfl, rfl⟩)
              go_ret
              rw [V.out]
              exact ⟨rfl, below_drewN B0.out _⟩
            · have qc6 : ((r.data.length : Int) == 16) = false := by rw [beq_eq_false_iff_ne]; omega
              have V := Lib.hid (show shardV r = false by unfold shardV; simp [c1, decide_eq_true c2, c3, c4, c5, c6])
              clear c2 c5 c6
              go_quiet (first
                | (go_at_call 33; exact quiet_eq (sWithin _ _ _))
                | (go_at_call 50; exact quiet_eq (sGroups _ _ (by omega) (by omega))))
              go_wp2_with (
                go_at_call 33
                refine (sWithin _ _ _).mono ?_
                rintro e w9 ⟨rfl, rfl⟩)
              go_ret
              rw [V.out]
              exact ⟨rfl, below_drewN B0.out _⟩
          · have qc5 : ((r.sum.length : Int) == 32) = false := by rw [beq_eq_false_iff_ne]; omega
            have V := Lib.hid (show shardV r = false by unfold shardV; simp [c1, decide_eq_true c2, c3, c4, c5])
            clear c2 c5
            go_quiet (first
              | (go_at_call 33; exact quiet_eq (sWithin _ _ _))
              | (go_at_call 50; exact quiet_eq (sGroups _ _ (by omega) (by omega))))
            go_wp2_with (
              go_at_call 33
              refine (sWithin _ _ _).mono ?_
              rintro e w9 ⟨rfl, rfl⟩)
            go_ret
            rw [V.out]
            exact ⟨rfl, below_drewN B0.out _⟩
        · have qc4 : withinV r.index 9 = false := by simpa using c4
          have V := Lib.hid (show shardV r = false by unfold shardV; simp [c1, decide_eq_true c2, c3, c4])
          clear c2
          go_quiet (first
            | (go_at_call 33; exact quiet_eq (sWithin _ _ _))
            | (go_at_call 50; exact quiet_eq (sGroups _ _ (by omega) (by omega))))
          go_wp2_with (
            go_at_call 33
            refine (sWithin _ _ _).mono ?_
            rintro e w9 ⟨rfl, rfl⟩)
          go_ret
          rw [V.out]
          exact ⟨rfl, below_drewN B0.out _⟩
      · have qc3 : withinV r.group (r.groups - 1) = false := by simpa using c3
        have V := Lib.hid (show shardV r = false by unfold shardV; simp [c1, decide_eq_true c2, c3])
        clear c2
        go_quiet (first
          | (go_at_call 33; exact quiet_eq (sWithin _ _ _))
          | (go_at_call 50; exact quiet_eq (sGroups _ _ (by omega) (by omega))))
        go_wp2_with (
          go_at_call 33
          refine (sWithin _ _ _).mono ?_
          rintro e w9 ⟨rfl, rfl⟩)
        go_ret
        rw [V.out]
        exact ⟨rfl, below_drewN B0.out _⟩
    · have qc2 : (r.groups != groupsV r.size) = true := by simpa using c2
      have V := Lib.hid (show shardV r = false by unfold shardV; simp [c1, decide_eq_false c2])
      clear c2
      go_quiet (first
        | (go_at_call 33; exact quiet_eq (sWithin _ _ _))
        | (go_at_call 50; exact quiet_eq (sGroups _ _ (by omega) (by omega))))
      go_wp2_with (
        go_at_call 33
        refine (sWithin _ _ _).mono ?_
        rintro e w9 ⟨rfl, rfl⟩)
      go_ret
      rw [V.out]
      exact ⟨rfl, below_drewN B0.out _⟩
  · have qc1 : withinV r.size 512 = false := by simpa using c1
    have V := Lib.hid (show shardV r = false by unfold shardV; simp [c1])
    go_quiet (first
      | (go_at_call 33; exact quiet_eq (sWithin _ _ _))
      | (go_at_call 50; exact quiet_eq (sGroups _ _ (by omega) (by omega))))
    go_wp2_with (
      go_at_call 33
      refine (sWithin _ _ _).mono ?_
      rintro e w9 ⟨rfl, rfl⟩)
    go_ret
    rw [V.out]
    exact ⟨rfl, below_drewN B0.out _⟩
theorem sGood (r : RecV) (A : Option Addr) (c : Nat) (w : World) : Calls Try.prog 14 #[recV r A c] w fun e w' => e = .returned (.bool (goodV r)) ∧ Below w.heap.size w w' := by
  have SN0 := fun w => sNone r A c w
  have SS0 := fun w => sShard r A c w
  simp only [recV, recCells] at SN0 SS0
  obtain ⟨w0, hw0⟩ : ∃ z, w.alloc (.cells (recCells r A c) 37) = z := ⟨_, rfl⟩
  have BX := Lib.hid (show Blk w0 w.heap.size 37 (recCells r A c) by rw [← hw0]; exact Blk.made _ _ _)
  have B0 := Lib.hid (show Below w.heap.size w w0 by rw [← hw0]; exact (Below.refl _ w).alloc (Nat.le_refl _) _)
  simp only [recCells] at hw0
  unfold recV recCells
  go_enter Try.func14, Try.ntmps14
  go_upto_region 1 with fail
  clear hw0
  have x0 : w0.cell? ⟨w.heap.size, 0, none⟩ = some (.int .i64 r.kind) := BX.out.cell 0
  have x1 : w0.cell? ⟨w.heap.size, 1, none⟩ = some (.int .i64 r.cart) := BX.out.cell 1
  have x2 : w0.cell? ⟨w.heap.size, 2, none⟩ = some (strV r.key) := BX.out.cell 2
  have x3 : w0.cell? ⟨w.heap.size, 3, none⟩ = some (.int .i64 r.gen) := BX.out.cell 3
  have x4 : w0.cell? ⟨w.heap.size, 4, none⟩ = some (.int .i64 r.group) := BX.out.cell 4
  have x5 : w0.cell? ⟨w.heap.size, 5, none⟩ = some (.int .i64 r.groups) := BX.out.cell 5
  have x6 : w0.cell? ⟨w.heap.size, 6, none⟩ = some (.int .i64 r.index) := BX.out.cell 6
  have x7 : w0.cell? ⟨w.heap.size, 7, none⟩ = some (.int .i64 r.size) := BX.out.cell 7
  have x8 : w0.cell? ⟨w.heap.size, 8, none⟩ = some (strV r.sum) := BX.out.cell 8
  have x9 : w0.cell? ⟨w.heap.size, 9, none⟩ = some (.slice A r.data.length c) := BX.out.cell 9
  have SN := Lib.hid (SN0 w0)
  have SS := Lib.hid (SS0 w0)
  clear SN0 SS0
  by_cases e1 : r.kind = 1
  · have kq1 : (r.kind == 1) = true := by simpa using e1
    have kd : r.kind = 1 := e1
    clear e1
    skip
    by_cases c1 : withinV r.cart 31 = true
    · by_cases g1 : r.key = []
      · have qg1 : (r.key == []) = true := by simpa using g1
        by_cases g2 : r.gen = 0
        · have qg2 : (r.gen == 0) = true := by simpa using g2
          by_cases c4 : noneV r = true
          · have V := Lib.hid (show goodV r = true by unfold goodV; simp [kd, c1, g1, g2, c4])
            clear g1 g2
            clear kd
            go_wp2_with (first
              | (go_at_call 33; refine (sWithin _ _ _).mono ?_; rintro e w9 ⟨rfl, rfl⟩)
              | (go_at_call 35; refine (sKey _ _).mono ?_; rintro e w9 ⟨rfl, rfl⟩)
              | (go_at_call 34; refine SN.out.mono ?_; rintro e w1 ⟨rfl, hb1⟩; have BE := Lib.hid (show Below w.heap.size w w1 from B0.out.trans (hb1.mono B0.out.size)); clear hb1)
              | (go_at_call 36; refine SS.out.mono ?_; rintro e w1 ⟨rfl, hb1⟩; have BE := Lib.hid (show Below w.heap.size w w1 from B0.out.trans (hb1.mono B0.out.size)); clear hb1))
            go_ret
            rw [V.out]
            exact ⟨rfl, BE.out⟩
          · have qc4 : noneV r = false := by simpa using c4
            have V := Lib.hid (show goodV r = false by unfold goodV; simp [kd, c1, g1, g2, c4])
            clear g1 g2
            clear kd
            go_wp2_with (first
              | (go_at_call 33; refine (sWithin _ _ _).mono ?_; rintro e w9 ⟨rfl, rfl⟩)
              | (go_at_call 35; refine (sKey _ _).mono ?_; rintro e w9 ⟨rfl, rfl⟩)
              | (go_at_call 34; refine SN.out.mono ?_; rintro e w1 ⟨rfl, hb1⟩; have BE := Lib.hid (show Below w.heap.size w w1 from B0.out.trans (hb1.mono B0.out.size)); clear hb1)
              | (go_at_call 36; refine SS.out.mono ?_; rintro e w1 ⟨rfl, hb1⟩; have BE := Lib.hid (show Below w.heap.size w w1 from B0.out.trans (hb1.mono B0.out.size)); clear hb1))
            go_ret
            rw [V.out]
            exact ⟨rfl, BE.out⟩
        · have qg2 : (r.gen == 0) = false := by simpa using g2
          have V := Lib.hid (show goodV r = false by unfold goodV; simp [kd, c1, g1, g2])
          clear g1 g2
          clear kd
          go_wp2_with (first
            | (go_at_call 33; refine (sWithin _ _ _).mono ?_; rintro e w9 ⟨rfl, rfl⟩)
            | (go_at_call 35; refine (sKey _ _).mono ?_; rintro e w9 ⟨rfl, rfl⟩)
            | (go_at_call 34; refine SN.out.mono ?_; rintro e w1 ⟨rfl, hb1⟩; have BE := Lib.hid (show Below w.heap.size w w1 from B0.out.trans (hb1.mono B0.out.size)); clear hb1)
            | (go_at_call 36; refine SS.out.mono ?_; rintro e w1 ⟨rfl, hb1⟩; have BE := Lib.hid (show Below w.heap.size w w1 from B0.out.trans (hb1.mono B0.out.size)); clear hb1))
          go_ret
          rw [V.out]
          exact ⟨rfl, B0.out⟩
      · have qg1 : (r.key == []) = false := by simpa using g1
        have pg1 : (⟨r.key.toArray⟩ : ByteArray) ≠ ⟨#[]⟩ := fun h => g1 (by have h2 := congrArg (fun b => b.data.toList) h; simpa using h2)
        have V := Lib.hid (show goodV r = false by unfold goodV; simp [kd, c1, g1])
        clear g1
        clear kd
        go_wp2_with (first
          | (go_at_call 33; refine (sWithin _ _ _).mono ?_; rintro e w9 ⟨rfl, rfl⟩)
          | (go_at_call 35; refine (sKey _ _).mono ?_; rintro e w9 ⟨rfl, rfl⟩)
          | (go_at_call 34; refine SN.out.mono ?_; rintro e w1 ⟨rfl, hb1⟩; have BE := Lib.hid (show Below w.heap.size w w1 from B0.out.trans (hb1.mono B0.out.size)); clear hb1)
          | (go_at_call 36; refine SS.out.mono ?_; rintro e w1 ⟨rfl, hb1⟩; have BE := Lib.hid (show Below w.heap.size w w1 from B0.out.trans (hb1.mono B0.out.size)); clear hb1))
        go_ret
        rw [V.out]
        exact ⟨rfl, B0.out⟩
    · have qc1 : withinV r.cart 31 = false := by simpa using c1
      have V := Lib.hid (show goodV r = false by unfold goodV; simp [kd, c1])
      clear kd
      go_wp2_with (first
        | (go_at_call 33; refine (sWithin _ _ _).mono ?_; rintro e w9 ⟨rfl, rfl⟩)
        | (go_at_call 35; refine (sKey _ _).mono ?_; rintro e w9 ⟨rfl, rfl⟩)
        | (go_at_call 34; refine SN.out.mono ?_; rintro e w1 ⟨rfl, hb1⟩; have BE := Lib.hid (show Below w.heap.size w w1 from B0.out.trans (hb1.mono B0.out.size)); clear hb1)
        | (go_at_call 36; refine SS.out.mono ?_; rintro e w1 ⟨rfl, hb1⟩; have BE := Lib.hid (show Below w.heap.size w w1 from B0.out.trans (hb1.mono B0.out.size)); clear hb1))
      go_ret
      rw [V.out]
      exact ⟨rfl, B0.out⟩
  · have kq1 : (r.kind == 1) = false := by simpa using e1
    by_cases e3 : r.kind = 3
    · have kq3 : (r.kind == 3) = true := by simpa using e3
      have kd : r.kind = 3 := e3
      clear e3
      by_cases g1 : r.cart = 0
      · have qg1 : (r.cart == 0) = true := by simpa using g1
        by_cases c2 : keyV r.key = true
        · by_cases c3 : withinV r.gen 1099511627776 = true
          · by_cases c4 : noneV r = true
            · have V := Lib.hid (show goodV r = true by unfold goodV; simp [kd, g1, c2, c3, c4])
              clear g1
              clear kd
              go_wp2_with (first
                | (go_at_call 33; refine (sWithin _ _ _).mono ?_; rintro e w9 ⟨rfl, rfl⟩)
                | (go_at_call 35; refine (sKey _ _).mono ?_; rintro e w9 ⟨rfl, rfl⟩)
                | (go_at_call 34; refine SN.out.mono ?_; rintro e w1 ⟨rfl, hb1⟩; have BE := Lib.hid (show Below w.heap.size w w1 from B0.out.trans (hb1.mono B0.out.size)); clear hb1)
                | (go_at_call 36; refine SS.out.mono ?_; rintro e w1 ⟨rfl, hb1⟩; have BE := Lib.hid (show Below w.heap.size w w1 from B0.out.trans (hb1.mono B0.out.size)); clear hb1))
              go_ret
              rw [V.out]
              exact ⟨rfl, BE.out⟩
            · have qc4 : noneV r = false := by simpa using c4
              have V := Lib.hid (show goodV r = false by unfold goodV; simp [kd, g1, c2, c3, c4])
              clear g1
              clear kd
              go_wp2_with (first
                | (go_at_call 33; refine (sWithin _ _ _).mono ?_; rintro e w9 ⟨rfl, rfl⟩)
                | (go_at_call 35; refine (sKey _ _).mono ?_; rintro e w9 ⟨rfl, rfl⟩)
                | (go_at_call 34; refine SN.out.mono ?_; rintro e w1 ⟨rfl, hb1⟩; have BE := Lib.hid (show Below w.heap.size w w1 from B0.out.trans (hb1.mono B0.out.size)); clear hb1)
                | (go_at_call 36; refine SS.out.mono ?_; rintro e w1 ⟨rfl, hb1⟩; have BE := Lib.hid (show Below w.heap.size w w1 from B0.out.trans (hb1.mono B0.out.size)); clear hb1))
              go_ret
              rw [V.out]
              exact ⟨rfl, BE.out⟩
          · have qc3 : withinV r.gen 1099511627776 = false := by simpa using c3
            have V := Lib.hid (show goodV r = false by unfold goodV; simp [kd, g1, c2, c3])
            clear g1
            clear kd
            go_wp2_with (first
              | (go_at_call 33; refine (sWithin _ _ _).mono ?_; rintro e w9 ⟨rfl, rfl⟩)
              | (go_at_call 35; refine (sKey _ _).mono ?_; rintro e w9 ⟨rfl, rfl⟩)
              | (go_at_call 34; refine SN.out.mono ?_; rintro e w1 ⟨rfl, hb1⟩; have BE := Lib.hid (show Below w.heap.size w w1 from B0.out.trans (hb1.mono B0.out.size)); clear hb1)
              | (go_at_call 36; refine SS.out.mono ?_; rintro e w1 ⟨rfl, hb1⟩; have BE := Lib.hid (show Below w.heap.size w w1 from B0.out.trans (hb1.mono B0.out.size)); clear hb1))
            go_ret
            rw [V.out]
            exact ⟨rfl, B0.out⟩
        · have qc2 : keyV r.key = false := by simpa using c2
          have V := Lib.hid (show goodV r = false by unfold goodV; simp [kd, g1, c2])
          clear g1
          clear kd
          go_wp2_with (first
            | (go_at_call 33; refine (sWithin _ _ _).mono ?_; rintro e w9 ⟨rfl, rfl⟩)
            | (go_at_call 35; refine (sKey _ _).mono ?_; rintro e w9 ⟨rfl, rfl⟩)
            | (go_at_call 34; refine SN.out.mono ?_; rintro e w1 ⟨rfl, hb1⟩; have BE := Lib.hid (show Below w.heap.size w w1 from B0.out.trans (hb1.mono B0.out.size)); clear hb1)
            | (go_at_call 36; refine SS.out.mono ?_; rintro e w1 ⟨rfl, hb1⟩; have BE := Lib.hid (show Below w.heap.size w w1 from B0.out.trans (hb1.mono B0.out.size)); clear hb1))
          go_ret
          rw [V.out]
          exact ⟨rfl, B0.out⟩
      · have qg1 : (r.cart == 0) = false := by simpa using g1
        have V := Lib.hid (show goodV r = false by unfold goodV; simp [kd, g1])
        clear g1
        clear kd
        go_wp2_with (first
          | (go_at_call 33; refine (sWithin _ _ _).mono ?_; rintro e w9 ⟨rfl, rfl⟩)
          | (go_at_call 35; refine (sKey _ _).mono ?_; rintro e w9 ⟨rfl, rfl⟩)
          | (go_at_call 34; refine SN.out.mono ?_; rintro e w1 ⟨rfl, hb1⟩; have BE := Lib.hid (show Below w.heap.size w w1 from B0.out.trans (hb1.mono B0.out.size)); clear hb1)
          | (go_at_call 36; refine SS.out.mono ?_; rintro e w1 ⟨rfl, hb1⟩; have BE := Lib.hid (show Below w.heap.size w w1 from B0.out.trans (hb1.mono B0.out.size)); clear hb1))
        go_ret
        rw [V.out]
        exact ⟨rfl, B0.out⟩
    · have kq3 : (r.kind == 3) = false := by simpa using e3
      by_cases e2 : r.kind = 2
      · have kq2 : (r.kind == 2) = true := by simpa using e2
        have kd : r.kind = 2 := e2
        clear e2
        by_cases g1 : r.cart = 0
        · have qg1 : (r.cart == 0) = true := by simpa using g1
          by_cases c2 : keyV r.key = true
          · by_cases c3 : withinV r.gen 1099511627776 = true
            · by_cases c4 : shardV r = true
              · have V := Lib.hid (show goodV r = true by unfold goodV; simp [kd, g1, c2, c3, c4])
                clear g1
                clear kd
                go_wp2_with (first
                  | (go_at_call 33; refine (sWithin _ _ _).mono ?_; rintro e w9 ⟨rfl, rfl⟩)
                  | (go_at_call 35; refine (sKey _ _).mono ?_; rintro e w9 ⟨rfl, rfl⟩)
                  | (go_at_call 34; refine SN.out.mono ?_; rintro e w1 ⟨rfl, hb1⟩; have BE := Lib.hid (show Below w.heap.size w w1 from B0.out.trans (hb1.mono B0.out.size)); clear hb1)
                  | (go_at_call 36; refine SS.out.mono ?_; rintro e w1 ⟨rfl, hb1⟩; have BE := Lib.hid (show Below w.heap.size w w1 from B0.out.trans (hb1.mono B0.out.size)); clear hb1))
                go_ret
                rw [V.out]
                exact ⟨rfl, BE.out⟩
              · have qc4 : shardV r = false := by simpa using c4
                have V := Lib.hid (show goodV r = false by unfold goodV; simp [kd, g1, c2, c3, c4])
                clear g1
                clear kd
                go_wp2_with (first
                  | (go_at_call 33; refine (sWithin _ _ _).mono ?_; rintro e w9 ⟨rfl, rfl⟩)
                  | (go_at_call 35; refine (sKey _ _).mono ?_; rintro e w9 ⟨rfl, rfl⟩)
                  | (go_at_call 34; refine SN.out.mono ?_; rintro e w1 ⟨rfl, hb1⟩; have BE := Lib.hid (show Below w.heap.size w w1 from B0.out.trans (hb1.mono B0.out.size)); clear hb1)
                  | (go_at_call 36; refine SS.out.mono ?_; rintro e w1 ⟨rfl, hb1⟩; have BE := Lib.hid (show Below w.heap.size w w1 from B0.out.trans (hb1.mono B0.out.size)); clear hb1))
                go_ret
                rw [V.out]
                exact ⟨rfl, BE.out⟩
            · have qc3 : withinV r.gen 1099511627776 = false := by simpa using c3
              have V := Lib.hid (show goodV r = false by unfold goodV; simp [kd, g1, c2, c3])
              clear g1
              clear kd
              go_wp2_with (first
                | (go_at_call 33; refine (sWithin _ _ _).mono ?_; rintro e w9 ⟨rfl, rfl⟩)
                | (go_at_call 35; refine (sKey _ _).mono ?_; rintro e w9 ⟨rfl, rfl⟩)
                | (go_at_call 34; refine SN.out.mono ?_; rintro e w1 ⟨rfl, hb1⟩; have BE := Lib.hid (show Below w.heap.size w w1 from B0.out.trans (hb1.mono B0.out.size)); clear hb1)
                | (go_at_call 36; refine SS.out.mono ?_; rintro e w1 ⟨rfl, hb1⟩; have BE := Lib.hid (show Below w.heap.size w w1 from B0.out.trans (hb1.mono B0.out.size)); clear hb1))
              go_ret
              rw [V.out]
              exact ⟨rfl, B0.out⟩
          · have qc2 : keyV r.key = false := by simpa using c2
            have V := Lib.hid (show goodV r = false by unfold goodV; simp [kd, g1, c2])
            clear g1
            clear kd
            go_wp2_with (first
              | (go_at_call 33; refine (sWithin _ _ _).mono ?_; rintro e w9 ⟨rfl, rfl⟩)
              | (go_at_call 35; refine (sKey _ _).mono ?_; rintro e w9 ⟨rfl, rfl⟩)
              | (go_at_call 34; refine SN.out.mono ?_; rintro e w1 ⟨rfl, hb1⟩; have BE := Lib.hid (show Below w.heap.size w w1 from B0.out.trans (hb1.mono B0.out.size)); clear hb1)
              | (go_at_call 36; refine SS.out.mono ?_; rintro e w1 ⟨rfl, hb1⟩; have BE := Lib.hid (show Below w.heap.size w w1 from B0.out.trans (hb1.mono B0.out.size)); clear hb1))
            go_ret
            rw [V.out]
            exact ⟨rfl, B0.out⟩
        · have qg1 : (r.cart == 0) = false := by simpa using g1
          have V := Lib.hid (show goodV r = false by unfold goodV; simp [kd, g1])
          clear g1
          clear kd
          go_wp2_with (first
            | (go_at_call 33; refine (sWithin _ _ _).mono ?_; rintro e w9 ⟨rfl, rfl⟩)
            | (go_at_call 35; refine (sKey _ _).mono ?_; rintro e w9 ⟨rfl, rfl⟩)
            | (go_at_call 34; refine SN.out.mono ?_; rintro e w1 ⟨rfl, hb1⟩; have BE := Lib.hid (show Below w.heap.size w w1 from B0.out.trans (hb1.mono B0.out.size)); clear hb1)
            | (go_at_call 36; refine SS.out.mono ?_; rintro e w1 ⟨rfl, hb1⟩; have BE := Lib.hid (show Below w.heap.size w w1 from B0.out.trans (hb1.mono B0.out.size)); clear hb1))
          go_ret
          rw [V.out]
          exact ⟨rfl, B0.out⟩
      · have kq2 : (r.kind == 2) = false := by simpa using e2
        have V := Lib.hid (show goodV r = false by unfold goodV; simp [e1, e3, e2])
        clear e1 e2 e3
        go_wp2_with fail
        go_ret
        rw [V.out]
        exact ⟨rfl, B0.out⟩
end
end Go.Proofs.Ythceidacmeadkaa
