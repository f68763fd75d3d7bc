/- The records that the laws of scanning make: a digest, a tomb, the groups of a size. No condition beyond those that each theorem states. -/
import Derived.Test.YthceidacmeadkaaSC
namespace Go.Proofs.Ythceidacmeadkaa
open Go.RowKit Go.Maps Go.WideMaps
attribute [local go_sem] Oper.semAt_some

def digV (n : Nat) : Str := UInt8.ofNat (n % 256) :: List.replicate 31 0
theorem byte_info : (Try.prog.info? 5).map (fun i => (i.zero, i.size, i.bytes)) = some (some (.int .u8 0), 1, 1) := by kernel_rfl
set_option maxHeartbeats 2000000 in
set_option maxRecDepth 20000 in
theorem sDigest (n : Nat) (w : World) : Calls Try.prog 38 #[.int .i64 (n : Int)] w fun e w' => e = .returned (strV (digV n)) ∧ Below w.heap.size w w' := by
  have p1 : IntKind.u8.wrap (n : Int) = ((n % 256 : Nat) : Int) := by simp [IntKind.wrap, IntKind.signed, IntKind.bits]
  obtain ⟨i0, hi0, hz0, hz1, hz2⟩ := info_parts byte_info
  have hmk := run_makeSlice (P := Try.prog) w 35 5 i0 _ Try.underlying35 hi0 hz0 .i64 .i64 32 32 (by decide) (by decide) (by rw [hz1]; decide) (by rw [hz2]; decide) (by decide)
  rw [hz1, show madeCells (Value.int .u8 0).cells ((32 : Int).toNat * 1) = (byteVals (List.replicate 32 0)).toArray from by kernel_rfl] at hmk
  have hmk2 : (Instr.makeSlice 35 (.int .i64 32) (.int .i64 32)).run Try.prog w = .ok (.slice (some ⟨w.heap.size, 0, none⟩) 32 32) (w.alloc (.cells (byteVals (List.replicate 32 0)).toArray 5)) := hmk
  clear hmk
  obtain ⟨w1, hw1⟩ : ∃ z, w.alloc (.cells (byteVals (List.replicate 32 0)).toArray 5) = z := ⟨_, rfl⟩
  rw [hw1] at hmk2
  have X1 := Lib.hid (show Blk w1 w.heap.size 5 (byteVals (List.replicate 32 0)).toArray by rw [← hw1]; exact Blk.made _ _ _)
  have B1 := Lib.hid (show Below w.heap.size w w1 by rw [← hw1]; exact (Below.refl _ w).alloc (Nat.le_refl _) _)
  have k0 : w1.cell? ⟨w.heap.size, 0, none⟩ = some (.int .u8 0) := X1.out.cell 0
  have g0 : w1.frozen? ⟨w.heap.size, 0, none⟩ = false := X1.out.free 0
  clear hw1
  obtain ⟨z, hz⟩ : ∃ z, ((n % 256 : Nat) : Int) = z := ⟨_, rfl⟩
  rw [hz] at p1
  have X2 := Lib.hid (show Blk (w1.setCell ⟨w.heap.size, 0, none⟩ (.int .u8 z)) w.heap.size 5 (byteVals (digV n)).toArray by
    have h := X1.out.store 0 (.int .u8 z)
    rw [show ((byteVals (List.replicate 32 0)).toArray.setIfInBounds 0 (.int .u8 z)) = (byteVals (digV n)).toArray from by
      rw [← hz, show digV n = UInt8.ofNat (n % 256) :: List.replicate 31 0 from rfl]
      simp [byteVals, List.replicate_succ]] at h
    exact h)
  have hcv := run_string_of (P := Try.prog) (w := w1.setCell ⟨w.heap.size, 0, none⟩ (.int .u8 z)) (c := 32) Try.underlying35 Try.underlying5 Try.underlying9 (RowAt.bytesIn (l := digV n) ⟨_, X2.out, List.take_length⟩) (.inr ⟨_, _, rfl⟩)
  have hcv2 : (convert 35 9 (.slice (some ⟨w.heap.size, 0, none⟩) 32 32)).run Try.prog (w1.setCell ⟨w.heap.size, 0, none⟩ (.int .u8 z)) = .ok (strV (digV n)) (w1.setCell ⟨w.heap.size, 0, none⟩ (.int .u8 z)) := hcv
  clear hcv hz
  go_enter Try.func38, Try.ntmps38
  go_wp2_with fail
  go_ret
  exact ⟨rfl, B1.out.setCell (p := ⟨w.heap.size, 0, none⟩) (Nat.le_refl _) _⟩
set_option maxHeartbeats 2000000 in
theorem sGroups9 (n : Nat) (hn : n ≤ 512) (w : World) : Calls Try.prog 37 #[.int .i64 (n : Int)] w fun e w' => e = .returned (.int .i64 (groupsV n)) ∧ w = w' := by
  have V : groupsV n = max 1 (((n : Int) + 127) / 128) := rfl
  obtain ⟨q, hq⟩ : ∃ q, groupsV n = q := ⟨_, rfl⟩
  rw [hq] at V ⊢
  have hq1 : 1 ≤ q := by omega
  have hq4 : q ≤ 4 := by omega
  have HV := Lib.hid V
  clear V hq
  go_enter Try.func37, Try.ntmps37
  go_wp2_with fail
  go_loopw [3] (fun v wr => ∃ m : Int, v = .int .i64 m ∧ 1 ≤ m ∧ m ≤ q ∧ wr = w) (fun v _ => (4 - intOf v).toNat)
  case atStart => exact ⟨1, rfl, Int.le_refl _, hq1, rfl⟩
  case round =>
    obtain ⟨m, rfl, hm1, hmq, rfl⟩ := hrel
    have p1 : IntKind.i64.wrap (128 * m) = 128 * m := IntWalk.i64_in _ (by omega)
    have p2 : IntKind.i64.wrap (m + 1) = m + 1 := IntWalk.i64_in _ (by omega)
    by_cases hlt : m < q
    · have f1 : decide (128 * m < (n : Int)) = true := decide_eq_true (by have := HV.out; omega)
      have f2 : decide (m < 5) = true := decide_eq_true (by omega)
      go_wp2_with fail
      go_roundw
      case rel => exact ⟨m + 1, rfl, by omega, by omega, trivial⟩
      case measure =>
        simp only [intOf]
        omega
    · have f1 : decide (128 * m < (n : Int)) = false := decide_eq_false (by have := HV.out; omega)
      have HM := Lib.hid (show m = q by omega)
      go_wp2_with fail
      go_ret
      exact ⟨by rw [← HM.out]; rfl, rfl⟩
def tombP (key : Str) (gen : Int) : FoundP := ⟨31, 1, ⟨3, 0, key, gen, 0, 0, 0, 0, [], []⟩, none, 0⟩
theorem sTomb (key : Str) (gen : Int) (w : World) : Calls Try.prog 16 #[strV key, .int .i64 gen] w fun e w' => e = .returned (.agg (foundCells (tombP key gen))) ∧ Below w.heap.size w w' := by
  go_enter Try.func16, Try.ntmps16
  go_wp2_with fail
  refine bodyPost_ret (results_cell_row rfl _ _ w.heap.size 39 _ (0, 0) _ rfl (Blk.made _ 39 _) Try.underlying39 rfl (by kernel_rfl)) rfl ?_
  exact ⟨rfl, (Below.refl _ w).alloc (Nat.le_refl _) _⟩
end Go.Proofs.Ythceidacmeadkaa
