/- slices.Repeat of one place. No condition beyond those that each theorem states. -/
import Derived.Test.YthceidacmeadkaaS4
import Derived.Laws.CopyRow
import Derived.Laws.CopyOwn
import Derived.Shelf.Spec.SlicesInsert
import Derived.Deep.RegionHeldLaw
namespace Go.Proofs.Ythceidacmeadkaa
open Go.RowKit
attribute [local go_sem] Oper.semAt_some

theorem run_copy_rows {P : Program} (w : World) (dT sT ty elem : TypeId) (g o dLen dCap : Nat) (a : Addr) (sLen sCap : Nat) (cur : Array Value) (t : TypeId) (cs : List Value) (k m : Nat)
    (hu : P.underlying dT = some (.slice elem)) (hs : (P.info? elem).map (·.size) = some k)
    (hg : w.heap[g]? = some (.cells cur t (0, 0))) (hm : Nat.min sLen dLen = m) (hn : cs.length = m * k)
    (hsrc : ∀ j v, cs[j]? = some v → w.cell? (a.add j) = some v) (hfit : o + cs.length ≤ cur.size) (h1 : ∀ v ∈ cs, v.oneCell' = true) :
    (Builtin.copy_ #[dT, sT] ty #[.slice (some ⟨g, o, none⟩) dLen dCap, .slice (some a) sLen sCap]).run P w =
      .ok (goInt m) (w.setRow g (cur.toList.take o ++ cs ++ cur.toList.drop (o + cs.length)).toArray) := by
  have hl := run_loadCells_list (P := P) w a cs hsrc
  have hst := run_storeCells_at P g o t cs 0 cur w hg (by simpa using hfit) h1
  rw [hn] at hl
  cases hq : P.info? elem with
  | none => simp [hq] at hs
  | some i =>
    have hi : i.size = k := by simpa [hq] using hs
    simp [Builtin.copy_, run_underlying hu, Builtin.lenOf, Builtin.firstCells, sizeOf, typeInfo, hq, hi, hm, hl, hst]
def nones (n : Nat) : List Value := (List.replicate n [Value.int .i64 0, Value.int .i64 1024]).flatten
def zeros (n : Nat) : List Value := (List.replicate n [Value.int .i64 0, Value.int .i64 0]).flatten
theorem below_drew3 {B : Nat} {a w : World} (h : Below B a w) : Below B a w.drew := ⟨h.os, h.tape, h.output, h.size, h.block⟩
theorem nones_len (n : Nat) : (nones n).length = n * 2 := by simp [nones]
theorem zeros_len (n : Nat) : (zeros n).length = n * 2 := by simp [zeros]
theorem nones_add (a b : Nat) : nones (a + b) = nones a ++ nones b := by simp [nones, ← List.replicate_append_replicate]
theorem zeros_add (a b : Nat) : zeros (a + b) = zeros a ++ zeros b := by simp [zeros, ← List.replicate_append_replicate]
theorem nones_one (n : Nat) : ∀ v ∈ nones n, v.oneCell' = true := by
  intro v hv
  simp only [nones, List.mem_flatten, List.mem_replicate] at hv
  obtain ⟨l, ⟨_, rfl⟩, hv⟩ := hv
  simp only [List.mem_cons, List.not_mem_nil, or_false] at hv
  rcases hv with rfl | rfl <;> rfl
def rowR (n m : Nat) : List Value := nones n ++ zeros (m - n)
theorem row_copy {n q m : Nat} (h : n + q ≤ m) : (rowR n m).take (n * 2) ++ nones q ++ (rowR n m).drop (n * 2 + q * 2) = rowR (n + q) m := by
  unfold rowR
  have e1 : (nones n ++ zeros (m - n)).take (n * 2) = nones n := by rw [List.take_append_of_le_length (by rw [nones_len]; exact Nat.le_refl _), List.take_of_length_le (by rw [nones_len]; exact Nat.le_refl _)]
  have e2 : (nones n ++ zeros (m - n)).drop (n * 2 + q * 2) = zeros (m - (n + q)) := by
    rw [List.drop_append, List.drop_of_length_le (by rw [nones_len]; omega), nones_len, List.nil_append, show n * 2 + q * 2 - n * 2 = q * 2 by omega, show m - n = q + (m - (n + q)) by omega, zeros_add]
    rw [List.drop_append, List.drop_of_length_le (by rw [zeros_len]; exact Nat.le_refl _), zeros_len]
    simp
  rw [e1, e2, nones_add]
theorem and32 (k : Nat) (hk : k < 64) : bits .and .u64 (k : Int) 4294967295 = (k : Int) := by
  have h : ∀ k : Fin 64, bits .and .u64 (k.val : Int) 4294967295 = (k.val : Int) := by decide +kernel
  exact h ⟨k, hk⟩
theorem sMul64 (m : Nat) (hm : m < 64) (w : World) : Calls Try.prog 69 #[.int .u64 1, .int .u64 (m : Int)] w fun e w' => e = .returned (.tuple #[.int .u64 0, .int .u64 (m : Int)]) ∧ w = w' := by
  have a1 := and32 m hm
  have a2 : (m : Int) / 4294967296 = 0 := by omega
  have a3 : IntKind.u64.wrap (m : Int) = (m : Int) := by simp [IntKind.wrap, IntKind.signed, IntKind.bits]; omega
  have b1 : bits .and .u64 1 4294967295 = 1 := and32 1 (by omega)
  have b0 : bits .and .u64 0 4294967295 = 0 := and32 0 (by omega)
  have w0 : IntKind.u64.wrap 0 = 0 := rfl
  go_enter Try.func69, Try.ntmps69
  go_wp2_with fail
  go_ret2
  exact ⟨rfl, rfl⟩
theorem sMul (m : Nat) (hm : m < 64) (w : World) : Calls Try.prog 52 #[.int .u64 1, .int .u64 (m : Int)] w fun e w' => e = .returned (.tuple #[.int .u64 0, .int .u64 (m : Int)]) ∧ w = w' := by
  go_enter Try.func52, Try.ntmps52
  go_wp2_with (
    go_at_call 69
    refine (sMul64 m hm w).mono ?_
    rintro e w1 ⟨rfl, rfl⟩)
  go_ret2
  exact ⟨rfl, rfl⟩
theorem place_info : (Try.prog.info? 34).map (fun i => (i.zero, i.size, i.bytes)) = some (some (.agg #[.int .i64 0, .int .i64 0]), 2, 16) := by kernel_rfl
theorem place_size : (Try.prog.info? 34).map (·.size) = some 2 := by kernel_rfl
theorem made_zeros {m : Nat} (hm : m = 10 ∨ m = 20 ∨ m = 30 ∨ m = 40) : madeCells (Value.agg #[.int .i64 0, .int .i64 0]).cells (m * 2) = (zeros m).toArray := by
  rcases hm with rfl | rfl | rfl | rfl <;> kernel_rfl
theorem copy_step {w0 w1 : World} {n q m sLen sCap dLen dCap : Nat} {a : Addr} (hg : Blk w1 w0.heap.size 34 (rowR n m).toArray) (hb : Below w0.heap.size w0 w1) (hq : min sLen dLen = q) (hnq : n + q ≤ m)
    (hsrc : ∀ j v, (nones q)[j]? = some v → w1.cell? (a.add j) = some v) :
    ∃ w2, (∀ ty, (Builtin.copy_ #[30, 30] ty #[.slice (some ⟨w0.heap.size, n * 2, none⟩) dLen dCap, .slice (some a) sLen sCap]).run Try.prog w1 = .ok (.int .i64 (q : Int)) w2) ∧ Blk w2 w0.heap.size 34 (rowR (n + q) m).toArray ∧ Below w0.heap.size w0 w2 := by
  have hl : (rowR n m).length = m * 2 := by unfold rowR; rw [List.length_append, nones_len, zeros_len]; omega
  refine ⟨_, fun ty => run_copy_rows (P := Try.prog) w1 30 30 ty 34 w0.heap.size (n * 2) dLen dCap a sLen sCap (rowR n m).toArray 34 (nones q) 2 q Try.underlying30 place_size hg (by rw [← hq]) (nones_len q) hsrc (by rw [List.size_toArray, nones_len, hl]; omega) (nones_one q), ?_, ?_⟩
  · have h := setRow_heap w1 w0.heap.size _ ((rowR n m).take (n * 2) ++ nones q ++ (rowR n m).drop (n * 2 + (nones q).length)).toArray 34 (0, 0) hg
    rw [nones_len, row_copy hnq] at h
    have e : (rowR n m).take (n * 2) ++ nones q ++ (rowR n m).drop (n * 2 + (nones q).length) = rowR (n + q) m := by rw [nones_len, row_copy hnq]
    show Blk (w1.setRow w0.heap.size ((rowR n m).take (n * 2) ++ nones q ++ (rowR n m).drop (n * 2 + (nones q).length)).toArray) _ _ _
    rw [e]
    exact h
  · exact below_setRow hb (Nat.le_refl _) _
theorem row_full (m : Nat) : rowR m m = nones m := by simp [rowR, zeros]
set_option maxHeartbeats 8000000 in
set_option maxRecDepth 100000 in
theorem sRepeat (gx m : Nat) (w : World) (hx0 : w.cell? ⟨gx, 0, none⟩ = some (.int .i64 0)) (hx1 : w.cell? ⟨gx, 1, none⟩ = some (.int .i64 1024)) (hm : m = 10 ∨ m = 20 ∨ m = 30 ∨ m = 40) :
    Calls Try.prog 41 #[.slice (some ⟨gx, 0, none⟩) 1 1, .int .i64 (m : Int)] w fun e w' => e = .returned (.slice (some ⟨w.heap.size, 0, none⟩) m m) ∧ Blk w' w.heap.size 34 (nones m).toArray ∧ Below w.heap.size w w' := by
  obtain ⟨i0, hi0, hz0, hz1, hz2⟩ := info_parts place_info
  have hm9 : m < 64 := by omega
  have hm1 : 10 ≤ m := by omega
  have hmk := run_makeSlice (P := Try.prog) w 30 34 i0 _ Try.underlying30 hi0 hz0 .i64 .i64 (m : Int) (m : Int) (by omega) (Int.le_refl _) (by rw [hz1]; simp; omega) (by rw [hz2]; simp; omega) (by omega)
  rw [hz1, Int.toNat_natCast, made_zeros hm] at hmk
  have X0 := Lib.hid hx0
  have X1 := Lib.hid hx1
  have hgx : gx < w.heap.size := World.block_lt_of_cell? _ _ hx0
  have HM := Lib.hid hm
  have a0 : decide ((m : Int) < 0) = false := decide_eq_false (by omega)
  have a1 : ¬ (m : Int) < 0 := by omega
  have a2 : IntKind.u64.wrap (m : Int) = (m : Int) := by simp [IntKind.wrap, IntKind.signed, IntKind.bits]; omega
  have a3 : decide ((9223372036854775807 : Int) < (m : Int)) = false := decide_eq_false (by omega)
  have a4 : ¬ (9223372036854775807 : Int) < (m : Int) := by omega
  have a5 : IntKind.i64.wrap (m : Int) = (m : Int) := IntWalk.i64_in _ (by omega)
  clear hx0 hx1 hm
  go_enter Try.func41, Try.ntmps41
  go_upto_region 7 with (
    go_at_call 52
    refine (sMul m hm9 w).mono ?_
    rintro e w1 ⟨rfl, rfl⟩)
  obtain ⟨w1, hw1⟩ : ∃ z, w.alloc (.cells (zeros m).toArray 34) = z := ⟨_, rfl⟩
  have G1 := Lib.hid (show Blk w1 w.heap.size 34 (rowR 0 m).toArray by rw [← hw1, show rowR 0 m = zeros m by simp [rowR, nones]]; exact Blk.made _ _ _)
  have B1 := Lib.hid (show Below w.heap.size w w1 by rw [← hw1]; exact (Below.refl _ w).alloc (Nat.le_refl _) _)
  rw [hw1]
  clear hw1 hmk
  obtain ⟨w2, hr2, hg2, hb2⟩ := copy_step (sLen := 1) (sCap := 1) (dLen := m) (dCap := m) (q := 1) (n := 0) (a := ⟨gx, 0, none⟩) G1.out B1.out (by omega) (by omega) (fun j v hv => by
    have hj : j < 2 := by have h := (List.getElem?_eq_some_iff.1 hv).1; rw [nones_len] at h; omega
    rw [add_plain, Nat.zero_add]
    rcases (show j = 0 ∨ j = 1 by omega) with rfl | rfl
    · rw [keepc B1.out hgx X0.out]
      simpa [nones] using hv
    · rw [keepc B1.out hgx X1.out]
      simpa [nones] using hv)
  have G2 := Lib.hid hg2
  have B2 := Lib.hid hb2
  simp only [Nat.zero_mul, Nat.zero_add] at hr2 G2
  clear hg2 hb2 G1 B1
  go_upto_region 8 with (
    at_builtin
    refine Go.Proofs.wpList_copy_runI _ rfl _ _ 30 30 rfl _ _ rfl rfl (hr2 _) ?_)
  clear hr2
  go_loopw [8] (fun v wr => ∃ n : Nat, v = .int .i64 n ∧ 1 ≤ n ∧ n ≤ m ∧ Blk wr w.heap.size 34 (rowR n m).toArray ∧ Below w.heap.size w wr) (fun v _ => m - (intOf v).toNat)
  case atStart => exact ⟨1, rfl, Nat.le_refl _, by omega, G2.out, B2.out⟩
  case round =>
    obtain ⟨n, rfl, hn1, hnm, hg, hb⟩ := hrel
    have GR := Lib.hid hg
    have BR := Lib.hid hb
    have hgz := hg.size
    clear hg hb G2 B2
    by_cases hlt : n < m
    · have f1 : decide ((n : Int) < (m : Int)) = true := decide_eq_true (by omega)
      have f2 : (n : Int) < (m : Int) := by omega
      have f3 : (0 : Int) ≤ (n : Int) := by omega
      have f4 : (n : Int) ≤ (m : Int) := by omega
      obtain ⟨q, hq⟩ : ∃ q, min n (m - n) = q := ⟨_, rfl⟩
      have hq1 : 1 ≤ q := by rw [← hq]; omega
      have hqn : q ≤ n := by rw [← hq]; omega
      have hnq : n + q ≤ m := by rw [← hq]; omega
      obtain ⟨w3, hr3, hg3, hb3⟩ := copy_step (sLen := n) (sCap := m) (dLen := m - n) (dCap := m - n) (q := q) (n := n) (a := ⟨w.heap.size, 0, none⟩) (show Blk wr.drew w.heap.size 34 (rowR n m).toArray from GR.out) (below_drew3 BR.out) hq hnq (fun j v hv => by
        have hj : j < q * 2 := by have h := (List.getElem?_eq_some_iff.1 hv).1; rw [nones_len] at h; exact h
        rw [add_plain, Nat.zero_add]
        have h := (show Blk wr.drew w.heap.size 34 (rowR n m).toArray from GR.out).cell j
        rw [h]
        have hn2 : nones n = nones q ++ nones (n - q) := by rw [← nones_add]; congr 1; omega
        simp only [List.getElem?_toArray, rowR]
        rw [List.getElem?_append_left (by rw [nones_len]; omega), hn2, List.getElem?_append_left (by rw [nones_len]; exact hj), hv])
      have G3 := Lib.hid hg3
      have B3 := Lib.hid hb3
      have p1 : IntKind.i64.wrap ((n : Int) + (q : Int)) = ((n + q : Nat) : Int) := by rw [IntWalk.i64_in _ (by omega)]; omega
      clear hg3 hb3 hq
      go_upto_region 9 with fail
      have hne : ¬ m = n := by omega
      go_region_law (fail)
      all_goals
        go_wp2_with fail
        go_roundw
        case rel => (repeat apply Exists.intro); exact ⟨⟨n + q, rfl, by omega, hnq, G3.out, B3.out⟩, rfl⟩
        case measure =>
          show m - Int.toNat ((n + q : Nat) : Int) < m - Int.toNat (n : Int)
          rw [Int.toNat_natCast, Int.toNat_natCast]
          omega
    · have hnm2 : n = m := by omega
      have f1 : decide ((n : Int) < (m : Int)) = false := decide_eq_false (by omega)
      have f2 : ¬ (n : Int) < (m : Int) := by omega
      have GE := Lib.hid (show Blk wr w.heap.size 34 (nones m).toArray by have h := GR.out; rw [hnm2, row_full] at h; exact h)
      clear hnm2
      go_wp2_with fail
      go_ret
      exact ⟨rfl, GE.out, BR.out⟩
end Go.Proofs.Ythceidacmeadkaa
