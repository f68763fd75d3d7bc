/- Does a step have only what its line has? No condition beyond those that each theorem states. -/
import Derived.Test.YtkkmojbaoflafaaDoorY3
import Derived.Shelf.Strings.Search3
import Derived.Lib.IndexLaws
namespace Go.Proofs.YtkkmojbaoflafaaDoor
open Go.RowKit Go.Shelf

def conL_ren : Go.Shelf.Ren := ⟨fun | 144 => 34 | 143 => 47 | 219 => 58 | 217 => 56 | 225 => 75 | 224 => 76 | 267 => 77 | 266 => 74 | 314 => 88 | n => n, fun | 9 => 9 | 4 => 4 | 3 => 3 | 5 => 5 | 46 => 81 | 146 => 123 | 51 => 114 | n => n, fun | 1 => 0 | n => n⟩
theorem conL : Go.Proofs.Lays.n144 Tryd.prog conL_ren := {
  mixed := by kernel_rfl
  f143 := Tryd.func47.trans (congrArg some (by kernel_rfl))
  f144 := Tryd.func34.trans (congrArg some (by kernel_rfl))
  f217 := Tryd.func56.trans (congrArg some (by kernel_rfl))
  f219 := Tryd.func58.trans (congrArg some (by kernel_rfl))
  f224 := Tryd.func76.trans (congrArg some (by kernel_rfl))
  f225 := Tryd.func75.trans (congrArg some (by kernel_rfl))
  f266 := Tryd.func74.trans (congrArg some (by kernel_rfl))
  f267 := Tryd.func77.trans (congrArg some (by kernel_rfl))
  f314 := Tryd.func88.trans (congrArg some (by kernel_rfl))
  t3 := Tryd.underlying3
  a3 := Tryd.isAgg3
  z3 := Tryd.sizeOf3
  v3 := Tryd.zeroValue3
  t4 := Tryd.underlying4
  a4 := Tryd.isAgg4
  z4 := Tryd.sizeOf4
  v4 := Tryd.zeroValue4
  t5 := Tryd.underlying5
  a5 := Tryd.isAgg5
  z5 := Tryd.sizeOf5
  v5 := Tryd.zeroValue5
  t9 := Tryd.underlying9
  a9 := Tryd.isAgg9
  z9 := Tryd.sizeOf9
  v9 := Tryd.zeroValue9
  t46 := Tryd.underlying81
  a46 := Tryd.isAgg81
  z46 := Tryd.sizeOf81
  v46 := Tryd.zeroValue81
  t51 := Tryd.underlying114
  a51 := Tryd.isAgg114
  z51 := Tryd.sizeOf114
  v51 := Tryd.zeroValue114
  t146 := Tryd.underlying123
  a146 := Tryd.isAgg123
  z146 := Tryd.sizeOf123
  v146 := Tryd.zeroValue123
  g1 := by kernel_rfl }
theorem index_has (l : Str) (c : UInt8) : decide (0 ≤ Lib.indexByte l c) = l.contains c := by
  induction l with
  | nil => rfl
  | cons b l ih =>
    have hg := Lib.indexByte_ge l c
    rw [Lib.indexByte, List.contains_cons]
    by_cases h : b = c
    · subst h
      simp
    · have h1 : (b == c) = false := by simpa using h
      have h2 : (c == b) = false := by simpa using Ne.symm h
      rw [h1, h2, Bool.false_or, ← ih]
      simp only [Bool.false_eq_true, if_false]
      split
      · rename_i hm
        have : Lib.indexByte l c = -1 := by simpa using hm
        rw [this]
      · rename_i hm
        have : Lib.indexByte l c ≠ -1 := by simpa using hm
        rw [decide_eq_true (by omega), decide_eq_true (by omega)]
theorem tContains (s : Str) (c : UInt8) (w : World) : Calls Tryd.prog 34 #[strV s, .string ⟨#[c]⟩] w fun e w' => e = .returned (.bool (decide (c ∈ s))) ∧ w = w' := by
  refine (Any.strings_Contains_one conL ⟨s.toArray⟩ c w).mono ?_
  rintro e w' ⟨rfl, rfl⟩
  exact ⟨by rw [index_has]; simp, rfl⟩
section
set_option maxHeartbeats 4000000
set_option maxRecDepth 8000
theorem tFits1 (b : Nat) (has : Str) (c : UInt8) (w : World) (h : w.cell? ⟨b, 1, none⟩ = some (strV has)) :
    Calls Tryd.prog 33 #[.string ⟨#[c]⟩, .pointer (some ⟨b, 0, none⟩)] w fun e w' => e = .returned (.bool (decide (c ∈ has))) ∧ w = w' := by
  go_enter Tryd.func33, Tryd.ntmps33
  go_wp2_with (go_at_call 34; refine (tContains has c _).mono ?_; rintro e w1 ⟨rfl, rfl⟩)
  go_ret
  exact ⟨rfl, rfl⟩
theorem cell_two (w : World) (a b : Value) (t : TypeId) (o : Obj) : ((w.alloc (.cells #[a, b] t)).alloc o).cell? ⟨w.heap.size, 1, none⟩ = some b :=
  ((Blk.made w t #[a, b]).alloc o).cell 1
def stepV (x : StepV) (A : Option Addr) (c : Nat) : Value := .agg #[.int .i64 x.kind, .int .i64 x.a, .int .i64 x.b, strV x.key, .slice A x.data.length c]
theorem tFits (f : Str × Str) (x : StepV) (A : Option Addr) (c : Nat) (w : World) :
    Calls Tryd.prog 18 #[.agg #[strV f.1, strV f.2], stepV x A c] w fun e w' => e = .returned (.bool (fitsT f.2 x)) ∧ Below w.heap.size w w' := by
  obtain ⟨wd, has⟩ := f
  obtain ⟨k, a, b, key, data⟩ := x
  unfold stepV
  go_enter Tryd.func18, Tryd.ntmps18
  go_wp2_with (go_at_call 33; refine (tFits1 w.heap.size has _ _ (by exact cell_two _ _ _ _ _)).mono ?_; rintro e w1 ⟨rfl, rfl⟩)
  all_goals
    go_ret
    refine ⟨?_, ((Below.refl _ w).alloc (Nat.le_refl _) _).alloc (by simp) _⟩
    first
    | (simp_all [fitsT]; done)
    | (simp_all [fitsT]; by_cases hb0 : b = 0 <;> simp [hb0])
end
end Go.Proofs.YtkkmojbaoflafaaDoor
