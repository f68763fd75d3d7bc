/- A text parted at a sign. No condition beyond those that each theorem states. -/
import Derived.Test.YtkkmojbaoflafaaDoorY5
import Derived.Shelf.Strings.Split
import Derived.Shelf.Strings.Count
import Derived.Ground.NamesProg
import Derived.Lib.SplitLaws
import Derived.Lib.IndexBytes
namespace Go.Proofs.YtkkmojbaoflafaaDoor
open Go.RowKit Go.Shelf

def genL_ren : Go.Shelf.Ren := ⟨fun | 221 => 40 | 268 => 51 | 138 => 52 | 143 => 47 | 195 => 65 | 197 => 66 | 218 => 67 | 219 => 58 | 260 => 83 | 217 => 56 | 225 => 75 | 224 => 76 | 267 => 77 | 266 => 74 | 314 => 88 | n => n, fun | 9 => 9 | 3 => 3 | 31 => 50 | 4 => 4 | 0 => 0 | 105 => 103 | 21 => 21 | 5 => 5 | 46 => 81 | 119 => 126 | 139 => 129 | 138 => 128 | 146 => 123 | 51 => 114 | n => n, fun | 1 => 0 | 3 => 4 | 4 => 5 | n => n⟩
theorem genL : Go.Proofs.Lays.n221 Tryd.prog genL_ren := {
  mixed := by kernel_rfl
  f138 := Tryd.func52.trans (congrArg some (by kernel_rfl))
  f143 := Tryd.func47.trans (congrArg some (by kernel_rfl))
  f195 := Tryd.func65.trans (congrArg some (by kernel_rfl))
  f197 := Tryd.func66.trans (congrArg some (by kernel_rfl))
  f217 := Tryd.func56.trans (congrArg some (by kernel_rfl))
  f218 := Tryd.func67.trans (congrArg some (by kernel_rfl))
  f219 := Tryd.func58.trans (congrArg some (by kernel_rfl))
  f221 := Tryd.func40.trans (congrArg some (by kernel_rfl))
  f224 := Tryd.func76.trans (congrArg some (by kernel_rfl))
  f225 := Tryd.func75.trans (congrArg some (by kernel_rfl))
  f260 := Tryd.func83.trans (congrArg some (by kernel_rfl))
  f266 := Tryd.func74.trans (congrArg some (by kernel_rfl))
  f267 := Tryd.func77.trans (congrArg some (by kernel_rfl))
  f268 := Tryd.func51.trans (congrArg some (by kernel_rfl))
  f314 := Tryd.func88.trans (congrArg some (by kernel_rfl))
  t0 := Tryd.underlying0
  a0 := Tryd.isAgg0
  z0 := Tryd.sizeOf0
  v0 := Tryd.zeroValue0
  t3 := Tryd.underlying3
  a3 := Tryd.isAgg3
  z3 := Tryd.sizeOf3
  v3 := Tryd.zeroValue3
  t4 := Tryd.underlying4
  a4 := Tryd.isAgg4
  z4 := Tryd.sizeOf4
  v4 := Tryd.zeroValue4
  t5 := Tryd.underlying5
  a5 := Tryd.isAgg5
  z5 := Tryd.sizeOf5
  v5 := Tryd.zeroValue5
  t9 := Tryd.underlying9
  a9 := Tryd.isAgg9
  z9 := Tryd.sizeOf9
  v9 := Tryd.zeroValue9
  t21 := Tryd.underlying21
  a21 := Tryd.isAgg21
  z21 := Tryd.sizeOf21
  v21 := Tryd.zeroValue21
  t31 := Tryd.underlying50
  a31 := Tryd.isAgg50
  z31 := Tryd.sizeOf50
  v31 := Tryd.zeroValue50
  t46 := Tryd.underlying81
  a46 := Tryd.isAgg81
  z46 := Tryd.sizeOf81
  v46 := Tryd.zeroValue81
  t51 := Tryd.underlying114
  a51 := Tryd.isAgg114
  z51 := Tryd.sizeOf114
  v51 := Tryd.zeroValue114
  t105 := Tryd.underlying103
  a105 := Tryd.isAgg103
  z105 := Tryd.sizeOf103
  v105 := Tryd.zeroValue103
  t119 := Tryd.underlying126
  a119 := Tryd.isAgg126
  z119 := Tryd.sizeOf126
  t138 := Tryd.underlying128
  a138 := Tryd.isAgg128
  z138 := Tryd.sizeOf128
  v138 := Tryd.zeroValue128
  t139 := Tryd.underlying129
  a139 := Tryd.isAgg129
  z139 := Tryd.sizeOf129
  v139 := Tryd.zeroValue129
  t146 := Tryd.underlying123
  a146 := Tryd.isAgg123
  z146 := Tryd.sizeOf123
  v146 := Tryd.zeroValue123
  g1 := by kernel_rfl
  g3 := by kernel_rfl
  g4 := by kernel_rfl }
theorem str9_info : (Tryd.prog.info? 9).map (fun i => (i.zero, i.size, i.bytes)) = some (some (.string ByteArray.empty), 1, 16) := by kernel_rfl
theorem split_miss {c : UInt8} {s : Str} (h : c ∉ s) (k : Nat) : Lib.splitK [c] 0 k s = [s] := by
  cases k with
  | zero => rfl
  | succ k =>
    have hi : Lib.index s [c] = -1 := by
      rw [Lib.index_one]
      rcases Int.lt_or_le (Lib.indexByte s c) 0 with h1 | h1
      · have := Lib.indexByte_ge s c
        omega
      · exfalso
        have h2 := Lib.indexByte_some (l := s) (c := c) (o := (Lib.indexByte s c).toNat) (by omega)
        exact h (List.mem_of_getElem? h2.1)
    unfold Lib.splitK
    rw [hi]
    rfl
theorem index_at {c : UInt8} : ∀ {a : Str} (r : Str), c ∉ a → Lib.indexByte (a ++ c :: r) c = a.length
  | [], r, _ => by simp [Lib.indexByte]
  | x :: a, r, h => by
    have hx : (x == c) = false := by
      have : x ≠ c := fun e => h (by simp [e])
      simpa using this
    have ih := index_at r (a := a) (fun e => h (List.mem_cons_of_mem _ e))
    rw [List.cons_append, Lib.indexByte, hx, ih]
    simp
theorem first_of {c : UInt8} : ∀ {s : Str}, c ∈ s → ∃ a r, s = a ++ c :: r ∧ c ∉ a
  | [], h => by cases h
  | x :: s, h => by
    by_cases hx : x = c
    · exact ⟨[], s, by rw [hx]; rfl, by simp⟩
    · have h1 : c ∈ s := (List.mem_cons.1 h).resolve_left (fun e => hx e.symm)
      obtain ⟨a, r, rfl, ha⟩ := first_of h1
      exact ⟨x :: a, r, rfl, fun e => (List.mem_cons.1 e).elim (fun e => hx e.symm) ha⟩
theorem split_count (c : UInt8) : ∀ (n : Nat) (s : Str), s.length ≤ n → Lib.splitK [c] 0 (s.count c) s = splitT c s
  | 0, s, h => by
    obtain rfl : s = [] := List.eq_nil_of_length_eq_zero (by omega)
    rfl
  | n + 1, s, h => by
    by_cases hc : c ∈ s
    · obtain ⟨a, r, rfl, ha⟩ := first_of hc
      have hcnt : (a ++ c :: r).count c = r.count c + 1 := by
        rw [List.count_append, List.count_cons_self, List.count_eq_zero_of_not_mem ha]
        omega
      have hi : Lib.index (a ++ c :: r) [c] = (a.length : Int) := by rw [Lib.index_one, index_at r ha]
      rw [hcnt]
      unfold Lib.splitK
      rw [hi, splitT_at r ha]
      have hne : ((a.length : Int) == -1) = false := by simp
      rw [hne]
      simp only [Bool.false_eq_true, if_false, Int.toNat_natCast, Nat.add_zero, List.length_singleton]
      rw [show (a ++ c :: r).take a.length = a by simp, show (a ++ c :: r).drop (a.length + 1) = r by simp [List.drop_append]]
      rw [split_count c n r (by simp at h; omega)]
    · rw [split_miss hc, splitT_calm hc]
section
set_option maxHeartbeats 8000000
set_option maxRecDepth 8000
theorem tSplit (s : Str) (w : World) (hs : s.length ≤ 1000000000) :
    Calls Tryd.prog 26 #[strV s, .string ⟨#[32]⟩] w fun e w' => ∃ g, e = .returned (.slice (some ⟨g, 0, none⟩) (splitT 32 s).length (splitT 32 s).length) ∧ w.heap.size ≤ g ∧ g < w'.heap.size ∧ RowAt w' g 9 ((splitT 32 s).map strV) ∧ Below w.heap.size w w' := by
  have hsz : (⟨s.toArray⟩ : ByteArray).size = s.length := by
    show s.toArray.size = _
    simp
  have hd : (⟨s.toArray⟩ : ByteArray).data.toList = s := rfl
  have hcb : Lib.countB ⟨s.toArray⟩ ⟨#[32]⟩ = s.count 32 := Lib.count_one 32 s
  have hlen := Lib.splitB_all ⟨#[32]⟩ (by decide) 0 _ ⟨s.toArray⟩ rfl
  have hdat := Lib.splitB_data ⟨#[32]⟩ 0 (Lib.countB ⟨s.toArray⟩ ⟨#[32]⟩) ⟨s.toArray⟩
  rw [hcb] at hlen hdat
  have hdat' : (Lib.splitB ⟨#[32]⟩ 0 (s.count 32) ⟨s.toArray⟩).map (·.data.toList) = splitT 32 s := hdat.trans (split_count 32 _ s (Nat.le_refl _))
  have hl2 : (splitT 32 s).length = s.count 32 + 1 := by rw [← hdat', List.length_map, hlen]
  have hcs : s.count 32 ≤ s.length := List.count_le_length
  have core := Any.strings_genSplit_core genL str9_info ⟨s.toArray⟩ ⟨#[32]⟩ 0 (-1) (s.count 32 + 1) w (by rw [hsz]; omega) (by decide) (by decide)
    (fun x c hx => (Any.strings_Index_one { genL with } x 32 _).mono fun e w' ⟨he, hw⟩ => ⟨by rw [he]; show _ = Ending.returned (Value.int .i64 (Lib.index x.data.toList [32])); rw [Lib.index_one], hw⟩)
    ((Any.strings_Count_one { genL with } ⟨s.toArray⟩ 32 w).mono fun e w' ⟨he, hw⟩ => ⟨by rw [he, hcb]; rfl, hw⟩)
    (by decide) (by decide) (by rw [if_pos (by decide), hcb, hsz]; omega)
  rw [Nat.add_sub_cancel, hlen] at core
  have e2 : Lib.cellsOf (Lib.splitB ⟨#[32]⟩ 0 (s.count 32) ⟨s.toArray⟩) (s.count 32 + 1) = ((splitT 32 s).map strV).toArray := by
    rw [← hlen, Lib.cellsOf_full, ← hdat', List.map_map]
    congr 1
  rw [e2] at core
  have CO := Lib.hid core
  clear core e2 hdat hdat' hlen hcb hd
  go_enter Tryd.func26, Tryd.ntmps26
  go_wp2_with (go_at_call 40; refine CO.out.mono ?_; rintro e w1 ⟨rfl, rfl⟩)
  go_ret
  refine ⟨w.heap.size, by rw [hl2]; rfl, Nat.le_refl _, by simp, ⟨_, heap_alloc_new w _, by
    show ((splitT 32 s).map strV).take _ = _
    exact List.take_of_length_le (Nat.le_refl _)⟩, (Below.refl _ w).alloc (Nat.le_refl _) _⟩
end
end Go.Proofs.YtkkmojbaoflafaaDoor
