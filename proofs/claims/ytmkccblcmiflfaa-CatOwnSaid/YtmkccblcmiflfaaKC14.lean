/- The generations that were begun, sorted. No condition beyond those that each theorem states. -/
import Derived.Test.YtmkccblcmiflfaaKC13
import Derived.Shelf.SlSortCmp.WholeK
import Derived.Shelf.SlSortCmp.NoneTotal
import Derived.Shelf.SlicesG.Cmp
import Derived.Shelf.Lay
import Derived.Ground.SlsfProg
import Derived.Ground.SlgcProg
namespace Go.Proofs.Ytmkccblcmiflfaa
open Go.RowKit Go.Maps Go.WideMaps Go.Shelf Go.Sort

def sortN_ren : Go.Shelf.Ren := ⟨fun | 6 => 41 | 15 => 60 | 14 => 61 | 28 => 75 | 29 => 76 | 20 => 77 | 21 => 78 | 22 => 79 | 23 => 80 | 24 => 81 | 25 => 82 | 26 => 83 | 27 => 84 | 46 => 100 | 47 => 95 | 48 => 96 | 49 => 101 | 50 => 102 | 57 => 107 | n => n, fun | 22 => 22 | 24 => 26 | 25 => 82 | 3 => 3 | 39 => 95 | 0 => 0 | 53 => 109 | 55 => 111 | 4 => 4 | 46 => 102 | 45 => 101 | 50 => 89 | 5 => 5 | 9 => 9 | 66 => 123 | 70 => 127 | 76 => 133 | 77 => 134 | n => n, fun | n => n⟩
theorem sortN : Go.Proofs.SlLaysF0.n6 Try.prog sortN_ren := {
  mixed := by kernel_rfl
  f6 := ⟨Try.f41.name, by decide, Try.func41.trans (congrArg some (by kernel_rfl))⟩
  f14 := ⟨Try.f61.name, by decide, Try.func61.trans (congrArg some (by kernel_rfl))⟩
  f15 := Try.func60.trans (congrArg some (by kernel_rfl))
  f20 := ⟨Try.f77.name, by decide, Try.func77.trans (congrArg some (by kernel_rfl))⟩
  f21 := ⟨Try.f78.name, by decide, Try.func78.trans (congrArg some (by kernel_rfl))⟩
  f22 := ⟨Try.f79.name, by decide, Try.func79.trans (congrArg some (by kernel_rfl))⟩
  f23 := ⟨Try.f80.name, by decide, Try.func80.trans (congrArg some (by kernel_rfl))⟩
  f24 := ⟨Try.f81.name, by decide, Try.func81.trans (congrArg some (by kernel_rfl))⟩
  f25 := ⟨Try.f82.name, by decide, Try.func82.trans (congrArg some (by kernel_rfl))⟩
  f26 := ⟨Try.f83.name, by decide, Try.func83.trans (congrArg some (by kernel_rfl))⟩
  f27 := ⟨Try.f84.name, by decide, Try.func84.trans (congrArg some (by kernel_rfl))⟩
  f28 := Try.func75.trans (congrArg some (by kernel_rfl))
  f29 := Try.func76.trans (congrArg some (by kernel_rfl))
  f46 := ⟨Try.f100.name, by decide, Try.func100.trans (congrArg some (by kernel_rfl))⟩
  f47 := Try.func95.trans (congrArg some (by kernel_rfl))
  f48 := Try.func96.trans (congrArg some (by kernel_rfl))
  f49 := ⟨Try.f101.name, by decide, Try.func101.trans (congrArg some (by kernel_rfl))⟩
  f50 := ⟨Try.f102.name, by decide, Try.func102.trans (congrArg some (by kernel_rfl))⟩
  f57 := ⟨Try.f107.name, by decide, Try.func107.trans (congrArg some (by kernel_rfl))⟩
  t0 := Try.underlying0
  a0 := Try.isAgg0
  z0 := Try.sizeOf0
  v0 := Try.zeroValue0
  t3 := Try.underlying3
  a3 := Try.isAgg3
  z3 := Try.sizeOf3
  v3 := Try.zeroValue3
  t4 := Try.underlying4
  a4 := Try.isAgg4
  z4 := Try.sizeOf4
  v4 := Try.zeroValue4
  t5 := Try.underlying5
  a5 := Try.isAgg5
  z5 := Try.sizeOf5
  v5 := Try.zeroValue5
  t9 := Try.underlying9
  a9 := Try.isAgg9
  z9 := Try.sizeOf9
  v9 := Try.zeroValue9
  t22 := Try.underlying22
  a22 := Try.isAgg22
  z22 := Try.sizeOf22
  v22 := Try.zeroValue22
  t25 := Try.underlying82
  a25 := Try.isAgg82
  z25 := Try.sizeOf82
  v25 := Try.zeroValue82
  t39 := Try.underlying95
  a39 := Try.isAgg95
  z39 := Try.sizeOf95
  v39 := Try.zeroValue95
  t45 := Try.underlying101
  a45 := Try.isAgg101
  z45 := Try.sizeOf101
  v45 := Try.zeroValue101
  t46 := Try.underlying102
  a46 := Try.isAgg102
  z46 := Try.sizeOf102
  v46 := Try.zeroValue102
  t50 := Try.underlying89
  a50 := Try.isAgg89
  z50 := Try.sizeOf89
  v50 := Try.zeroValue89
  t53 := Try.underlying109
  a53 := Try.isAgg109
  z53 := Try.sizeOf109
  v53 := Try.zeroValue109
  t55 := Try.underlying111
  a55 := Try.isAgg111
  z55 := Try.sizeOf111
  v55 := Try.zeroValue111
  t66 := Try.underlying123
  a66 := Try.isAgg123
  z66 := Try.sizeOf123
  v66 := Try.zeroValue123
  t70 := Try.underlying127
  a70 := Try.isAgg127
  z70 := Try.sizeOf127
  v70 := Try.zeroValue127
  t76 := Try.underlying133
  a76 := Try.isAgg133
  z76 := Try.sizeOf133
  v76 := Try.zeroValue133
  t77 := Try.underlying134
  a77 := Try.isAgg134
  z77 := Try.sizeOf134
  v77 := Try.zeroValue134 }
def cmpN_ren : Go.Shelf.Ren := ⟨fun | 5 => 43 | 7 => 62 | n => n, fun | 22 => 3 | 3 => 3 | 4 => 4 | n => n, fun | n => n⟩
theorem cmpN : Go.Proofs.SlLaysC2.n5 Try.prog cmpN_ren := {
  mixed := by kernel_rfl
  f5 := ⟨Try.f43.name, by decide, Try.func43.trans (congrArg some (by kernel_rfl))⟩
  f7 := ⟨Try.f62.name, by decide, Try.func62.trans (congrArg some (by kernel_rfl))⟩
  t3 := Try.underlying3
  a3 := Try.isAgg3
  z3 := Try.sizeOf3
  v3 := Try.zeroValue3
  t4 := Try.underlying4
  a4 := Try.isAgg4
  z4 := Try.sizeOf4
  v4 := Try.zeroValue4
  t22 := Try.underlying3
  a22 := Try.isAgg3
  z22 := Try.sizeOf3
  v22 := Try.zeroValue3 }
def cfN (x y : Str × Int) : Int := Lib.compareInt x.2 y.2
theorem ltN (x y : Str × Int) : ltOf cfN x y = decide (x.2 < y.2) := by
  unfold ltOf cfN Lib.compareInt
  by_cases h1 : x.2 < y.2
  · simp [h1]
  · by_cases h2 : y.2 < x.2 <;> simp [h1, h2]
theorem swoN : SWO (ltOf cfN) where
  irrefl x := by rw [ltN]; simp
  trans x y z h1 h2 := by rw [ltN] at *; simp at *; omega
  ntrans x y z h1 h2 := by rw [ltN] at *; simp at *; omega
set_option maxHeartbeats 1000000 in
theorem gens1_any (x y : Str × Int) (W : World) : Calls Try.prog 42 #[.agg (genCells x).toArray, .agg (genCells y).toArray] W fun e w' => e = .returned (.int .i64 (cfN x y)) ∧ ∃ q os', w' = grow (W.drewN q) os' := by
  have hcon := fun W' => AnyG.cmp_Compare_int cmpN x.2 y.2 W'
  change ∀ W', Calls Try.prog 43 _ _ _ at hcon
  unfold cfN
  generalize Lib.compareInt x.2 y.2 = r at hcon ⊢
  change Calls Try.prog 42 #[.agg #[.int .i64 4, encStr x.1, .int .i64 x.2, .int .i64 0, .slice none 0 0, encStr [], .int .i64 0, .slice none 0 0], .agg #[.int .i64 4, encStr y.1, .int .i64 y.2, .int .i64 0, .slice none 0 0, encStr [], .int .i64 0, .slice none 0 0]] W _
  go_enter Try.func42, Try.ntmps42
  go_wp2_with (go_at_call 43; refine (hcon _).mono ?_; rintro e w' ⟨rfl, rfl⟩)
  go_ret
  exact ⟨rfl, 0, _, by rw [alloc_eq_grow, alloc_eq_grow, grow_grow]; rfl⟩
theorem cmpLaysN (blk off size : Nat) (w : World) : CmpLays Try.prog 42 #[] genCells 8 cfN blk off size w := fun _ _ _ _ x y => gens1_any x y _
theorem sortWorldK_blk {w : World} {g m : Nat} {d : Array (Str × Int)} {os : Array Obj} {t : TypeId} {cs : Array Value} (h : Blk w g t cs) : ∃ cs', Blk (sortWorldK genCells 8 w g 0 m d os) g t cs' := by
  unfold Blk at h
  refine ⟨putCells id 0 (flatK genCells 8 d) cs, ?_⟩
  unfold Blk sortWorldK Sort.grow putRowK Sort.putRow Sort.mapBlock Sort.ahead
  have hlt := (Array.getElem?_eq_some_iff.1 h).1
  rw [Array.getElem?_append_left (by simpa using hlt), Array.getElem?_modify, if_pos rfl, h]
  rfl
theorem sortWorldK_grown (w : World) (g m : Nat) (d : Array (Str × Int)) (os : Array Obj) : w.grownBy (sortWorldK genCells 8 w g 0 m d os) (some g) := by
  refine ⟨rfl, rfl, rfl, by simp [sortWorldK, Sort.grow, putRowK, Sort.putRow, Sort.mapBlock, Sort.ahead], fun k hk hne => ?_⟩
  have hkg : g ≠ k := fun e => hne (by rw [e])
  simp only [sortWorldK, Sort.grow, putRowK, Sort.putRow, Sort.mapBlock, Sort.ahead]
  rw [Array.getElem?_append_left (by simpa using hk), Array.getElem?_modify, if_neg hkg]
theorem genVals_len (L : List (Str × Int)) : (genVals L).length = L.length * 8 := by
  induction L with
  | nil => rfl
  | cons x L ih =>
    have : (genVals (x :: L)) = genCells x ++ genVals L := rfl
    rw [this, List.length_append, ih, List.length_cons]
    show 8 + L.length * 8 = _
    omega
theorem genVals_at {L : List (Str × Int)} {t : Nat} (h : t < L.length * 8) : (genVals L)[t]? = some ((genCells L.toArray[t / 8]!)[t % 8]!) := by
  induction L generalizing t with
  | nil => simp at h
  | cons x L ih =>
    have hl : (genVals (x :: L)) = genCells x ++ genVals L := rfl
    rw [hl]
    by_cases ht : t < 8
    · rw [List.getElem?_append_left (by show t < 8; exact ht), show t / 8 = 0 by omega, show t % 8 = t by omega]
      have e : (x :: L).toArray[0]! = x := by simp
      rw [e, getElem!_pos _ t (by show t < 8; exact ht), List.getElem?_eq_getElem (by show t < 8; exact ht)]
    · have h' : t - 8 < L.length * 8 := by simp only [List.length_cons] at h; omega
      rw [List.getElem?_append_right (by show 8 ≤ t; omega), show t - (genCells x).length = t - 8 from rfl, ih h']
      have e1 : t / 8 = (t - 8) / 8 + 1 := by omega
      have e2 : t % 8 = (t - 8) % 8 := by omega
      rw [e1, e2]
      have hlt : (t - 8) / 8 < L.length := by omega
      congr 2
      rw [getElem!_pos _ _ (by simpa using hlt), getElem!_pos _ _ (by simpa using hlt)]
      simp
theorem holds_gen {w : World} {g : Nat} {L : List (Str × Int)} (h : RowAt w g 26 (genVals L)) : HoldsK genCells 8 w g 0 L.toArray := by
  intro j hj
  rw [size_flatK] at hj
  have hj' : j < L.length * 8 := by simpa using hj
  refine ⟨?_, h.free _⟩
  rw [Nat.zero_add, get_flatK _ _ _ _ hj]
  exact h.cell (genVals_at hj')
theorem row_gen {w : World} {g : Nat} {cs : Array Value} {L : List (Str × Int)} (hb : Blk w g 26 cs) (h : HoldsK genCells 8 w g 0 L.toArray) : RowAt w g 26 (genVals L) := by
  refine ⟨cs, hb, ?_⟩
  have hc : ∀ t, t < L.length * 8 → cs[t]? = (genVals L)[t]? := fun t ht => by
    have h1 := (h t (by rw [size_flatK]; simpa using ht)).1
    rw [Nat.zero_add, hb.cell, get_flatK _ _ _ _ (by simpa using ht)] at h1
    rw [genVals_at ht]
    exact h1
  apply List.ext_getElem?
  intro t
  rw [List.getElem?_take]
  by_cases ht : t < L.length * 8
  · rw [if_pos (by rw [genVals_len]; exact ht), ← hc t ht]
    simp
  · rw [if_neg (by rw [genVals_len]; exact ht), List.getElem?_eq_none (by rw [genVals_len]; omega)]
theorem sorted_one {M L : List (Str × Int)} (hp : M.Perm L) (hs : M.Pairwise fun a b => a.2 ≤ b.2) (hL : L.Pairwise fun a b => a.2 < b.2) : M = L := by
  refine List.Perm.eq_of_pairwise (le := fun a b : Str × Int => a.2 ≤ b.2) (fun a b ha hb h1 h2 => ?_) hs (hL.imp fun h => Int.le_of_lt h) hp
  have ha' := hp.subset ha
  rw [List.pairwise_iff_getElem] at hL
  obtain ⟨i, hi, rfl⟩ := List.getElem_of_mem ha'
  obtain ⟨j, hj, rfl⟩ := List.getElem_of_mem hb
  rcases Nat.lt_trichotomy i j with h | h | h
  · have := hL i j hi hj h; omega
  · subst h; rfl
  · have := hL j i hj hi h; omega
end Go.Proofs.Ytmkccblcmiflfaa
