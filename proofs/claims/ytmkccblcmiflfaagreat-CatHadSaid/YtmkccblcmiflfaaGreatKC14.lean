/- The generations that were begun, sorted. No condition beyond those that each theorem states. -/
import Derived.Test.YtmkccblcmiflfaaGreatKC13
import Derived.Shelf.SlSortCmp.WholeK
import Derived.Shelf.SlSortCmp.NoneTotal
import Derived.Shelf.SlicesG.Cmp
import Derived.Shelf.Lay
import Derived.Ground.SlsfProg
import Derived.Ground.SlgcProg
namespace Go.Proofs.YtmkccblcmiflfaaGreat
open Go.RowKit Go.Maps Go.WideMaps Go.Shelf Go.Sort

def sortN_ren : Go.Shelf.Ren := ⟨fun | 6 => 62 | 15 => 79 | 14 => 83 | 28 => 96 | 29 => 97 | 20 => 99 | 21 => 100 | 22 => 101 | 23 => 102 | 24 => 103 | 25 => 104 | 26 => 105 | 27 => 106 | 46 => 122 | 47 => 117 | 48 => 118 | 49 => 123 | 50 => 124 | 57 => 129 | n => n, fun | 22 => 22 | 24 => 32 | 25 => 99 | 3 => 3 | 39 => 112 | 0 => 0 | 53 => 125 | 55 => 127 | 4 => 4 | 46 => 118 | 45 => 117 | 50 => 105 | 5 => 5 | 9 => 9 | 66 => 140 | 70 => 144 | 76 => 150 | 77 => 151 | n => n, fun | n => n⟩
theorem sortN : Go.Proofs.SlLaysF0.n6 Tryz.prog sortN_ren := {
  mixed := by kernel_rfl
  f6 := ⟨Tryz.f62.name, by decide, Tryz.func62.trans (congrArg some (by kernel_rfl))⟩
  f14 := ⟨Tryz.f83.name, by decide, Tryz.func83.trans (congrArg some (by kernel_rfl))⟩
  f15 := Tryz.func79.trans (congrArg some (by kernel_rfl))
  f20 := ⟨Tryz.f99.name, by decide, Tryz.func99.trans (congrArg some (by kernel_rfl))⟩
  f21 := ⟨Tryz.f100.name, by decide, Tryz.func100.trans (congrArg some (by kernel_rfl))⟩
  f22 := ⟨Tryz.f101.name, by decide, Tryz.func101.trans (congrArg some (by kernel_rfl))⟩
  f23 := ⟨Tryz.f102.name, by decide, Tryz.func102.trans (congrArg some (by kernel_rfl))⟩
  f24 := ⟨Tryz.f103.name, by decide, Tryz.func103.trans (congrArg some (by kernel_rfl))⟩
  f25 := ⟨Tryz.f104.name, by decide, Tryz.func104.trans (congrArg some (by kernel_rfl))⟩
  f26 := ⟨Tryz.f105.name, by decide, Tryz.func105.trans (congrArg some (by kernel_rfl))⟩
  f27 := ⟨Tryz.f106.name, by decide, Tryz.func106.trans (congrArg some (by kernel_rfl))⟩
  f28 := Tryz.func96.trans (congrArg some (by kernel_rfl))
  f29 := Tryz.func97.trans (congrArg some (by kernel_rfl))
  f46 := ⟨Tryz.f122.name, by decide, Tryz.func122.trans (congrArg some (by kernel_rfl))⟩
  f47 := Tryz.func117.trans (congrArg some (by kernel_rfl))
  f48 := Tryz.func118.trans (congrArg some (by kernel_rfl))
  f49 := ⟨Tryz.f123.name, by decide, Tryz.func123.trans (congrArg some (by kernel_rfl))⟩
  f50 := ⟨Tryz.f124.name, by decide, Tryz.func124.trans (congrArg some (by kernel_rfl))⟩
  f57 := ⟨Tryz.f129.name, by decide, Tryz.func129.trans (congrArg some (by kernel_rfl))⟩
  t0 := Tryz.underlying0
  a0 := Tryz.isAgg0
  z0 := Tryz.sizeOf0
  v0 := Tryz.zeroValue0
  t3 := Tryz.underlying3
  a3 := Tryz.isAgg3
  z3 := Tryz.sizeOf3
  v3 := Tryz.zeroValue3
  t4 := Tryz.underlying4
  a4 := Tryz.isAgg4
  z4 := Tryz.sizeOf4
  v4 := Tryz.zeroValue4
  t5 := Tryz.underlying5
  a5 := Tryz.isAgg5
  z5 := Tryz.sizeOf5
  v5 := Tryz.zeroValue5
  t9 := Tryz.underlying9
  a9 := Tryz.isAgg9
  z9 := Tryz.sizeOf9
  v9 := Tryz.zeroValue9
  t22 := Tryz.underlying22
  a22 := Tryz.isAgg22
  z22 := Tryz.sizeOf22
  v22 := Tryz.zeroValue22
  t25 := Tryz.underlying99
  a25 := Tryz.isAgg99
  z25 := Tryz.sizeOf99
  v25 := Tryz.zeroValue99
  t39 := Tryz.underlying112
  a39 := Tryz.isAgg112
  z39 := Tryz.sizeOf112
  v39 := Tryz.zeroValue112
  t45 := Tryz.underlying117
  a45 := Tryz.isAgg117
  z45 := Tryz.sizeOf117
  v45 := Tryz.zeroValue117
  t46 := Tryz.underlying118
  a46 := Tryz.isAgg118
  z46 := Tryz.sizeOf118
  v46 := Tryz.zeroValue118
  t50 := Tryz.underlying105
  a50 := Tryz.isAgg105
  z50 := Tryz.sizeOf105
  v50 := Tryz.zeroValue105
  t53 := Tryz.underlying125
  a53 := Tryz.isAgg125
  z53 := Tryz.sizeOf125
  v53 := Tryz.zeroValue125
  t55 := Tryz.underlying127
  a55 := Tryz.isAgg127
  z55 := Tryz.sizeOf127
  v55 := Tryz.zeroValue127
  t66 := Tryz.underlying140
  a66 := Tryz.isAgg140
  z66 := Tryz.sizeOf140
  v66 := Tryz.zeroValue140
  t70 := Tryz.underlying144
  a70 := Tryz.isAgg144
  z70 := Tryz.sizeOf144
  v70 := Tryz.zeroValue144
  t76 := Tryz.underlying150
  a76 := Tryz.isAgg150
  z76 := Tryz.sizeOf150
  v76 := Tryz.zeroValue150
  t77 := Tryz.underlying151
  a77 := Tryz.isAgg151
  z77 := Tryz.sizeOf151
  v77 := Tryz.zeroValue151 }
def cmpN_ren : Go.Shelf.Ren := ⟨fun | 5 => 64 | 7 => 84 | n => n, fun | 22 => 3 | 3 => 3 | 4 => 4 | n => n, fun | n => n⟩
theorem cmpN : Go.Proofs.SlLaysC2.n5 Tryz.prog cmpN_ren := {
  mixed := by kernel_rfl
  f5 := ⟨Tryz.f64.name, by decide, Tryz.func64.trans (congrArg some (by kernel_rfl))⟩
  f7 := ⟨Tryz.f84.name, by decide, Tryz.func84.trans (congrArg some (by kernel_rfl))⟩
  t3 := Tryz.underlying3
  a3 := Tryz.isAgg3
  z3 := Tryz.sizeOf3
  v3 := Tryz.zeroValue3
  t4 := Tryz.underlying4
  a4 := Tryz.isAgg4
  z4 := Tryz.sizeOf4
  v4 := Tryz.zeroValue4
  t22 := Tryz.underlying3
  a22 := Tryz.isAgg3
  z22 := Tryz.sizeOf3
  v22 := Tryz.zeroValue3 }
def cfN (x y : Str × Int) : Int := Lib.compareInt x.2 y.2
theorem ltN (x y : Str × Int) : ltOf cfN x y = decide (x.2 < y.2) := by
  unfold ltOf cfN Lib.compareInt
  by_cases h1 : x.2 < y.2
  · simp [h1]
  · by_cases h2 : y.2 < x.2 <;> simp [h1, h2]
theorem swoN : SWO (ltOf cfN) where
  irrefl x := by rw [ltN]; simp
  trans x y z h1 h2 := by rw [ltN] at *; simp at *; omega
  ntrans x y z h1 h2 := by rw [ltN] at *; simp at *; omega
set_option maxHeartbeats 1000000 in
theorem gens1_any (x y : Str × Int) (W : World) : Calls Tryz.prog 63 #[.agg (genCells x).toArray, .agg (genCells y).toArray] W fun e w' => e = .returned (.int .i64 (cfN x y)) ∧ ∃ q os', w' = grow (W.drewN q) os' := by
  have hcon := fun W' => AnyG.cmp_Compare_int cmpN x.2 y.2 W'
  change ∀ W', Calls Tryz.prog 64 _ _ _ at hcon
  unfold cfN
  generalize Lib.compareInt x.2 y.2 = r at hcon ⊢
  change Calls Tryz.prog 63 #[.agg #[.int .i64 4, encStr x.1, .int .i64 x.2, .int .i64 0, .slice none 0 0, encStr [], .int .i64 0, .slice none 0 0], .agg #[.int .i64 4, encStr y.1, .int .i64 y.2, .int .i64 0, .slice none 0 0, encStr [], .int .i64 0, .slice none 0 0]] W _
  go_enter Tryz.func63, Tryz.ntmps63
  go_wp2_with (go_at_call 64; refine (hcon _).mono ?_; rintro e w' ⟨rfl, rfl⟩)
  go_ret
  exact ⟨rfl, 0, _, by rw [alloc_eq_grow, alloc_eq_grow, grow_grow]; rfl⟩
theorem cmpLaysN (blk off size : Nat) (w : World) : CmpLays Tryz.prog 63 #[] genCells 8 cfN blk off size w := fun _ _ _ _ x y => gens1_any x y _
theorem sortWorldK_blk {w : World} {g m : Nat} {d : Array (Str × Int)} {os : Array Obj} {t : TypeId} {cs : Array Value} (h : Blk w g t cs) : ∃ cs', Blk (sortWorldK genCells 8 w g 0 m d os) g t cs' := by
  unfold Blk at h
  refine ⟨putCells id 0 (flatK genCells 8 d) cs, ?_⟩
  unfold Blk sortWorldK Sort.grow putRowK Sort.putRow Sort.mapBlock Sort.ahead
  have hlt := (Array.getElem?_eq_some_iff.1 h).1
  rw [Array.getElem?_append_left (by simpa using hlt), Array.getElem?_modify, if_pos rfl, h]
  rfl
theorem sortWorldK_grown (w : World) (g m : Nat) (d : Array (Str × Int)) (os : Array Obj) : w.grownBy (sortWorldK genCells 8 w g 0 m d os) (some g) := by
  refine ⟨rfl, rfl, rfl, by simp [sortWorldK, Sort.grow, putRowK, Sort.putRow, Sort.mapBlock, Sort.ahead], fun k hk hne => ?_⟩
  have hkg : g ≠ k := fun e => hne (by rw [e])
  simp only [sortWorldK, Sort.grow, putRowK, Sort.putRow, Sort.mapBlock, Sort.ahead]
  rw [Array.getElem?_append_left (by simpa using hk), Array.getElem?_modify, if_neg hkg]
theorem genVals_len (L : List (Str × Int)) : (genVals L).length = L.length * 8 := by
  induction L with
  | nil => rfl
  | cons x L ih =>
    have : (genVals (x :: L)) = genCells x ++ genVals L := rfl
    rw [this, List.length_append, ih, List.length_cons]
    show 8 + L.length * 8 = _
    omega
theorem genVals_at {L : List (Str × Int)} {t : Nat} (h : t < L.length * 8) : (genVals L)[t]? = some ((genCells L.toArray[t / 8]!)[t % 8]!) := by
  induction L generalizing t with
  | nil => simp at h
  | cons x L ih =>
    have hl : (genVals (x :: L)) = genCells x ++ genVals L := rfl
    rw [hl]
    by_cases ht : t < 8
    · rw [List.getElem?_append_left (by show t < 8; exact ht), show t / 8 = 0 by omega, show t % 8 = t by omega]
      have e : (x :: L).toArray[0]! = x := by simp
      rw [e, getElem!_pos _ t (by show t < 8; exact ht), List.getElem?_eq_getElem (by show t < 8; exact ht)]
    · have h' : t - 8 < L.length * 8 := by simp only [List.length_cons] at h; omega
      rw [List.getElem?_append_right (by show 8 ≤ t; omega), show t - (genCells x).length = t - 8 from rfl, ih h']
      have e1 : t / 8 = (t - 8) / 8 + 1 := by omega
      have e2 : t % 8 = (t - 8) % 8 := by omega
      rw [e1, e2]
      have hlt : (t - 8) / 8 < L.length := by omega
      congr 2
      rw [getElem!_pos _ _ (by simpa using hlt), getElem!_pos _ _ (by simpa using hlt)]
      simp
theorem holds_gen {w : World} {g : Nat} {L : List (Str × Int)} (h : RowAt w g 32 (genVals L)) : HoldsK genCells 8 w g 0 L.toArray := by
  intro j hj
  rw [size_flatK] at hj
  have hj' : j < L.length * 8 := by simpa using hj
  refine ⟨?_, h.free _⟩
  rw [Nat.zero_add, get_flatK _ _ _ _ hj]
  exact h.cell (genVals_at hj')
theorem row_gen {w : World} {g : Nat} {cs : Array Value} {L : List (Str × Int)} (hb : Blk w g 32 cs) (h : HoldsK genCells 8 w g 0 L.toArray) : RowAt w g 32 (genVals L) := by
  refine ⟨cs, hb, ?_⟩
  have hc : ∀ t, t < L.length * 8 → cs[t]? = (genVals L)[t]? := fun t ht => by
    have h1 := (h t (by rw [size_flatK]; simpa using ht)).1
    rw [Nat.zero_add, hb.cell, get_flatK _ _ _ _ (by simpa using ht)] at h1
    rw [genVals_at ht]
    exact h1
  apply List.ext_getElem?
  intro t
  rw [List.getElem?_take]
  by_cases ht : t < L.length * 8
  · rw [if_pos (by rw [genVals_len]; exact ht), ← hc t ht]
    simp
  · rw [if_neg (by rw [genVals_len]; exact ht), List.getElem?_eq_none (by rw [genVals_len]; omega)]
theorem sorted_one {M L : List (Str × Int)} (hp : M.Perm L) (hs : M.Pairwise fun a b => a.2 ≤ b.2) (hL : L.Pairwise fun a b => a.2 < b.2) : M = L := by
  refine List.Perm.eq_of_pairwise (le := fun a b : Str × Int => a.2 ≤ b.2) (fun a b ha hb h1 h2 => ?_) hs (hL.imp fun h => Int.le_of_lt h) hp
  have ha' := hp.subset ha
  rw [List.pairwise_iff_getElem] at hL
  obtain ⟨i, hi, rfl⟩ := List.getElem_of_mem ha'
  obtain ⟨j, hj, rfl⟩ := List.getElem_of_mem hb
  rcases Nat.lt_trichotomy i j with h | h | h
  · have := hL i j hi hj h; omega
  · subst h; rfl
  · have := hL j i hj hi h; omega
end Go.Proofs.YtmkccblcmiflfaaGreat
