/- Entries, sorted by their keys. No condition beyond those that each theorem states. -/
import Derived.Test.YthceidacmeadkaaSD
import Derived.Shelf.SlSortCmp.WholeK
import Derived.Shelf.SlSortCmp.NoneTotal
import Derived.Shelf.Lay
import Derived.Ground.SlsfProg
namespace Go.Proofs.Ythceidacmeadkaa
open Go.RowKit Go.Maps Go.WideMaps Go.Shelf Go.Sort

def sortE_ren : Go.Shelf.Ren := ⟨fun | 6 => 22 | 15 => 47 | 14 => 46 | 28 => 63 | 29 => 64 | 20 => 55 | 21 => 56 | 22 => 57 | 23 => 58 | 24 => 59 | 25 => 60 | 26 => 61 | 27 => 62 | 46 => 70 | 47 => 71 | 48 => 72 | 49 => 73 | 50 => 74 | 57 => 75 | n => n, fun | 22 => 24 | 24 => 32 | 25 => 68 | 3 => 3 | 39 => 49 | 0 => 0 | 53 => 104 | 55 => 106 | 4 => 4 | 46 => 98 | 45 => 97 | 50 => 63 | 5 => 5 | 9 => 9 | 66 => 114 | 70 => 118 | 76 => 120 | 77 => 121 | n => n, fun | n => n⟩
theorem sortE : Go.Proofs.SlLaysF0.n6 Try.prog sortE_ren := {
  mixed := by kernel_rfl
  f6 := ⟨Try.f22.name, by decide, Try.func22.trans (congrArg some (by kernel_rfl))⟩
  f14 := ⟨Try.f46.name, by decide, Try.func46.trans (congrArg some (by kernel_rfl))⟩
  f15 := Try.func47.trans (congrArg some (by kernel_rfl))
  f20 := ⟨Try.f55.name, by decide, Try.func55.trans (congrArg some (by kernel_rfl))⟩
  f21 := ⟨Try.f56.name, by decide, Try.func56.trans (congrArg some (by kernel_rfl))⟩
  f22 := ⟨Try.f57.name, by decide, Try.func57.trans (congrArg some (by kernel_rfl))⟩
  f23 := ⟨Try.f58.name, by decide, Try.func58.trans (congrArg some (by kernel_rfl))⟩
  f24 := ⟨Try.f59.name, by decide, Try.func59.trans (congrArg some (by kernel_rfl))⟩
  f25 := ⟨Try.f60.name, by decide, Try.func60.trans (congrArg some (by kernel_rfl))⟩
  f26 := ⟨Try.f61.name, by decide, Try.func61.trans (congrArg some (by kernel_rfl))⟩
  f27 := ⟨Try.f62.name, by decide, Try.func62.trans (congrArg some (by kernel_rfl))⟩
  f28 := Try.func63.trans (congrArg some (by kernel_rfl))
  f29 := Try.func64.trans (congrArg some (by kernel_rfl))
  f46 := ⟨Try.f70.name, by decide, Try.func70.trans (congrArg some (by kernel_rfl))⟩
  f47 := Try.func71.trans (congrArg some (by kernel_rfl))
  f48 := Try.func72.trans (congrArg some (by kernel_rfl))
  f49 := ⟨Try.f73.name, by decide, Try.func73.trans (congrArg some (by kernel_rfl))⟩
  f50 := ⟨Try.f74.name, by decide, Try.func74.trans (congrArg some (by kernel_rfl))⟩
  f57 := ⟨Try.f75.name, by decide, Try.func75.trans (congrArg some (by kernel_rfl))⟩
  t0 := Try.underlying0
  a0 := Try.isAgg0
  z0 := Try.sizeOf0
  v0 := Try.zeroValue0
  t3 := Try.underlying3
  a3 := Try.isAgg3
  z3 := Try.sizeOf3
  v3 := Try.zeroValue3
  t4 := Try.underlying4
  a4 := Try.isAgg4
  z4 := Try.sizeOf4
  v4 := Try.zeroValue4
  t5 := Try.underlying5
  a5 := Try.isAgg5
  z5 := Try.sizeOf5
  v5 := Try.zeroValue5
  t9 := Try.underlying9
  a9 := Try.isAgg9
  z9 := Try.sizeOf9
  v9 := Try.zeroValue9
  t22 := Try.underlying24
  a22 := Try.isAgg24
  z22 := Try.sizeOf24
  v22 := Try.zeroValue24
  t25 := Try.underlying68
  a25 := Try.isAgg68
  z25 := Try.sizeOf68
  v25 := Try.zeroValue68
  t39 := Try.underlying49
  a39 := Try.isAgg49
  z39 := Try.sizeOf49
  v39 := Try.zeroValue49
  t45 := Try.underlying97
  a45 := Try.isAgg97
  z45 := Try.sizeOf97
  v45 := Try.zeroValue97
  t46 := Try.underlying98
  a46 := Try.isAgg98
  z46 := Try.sizeOf98
  v46 := Try.zeroValue98
  t50 := Try.underlying63
  a50 := Try.isAgg63
  z50 := Try.sizeOf63
  v50 := Try.zeroValue63
  t53 := Try.underlying104
  a53 := Try.isAgg104
  z53 := Try.sizeOf104
  v53 := Try.zeroValue104
  t55 := Try.underlying106
  a55 := Try.isAgg106
  z55 := Try.sizeOf106
  v55 := Try.zeroValue106
  t66 := Try.underlying114
  a66 := Try.isAgg114
  z66 := Try.sizeOf114
  v66 := Try.zeroValue114
  t70 := Try.underlying118
  a70 := Try.isAgg118
  z70 := Try.sizeOf118
  v70 := Try.zeroValue118
  t76 := Try.underlying120
  a76 := Try.isAgg120
  z76 := Try.sizeOf120
  v76 := Try.zeroValue120
  t77 := Try.underlying121
  a77 := Try.isAgg121
  z77 := Try.sizeOf121
  v77 := Try.zeroValue121 }
instance : Inhabited CopyE := ⟨⟨⟨[], 0, 0, 0, []⟩, 0⟩⟩
def cfE (x y : CopyE) : Int := cmpS x.b.key y.b.key
theorem ltE (x y : CopyE) : ltOf cfE x y = decide (x.b.key < y.b.key) := by
  unfold ltOf cfE cmpS
  rw [bytesLess_eq]
  by_cases h1 : x.b.key < y.b.key
  · simp [h1]
  · by_cases h2 : x.b.key = y.b.key
    · rw [h2]
      simp [List.lt_irrefl]
    · simp [h1, h2]
theorem swoE : SWO (ltOf cfE) where
  irrefl x := by rw [ltE]; simp [List.lt_irrefl]
  trans x y z h1 h2 := by rw [ltE] at *; simp only [decide_eq_true_eq] at *; exact List.lt_trans h1 h2
  ntrans x y z h1 h2 := by rw [ltE] at *; simp only [decide_eq_false_iff_not] at *; exact List.not_lt.2 (List.le_trans (List.not_lt.1 h2) (List.not_lt.1 h1))
set_option maxHeartbeats 1000000 in
theorem best1_any (x y : CopyE) (W : World) : Calls Try.prog 23 #[.agg (entCells x).toArray, .agg (entCells y).toArray] W fun e w' => e = .returned (.int .i64 (cfE x y)) ∧ ∃ q os', w' = grow (W.drewN q) os' := by
  have hcon := sCmpS x.b.key y.b.key
  unfold cfE
  generalize cmpS x.b.key y.b.key = r at hcon ⊢
  change Calls Try.prog 23 #[.agg #[strV x.b.key, .int .i64 x.b.gen, .int .i64 x.b.size, strV x.b.sum, .slice (some ⟨x.g, 0, none⟩) (slotsB x.b) (slotsB x.b)], .agg #[strV y.b.key, .int .i64 y.b.gen, .int .i64 y.b.size, strV y.b.sum, .slice (some ⟨y.g, 0, none⟩) (slotsB y.b) (slotsB y.b)]] W _
  go_enter Try.func23, Try.ntmps23
  go_wp2_with (go_at_call 24; refine (hcon _).mono ?_; rintro e w' ⟨rfl, rfl⟩)
  go_ret
  exact ⟨rfl, 0, _, by rw [alloc_eq_grow, alloc_eq_grow, grow_grow]; rfl⟩
theorem cmpLaysE (blk off size : Nat) (w : World) : CmpLays Try.prog 23 #[] entCells 5 cfE blk off size w := fun _ _ _ _ x y => best1_any x y _
theorem sortWorldK_blk {w : World} {g m : Nat} {d : Array CopyE} {os : Array Obj} {t : TypeId} {cs : Array Value} (h : Blk w g t cs) : ∃ cs', Blk (sortWorldK entCells 5 w g 0 m d os) g t cs' ∧ cs'.size = cs.size := by
  unfold Blk at h
  refine ⟨putCells id 0 (flatK entCells 5 d) cs, ?_, by simp [putCells]⟩
  unfold Blk sortWorldK Sort.grow putRowK Sort.putRow Sort.mapBlock Sort.ahead
  have hlt := (Array.getElem?_eq_some_iff.1 h).1
  rw [Array.getElem?_append_left (by simpa using hlt), Array.getElem?_modify, if_pos rfl, h]
  rfl
theorem sortWorldK_grown (w : World) (g m : Nat) (d : Array CopyE) (os : Array Obj) : w.grownBy (sortWorldK entCells 5 w g 0 m d os) (some g) := by
  refine ⟨rfl, rfl, rfl, by simp [sortWorldK, Sort.grow, putRowK, Sort.putRow, Sort.mapBlock, Sort.ahead], fun k hk hne => ?_⟩
  have hkg : g ≠ k := fun e => hne (by rw [e])
  simp only [sortWorldK, Sort.grow, putRowK, Sort.putRow, Sort.mapBlock, Sort.ahead]
  rw [Array.getElem?_append_left (by simpa using hk), Array.getElem?_modify, if_neg hkg]
theorem entVals_at {L : List CopyE} {t : Nat} (h : t < L.length * 5) : (entVals L)[t]? = some ((entCells L.toArray[t / 5]!)[t % 5]!) := by
  induction L generalizing t with
  | nil => simp at h
  | cons x L ih =>
    have hl : (entVals (x :: L)) = entCells x ++ entVals L := rfl
    rw [hl]
    by_cases ht : t < 5
    · rw [List.getElem?_append_left (by show t < 5; exact ht), show t / 5 = 0 by omega, show t % 5 = t by omega]
      have e : (x :: L).toArray[0]! = x := by simp
      rw [e, getElem!_pos _ t (by show t < 5; exact ht), List.getElem?_eq_getElem (by show t < 5; exact ht)]
    · have h' : t - 5 < L.length * 5 := by simp only [List.length_cons] at h; omega
      rw [List.getElem?_append_right (by show 5 ≤ t; omega), show t - (entCells x).length = t - 5 from rfl, ih h']
      have e1 : t / 5 = (t - 5) / 5 + 1 := by omega
      have e2 : t % 5 = (t - 5) % 5 := by omega
      rw [e1, e2]
      have hlt : (t - 5) / 5 < L.length := by omega
      congr 2
      rw [getElem!_pos _ _ (by simpa using hlt), getElem!_pos _ _ (by simpa using hlt)]
      simp
theorem holds_ent {w : World} {g : Nat} {L : List CopyE} (h : RowAt w g 32 (entVals L)) : HoldsK entCells 5 w g 0 L.toArray := by
  intro j hj
  rw [size_flatK] at hj
  have hj' : j < L.length * 5 := by simpa using hj
  refine ⟨?_, h.free _⟩
  rw [Nat.zero_add, get_flatK _ _ _ _ hj]
  exact h.cell (entVals_at hj')
theorem row_ent {w : World} {g : Nat} {cs : Array Value} {L : List CopyE} (hb : Blk w g 32 cs) (h : HoldsK entCells 5 w g 0 L.toArray) : RowAt w g 32 (entVals L) := by
  refine ⟨cs, hb, ?_⟩
  have hc : ∀ t, t < L.length * 5 → cs[t]? = (entVals L)[t]? := fun t ht => by
    have h1 := (h t (by rw [size_flatK]; simpa using ht)).1
    rw [Nat.zero_add, hb.cell, get_flatK _ _ _ _ (by simpa using ht)] at h1
    rw [entVals_at ht]
    exact h1
  apply List.ext_getElem?
  intro t
  rw [List.getElem?_take]
  by_cases ht : t < L.length * 5
  · rw [if_pos (by rw [entVals_len]; exact ht), ← hc t ht]
    simp
  · rw [if_neg (by rw [entVals_len]; exact ht), List.getElem?_eq_none (by rw [entVals_len]; omega)]
theorem sortE_agg (w : World) : (isAgg 32).run Try.prog w = .ok true w := Try.isAgg32 w
theorem sortE_size (w : World) : (Go.sizeOf 32).run Try.prog w = .ok 5 w := Try.sizeOf32 w
set_option maxHeartbeats 1000000 in
theorem sortEnts (M : List CopyE) (hd : (M.map fun e => e.b.key).Nodup) (hl : M.length ≤ 1000000) (base : Nat) (v : Value) (w : World) (ho : w.ownsRow base 32 5 v M.length (entVals M)) :
    Calls Try.prog 22 #[v, .func (.func 23) #[] #[]] w fun e w' => e = .returned (.tuple #[]) ∧ ∃ es : List CopyE, es.Perm M ∧ (es.Pairwise fun a b => a.b.key < b.b.key) ∧ w'.ownsRow base 32 5 v es.length (entVals es) ∧ w.grownBy w' v.ownBlock := by
  rcases ho.2 with ⟨rfl, h0⟩ | ⟨g, cap, cur, rfl, hb, hheap, h1, h2, h3, h4⟩
  · have eM : M = [] := List.eq_nil_of_length_eq_zero h0
    subst eM
    refine (AnyF.slices_SortFunc_none sortE none 0 (.func (.func 23) #[] #[]) w).mono ?_
    rintro e w' ⟨rfl, rfl⟩
    exact ⟨rfl, [], List.Perm.refl _, List.Pairwise.nil, World.ownsRow_nil _ _ _ _, World.grownBy.refl _ _⟩
  · have hrow : RowAt w g 32 (entVals M) := ⟨cur, hheap, by rw [entVals_len]; exact h4⟩
    have eg : ∀ args w, (callFunc 23 args).run Try.prog w = .ok (.enter 23 args) w := enters_of Try.func23 (by kernel_rfl) rfl
    have hS := AnyQ.slices_SortFunc sortE 5 sortE_agg sortE_size entCells (fun _ => rfl) entCells_one cfE swoE 23 #[] g 0 cap M.toArray w eg (cmpLaysE g 0 _ w) (holds_ent hrow) hrow.size (by simp; omega)
    refine Calls.mono hS fun e w' ⟨he, d', n, os, hperm, hsort, hw⟩ => ?_
    have hsz : M.toArray.size = M.length := by simp
    have hds : d'.size = M.length := hperm.1.trans hsz
    have hp1 : d'.toList.Perm M := by
      have h := hperm.2.2
      rw [hsz] at h
      have e1 : d'.extract 0 M.length = d' := by rw [← hds]; simp
      have e2 : M.toArray.extract 0 M.length = M.toArray := by simp
      rw [e1, e2] at h
      simpa using h
    have hnd : (d'.toList.map fun e => e.b.key).Nodup := ((hp1.map _).nodup_iff).2 hd
    have hsd : d'.toList.Pairwise fun a b => a.b.key < b.b.key := by
      rw [List.pairwise_iff_getElem]
      intro i j hi hj hij
      simp only [Array.length_toList] at hi hj
      have h1 := hsort i j (Nat.zero_le _) hij (by rw [hsz]; omega)
      rw [ltE, getElem!_pos d' j hj, getElem!_pos d' i hi] at h1
      simp only [Array.getElem_toList]
      simp only [decide_eq_false_iff_not] at h1
      rw [List.nodup_iff_pairwise_ne, List.pairwise_iff_getElem] at hnd
      have hne := hnd i j (by simpa using hi) (by simpa using hj) hij
      simp only [List.getElem_map, Array.getElem_toList] at hne
      exact Decidable.byContradiction fun hx => hne (List.le_antisymm (List.not_lt.1 h1) (List.not_lt.1 hx))
    obtain ⟨L, rfl⟩ : ∃ L : List CopyE, d' = L.toArray := ⟨d'.toList, by simp⟩
    have hll : L.length = M.length := by simpa using hds
    obtain ⟨cs', hb', hcs⟩ := sortWorldK_blk (g := g) (m := n) (d := L.toArray) (os := os) (t := 32) (cs := cur) (w := w) hheap
    have hH' : HoldsK entCells 5 (sortWorldK entCells 5 w g 0 n L.toArray os) g 0 L.toArray := holdsK_sortWorldK entCells 5 w g 0 n M.toArray L.toArray os hrow.size (holds_ent hrow) hds
    obtain ⟨cs2, hb2, ht⟩ := row_ent hb' hH'
    have e2 : cs2 = cs' := by
      have := hb2.symm.trans hb'
      injection this with this
      injection this
    subst e2
    rw [entVals_len] at ht
    subst hw
    refine ⟨he, L, by simpa using hp1, by simpa using hsd, ⟨entVals_len L, .inr ⟨g, cap, cs2, by rw [hll], hb, hb2, by omega, h2, by omega, ht⟩⟩, sortWorldK_grown w g n _ os⟩
end Go.Proofs.Ythceidacmeadkaa
