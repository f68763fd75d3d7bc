/- The retired cartridges' numbers, sorted. No condition beyond those that each theorem states. -/
import Derived.Test.YtmkccblcmiflfaaGreatKC21
import Derived.Shelf.SlIterI.Nil
import Derived.Shelf.SortM.Plain
import Derived.Shelf.SortM.SortNone
import Derived.Shelf.Lay
import Derived.Ground.GgzProg
import Derived.Ground.SlgmProg
namespace Go.Proofs.YtmkccblcmiflfaaGreat
open Go.RowKit Go.Maps Go.WideMaps Go.Sort Go.Shelf

def keysR_ren : Go.Shelf.Ren := ⟨fun | 7 => 34 | 10 => 69 | n => n, fun | 23 => 65 | 26 => 3 | 3 => 76 | 28 => 74 | 0 => 0 | 27 => 73 | 33 => 61 | 4 => 4 | n => n, fun | n => n⟩
theorem keysR : Go.Proofs.SlLaysZI.n7 Tryz.prog keysR_ren := {
  mixed := by kernel_rfl
  f7 := ⟨Tryz.f34.name, by decide, Tryz.func34.trans (congrArg some (by kernel_rfl))⟩
  f10 := ⟨Tryz.f69.name, by decide, Tryz.func69.trans (congrArg some (by kernel_rfl))⟩
  t0 := Tryz.underlying0
  a0 := Tryz.isAgg0
  z0 := Tryz.sizeOf0
  v0 := Tryz.zeroValue0
  t4 := Tryz.underlying4
  a4 := Tryz.isAgg4
  z4 := Tryz.sizeOf4
  v4 := Tryz.zeroValue4
  t23 := Tryz.underlying65
  a23 := Tryz.isAgg65
  z23 := Tryz.sizeOf65
  v23 := Tryz.zeroValue65
  t26 := Tryz.underlying3
  a26 := Tryz.isAgg3
  z26 := Tryz.sizeOf3
  v26 := Tryz.zeroValue3
  t27 := Tryz.underlying73
  a27 := Tryz.isAgg73
  z27 := Tryz.sizeOf73
  v27 := Tryz.zeroValue73
  t28 := Tryz.underlying74
  a28 := Tryz.isAgg74
  z28 := Tryz.sizeOf74
  v28 := Tryz.zeroValue74
  t33 := Tryz.underlying61
  a33 := Tryz.isAgg61
  z33 := Tryz.sizeOf61
  v33 := Tryz.zeroValue61 }
def sortedR_ren : Go.Shelf.Ren := ⟨fun | 6 => 33 | 8 => 67 | 9 => 68 | 11 => 85 | 13 => 79 | 12 => 86 | 23 => 96 | 24 => 97 | 14 => 107 | 15 => 108 | 16 => 109 | 17 => 110 | 18 => 111 | 19 => 112 | 20 => 113 | 21 => 114 | 22 => 115 | 25 => 125 | 26 => 117 | 27 => 118 | 28 => 126 | 29 => 127 | 30 => 84 | 31 => 130 | n => n, fun | 26 => 3 | 28 => 74 | 24 => 53 | 0 => 0 | 3 => 3 | 37 => 112 | 48 => 125 | 50 => 127 | 4 => 4 | 40 => 118 | 39 => 117 | 45 => 105 | 5 => 5 | 9 => 9 | 51 => 140 | 55 => 144 | 57 => 150 | 58 => 151 | 33 => 61 | n => n, fun | n => n⟩
theorem sortedR : Go.Proofs.SlLaysZI.n6 Tryz.prog sortedR_ren := {
  mixed := by kernel_rfl
  f6 := ⟨Tryz.f33.name, by decide, Tryz.func33.trans (congrArg some (by kernel_rfl))⟩
  f8 := ⟨Tryz.f67.name, by decide, Tryz.func67.trans (congrArg some (by kernel_rfl))⟩
  f11 := ⟨Tryz.f85.name, by decide, Tryz.func85.trans (congrArg some (by kernel_rfl))⟩
  t0 := Tryz.underlying0
  a0 := Tryz.isAgg0
  z0 := Tryz.sizeOf0
  v0 := Tryz.zeroValue0
  t24 := Tryz.underlying53
  a24 := Tryz.isAgg53
  z24 := Tryz.sizeOf53
  v24 := Tryz.zeroValue53
  t26 := Tryz.underlying3
  a26 := Tryz.isAgg3
  z26 := Tryz.sizeOf3
  v26 := Tryz.zeroValue3
  t28 := Tryz.underlying74
  a28 := Tryz.isAgg74
  z28 := Tryz.sizeOf74
  v28 := Tryz.zeroValue74
  i26 := by kernel_rfl }
def sortR_ren : Go.Shelf.Ren := ⟨fun | 5 => 68 | 8 => 79 | 7 => 86 | 19 => 96 | 20 => 97 | 10 => 107 | 11 => 108 | 12 => 109 | 13 => 110 | 14 => 111 | 15 => 112 | 16 => 113 | 17 => 114 | 18 => 115 | 30 => 125 | 31 => 117 | 32 => 118 | 33 => 126 | 34 => 127 | 35 => 84 | 40 => 130 | n => n, fun | 23 => 53 | 25 => 3 | 3 => 3 | 32 => 112 | 22 => 53 | 0 => 0 | 44 => 125 | 46 => 127 | 4 => 4 | 36 => 118 | 35 => 117 | 41 => 105 | 5 => 5 | 9 => 9 | 53 => 140 | 57 => 144 | 63 => 150 | 64 => 151 | n => n, fun | n => n⟩
theorem sortR : Go.Proofs.SlLaysM.n5 Tryz.prog sortR_ren := {
  mixed := by kernel_rfl
  f5 := ⟨Tryz.f68.name, by decide, Tryz.func68.trans (congrArg some (by kernel_rfl))⟩
  f7 := ⟨Tryz.f86.name, by decide, Tryz.func86.trans (congrArg some (by kernel_rfl))⟩
  f8 := Tryz.func79.trans (congrArg some (by kernel_rfl))
  f10 := ⟨Tryz.f107.name, by decide, Tryz.func107.trans (congrArg some (by kernel_rfl))⟩
  f11 := ⟨Tryz.f108.name, by decide, Tryz.func108.trans (congrArg some (by kernel_rfl))⟩
  f12 := ⟨Tryz.f109.name, by decide, Tryz.func109.trans (congrArg some (by kernel_rfl))⟩
  f13 := ⟨Tryz.f110.name, by decide, Tryz.func110.trans (congrArg some (by kernel_rfl))⟩
  f14 := ⟨Tryz.f111.name, by decide, Tryz.func111.trans (congrArg some (by kernel_rfl))⟩
  f15 := ⟨Tryz.f112.name, by decide, Tryz.func112.trans (congrArg some (by kernel_rfl))⟩
  f16 := ⟨Tryz.f113.name, by decide, Tryz.func113.trans (congrArg some (by kernel_rfl))⟩
  f17 := ⟨Tryz.f114.name, by decide, Tryz.func114.trans (congrArg some (by kernel_rfl))⟩
  f18 := ⟨Tryz.f115.name, by decide, Tryz.func115.trans (congrArg some (by kernel_rfl))⟩
  f19 := Tryz.func96.trans (congrArg some (by kernel_rfl))
  f20 := Tryz.func97.trans (congrArg some (by kernel_rfl))
  f30 := ⟨Tryz.f125.name, by decide, Tryz.func125.trans (congrArg some (by kernel_rfl))⟩
  f31 := Tryz.func117.trans (congrArg some (by kernel_rfl))
  f32 := Tryz.func118.trans (congrArg some (by kernel_rfl))
  f33 := ⟨Tryz.f126.name, by decide, Tryz.func126.trans (congrArg some (by kernel_rfl))⟩
  f34 := ⟨Tryz.f127.name, by decide, Tryz.func127.trans (congrArg some (by kernel_rfl))⟩
  f35 := ⟨Tryz.f84.name, by decide, Tryz.func84.trans (congrArg some (by kernel_rfl))⟩
  f40 := ⟨Tryz.f130.name, by decide, Tryz.func130.trans (congrArg some (by kernel_rfl))⟩
  t0 := Tryz.underlying0
  a0 := Tryz.isAgg0
  z0 := Tryz.sizeOf0
  v0 := Tryz.zeroValue0
  t3 := Tryz.underlying3
  a3 := Tryz.isAgg3
  z3 := Tryz.sizeOf3
  v3 := Tryz.zeroValue3
  t4 := Tryz.underlying4
  a4 := Tryz.isAgg4
  z4 := Tryz.sizeOf4
  v4 := Tryz.zeroValue4
  t5 := Tryz.underlying5
  a5 := Tryz.isAgg5
  z5 := Tryz.sizeOf5
  v5 := Tryz.zeroValue5
  t9 := Tryz.underlying9
  a9 := Tryz.isAgg9
  z9 := Tryz.sizeOf9
  v9 := Tryz.zeroValue9
  t22 := Tryz.underlying53
  a22 := Tryz.isAgg53
  z22 := Tryz.sizeOf53
  v22 := Tryz.zeroValue53
  t23 := Tryz.underlying53
  a23 := Tryz.isAgg53
  z23 := Tryz.sizeOf53
  v23 := Tryz.zeroValue53
  t25 := Tryz.underlying3
  a25 := Tryz.isAgg3
  z25 := Tryz.sizeOf3
  v25 := Tryz.zeroValue3
  t32 := Tryz.underlying112
  a32 := Tryz.isAgg112
  z32 := Tryz.sizeOf112
  v32 := Tryz.zeroValue112
  t35 := Tryz.underlying117
  a35 := Tryz.isAgg117
  z35 := Tryz.sizeOf117
  v35 := Tryz.zeroValue117
  t36 := Tryz.underlying118
  a36 := Tryz.isAgg118
  z36 := Tryz.sizeOf118
  v36 := Tryz.zeroValue118
  t41 := Tryz.underlying105
  a41 := Tryz.isAgg105
  z41 := Tryz.sizeOf105
  v41 := Tryz.zeroValue105
  t44 := Tryz.underlying125
  a44 := Tryz.isAgg125
  z44 := Tryz.sizeOf125
  v44 := Tryz.zeroValue125
  t46 := Tryz.underlying127
  a46 := Tryz.isAgg127
  z46 := Tryz.sizeOf127
  v46 := Tryz.zeroValue127
  t53 := Tryz.underlying140
  a53 := Tryz.isAgg140
  z53 := Tryz.sizeOf140
  v53 := Tryz.zeroValue140
  t57 := Tryz.underlying144
  a57 := Tryz.isAgg144
  z57 := Tryz.sizeOf144
  v57 := Tryz.zeroValue144
  t63 := Tryz.underlying150
  a63 := Tryz.isAgg150
  z63 := Tryz.sizeOf150
  v63 := Tryz.zeroValue150
  t64 := Tryz.underlying151
  a64 := Tryz.isAgg151
  z64 := Tryz.sizeOf151
  v64 := Tryz.zeroValue151 }
theorem sortsR (m : Nat) : AnyZI.SortsIn Tryz.prog sortedR_ren Fence.wide m :=
  ⟨fun blk off cap ss W hH hblk hsz => callsIn_wide.2 (AnyM.slices_Sort_int sortR blk off cap ss W hH hblk hsz),
   fun p cap W => callsIn_wide.2 (AnyM.slices_Sort_int_none sortR p cap W)⟩
def sortI (l : List Int) : List Int := l.mergeSort leI
def intVals (l : List Int) : List Value := l.map (.int .i64)
theorem sortI_len (l : List Int) : (sortI l).length = l.length := by simp [sortI]
theorem MapAt.permI {z : Value} {w : World} {b N : Nat} {L : List (Int × Value)} (h : MapAt ikey z w b N L) : ∃ D, w.ownsMap Tryz.prog 3 anyE b N D ∧ (L.map Prod.fst).Perm (intKeys D) := by
  obtain ⟨⟨D, h1, h2, h3⟩, h4⟩ := h
  refine ⟨D, h1, ?_⟩
  obtain ⟨es, hD, hpw, _⟩ := h1.entries ikey.law
  obtain ⟨es', hD', hko⟩ := h1.keysOf
  obtain rfl : es = es' := by rw [hD] at hD'; simpa using hD'
  subst hD
  exact perm_intKeys hpw (fun q hq => by obtain ⟨v, hv⟩ := hko q hq; obtain ⟨x, _, hx, _⟩ := Maps.keyOf_i64 Tryz.underlying3 hv; exact ⟨x, hx⟩) h4 (fun x => by rw [← hasL_mem, ← h2 x]; rfl)
theorem cKeysR (b : Nat) (W : World) : Calls Tryz.prog 34 #[.map (some b)] W fun e w' => e = .returned (.func (.func 69) #[] #[.pointer (some ⟨W.heap.size, 0, none⟩)]) ∧ w' = W.alloc (.cells #[.map (some b)] 65) :=
  (callsIn_wide (n := 5)).1 (AnyZI.keys_in keysR Fence.wide 5 trivial rfl (some b) W)
set_option maxHeartbeats 1000000 in
theorem cSortedR (z : Value) (b N : Nat) (L : List (Int × Value)) (W : World) (h : MapAt ikey z W b N L) (hN : N ≤ 1000000) :
    Calls Tryz.prog 33 #[.func (.func 69) #[] #[.pointer (some ⟨W.heap.size, 0, none⟩)]] (W.alloc (.cells #[.map (some b)] 65)) fun e w' =>
      ∃ B c, e = .returned (.slice B L.length c) ∧ w'.ownsRow W.heap.size 3 1 (.slice B L.length c) L.length (intVals (sortI (L.map Prod.fst))) ∧ Below W.heap.size W w' := by
  obtain ⟨D, hown, hperm⟩ := h.permI
  have hsz : Maps.size D ≤ 1000000 := Nat.le_trans hown.size_le hN
  have hbl := hown.lt
  have hseq : SeqGives Fence.wide 2 Tryz.prog 69 #[.pointer (some ⟨W.heap.size, 0, none⟩)] encZ (fun ss => ss.Perm (intKeys D)) (Maps.size D) (W.alloc (.cells #[.map (some b)] 65)) :=
    AnyZI.keys_gives (ρ := keysR_ren) { keysR with } Fence.wide _ trivial rfl (by omega) W.heap.size b N D _ (by simp) (by simp) (by
      obtain ⟨es, clock, hb, Ft, hs, hD⟩ := hown
      exact ⟨es, clock, (Below.heap_alloc _ _ b hbl).trans hb, Ft, hs, hD⟩)
  have cS := AnyZI.sorted_in sortedR Fence.wide 5 trivial trivial trivial trivial rfl (by omega) (sortsR _) (enters_of Tryz.func68 (by kernel_rfl) rfl) 69 #[.pointer (some ⟨W.heap.size, 0, none⟩)] trivial (enters_of Tryz.func69 (by kernel_rfl) rfl) _ _ (by simp only [maxLen]; omega) (by omega) _ hseq
  refine (callsIn_wide.1 cS).mono ?_
  rintro e w' ⟨v, ss, rfl, hS, hrow, _, hb⟩
  have hss : ss.mergeSort (fun x y => decide (x ≤ y)) = sortI (L.map Prod.fst) := mergeSort_of_perm_i (hS.trans hperm.symm)
  have hsl : ss.length = L.length := by
    have h1 := (hS.trans hperm.symm).length_eq
    rwa [List.length_map] at h1
  rw [hss, hsl] at hrow
  have hrow' : w'.ownsRow W.heap.size 3 1 v L.length (intVals (sortI (L.map Prod.fst))) := own_le hrow (by simp)
  obtain ⟨B, c, rfl, _⟩ := own_form hrow'
  exact ⟨B, c, rfl, hrow', ((Below.refl _ W).alloc (Nat.le_refl _) _).trans (hb.mono (by simp))⟩
end Go.Proofs.YtmkccblcmiflfaaGreat
