/- The entries' keys, sorted. No condition beyond those that each theorem states. -/
import Derived.Test.YtmkccblcmiflfaaKC17
import Derived.Shelf.SlIter.Nil
import Derived.Shelf.SortM.Plain
import Derived.Shelf.SortM.SortNone
import Derived.Shelf.Lay
import Derived.Ground.GgzProg
import Derived.Ground.SlgmProg
namespace Go.Proofs.Ytmkccblcmiflfaa
open Go.RowKit Go.Maps Go.WideMaps Go.Sort Go.Shelf

def keysE_ren : Go.Shelf.Ren := ⟨fun | 7 => 35 | 10 => 57 | n => n, fun | 23 => 55 | 26 => 9 | 3 => 46 | 28 => 74 | 0 => 0 | 27 => 73 | 33 => 52 | 4 => 4 | n => n, fun | n => n⟩
theorem keysE : Go.Proofs.SlLaysZ.n7 Try.prog keysE_ren := {
  mixed := by kernel_rfl
  f7 := ⟨Try.f35.name, by decide, Try.func35.trans (congrArg some (by kernel_rfl))⟩
  f10 := ⟨Try.f57.name, by decide, Try.func57.trans (congrArg some (by kernel_rfl))⟩
  t0 := Try.underlying0
  a0 := Try.isAgg0
  z0 := Try.sizeOf0
  v0 := Try.zeroValue0
  t4 := Try.underlying4
  a4 := Try.isAgg4
  z4 := Try.sizeOf4
  v4 := Try.zeroValue4
  t23 := Try.underlying55
  a23 := Try.isAgg55
  z23 := Try.sizeOf55
  v23 := Try.zeroValue55
  t26 := Try.underlying9
  a26 := Try.isAgg9
  z26 := Try.sizeOf9
  v26 := Try.zeroValue9
  t27 := Try.underlying73
  a27 := Try.isAgg73
  z27 := Try.sizeOf73
  v27 := Try.zeroValue73
  t28 := Try.underlying74
  a28 := Try.isAgg74
  z28 := Try.sizeOf74
  v28 := Try.zeroValue74
  t33 := Try.underlying52
  a33 := Try.isAgg52
  z33 := Try.sizeOf52
  v33 := Try.zeroValue52 }
def sortedE_ren : Go.Shelf.Ren := ⟨fun | 6 => 34 | 8 => 56 | 9 => 38 | 11 => 65 | 13 => 60 | 12 => 59 | 23 => 75 | 24 => 76 | 14 => 66 | 15 => 67 | 16 => 68 | 17 => 69 | 18 => 70 | 19 => 71 | 20 => 72 | 21 => 73 | 22 => 74 | 25 => 94 | 26 => 95 | 27 => 96 | 28 => 97 | 29 => 98 | 30 => 99 | 31 => 106 | n => n, fun | 26 => 9 | 28 => 74 | 24 => 50 | 0 => 0 | 3 => 3 | 37 => 95 | 48 => 109 | 50 => 111 | 4 => 4 | 40 => 102 | 39 => 101 | 45 => 89 | 5 => 5 | 9 => 9 | 51 => 123 | 55 => 127 | 57 => 133 | 58 => 134 | 33 => 52 | n => n, fun | n => n⟩
theorem sortedE : Go.Proofs.SlLaysZ.n6 Try.prog sortedE_ren := {
  mixed := by kernel_rfl
  f6 := ⟨Try.f34.name, by decide, Try.func34.trans (congrArg some (by kernel_rfl))⟩
  f8 := ⟨Try.f56.name, by decide, Try.func56.trans (congrArg some (by kernel_rfl))⟩
  f11 := ⟨Try.f65.name, by decide, Try.func65.trans (congrArg some (by kernel_rfl))⟩
  t0 := Try.underlying0
  a0 := Try.isAgg0
  z0 := Try.sizeOf0
  v0 := Try.zeroValue0
  t24 := Try.underlying50
  a24 := Try.isAgg50
  z24 := Try.sizeOf50
  v24 := Try.zeroValue50
  t26 := Try.underlying9
  a26 := Try.isAgg9
  z26 := Try.sizeOf9
  v26 := Try.zeroValue9
  t28 := Try.underlying74
  a28 := Try.isAgg74
  z28 := Try.sizeOf74
  v28 := Try.zeroValue74
  i26 := by kernel_rfl }
def sortE_ren : Go.Shelf.Ren := ⟨fun | 6 => 38 | 8 => 60 | 9 => 59 | 19 => 75 | 20 => 76 | 21 => 66 | 22 => 67 | 23 => 68 | 24 => 69 | 25 => 70 | 26 => 71 | 27 => 72 | 28 => 73 | 29 => 74 | 36 => 94 | 31 => 95 | 32 => 96 | 37 => 97 | 38 => 98 | 39 => 99 | 41 => 106 | n => n, fun | 27 => 50 | 29 => 9 | 3 => 3 | 32 => 95 | 26 => 50 | 0 => 0 | 44 => 109 | 46 => 111 | 4 => 4 | 36 => 102 | 35 => 101 | 41 => 89 | 5 => 5 | 9 => 9 | 53 => 123 | 57 => 127 | 63 => 133 | 64 => 134 | n => n, fun | n => n⟩
theorem sortE : Go.Proofs.SlLaysM.n6 Try.prog sortE_ren := {
  mixed := by kernel_rfl
  f6 := ⟨Try.f38.name, by decide, Try.func38.trans (congrArg some (by kernel_rfl))⟩
  f8 := Try.func60.trans (congrArg some (by kernel_rfl))
  f9 := ⟨Try.f59.name, by decide, Try.func59.trans (congrArg some (by kernel_rfl))⟩
  f19 := Try.func75.trans (congrArg some (by kernel_rfl))
  f20 := Try.func76.trans (congrArg some (by kernel_rfl))
  f21 := ⟨Try.f66.name, by decide, Try.func66.trans (congrArg some (by kernel_rfl))⟩
  f22 := ⟨Try.f67.name, by decide, Try.func67.trans (congrArg some (by kernel_rfl))⟩
  f23 := ⟨Try.f68.name, by decide, Try.func68.trans (congrArg some (by kernel_rfl))⟩
  f24 := ⟨Try.f69.name, by decide, Try.func69.trans (congrArg some (by kernel_rfl))⟩
  f25 := ⟨Try.f70.name, by decide, Try.func70.trans (congrArg some (by kernel_rfl))⟩
  f26 := ⟨Try.f71.name, by decide, Try.func71.trans (congrArg some (by kernel_rfl))⟩
  f27 := ⟨Try.f72.name, by decide, Try.func72.trans (congrArg some (by kernel_rfl))⟩
  f28 := ⟨Try.f73.name, by decide, Try.func73.trans (congrArg some (by kernel_rfl))⟩
  f29 := ⟨Try.f74.name, by decide, Try.func74.trans (congrArg some (by kernel_rfl))⟩
  f31 := Try.func95.trans (congrArg some (by kernel_rfl))
  f32 := Try.func96.trans (congrArg some (by kernel_rfl))
  f36 := ⟨Try.f94.name, by decide, Try.func94.trans (congrArg some (by kernel_rfl))⟩
  f37 := ⟨Try.f97.name, by decide, Try.func97.trans (congrArg some (by kernel_rfl))⟩
  f38 := ⟨Try.f98.name, by decide, Try.func98.trans (congrArg some (by kernel_rfl))⟩
  f39 := ⟨Try.f99.name, by decide, Try.func99.trans (congrArg some (by kernel_rfl))⟩
  f41 := ⟨Try.f106.name, by decide, Try.func106.trans (congrArg some (by kernel_rfl))⟩
  t0 := Try.underlying0
  a0 := Try.isAgg0
  z0 := Try.sizeOf0
  v0 := Try.zeroValue0
  t3 := Try.underlying3
  a3 := Try.isAgg3
  z3 := Try.sizeOf3
  v3 := Try.zeroValue3
  t4 := Try.underlying4
  a4 := Try.isAgg4
  z4 := Try.sizeOf4
  v4 := Try.zeroValue4
  t5 := Try.underlying5
  a5 := Try.isAgg5
  z5 := Try.sizeOf5
  v5 := Try.zeroValue5
  t9 := Try.underlying9
  a9 := Try.isAgg9
  z9 := Try.sizeOf9
  v9 := Try.zeroValue9
  t26 := Try.underlying50
  a26 := Try.isAgg50
  z26 := Try.sizeOf50
  v26 := Try.zeroValue50
  t27 := Try.underlying50
  a27 := Try.isAgg50
  z27 := Try.sizeOf50
  v27 := Try.zeroValue50
  t29 := Try.underlying9
  a29 := Try.isAgg9
  z29 := Try.sizeOf9
  v29 := Try.zeroValue9
  t32 := Try.underlying95
  a32 := Try.isAgg95
  z32 := Try.sizeOf95
  v32 := Try.zeroValue95
  t35 := Try.underlying101
  a35 := Try.isAgg101
  z35 := Try.sizeOf101
  v35 := Try.zeroValue101
  t36 := Try.underlying102
  a36 := Try.isAgg102
  z36 := Try.sizeOf102
  v36 := Try.zeroValue102
  t41 := Try.underlying89
  a41 := Try.isAgg89
  z41 := Try.sizeOf89
  v41 := Try.zeroValue89
  t44 := Try.underlying109
  a44 := Try.isAgg109
  z44 := Try.sizeOf109
  v44 := Try.zeroValue109
  t46 := Try.underlying111
  a46 := Try.isAgg111
  z46 := Try.sizeOf111
  v46 := Try.zeroValue111
  t53 := Try.underlying123
  a53 := Try.isAgg123
  z53 := Try.sizeOf123
  v53 := Try.zeroValue123
  t57 := Try.underlying127
  a57 := Try.isAgg127
  z57 := Try.sizeOf127
  v57 := Try.zeroValue127
  t63 := Try.underlying133
  a63 := Try.isAgg133
  z63 := Try.sizeOf133
  v63 := Try.zeroValue133
  t64 := Try.underlying134
  a64 := Try.isAgg134
  z64 := Try.sizeOf134
  v64 := Try.zeroValue134 }
theorem sortsE (m : Nat) : AnyZ.SortsIn Try.prog sortedE_ren Fence.wide m :=
  ⟨fun blk off cap ss W hH hblk hsz => callsIn_wide.2 (AnyM.slices_Sort_string sortE blk off cap ss W hH hblk hsz),
   fun p cap W => callsIn_wide.2 (AnyM.slices_Sort_string_none sortE p cap W)⟩
theorem own_le {w : World} {base base' size n : Nat} {t : TypeId} {v : Value} {xs : List Value} (h : w.ownsRow base t size v n xs) (hb : base' ≤ base) : w.ownsRow base' t size v n xs :=
  ⟨h.1, h.2.imp id fun ⟨g, cap, cur, h1, h2, h3⟩ => ⟨g, cap, cur, h1, Nat.le_trans hb h2, h3⟩⟩
def sortS (l : List Str) : List Str := l.mergeSort leB
theorem sortS_len (l : List Str) : (sortS l).length = l.length := by simp [sortS]
theorem MapAt.perm {z : Value} {w : World} {b N : Nat} {L : List (Str × Value)} (h : MapAt skey z w b N L) : ∃ D, w.ownsMap Try.prog 9 anyE b N D ∧ (L.map Prod.fst).Perm (strKeys D) := by
  obtain ⟨⟨D, h1, h2, h3⟩, h4⟩ := h
  refine ⟨D, h1, ?_⟩
  obtain ⟨es, hD, hpw, _⟩ := h1.entries skey.law
  obtain ⟨es', hD', hko⟩ := h1.keysOf
  obtain rfl : es = es' := by rw [hD] at hD'; simpa using hD'
  subst hD
  exact perm_strKeys hpw (fun q hq => by obtain ⟨v, hv⟩ := hko q hq; obtain ⟨x, _, hx, _⟩ := Maps.keyOf_str Try.underlying9 hv; exact ⟨x, hx⟩) h4 (fun x => by rw [← hasL_mem, ← h2 x]; rfl)
theorem cKeysE (b : Nat) (W : World) : Calls Try.prog 35 #[.map (some b)] W fun e w' => e = .returned (.func (.func 57) #[] #[.pointer (some ⟨W.heap.size, 0, none⟩)]) ∧ w' = W.alloc (.cells #[.map (some b)] 55) :=
  (callsIn_wide (n := 5)).1 (AnyZ.keys_in keysE Fence.wide 5 trivial rfl (some b) W)
set_option maxHeartbeats 1000000 in
theorem cSortedE (z : Value) (b N : Nat) (L : List (Str × Value)) (W : World) (h : MapAt skey z W b N L) (hN : N ≤ 1000000) :
    Calls Try.prog 34 #[.func (.func 57) #[] #[.pointer (some ⟨W.heap.size, 0, none⟩)]] (W.alloc (.cells #[.map (some b)] 55)) fun e w' =>
      ∃ B c, e = .returned (.slice B L.length c) ∧ w'.ownsRow W.heap.size 9 1 (.slice B L.length c) L.length (strVals (sortS (L.map Prod.fst))) ∧ Below W.heap.size W w' := by
  obtain ⟨D, hown, hperm⟩ := h.perm
  have hsz : Maps.size D ≤ 1000000 := Nat.le_trans hown.size_le hN
  have hbl := hown.lt
  have hseq : SeqGives Fence.wide 2 Try.prog 57 #[.pointer (some ⟨W.heap.size, 0, none⟩)] encStr (fun ss => ss.Perm (strKeys D)) (Maps.size D) (W.alloc (.cells #[.map (some b)] 55)) :=
    AnyZ.keys_gives (ρ := keysE_ren) { keysE with } Fence.wide _ trivial rfl (by omega) W.heap.size b N D _ (by simp) (by simp) (by
      obtain ⟨es, clock, hb, Ft, hs, hD⟩ := hown
      exact ⟨es, clock, (Below.heap_alloc _ _ b hbl).trans hb, Ft, hs, hD⟩)
  have cS := AnyZ.sorted_in sortedE Fence.wide 5 trivial trivial trivial trivial rfl (by omega) (sortsE _) (enters_of Try.func38 (by kernel_rfl) rfl) 57 #[.pointer (some ⟨W.heap.size, 0, none⟩)] trivial (enters_of Try.func57 (by kernel_rfl) rfl) _ _ (by simp only [maxLen]; omega) (by omega) _ hseq
  refine (callsIn_wide.1 cS).mono ?_
  rintro e w' ⟨v, ss, rfl, hS, hrow, _, hb⟩
  have hss : ss.mergeSort (fun x y => decide (x ≤ y)) = sortS (L.map Prod.fst) := mergeSort_of_perm (hS.trans hperm.symm)
  have hsl : ss.length = L.length := by
    have h1 := (hS.trans hperm.symm).length_eq
    rwa [List.length_map] at h1
  rw [hss, hsl] at hrow
  have hrow' : w'.ownsRow W.heap.size 9 1 v L.length (strVals (sortS (L.map Prod.fst))) := own_le hrow (by simp)
  obtain ⟨B, c, rfl, _⟩ := own_form hrow'
  exact ⟨B, c, rfl, hrow', ((Below.refl _ W).alloc (Nat.le_refl _) _).trans (hb.mono (by simp))⟩
end Go.Proofs.Ytmkccblcmiflfaa
