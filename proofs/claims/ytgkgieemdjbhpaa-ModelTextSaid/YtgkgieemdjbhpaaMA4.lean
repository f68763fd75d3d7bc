/- What Keys does to a model: its keys, sorted. No condition beyond those that each theorem states. -/
import Derived.Test.YtgkgieemdjbhpaaMA3
import Derived.Shelf.SlIter.Nil
import Derived.Shelf.SortM.Plain
import Derived.Shelf.SortM.SortNone
import Derived.Shelf.Lay
import Derived.Ground.GgzProg
import Derived.Ground.SlgmProg
namespace Go.Proofs.Ytgkgieemdjbhpaa
open Go.RowKit Go.Maps Go.Sort Go.Shelf

def keysL_ren : Go.Shelf.Ren := ⟨fun | 7 => 29 | 10 => 37 | n => n, fun | 23 => 55 | 26 => 9 | 3 => 29 | 28 => 66 | 0 => 0 | 27 => 65 | 33 => 73 | 4 => 4 | n => n, fun | n => n⟩
theorem keysL : Go.Proofs.SlLaysZ.n7 Try.prog keysL_ren := {
  mixed := by kernel_rfl
  f7 := ⟨Try.f29.name, by decide, Try.func29.trans (congrArg some (by kernel_rfl))⟩
  f10 := ⟨Try.f37.name, by decide, Try.func37.trans (congrArg some (by kernel_rfl))⟩
  t0 := Try.underlying0
  a0 := Try.isAgg0
  z0 := Try.sizeOf0
  v0 := Try.zeroValue0
  t4 := Try.underlying4
  a4 := Try.isAgg4
  z4 := Try.sizeOf4
  v4 := Try.zeroValue4
  t23 := Try.underlying55
  a23 := Try.isAgg55
  z23 := Try.sizeOf55
  v23 := Try.zeroValue55
  t26 := Try.underlying9
  a26 := Try.isAgg9
  z26 := Try.sizeOf9
  v26 := Try.zeroValue9
  t27 := Try.underlying65
  a27 := Try.isAgg65
  z27 := Try.sizeOf65
  v27 := Try.zeroValue65
  t28 := Try.underlying66
  a28 := Try.isAgg66
  z28 := Try.sizeOf66
  v28 := Try.zeroValue66
  t33 := Try.underlying73
  a33 := Try.isAgg73
  z33 := Try.sizeOf73
  v33 := Try.zeroValue73 }
def sortedL_ren : Go.Shelf.Ren := ⟨fun | 6 => 28 | 8 => 35 | 9 => 36 | 11 => 41 | 13 => 43 | 12 => 42 | 23 => 54 | 24 => 55 | 14 => 45 | 15 => 46 | 16 => 47 | 17 => 48 | 18 => 49 | 19 => 50 | 20 => 51 | 21 => 52 | 22 => 53 | 25 => 56 | 26 => 57 | 27 => 58 | 28 => 59 | 29 => 60 | 30 => 61 | 31 => 62 | n => n, fun | 26 => 9 | 28 => 66 | 24 => 38 | 0 => 0 | 3 => 3 | 37 => 81 | 48 => 91 | 50 => 75 | 4 => 4 | 40 => 84 | 39 => 83 | 45 => 58 | 5 => 5 | 9 => 9 | 51 => 93 | 55 => 97 | 57 => 99 | 58 => 100 | 33 => 73 | n => n, fun | n => n⟩
theorem sortedL : Go.Proofs.SlLaysZ.n6 Try.prog sortedL_ren := {
  mixed := by kernel_rfl
  f6 := ⟨Try.f28.name, by decide, Try.func28.trans (congrArg some (by kernel_rfl))⟩
  f8 := ⟨Try.f35.name, by decide, Try.func35.trans (congrArg some (by kernel_rfl))⟩
  f11 := ⟨Try.f41.name, by decide, Try.func41.trans (congrArg some (by kernel_rfl))⟩
  t0 := Try.underlying0
  a0 := Try.isAgg0
  z0 := Try.sizeOf0
  v0 := Try.zeroValue0
  t24 := Try.underlying38
  a24 := Try.isAgg38
  z24 := Try.sizeOf38
  v24 := Try.zeroValue38
  t26 := Try.underlying9
  a26 := Try.isAgg9
  z26 := Try.sizeOf9
  v26 := Try.zeroValue9
  t28 := Try.underlying66
  a28 := Try.isAgg66
  z28 := Try.sizeOf66
  v28 := Try.zeroValue66
  i26 := by kernel_rfl }
def sortL_ren : Go.Shelf.Ren := ⟨fun | 6 => 36 | 8 => 43 | 9 => 42 | 19 => 54 | 20 => 55 | 21 => 45 | 22 => 46 | 23 => 47 | 24 => 48 | 25 => 49 | 26 => 50 | 27 => 51 | 28 => 52 | 29 => 53 | 36 => 56 | 31 => 57 | 32 => 58 | 37 => 59 | 38 => 60 | 39 => 61 | 41 => 62 | n => n, fun | 27 => 38 | 29 => 9 | 3 => 3 | 32 => 81 | 26 => 38 | 0 => 0 | 44 => 91 | 46 => 75 | 4 => 4 | 36 => 84 | 35 => 83 | 41 => 58 | 5 => 5 | 9 => 9 | 53 => 93 | 57 => 97 | 63 => 99 | 64 => 100 | n => n, fun | n => n⟩
theorem sortL : Go.Proofs.SlLaysM.n6 Try.prog sortL_ren := {
  mixed := by kernel_rfl
  f6 := ⟨Try.f36.name, by decide, Try.func36.trans (congrArg some (by kernel_rfl))⟩
  f8 := Try.func43.trans (congrArg some (by kernel_rfl))
  f9 := ⟨Try.f42.name, by decide, Try.func42.trans (congrArg some (by kernel_rfl))⟩
  f19 := Try.func54.trans (congrArg some (by kernel_rfl))
  f20 := Try.func55.trans (congrArg some (by kernel_rfl))
  f21 := ⟨Try.f45.name, by decide, Try.func45.trans (congrArg some (by kernel_rfl))⟩
  f22 := ⟨Try.f46.name, by decide, Try.func46.trans (congrArg some (by kernel_rfl))⟩
  f23 := ⟨Try.f47.name, by decide, Try.func47.trans (congrArg some (by kernel_rfl))⟩
  f24 := ⟨Try.f48.name, by decide, Try.func48.trans (congrArg some (by kernel_rfl))⟩
  f25 := ⟨Try.f49.name, by decide, Try.func49.trans (congrArg some (by kernel_rfl))⟩
  f26 := ⟨Try.f50.name, by decide, Try.func50.trans (congrArg some (by kernel_rfl))⟩
  f27 := ⟨Try.f51.name, by decide, Try.func51.trans (congrArg some (by kernel_rfl))⟩
  f28 := ⟨Try.f52.name, by decide, Try.func52.trans (congrArg some (by kernel_rfl))⟩
  f29 := ⟨Try.f53.name, by decide, Try.func53.trans (congrArg some (by kernel_rfl))⟩
  f31 := Try.func57.trans (congrArg some (by kernel_rfl))
  f32 := Try.func58.trans (congrArg some (by kernel_rfl))
  f36 := ⟨Try.f56.name, by decide, Try.func56.trans (congrArg some (by kernel_rfl))⟩
  f37 := ⟨Try.f59.name, by decide, Try.func59.trans (congrArg some (by kernel_rfl))⟩
  f38 := ⟨Try.f60.name, by decide, Try.func60.trans (congrArg some (by kernel_rfl))⟩
  f39 := ⟨Try.f61.name, by decide, Try.func61.trans (congrArg some (by kernel_rfl))⟩
  f41 := ⟨Try.f62.name, by decide, Try.func62.trans (congrArg some (by kernel_rfl))⟩
  t0 := Try.underlying0
  a0 := Try.isAgg0
  z0 := Try.sizeOf0
  v0 := Try.zeroValue0
  t3 := Try.underlying3
  a3 := Try.isAgg3
  z3 := Try.sizeOf3
  v3 := Try.zeroValue3
  t4 := Try.underlying4
  a4 := Try.isAgg4
  z4 := Try.sizeOf4
  v4 := Try.zeroValue4
  t5 := Try.underlying5
  a5 := Try.isAgg5
  z5 := Try.sizeOf5
  v5 := Try.zeroValue5
  t9 := Try.underlying9
  a9 := Try.isAgg9
  z9 := Try.sizeOf9
  v9 := Try.zeroValue9
  t26 := Try.underlying38
  a26 := Try.isAgg38
  z26 := Try.sizeOf38
  v26 := Try.zeroValue38
  t27 := Try.underlying38
  a27 := Try.isAgg38
  z27 := Try.sizeOf38
  v27 := Try.zeroValue38
  t29 := Try.underlying9
  a29 := Try.isAgg9
  z29 := Try.sizeOf9
  v29 := Try.zeroValue9
  t32 := Try.underlying81
  a32 := Try.isAgg81
  z32 := Try.sizeOf81
  v32 := Try.zeroValue81
  t35 := Try.underlying83
  a35 := Try.isAgg83
  z35 := Try.sizeOf83
  v35 := Try.zeroValue83
  t36 := Try.underlying84
  a36 := Try.isAgg84
  z36 := Try.sizeOf84
  v36 := Try.zeroValue84
  t41 := Try.underlying58
  a41 := Try.isAgg58
  z41 := Try.sizeOf58
  v41 := Try.zeroValue58
  t44 := Try.underlying91
  a44 := Try.isAgg91
  z44 := Try.sizeOf91
  v44 := Try.zeroValue91
  t46 := Try.underlying75
  a46 := Try.isAgg75
  z46 := Try.sizeOf75
  v46 := Try.zeroValue75
  t53 := Try.underlying93
  a53 := Try.isAgg93
  z53 := Try.sizeOf93
  v53 := Try.zeroValue93
  t57 := Try.underlying97
  a57 := Try.isAgg97
  z57 := Try.sizeOf97
  v57 := Try.zeroValue97
  t63 := Try.underlying99
  a63 := Try.isAgg99
  z63 := Try.sizeOf99
  v63 := Try.zeroValue99
  t64 := Try.underlying100
  a64 := Try.isAgg100
  z64 := Try.sizeOf100
  v64 := Try.zeroValue100 }
theorem sortsL (m : Nat) : AnyZ.SortsIn Try.prog sortedL_ren Fence.wide m :=
  ⟨fun blk off cap ss W hH hblk hsz => callsIn_wide.2 (AnyM.slices_Sort_string sortL blk off cap ss W hH hblk hsz),
   fun p cap W => callsIn_wide.2 (AnyM.slices_Sort_string_none sortL p cap W)⟩
/-- Strings in memory, from a block's beginning on, or none. -/
def StrsAt (w : World) (B : Option Addr) (m : Nat) (ss : List (List UInt8)) : Prop := ss.length = m ∧ ((B = none ∧ m = 0) ∨ ∃ g, B = some ⟨g, 0, none⟩ ∧ g < w.heap.size ∧ ∀ i u, ss[i]? = some u → w.cell? ⟨g, i, none⟩ = some (encStr u))
theorem StrsAt.below {w w' : World} {B : Option Addr} {m : Nat} {ss : List (List UInt8)} (h : StrsAt w B m ss) (hb : Below w.heap.size w w') : StrsAt w' B m ss :=
  ⟨h.1, h.2.imp id fun ⟨g, h1, h2, h3⟩ => ⟨g, h1, Nat.lt_of_lt_of_le h2 hb.size, fun i u hu => (hb.cell (p := ⟨g, i, none⟩) h2).trans (h3 i u hu)⟩⟩
def sortM (S : MV) : List (List UInt8) := (S.map Prod.fst).mergeSort leB
theorem sortM_len (S : MV) : (sortM S).length = S.length := by simp [sortM]
theorem sclip (B : Option Addr) (n c : Nat) (w : World) (hn : n ≤ c) (hB : (B = none ∧ n = 0 ∧ c = 0) ∨ ∃ g, B = some ⟨g, 0, none⟩) :
    Calls Try.prog 27 #[.slice B n c] w fun e w' => e = .returned (.slice B n n) ∧ w = w' := by
  rcases hB with ⟨rfl, rfl, rfl⟩ | ⟨g, rfl⟩
  · go_enter Try.func27, Try.ntmps27
    go_wp2
    go_ret
    exact ⟨rfl, rfl⟩
  · go_enter Try.func27, Try.ntmps27
    go_wp2
    go_ret
    exact ⟨rfl, rfl⟩
theorem mKeys_nil (w : World) : Calls Try.prog 14 #[.pointer none] w fun e w' => e = .returned (.slice none 0 0) ∧ w = w' := by
  go_enter Try.func14, Try.ntmps14
  go_wp2
  go_ret
  exact ⟨rfl, rfl⟩
set_option maxHeartbeats 2000000 in
theorem mKeys (lo p b : Nat) (S : MV) (w : World) (h : MAt lo w p b S) (hS : S.length ≤ 1000000) :
    Calls Try.prog 14 #[.pointer (some ⟨p, 0, none⟩)] w fun e w' => ∃ B, e = .returned (.slice B S.length S.length) ∧ StrsAt w' B S.length (sortM S) ∧ Below w.heap.size w w' := by
  refine (callsIn_wide (n := 6)).1 ?_
  have c0 : w.cell? ⟨p, 0, none⟩ = some (.map (some b)) := h.blk.cell 0
  obtain ⟨D, hown, hrep, hperm⟩ := h.perm
  have hsz : Maps.size D ≤ 1000000 := Nat.le_trans hown.size_le hS
  have hbl := hown.lt
  have hseq : SeqGives Fence.wide 2 Try.prog 37 #[.pointer (some ⟨w.heap.size, 0, none⟩)] encStr (fun ss => ss.Perm (strKeys D)) (Maps.size D) (w.alloc (.cells #[.map (some b)] 55)) :=
    AnyZ.keys_gives (ρ := keysL_ren) { keysL with } Fence.wide _ trivial rfl (by omega) w.heap.size b S.length D _ (by simp) (by simp) (by
      obtain ⟨es, clock, hb, Ft, hs, hD⟩ := hown
      exact ⟨es, clock, (Below.heap_alloc _ _ b hbl).trans hb, Ft, hs, hD⟩)
  have cK : ∀ mb W, CallsIn Fence.wide 5 Try.prog 29 #[.map mb] W fun e w' => e = .returned (.func (.func 37) #[] #[.pointer (some ⟨W.heap.size, 0, none⟩)]) ∧ w' = W.alloc (.cells #[.map mb] 55) := fun mb W => AnyZ.keys_in keysL Fence.wide 5 trivial rfl mb W
  have cS := AnyZ.sorted_in sortedL Fence.wide 5 trivial trivial trivial trivial rfl (by omega) (sortsL _) (enters_of Try.func36 (by kernel_rfl) rfl) 37 #[.pointer (some ⟨w.heap.size, 0, none⟩)] trivial (enters_of Try.func37 (by kernel_rfl) rfl) _ _ (by simp only [maxLen]; omega) (by omega) _ hseq
  change CallsIn _ _ Try.prog 28 _ _ _ at cS
  have hfK : Fence.wide.fn 29 := trivial
  have hfS : Fence.wide.fn 28 := trivial
  have hfC : Fence.wide.fn 27 := trivial
  have PM := Lib.hid hperm
  clear h hown hrep hseq hperm
  refine callsIn_of_wp Try.func14 rfl trivial ?_ rfl
  simp only [Try.ntmps14, List.size_toArray, List.length_cons, List.length_nil, Nat.reduceAdd, Nat.reduceSub, Array.replicate_succ, Array.replicate_zero, List.push_toArray, List.append_toArray, List.nil_append, List.cons_append]
  gi_wp2_with (first
    | (gi_at_call 29; refine (cK _ _).mono ?_; rintro e w' ⟨rfl, rfl⟩)
    | (gi_at_call 28; refine cS.mono ?_; rintro e w' ⟨v, ss, rfl, hS, hrow, hnil, hb⟩)
    | fail)
  have hss : ss.mergeSort (fun x y => decide (x ≤ y)) = sortM S := mergeSort_of_perm (hS.trans PM.out.symm)
  have hsl : ss.length = S.length := by
    have h1 := (hS.trans PM.out.symm).length_eq
    rwa [List.length_map] at h1
  rw [hss, hsl] at hrow
  have hbw : Below w.heap.size w w' := ((Below.refl _ w).alloc (Nat.le_refl _) _).trans (hb.mono (by simp))
  have hfin : ∃ B c, v = .slice B S.length c ∧ S.length ≤ c ∧ ((B = none ∧ S.length = 0 ∧ c = 0) ∨ ∃ g, B = some ⟨g, 0, none⟩) ∧ StrsAt w' B S.length (sortM S) := by
    rcases hrow.2 with ⟨rfl, h0⟩ | ⟨g, cap, cur, rfl, _, _, h3, _⟩
    · exact ⟨none, 0, by rw [h0], by omega, .inl ⟨rfl, h0, rfl⟩, sortM_len S, .inl ⟨rfl, h0⟩⟩
    · exact ⟨_, cap, rfl, h3, .inr ⟨g, rfl⟩, sortM_len S, .inr ⟨g, rfl, own_lt hrow, fun i u hu => own_cell hrow (by rw [List.getElem?_map, hu]; rfl)⟩⟩
  obtain ⟨B, c, rfl, hc, hform, hst⟩ := hfin
  have ST := Lib.hid hst
  have BW := Lib.hid hbw
  clear hss hsl hrow hnil hb hst hbw hS cS cK c0
  refine (callsIn_wide.2 (sclip B S.length c w' hc hform)).mono ?_
  rintro e w2 ⟨rfl, rfl⟩
  gi_wp2_with fail
  go_ret
  exact ⟨B, rfl, ST.out, BW.out⟩
end Go.Proofs.Ytgkgieemdjbhpaa
