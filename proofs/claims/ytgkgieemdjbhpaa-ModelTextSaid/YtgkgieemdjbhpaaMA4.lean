/- What Keys does to a model: its keys, sorted. No condition beyond those that each theorem states. -/
import Derived.Test.YtgkgieemdjbhpaaMA3
import Derived.Shelf.SlIter.Nil
import Derived.Shelf.SortM.Plain
import Derived.Shelf.SortM.SortNone
import Derived.Shelf.Lay
import Derived.Ground.GgzProg
import Derived.Ground.SlgmProg
namespace Go.Proofs.Ytgkgieemdjbhpaa
open Go.RowKit Go.Maps Go.Sort Go.Shelf

shelf_lay_g SlLaysZ.n7 Ggz 7 at Try 29 as keysL
shelf_lay_g SlLaysZ.n6 Ggz 6 at Try 28 as sortedL
shelf_lay_g SlLaysM.n6 Slgm 6 at Try 36 as sortL
theorem sortsL (m : Nat) : AnyZ.SortsIn Try.prog sortedL_ren Fence.wide m :=
  ⟨fun blk off cap ss W hH hblk hsz => callsIn_wide.2 (AnyM.slices_Sort_string sortL blk off cap ss W hH hblk hsz),
   fun p cap W => callsIn_wide.2 (AnyM.slices_Sort_string_none sortL p cap W)⟩
/-- Strings in memory, from a block's beginning on, or none. -/
def StrsAt (w : World) (B : Option Addr) (m : Nat) (ss : List (List UInt8)) : Prop := ss.length = m ∧ ((B = none ∧ m = 0) ∨ ∃ g, B = some ⟨g, 0, none⟩ ∧ g < w.heap.size ∧ ∀ i u, ss[i]? = some u → w.cell? ⟨g, i, none⟩ = some (encStr u))
theorem StrsAt.below {w w' : World} {B : Option Addr} {m : Nat} {ss : List (List UInt8)} (h : StrsAt w B m ss) (hb : Below w.heap.size w w') : StrsAt w' B m ss :=
  ⟨h.1, h.2.imp id fun ⟨g, h1, h2, h3⟩ => ⟨g, h1, Nat.lt_of_lt_of_le h2 hb.size, fun i u hu => (hb.cell (p := ⟨g, i, none⟩) h2).trans (h3 i u hu)⟩⟩
def sortM (S : MV) : List (List UInt8) := (S.map Prod.fst).mergeSort leB
theorem sortM_len (S : MV) : (sortM S).length = S.length := by simp [sortM]
theorem sclip (B : Option Addr) (n c : Nat) (w : World) (hn : n ≤ c) (hB : (B = none ∧ n = 0 ∧ c = 0) ∨ ∃ g, B = some ⟨g, 0, none⟩) :
    Calls Try.prog 27 #[.slice B n c] w fun e w' => e = .returned (.slice B n n) ∧ w = w' := by
  rcases hB with ⟨rfl, rfl, rfl⟩ | ⟨g, rfl⟩
  · go_enter Try.func27, Try.ntmps27
    go_wp2
    go_ret
    exact ⟨rfl, rfl⟩
  · go_enter Try.func27, Try.ntmps27
    go_wp2
    go_ret
    exact ⟨rfl, rfl⟩
theorem mKeys_nil (w : World) : Calls Try.prog 14 #[.pointer none] w fun e w' => e = .returned (.slice none 0 0) ∧ w = w' := by
  go_enter Try.func14, Try.ntmps14
  go_wp2
  go_ret
  exact ⟨rfl, rfl⟩
set_option maxHeartbeats 2000000 in
theorem mKeys (lo p b : Nat) (S : MV) (w : World) (h : MAt lo w p b S) (hS : S.length ≤ 1000000) :
    Calls Try.prog 14 #[.pointer (some ⟨p, 0, none⟩)] w fun e w' => ∃ B, e = .returned (.slice B S.length S.length) ∧ StrsAt w' B S.length (sortM S) ∧ Below w.heap.size w w' := by
  refine (callsIn_wide (n := 6)).1 ?_
  have c0 : w.cell? ⟨p, 0, none⟩ = some (.map (some b)) := h.blk.cell 0
  obtain ⟨D, hown, hrep, hperm⟩ := h.perm
  have hsz : Maps.size D ≤ 1000000 := Nat.le_trans hown.size_le hS
  have hbl := hown.lt
  have hseq : SeqGives Fence.wide 2 Try.prog 37 #[.pointer (some ⟨w.heap.size, 0, none⟩)] encStr (fun ss => ss.Perm (strKeys D)) (Maps.size D) (w.alloc (.cells #[.map (some b)] 55)) :=
    AnyZ.keys_gives (ρ := keysL_ren) { keysL with } Fence.wide _ trivial rfl (by omega) w.heap.size b S.length D _ (by simp) (by simp) (by
      obtain ⟨es, clock, hb, Ft, hs, hD⟩ := hown
      exact ⟨es, clock, (Below.heap_alloc _ _ b hbl).trans hb, Ft, hs, hD⟩)
  have cK : ∀ mb W, CallsIn Fence.wide 5 Try.prog 29 #[.map mb] W fun e w' => e = .returned (.func (.func 37) #[] #[.pointer (some ⟨W.heap.size, 0, none⟩)]) ∧ w' = W.alloc (.cells #[.map mb] 55) := fun mb W => AnyZ.keys_in keysL Fence.wide 5 trivial rfl mb W
  have cS := AnyZ.sorted_in sortedL Fence.wide 5 trivial trivial trivial trivial rfl (by omega) (sortsL _) (enters_of Try.func36 (by kernel_rfl) rfl) 37 #[.pointer (some ⟨w.heap.size, 0, none⟩)] trivial (enters_of Try.func37 (by kernel_rfl) rfl) _ _ (by simp only [maxLen]; omega) (by omega) _ hseq
  change CallsIn _ _ Try.prog 28 _ _ _ at cS
  have hfK : Fence.wide.fn 29 := trivial
  have hfS : Fence.wide.fn 28 := trivial
  have hfC : Fence.wide.fn 27 := trivial
  have PM := Lib.hid hperm
  clear h hown hrep hseq hperm
  refine callsIn_of_wp Try.func14 rfl trivial ?_ rfl
  simp only [Try.ntmps14, List.size_toArray, List.length_cons, List.length_nil, Nat.reduceAdd, Nat.reduceSub, Array.replicate_succ, Array.replicate_zero, List.push_toArray, List.append_toArray, List.nil_append, List.cons_append]
  gi_wp2_with (first
    | (gi_at_call 29; refine (cK _ _).mono ?_; rintro e w' ⟨rfl, rfl⟩)
    | (gi_at_call 28; refine cS.mono ?_; rintro e w' ⟨v, ss, rfl, hS, hrow, hnil, hb⟩)
    | fail)
  have hss : ss.mergeSort (fun x y => decide (x ≤ y)) = sortM S := mergeSort_of_perm (hS.trans PM.out.symm)
  have hsl : ss.length = S.length := by
    have h1 := (hS.trans PM.out.symm).length_eq
    rwa [List.length_map] at h1
  rw [hss, hsl] at hrow
  have hbw : Below w.heap.size w w' := ((Below.refl _ w).alloc (Nat.le_refl _) _).trans (hb.mono (by simp))
  have hfin : ∃ B c, v = .slice B S.length c ∧ S.length ≤ c ∧ ((B = none ∧ S.length = 0 ∧ c = 0) ∨ ∃ g, B = some ⟨g, 0, none⟩) ∧ StrsAt w' B S.length (sortM S) := by
    rcases hrow.2 with ⟨rfl, h0⟩ | ⟨g, cap, cur, rfl, _, _, h3, _⟩
    · exact ⟨none, 0, by rw [h0], by omega, .inl ⟨rfl, h0, rfl⟩, sortM_len S, .inl ⟨rfl, h0⟩⟩
    · exact ⟨_, cap, rfl, h3, .inr ⟨g, rfl⟩, sortM_len S, .inr ⟨g, rfl, own_lt hrow, fun i u hu => own_cell hrow (by rw [List.getElem?_map, hu]; rfl)⟩⟩
  obtain ⟨B, c, rfl, hc, hform, hst⟩ := hfin
  have ST := Lib.hid hst
  have BW := Lib.hid hbw
  clear hss hsl hrow hnil hb hst hbw hS cS cK c0
  refine (callsIn_wide.2 (sclip B S.length c w' hc hform)).mono ?_
  rintro e w2 ⟨rfl, rfl⟩
  gi_wp2_with fail
  go_ret
  exact ⟨B, rfl, ST.out, BW.out⟩
end Go.Proofs.Ytgkgieemdjbhpaa
