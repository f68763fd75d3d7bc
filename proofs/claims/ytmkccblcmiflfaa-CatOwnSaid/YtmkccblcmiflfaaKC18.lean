/- The entries' keys, sorted. No condition beyond those that each theorem states. -/
import Derived.Test.YtmkccblcmiflfaaKC17
import Derived.Shelf.SlIter.Nil
import Derived.Shelf.SortM.Plain
import Derived.Shelf.SortM.SortNone
import Derived.Shelf.Lay
import Derived.Ground.GgzProg
import Derived.Ground.SlgmProg
namespace Go.Proofs.Ytmkccblcmiflfaa
open Go.RowKit Go.Maps Go.WideMaps Go.Sort Go.Shelf

shelf_lay_g SlLaysZ.n7 Ggz 7 at Try 35 as keysE
shelf_lay_g SlLaysZ.n6 Ggz 6 at Try 34 as sortedE
shelf_lay_g SlLaysM.n6 Slgm 6 at Try 38 as sortE
theorem sortsE (m : Nat) : AnyZ.SortsIn Try.prog sortedE_ren Fence.wide m :=
  ⟨fun blk off cap ss W hH hblk hsz => callsIn_wide.2 (AnyM.slices_Sort_string sortE blk off cap ss W hH hblk hsz),
   fun p cap W => callsIn_wide.2 (AnyM.slices_Sort_string_none sortE p cap W)⟩
theorem own_le {w : World} {base base' size n : Nat} {t : TypeId} {v : Value} {xs : List Value} (h : w.ownsRow base t size v n xs) (hb : base' ≤ base) : w.ownsRow base' t size v n xs :=
  ⟨h.1, h.2.imp id fun ⟨g, cap, cur, h1, h2, h3⟩ => ⟨g, cap, cur, h1, Nat.le_trans hb h2, h3⟩⟩
def sortS (l : List Str) : List Str := l.mergeSort leB
theorem sortS_len (l : List Str) : (sortS l).length = l.length := by simp [sortS]
theorem MapAt.perm {z : Value} {w : World} {b N : Nat} {L : List (Str × Value)} (h : MapAt skey z w b N L) : ∃ D, w.ownsMap Try.prog 9 anyE b N D ∧ (L.map Prod.fst).Perm (strKeys D) := by
  obtain ⟨⟨D, h1, h2, h3⟩, h4⟩ := h
  refine ⟨D, h1, ?_⟩
  obtain ⟨es, hD, hpw, _⟩ := h1.entries skey.law
  obtain ⟨es', hD', hko⟩ := h1.keysOf
  obtain rfl : es = es' := by rw [hD] at hD'; simpa using hD'
  subst hD
  exact perm_strKeys hpw (fun q hq => by obtain ⟨v, hv⟩ := hko q hq; obtain ⟨x, _, hx, _⟩ := Maps.keyOf_str Try.underlying9 hv; exact ⟨x, hx⟩) h4 (fun x => by rw [← hasL_mem, ← h2 x]; rfl)
theorem cKeysE (b : Nat) (W : World) : Calls Try.prog 35 #[.map (some b)] W fun e w' => e = .returned (.func (.func 57) #[] #[.pointer (some ⟨W.heap.size, 0, none⟩)]) ∧ w' = W.alloc (.cells #[.map (some b)] 55) :=
  (callsIn_wide (n := 5)).1 (AnyZ.keys_in keysE Fence.wide 5 trivial rfl (some b) W)
set_option maxHeartbeats 1000000 in
theorem cSortedE (z : Value) (b N : Nat) (L : List (Str × Value)) (W : World) (h : MapAt skey z W b N L) (hN : N ≤ 1000000) :
    Calls Try.prog 34 #[.func (.func 57) #[] #[.pointer (some ⟨W.heap.size, 0, none⟩)]] (W.alloc (.cells #[.map (some b)] 55)) fun e w' =>
      ∃ B c, e = .returned (.slice B L.length c) ∧ w'.ownsRow W.heap.size 9 1 (.slice B L.length c) L.length (strVals (sortS (L.map Prod.fst))) ∧ Below W.heap.size W w' := by
  obtain ⟨D, hown, hperm⟩ := h.perm
  have hsz : Maps.size D ≤ 1000000 := Nat.le_trans hown.size_le hN
  have hbl := hown.lt
  have hseq : SeqGives Fence.wide 2 Try.prog 57 #[.pointer (some ⟨W.heap.size, 0, none⟩)] encStr (fun ss => ss.Perm (strKeys D)) (Maps.size D) (W.alloc (.cells #[.map (some b)] 55)) :=
    AnyZ.keys_gives (ρ := keysE_ren) { keysE with } Fence.wide _ trivial rfl (by omega) W.heap.size b N D _ (by simp) (by simp) (by
      obtain ⟨es, clock, hb, Ft, hs, hD⟩ := hown
      exact ⟨es, clock, (Below.heap_alloc _ _ b hbl).trans hb, Ft, hs, hD⟩)
  have cS := AnyZ.sorted_in sortedE Fence.wide 5 trivial trivial trivial trivial rfl (by omega) (sortsE _) (enters_of Try.func38 (by kernel_rfl) rfl) 57 #[.pointer (some ⟨W.heap.size, 0, none⟩)] trivial (enters_of Try.func57 (by kernel_rfl) rfl) _ _ (by simp only [maxLen]; omega) (by omega) _ hseq
  refine (callsIn_wide.1 cS).mono ?_
  rintro e w' ⟨v, ss, rfl, hS, hrow, _, hb⟩
  have hss : ss.mergeSort (fun x y => decide (x ≤ y)) = sortS (L.map Prod.fst) := mergeSort_of_perm (hS.trans hperm.symm)
  have hsl : ss.length = L.length := by
    have h1 := (hS.trans hperm.symm).length_eq
    rwa [List.length_map] at h1
  rw [hss, hsl] at hrow
  have hrow' : w'.ownsRow W.heap.size 9 1 v L.length (strVals (sortS (L.map Prod.fst))) := own_le hrow (by simp)
  obtain ⟨B, c, rfl, _⟩ := own_form hrow'
  exact ⟨B, c, rfl, hrow', ((Below.refl _ W).alloc (Nat.le_refl _) _).trans (hb.mono (by simp))⟩
end Go.Proofs.Ytmkccblcmiflfaa
