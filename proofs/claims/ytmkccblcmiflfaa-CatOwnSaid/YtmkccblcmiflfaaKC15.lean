/- The generations that were begun, in order. No condition beyond those that each theorem states. -/
import Derived.Test.YtmkccblcmiflfaaKC14
namespace Go.Proofs.Ytmkccblcmiflfaa
open Go.RowKit Go.Maps Go.WideMaps Go.Shelf Go.Sort

theorem genCells_one' (x : Str × Int) : ∀ v ∈ genCells x, v.oneCell' = true := genCells_one x
theorem sortN_agg (w : World) : (isAgg 26).run Try.prog w = .ok true w := Try.isAgg26 w
theorem sortN_size (w : World) : (Go.sizeOf 26).run Try.prog w = .ok 8 w := Try.sizeOf26 w
theorem sortWorldK_blk2 {w : World} {g m : Nat} {d : Array (Str × Int)} {os : Array Obj} {t : TypeId} {cs : Array Value} (h : Blk w g t cs) : ∃ cs', Blk (sortWorldK genCells 8 w g 0 m d os) g t cs' ∧ cs'.size = cs.size := by
  unfold Blk at h
  refine ⟨putCells id 0 (flatK genCells 8 d) cs, ?_, by simp [putCells]⟩
  unfold Blk sortWorldK Sort.grow putRowK Sort.putRow Sort.mapBlock Sort.ahead
  have hlt := (Array.getElem?_eq_some_iff.1 h).1
  rw [Array.getElem?_append_left (by simpa using hlt), Array.getElem?_modify, if_pos rfl, h]
  rfl
set_option maxHeartbeats 1000000 in
theorem sortGens (L M : List (Str × Int)) (hL : L.Pairwise fun a b => a.2 < b.2) (hp : M.Perm L) (hl : M.length ≤ 1000000) (base : Nat) (v : Value) (w : World) (ho : w.ownsRow base 26 8 v M.length (genVals M)) :
    Calls Try.prog 41 #[v, .func (.func 42) #[] #[]] w fun e w' => e = .returned (.tuple #[]) ∧ w'.ownsRow base 26 8 v L.length (genVals L) ∧ w.grownBy w' v.ownBlock := by
  have hlen : M.length = L.length := hp.length_eq
  rcases ho.2 with ⟨rfl, h0⟩ | ⟨g, cap, cur, rfl, hb, hheap, h1, h2, h3, h4⟩
  · have eM : M = [] := List.eq_nil_of_length_eq_zero h0
    subst eM
    have eL : L = [] := List.eq_nil_of_length_eq_zero (by rw [← hlen]; rfl)
    subst eL
    refine (AnyF.slices_SortFunc_none sortN none 0 (.func (.func 42) #[] #[]) w).mono ?_
    rintro e w' ⟨rfl, rfl⟩
    exact ⟨rfl, World.ownsRow_nil _ _ _ _, World.grownBy.refl _ _⟩
  · have hrow : RowAt w g 26 (genVals M) := ⟨cur, hheap, by rw [genVals_len]; exact h4⟩
    have eg : ∀ args w, (callFunc 42 args).run Try.prog w = .ok (.enter 42 args) w := enters_of Try.func42 (by kernel_rfl) rfl
    have hS := AnyQ.slices_SortFunc sortN 8 sortN_agg sortN_size genCells (fun _ => rfl) genCells_one' cfN swoN 42 #[] g 0 cap M.toArray w eg (cmpLaysN g 0 _ w) (holds_gen hrow) hrow.size (by simp; omega)
    refine Calls.mono hS fun e w' ⟨he, d', n, os, hperm, hsort, hw⟩ => ?_
    have hsz : M.toArray.size = M.length := by simp
    have hds : d'.size = M.length := hperm.1.trans hsz
    have hp1 : d'.toList.Perm M := by
      have h := hperm.2.2
      rw [hsz] at h
      have e1 : d'.extract 0 M.length = d' := by rw [← hds]; simp
      have e2 : M.toArray.extract 0 M.length = M.toArray := by simp
      rw [e1, e2] at h
      simpa using h
    have hsd : d'.toList.Pairwise fun a b => a.2 ≤ b.2 := by
      rw [List.pairwise_iff_getElem]
      intro i j hi hj hij
      simp only [Array.length_toList] at hi hj
      have h1 := hsort i j (Nat.zero_le _) hij (by rw [hsz]; omega)
      rw [ltN, getElem!_pos d' j hj, getElem!_pos d' i hi] at h1
      simp only [Array.getElem_toList]
      simp only [decide_eq_false_iff_not] at h1
      omega
    have hd : d'.toList = L := sorted_one (hp1.trans hp) hsd hL
    have hd' : d' = L.toArray := by rw [← hd]
    subst hd'
    obtain ⟨cs', hb', hcs⟩ := sortWorldK_blk2 (g := g) (m := n) (d := L.toArray) (os := os) (t := 26) (cs := cur) (w := w) hheap
    have hH' : HoldsK genCells 8 (sortWorldK genCells 8 w g 0 n L.toArray os) g 0 L.toArray := holdsK_sortWorldK genCells 8 w g 0 n M.toArray L.toArray os hrow.size (holds_gen hrow) hds
    obtain ⟨cs2, hb2, ht⟩ := row_gen hb' hH'
    have e2 : cs2 = cs' := by
      have := hb2.symm.trans hb'
      injection this with this
      injection this
    subst e2
    rw [genVals_len] at ht
    subst hw
    refine ⟨he, ⟨genVals_len L, .inr ⟨g, cap, cs2, by simp [hlen], hb, hb2, by omega, h2, by omega, ht⟩⟩, sortWorldK_grown w g n _ os⟩
set_option maxHeartbeats 1000000 in
theorem cGens (F : Nat → Prop) (p N : Nat) (C : CV) (w : World) (h : CatAt F w p N C) (hN : N ≤ 100000) :
    Calls Try.prog 22 #[.pointer (some ⟨p, 0, none⟩)] w fun e w' => ∃ v, e = .returned v ∧ w'.ownsRow (w.heap.size + 1) 26 8 v C.begun.length (genVals C.begun) ∧ Below w.heap.size w w' := by
  have hb : C.begun.Pairwise fun a b => a.2 < b.2 := by
    obtain ⟨sv, tv, SR, ER, be, bb, br, hr⟩ := h
    exact hr.wf.gens
  refine cGens0 F p N C w h hN _ fun v n M w1 hp hn hnN ho hbl => ?_
  subst hn
  refine (sortGens C.begun M hb hp (by omega) _ v w1 ho).mono ?_
  rintro e w2 ⟨rfl, ho2, hg⟩
  refine ⟨rfl, v, rfl, ho2, hbl.grown hg hbl.size fun q hq => ?_⟩
  have := (ho.lt q hq).1
  omega
end Go.Proofs.Ytmkccblcmiflfaa
