/- A model and the document's, side by side. No condition beyond those that each theorem states. -/
import Derived.Test.YtgkgieemdjbhpaaRA8
namespace Go.Proofs.Ytgkgieemdjbhpaa
open Go.RowKit Go.Maps

theorem hasM_perm {R S : MV} (hp : R.Perm S) (k : List UInt8) : hasM R k = hasM S k := by
  cases h1 : hasM R k with
  | true => exact (hasM_mem.2 ((hp.map Prod.fst).subset (hasM_mem.1 h1))).symm
  | false =>
    cases h2 : hasM S k with
    | false => rfl
    | true =>
      rw [hasM_mem.2 ((hp.symm.map Prod.fst).subset (hasM_mem.1 h2))] at h1
      cases h1
theorem getM_perm {R S : MV} (hp : R.Perm S) (hr : Rising R) (k : List UInt8) : getM R k = getM S k := by
  cases h : hasM R k with
  | false => rw [getM_none h, getM_none (by rw [← hasM_perm hp]; exact h)]
  | true =>
    obtain ⟨q, hq, he, hg⟩ := getM_mem h
    have hS : (S.map Prod.fst).Nodup := ((hp.map Prod.fst).nodup_iff).1 hr.nodup
    have hq' : (k, q.2) ∈ S := by rw [← he]; exact hp.subset hq
    rw [getM_at hS hq', ← hg]
theorem sort_perm {R S : MV} (hp : R.Perm S) (hr : Rising R) : sortM S = R.map Prod.fst := by
  have h1 : sortM S = sortM R := mergeSort_of_perm (hp.symm.map Prod.fst)
  rw [h1]
  have tr : ∀ a b c : List UInt8, leB a b = true → leB b c = true → leB a c = true := fun a b c h1 h2 => by simp only [leB, decide_eq_true_eq] at *; exact List.le_trans h1 h2
  have tt : ∀ a b : List UInt8, (leB a b || leB b a) = true := fun a b => by simp only [leB, Bool.or_eq_true, decide_eq_true_eq]; exact List.le_total a b
  refine List.Perm.eq_of_pairwise (le := fun a b => leB a b = true) (fun a b _ _ h1 h2 => ?_) (List.pairwise_mergeSort tr tt _) ?_ (List.mergeSort_perm _ _)
  · simp only [leB, decide_eq_true_eq] at h1 h2
    exact List.le_antisymm h1 h2
  · rw [List.pairwise_map]
    exact hr.imp fun {a b} hab => by simp only [leB, decide_eq_true_eq]; exact List.le_of_lt hab
theorem text_perm {R S : MV} (hp : R.Perm S) (hr : Rising R) : textM S = textR R := by
  unfold textM textT textR
  rw [sort_perm hp hr, List.flatMap_map]
  have h : ∀ q ∈ R, textW q.1 ++ textW (getM S q.1) = textW q.1 ++ textW q.2 := fun q hq => by
    rw [← getM_perm hp hr, getM_at hr.nodup (d := q.2) hq]
  clear hp
  have key : ∀ T : MV, (∀ q ∈ T, textW q.1 ++ textW (getM S q.1) = textW q.1 ++ textW q.2) → T.flatMap (fun q => textW q.1 ++ textW (getM S q.1)) = T.flatMap (fun q => textW q.1 ++ textW q.2) := by
    intro T
    induction T with
    | nil => intro _; rfl
    | cons x T ih => intro hT; rw [List.flatMap_cons, List.flatMap_cons, hT x (List.mem_cons_self ..), ih (fun q hq => hT q (List.mem_cons_of_mem _ hq))]
  exact key R h
theorem put_perm {R S : MV} (hp : R.Perm S) (k d : List UInt8) : putE R k d = putE S k d ∧ (putM R k d).Perm (putM S k d) := by
  have h := mem_putE hp k d
  refine ⟨h, ?_⟩
  unfold putM
  rw [h]
  split
  · exact hp.append_right _
  · exact hp
theorem del_perm {R S : MV} (hp : R.Perm S) (k : List UInt8) : delE R k = delE S k ∧ (delM R k).Perm (delM S k) := by
  refine ⟨by unfold delE; rw [hasM_perm hp], hp.filter _⟩
section
variable {lo p b r : Nat} {w w' : World} {R S : MV}
theorem MAt.is_map (h : MAt lo w p b S) : ∃ es clock, w.heap[b]? = some (.map es clock) := by
  obtain ⟨_, _, D, ⟨es, clock, hb, _⟩, _⟩ := h
  exact ⟨es, clock, hb⟩
theorem RAt.is_blk (h : RAt lo w r R) : ∃ cs, Blk w r 28 cs := by
  obtain ⟨_, B, c, h2, _⟩ := h
  exact ⟨_, h2⟩
theorem blk_not_map {k : Nat} {t : TypeId} {cs : Array Value} (h : Blk w k t cs) (hm : ∃ es clock, w.heap[b]? = some (.map es clock)) : k ≠ b := fun e => by
  subst e
  obtain ⟨es, clock, hb⟩ := hm
  unfold Blk at h
  rw [hb] at h
  cases h
theorem RAt.grown_b (h : RAt lo w r R) (hm : MAt lo w p b S) (hg : w.grownBy w' (some b)) : RAt lo w' r R := by
  obtain ⟨h1, B, c, h2, h3⟩ := h
  refine ⟨h1, B, c, h2.grown hg (fun e => blk_not_map h2 hm.is_map (Option.some.inj e).symm), own_of_eq h3 (fun q hq => hg.block q (h3.lt q hq).2 (fun e => ?_))⟩
  obtain ⟨cs, hcs⟩ := own_blk h3 hq
  exact blk_not_map hcs hm.is_map (Option.some.inj e)
theorem MAt.grown_r (h : MAt lo w p b S) (hr : RAt lo w r R) (hg : w.grownBy w' (some r)) : MAt lo w' p b S := by
  obtain ⟨cs, hcs⟩ := hr.is_blk
  have hmap := h.is_map
  obtain ⟨h1, h2, D, h3, h4⟩ := h
  refine ⟨h1.grown hg (fun e => ?_), h2, D, ?_, h4.keep fun k _ hk hk8 => hg.block k hk (fun e => ?_)⟩
  · have e := Option.some.inj e
    exact blk_ne hcs h1 (by decide) e
  · obtain ⟨es, clock, hb, F, hs, hD⟩ := h3
    exact ⟨es, clock, (hg.block b (Array.getElem?_eq_some_iff.1 hb).1 (fun e => blk_not_map hcs hmap (Option.some.inj e).symm)).trans hb, F, hs, hD⟩
  · have e := Option.some.inj e
    obtain ⟨cs8, hcs8⟩ := hk8
    exact blk_ne hcs8 hcs (by decide) e
end
/-- The two side by side. -/
structure Both (lo : Nat) (w : World) (p b r : Nat) (S R : MV) : Prop where
  m : MAt lo w p b S
  r : RAt lo w r R
  perm : R.Perm S
  rising : Rising R
theorem Both.below {lo p b r : Nat} {w w' : World} {S R : MV} (h : Both lo w p b r S R) (hb : Below w.heap.size w w') : Both lo w' p b r S R := ⟨h.m.below hb, h.r.below hb, h.perm, h.rising⟩
end Go.Proofs.Ytgkgieemdjbhpaa
