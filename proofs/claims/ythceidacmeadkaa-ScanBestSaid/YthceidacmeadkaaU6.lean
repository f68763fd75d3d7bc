/- The document's best copies: plain laws. No condition beyond those that each theorem states. -/
import Derived.Test.YthceidacmeadkaaU5
namespace Go.Proofs.Ythceidacmeadkaa
open Go.RowKit Go.Maps Go.WideMaps Go.Sort Go.Shelf

theorem BestI.ext {L : List FoundP} {M BL BL' : List CopyE} (h : BestI L M BL) (hp : ∀ e, e ∈ BL' ↔ e ∈ BL) : BestI L M BL' :=
  ⟨fun e he => h.sub e ((hp e).1 he), fun e he hq => by obtain ⟨e', h1, h2⟩ := h.all e he hq; exact ⟨e', (hp e').2 h1, h2⟩⟩
/-- The best of those copies that were met, sorted; all copies of the first i records were met. -/
structure BestS (L : List FoundP) (i : Nat) (M es : List CopyE) : Prop where
  best : BestI L M es
  sorted : es.Pairwise fun a b => a.b.key < b.b.key
  met : ∀ b, isCopy (L.take i) b → ∃ e ∈ M, e.b = b
theorem BestS.start (L : List FoundP) : BestS L 0 [] [] := ⟨BestI.start L, List.Pairwise.nil, fun b ⟨p, hp, _⟩ => by simp at hp⟩
theorem iscopy_step {L : List FoundP} {i : Nat} {p : FoundP} (hp : L[i]? = some p) {b : BlobV} (h : isCopy (L.take (i + 1)) b) : isCopy (L.take i) b ∨ (p.r.kind = 2 ∧ ofR p.r = b) := by
  obtain ⟨x, hx, h1, h2⟩ := h
  rw [List.take_add_one, hp] at hx
  rcases List.mem_append.1 hx with hx | hx
  · exact .inl ⟨x, hx, h1, h2⟩
  · have : x = p := by simpa using hx
    exact .inr (this ▸ ⟨h1, h2⟩)
theorem BestS.pass {L : List FoundP} {i : Nat} {M es : List CopyE} {p : FoundP} (h : BestS L i M es) (hp : L[i]? = some p) (hk : p.r.kind = 2 → isCopy (L.take i) (ofR p.r)) : BestS L (i + 1) M es :=
  ⟨h.best, h.sorted, fun b hb => by
    rcases iscopy_step hp hb with hb | ⟨h1, h2⟩
    · exact h.met b hb
    · exact h.met b (h2 ▸ hk h1)⟩
theorem met_next {L : List FoundP} {i : Nat} {M es : List CopyE} {p : FoundP} {e : CopyE} (h : BestS L i M es) (hp : L[i]? = some p) (he : e.b = ofR p.r) : ∀ b, isCopy (L.take (i + 1)) b → ∃ x ∈ M ++ [e], x.b = b := fun b hb => by
  rcases iscopy_step hp hb with hb | ⟨_, h2⟩
  · obtain ⟨x, hx, hxb⟩ := h.met b hb
    exact ⟨x, List.mem_append_left _ hx, hxb⟩
  · exact ⟨e, by simp, he.trans h2⟩
theorem BestS.skip {L : List FoundP} {i : Nat} {M es : List CopyE} {p : FoundP} {e : CopyE} (h : BestS L i M es) (hp : L[i]? = some p) (he : e.b = ofR p.r) (hq : ¬ QualV L e.b) : BestS L (i + 1) (M ++ [e]) es :=
  ⟨h.best.skip hq, h.sorted, met_next h hp he⟩
theorem key_uniq {es : List CopyE} (h : es.Pairwise fun a b => a.b.key < b.b.key) {x y : CopyE} (hx : x ∈ es) (hy : y ∈ es) (hk : x.b.key = y.b.key) : x = y := by
  have hn : (es.map fun e => e.b.key).Nodup := List.pairwise_map.2 (h.imp fun {a b} hl (e : a.b.key = b.b.key) => absurd (by rw [e] at hl; exact hl) (List.lt_irrefl b.b.key))
  exact inj_of_nodup hn hx hy hk
theorem BestS.lose {L : List FoundP} {i at_ : Nat} {M es : List CopyE} {p : FoundP} {e e0 : CopyE} (h : BestS L i M es) (hp : L[i]? = some p) (he : e.b = ofR p.r) (h0 : es[at_]? = some e0) (hk : e0.b.key = e.b.key) (hb : betterL L e.b e0.b = false) : BestS L (i + 1) (M ++ [e]) es :=
  ⟨h.best.lose (List.mem_of_getElem? h0) hk hb fun _ hx hxk => key_uniq h.sorted hx (List.mem_of_getElem? h0) (hxk.trans hk.symm), h.sorted, met_next h hp he⟩
theorem mem_set {es : List CopyE} (hs : es.Pairwise fun a b => a.b.key < b.b.key) {at_ : Nat} {e e0 : CopyE} (h0 : es[at_]? = some e0) (hk : e0.b.key = e.b.key) (x : CopyE) :
    x ∈ es.set at_ e ↔ x ∈ (es.filter fun x => !decide (x.b.key = e.b.key)) ++ [e] := by
  have hlt := (List.getElem?_eq_some_iff.1 h0).1
  rw [List.mem_append, List.mem_singleton, List.mem_filter]
  constructor
  · intro hx
    obtain ⟨j, hj⟩ := List.getElem?_of_mem hx
    rw [List.getElem?_set] at hj
    split at hj
    · exact .inr (Option.some.inj hj).symm
    · rename_i hne
      have hxe := List.mem_of_getElem? hj
      refine .inl ⟨hxe, ?_⟩
      simp only [Bool.not_eq_true', decide_eq_false_iff_not]
      intro hxk
      have hx0 := key_uniq hs hxe (List.mem_of_getElem? h0) (hxk.trans hk.symm)
      have hjl := (List.getElem?_eq_some_iff.1 hj).1
      rcases Nat.lt_or_gt_of_ne hne with hl | hl
      · have h2 := List.pairwise_iff_getElem.1 hs at_ j hlt hjl hl
        rw [(List.getElem?_eq_some_iff.1 hj).2, (List.getElem?_eq_some_iff.1 h0).2, hx0] at h2
        exact List.lt_irrefl _ h2
      · have h2 := List.pairwise_iff_getElem.1 hs j at_ hjl hlt hl
        rw [(List.getElem?_eq_some_iff.1 hj).2, (List.getElem?_eq_some_iff.1 h0).2, hx0] at h2
        exact List.lt_irrefl _ h2
  · rintro (⟨hx, hxk⟩ | rfl)
    · obtain ⟨j, hj⟩ := List.getElem?_of_mem hx
      have hne : at_ ≠ j := fun hji => by
        rw [← hji, h0] at hj
        have := Option.some.inj hj
        rw [← this, hk] at hxk
        simp at hxk
      exact List.mem_of_getElem? (i := j) (by rw [List.getElem?_set_ne hne]; exact hj)
    · exact List.mem_of_getElem? (i := at_) (by rw [List.getElem?_set_self hlt])
theorem BestS.win {L : List FoundP} {i at_ : Nat} {M es : List CopyE} {p : FoundP} {e e0 : CopyE} (h : BestS L i M es) (hp : L[i]? = some p) (he : e.b = ofR p.r) (hq : QualV L e.b) (h0 : es[at_]? = some e0) (hk : e0.b.key = e.b.key) (hb : betterL L e.b e0.b = true) : BestS L (i + 1) (M ++ [e]) (es.set at_ e) := by
  refine ⟨(h.best.win hq (List.mem_of_getElem? h0) hk hb).ext (mem_set h.sorted h0 hk), ?_, met_next h hp he⟩
  have hm : (es.set at_ e).map (fun x => x.b.key) = es.map fun x => x.b.key := by
    rw [List.map_set]
    apply List.ext_getElem?
    intro j
    rw [List.getElem?_set]
    split
    · rename_i hj
      subst hj
      rw [List.getElem?_map, h0]
      have hlt := (List.getElem?_eq_some_iff.1 h0).1
      rw [List.length_map, if_pos hlt]
      simp [hk]
    · rfl
  have h1 : (es.map fun x => x.b.key).Pairwise (· < ·) := List.pairwise_map.2 h.sorted
  rw [← hm] at h1
  exact List.pairwise_map.1 h1
theorem BestS.new {L : List FoundP} {i at_ : Nat} {M es : List CopyE} {p : FoundP} {e : CopyE} (h : BestS L i M es) (hp : L[i]? = some p) (he : e.b = ofR p.r) (hq : QualV L e.b) (hlo : ∀ j x, j < at_ → es[j]? = some x → x.b.key < e.b.key) (hhi : ∀ x, es[at_]? = some x → e.b.key < x.b.key) : BestS L (i + 1) (M ++ [e]) (es.take at_ ++ [e] ++ es.drop at_) := by
  have hl : ∀ x ∈ es.take at_, x.b.key < e.b.key := fun x hx => by
    obtain ⟨j, hj⟩ := List.getElem?_of_mem hx
    rw [List.getElem?_take] at hj
    split at hj
    · rename_i hja
      exact hlo j x hja hj
    · cases hj
  have hr : ∀ x ∈ es.drop at_, e.b.key < x.b.key := fun x hx => by
    obtain ⟨j, hj⟩ := List.getElem?_of_mem hx
    rw [List.getElem?_drop] at hj
    cases j with
    | zero => exact hhi x hj
    | succ j =>
      have hla := (List.getElem?_eq_some_iff.1 hj).1
      obtain ⟨y, hy⟩ : ∃ y, es[at_]? = some y := ⟨_, List.getElem?_eq_getElem (by omega)⟩
      have h2 := List.pairwise_iff_getElem.1 h.sorted at_ (at_ + (j + 1)) (by omega) hla (by omega)
      rw [(List.getElem?_eq_some_iff.1 hy).2, (List.getElem?_eq_some_iff.1 hj).2] at h2
      exact List.lt_trans (hhi y hy) h2
  refine ⟨(h.best.new hq fun x hx e' => ?_).ext fun x => ?_, ?_, met_next h hp he⟩
  · have hx2 := hx
    rw [← List.take_append_drop at_ es] at hx2
    rcases List.mem_append.1 hx2 with hx | hx
    · have := hl x hx
      rw [e'] at this
      exact List.lt_irrefl _ this
    · have := hr x hx
      rw [e'] at this
      exact List.lt_irrefl _ this
  · have e2 : x ∈ es ↔ x ∈ es.take at_ ∨ x ∈ es.drop at_ := by rw [← List.mem_append, List.take_append_drop]
    simp only [List.mem_append, List.mem_singleton, e2]
    constructor
    · rintro ((h1 | h1) | h1)
      · exact .inl (.inl h1)
      · exact .inr h1
      · exact .inl (.inr h1)
    · rintro ((h1 | h1) | h1)
      · exact .inl (.inl h1)
      · exact .inr h1
      · exact .inl (.inr h1)
  · rw [List.append_assoc, List.pairwise_append]
    refine ⟨h.sorted.sublist (List.take_sublist _ _), ?_, fun x hx y hy => ?_⟩
    · rw [List.singleton_append, List.pairwise_cons]
      exact ⟨fun y hy => hr y hy, h.sorted.sublist (List.drop_sublist _ _)⟩
    · rcases List.mem_append.1 hy with hy | hy
      · rw [List.mem_singleton] at hy
        subst hy
        exact hl x hx
      · exact List.lt_trans (hl x hx) (hr y hy)
theorem BestS.done {L : List FoundP} {M es : List CopyE} (h : BestS L L.length M es) (hok : ∀ p ∈ L, okF p = true) : BestV L (es.map CopyE.b) :=
  h.best.done hok (fun b hb => h.met b (by rw [List.take_length]; exact hb)) (List.Perm.refl _) h.sorted
theorem told_copy {L : List FoundP} {i : Nat} {p : FoundP} (hok : ∀ p ∈ L, okF p = true) (hp : L[i]? = some p) (hk : p.r.kind = 2) : (L.take i).any (toldB p.r) = true ↔ isCopy (L.take i) (ofR p.r) := by
  have hg : ∀ x ∈ L, x.r.kind = 2 → x.r.groups = groupsV x.r.size := fun x hx hxk => by
    have hs := (good_shard (ok_good (hok x hx)) hxk).1
    simp only [shardV, Bool.and_eq_true, decide_eq_true_eq] at hs
    exact hs.2.1
  rw [List.any_eq_true]
  constructor
  · rintro ⟨x, hx, h⟩
    simp only [toldB, Bool.and_eq_true, decide_eq_true_eq] at h
    obtain ⟨h1, h2, h3, h4, h5⟩ := h
    refine ⟨x, hx, h1, ?_⟩
    unfold ofR
    rw [h2, h3, h4, h5, hg x (List.mem_of_mem_take hx) h1, hg p (List.mem_of_getElem? hp) hk, h3]
  · rintro ⟨x, hx, h1, h2⟩
    refine ⟨x, hx, ?_⟩
    simp only [toldB, Bool.and_eq_true, decide_eq_true_eq]
    exact ⟨h1, congrArg BlobV.gen h2, congrArg BlobV.size h2, congrArg BlobV.key h2, congrArg BlobV.sum h2⟩
theorem dead_any {L : List FoundP} (hok : ∀ p ∈ L, okF p = true) (b : BlobV) : L.any (deadB b.key b.gen) = deadV L b := by
  rw [Bool.eq_iff_iff, dead_iff hok, List.any_eq_true]
  constructor
  · rintro ⟨x, hx, h⟩
    simp only [deadB, Bool.and_eq_true, decide_eq_true_eq] at h
    exact ⟨x, hx, h.1, h.2.1, h.2.2⟩
  · rintro ⟨x, hx, h1, h2, h3⟩
    exact ⟨x, hx, by simp only [deadB, Bool.and_eq_true, decide_eq_true_eq]; exact ⟨h1, h2, h3⟩⟩
theorem most_take {L : List FoundP} {i : Nat} {p : FoundP} (hp : L[i]? = some p) : mostV (L.take (i + 1)) = max (mostV (L.take i)) p.r.gen := by
  rw [List.take_add_one, hp]
  exact most_snoc _ _
/-- A store into a row of one's own. -/
theorem own_store {w : World} {base g cap : Nat} {t : TypeId} {size n : Nat} {xs : List Value} (h : w.ownsRow base t size (.slice (some ⟨g, 0, none⟩) n cap) n xs) (i : Nat) (u : Value) : (w.setCell ⟨g, i, none⟩ u).ownsRow base t size (.slice (some ⟨g, 0, none⟩) n cap) n (xs.set i u) := by
  refine ⟨by rw [List.length_set]; exact h.1, ?_⟩
  rcases h.2 with ⟨h1, _⟩ | ⟨g', cap', cur, hv, h1, h2, h3, h4, h5, h6⟩
  · cases h1
  · injection hv with e1 e2 e3
    injection e1 with e1
    injection e1 with e1
    subst e1 e3
    have hb : Blk (w.setCell ⟨g, i, none⟩ u) g t (cur.setIfInBounds i u) := Blk.store (w := w) (cs := cur) h2 i u
    refine .inr ⟨g, cap, cur.setIfInBounds i u, rfl, h1, hb, h3, h4, by simpa using h5, ?_⟩
    rw [Array.toList_setIfInBounds, List.take_set, h6]
end Go.Proofs.Ythceidacmeadkaa
