/- The notes that a catalog tells make the same catalog of a new one: plain laws. No condition beyond those that each theorem states. -/
import Derived.Test.YtmkccblcmiflfaaKP2
namespace Go.Proofs.Ytmkccblcmiflfaa
open Go.RowKit Go.Maps Go.WideMaps

/-- A catalog by further notes. -/
def runN (D : CV) (l : List NoteV) : CV := l.foldl (fun D v => (applyC D v).2) D
/-- None of them is refused. -/
def Oks : CV → List NoteV → Prop
  | _, [] => True
  | D, v :: l => (applyC D v).1 = 0 ∧ Oks (applyC D v).2 l
structure Way (D : CV) (l : List NoteV) (D' : CV) : Prop where
  ok : Oks D l
  ends : runN D l = D'
theorem runN_append (D : CV) (l m : List NoteV) : runN D (l ++ m) = runN (runN D l) m := List.foldl_append
theorem Oks.append {D : CV} {l m : List NoteV} (h : Oks D l) (h' : Oks (runN D l) m) : Oks D (l ++ m) := by
  induction l generalizing D with
  | nil => exact h'
  | cons v l ih => exact ⟨h.1, ih h.2 h'⟩
theorem Oks.get {D : CV} {l : List NoteV} (h : Oks D l) {i : Nat} {v : NoteV} (hi : l[i]? = some v) : (applyC (runN D (l.take i)) v).1 = 0 := by
  induction l generalizing D i with
  | nil => simp at hi
  | cons x l ih =>
    cases i with
    | zero =>
      obtain rfl : x = v := by simpa using hi
      exact h.1
    | succ i => exact ih h.2 (by simpa using hi)
theorem runN_step {D : CV} {l : List NoteV} {i : Nat} {v : NoteV} (hi : l[i]? = some v) : runN D (l.take (i + 1)) = (applyC (runN D (l.take i)) v).2 := by
  rw [List.take_add_one, hi, Option.toList_some, runN_append]
  rfl
theorem Way.append {D D' D'' : CV} {l m : List NoteV} (h : Way D l D') (h' : Way D' m D'') : Way D (l ++ m) D'' := by
  obtain ⟨h1, rfl⟩ := h
  exact ⟨h1.append h'.ok, by rw [runN_append, h'.ends]⟩
theorem Way.cons {D D' D'' : CV} {v : NoteV} {l : List NoteV} (h : applyC D v = (0, D')) (h' : Way D' l D'') : Way D (v :: l) D'' :=
  ⟨⟨by rw [h], by rw [h]; exact h'.ok⟩, by show runN (applyC D v).2 l = _; rw [h]; exact h'.ends⟩
theorem Way.nil {D D' : CV} (h : D = D') : Way D [] D' := ⟨trivial, h⟩
theorem hasL_fresh {β : Type} {L l : List (Str × β)} {q : Str × β} (h : ((L ++ q :: l).map Prod.fst).Nodup) : hasL L q.1 = false := by
  cases hh : hasL L q.1 with
  | false => rfl
  | true =>
    rw [List.map_append, List.nodup_append] at h
    exact absurd rfl (h.2.2 q.1 (hasL_mem.1 hh) q.1 (by simp))
theorem snoc_eq {α : Type} (L l : List α) (q : α) : L ++ [q] ++ l = L ++ q :: l := by simp
theorem way_put (l : List (Str × Str)) : ∀ D : CV, (∀ q ∈ l, 1 ≤ q.1.length ∧ q.1.length ≤ 16 ∧ q.2.length ≤ 512) → ((D.staged ++ l).map Prod.fst).Nodup → (∀ k, hasL D.entries k = false) → Way D (l.map putN) { D with staged := D.staged ++ l } := by
  induction l with
  | nil => intro D _ _ _; exact Way.nil (by simp)
  | cons q l ih =>
    intro D hk hnd he
    obtain ⟨k1, k2, k3⟩ := hk q (by simp)
    have hn : hasC D q.1 = false := by unfold hasC; rw [he, hasL_fresh hnd]; rfl
    have h1 : applyC D (putN q) = (0, { D with staged := D.staged ++ [q] }) := by
      show putC D (putN q) = _
      unfold putC
      rw [if_neg (by show ¬ (q.1.length < 1 ∨ 16 < q.1.length ∨ 512 < q.2.length); omega), if_neg (by show ¬ hasC D q.1 = true; rw [hn]; simp)]
      rfl
    have h2 := ih { D with staged := D.staged ++ [q] } (fun x hx => hk x (List.mem_cons_of_mem _ hx)) (by show ((D.staged ++ [q] ++ l).map Prod.fst).Nodup; rw [snoc_eq]; exact hnd) he
    have e : ({ D with staged := D.staged ++ [q] ++ l } : CV) = { D with staged := D.staged ++ q :: l } := by rw [snoc_eq]
    exact Way.cons h1 (e ▸ h2)
theorem way_gen (l : List (Str × Int)) : ∀ D : CV, (∀ q ∈ l, q.1 ≠ [] ∧ hasL D.staged q.1 = true ∧ D.gen < q.2 ∧ q.2 ≤ 1099511627776) → l.Pairwise (fun a b => a.2 < b.2) → ((D.begun ++ l).map Prod.fst).Nodup →
    Way D (l.map genN) { D with begun := D.begun ++ l, gen := (l.getLast?.map Prod.snd).getD D.gen } := by
  induction l with
  | nil => intro D _ _ _; exact Way.nil (by simp)
  | cons q l ih =>
    intro D hk hpw hnd
    obtain ⟨k1, k2, k3, k4⟩ := hk q (by simp)
    obtain ⟨p1, p2⟩ := List.pairwise_cons.1 hpw
    have hf := hasL_fresh hnd
    have h1 : applyC D (genN q) = (0, { D with begun := D.begun ++ [q], gen := q.2 }) := by
      show beginC D (genN q) = _
      unfold beginC
      rw [if_neg (by show ¬ laterB D q.2 = false; unfold laterB; simp; omega), if_neg (by show ¬ (q.1 ≠ [] ∧ hasC D q.1 = false); unfold hasC; rw [k2]; simp)]
      show (0, ({ D with gen := q.2, begun := if q.1 = [] then D.begun else putL D.begun q.1 q.2 } : CV)) = _
      rw [if_neg k1]
      unfold putL
      rw [delL_same hf]
    have h2 := ih { D with begun := D.begun ++ [q], gen := q.2 } (fun x hx => ⟨(hk x (List.mem_cons_of_mem _ hx)).1, (hk x (List.mem_cons_of_mem _ hx)).2.1, p1 x hx, (hk x (List.mem_cons_of_mem _ hx)).2.2.2⟩) p2 (by show ((D.begun ++ [q] ++ l).map Prod.fst).Nodup; rw [snoc_eq]; exact hnd)
    have e : ({ D with begun := D.begun ++ [q] ++ l, gen := (l.getLast?.map Prod.snd).getD q.2 } : CV) = { D with begun := D.begun ++ q :: l, gen := ((q :: l).getLast?.map Prod.snd).getD D.gen } := by
      rw [snoc_eq]
      cases l with
      | nil => rfl
      | cons x l => simp [List.getLast?_cons]
    exact Way.cons h1 (e ▸ h2)
theorem way_placed (l : List (Str × EntV)) : ∀ D : CV, (∀ q ∈ l, 1 ≤ q.1.length ∧ q.1.length ≤ 16 ∧ 1 ≤ q.2.gen ∧ q.2.gen ≤ D.gen ∧ 0 ≤ q.2.size ∧ q.2.size ≤ 512 ∧ (q.2.places.length : Int) = groupsI q.2.size * 10 ∧ hasL D.staged q.1 = false) → ((D.entries ++ l).map Prod.fst).Nodup →
    Way D (l.map placedN) { D with entries := D.entries ++ l } := by
  induction l with
  | nil => intro D _ _; exact Way.nil (by simp)
  | cons q l ih =>
    intro D hk hnd
    obtain ⟨k1, k2, k3, k4, k5, k6, k7, k8⟩ := hk q (by simp)
    have h1 : applyC D (placedN q) = (0, { D with entries := D.entries ++ [q] }) := by
      show placedC D (placedN q) = _
      unfold placedC
      rw [if_neg (by show ¬ (q.1.length < 1 ∨ 16 < q.1.length ∨ q.2.gen < 1 ∨ D.gen < q.2.gen ∨ q.2.size < 0 ∨ 512 < q.2.size); omega), if_neg (by show ¬ ((q.2.places.length : Int) ≠ groupsI q.2.size * 10); simpa using k7)]
      show (0, ({ D with staged := delL D.staged q.1, entries := putL D.entries q.1 ⟨q.2.gen, q.2.size, q.2.sum, q.2.places⟩ } : CV)) = _
      unfold putL
      rw [delL_same k8, delL_same (hasL_fresh hnd)]
    have h2 := ih { D with entries := D.entries ++ [q] } (fun x hx => hk x (List.mem_cons_of_mem _ hx)) (by show ((D.entries ++ [q] ++ l).map Prod.fst).Nodup; rw [snoc_eq]; exact hnd)
    have e : ({ D with entries := D.entries ++ [q] ++ l } : CV) = { D with entries := D.entries ++ q :: l } := by rw [snoc_eq]
    exact Way.cons h1 (e ▸ h2)
theorem way_tomb (l : List (Str × Int)) : ∀ D : CV, (∀ q ∈ l, 1 ≤ q.1.length ∧ q.1.length ≤ 16 ∧ 1 ≤ q.2 ∧ q.2 ≤ D.gen) → (D.tombs ++ l).Nodup → Way D (l.map tombN) { D with tombs := D.tombs ++ l } := by
  induction l with
  | nil => intro D _ _; exact Way.nil (by simp)
  | cons q l ih =>
    intro D hk hnd
    obtain ⟨k1, k2, k3, k4⟩ := hk q (by simp)
    have hnm : q ∉ D.tombs := fun hm => by
      rw [List.nodup_append] at hnd
      exact absurd rfl (hnd.2.2 q hm q (by simp))
    have hi : tombI D (tombN q) < 0 := by
      show idxP (isTomb q.1 q.2) D.tombs < 0
      rw [idxP_neg, List.any_eq_false]
      intro x hx hp
      unfold isTomb at hp
      simp only [Bool.and_eq_true, decide_eq_true_eq] at hp
      exact hnm (by rw [show q = x from Prod.ext hp.1.symm hp.2.symm]; exact hx)
    have h1 : applyC D (tombN q) = (0, { D with tombs := D.tombs ++ [q] }) := by
      show tombC D (tombN q) = _
      unfold tombC
      rw [if_pos ⟨rfl, hi, k1, k2, k3, k4⟩]
      rfl
    have h2 := ih { D with tombs := D.tombs ++ [q] } (fun x hx => hk x (List.mem_cons_of_mem _ hx)) (by show (D.tombs ++ [q] ++ l).Nodup; rw [snoc_eq]; exact hnd)
    have e : ({ D with tombs := D.tombs ++ [q] ++ l } : CV) = { D with tombs := D.tombs ++ q :: l } := by rw [snoc_eq]
    exact Way.cons h1 (e ▸ h2)
theorem way_retire (l : List Int) : ∀ D : CV, (∀ n ∈ l, 0 ≤ n ∧ n ≤ 31) → (D.retired ++ l).Nodup → Way D (l.map retireN) { D with retired := D.retired ++ l } := by
  induction l with
  | nil => intro D _ _; exact Way.nil (by simp)
  | cons q l ih =>
    intro D hk hnd
    obtain ⟨k1, k2⟩ := hk q (by simp)
    have hnm : ∀ x ∈ D.retired, x ≠ q := fun x hm e => by
      rw [List.nodup_append] at hnd
      exact absurd e (hnd.2.2 x hm q (by simp))
    have h1 : applyC D (retireN q) = (0, { D with retired := D.retired ++ [q] }) := by
      show retireC D (retireN q) = _
      unfold retireC
      rw [if_neg (by show ¬ (q < 0 ∨ 32 ≤ q); omega)]
      show (0, ({ D with retired := putR D.retired q } : CV)) = _
      unfold putR
      rw [List.filter_eq_self.2 (fun x hx => by simpa using hnm x hx)]
    have h2 := ih { D with retired := D.retired ++ [q] } (fun x hx => hk x (List.mem_cons_of_mem _ hx)) (by show (D.retired ++ [q] ++ l).Nodup; rw [snoc_eq]; exact hnd)
    have e : ({ D with retired := D.retired ++ [q] ++ l } : CV) = { D with retired := D.retired ++ q :: l } := by rw [snoc_eq]
    exact Way.cons h1 (e ▸ h2)
theorem entsC_fst (C : CV) : (entsC C).map Prod.fst = sortS (C.entries.map Prod.fst) := by
  unfold entsC
  rw [List.map_map]
  exact List.map_id _
theorem entsC_mem {C : CV} {q : Str × EntV} (h : q ∈ entsC C) : q ∈ C.entries ∧ q.2 = entC C q.1 := by
  unfold entsC at h
  obtain ⟨k, hk, rfl⟩ := List.mem_map.1 h
  exact ⟨getL_mem zeroV (hasL_mem.2 ((List.mergeSort_perm _ _).mem_iff.1 hk)), rfl⟩
theorem entsC_nd {C : CV} (h : (C.entries.map Prod.fst).Nodup) : ((entsC C).map Prod.fst).Nodup := by
  rw [entsC_fst]
  exact (List.mergeSort_perm _ _).nodup_iff.2 h
theorem entsC_has (C : CV) (k : Str) : hasL (entsC C) k = hasL C.entries k := by
  rw [Bool.eq_iff_iff, hasL_mem, hasL_mem, entsC_fst]
  exact (List.mergeSort_perm _ _).mem_iff
theorem entsC_get {C : CV} (h : (C.entries.map Prod.fst).Nodup) (k : Str) : getL zeroV (entsC C) k = getL zeroV C.entries k := by
  cases hh : hasL C.entries k with
  | false => rw [getL_no zeroV hh, getL_no zeroV (by rw [entsC_has]; exact hh)]
  | true =>
    refine getL_at zeroV (entsC_nd h) ?_
    unfold entsC
    exact List.mem_map.2 ⟨k, (List.mergeSort_perm _ _).mem_iff.2 (hasL_mem.1 hh), rfl⟩
theorem lastG_mem {l : List (Str × Int)} : l = [] ∧ lastG l = 0 ∨ ∃ q ∈ l, lastG l = q.2 := by
  unfold lastG
  cases h : l.getLast? with
  | none => exact .inl ⟨List.getLast?_eq_none_iff.1 h, rfl⟩
  | some q => exact .inr ⟨q, List.mem_of_getLast? h, rfl⟩
theorem notes_way {N : Nat} {C : CV} (hw : CWf N C) (hj : JC C) (ne : (C.entries.map Prod.fst).Nodup) (nb : (C.begun.map Prod.fst).Nodup) (nr : C.retired.Nodup) :
    ∃ D, Way newC (notesC C) D ∧ Eqv C D := by
  have hgm : ∀ q ∈ gensC C, q ∈ C.begun ∧ hasL C.staged q.1 = true := fun q hq => by
    rw [gensC_eq] at hq
    exact List.mem_filter.1 hq
  have h1 : Way newC (C.staged.map putN) ⟨C.staged, [], [], [], [], 0⟩ := way_put C.staged newC hw.keys hw.nds (fun _ => rfl)
  have h2 : Way ⟨C.staged, [], [], [], [], 0⟩ ((gensC C).map genN) ⟨C.staged, [], gensC C, [], [], lastG (gensC C)⟩ := by
    refine way_gen (gensC C) ⟨C.staged, [], [], [], [], 0⟩ (fun q hq => ?_) ?_ ?_
    · obtain ⟨m1, m2⟩ := hgm q hq
      obtain ⟨b1, b2, b3, b4⟩ := hw.begun q m1
      have hg := hw.gen
      exact ⟨fun e => by rw [e] at b1; simp at b1, m2, by show (0 : Int) < q.2; omega, by omega⟩
    · exact hw.gens.sublist List.filter_sublist
    · exact nb.sublist (List.filter_sublist.map _)
  have h3 : Way ⟨C.staged, [], gensC C, [], [], lastG (gensC C)⟩ (if lastG (gensC C) < C.gen then [genN ([], C.gen)] else []) ⟨C.staged, [], gensC C, [], [], C.gen⟩ := by
    have hg := hw.gen
    split
    · rename_i hlt
      refine Way.cons ?_ (Way.nil rfl)
      show beginC _ (genN ([], C.gen)) = _
      unfold beginC
      rw [if_neg (by show ¬ laterB _ C.gen = false; unfold laterB; simp; omega), if_neg (by show ¬ (([] : Str) ≠ [] ∧ _); simp)]
      rfl
    · rename_i hlt
      refine Way.nil ?_
      have : lastG (gensC C) = C.gen := by
        rcases lastG_mem (l := gensC C) with ⟨_, h⟩ | ⟨q, hq, h⟩
        · omega
        · have := (hw.begun q (hgm q hq).1).2.2.2
          omega
      rw [this]
  have h4 : Way ⟨C.staged, [], gensC C, [], [], C.gen⟩ ((entsC C).map placedN) ⟨C.staged, entsC C, gensC C, [], [], C.gen⟩ := by
    refine way_placed (entsC C) ⟨C.staged, [], gensC C, [], [], C.gen⟩ (fun q hq => ?_) (entsC_nd ne)
    obtain ⟨m1, _⟩ := entsC_mem hq
    obtain ⟨b1, b2, b3, b4, b5, b6, b7, _⟩ := hw.ents q m1
    refine ⟨b1, b2, b3, b4, b5, b6, b7, ?_⟩
    show hasL C.staged q.1 = false
    cases hh : hasL C.staged q.1 with
    | false => rfl
    | true =>
      obtain ⟨x, hx, he⟩ := List.mem_map.1 (hasL_mem.1 hh)
      have h0 := hw.apart x hx
      rw [he] at h0
      have h5 : hasL C.entries q.1 = true := hasL_mem.2 (List.mem_map.2 ⟨q, m1, rfl⟩)
      rw [h0] at h5
      cases h5
  have h5 : Way ⟨C.staged, entsC C, gensC C, [], [], C.gen⟩ (C.tombs.map tombN) ⟨C.staged, entsC C, gensC C, C.tombs, [], C.gen⟩ := way_tomb C.tombs ⟨C.staged, entsC C, gensC C, [], [], C.gen⟩ hw.marks hj.tn
  have h6 : Way ⟨C.staged, entsC C, gensC C, C.tombs, [], C.gen⟩ ((sortI C.retired).map retireN) ⟨C.staged, entsC C, gensC C, C.tombs, sortI C.retired, C.gen⟩ :=
    way_retire (sortI C.retired) ⟨C.staged, entsC C, gensC C, C.tombs, [], C.gen⟩ (fun n hn => hw.carts n ((List.mergeSort_perm _ _).mem_iff.1 hn)) ((List.mergeSort_perm _ _).nodup_iff.2 nr)
  refine ⟨_, ((((h1.append h2).append h3).append h4).append h5).append h6, ⟨rfl, entsC_has C, entsC_get ne, ?_, rfl, fun n => (List.mergeSort_perm _ _).mem_iff, rfl⟩⟩
  rw [gensC_eq, gensC_eq, List.filter_filter]
  simp only [Bool.and_self]
end Go.Proofs.Ytmkccblcmiflfaa
