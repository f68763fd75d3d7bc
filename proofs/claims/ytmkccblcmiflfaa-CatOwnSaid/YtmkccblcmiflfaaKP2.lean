/- The notes that a catalog tells make the same catalog: plain laws. No condition beyond those that each theorem states. -/
import Derived.Test.YtmkccblcmiflfaaKC24
import Derived.Test.YtmkccblcmiflfaaKP1
namespace Go.Proofs.Ytmkccblcmiflfaa
open Go.RowKit Go.Maps Go.WideMaps

/-- Two catalogs that nobody can tell apart. -/
structure Eqv (C D : CV) : Prop where
  st : D.staged = C.staged
  has : ∀ k, hasL D.entries k = hasL C.entries k
  get : ∀ k, getL zeroV D.entries k = getL zeroV C.entries k
  bg : gensC D = gensC C
  tb : D.tombs = C.tombs
  rt : ∀ n, n ∈ D.retired ↔ n ∈ C.retired
  gn : D.gen = C.gen
/-- What holds of begun generations and tombs. -/
structure JC (C : CV) : Prop where
  had : ∀ q ∈ C.begun, hasC C q.1 = true
  tn : C.tombs.Nodup
  tg : ∀ q ∈ C.tombs, q.2 ≤ C.gen
theorem JC.new : JC newC := ⟨by simp [newC], by simp [newC], by simp [newC]⟩
theorem delL_mem {β : Type} {L : List (Str × β)} {k : Str} {q : Str × β} : q ∈ delL L k ↔ q ∈ L ∧ q.1 ≠ k := by simp [delL]
theorem putL_mem {β : Type} {L : List (Str × β)} {k : Str} {v : β} {q : Str × β} : q ∈ putL L k v ↔ (q ∈ L ∧ q.1 ≠ k) ∨ q = (k, v) := by
  unfold putL
  rw [List.mem_append, delL_mem, List.mem_singleton]
theorem hasC_put {C : CV} {k k' d : Str} : hasC { C with staged := C.staged ++ [(k', d)] } k = (hasC C k || decide (k' = k)) := by
  unfold hasC
  rw [show hasL (C.staged ++ [(k', d)]) k = (hasL C.staged k || decide (k' = k)) by simp [hasL], Bool.or_assoc]
theorem hasC_placed {C : CV} {k k' : Str} {e : EntV} : hasC { C with staged := delL C.staged k', entries := putL C.entries k' e } k = (hasC C k || decide (k = k')) := by
  unfold hasC
  rw [show hasL (delL C.staged k') k = _ from hasL_del _ _ _, show hasL (putL C.entries k' e) k = _ from hasL_put _ _ _ _]
  cases hasL C.entries k <;> cases hasL C.staged k <;> by_cases h : k = k' <;> simp [h]
theorem JC.step {C : CV} {v : NoteV} (h : JC C) : JC (applyC C v).2 := by
  unfold applyC
  split
  · unfold putC
    split
    · exact h
    · split
      · exact h
      · refine ⟨fun q hq => ?_, h.tn, h.tg⟩
        rw [hasC_put, h.had q hq]
        rfl
  split
  · unfold placedC
    split
    · exact h
    · split
      · exact h
      · refine ⟨fun q hq => ?_, h.tn, h.tg⟩
        rw [hasC_placed, h.had q hq]
        rfl
  split
  · unfold goneC
    split
    · exact h
    · split
      · exact h
      · rename_i hg
        have hl := laterB_lt hg
        refine ⟨fun q hq => ?_, ?_, fun q hq => ?_⟩
        · have hq' := delL_mem.1 (show q ∈ delL C.begun v.key from hq)
          have h1 := h.had q hq'.1
          show (hasL (delL C.entries v.key) q.1 || hasL (delL C.staged v.key) q.1) = true
          rw [hasL_del, hasL_del]
          unfold hasC at h1
          rw [show decide (q.1 = v.key) = false by simpa using hq'.2]
          simpa using h1
        · show (goneL C v).Nodup
          unfold goneL
          split
          · refine List.nodup_append.2 ⟨h.tn, by simp, fun a ha b hb e => ?_⟩
            have hb' : b = (v.key, v.gen) := by simpa using hb
            have := h.tg a ha
            rw [e, hb'] at this
            simp only at this
            omega
          · exact h.tn
        · show q.2 ≤ v.gen
          have hq' : q ∈ goneL C v := hq
          unfold goneL at hq'
          split at hq'
          · rcases List.mem_append.1 hq' with h1 | h1
            · have := h.tg q h1
              omega
            · have e : q = (v.key, v.gen) := by simpa using h1
              rw [e]
              exact Int.le_refl _
          · have := h.tg q hq'
            omega
  split
  · unfold beginC
    split
    · exact h
    · rename_i hg
      have hl := laterB_lt hg
      split
      · exact h
      · rename_i hk
        refine ⟨fun q hq => ?_, h.tn, fun q hq => ?_⟩
        · show hasC C q.1 = true
          have hq' : q ∈ (if v.key = [] then C.begun else putL C.begun v.key v.gen) := hq
          split at hq'
          · exact h.had q hq'
          · rename_i hne
            rcases putL_mem.1 hq' with h1 | h1
            · exact h.had q h1.1
            · rw [h1]
              have : ¬ (v.key ≠ [] ∧ hasC C v.key = false) := hk
              cases hh : hasC C v.key
              · exact absurd ⟨hne, hh⟩ this
              · rfl
        · show q.2 ≤ v.gen
          have := h.tg q hq
          omega
  split
  · unfold retireC
    split
    · exact h
    · exact ⟨h.had, h.tn, h.tg⟩
  split
  · unfold tombC
    split
    · rename_i hc
      refine ⟨h.had, List.nodup_append.2 ⟨h.tn, by simp, fun a ha b hb e => ?_⟩, fun q hq => ?_⟩
      · have hb' : b = (v.key, v.gen) := by simpa using hb
        have h1 := idxP_neg.1 hc.2.1
        rw [List.any_eq_false] at h1
        have h2 := h1 a ha
        rw [e, hb'] at h2
        simp [isTomb] at h2
      · rcases List.mem_append.1 (show q ∈ C.tombs ++ [(v.key, v.gen)] from hq) with h1 | h1
        · exact h.tg q h1
        · have e : q = (v.key, v.gen) := by simpa using h1
          rw [e]
          exact hc.2.2.2.2.2
    · split
      · exact ⟨h.had, h.tn.sublist (List.eraseIdx_sublist ..), fun q hq => h.tg q ((List.eraseIdx_sublist ..).subset hq)⟩
      · exact h
  · exact h
theorem hasC_eqv {C D : CV} (h : Eqv C D) (k : Str) : hasC D k = hasC C k := by unfold hasC; rw [h.has, h.st]
theorem waitsC_congr {C D : CV} (h : D.staged = C.staged) (k : Str) : waitsC D k = waitsC C k := by unfold waitsC; rw [h]
theorem waiting_eq (C : CV) (q : Str × Int) : waiting C q = hasL C.staged q.1 := by
  unfold waiting
  cases h : hasL C.staged q.1
  · have := (waitsC_neg C q.1).2 h
    simpa using this
  · have : ¬ waitsC C q.1 < 0 := fun e => by rw [(waitsC_neg C q.1).1 e] at h; cases h
    simpa using this
theorem gensC_eq (C : CV) : gensC C = C.begun.filter (fun q => hasL C.staged q.1) := by
  unfold gensC
  congr 1
  funext q
  exact waiting_eq C q
theorem gens_put {C : CV} {k d : Str} (h : JC C) (hn : hasC C k = false) : gensC { C with staged := C.staged ++ [(k, d)] } = gensC C := by
  rw [gensC_eq, gensC_eq]
  refine List.filter_congr fun q hq => ?_
  show hasL (C.staged ++ [(k, d)]) q.1 = hasL C.staged q.1
  rw [show hasL (C.staged ++ [(k, d)]) q.1 = (hasL C.staged q.1 || decide (k = q.1)) by simp [hasL]]
  have hne : ¬ k = q.1 := fun e => by
    have := h.had q hq
    rw [← e, hn] at this
    cases this
  simp [hne]
theorem gens_del {C D : CV} {k : Str} (hs : D.staged = delL C.staged k) (hb : D.begun = C.begun ∨ D.begun = delL C.begun k) : gensC D = delL (gensC C) k := by
  rw [gensC_eq, gensC_eq, hs]
  unfold delL
  rw [List.filter_filter]
  have e : ∀ q : Str × Int, hasL (C.staged.filter fun q => !decide (q.1 = k)) q.1 = (!decide (q.1 = k) && hasL C.staged q.1) := fun q => by
    rw [show hasL (C.staged.filter fun q => !decide (q.1 = k)) q.1 = _ from hasL_del C.staged k q.1, Bool.and_comm]
  rcases hb with hb | hb
  · rw [hb]
    exact List.filter_congr fun q _ => e q
  · rw [hb]
    unfold delL
    rw [List.filter_filter]
    refine List.filter_congr fun q _ => ?_
    rw [e]
    cases decide (q.1 = k) <;> simp
theorem gens_has {C : CV} {k : Str} (h : hasL C.staged k = true) : hasL (gensC C) k = hasL C.begun k := by
  rw [gensC_eq, Bool.eq_iff_iff, hasL_mem, hasL_mem]
  simp only [List.mem_map, List.mem_filter]
  constructor
  · rintro ⟨q, ⟨h1, _⟩, h3⟩
    exact ⟨q, h1, h3⟩
  · rintro ⟨q, h1, rfl⟩
    exact ⟨q, ⟨h1, h⟩, rfl⟩
theorem gens_begin {C : CV} {k : Str} {g : Int} : gensC { C with gen := g, begun := putL C.begun k g } = delL (gensC C) k ++ (if hasL C.staged k then [(k, g)] else []) := by
  rw [gensC_eq, gensC_eq]
  show (putL C.begun k g).filter (fun q => hasL C.staged q.1) = _
  unfold putL
  rw [List.filter_append]
  congr 1
  · unfold delL
    rw [List.filter_filter, List.filter_filter]
    exact List.filter_congr fun q _ => Bool.and_comm _ _
  · cases h : hasL C.staged k <;> simp [h]
theorem gone_had {C D : CV} (h : Eqv C D) {k : Str} (hh : hasC C k = true) : (hasL D.entries k || hasL D.begun k) = (hasL C.entries k || hasL C.begun k) := by
  rw [h.has]
  cases he : hasL C.entries k
  · have hs : hasL C.staged k = true := by
      unfold hasC at hh
      rw [he] at hh
      simpa using hh
    have h1 := gens_has (C := C) hs
    have h2 := gens_has (C := D) (by rw [h.st]; exact hs)
    rw [← h1, ← h2, h.bg]
  · rfl
theorem mem_putR {L : List Int} {n x : Int} : x ∈ putR L n ↔ (x ∈ L ∧ x ≠ n) ∨ x = n := by
  unfold putR
  rw [List.mem_append, List.mem_filter, List.mem_singleton]
  simp
theorem laterB_eqv {C D : CV} (h : D.gen = C.gen) (g : Int) : laterB D g = laterB C g := by unfold laterB; rw [h]
theorem apply_eqv {C D : CV} {v : NoteV} (h : Eqv C D) (hc : JC C) (hd : JC D) : (applyC D v).1 = (applyC C v).1 ∧ Eqv (applyC C v).2 (applyC D v).2 := by
  unfold applyC
  split
  · unfold putC
    split
    · exact ⟨rfl, h⟩
    · rw [hasC_eqv h]
      split
      · exact ⟨rfl, h⟩
      · rename_i hn
        have hn' : hasC C v.key = false := by simpa using hn
        exact ⟨rfl, { h with
          st := by show D.staged ++ _ = C.staged ++ _; rw [h.st]
          bg := (gens_put hd ((hasC_eqv h _).trans hn')).trans (h.bg.trans (gens_put hc hn').symm) }⟩
  split
  · unfold placedC
    rw [h.gn]
    split
    · exact ⟨rfl, h⟩
    · split
      · exact ⟨rfl, h⟩
      · exact ⟨rfl, { h with
          st := by show delL D.staged _ = delL C.staged _; rw [h.st]
          has := fun k => by show hasL (putL D.entries _ _) k = hasL (putL C.entries _ _) k; rw [hasL_put, hasL_put, h.has]
          get := fun k => by
            show getL zeroV (putL D.entries _ _) k = getL zeroV (putL C.entries _ _) k
            by_cases e : k = v.key
            · rw [e, getL_put_same, getL_put_same]
            · rw [getL_put_other _ _ _ e, getL_put_other _ _ _ e, h.get]
          bg := (gens_del (C := D) (D := { D with staged := delL D.staged v.key, entries := putL D.entries v.key ⟨v.gen, v.size, v.sum, v.places⟩, gen := C.gen }) (k := v.key) rfl (.inl rfl)).trans ((congrArg (fun l => delL l v.key) h.bg).trans (gens_del (C := C) (D := { C with staged := delL C.staged v.key, entries := putL C.entries v.key ⟨v.gen, v.size, v.sum, v.places⟩ }) (k := v.key) rfl (.inl rfl)).symm)
          gn := rfl }⟩
  split
  · unfold goneC
    rw [hasC_eqv h, laterB_eqv h.gn]
    split
    · exact ⟨rfl, h⟩
    · rename_i hh
      have hh' : hasC C v.key = true := by simpa using hh
      split
      · exact ⟨rfl, h⟩
      · exact ⟨rfl, {
          st := by show delL D.staged _ = delL C.staged _; rw [h.st]
          has := fun k => by show hasL (delL D.entries _) k = hasL (delL C.entries _) k; rw [hasL_del, hasL_del, h.has]
          get := fun k => by
            show getL zeroV (delL D.entries _) k = getL zeroV (delL C.entries _) k
            by_cases e : k = v.key
            · rw [e, getL_no _ (by rw [hasL_del]; simp), getL_no _ (by rw [hasL_del]; simp)]
            · rw [getL_del _ e, getL_del _ e, h.get]
          bg := (gens_del (C := D) (k := v.key) rfl (.inr rfl)).trans ((congrArg (fun l => delL l v.key) h.bg).trans (gens_del (C := C) (k := v.key) rfl (.inr rfl)).symm)
          tb := by show goneL D v = goneL C v; unfold goneL; rw [gone_had h hh', h.tb]
          rt := h.rt
          gn := rfl }⟩
  split
  · unfold beginC
    rw [hasC_eqv h, laterB_eqv h.gn]
    split
    · exact ⟨rfl, h⟩
    · split
      · exact ⟨rfl, h⟩
      · by_cases e : v.key = []
        · simp only [if_pos e]
          exact ⟨trivial, { h with gn := rfl, bg := h.bg }⟩
        · simp only [if_neg e]
          exact ⟨trivial, { h with gn := rfl, bg := by rw [gens_begin (C := D), gens_begin (C := C), h.bg, h.st] }⟩
  split
  · unfold retireC
    split
    · exact ⟨rfl, h⟩
    · exact ⟨rfl, { h with bg := h.bg, rt := fun n => by show n ∈ putR D.retired _ ↔ n ∈ putR C.retired _; rw [mem_putR, mem_putR, h.rt] }⟩
  split
  · unfold tombC tombI
    rw [h.tb, h.gn]
    split
    · exact ⟨rfl, { h with bg := h.bg, tb := rfl, gn := rfl }⟩
    · split
      · exact ⟨rfl, { h with bg := h.bg, tb := rfl, gn := rfl }⟩
      · exact ⟨rfl, h⟩
  · exact ⟨rfl, h⟩
theorem entsC_eqv {C D : CV} (h : Eqv C D) (hc : (C.entries.map Prod.fst).Nodup) (hd : (D.entries.map Prod.fst).Nodup) : entsC D = entsC C := by
  have hs : sortS (D.entries.map Prod.fst) = sortS (C.entries.map Prod.fst) := mergeSort_of_perm ((List.perm_ext_iff_of_nodup hd hc).2 fun k => by rw [← hasL_mem, ← hasL_mem, h.has])
  unfold entsC
  rw [hs]
  exact List.map_congr_left fun k _ => by unfold entC; rw [h.get]
theorem keysC_eqv {C D : CV} (h : Eqv C D) (hc : (C.entries.map Prod.fst).Nodup) (hd : (D.entries.map Prod.fst).Nodup) : keysC D = keysC C := by
  unfold keysC
  rw [h.st]
  exact mergeSort_of_perm (((List.perm_ext_iff_of_nodup hd hc).2 fun k => by rw [← hasL_mem, ← hasL_mem, h.has]).append_left _)
theorem notesC_eqv {C D : CV} (h : Eqv C D) (hc : (C.entries.map Prod.fst).Nodup) (hd : (D.entries.map Prod.fst).Nodup) (rc : C.retired.Nodup) (rd : D.retired.Nodup) : notesC D = notesC C := by
  unfold notesC
  rw [h.st, h.bg, h.gn, h.tb, entsC_eqv h hc hd, show sortI D.retired = sortI C.retired from mergeSort_of_perm_i ((List.perm_ext_iff_of_nodup rd rc).2 h.rt)]
end Go.Proofs.Ytmkccblcmiflfaa
