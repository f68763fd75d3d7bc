/- Plain laws of a deleted key. No condition beyond those that each theorem states. -/
import Derived.Test.YtmkccblcmiflfaaKP3
namespace Go.Proofs.Ytmkccblcmiflfaa
open Go.RowKit Go.Maps Go.WideMaps

theorem key_had {C : CV} {key : Str} : key ∈ keysC C ↔ hasC C key = true := by
  unfold keysC hasC sortS
  rw [(List.mergeSort_perm _ _).mem_iff, List.mem_append, ← hasL_mem, ← hasL_mem, Bool.or_eq_true]
  exact or_comm
theorem keysC_len (C : CV) : (keysC C).length = C.staged.length + C.entries.length := by
  unfold keysC
  rw [sortS_len, List.length_append, List.length_map, List.length_map]
theorem delL_len {β : Type} {L : List (Str × β)} {k : Str} (hn : (L.map Prod.fst).Nodup) (h : hasL L k = true) : (delL L k).length + 1 = L.length := by
  induction L with
  | nil => cases h
  | cons x L ih =>
    rw [List.map_cons, List.nodup_cons] at hn
    by_cases e : x.1 = k
    · have hno : hasL L k = false := by
        cases hh : hasL L k with
        | false => rfl
        | true => exact absurd (e ▸ hasL_mem.1 hh) hn.1
      have h1 : delL (x :: L) k = delL L k := by simp [delL, e]
      rw [h1, delL_same hno]
      rfl
    · have h1 : delL (x :: L) k = x :: delL L k := by simp [delL, e]
      have h2 : hasL L k = true := by
        have := h
        simp only [hasL, List.any_cons, e, decide_false, Bool.false_or] at this
        exact this
      rw [h1, List.length_cons, ih hn.2 h2, List.length_cons]
/-- Begun again. -/
def begV (C : CV) (key : Str) : CV := { C with gen := C.gen + 1, begun := putL C.begun key (C.gen + 1) }
def begN (C : CV) (key : Str) : NoteV := ⟨4, key, C.gen + 1, 0, [], [], 0, []⟩
def goneN (C : CV) (key : Str) : NoteV := ⟨3, key, C.gen + 1, 0, [], [], 0, []⟩
def againN (key l : Str) : NoteV := ⟨1, key, 0, 0, l, [], 0, []⟩
theorem beg_ok {C : CV} {key : Str} (h0 : 0 ≤ C.gen) (h1 : C.gen < 1099511627776) (hk : key ≠ []) (hh : hasC C key = true) : applyC C (begN C key) = (0, begV C key) := by
  show beginC C (begN C key) = _
  unfold beginC
  rw [if_neg (by show ¬ laterB C (C.gen + 1) = false; unfold laterB; simp; omega), if_neg (by show ¬ (key ≠ [] ∧ hasC C key = false); rw [hh]; simp)]
  show (0, ({ C with gen := C.gen + 1, begun := if key = [] then C.begun else putL C.begun key (C.gen + 1) } : CV)) = _
  rw [if_neg hk]
  rfl
theorem gone_ok {C : CV} {key : Str} (h1 : C.gen < 1099511627776) (hh : hasC C key = true) : applyC C (goneN C key) = (0, goneV C (goneN C key)) := by
  show goneC C (goneN C key) = _
  unfold goneC
  rw [if_neg (by show ¬ hasC C key = false; rw [hh]; simp), if_neg (by show ¬ laterB C (C.gen + 1) = false; unfold laterB; simp; omega)]
theorem gone_not (C : CV) (key : Str) : hasC (goneV C (goneN C key)) key = false := by
  show (hasL (delL C.entries key) key || hasL (delL C.staged key) key) = false
  rw [hasL_del, hasL_del]
  simp
theorem gone_len {N : Nat} {C : CV} {key : Str} (hw : CWf N C) (ne : (C.entries.map Prod.fst).Nodup) (hh : hasC C key = true) : (keysC (goneV C (goneN C key))).length + 1 = (keysC C).length := by
  rw [keysC_len, keysC_len]
  show (delL C.staged key).length + (delL C.entries key).length + 1 = _
  cases hs : hasL C.staged key with
  | true =>
    obtain ⟨q, hq, hk⟩ := List.mem_map.1 (hasL_mem.1 hs)
    have he := hw.apart q hq
    rw [hk] at he
    have := delL_len hw.nds hs
    rw [delL_same he]
    omega
  | false =>
    have he : hasL C.entries key = true := by
      unfold hasC at hh
      rw [hs] at hh
      simpa using hh
    have := delL_len ne he
    rw [delL_same hs]
    omega
theorem again_ok {C : CV} {key l : Str} (h1 : 1 ≤ key.length ∧ key.length ≤ 16) (hl : l.length ≤ 512) (hh : hasC C key = false) : applyC C (againN key l) = (0, { C with staged := C.staged ++ [(key, l)] }) := by
  show putC C (againN key l) = _
  unfold putC
  rw [if_neg (by show ¬ (key.length < 1 ∨ 16 < key.length ∨ 512 < l.length); omega), if_neg (by show ¬ hasC C key = true; rw [hh]; simp)]
  rfl
theorem again_data {C : CV} {key l d : Str} {i : Nat} (hh : hasC C key = false) (hi : (C.staged ++ [(key, l)])[i]? = some (key, d)) : d = l := by
  have hs : hasL C.staged key = false := by
    unfold hasC at hh
    rw [Bool.or_eq_false_iff] at hh
    exact hh.2
  rcases List.mem_append.1 (List.mem_of_getElem? hi) with h | h
  · rw [hasL_mem.2 (List.mem_map.2 ⟨_, h, rfl⟩)] at hs
    cases hs
  · have e : (key, d) = (key, l) := by simpa using h
    injection e
/-- What the law reads of the notes: is a key begun? -/
def begunNote (key : Str) (v : NoteV) : Bool := decide (v.kind = 4) && decide (v.key = key)
theorem begun_notes {C : CV} {key : Str} (hk : key ≠ []) : (notesC C).any (begunNote key) = hasL (gensC C) key := by
  have h0 : ∀ {α : Type} (l : List α) (f : α → NoteV), (∀ x, (f x).kind ≠ 4) → (l.map f).any (begunNote key) = false := fun l f hf => by
    rw [List.any_map, List.any_eq_false]
    intro x _
    simp [begunNote, hf x]
  have h1 : ((gensC C).map genN).any (begunNote key) = hasL (gensC C) key := by
    rw [List.any_map]
    unfold hasL
    congr 1
  have h2 : (if lastG (gensC C) < C.gen then [genN ([], C.gen)] else []).any (begunNote key) = false := by
    split
    · have : ¬ ([] : Str) = key := fun e => hk e.symm
      simp [begunNote, genN, this]
    · rfl
  unfold notesC
  simp only [List.any_append]
  rw [h0 C.staged putN (fun _ => by show (1 : Int) ≠ 4; decide), h1, h2, h0 (entsC C) placedN (fun _ => by show (2 : Int) ≠ 4; decide), h0 C.tombs tombN (fun _ => by show (6 : Int) ≠ 4; decide), h0 (sortI C.retired) retireN (fun _ => by show (5 : Int) ≠ 4; decide)]
  simp
theorem was_eq {C : CV} {key : Str} (hk : key ≠ []) (hh : hasC C key = true) : (hasL C.entries key || (notesC C).any (begunNote key)) = (hasL C.entries key || hasL C.begun key) := by
  rw [begun_notes hk]
  cases he : hasL C.entries key with
  | true => rfl
  | false =>
    have hs : hasL C.staged key = true := by
      unfold hasC at hh
      rw [he] at hh
      simpa using hh
    rw [gens_has hs]
theorem beg_has (C : CV) (key : Str) : (hasL (begV C key).entries key || hasL (begV C key).begun key) = true := by
  show (hasL C.entries key || hasL (putL C.begun key (C.gen + 1)) key) = true
  rw [hasL_put]
  simp
theorem gone_tombs (C : CV) (key : Str) : (goneV C (goneN C key)).tombs = if (hasL C.entries key || hasL C.begun key) = true then C.tombs ++ [(key, C.gen + 1)] else C.tombs := rfl
end Go.Proofs.Ytmkccblcmiflfaa
