/- Lines of steps, one behind the other: plainly. No condition beyond those that each theorem states. -/
import Derived.Test.YtkkmojbaoflafaaDoorY16
import Derived.Test.YtkkmojbaoflafaaDoorY28
namespace Go.Proofs.YtkkmojbaoflafaaDoor
open Go.RowKit Go.Shelf

def textOf (ls : List Str) : Str := ls.flatMap fun l => l ++ [10]
theorem text_snoc (ls : List Str) (l : Str) : textOf (ls ++ [l]) = textOf ls ++ (l ++ [10]) := by simp [textOf]
theorem text_split : ∀ (ls : List Str) (r : Str), (∀ l ∈ ls, (10 : UInt8) ∉ l) → splitT 10 (textOf ls ++ r) = ls ++ splitT 10 r
  | [], r, _ => rfl
  | l :: ls, r, h => by
    have ih := text_split ls r (fun x hx => h x (List.mem_cons_of_mem _ hx))
    have e : textOf (l :: ls) ++ r = l ++ 10 :: (textOf ls ++ r) := by simp [textOf]
    rw [e, splitT_at _ (h l (by simp)), ih]
    rfl
theorem lines_drop {s : Str} {l : List Str} (h : splitT 10 s = l ++ [[]]) : linesT s = l := by
  unfold linesT
  rw [h, if_pos (by simp), List.dropLast_concat]
theorem lines_text (ls : List Str) (h : ∀ l ∈ ls, (10 : UInt8) ∉ l) : linesT (textOf ls) = ls := by
  have e := text_split ls [] h
  rw [List.append_nil] at e
  exact lines_drop e
theorem lines_short (ls : List Str) (l : Str) (h : ∀ x ∈ ls ++ [l], (10 : UInt8) ∉ x) (hl : l ≠ []) : linesT ((textOf (ls ++ [l])).dropLast) = ls ++ [l] := by
  have e : (textOf (ls ++ [l])).dropLast = textOf ls ++ l := by rw [text_snoc, ← List.append_assoc, List.dropLast_concat]
  rw [e]
  have e2 := text_split ls l (fun x hx => h x (List.mem_append_left _ hx))
  rw [splitT_calm (h l (by simp))] at e2
  unfold linesT
  rw [e2, if_neg (by simpa using hl)]
theorem lines_odd (ls : List Str) (odd : Str) (h : ∀ x ∈ ls, (10 : UInt8) ∉ x) (ho : (10 : UInt8) ∉ odd) : linesT (((textOf ls ++ odd) ++ [10]) ++ textOf ls) = ls ++ odd :: ls := by
  refine lines_drop ?_
  have e : ((textOf ls ++ odd) ++ [10]) ++ textOf ls = textOf ls ++ (odd ++ 10 :: (textOf ls ++ [])) := by simp
  rw [e, text_split ls _ h, splitT_at _ ho, text_split ls [] h]
  simp [splitT]
/-- These lines say these steps. -/
def Says (ls : List Str) (L : List StepV) : Prop := ls.map some = L.map lineT ∧ ∀ x ∈ L, Wf64 x.a ∧ Wf64 x.b
theorem Says.snoc {ls : List Str} {L : List StepV} {l : Str} {x : StepV} (h : Says ls L) (hl : lineT x = some l) (ha : Wf64 x.a) (hb : Wf64 x.b) : Says (ls ++ [l]) (L ++ [x]) := by
  refine ⟨by rw [List.map_append, List.map_append, h.1]; simp [hl], fun y hy => ?_⟩
  rcases List.mem_append.1 hy with hy | hy
  · exact h.2 y hy
  · rw [List.mem_singleton] at hy
    subst hy
    exact ⟨ha, hb⟩
theorem Says.len {ls : List Str} {L : List StepV} (h : Says ls L) : ls.length = L.length := by simpa using congrArg List.length h.1
theorem Says.calm {ls : List Str} {L : List StepV} (h : Says ls L) : ∀ l ∈ ls, (10 : UInt8) ∉ l := by
  intro l hl
  have h1 : some l ∈ L.map lineT := by rw [← h.1]; exact List.mem_map_of_mem hl
  obtain ⟨x, _, hx⟩ := List.mem_map.1 h1
  exact line_calm hx
theorem Says.steps {ls : List Str} {L : List StepV} (h : Says ls L) : ls.map stepT = L.map some := by
  apply List.ext_getElem?
  intro i
  have h1 := congrArg (·[i]?) h.1
  simp only [List.getElem?_map] at h1 ⊢
  cases hL : L[i]? with
  | none => rw [hL] at h1; cases hl : ls[i]? with
    | none => rfl
    | some l => rw [hl] at h1; cases h1
  | some x =>
    rw [hL] at h1
    cases hl : ls[i]? with
    | none => rw [hl] at h1; cases h1
    | some l =>
      rw [hl] at h1
      have h2 : some l = lineT x := Option.some.inj h1
      have h3 := h.2 x (List.mem_of_getElem? hL)
      simp only [Option.map_some]
      rw [line_step h2.symm h3.1 h3.2]
theorem line_ne {x : StepV} {l : Str} (h : lineT x = some l) : l ≠ [] := by
  rintro rfl
  unfold lineT at h
  cases hf : formAt x.kind with
  | none => rw [hf] at h; cases h
  | some f =>
    rw [hf] at h
    simp only at h
    have hm : f ∈ formsT := by
      unfold formAt at hf
      split at hf
      · exact List.mem_of_getElem? hf
      · cases hf
    have hw : ∀ f ∈ formsT, f.1 ≠ [] := by decide
    split at h
    · have h2 := Option.some.inj h
      exact hw f hm (List.append_eq_nil_iff.1 h2).1
    · cases h
theorem Says.full {ls : List Str} {L : List StepV} (h : Says ls L) : ∀ l ∈ ls, l ≠ [] := by
  intro l hl
  have h1 : some l ∈ L.map lineT := by rw [← h.1]; exact List.mem_map_of_mem hl
  obtain ⟨x, _, hx⟩ := List.mem_map.1 h1
  exact line_ne hx
theorem many_read {ls : List Str} {L : List StepV} (h : Says ls L) (hn : L.length ≤ 65536) : readT (textOf ls) = .ok L := by
  unfold readT
  rw [lines_text ls h.calm]
  have h1 := read_ok ls L [] [] h.steps (by rw [h.len]; simpa using hn)
  rw [List.append_nil, List.nil_append] at h1
  rw [h1]
  rfl
theorem many_short {ls : List Str} {L : List StepV} (h : Says ls L) (hn : L.length ≤ 65536) (h0 : 0 < L.length) : readT ((textOf ls).dropLast) = .ok L := by
  rcases List.eq_nil_or_concat ls with he | ⟨li, l, he⟩
  · have := h.len
    rw [he] at this
    simp at this
    omega
  · have he2 : ls = li ++ [l] := by rw [he, List.concat_eq_append]
    have hl := h.full l (by rw [he2]; simp)
    unfold readT
    have hc := h.calm
    rw [he2] at hc
    rw [he2, lines_short li l hc hl, ← he2]
    have h1 := read_ok ls L [] [] h.steps (by rw [h.len]; simpa using hn)
    rw [List.append_nil, List.nil_append] at h1
    rw [h1]
    rfl
theorem many_odd {ls : List Str} {L : List StepV} {odd : Str} (h : Says ls L) (hn : L.length < 65536) (ho : (10 : UInt8) ∉ odd) (hs : stepT odd = none) : readT (((textOf ls ++ odd) ++ [10]) ++ textOf ls) = .bad (L.length + 1) := by
  unfold readT
  rw [lines_odd ls odd h.calm ho]
  have h1 := read_ok ls L [] (odd :: ls) h.steps (by rw [h.len]; simp; omega)
  rw [h1, List.nil_append, readFrom, if_neg (by omega), hs]
theorem text_len {ls : List Str} {B : Nat} (h : ∀ l ∈ ls, l.length ≤ B) : (textOf ls).length ≤ ls.length * (B + 1) := by
  induction ls with
  | nil => simp [textOf]
  | cons l ls ih =>
    have h1 := ih (fun x hx => h x (List.mem_cons_of_mem _ hx))
    have h2 := h l (by simp)
    have e : textOf (l :: ls) = (l ++ [10]) ++ textOf ls := by simp [textOf]
    have h3 : (l :: ls).length * (B + 1) = ls.length * (B + 1) + (B + 1) := by rw [List.length_cons, Nat.add_mul, Nat.one_mul]
    rw [e, h3, List.length_append, List.length_append, List.length_singleton]
    omega
end Go.Proofs.YtkkmojbaoflafaaDoor
