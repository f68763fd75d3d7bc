/- One cartridge more that is left out. No condition beyond those that each theorem states. -/
import Derived.Test.YtjeccacacecdfaaPL5
namespace Go.Proofs.Ytjeccacacecdfaa
open Go.RowKit Go.Shelf Go.Maps

def notC (c : Int) (p : Int × Int) : Bool := !(p.1 == c)
theorem inL_snoc (l : List Int) (c x : Int) : inL (l ++ [c]) x = (inL l x || x == c) := by
  unfold inL
  by_cases h1 : x ∈ l <;> by_cases h2 : x = c <;> simp [h1, h2]
theorem hasE_filter (E : List (Int × Int)) {c x : Int} (h : x ≠ c) : hasE (E.filter (notC c)) x = hasE E x := by
  induction E with
  | nil => rfl
  | cons p E ih =>
    rw [List.filter_cons]
    unfold hasE at ih ⊢
    by_cases hp : p.1 = c
    · rw [if_neg (by simp [notC, hp]), ih, List.any_cons, show (p.1 == x) = false by rw [hp]; simpa using fun e => h e.symm, Bool.false_or]
    · rw [if_pos (by simp [notC, hp]), List.any_cons, List.any_cons, ih]
theorem valE_filter (E : List (Int × Int)) {c x : Int} (h : x ≠ c) : valE (E.filter (notC c)) x = valE E x := by
  induction E with
  | nil => rfl
  | cons p E ih =>
    rw [List.filter_cons]
    unfold valE at ih ⊢
    by_cases hp : p.1 = c
    · rw [if_neg (by simp [notC, hp]), ih, List.find?_cons_of_neg (by rw [hp]; simpa using fun e => h e.symm)]
    · rw [if_pos (by simp [notC, hp])]
      by_cases hx : p.1 = x
      · rw [List.find?_cons_of_pos (by simpa using hx), List.find?_cons_of_pos (by simpa using hx)]
      · rw [List.find?_cons_of_neg (by simpa using hx), List.find?_cons_of_neg (by simpa using hx), ih]
theorem metK_more (fs : List (Int × Int)) (but : List Int) (c : Int) : ∀ k, metK fs (but ++ [c]) k = (metK fs but k).filter (notC c) := by
  intro k
  induction k with
  | zero => rfl
  | succ k ih =>
    unfold metK
    split
    · exact ih
    · rename_i f hf
      rw [ih]
      unfold metS
      rw [inL_snoc]
      by_cases hc : f.1 = c
      · rw [if_neg (by simp [hc])]
        split
        · rw [List.filter_append, List.filter_cons, if_neg (by simp [notC, hc])]
          simp
        · rfl
      · rw [hasE_filter _ hc, show (f.1 == c) = false by simpa using hc, Bool.or_false]
        split
        · rw [List.filter_append, List.filter_cons, if_pos (by simp [notC, hc])]
          simp
        · rfl
theorem Ranked.without {E : List (Int × Int)} {S : List Int} (h : Ranked E S) (c : Int) : Ranked (E.filter (notC c)) (S.filter fun x => !(x == c)) := by
  refine ⟨?_, ?_⟩
  · have h1 := h.perm.filter fun x => !(x == c)
    rw [List.filter_map] at h1
    exact h1
  · have h1 := h.sorted.filter (fun x => !(x == c))
    refine h1.imp_of_mem fun {x y} hx hy hl => ?_
    have hx := (List.mem_filter.1 hx).2
    have hy := (List.mem_filter.1 hy).2
    unfold ltE at hl ⊢
    rw [valE_filter E (show x ≠ c by simpa using hx), valE_filter E (show y ≠ c by simpa using hy)]
    exact hl
theorem take_without {S : List Int} {k : Nat} {c : Int} (hn : S.Nodup) (hc : S[k]? = some c) : (S.filter fun x => !(x == c)).take k = S.take k ∧ k ≤ (S.filter fun x => !(x == c)).length := by
  obtain ⟨hk, hkc⟩ := List.getElem?_eq_some_iff.1 hc
  have e : S = S.take k ++ S.drop k := (List.take_append_drop k S).symm
  have h1 : (S.take k).filter (fun x => !(x == c)) = S.take k := by
    rw [List.filter_eq_self]
    intro x hx
    obtain ⟨j, hj, hje⟩ := List.mem_iff_getElem.1 hx
    rw [List.length_take] at hj
    rw [List.getElem_take] at hje
    rw [List.nodup_iff_pairwise_ne, List.pairwise_iff_getElem] at hn
    have := hn j k (by omega) hk (by omega)
    simpa [← hje, ← hkc] using this
  have h2 : S.filter (fun x => !(x == c)) = S.take k ++ (S.drop k).filter (fun x => !(x == c)) := by
    conv => lhs; rw [e]
    rw [List.filter_append, h1]
  have hl : (S.take k).length = k := by rw [List.length_take]; omega
  rw [h2]
  refine ⟨by rw [List.take_append_of_le_length (by omega), List.take_of_length_le (by omega)], by rw [List.length_append]; omega⟩
theorem metK_apart (fs : List (Int × Int)) (but : List Int) : ∀ k, ((metK fs but k).map Prod.fst).Nodup := by
  intro k
  induction k with
  | zero => simp [metK]
  | succ k ih =>
    unfold metK
    split
    · exact ih
    · rename_i f hf
      unfold metS
      split
      · rename_i hc
        rw [List.map_append, List.nodup_append]
        refine ⟨ih, by simp, fun a ha b hb => ?_⟩
        have hb : b = f.1 := by simpa using hb
        subst hb
        intro e
        subst e
        rw [hasE_mem.2 ha] at hc
        simp at hc
      · exact ih
/-- The choice of k, when the next one is left out. -/
theorem more_law {fs : List (Int × Int)} {but : List Int} {S T : List Int} {k : Nat} {c : Int} (h : Ranked (metM fs but) S) (hc : S[k]? = some c) (hT : Ranked (metM fs (but ++ [c])) T) : T.take k = S.take k ∧ k ≤ T.length := by
  have hn : S.Nodup := (h.perm.nodup_iff).2 (metK_apart _ _ _)
  have e : metM fs (but ++ [c]) = (metM fs but).filter (notC c) := metK_more fs but c _
  rw [e] at hT
  obtain rfl := hT.one (h.without c)
  exact take_without hn hc
end Go.Proofs.Ytjeccacacecdfaa
