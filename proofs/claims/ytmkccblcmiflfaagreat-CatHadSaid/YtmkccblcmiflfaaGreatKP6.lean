/- Plain laws of what a catalog has. No condition beyond those that each theorem states. -/
import Derived.Test.YtmkccblcmiflfaaGreatKC31
import Derived.Sort.Walk0
namespace Go.Proofs.YtmkccblcmiflfaaGreat
open Go.RowKit Go.Maps Go.WideMaps Go.Sort

/-- How many bytes wait under a key. -/
def dl (C : CV) (key : Str) : Nat := (getL [] C.staged key).length
def usedC (C : CV) : Nat := ((C.staged.map Prod.fst).map (dl C)).sum
theorem dl_le {N : Nat} {C : CV} (hw : CWf N C) (key : Str) : dl C key ≤ 512 := by
  unfold dl
  cases hh : hasL C.staged key with
  | false => rw [getL_no [] hh]; exact Nat.zero_le _
  | true => exact (hw.keys _ (getL_mem [] hh)).2.2
theorem sum_le {α : Type} (f : α → Nat) (b : Nat) : ∀ l : List α, (∀ x ∈ l, f x ≤ b) → (l.map f).sum ≤ b * l.length
  | [], _ => Nat.zero_le _
  | x :: l, h => by
    have h1 := h x (by simp)
    have h2 := sum_le f b l (fun y hy => h y (List.mem_cons_of_mem _ hy))
    rw [List.map_cons, List.sum_cons, List.length_cons, Nat.mul_succ]
    omega
theorem used_le {N : Nat} {C : CV} (hw : CWf N C) (l : List Str) : (l.map (dl C)).sum ≤ 512 * l.length := sum_le (dl C) 512 l (fun x _ => dl_le hw x)
theorem sum_zero {α : Type} (f : α → Nat) : ∀ l : List α, (∀ x ∈ l, f x = 0) → (l.map f).sum = 0
  | [], _ => rfl
  | x :: l, h => by
    rw [List.map_cons, List.sum_cons, h x (by simp), sum_zero f l (fun y hy => h y (List.mem_cons_of_mem _ hy))]
theorem sum_append {α : Type} (f : α → Nat) (l m : List α) : ((l ++ m).map f).sum = (l.map f).sum + (m.map f).sum := by
  induction l with
  | nil => simp
  | cons x l ih => rw [List.cons_append, List.map_cons, List.sum_cons, ih, List.map_cons, List.sum_cons, Nat.add_assoc]
theorem sum_perm {α : Type} (f : α → Nat) {l m : List α} (h : l.Perm m) : (l.map f).sum = (m.map f).sum := by
  induction h with
  | nil => rfl
  | cons x _ ih => rw [List.map_cons, List.sum_cons, ih, List.map_cons, List.sum_cons]
  | swap x y l => simp only [List.map_cons, List.sum_cons]; omega
  | trans _ _ h1 h2 => exact h1.trans h2
theorem used_keys {N : Nat} {C : CV} (hw : CWf N C) : ((keysC C).map (dl C)).sum = usedC C := by
  unfold keysC usedC sortS
  rw [sum_perm (dl C) (List.mergeSort_perm _ _), sum_append, sum_zero (dl C) (C.entries.map Prod.fst), Nat.add_zero]
  intro key hk
  have h1 : hasL C.entries key = true := hasL_mem.2 hk
  unfold dl
  rw [getL_no [] (by
    cases hs : hasL C.staged key with
    | false => rfl
    | true =>
      obtain ⟨q, hq, he⟩ := List.mem_map.1 (hasL_mem.1 hs)
      have := hw.apart q hq
      rw [he, h1] at this
      cases this)]
  rfl
theorem sum_take {α : Type} (f : α → Nat) {l : List α} {j : Nat} {x : α} (h : l[j]? = some x) : ((l.take (j + 1)).map f).sum = ((l.take j).map f).sum + f x := by
  rw [List.take_add_one, h, Option.toList_some, sum_append]
  simp
/-- What Data tells, by its length. -/
theorem data_len {N : Nat} {C : CV} {key : Str} {w w' : World} {e : Ending} (hw : CWf N C) (h : DataTold C key w w' e) :
    ∃ B, e = .returned (.tuple #[.slice B (dl C key) (dl C key), .bool (hasL C.staged key)]) := by
  rcases h with ⟨h1, rfl⟩ | ⟨d, v, ⟨i, _, hi⟩, _, rfl, ho⟩
  · refine ⟨none, ?_⟩
    unfold dl
    rw [h1, getL_no [] h1]
    rfl
  · have hm := List.mem_of_getElem? hi
    have hs : hasL C.staged key = true := hasL_mem.2 (List.mem_map.2 ⟨_, hm, rfl⟩)
    have hd : getL [] C.staged key = d := getL_at [] hw.nds hm
    unfold dl
    rw [hd, hs]
    rcases ho with ⟨rfl, h0, _⟩ | ⟨g, rfl, _⟩
    · exact ⟨none, by rw [h0]⟩
    · exact ⟨_, rfl⟩
theorem keysC_nd {N : Nat} {C : CV} (hw : CWf N C) (ne : (C.entries.map Prod.fst).Nodup) : (keysC C).Nodup := by
  unfold keysC sortS
  refine (List.mergeSort_perm _ _).nodup_iff.2 (List.nodup_append.2 ⟨hw.nds, ne, fun a ha b hb e => ?_⟩)
  obtain ⟨q, hq, he⟩ := List.mem_map.1 ha
  have h1 := hw.apart q hq
  rw [he, e, hasL_mem.2 hb] at h1
  cases h1
theorem keysC_lt {N : Nat} {C : CV} (hw : CWf N C) (ne : (C.entries.map Prod.fst).Nodup) {j : Nat} {a b : Str} (ha : (keysC C)[j]? = some a) (hb : (keysC C)[j + 1]? = some b) : Op.bytesLess a b = true := by
  have hs : (keysC C).Pairwise (fun a b => leB a b = true) := by
    unfold keysC sortS
    exact List.pairwise_mergeSort (fun a b c h1 h2 => by simp only [leB, decide_eq_true_eq] at *; exact List.le_trans h1 h2) (fun a b => by simp only [leB, Bool.or_eq_true, decide_eq_true_eq]; exact List.le_total a b) _
  obtain ⟨h1, e1⟩ := List.getElem?_eq_some_iff.1 ha
  obtain ⟨h2, e2⟩ := List.getElem?_eq_some_iff.1 hb
  have h3 := (List.pairwise_iff_getElem.1 hs) j (j + 1) h1 h2 (Nat.lt_succ_self j)
  rw [e1, e2] at h3
  have hle : a ≤ b := by simpa [leB] using h3
  have hne : a ≠ b := fun e => by
    have h4 := (List.pairwise_iff_getElem.1 (keysC_nd hw ne)) j (j + 1) h1 h2 (Nat.lt_succ_self j)
    rw [e1, e2] at h4
    exact h4 e
  rw [bytesLess_eq, decide_eq_true_eq]
  exact Decidable.byContradiction fun h => hne (List.le_antisymm hle (List.not_lt.1 h))
theorem key_one {N : Nat} {C : CV} (hw : CWf N C) {key : Str} (hk : key ∈ keysC C) : hasC C key = true ∧ hasL C.staged key = !hasL C.entries key := by
  have hh : hasC C key = true := by
    unfold keysC sortS at hk
    rw [(List.mergeSort_perm _ _).mem_iff, List.mem_append, ← hasL_mem, ← hasL_mem] at hk
    unfold hasC
    rcases hk with h | h <;> rw [h] <;> simp
  refine ⟨hh, ?_⟩
  cases hs : hasL C.staged key with
  | true =>
    obtain ⟨q, hq, he⟩ := List.mem_map.1 (hasL_mem.1 hs)
    have := hw.apart q hq
    rw [he] at this
    rw [this]
    rfl
  | false =>
    unfold hasC at hh
    rw [hs, Bool.or_false] at hh
    rw [hh]
    rfl
end Go.Proofs.YtmkccblcmiflfaaGreat
