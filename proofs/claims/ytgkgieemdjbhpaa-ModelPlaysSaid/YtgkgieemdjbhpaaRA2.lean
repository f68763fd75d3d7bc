/- What the document's Put does to its model. No condition beyond those that each theorem states. -/
import Derived.Test.YtgkgieemdjbhpaaRA1
import Derived.Deep.RegionHeldLaw
namespace Go.Proofs.Ytgkgieemdjbhpaa
open Go.RowKit Go.Maps

theorem own_form {w : World} {base n c size : Nat} {e : TypeId} {B : Option Addr} {xs : List Value} (h : w.ownsRow base e size (.slice B n c) n xs) : (B = none ∧ n = 0 ∧ c = 0) ∨ ∃ g, B = some ⟨g, 0, none⟩ := by
  rcases h.2 with ⟨e, _⟩ | ⟨g, cap, cur, e, _⟩
  · cases e; exact .inl ⟨rfl, rfl, rfl⟩
  · cases e; exact .inr ⟨g, rfl⟩
theorem own_form_cap {w : World} {base n c size : Nat} {e : TypeId} {B : Option Addr} {xs : List Value} (h : w.ownsRow base e size (.slice B n c) n xs) : n ≤ c := by
  rcases h.2 with ⟨e, _⟩ | ⟨g, cap, cur, e, _, _, h3, _⟩
  · cases e; exact Nat.le_refl _
  · cases e; exact h3
def Rising (R : MV) : Prop := R.Pairwise fun a b => a.1 < b.1
theorem Rising.nodup {R : MV} (h : Rising R) : (R.map Prod.fst).Nodup := by
  rw [List.nodup_iff_pairwise_ne, List.pairwise_map]
  exact h.imp fun {a b} hab e => by rw [e] at hab; exact List.lt_irrefl _ hab
theorem IsAt.above {R : MV} {key : List UInt8} {k : Nat} {has : Bool} (h : IsAt R key k has) (hr : Rising R) {j : Nat} {q : List UInt8 × List UInt8} (hj : k < j) (hq : R[j]? = some q) : key < q.1 := by
  obtain ⟨hjl, rfl⟩ := List.getElem?_eq_some_iff.1 hq
  have hkl : k < R.length := by omega
  have h1 := h.hi _ (List.getElem?_eq_getElem hkl)
  have h2 := (List.pairwise_iff_getElem.1 hr) k j hkl hjl hj
  have h3 : key ≤ R[k].1 := List.not_lt.1 h1
  exact List.lt_of_le_of_lt h3 h2
theorem IsAt.has_eq {R : MV} {key : List UInt8} {k : Nat} {has : Bool} (h : IsAt R key k has) (hr : Rising R) : has = hasM R key := by
  cases hk : R[k]? with
  | none =>
    have h0 := h.has
    rw [hk] at h0
    rw [h0]
    cases hh : hasM R key with
    | false => rfl
    | true =>
      obtain ⟨q, hq, he⟩ := List.mem_map.1 (hasM_mem.1 hh)
      obtain ⟨j, hj⟩ := List.mem_iff_getElem?.1 hq
      have hjl := (List.getElem?_eq_some_iff.1 hj).1
      have hkl : R.length ≤ k := by
        rcases Nat.lt_or_ge k R.length with h | h
        · rw [List.getElem?_eq_getElem h] at hk; cases hk
        · exact h
      have := h.lo j q (by omega) hj
      rw [he] at this
      exact absurd this (List.lt_irrefl _)
  | some p =>
    have h0 := h.has
    rw [hk] at h0
    rw [h0]
    show (p.1 == key) = hasM R key
    by_cases hp : p.1 = key
    · rw [show (p.1 == key) = true by simpa using hp]
      exact (hasM_mem.2 (List.mem_map.2 ⟨p, List.mem_of_getElem? hk, hp⟩)).symm
    · rw [show (p.1 == key) = false by simpa using hp]
      cases hh : hasM R key with
      | false => rfl
      | true =>
        obtain ⟨q, hq, he⟩ := List.mem_map.1 (hasM_mem.1 hh)
        obtain ⟨j, hj⟩ := List.mem_iff_getElem?.1 hq
        rcases Nat.lt_trichotomy j k with hjk | hjk | hjk
        · have := h.lo j q hjk hj
          rw [he] at this
          exact absurd this (List.lt_irrefl _)
        · subst hjk
          rw [hk] at hj
          cases hj
          exact absurd he hp
        · have := h.above hr hjk hj
          rw [he] at this
          exact absurd this (List.lt_irrefl _)
/-- The row with one more. -/
def insM (R : MV) (k : Nat) (key data : List UInt8) : MV := R.take k ++ (key, data) :: R.drop k
theorem insM_perm (R : MV) (k : Nat) (key data : List UInt8) : (insM R k key data).Perm (R ++ [(key, data)]) := by
  unfold insM
  have h1 : (R.take k ++ (key, data) :: R.drop k).Perm ((key, data) :: (R.take k ++ R.drop k)) := List.perm_middle
  rw [List.take_append_drop] at h1
  exact h1.trans (List.perm_append_singleton _ _).symm
theorem insM_rising {R : MV} {key data : List UInt8} {k : Nat} (h : IsAt R key k false) (hr : Rising R) : Rising (insM R k key data) := by
  unfold insM Rising
  have hr' := hr
  rw [← List.take_append_drop k R] at hr'
  rw [Rising, List.pairwise_append] at hr'
  obtain ⟨p1, p2, p3⟩ := hr'
  have hlo : ∀ a ∈ R.take k, a.1 < key := fun a ha => by
    obtain ⟨j, hj⟩ := List.mem_iff_getElem?.1 ha
    have hjk : j < k := by
      have := (List.getElem?_eq_some_iff.1 hj).1
      rw [List.length_take] at this
      omega
    rw [List.getElem?_take_of_lt hjk] at hj
    exact h.lo j a hjk hj
  have hhi : ∀ a ∈ R.drop k, key < a.1 := fun a ha => by
    obtain ⟨j, hj⟩ := List.mem_iff_getElem?.1 ha
    rw [List.getElem?_drop] at hj
    rcases Nat.eq_zero_or_pos j with h0 | h0
    · subst h0
      have h1 := h.hi a hj
      have h2 := h.has
      rw [Nat.add_zero] at hj
      rw [hj] at h2
      have hne : a.1 ≠ key := by
        have h3 : (a.1 == key) = false := h2.symm
        simpa using h3
      rcases List.le_iff_lt_or_eq.1 (List.not_lt.1 h1) with h | h
      · exact h
      · exact absurd h.symm hne
    · exact h.above hr (by omega) hj
  rw [List.pairwise_append, List.pairwise_cons]
  refine ⟨p1, ⟨hhi, p2⟩, fun a ha b hb => ?_⟩
  rcases List.mem_cons.1 hb with rfl | hb
  · exact hlo a ha
  · exact p3 a ha b hb
end Go.Proofs.Ytgkgieemdjbhpaa
