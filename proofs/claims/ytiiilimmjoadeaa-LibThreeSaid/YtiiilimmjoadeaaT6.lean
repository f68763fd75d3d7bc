/- Plain laws of a library: at most two moves lead to a place. No condition beyond those that each theorem states. -/
import Derived.Test.YtiiilimmjoadeaaT4
namespace Go.Proofs.Ytiiilimmjoadeaa
open Go.RowKit

theorem freeK_some {ds : List DV} : ∀ {k i : Nat} {d : DV}, i < k → ds[i]? = some d → d.broken = false → freeK ds k ≠ none := by
  intro k
  induction k with
  | zero => intro i d h; omega
  | succ k ih =>
    intro i d hi hd hb
    unfold freeK
    by_cases hik : i = k
    · subst hik
      rw [hd]
      simp only [hb]
      cases hf : freeK ds i with
      | none => simp
      | some b =>
        simp only
        cases ds[b]? with
        | none => simp
        | some e =>
          simp only
          (repeat' split) <;> simp_all
    · have h := ih (by omega) hd hb
      cases hk : ds[k]? with
      | none => exact h
      | some e =>
        simp only
        split
        · exact h
        · cases hf : freeK ds k with
          | none => exact absurd hf h
          | some b =>
            simp only
            cases ds[b]? with
            | none => simp
            | some e' =>
              simp only
              split <;> simp
theorem works_free {L : LV} (h : workM L ≠ 0) : ∃ k, freeI L.drives = some k := by
  unfold workM at h
  obtain ⟨d, hd⟩ : ∃ d, d ∈ L.drives.filter fun d => !d.broken := by
    rcases hx : L.drives.filter fun d => !d.broken with _ | ⟨d, t⟩
    · rw [hx] at h; simp at h
    · exact ⟨d, by rw [hx]; simp⟩
  obtain ⟨hm, hb⟩ := List.mem_filter.1 hd
  obtain ⟨i, hi⟩ := List.mem_iff_getElem?.1 hm
  rcases hf : freeI L.drives with _ | k
  · exact absurd hf (freeK_some (List.getElem?_eq_some_iff.1 hi).1 hi (by simpa using hb))
  · exact ⟨k, rfl⟩

/-- A drive has the cartridge; it stands there. -/
def Near1 (L : LV) (c : Nat) : Prop := ∃ k, withI L.drives c = some k
def Near0 (L : LV) (c : Nat) (p : Int) : Prop := ∃ k d, withI L.drives c = some k ∧ L.drives[k]? = some d ∧ d.pos = p
theorem Near0.near1 {L : LV} {c : Nat} {p : Int} (h : Near0 L c p) : Near1 L c := by
  obtain ⟨k, d, h, _⟩ := h
  exact ⟨k, h⟩

theorem withI_first {ds : List DV} {n : Int} {k : Nat} (h : withI ds n = some k) : ∀ (j : Nat) (d : DV), j < k → ds[j]? = some d → hasD n d = false := by
  intro j d hj hd
  unfold withI at h
  obtain ⟨hk, hp, h3⟩ := List.findIdx?_eq_some_iff_getElem.1 h
  have := h3 j hj
  obtain ⟨hj2, rfl⟩ := List.getElem?_eq_some_iff.1 hd
  simpa using this
/-- A drive that keeps its cartridge is found again. -/
theorem withI_keep {ds : List DV} {n : Int} {k : Nat} {d d' : DV} (h : withI ds n = some k) (hd : ds[k]? = some d) (hc : d'.cart = d.cart) (hb : d'.broken = d.broken) : withI (ds.set k d') n = some k := by
  have hk : k < ds.length := (List.getElem?_eq_some_iff.1 hd).1
  obtain ⟨d2, h2, h3, h4, _⟩ := withI_get h
  rw [hd] at h2
  cases h2
  refine withI_some (d := d') (by simp [hk]) (by simp [hasD, hb, hc, h3, h4]) (fun j e hj he => ?_)
  rw [List.getElem?_set_ne (by omega)] at he
  exact withI_first h j e hj he
theorem withI_put {ds : List DV} {n : Int} {k : Nat} {d' : DV} (h : withI ds n = none) (hk : k < ds.length) (hc : d'.cart = n) (hb : d'.broken = false) : withI (ds.set k d') n = some k := by
  refine withI_some (d := d') (by simp [hk]) (by simp [hasD, hb, hc]) (fun j e hj he => ?_)
  rw [List.getElem?_set_ne (by omega)] at he
  unfold withI at h
  exact by simpa using (List.findIdx?_eq_none_iff.1 h) e (List.mem_of_getElem? he)

section
variable {L : LV} {c : Nat} {p : Int} (hc : c < L.carts.length) (hp : 0 ≤ p ∧ p ≤ 1024)
include hc hp
theorem go_near1 (h : Near1 L c) : ∃ b L', goM L c p = (b, 0, L') ∧ Near0 L' c p ∧ L'.carts = L.carts ∧ (Near0 L c p → b = true) := by
  obtain ⟨k, hk⟩ := h
  obtain ⟨d, hd, hb, hcd, hkl⟩ := withI_get hk
  refine ⟨decide (d.pos = p), ⟨L.carts, L.drives.set k ⟨d.cart, p, L.now + 1, d.broken⟩, L.now + 1⟩, ?_, ⟨k, ⟨d.cart, p, L.now + 1, d.broken⟩, withI_keep hk hd rfl rfl, by simp [hkl], rfl⟩, rfl, ?_⟩
  · unfold goM
    rw [if_pos ⟨isC_iff.2 (by omega), hp.1, hp.2⟩, hk]
    simp only [hd]
  · rintro ⟨k2, d2, h1, h2, h3⟩
    rw [hk] at h1
    cases h1
    rw [hd] at h2
    cases h2
    simpa using h3
theorem go_any (hw : workM L ≠ 0) : ∃ b L', goM L c p = (b, 0, L') ∧ Near1 L' c ∧ L'.carts = L.carts ∧ (b = true → Near0 L' c p) := by
  rcases h : withI L.drives c with _ | k
  · obtain ⟨k, hf⟩ := works_free hw
    have hkl : k < L.drives.length := (freeK_lt hf).1
    refine ⟨false, ⟨L.carts, L.drives.set k ⟨c, 0, L.now + 1, false⟩, L.now + 1⟩, ?_, ⟨k, withI_put h hkl rfl rfl⟩, rfl, fun h => by cases h⟩
    unfold goM
    rw [if_pos ⟨isC_iff.2 (by omega), hp.1, hp.2⟩, h, hf]
  · obtain ⟨b, L', h1, h2, h3, _⟩ := go_near1 hc hp ⟨k, h⟩
    exact ⟨b, L', h1, h2.near1, h3, fun _ => h2⟩
omit hp in
/-- Where it stands it is read; and then it stands behind. -/
theorem read_near0 {C : CV} (hC : L.carts[c]? = some C) (h : Near0 L c p) : ∃ L', lreadM L c p = (readM C.M C.lost p, L') ∧ lreadM L' c p = (([], 8), L') := by
  obtain ⟨k, d, hk, hd, hdp⟩ := h
  obtain ⟨d2, hd2, hb, hcd, hkl⟩ := withI_get hk
  rw [hd] at hd2
  cases hd2
  have h2 : withI (L.drives.set k ⟨d.cart, d.pos + 1, d.last, d.broken⟩) c = some k := withI_keep hk hd rfl rfl
  refine ⟨⟨L.carts, L.drives.set k ⟨d.cart, d.pos + 1, d.last, d.broken⟩, L.now⟩, ?_, ?_⟩
  · unfold lreadM
    rw [if_pos (isC_iff.2 (by omega)), hk]
    simp only [hd, Int.toNat_natCast, hC]
    rw [if_pos hdp]
  · unfold lreadM
    rw [if_pos (isC_iff.2 (by simp only; omega))]
    simp only [h2]
    have h3 : (L.drives.set k ⟨d.cart, d.pos + 1, d.last, d.broken⟩)[k]? = some ⟨d.cart, d.pos + 1, d.last, d.broken⟩ := by simp [hkl]
    simp only [h3, Int.toNat_natCast, hC]
    rw [if_neg (by omega)]
end
end Go.Proofs.Ytiiilimmjoadeaa
