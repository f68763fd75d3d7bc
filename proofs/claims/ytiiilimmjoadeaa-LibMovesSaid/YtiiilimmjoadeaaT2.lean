/- Plain laws of a library: what every act keeps. No condition beyond those that each theorem states. -/
import Derived.Test.YtiiilimmjoadeaaT1
namespace Go.Proofs.Ytiiilimmjoadeaa
open Go.RowKit

/-- A cartridge is in one drive at most, broken drives have none, and where they stand. -/
structure Good (k : Nat) (L : LV) : Prop where
  now : 0 ≤ L.now ∧ L.now ≤ k
  d : ∀ (i : Nat) (d : DV), L.drives[i]? = some d → -1 ≤ d.cart ∧ d.cart < L.carts.length ∧ 0 ≤ d.pos ∧ d.pos ≤ 1024 + k ∧ (d.cart = -1 → d.pos = 0) ∧ (d.broken = true → d.cart = -1)
  one : ∀ (i j : Nat) (d e : DV), i ≠ j → L.drives[i]? = some d → L.drives[j]? = some e → d.cart = e.cart → d.cart = -1

theorem set_cases {α : Type} {xs : List α} {k i : Nat} {x y : α} (h : (xs.set k x)[i]? = some y) : (i = k ∧ y = x) ∨ (i ≠ k ∧ xs[i]? = some y) := by
  by_cases hik : k = i
  · subst hik
    have hl : k < xs.length := by have := (List.getElem?_eq_some_iff.1 h).1; simpa using this
    rw [List.getElem?_set_self hl] at h
    exact .inl ⟨rfl, (Option.some.inj h).symm⟩
  · rw [List.getElem?_set_ne hik] at h
    exact .inr ⟨fun e => hik e.symm, h⟩
theorem Good.mono {k k' : Nat} {L : LV} (h : Good k L) (hk : k ≤ k') : Good k' L :=
  ⟨⟨h.now.1, by have := h.now.2; omega⟩, fun i d hd => by obtain ⟨a, b, c, e, f⟩ := h.d i d hd; exact ⟨a, b, c, by omega, f⟩, h.one⟩
/-- The cartridges may be others, as long as there are no fewer. -/
theorem Good.carts {k : Nat} {L : LV} {cs : List CV} (h : Good k L) (hl : L.carts.length ≤ cs.length) : Good k ⟨cs, L.drives, L.now⟩ :=
  ⟨h.now, fun i d hd => by obtain ⟨a, b, c⟩ := h.d i d hd; exact ⟨a, by show d.cart < cs.length; omega, c⟩, h.one⟩
theorem Good.put {k j : Nat} {L : LV} {d0 d' : DV} {now : Int} (h : Good k L) (hd : L.drives[j]? = some d0) (hn : 0 ≤ now ∧ now ≤ k + 1)
    (h' : -1 ≤ d'.cart ∧ d'.cart < L.carts.length ∧ 0 ≤ d'.pos ∧ d'.pos ≤ 1024 + (k + 1) ∧ (d'.cart = -1 → d'.pos = 0) ∧ (d'.broken = true → d'.cart = -1))
    (hc : d'.cart = d0.cart ∨ d'.cart = -1 ∨ ∀ (i : Nat) (e : DV), i ≠ j → L.drives[i]? = some e → e.cart ≠ d'.cart) : Good (k + 1) ⟨L.carts, L.drives.set j d', now⟩ := by
  refine ⟨by simpa using hn, fun i d hi => ?_, fun i1 i2 d e hne h1 h2 he => ?_⟩
  · rcases set_cases hi with ⟨_, rfl⟩ | ⟨_, hi⟩
    · simpa using h'
    · obtain ⟨a, b, c, q, f⟩ := h.d i d hi
      exact ⟨a, b, c, by simp; omega, f⟩
  · rcases set_cases h1 with ⟨rfl, rfl⟩ | ⟨n1, g1⟩
    · rcases set_cases h2 with ⟨rfl, rfl⟩ | ⟨n2, g2⟩
      · exact absurd rfl hne
      · rcases hc with hc | hc | hc
        · rw [hc]; exact h.one i1 i2 d0 e hne hd g2 (by omega)
        · exact hc
        · exact absurd he.symm (hc i2 e n2 g2)
    · rcases set_cases h2 with ⟨rfl, rfl⟩ | ⟨n2, g2⟩
      · rcases hc with hc | hc | hc
        · exact h.one i1 i2 d d0 hne g1 hd (by omega)
        · omega
        · exact absurd he (hc i1 d n1 g1)
      · exact h.one i1 i2 d e hne g1 g2 he

theorem good_break {k : Nat} {L : LV} (h : Good k L) (n : Int) : Good (k + 1) (breakM L n).2 := by
  unfold breakM
  split
  · split
    · exact h.mono (by omega)
    · rename_i d hd
      split
      · exact h.mono (by omega)
      · exact h.put hd (by have := h.now; omega) ⟨by decide, by show (-1 : Int) < _; omega, by decide, by show (0 : Int) ≤ _; omega, fun _ => rfl, fun _ => rfl⟩ (.inr (.inl rfl))
  · exact h.mono (by omega)
theorem good_mend {k : Nat} {L : LV} (h : Good k L) (n : Int) : Good (k + 1) (mendM L n).2 := by
  unfold mendM
  split
  · split
    · exact h.mono (by omega)
    · rename_i d hd
      split
      · obtain ⟨a, b, c, e, f, g⟩ := h.d _ d hd
        exact h.put hd (by have := h.now; omega) ⟨a, b, c, by show d.pos ≤ _; omega, f, fun h => by cases h⟩ (.inl rfl)
      · exact h.mono (by omega)
  · exact h.mono (by omega)
theorem good_add {k : Nat} {L : LV} (h : Good k L) (m : Int) (p : Nat) : Good (k + 1) (laddM L m p).2 := by
  unfold laddM
  split
  · exact (h.carts (by simp)).mono (by omega)
  · exact h.mono (by omega)
theorem good_read {k : Nat} {L : LV} (h : Good k L) (n pos : Int) : Good (k + 1) (lreadM L n pos).2 := by
  unfold lreadM
  split
  · split
    · exact h.mono (by omega)
    · rename_i j hj
      obtain ⟨d0, hd0, hb0, hc0, hl0⟩ := withI_get hj
      split
      · rename_i d C hd hC
        split
        · obtain ⟨a, b, c, e, f, g⟩ := h.d _ d hd
          rw [hd0] at hd
          cases hd
          have hc1 : isC L n = true := by assumption
          have := (isC_iff.1 hc1).1
          exact h.put hd0 (by have := h.now; omega) ⟨a, b, by show 0 ≤ d0.pos + 1; omega, by show d0.pos + 1 ≤ _; omega, fun (h : d0.cart = -1) => by omega, g⟩ (.inl rfl)
        · exact h.mono (by omega)
      · exact h.mono (by omega)
  · exact h.mono (by omega)
theorem good_append {k : Nat} {L : LV} (h : Good k L) (n : Int) (l : List UInt8) : Good (k + 1) (lappendM L n l).2 := by
  unfold lappendM
  split
  · split
    · exact h.mono (by omega)
    · rename_i j hj
      obtain ⟨d0, hd0, hb0, hc0, hl0⟩ := withI_get hj
      split
      · rename_i d C hd hC
        split
        · obtain ⟨a, b, c, e, f, g⟩ := h.d _ d hd
          rw [hd0] at hd
          cases hd
          have hc1 : isC L n = true := by assumption
          have := (isC_iff.1 hc1).1
          have h2 := h.carts (cs := L.carts.set n.toNat ⟨C.p, (appendM C.M C.most C.lost l).2.2, C.most, C.lost⟩) (by simp)
          split
          · exact h2.put hd0 (by have := h.now; omega) ⟨a, by simpa using b, by show 0 ≤ d0.pos + 1; omega, by show d0.pos + 1 ≤ _; omega, fun (h : d0.cart = -1) => by omega, g⟩ (.inl rfl)
          · exact h2.mono (by omega)
        · exact h.mono (by omega)
      · exact h.mono (by omega)
  · exact h.mono (by omega)
theorem withI_no {ds : List DV} {n : Int} (h : withI ds n = none) : ∀ (i : Nat) (d : DV), ds[i]? = some d → d.broken = false → d.cart ≠ n := by
  intro i d hd hb hc
  unfold withI at h
  have := (List.findIdx?_eq_none_iff.1 h) d (List.mem_of_getElem? hd)
  simp [hasD, hb, hc] at this
theorem good_go {k : Nat} {L : LV} (h : Good k L) (n pos : Int) : Good (k + 1) (goM L n pos).2.2 := by
  have hnow := h.now
  unfold goM
  split
  · rename_i hc
    obtain ⟨hc1, hp0, hp1⟩ := hc
    have hn := isC_iff.1 hc1
    split
    · rename_i hw
      split
      · exact h.mono (by omega)
      · rename_i j hj
        obtain ⟨_, d0, hd0, _⟩ := freeK_lt hj
        refine h.put hd0 (by omega) ⟨by show (-1 : Int) ≤ n; omega, hn.2, Int.le_refl 0, by show (0 : Int) ≤ _; omega, fun _ => rfl, fun h => by cases h⟩ (.inr (.inr fun i e hi he => ?_))
        show e.cart ≠ n
        cases hb : e.broken with
        | false => exact withI_no hw i e he hb
        | true =>
          have := (h.d i e he).2.2.2.2.2 hb
          omega
    · rename_i j hj
      obtain ⟨d0, hd0, hb0, hc0, hl0⟩ := withI_get hj
      split
      · exact h.mono (by omega)
      · rename_i d hd
        rw [hd0] at hd
        cases hd
        obtain ⟨a, b, c, e, f, g⟩ := h.d _ d0 hd0
        exact h.put hd0 (by omega) ⟨a, b, hp0, by show pos ≤ _; omega, fun (h : d0.cart = -1) => by omega, g⟩ (.inl rfl)
  · exact h.mono (by omega)
theorem good_new {kc kd : Nat} {m : Int} {L : LV} (h : NewL kc kd m L) : Good 0 L := by
  refine ⟨by rw [h.now]; decide, fun i d hd => ?_, fun i j d e _ hi hj _ => ?_⟩
  · rw [h.drives] at hd
    rw [List.eq_of_mem_replicate (List.mem_of_getElem? hd)]
    refine ⟨by decide, by show (-1 : Int) < _; omega, by decide, by decide, fun _ => rfl, fun h => by cases h⟩
  · rw [h.drives] at hi
    rw [List.eq_of_mem_replicate (List.mem_of_getElem? hi)]
theorem Good.pos {k : Nat} {L : LV} (h : Good k L) (hk : k ≤ 100000) : ∀ d ∈ L.drives, 0 ≤ d.pos ∧ d.pos < 4611686018427387904 := fun d hd => by
  obtain ⟨i, hi⟩ := List.mem_iff_getElem?.1 hd
  obtain ⟨_, _, c, e, _⟩ := h.d i d hi
  omega
end Go.Proofs.Ytiiilimmjoadeaa
