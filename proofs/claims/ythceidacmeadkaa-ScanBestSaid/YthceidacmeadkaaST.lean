/- Records found once more, a record that may not be, a tomb of the greatest generation: plainly. No condition beyond those that each theorem states. -/
import Derived.Test.YthceidacmeadkaaSK
namespace Go.Proofs.Ythceidacmeadkaa
open Go.RowKit Go.Maps Go.WideMaps Go.Sort

theorem BestV.of_same {L L' : List FoundP} {es : List BlobV} (h1 : ∀ b, isCopy L' b ↔ isCopy L b) (h2 : ∀ b s, firstAt L' b s = firstAt L b s) (h3 : ∀ b, deadV L' b = deadV L b) (h : BestV L es) : BestV L' es := by
  have hp : ∀ b, placesOf L' b = placesOf L b := fun b => List.map_congr_left fun s _ => h2 b s
  have hl : ∀ b, leastOf L' b = leastOf L b := fun b => by unfold leastOf; rw [hp]
  have hq : ∀ b, QualV L' b ↔ QualV L b := fun b => by unfold QualV; rw [h1, hl, h3]
  have hb : ∀ x y, betterL L' x y = betterL L x y := fun x y => by unfold betterL; rw [hl, hl]
  exact ⟨h.sorted, fun b => by rw [h.mem b, hq]; simp only [hq, hb]⟩
theorem dead_same {L L' : List FoundP} (hok : ∀ p ∈ L, okF p = true) (hok' : ∀ p ∈ L', okF p = true) (h : ∀ p, p.r.kind = 3 → (p ∈ L' ↔ p ∈ L)) (b : BlobV) : deadV L' b = deadV L b := by
  rw [Bool.eq_iff_iff, dead_iff hok', dead_iff hok]
  constructor
  · rintro ⟨p, hp, h1, h2⟩
    exact ⟨p, (h p h1).1 hp, h1, h2⟩
  · rintro ⟨p, hp, h1, h2⟩
    exact ⟨p, (h p h1).2 hp, h1, h2⟩
theorem most_same {L L' : List FoundP} (h : ∀ p, p ∈ L' ↔ p ∈ L) : mostV L' = mostV L := by
  have key : ∀ {A B : List FoundP}, (∀ p, p ∈ A → p ∈ B) → mostV A ≤ mostV B := fun {A B} hs => by
    rcases most_is A with h0 | ⟨p, hp, he⟩
    · rw [h0]; exact most_nonneg B
    · rw [he]; exact most_le (hs p hp)
  exact Int.le_antisymm (key fun p hp => (h p).1 hp) (key fun p hp => (h p).2 hp)
/-- What was found already, found once more behind. -/
theorem first_twice (L : List FoundP) (b : BlobV) (s : Nat) : firstAt (L ++ L) b s = firstAt L b s := by
  unfold firstAt
  rw [List.find?_append]
  cases L.find? (isShard b s) <;> rfl
theorem best_twice {L : List FoundP} {es : List BlobV} (hok : ∀ p ∈ L, okF p = true) (h : BestV L es) : BestV (L ++ L) es := by
  have hm : ∀ p, p ∈ L ++ L ↔ p ∈ L := fun p => by simp
  refine h.of_same (fun b => ?_) (first_twice L) (dead_same hok (fun p hp => hok p ((hm p).1 hp)) fun p _ => hm p)
  unfold isCopy
  simp only [hm]
theorem most_twice (L : List FoundP) : mostV (L ++ L) = mostV L := most_same fun p => by simp
theorem places_twice (L : List FoundP) (b : BlobV) : placesOf (L ++ L) b = placesOf L b := List.map_congr_left fun s _ => first_twice L b s
/-- A tomb of the greatest generation, anywhere. -/
theorem best_gone {L1 L2 : List FoundP} {es : List BlobV} {t : FoundP} (hok : ∀ p ∈ L1 ++ L2, okF p = true) (hok' : ∀ p ∈ L1 ++ [t] ++ L2, okF p = true) (ht : t.r.kind = 3) (hg : t.r.gen = mostV (L1 ++ L2)) (h : BestV (L1 ++ L2) es) :
    BestV (L1 ++ [t] ++ L2) (es.filter fun b => !decide (b.key = t.r.key)) := by
  have hmem : ∀ p, p ∈ L1 ++ [t] ++ L2 ↔ p ∈ L1 ++ L2 ∨ p = t := fun p => by
    simp only [List.mem_append, List.mem_singleton]
    constructor
    · rintro ((h | h) | h)
      · exact .inl (.inl h)
      · exact .inr h
      · exact .inl (.inr h)
    · rintro ((h | h) | h)
      · exact .inl (.inl h)
      · exact .inr h
      · exact .inl (.inr h)
  have hc : ∀ b, isCopy (L1 ++ [t] ++ L2) b ↔ isCopy (L1 ++ L2) b := fun b => by
    unfold isCopy
    constructor
    · rintro ⟨p, hp, hk, hb⟩
      rcases (hmem p).1 hp with hp | rfl
      · exact ⟨p, hp, hk, hb⟩
      · omega
    · rintro ⟨p, hp, h⟩
      exact ⟨p, (hmem p).2 (.inl hp), h⟩
  have hf : ∀ b s, firstAt (L1 ++ [t] ++ L2) b s = firstAt (L1 ++ L2) b s := fun b s => by
    have hn : isShard b s t = false := shard_other fun hk => by omega
    unfold firstAt
    rw [List.find?_append, List.find?_append, List.find?_append, List.find?_singleton, hn]
    simp
  have hp : ∀ b, placesOf (L1 ++ [t] ++ L2) b = placesOf (L1 ++ L2) b := fun b => List.map_congr_left fun s _ => hf b s
  have hl : ∀ b, leastOf (L1 ++ [t] ++ L2) b = leastOf (L1 ++ L2) b := fun b => by unfold leastOf; rw [hp]
  have hd : ∀ b, isCopy (L1 ++ L2) b → (deadV (L1 ++ [t] ++ L2) b = false ↔ deadV (L1 ++ L2) b = false ∧ b.key ≠ t.r.key) := fun b hcb => by
    have h1 := dead_iff hok' b
    have h2 := dead_iff hok b
    have hgen : b.gen ≤ t.r.gen := by
      obtain ⟨p, hp, _, rfl⟩ := hcb
      rw [hg]
      exact most_le hp
    constructor
    · intro hf
      refine ⟨?_, fun hk => ?_⟩
      · cases hx : deadV (L1 ++ L2) b with
        | false => rfl
        | true =>
          obtain ⟨p, hp, h3⟩ := h2.1 hx
          rw [h1.2 ⟨p, (hmem p).2 (.inl hp), h3⟩] at hf
          cases hf
      · rw [h1.2 ⟨t, (hmem t).2 (.inr rfl), ht, hk.symm, hgen⟩] at hf
        cases hf
    · rintro ⟨hf, hk⟩
      cases hx : deadV (L1 ++ [t] ++ L2) b with
      | false => rfl
      | true =>
        obtain ⟨p, hp, h3, h4, h5⟩ := h1.1 hx
        rcases (hmem p).1 hp with hp | rfl
        · rw [h2.2 ⟨p, hp, h3, h4, h5⟩] at hf
          cases hf
        · exact absurd h4.symm hk
  have hq : ∀ b, QualV (L1 ++ [t] ++ L2) b ↔ QualV (L1 ++ L2) b ∧ b.key ≠ t.r.key := fun b => by
    unfold QualV
    rw [hc, hl]
    constructor
    · rintro ⟨h1, h2, h3⟩
      exact ⟨⟨h1, h2, ((hd b h1).1 h3).1⟩, ((hd b h1).1 h3).2⟩
    · rintro ⟨⟨h1, h2, h3⟩, h4⟩
      exact ⟨h1, h2, (hd b h1).2 ⟨h3, h4⟩⟩
  have hb : ∀ x y, betterL (L1 ++ [t] ++ L2) x y = betterL (L1 ++ L2) x y := fun x y => by unfold betterL; rw [hl, hl]
  refine ⟨h.sorted.filter _, fun b => ?_⟩
  rw [List.mem_filter, h.mem b, hq]
  simp only [Bool.not_eq_true', decide_eq_false_iff_not, hb]
  constructor
  · rintro ⟨⟨h1, h2⟩, h3⟩
    exact ⟨⟨h1, h3⟩, fun b' hb' hk => h2 b' ((hq b').1 hb').1 hk⟩
  · rintro ⟨⟨h1, h3⟩, h2⟩
    exact ⟨⟨h1, fun b' hb' hk => h2 b' ((hq b').2 ⟨hb', fun e => h3 (hk ▸ e)⟩) hk⟩, h3⟩
theorem most_gone {L1 L2 : List FoundP} {t : FoundP} (hg : t.r.gen = mostV (L1 ++ L2)) : mostV (L1 ++ [t] ++ L2) = mostV (L1 ++ L2) :=
  Int.le_antisymm (by
    rcases most_is (L1 ++ [t] ++ L2) with h0 | ⟨p, hp, he⟩
    · rw [h0]; exact most_nonneg _
    · rw [he]
      simp only [List.mem_append, List.mem_singleton] at hp
      rcases hp with (hp | rfl) | hp
      · exact most_le (List.mem_append_left _ hp)
      · omega
      · exact most_le (List.mem_append_right _ hp)) (by rw [← hg]; exact most_le (by simp))
end Go.Proofs.Ythceidacmeadkaa
