/- Of two copies of a key the better one, plainly. No condition beyond those that each theorem states. -/
import Derived.Test.YthceidacmeadkaaSK
namespace Go.Proofs.Ythceidacmeadkaa
open Go.RowKit Go.Maps Go.WideMaps Go.Sort

section
variable {g1 g2 da db : Nat} {L : List FoundP}
def cX (g st d : Nat) : List FoundP := copyL [107] g 0 1 st fun i => decide (d ≤ i)
def bX (g : Nat) : BlobV := blobOf [107] g 0 1
theorem ok_cX {g st d : Nat} (hg : g ≤ 1000) (hs : st ≤ 1000) : ∀ p ∈ cX g st d, okF p = true := by
  intro p hp
  obtain ⟨t, ht, rfl⟩ := List.mem_map.1 hp
  exact ok_copy (by decide) (by simp only [withinV, Bool.and_eq_true, decide_eq_true_eq]; omega) (by omega) (by decide) (by omega) (List.mem_range.1 (List.mem_filter.1 ht).1)
theorem gen_cX {g st d : Nat} {p : FoundP} (hp : p ∈ cX g st d) : p.r.gen = g ∧ p.r.kind = 2 ∧ ofR p.r = bX g := by
  obtain ⟨t, ht, rfl⟩ := List.mem_map.1 hp
  exact ⟨rfl, rfl, rfl⟩
theorem mem_cX {g st d : Nat} (h : d ≤ 2) : shF [107] g 0 1 st 9 ∈ cX g st d := List.mem_map_of_mem (List.mem_filter.2 ⟨List.mem_range.2 (by omega), by simp; omega⟩)
theorem cnt_cX {d : Nat} (h : d ≤ 2) : ((List.range 10).countP fun i => decide (d ≤ 0 * 10 + i)) = 10 - d := by
  rcases (show d = 0 ∨ d = 1 ∨ d = 2 by omega) with rfl | rfl | rfl <;> decide
theorem least_two {g st d : Nat} (hd : d ≤ 2) (hst : st ≤ 1000) (hf : ∀ s, firstAt L (bX g) s = firstAt (cX g st d) (bX g) s) : leastOf L (bX g) = ((10 - d : Nat) : Int) := by
  have hp : placesOf L (bX g) = (List.range (1 * 10)).map (atF st fun i => decide (d ≤ i)) := places_of (start := st) fun s hs => by
    show firstAt L (bX g) s = _
    rw [hf s, show cX g st d = copyL [107] g 0 1 st fun i => decide (d ≤ i) from rfl, show bX g = blobOf [107] g 0 1 from rfl, first_copy]
    unfold atF
    by_cases h : decide (d ≤ s) = true
    · rw [if_pos ⟨hs, h⟩, if_pos h]
    · rw [if_neg (fun hc => h hc.2), if_neg h]
  have h : ∀ k : Int, k ≤ leastOf L (bX g) ↔ k ≤ ((10 - d : Nat) : Int) := fun k => by
    unfold leastOf
    rw [poor_ge (q := 1) (by rw [hp]; simp), hp]
    constructor
    · rintro ⟨_, h2⟩
      have h3 := h2 0 (by omega)
      rw [cnt_at (start := st) (by omega) (by omega), cnt_cX hd] at h3
      exact h3
    · intro h1
      refine ⟨by omega, fun j hj => ?_⟩
      obtain rfl : j = 0 := by omega
      rw [cnt_at (start := st) (by omega) (by omega), cnt_cX hd]
      exact h1
  have h1 := (h (leastOf L (bX g))).1 (Int.le_refl _)
  have h2 := (h ((10 - d : Nat) : Int)).2 (Int.le_refl _)
  omega
/-- Two copies, whichever comes first. -/
def Two (g1 g2 da db : Nat) (L : List FoundP) : Prop := L = cX g1 5 da ++ cX g2 6 db ∨ L = cX g2 6 db ++ cX g1 5 da
theorem Two.mem (h : Two g1 g2 da db L) {p : FoundP} : p ∈ L ↔ p ∈ cX g1 5 da ∨ p ∈ cX g2 6 db := by
  rcases h with rfl | rfl
  · exact List.mem_append
  · exact List.mem_append.trans Or.comm
theorem bX_ne {a b : Nat} (h : a ≠ b) : bX a ≠ bX b := fun e => h (by have := congrArg BlobV.gen e; unfold bX blobOf at this; simp only at this; omega)
theorem Two.first (h : Two g1 g2 da db L) (hne : g1 ≠ g2) (s : Nat) : firstAt L (bX g1) s = firstAt (cX g1 5 da) (bX g1) s ∧ firstAt L (bX g2) s = firstAt (cX g2 6 db) (bX g2) s := by
  have e1 : ∀ p ∈ cX g2 6 db, isShard (bX g1) s p = false := fun p hp => shard_other fun _ => by rw [(gen_cX hp).2.2]; exact bX_ne (fun e => hne e.symm)
  have e2 : ∀ p ∈ cX g1 5 da, isShard (bX g2) s p = false := fun p hp => shard_other fun _ => by rw [(gen_cX hp).2.2]; exact bX_ne hne
  rcases h with rfl | rfl
  · exact ⟨first_left e1, first_right e2⟩
  · exact ⟨first_right e1, first_left e2⟩
theorem Two.ok (h : Two g1 g2 da db L) (h1 : g1 ≤ 1000) (h2 : g2 ≤ 1000) : ∀ p ∈ L, okF p = true := fun p hp => by
  rcases h.mem.1 hp with hp | hp
  · exact ok_cX h1 (by omega) p hp
  · exact ok_cX h2 (by omega) p hp
theorem Two.most (h : Two g1 g2 da db L) (hlt : g1 < g2) (hb : db ≤ 2) : mostV L = g2 := most_at (by omega) (fun p hp => by
  rcases h.mem.1 hp with hp | hp
  · rw [(gen_cX hp).1]; omega
  · rw [(gen_cX hp).1]; omega) ⟨_, h.mem.2 (.inr (mem_cX hb)), rfl⟩
theorem Two.best (h : Two g1 g2 da db L) (hlt : g1 < g2) (h2 : g2 ≤ 1000) (ha : da ≤ 2) (hb : db ≤ 2) : BestV L [if da < db then bX g1 else bX g2] := by
  have hok := h.ok (by omega) h2
  have l1 : leastOf L (bX g1) = ((10 - da : Nat) : Int) := least_two ha (by omega) fun s => (h.first (by omega) s).1
  have l2 : leastOf L (bX g2) = ((10 - db : Nat) : Int) := least_two hb (by omega) fun s => (h.first (by omega) s).2
  have hdead : ∀ b, deadV L b = false := fun b => by
    cases hd : deadV L b with
    | false => rfl
    | true =>
      obtain ⟨p, hp, hk, _⟩ := (dead_iff hok b).1 hd
      rcases h.mem.1 hp with hp | hp
      · rw [(gen_cX hp).2.1] at hk; omega
      · rw [(gen_cX hp).2.1] at hk; omega
  have q1 : QualV L (bX g1) := ⟨⟨_, h.mem.2 (.inl (mem_cX ha)), rfl, rfl⟩, by omega, hdead _⟩
  have q2 : QualV L (bX g2) := ⟨⟨_, h.mem.2 (.inr (mem_cX hb)), rfl, rfl⟩, by omega, hdead _⟩
  have hall : ∀ b, QualV L b → b = bX g1 ∨ b = bX g2 := fun b hq => by
    obtain ⟨p, hp, _, rfl⟩ := hq.1
    rcases h.mem.1 hp with hp | hp
    · exact .inl (gen_cX hp).2.2
    · exact .inr (gen_cX hp).2.2
  by_cases hd : da < db
  · rw [if_pos hd]
    refine best_one q1 fun b hq => ?_
    rcases hall b hq with rfl | rfl
    · exact .inl rfl
    · exact .inr ⟨rfl, (better_iff _ _ _ _).2 (.inl (by rw [l1, l2]; omega))⟩
  · rw [if_neg hd]
    refine best_one q2 fun b hq => ?_
    rcases hall b hq with rfl | rfl
    · refine .inr ⟨rfl, (better_iff _ _ _ _).2 ?_⟩
      rw [l1, l2]
      by_cases he : da = db
      · exact .inr ⟨by omega, .inl (by show (g1 : Int) < (g2 : Int); omega)⟩
      · exact .inl (by omega)
    · exact .inl rfl
end
theorem drop_copy (g st d : Nat) (hd : d ≤ 2) : ((List.range (1 * 10)).map (shF [107] g 0 1 st)).drop d = cX g st d := by
  unfold cX copyL
  rcases (show d = 0 ∨ d = 1 ∨ d = 2 by omega) with rfl | rfl | rfl <;> rfl
end Go.Proofs.Ythceidacmeadkaa
