/- The best copies of one copy's shards and some tombs, plainly. No condition beyond those that each theorem states. -/
import Derived.Test.YthceidacmeadkaaSJ
namespace Go.Proofs.Ythceidacmeadkaa
open Go.RowKit Go.Maps Go.WideMaps Go.Sort

section
variable {key : Str} {gen : Int} {size q start : Nat} {keep : Nat → Bool} {T L : List FoundP}
theorem copy_len : placesOf L (blobOf key gen size q) = (List.range (q * 10)).map (atF start keep) → (placesOf L (blobOf key gen size q)).length = q * 10 := fun h => by rw [h]; simp
theorem tomb_other (hT : ∀ p ∈ T, p.r.kind = 3) (b : BlobV) (s : Nat) : ∀ p ∈ T, isShard b s p = false := fun p hp => shard_other fun h => by have := hT p hp; omega
theorem places_ct (hL : L = copyL key gen size q start keep ++ T) (hT : ∀ p ∈ T, p.r.kind = 3) : placesOf L (blobOf key gen size q) = (List.range (q * 10)).map (atF start keep) := places_of fun s hs => by
  rw [hL, first_left (tomb_other hT _ s), first_copy]
  unfold atF
  by_cases h : keep s = true
  · rw [if_pos ⟨hs, h⟩, if_pos h]
  · rw [if_neg (fun hc => h hc.2), if_neg h]
theorem least_ct (hL : L = copyL key gen size q start keep ++ T) (hT : ∀ p ∈ T, p.r.kind = 3) (hst : start + q ≤ 1023) (k : Int) : k ≤ leastOf L (blobOf key gen size q) ↔ k ≤ 10 ∧ ∀ j, j < q → k ≤ (((List.range 10).countP fun i => keep (j * 10 + i) : Nat) : Int) := by
  have hp := places_ct hL hT
  unfold leastOf
  rw [poor_ge (q := q) (copy_len hp), hp]
  constructor
  · rintro ⟨h1, h2⟩
    exact ⟨h1, fun j hj => by have := h2 j hj; rw [cnt_at hst hj] at this; exact this⟩
  · rintro ⟨h1, h2⟩
    exact ⟨h1, fun j hj => by rw [cnt_at hst hj]; exact h2 j hj⟩
theorem copy_only (hL : L = copyL key gen size q start keep ++ T) (hT : ∀ p ∈ T, p.r.kind = 3) {b : BlobV} (h : isCopy L b) : b = blobOf key gen size q := by
  obtain ⟨p, hp, hk, hb⟩ := h
  rw [hL] at hp
  rcases List.mem_append.1 hp with hp | hp
  · rw [← hb]
    exact (copy_of _ _ _ _ _ _ hp).2
  · have := hT p hp
    omega
theorem best_ct (hL : L = copyL key gen size q start keep ++ T) (hT : ∀ p ∈ T, p.r.kind = 3) (hok : ∀ p ∈ L, okF p = true) (hst : start + q ≤ 1023) (hq : 1 ≤ q) (hc : ∀ j, j < q → 8 ≤ (List.range 10).countP fun i => keep (j * 10 + i)) (ht : ∀ p ∈ T, p.r.key = key → p.r.gen < gen) : BestV L [blobOf key gen size q] := by
  refine best_one ⟨?_, ?_, ?_⟩ fun b' hb' => .inl (copy_only hL hT hb'.1)
  · have h0 := hc 0 (by omega)
    obtain ⟨i, hi, hki⟩ := List.countP_pos_iff.1 (show 0 < (List.range 10).countP fun i => keep (0 * 10 + i) by omega)
    have hi10 := List.mem_range.1 hi
    refine ⟨shF key gen size q start i, ?_, rfl, rfl⟩
    rw [hL]
    refine List.mem_append_left _ (List.mem_map_of_mem (List.mem_filter.2 ⟨List.mem_range.2 (by omega), ?_⟩))
    simpa using hki
  · exact (least_ct hL hT hst 8).2 ⟨by omega, fun j hj => by have := hc j hj; omega⟩
  · cases hd : deadV L (blobOf key gen size q) with
    | false => rfl
    | true =>
      obtain ⟨p, hp, h1, h2, h3⟩ := (dead_iff hok _).1 hd
      rw [hL] at hp
      rcases List.mem_append.1 hp with hp | hp
      · have := (copy_of _ _ _ _ _ _ hp).1
        omega
      · have h4 := ht p hp h2
        have h5 : (blobOf key gen size q).gen = gen := rfl
        omega
theorem best_ct0 (hL : L = copyL key gen size q start keep ++ T) (hT : ∀ p ∈ T, p.r.kind = 3) (hok : ∀ p ∈ L, okF p = true) (hst : start + q ≤ 1023) (h : (∃ j, j < q ∧ ((List.range 10).countP fun i => keep (j * 10 + i)) < 8) ∨ ∃ p ∈ T, p.r.key = key ∧ gen ≤ p.r.gen) : BestV L [] := by
  refine best_none fun b hb => ?_
  have hbb := copy_only hL hT hb.1
  subst hbb
  rcases h with ⟨j, hj, hc⟩ | ⟨p, hp, h1, h2⟩
  · have := ((least_ct hL hT hst 8).1 hb.2.1).2 j hj
    omega
  · have := (dead_iff hok (blobOf key gen size q)).2 ⟨p, by rw [hL]; exact List.mem_append_right _ hp, hT p hp, h1, h2⟩
    rw [hb.2.2] at this
    cases this
end
theorem filter_all {α : Type} {p : α → Bool} {l : List α} (h : ∀ x ∈ l, p x = true) : l.filter p = l := List.filter_eq_self.2 h
theorem copy_all (key : Str) (gen : Int) (size q start : Nat) : copyL key gen size q start (fun _ => true) = (List.range (q * 10)).map (shF key gen size q start) := by
  unfold copyL
  rw [filter_all (fun _ _ => rfl)]
/-- What a result's entries are, where the list is known but for where its data lie. -/
theorem best_known {P LC : List FoundP} {es : List CopyE} {bs : List BlobV} (hP : P.map strip = LC) (hok : ∀ p ∈ LC, okF p = true) (hb : BestV (P.filter okF) (es.map CopyE.b)) (hk : BestV LC bs) : es.map CopyE.b = bs := by
  have h := hb.unstrip
  rw [filter_strip, hP, filter_all hok] at h
  exact h.same hk
theorem most_known {P LC : List FoundP} (hP : P.map strip = LC) (hok : ∀ p ∈ LC, okF p = true) : mostV (P.filter okF) = mostV LC := by
  rw [← most_strip, filter_strip, hP, filter_all hok]
theorem most_at {L : List FoundP} {g : Int} (h0 : 0 ≤ g) (hle : ∀ p ∈ L, p.r.gen ≤ g) (hin : ∃ p ∈ L, p.r.gen = g) : mostV L = g := by
  obtain ⟨p, hp, he⟩ := hin
  have h1 := most_le hp
  rcases most_is L with h2 | ⟨p', hp', h2⟩
  · omega
  · have := hle p' hp'
    omega
/-- The lists of `awake`. -/
def lA : List FoundP := copyL [97] 3 0 1 0 (fun _ => true)
theorem okA : ∀ p ∈ lA, okF p = true := by
  intro p hp
  unfold lA copyL at hp
  obtain ⟨t, ht, rfl⟩ := List.mem_map.1 hp
  exact ok_copy (by decide) (by decide) (by omega) (by decide) (by omega) (List.mem_range.1 (List.mem_filter.1 ht).1)
theorem okAT (g : Int) (h : g = 2 ∨ g = 3) : ∀ p ∈ lA ++ [tombP [97] g], okF p = true := by
  intro p hp
  rcases List.mem_append.1 hp with hp | hp
  · exact okA p hp
  · rw [List.mem_singleton] at hp
    subst hp
    rcases h with rfl | rfl
    · exact ok_tomb (by decide) (by decide)
    · exact ok_tomb (by decide) (by decide)
theorem bestA1 : BestV lA [blobOf [97] 3 0 1] := best_ct (T := []) (by rw [List.append_nil]; rfl) (fun p hp => by cases hp) okA (by omega) (by omega) (fun j _ => by simp) (fun p hp => by cases hp)
theorem bestA2 : BestV (lA ++ [tombP [97] 2]) [blobOf [97] 3 0 1] := best_ct rfl (fun p hp => by rw [List.mem_singleton] at hp; subst hp; rfl) (okAT 2 (.inl rfl)) (by omega) (by omega) (fun j _ => by simp) (fun p hp _ => by rw [List.mem_singleton] at hp; subst hp; decide)
theorem bestA3 : BestV (lA ++ [tombP [97] 3]) [] := best_ct0 rfl (fun p hp => by rw [List.mem_singleton] at hp; subst hp; rfl) (okAT 3 (.inr rfl)) (by omega) (.inr ⟨_, List.mem_singleton.2 rfl, rfl, Int.le_refl _⟩)
theorem takeA : lA.take 7 = copyL [97] 3 0 1 0 (fun i => decide (i < 7)) := by rfl
theorem okA7 : ∀ p ∈ lA.take 7, okF p = true := fun p hp => okA p (List.mem_of_mem_take hp)
theorem bestA4 : BestV (lA.take 7) [] := best_ct0 (T := []) (by rw [List.append_nil]; exact takeA) (fun p hp => by cases hp) okA7 (by omega) (.inl ⟨0, by omega, by decide⟩)
theorem genA {p : FoundP} (hp : p ∈ lA) : p.r.gen = 3 := by
  unfold lA copyL at hp
  obtain ⟨t, ht, rfl⟩ := List.mem_map.1 hp
  rfl
theorem mostA1 : mostV lA = 3 := by decide
theorem mostA2 : mostV (lA ++ [tombP [97] 2]) = 3 := by decide
theorem mostA3 : mostV (lA ++ [tombP [97] 3]) = 3 := by decide
end Go.Proofs.Ythceidacmeadkaa
