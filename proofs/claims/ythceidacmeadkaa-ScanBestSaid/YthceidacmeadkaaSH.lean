/- The best copies of lists that laws make, plainly. No condition beyond those that each theorem states. -/
import Derived.Test.YthceidacmeadkaaSG
namespace Go.Proofs.Ythceidacmeadkaa
open Go.RowKit Go.Maps Go.WideMaps Go.Sort

/-- What the tombs say. -/
def GoneI (M : List (Str × Int)) (pre : List FoundP) : Prop := ∀ k, (hasL M k = true → ∃ p ∈ pre, p.r.kind = 3 ∧ p.r.key = k ∧ getL 0 M k = p.r.gen) ∧ ∀ p ∈ pre, p.r.kind = 3 → p.r.key = k → hasL M k = true ∧ p.r.gen ≤ getL 0 M k
theorem gone_inv : ∀ (xs pre : List FoundP) (M : List (Str × Int)), (∀ p ∈ xs, p.r.kind = 3 → 0 ≤ p.r.gen) → (∀ p ∈ pre, p.r.kind = 3 → 0 ≤ p.r.gen) → GoneI M pre → GoneI (xs.foldl goneStep M) (pre ++ xs)
  | [], pre, M, _, _, h => by simpa using h
  | x :: xs, pre, M, hx, hp, h => by
    have hstep : GoneI (goneStep M x) (pre ++ [x]) := by
      unfold goneStep
      split
      · rename_i hk
        have hx0 := hx x (by simp) hk
        intro k
        by_cases hkk : k = x.r.key
        · subst hkk
          have hge : 0 ≤ getL 0 M x.r.key := by
            cases hh : hasL M x.r.key with
            | false => rw [getL_no _ hh]; exact Int.le_refl _
            | true =>
              obtain ⟨p, hpp, h1, _, h3⟩ := (h x.r.key).1 hh
              rw [h3]
              exact hp p hpp h1
          refine ⟨fun _ => ?_, fun p hpm h1 h2 => ⟨by rw [hasL_put]; simp, ?_⟩⟩
          · rw [getL_put_same]
            cases hh : hasL M x.r.key with
            | false =>
              rw [getL_no _ hh]
              exact ⟨x, by simp, hk, rfl, by omega⟩
            | true =>
              obtain ⟨p, hpp, h1, h2, h3⟩ := (h x.r.key).1 hh
              by_cases hle : getL 0 M x.r.key ≤ x.r.gen
              · exact ⟨x, by simp, hk, rfl, by omega⟩
              · exact ⟨p, List.mem_append_left _ hpp, h1, h2, by omega⟩
          · rw [getL_put_same]
            rcases List.mem_append.1 hpm with hpm | hpm
            · have := ((h x.r.key).2 p hpm h1 h2).2
              omega
            · rw [List.mem_singleton] at hpm
              subst hpm
              omega
        · refine ⟨fun hh => ?_, fun p hpm h1 h2 => ?_⟩
          · rw [hasL_put] at hh
            simp only [hkk, decide_false, Bool.or_false] at hh
            obtain ⟨p, hpp, h1, h2, h3⟩ := (h k).1 hh
            exact ⟨p, List.mem_append_left _ hpp, h1, h2, by rw [getL_put_other _ _ _ hkk]; exact h3⟩
          · rcases List.mem_append.1 hpm with hpm | hpm
            · rw [hasL_put, getL_put_other _ _ _ hkk]
              have := (h k).2 p hpm h1 h2
              exact ⟨by rw [this.1]; rfl, this.2⟩
            · rw [List.mem_singleton] at hpm
              subst hpm
              exact absurd h2.symm hkk
      · rename_i hk
        intro k
        refine ⟨fun hh => ?_, fun p hpm h1 h2 => ?_⟩
        · obtain ⟨p, hpp, h⟩ := (h k).1 hh
          exact ⟨p, List.mem_append_left _ hpp, h⟩
        · rcases List.mem_append.1 hpm with hpm | hpm
          · exact (h k).2 p hpm h1 h2
          · rw [List.mem_singleton] at hpm
            subst hpm
            exact absurd h1 hk
    have := gone_inv xs (pre ++ [x]) (goneStep M x) (fun p hp' => hx p (by simp [hp'])) (fun p hp' h1 => by
      rcases List.mem_append.1 hp' with h2 | h2
      · exact hp p h2 h1
      · rw [List.mem_singleton] at h2
        subst h2
        exact hx _ (by simp) h1) hstep
    simpa using this
theorem gone_all {L : List FoundP} (h : ∀ p ∈ L, p.r.kind = 3 → 0 ≤ p.r.gen) : GoneI (goneM L) L := by
  have := gone_inv L [] [] h (fun p hp => (by cases hp)) (fun k => ⟨fun hh => (by cases hh), fun p hp => (by cases hp)⟩)
  simpa [goneM] using this
theorem ok_gen {p : FoundP} (h : okF p = true) : 0 ≤ p.r.gen := by
  have h1 := ok_good h
  unfold goodV at h1
  split at h1
  · simp only [Bool.and_eq_true, decide_eq_true_eq] at h1
    omega
  · split at h1
    · simp only [withinV, Bool.and_eq_true, decide_eq_true_eq] at h1
      omega
    · split at h1
      · simp only [withinV, Bool.and_eq_true, decide_eq_true_eq] at h1
        omega
      · cases h1
theorem dead_iff {L : List FoundP} (hok : ∀ p ∈ L, okF p = true) (b : BlobV) : deadV L b = true ↔ ∃ p ∈ L, p.r.kind = 3 ∧ p.r.key = b.key ∧ b.gen ≤ p.r.gen := by
  have h := gone_all (L := L) (fun p hp _ => ok_gen (hok p hp))
  unfold deadV
  simp only [Bool.and_eq_true, decide_eq_true_eq]
  constructor
  · rintro ⟨h1, h2⟩
    obtain ⟨p, hp, h3, h4, h5⟩ := (h b.key).1 h1
    exact ⟨p, hp, h3, h4, by omega⟩
  · rintro ⟨p, hp, h3, h4, h5⟩
    have := (h b.key).2 p hp h3 h4
    exact ⟨this.1, by omega⟩
theorem foldl_max : ∀ (xs : List FoundP) (m : Int), (xs.foldl (fun m p => max m p.r.gen) m = m ∨ ∃ p ∈ xs, xs.foldl (fun m p => max m p.r.gen) m = p.r.gen) ∧ m ≤ xs.foldl (fun m p => max m p.r.gen) m ∧ ∀ p ∈ xs, p.r.gen ≤ xs.foldl (fun m p => max m p.r.gen) m
  | [], m => ⟨.inl rfl, Int.le_refl _, fun p hp => by cases hp⟩
  | x :: xs, m => by
    obtain ⟨h1, h2, h3⟩ := foldl_max xs (max m x.r.gen)
    rw [List.foldl_cons]
    refine ⟨?_, by omega, fun p hp => ?_⟩
    · rcases h1 with h1 | ⟨p, hp, h1⟩
      · by_cases hle : x.r.gen ≤ m
        · left; rw [h1]; omega
        · right; exact ⟨x, by simp, by rw [h1]; omega⟩
      · right; exact ⟨p, by simp [hp], h1⟩
    · rcases List.mem_cons.1 hp with rfl | hp
      · omega
      · exact h3 p hp
theorem most_le {L : List FoundP} {p : FoundP} (hp : p ∈ L) : p.r.gen ≤ mostV L := (foldl_max L 0).2.2 p hp
theorem most_nonneg (L : List FoundP) : 0 ≤ mostV L := (foldl_max L 0).2.1
theorem most_is (L : List FoundP) : mostV L = 0 ∨ ∃ p ∈ L, mostV L = p.r.gen := (foldl_max L 0).1
/-- Where the data lie says nothing. -/
theorem first_strip (L : List FoundP) (b : BlobV) (s : Nat) : firstAt (L.map strip) b s = firstAt L b s := by
  unfold firstAt
  rw [List.find?_map]
  have : (isShard b s ∘ strip) = isShard b s := rfl
  rw [this]
  cases L.find? (isShard b s) <;> rfl
theorem places_strip (L : List FoundP) (b : BlobV) : placesOf (L.map strip) b = placesOf L b := by
  unfold placesOf
  exact List.map_congr_left fun s _ => first_strip L b s
theorem gone_strip (L : List FoundP) : goneM (L.map strip) = goneM L := by
  unfold goneM
  rw [List.foldl_map]
  rfl
theorem most_strip (L : List FoundP) : mostV (L.map strip) = mostV L := by
  unfold mostV
  rw [List.foldl_map]
  rfl
theorem copy_strip (L : List FoundP) (b : BlobV) : isCopy (L.map strip) b ↔ isCopy L b := by
  unfold isCopy
  constructor
  · rintro ⟨p, hp, h⟩
    obtain ⟨q, hq, rfl⟩ := List.mem_map.1 hp
    exact ⟨q, hq, h⟩
  · rintro ⟨p, hp, h⟩
    exact ⟨strip p, List.mem_map_of_mem hp, h⟩
theorem qual_strip (L : List FoundP) (b : BlobV) : QualV (L.map strip) b ↔ QualV L b := by
  unfold QualV leastOf deadV
  rw [copy_strip, places_strip, gone_strip]
theorem BestV.unstrip {L : List FoundP} {es : List BlobV} (h : BestV L es) : BestV (L.map strip) es :=
  ⟨h.sorted, fun b => by
    rw [h.mem b, qual_strip]
    unfold betterL leastOf
    simp only [qual_strip, places_strip]⟩
theorem filter_strip (P : List FoundP) : (P.filter okF).map strip = (P.map strip).filter okF := by
  rw [List.filter_map]
  rfl
theorem best_one {L : List FoundP} {b : BlobV} (hq : QualV L b) (h : ∀ b', QualV L b' → b' = b ∨ b'.key = b.key ∧ betterL L b b' = true) : BestV L [b] := by
  refine ⟨by simp, fun x => ?_⟩
  rw [List.mem_singleton]
  constructor
  · rintro rfl
    refine ⟨hq, fun b' hq' _ => ?_⟩
    rcases h b' hq' with rfl | ⟨_, h1⟩
    · exact better_irrefl L _
    · cases hc : betterL L b' x with
      | false => rfl
      | true =>
        have := better_trans h1 hc
        rw [better_irrefl] at this
        cases this
  · rintro ⟨hx, hbest⟩
    rcases h x hx with rfl | ⟨hk, h1⟩
    · rfl
    · rw [hbest b hq hk.symm] at h1
      cases h1
theorem best_none {L : List FoundP} (h : ∀ b, ¬ QualV L b) : BestV L [] := ⟨List.Pairwise.nil, fun b => ⟨fun hb => (by cases hb), fun hb => absurd hb.1 (h b)⟩⟩
/-- The shards of a copy that are there. -/
def copyL (key : Str) (gen : Int) (size q start : Nat) (keep : Nat → Bool) : List FoundP := ((List.range (q * 10)).filter keep).map (shF key gen size q start)
def blobOf (key : Str) (gen : Int) (size q : Nat) : BlobV := ⟨key, gen, q, size, digV size⟩
theorem find_range (m s : Nat) (keep : Nat → Bool) : (List.range m).find? (fun t => keep t && decide (t = s)) = if s < m ∧ keep s = true then some s else none := by
  induction m with
  | zero => simp
  | succ m ih =>
    rw [List.range_succ, List.find?_append, ih, List.find?_singleton]
    by_cases h1 : s < m ∧ keep s = true
    · rw [if_pos h1, if_pos (show s < m + 1 ∧ keep s = true from ⟨by omega, h1.2⟩)]
      rfl
    · rw [if_neg h1]
      by_cases h2 : s = m
      · subst h2
        cases hk : keep s <;> simp
      · have h3 : ¬ (s < m + 1 ∧ keep s = true) := fun h => h1 ⟨by omega, h.2⟩
        have h4 : ¬ m = s := fun h => h2 h.symm
        rw [if_neg h3]
        simp [h4]
theorem shard_self (key : Str) (gen : Int) (size q start s t : Nat) : isShard (blobOf key gen size q) s (shF key gen size q start t) = decide (t = s) := by
  unfold isShard shF shR ofR blobOf
  simp only [decide_true, Bool.true_and]
  by_cases h : t = s
  · subst h
    simp only [decide_true, decide_eq_true_eq]
    omega
  · simp only [h, decide_false, decide_eq_false_iff_not]
    omega
theorem first_copy (key : Str) (gen : Int) (size q start : Nat) (keep : Nat → Bool) (s : Nat) :
    firstAt (copyL key gen size q start keep) (blobOf key gen size q) s = if s < q * 10 ∧ keep s = true then (((s % 10 : Nat) : Int), ((start + s / 10 : Nat) : Int)) else (0, 1024) := by
  unfold firstAt copyL
  rw [List.find?_map, List.find?_filter]
  have e : (fun a => keep a = true ∧ (isShard (blobOf key gen size q) s ∘ shF key gen size q start) a = true) = fun a => (keep a && decide (a = s)) = true := by
    funext t
    simp only [Function.comp, shard_self, Bool.and_eq_true]
  have e2 : (List.range (q * 10)).find? (fun a => decide (keep a = true ∧ (isShard (blobOf key gen size q) s ∘ shF key gen size q start) a = true)) = (List.range (q * 10)).find? (fun t => keep t && decide (t = s)) := by
    congr 1
    funext t
    simp [Function.comp, shard_self]
  first
  | rw [e2, find_range]
    by_cases h : s < q * 10 ∧ keep s = true
    · rw [if_pos h, if_pos h]
      rfl
    · rw [if_neg h, if_neg h]
      rfl
theorem first_left {xs ys : List FoundP} {b : BlobV} {s : Nat} (h : ∀ p ∈ ys, isShard b s p = false) : firstAt (xs ++ ys) b s = firstAt xs b s := by
  unfold firstAt
  rw [List.find?_append, show ys.find? (isShard b s) = none from List.find?_eq_none.2 (fun p hp => by rw [h p hp]; decide), Option.or_none]
theorem first_right {xs ys : List FoundP} {b : BlobV} {s : Nat} (h : ∀ p ∈ xs, isShard b s p = false) : firstAt (xs ++ ys) b s = firstAt ys b s := by
  unfold firstAt
  rw [List.find?_append, show xs.find? (isShard b s) = none from List.find?_eq_none.2 (fun p hp => by rw [h p hp]; decide), Option.none_or]
theorem slots_blob (key : Str) (gen : Int) (size q : Nat) : slotsB (blobOf key gen size q) = q * 10 := by unfold slotsB blobOf; simp only; omega
def atF (start : Nat) (keep : Nat → Bool) (s : Nat) : Int × Int := if keep s = true then (((s % 10 : Nat) : Int), ((start + s / 10 : Nat) : Int)) else (0, 1024)
theorem places_of {L : List FoundP} {key : Str} {gen : Int} {size q start : Nat} {keep : Nat → Bool} (hf : ∀ s, s < q * 10 → firstAt L (blobOf key gen size q) s = atF start keep s) : placesOf L (blobOf key gen size q) = (List.range (q * 10)).map (atF start keep) := by
  unfold placesOf
  rw [slots_blob]
  exact List.map_congr_left fun s hs => hf s (List.mem_range.1 hs)
theorem there_at {start q : Nat} {keep : Nat → Bool} (hst : start + q ≤ 1023) {s : Nat} (hs : s < q * 10) : thereP (atF start keep s) = keep s := by
  unfold thereP atF
  cases hk : keep s with
  | true =>
    rw [if_pos rfl]
    have h : ¬ ((start + s / 10 : Nat) : Int) = 1024 := by omega
    simp only [h, decide_false, Bool.and_false, Bool.not_false]
  | false =>
    rw [if_neg (by decide)]
    rfl
theorem cnt_at {start q : Nat} {keep : Nat → Bool} (hst : start + q ≤ 1023) {j : Nat} (hj : j < q) : cntTo ((List.range (q * 10)).map (atF start keep)) j 10 = (List.range 10).countP fun i => keep (j * 10 + i) := by
  unfold cntTo
  have e : (((List.range (q * 10)).map (atF start keep)).drop (j * 10)).take 10 = (List.range 10).map fun i => atF start keep (j * 10 + i) := by
    apply List.ext_getElem?
    intro i
    by_cases hi : i < 10
    · rw [List.getElem?_take, if_pos hi, List.getElem?_drop, List.getElem?_map, List.getElem?_map, List.getElem?_range (by omega), List.getElem?_range hi]
      rfl
    · rw [List.getElem?_eq_none (by simp; omega), List.getElem?_eq_none (by simp; omega)]
  rw [e, List.countP_map]
  exact List.countP_congr fun i hi => by
    have hi := List.mem_range.1 hi
    simp only [Function.comp]
    rw [there_at hst (q := q) (by omega)]
theorem poorL_ge (ps : List (Int × Int)) (k : Int) : ∀ (js : List Nat) (m : Int), k ≤ js.foldl (fun m j => min m (cntTo ps j 10 : Int)) m ↔ k ≤ m ∧ ∀ j ∈ js, k ≤ (cntTo ps j 10 : Int)
  | [], m => by simp
  | j :: js, m => by
    rw [List.foldl_cons, poorL_ge ps k js]
    simp only [List.mem_cons, forall_eq_or_imp]
    constructor
    · rintro ⟨h1, h2⟩
      exact ⟨by omega, by omega, h2⟩
    · rintro ⟨h1, h2, h3⟩
      exact ⟨by omega, h3⟩
theorem poor_ge {ps : List (Int × Int)} {q : Nat} (hl : ps.length = q * 10) (k : Int) : k ≤ poorV ps ↔ k ≤ 10 ∧ ∀ j, j < q → k ≤ (cntTo ps j 10 : Int) := by
  unfold poorV poorL
  rw [poorL_ge, hl, show q * 10 / 10 = q by omega]
  simp only [List.mem_range]
theorem copy_of (key : Str) (gen : Int) (size q start : Nat) (keep : Nat → Bool) {p : FoundP} (hp : p ∈ copyL key gen size q start keep) : p.r.kind = 2 ∧ ofR p.r = blobOf key gen size q := by
  unfold copyL at hp
  obtain ⟨t, _, rfl⟩ := List.mem_map.1 hp
  exact ⟨rfl, rfl⟩
theorem shard_other {b : BlobV} {s : Nat} {p : FoundP} (h : p.r.kind = 2 → ofR p.r ≠ b) : isShard b s p = false := by
  cases hc : isShard b s p with
  | false => rfl
  | true =>
    simp only [isShard, Bool.and_eq_true, decide_eq_true_eq] at hc
    exact absurd hc.2.1 (h hc.1)
theorem ok_copy {key : Str} {gen : Int} {size q start : Nat} (hk : keyV key = true) (hg : withinV gen 1099511627776 = true) (hs : size ≤ 512) (hq : (q : Int) = groupsV size) (hst : start + q ≤ 1023) {s : Nat} (h : s < q * 10) : okF (shF key gen size q start s) = true := by
  have hd : (digV size).length = 32 := by simp [digV]
  unfold okF shF shR goodV
  have hg2 := hg
  simp only [withinV, Bool.and_eq_true, decide_eq_true_eq] at hg2
  rw [if_neg (show ¬ (2 : Int) = 1 by decide), if_neg (show ¬ (2 : Int) = 3 by decide), if_pos rfl]
  simp only [hk, shardV, withinV, hd, List.length_replicate, Bool.true_and, Bool.and_eq_true, decide_eq_true_eq, decide_true, Bool.and_true]
  exact ⟨by omega, by omega, by omega, by omega, hg2, ⟨by omega, by omega⟩, hq, ⟨by omega, by omega⟩, by omega, by omega⟩
theorem ok_tomb {key : Str} {gen : Int} (hk : keyV key = true) (hg : withinV gen 1099511627776 = true) : okF (tombP key gen) = true := by
  unfold okF tombP goodV noneV
  simp [hk, hg]
end Go.Proofs.Ythceidacmeadkaa
