/- The entries that records come to, plainly: of each key the best copy. No condition beyond those that each theorem states. -/
import Derived.Test.YthceidacmeadkaaS7
import Derived.Sort.Walk0
namespace Go.Proofs.Ythceidacmeadkaa
open Go.RowKit Go.Maps Go.WideMaps Go.Sort

def leastOf (L : List FoundP) (b : BlobV) : Int := poorV (placesOf L b)
def deadV (L : List FoundP) (b : BlobV) : Bool := hasL (goneM L) b.key && decide (b.gen ≤ getL 0 (goneM L) b.key)
def isCopy (L : List FoundP) (b : BlobV) : Prop := ∃ p ∈ L, p.r.kind = 2 ∧ ofR p.r = b
def QualV (L : List FoundP) (b : BlobV) : Prop := isCopy L b ∧ 8 ≤ leastOf L b ∧ deadV L b = false
def betterL (L : List FoundP) (x y : BlobV) : Bool := betterV x (leastOf L x) y (leastOf L y)
structure BestV (L : List FoundP) (es : List BlobV) : Prop where
  sorted : es.Pairwise fun a b => a.key < b.key
  mem : ∀ b, b ∈ es ↔ QualV L b ∧ ∀ b', QualV L b' → b'.key = b.key → betterL L b' b = false
theorem better_iff (x y : BlobV) (lx ly : Int) : betterV x lx y ly = true ↔ ly < lx ∨ (lx = ly ∧ (y.gen < x.gen ∨ (x.gen = y.gen ∧ (x.size < y.size ∨ (x.size = y.size ∧ x.sum < y.sum))))) := by
  unfold betterV orL cmpI cmpS
  simp only [bytesLess_eq, decide_eq_true_eq]
  rcases Int.lt_trichotomy lx ly with h1 | h1 | h1
  · have : ¬ ly < lx := by omega
    have : ¬ lx = ly := by omega
    simp [*]
  · subst h1
    rcases Int.lt_trichotomy x.gen y.gen with h2 | h2 | h2
    · have : ¬ y.gen < x.gen := by omega
      have : ¬ x.gen = y.gen := by omega
      simp [*]
    · rw [h2]
      rcases Int.lt_trichotomy x.size y.size with h3 | h3 | h3
      · simp [*]
      · rw [h3]
        by_cases h4 : x.sum < y.sum
        · simp [h4]
        · by_cases h5 : x.sum = y.sum
          · rw [h5]
            simp [List.lt_irrefl]
          · simp [h4, h5]
      · have : ¬ x.size < y.size := by omega
        have : ¬ x.size = y.size := by omega
        simp [*]
    · simp [*]
  · have : ¬ lx < ly := by omega
    simp [*]
theorem better_irrefl (L : List FoundP) (x : BlobV) : betterL L x x = false := by
  cases h : betterL L x x with
  | false => rfl
  | true =>
    rw [betterL, better_iff] at h
    rcases h with h | ⟨_, h | ⟨_, h | ⟨_, h⟩⟩⟩
    · omega
    · omega
    · omega
    · exact absurd h (List.lt_irrefl _)
theorem better_trans {L : List FoundP} {x y z : BlobV} (h : betterL L x y = true) (k : betterL L y z = true) : betterL L x z = true := by
  rw [betterL, better_iff] at *
  rcases h with h | ⟨h0, h | ⟨h1, h | ⟨h2, h⟩⟩⟩ <;> rcases k with k | ⟨k0, k | ⟨k1, k | ⟨k2, k⟩⟩⟩
  any_goals (left; omega)
  any_goals (right; refine ⟨by omega, ?_⟩; left; omega)
  any_goals (right; refine ⟨by omega, ?_⟩; right; refine ⟨by omega, ?_⟩; left; omega)
  right; refine ⟨by omega, ?_⟩; right; refine ⟨by omega, ?_⟩; right; exact ⟨by omega, List.lt_trans h k⟩
theorem copy_groups {L : List FoundP} (hok : ∀ p ∈ L, okF p = true) {b : BlobV} (h : isCopy L b) : b.groups = groupsV b.size := by
  obtain ⟨p, hp, hk, rfl⟩ := h
  have h1 := (good_shard (ok_good (hok p hp)) hk).1
  simp only [shardV, Bool.and_eq_true, decide_eq_true_eq] at h1
  exact h1.2.1
theorem better_total {L : List FoundP} (hok : ∀ p ∈ L, okF p = true) {x y : BlobV} (hx : isCopy L x) (hy : isCopy L y) (hk : x.key = y.key) (h1 : betterL L x y = false) (h2 : betterL L y x = false) : x = y := by
  have n1 : ¬ betterL L x y = true := by rw [h1]; decide
  have n2 : ¬ betterL L y x = true := by rw [h2]; decide
  rw [betterL, better_iff] at n1 n2
  have g1 := copy_groups hok hx
  have g2 := copy_groups hok hy
  have e1 : leastOf L x = leastOf L y := by omega
  have e2 : x.gen = y.gen := by omega
  have e3 : x.size = y.size := by omega
  have e4 : x.sum = y.sum := by
    have m1 : ¬ x.sum < y.sum := fun h => n1 (.inr ⟨e1, .inr ⟨e2, .inr ⟨e3, h⟩⟩⟩)
    have m2 : ¬ y.sum < x.sum := fun h => n2 (.inr ⟨e1.symm, .inr ⟨e2.symm, .inr ⟨e3.symm, h⟩⟩⟩)
    exact List.le_antisymm (List.not_lt.1 m2) (List.not_lt.1 m1)
  obtain ⟨k, g, n, s, m⟩ := x
  obtain ⟨k', g', n', s', m'⟩ := y
  simp only at hk e2 e3 e4 g1 g2
  subst hk e2 e3 e4
  rw [g1, g2]
theorem sorted_same {es fs : List BlobV} (h1 : es.Pairwise fun a b => a.key < b.key) (h2 : fs.Pairwise fun a b => a.key < b.key) (h : ∀ b, b ∈ es ↔ b ∈ fs) : es = fs := by
  have nd : ∀ {X : List BlobV}, (X.Pairwise fun a b => a.key < b.key) → X.Nodup := fun {X} hX => hX.imp fun {a b} h (e : a = b) => absurd (by rw [e] at h; exact h) (List.lt_irrefl b.key)
  have hp : es.Perm fs := (List.perm_ext_iff_of_nodup (nd h1) (nd h2)).2 h
  refine List.Perm.eq_of_pairwise (le := fun a b : BlobV => a.key < b.key) (fun a b ha hb k1 k2 => absurd (List.lt_trans k1 k2) (List.lt_irrefl _)) h1 h2 hp
theorem BestV.same {L : List FoundP} {es fs : List BlobV} (h1 : BestV L es) (h2 : BestV L fs) : es = fs :=
  sorted_same h1.sorted h2.sorted fun b => (h1.mem b).trans (h2.mem b).symm
/-- The best of those copies that were met: M all that were met, BL the best ones. -/
structure BestI (L : List FoundP) (M BL : List CopyE) : Prop where
  sub : ∀ e ∈ BL, e ∈ M ∧ QualV L e.b ∧ ∀ e' ∈ M, QualV L e'.b → e'.b.key = e.b.key → betterL L e'.b e.b = false
  all : ∀ e ∈ M, QualV L e.b → ∃ e' ∈ BL, e'.b.key = e.b.key
theorem BestI.start (L : List FoundP) : BestI L [] [] := ⟨fun e he => (by cases he), fun e he => (by cases he)⟩
theorem BestI.skip {L : List FoundP} {M BL : List CopyE} {e : CopyE} (h : BestI L M BL) (hq : ¬ QualV L e.b) : BestI L (M ++ [e]) BL := by
  refine ⟨fun x hx => ?_, fun x hx hxq => ?_⟩
  · obtain ⟨h1, h2, h3⟩ := h.sub x hx
    refine ⟨List.mem_append_left _ h1, h2, fun e' he' hq' hk => ?_⟩
    rcases List.mem_append.1 he' with he' | he'
    · exact h3 e' he' hq' hk
    · rw [List.mem_singleton] at he'
      subst he'
      exact absurd hq' hq
  · rcases List.mem_append.1 hx with hx | hx
    · exact h.all x hx hxq
    · rw [List.mem_singleton] at hx
      subst hx
      exact absurd hxq hq
theorem BestI.new {L : List FoundP} {M BL : List CopyE} {e : CopyE} (h : BestI L M BL) (hq : QualV L e.b) (hn : ∀ x ∈ BL, x.b.key ≠ e.b.key) : BestI L (M ++ [e]) (BL ++ [e]) := by
  refine ⟨fun x hx => ?_, fun x hx hxq => ?_⟩
  · rcases List.mem_append.1 hx with hxb | hx
    · obtain ⟨h1, h2, h3⟩ := h.sub x hxb
      refine ⟨List.mem_append_left _ h1, h2, fun e' he' hq' hk => ?_⟩
      rcases List.mem_append.1 he' with he' | he'
      · exact h3 e' he' hq' hk
      · rw [List.mem_singleton] at he'
        subst he'
        exact absurd hk.symm (hn x hxb)
    · rw [List.mem_singleton] at hx
      subst hx
      refine ⟨by simp, hq, fun e' he' hq' hk => ?_⟩
      rcases List.mem_append.1 he' with he' | he'
      · obtain ⟨y, hy, hyk⟩ := h.all e' he' hq'
        exact absurd (hyk.trans hk) (hn y hy)
      · rw [List.mem_singleton] at he'
        subst he'
        exact better_irrefl L _
  · rcases List.mem_append.1 hx with hx | hx
    · obtain ⟨y, hy, hyk⟩ := h.all x hx hxq
      exact ⟨y, List.mem_append_left _ hy, hyk⟩
    · rw [List.mem_singleton] at hx
      subst hx
      exact ⟨x, by simp, rfl⟩
theorem BestI.lose {L : List FoundP} {M BL : List CopyE} {e e0 : CopyE} (h : BestI L M BL) (h0 : e0 ∈ BL) (hk : e0.b.key = e.b.key) (hb : betterL L e.b e0.b = false) (hu : ∀ x ∈ BL, x.b.key = e.b.key → x = e0) : BestI L (M ++ [e]) BL := by
  refine ⟨fun x hx => ?_, fun x hx hxq => ?_⟩
  · obtain ⟨h1, h2, h3⟩ := h.sub x hx
    refine ⟨List.mem_append_left _ h1, h2, fun e' he' hq' hk' => ?_⟩
    rcases List.mem_append.1 he' with he' | he'
    · exact h3 e' he' hq' hk'
    · rw [List.mem_singleton] at he'
      subst he'
      rw [hu x hx hk'.symm]
      exact hb
  · rcases List.mem_append.1 hx with hx | hx
    · exact h.all x hx hxq
    · rw [List.mem_singleton] at hx
      subst hx
      exact ⟨e0, h0, hk⟩
theorem BestI.win {L : List FoundP} {M BL : List CopyE} {e e0 : CopyE} (h : BestI L M BL) (hq : QualV L e.b) (h0 : e0 ∈ BL) (hk : e0.b.key = e.b.key) (hb : betterL L e.b e0.b = true) : BestI L (M ++ [e]) ((BL.filter fun x => !decide (x.b.key = e.b.key)) ++ [e]) := by
  refine ⟨fun x hx => ?_, fun x hx hxq => ?_⟩
  · rcases List.mem_append.1 hx with hx | hx
    · rw [List.mem_filter] at hx
      obtain ⟨hx, hne⟩ := hx
      have hne : x.b.key ≠ e.b.key := by simpa using hne
      obtain ⟨h1, h2, h3⟩ := h.sub x hx
      refine ⟨List.mem_append_left _ h1, h2, fun e' he' hq' hk' => ?_⟩
      rcases List.mem_append.1 he' with he' | he'
      · exact h3 e' he' hq' hk'
      · rw [List.mem_singleton] at he'
        subst he'
        exact absurd hk'.symm hne
    · rw [List.mem_singleton] at hx
      subst hx
      refine ⟨by simp, hq, fun e' he' hq' hk' => ?_⟩
      rcases List.mem_append.1 he' with he' | he'
      · cases hc : betterL L e'.b x.b with
        | false => rfl
        | true =>
          have h1 := (h.sub e0 h0).2.2 e' he' hq' (hk'.trans hk.symm)
          rw [better_trans hc hb] at h1
          cases h1
      · rw [List.mem_singleton] at he'
        subst he'
        exact better_irrefl L _
  · rcases List.mem_append.1 hx with hx | hx
    · by_cases hkx : x.b.key = e.b.key
      · exact ⟨e, by simp, hkx.symm⟩
      · obtain ⟨y, hy, hyk⟩ := h.all x hx hxq
        exact ⟨y, List.mem_append_left _ (List.mem_filter.2 ⟨hy, by simp only [Bool.not_eq_true', decide_eq_false_iff_not]; rw [hyk]; exact hkx⟩), hyk⟩
    · rw [List.mem_singleton] at hx
      subst hx
      exact ⟨x, by simp, rfl⟩
theorem BestI.done {L : List FoundP} {M BL es : List CopyE} (h : BestI L M BL) (hok : ∀ p ∈ L, okF p = true) (hall : ∀ b, isCopy L b → ∃ e ∈ M, e.b = b) (hp : es.Perm BL) (hs : es.Pairwise fun a b => a.b.key < b.b.key) : BestV L (es.map CopyE.b) := by
  refine ⟨by rw [List.pairwise_map]; exact hs, fun b => ⟨fun hb => ?_, fun ⟨hq, hbest⟩ => ?_⟩⟩
  · obtain ⟨e, he, rfl⟩ := List.mem_map.1 hb
    obtain ⟨h1, h2, h3⟩ := h.sub e (hp.subset he)
    refine ⟨h2, fun b' hq' hk => ?_⟩
    obtain ⟨e', he', rfl⟩ := hall b' hq'.1
    exact h3 e' he' hq' hk
  · obtain ⟨e, he, rfl⟩ := hall b hq.1
    obtain ⟨y, hy, hyk⟩ := h.all e he hq
    obtain ⟨h1, h2, h3⟩ := h.sub y hy
    have hye := better_total hok h2.1 hq.1 hyk (hbest y.b h2 hyk) (h3 e he hq hyk.symm)
    rw [← hye]
    exact List.mem_map_of_mem (hp.symm.subset hy)
end Go.Proofs.Ythceidacmeadkaa
