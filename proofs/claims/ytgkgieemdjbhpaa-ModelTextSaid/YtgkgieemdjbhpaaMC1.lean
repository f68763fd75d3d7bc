/- A list of puts and deletes as it lies in memory. No condition beyond those that each theorem states. -/
import Derived.Test.YtgkgieemdjbhpaaMB2
import Derived.Deep.DeepCutAuto
import Derived.Deep.CutBlock
import Derived.WalkSpells
import Derived.WalkLawsBesides
namespace Go.Proofs.Ytgkgieemdjbhpaa
open Go.RowKit Go.Maps

structure ActV where
  gone : Bool
  key : List UInt8
  D : Option Addr
  m : Nat
  d : Nat
  data : List UInt8
structure ActIn (w : World) (b o : Nat) (v : ActV) : Prop where
  c0 : w.cell? ⟨b, o, none⟩ = some (.bool v.gone)
  c1 : w.cell? ⟨b, o + 1, none⟩ = some (encStr v.key)
  c2 : w.cell? ⟨b, o + 2, none⟩ = some (.slice v.D v.m v.d)
  kl : v.key.length ≤ maxLen
  form : Form v.D v.m v.d
  bytes : BytesIn w v.D v.m v.data
def ActsIn (w : World) (A : Option Addr) (n : Nat) (f : Nat → ActV) : Prop := n = 0 ∨ ∃ b off, A = some ⟨b, off, none⟩ ∧ b < w.heap.size ∧ ∀ i, i < n → ActIn w b (off + i * 3) (f i)

/-- What a model is after an act. -/
def actM (S : MV) (v : ActV) : MV := if v.gone then delM S v.key else putM S v.key v.data
theorem putM_len (S : MV) (k d : List UInt8) : (putM S k d).length ≤ S.length + 1 := by
  unfold putM
  split
  · simp
  · omega
theorem actM_len (S : MV) (v : ActV) : (actM S v).length ≤ S.length + 1 := by
  unfold actM
  split
  · have := delM_len (S := S) (k := v.key); omega
  · exact putM_len _ _ _
theorem put_ok {S : MV} {k d : List UInt8} (h : putE S k d = 0) : hasM S k = false ∧ putM S k d = S ++ [(k, d)] ∧ hasM (putM S k d) k = true ∧ getM (putM S k d) k = d := by
  have h1 : hasM S k = false := by
    unfold putE at h
    split at h
    · cases h
    · split at h
      · cases h
      · split at h
        · cases h
        · rename_i hh
          simpa using hh
  have h2 : putM S k d = S ++ [(k, d)] := by unfold putM; rw [if_pos h]
  exact ⟨h1, h2, by rw [h2, hasM_snoc]; simp, by rw [h2, getM_same h1]⟩
theorem put_no {S : MV} {k d : List UInt8} (h : putE S k d ≠ 0) : putM S k d = S := by unfold putM; rw [if_neg h]
theorem sortM_lt {S : MV} (hn : (S.map Prod.fst).Nodup) {i j : Nat} {a b : List UInt8} (hij : i < j) (ha : (sortM S)[i]? = some a) (hb : (sortM S)[j]? = some b) : a < b := by
  have tr : ∀ a b c : List UInt8, leB a b = true → leB b c = true → leB a c = true := fun a b c h1 h2 => by simp only [leB, decide_eq_true_eq] at *; exact List.le_trans h1 h2
  have tt : ∀ a b : List UInt8, (leB a b || leB b a) = true := fun a b => by simp only [leB, Bool.or_eq_true, decide_eq_true_eq]; exact List.le_total a b
  have hs := List.pairwise_mergeSort (le := leB) tr tt (S.map Prod.fst)
  have hnd : (sortM S).Nodup := ((List.mergeSort_perm _ _).nodup_iff).2 hn
  rw [List.nodup_iff_pairwise_ne, List.pairwise_iff_getElem] at hnd
  rw [List.pairwise_iff_getElem] at hs
  obtain ⟨h1, rfl⟩ := List.getElem?_eq_some_iff.1 ha
  obtain ⟨h2, rfl⟩ := List.getElem?_eq_some_iff.1 hb
  have hle := hs i j h1 h2 hij
  simp only [leB, decide_eq_true_eq] at hle
  have hne := hnd i j h1 h2 hij
  rcases List.le_iff_lt_or_eq.1 hle with h | h
  · exact h
  · exact absurd h hne
end Go.Proofs.Ytgkgieemdjbhpaa
