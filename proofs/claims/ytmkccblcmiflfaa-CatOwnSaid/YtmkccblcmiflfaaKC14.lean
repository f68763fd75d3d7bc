/- The generations that were begun, sorted. No condition beyond those that each theorem states. -/
import Derived.Test.YtmkccblcmiflfaaKC13
import Derived.Shelf.SlSortCmp.WholeK
import Derived.Shelf.SlSortCmp.NoneTotal
import Derived.Shelf.SlicesG.Cmp
import Derived.Shelf.Lay
import Derived.Ground.SlsfProg
import Derived.Ground.SlgcProg
namespace Go.Proofs.Ytmkccblcmiflfaa
open Go.RowKit Go.Maps Go.WideMaps Go.Shelf Go.Sort

shelf_lay_g SlLaysF0.n6 Slsf 6 at Try 41 as sortN
shelf_lay_g SlLaysC2.n5 Slgc 5 at Try 43 as cmpN
def cfN (x y : Str × Int) : Int := Lib.compareInt x.2 y.2
theorem ltN (x y : Str × Int) : ltOf cfN x y = decide (x.2 < y.2) := by
  unfold ltOf cfN Lib.compareInt
  by_cases h1 : x.2 < y.2
  · simp [h1]
  · by_cases h2 : y.2 < x.2 <;> simp [h1, h2]
theorem swoN : SWO (ltOf cfN) where
  irrefl x := by rw [ltN]; simp
  trans x y z h1 h2 := by rw [ltN] at *; simp at *; omega
  ntrans x y z h1 h2 := by rw [ltN] at *; simp at *; omega
set_option maxHeartbeats 1000000 in
theorem gens1_any (x y : Str × Int) (W : World) : Calls Try.prog 42 #[.agg (genCells x).toArray, .agg (genCells y).toArray] W fun e w' => e = .returned (.int .i64 (cfN x y)) ∧ ∃ q os', w' = grow (W.drewN q) os' := by
  have hcon := fun W' => AnyG.cmp_Compare_int cmpN x.2 y.2 W'
  change ∀ W', Calls Try.prog 43 _ _ _ at hcon
  unfold cfN
  generalize Lib.compareInt x.2 y.2 = r at hcon ⊢
  change Calls Try.prog 42 #[.agg #[.int .i64 4, encStr x.1, .int .i64 x.2, .int .i64 0, .slice none 0 0, encStr [], .int .i64 0, .slice none 0 0], .agg #[.int .i64 4, encStr y.1, .int .i64 y.2, .int .i64 0, .slice none 0 0, encStr [], .int .i64 0, .slice none 0 0]] W _
  go_enter Try.func42, Try.ntmps42
  go_wp2_with (go_at_call 43; refine (hcon _).mono ?_; rintro e w' ⟨rfl, rfl⟩)
  go_ret
  exact ⟨rfl, 0, _, by rw [alloc_eq_grow, alloc_eq_grow, grow_grow]; rfl⟩
theorem cmpLaysN (blk off size : Nat) (w : World) : CmpLays Try.prog 42 #[] genCells 8 cfN blk off size w := fun _ _ _ _ x y => gens1_any x y _
theorem sortWorldK_blk {w : World} {g m : Nat} {d : Array (Str × Int)} {os : Array Obj} {t : TypeId} {cs : Array Value} (h : Blk w g t cs) : ∃ cs', Blk (sortWorldK genCells 8 w g 0 m d os) g t cs' := by
  unfold Blk at h
  refine ⟨putCells id 0 (flatK genCells 8 d) cs, ?_⟩
  unfold Blk sortWorldK Sort.grow putRowK Sort.putRow Sort.mapBlock Sort.ahead
  have hlt := (Array.getElem?_eq_some_iff.1 h).1
  rw [Array.getElem?_append_left (by simpa using hlt), Array.getElem?_modify, if_pos rfl, h]
  rfl
theorem sortWorldK_grown (w : World) (g m : Nat) (d : Array (Str × Int)) (os : Array Obj) : w.grownBy (sortWorldK genCells 8 w g 0 m d os) (some g) := by
  refine ⟨rfl, rfl, rfl, by simp [sortWorldK, Sort.grow, putRowK, Sort.putRow, Sort.mapBlock, Sort.ahead], fun k hk hne => ?_⟩
  have hkg : g ≠ k := fun e => hne (by rw [e])
  simp only [sortWorldK, Sort.grow, putRowK, Sort.putRow, Sort.mapBlock, Sort.ahead]
  rw [Array.getElem?_append_left (by simpa using hk), Array.getElem?_modify, if_neg hkg]
theorem genVals_len (L : List (Str × Int)) : (genVals L).length = L.length * 8 := by
  induction L with
  | nil => rfl
  | cons x L ih =>
    have : (genVals (x :: L)) = genCells x ++ genVals L := rfl
    rw [this, List.length_append, ih, List.length_cons]
    show 8 + L.length * 8 = _
    omega
theorem genVals_at {L : List (Str × Int)} {t : Nat} (h : t < L.length * 8) : (genVals L)[t]? = some ((genCells L.toArray[t / 8]!)[t % 8]!) := by
  induction L generalizing t with
  | nil => simp at h
  | cons x L ih =>
    have hl : (genVals (x :: L)) = genCells x ++ genVals L := rfl
    rw [hl]
    by_cases ht : t < 8
    · rw [List.getElem?_append_left (by show t < 8; exact ht), show t / 8 = 0 by omega, show t % 8 = t by omega]
      have e : (x :: L).toArray[0]! = x := by simp
      rw [e, getElem!_pos _ t (by show t < 8; exact ht), List.getElem?_eq_getElem (by show t < 8; exact ht)]
    · have h' : t - 8 < L.length * 8 := by simp only [List.length_cons] at h; omega
      rw [List.getElem?_append_right (by show 8 ≤ t; omega), show t - (genCells x).length = t - 8 from rfl, ih h']
      have e1 : t / 8 = (t - 8) / 8 + 1 := by omega
      have e2 : t % 8 = (t - 8) % 8 := by omega
      rw [e1, e2]
      have hlt : (t - 8) / 8 < L.length := by omega
      congr 2
      rw [getElem!_pos _ _ (by simpa using hlt), getElem!_pos _ _ (by simpa using hlt)]
      simp
theorem holds_gen {w : World} {g : Nat} {L : List (Str × Int)} (h : RowAt w g 26 (genVals L)) : HoldsK genCells 8 w g 0 L.toArray := by
  intro j hj
  rw [size_flatK] at hj
  have hj' : j < L.length * 8 := by simpa using hj
  refine ⟨?_, h.free _⟩
  rw [Nat.zero_add, get_flatK _ _ _ _ hj]
  exact h.cell (genVals_at hj')
theorem row_gen {w : World} {g : Nat} {cs : Array Value} {L : List (Str × Int)} (hb : Blk w g 26 cs) (h : HoldsK genCells 8 w g 0 L.toArray) : RowAt w g 26 (genVals L) := by
  refine ⟨cs, hb, ?_⟩
  have hc : ∀ t, t < L.length * 8 → cs[t]? = (genVals L)[t]? := fun t ht => by
    have h1 := (h t (by rw [size_flatK]; simpa using ht)).1
    rw [Nat.zero_add, hb.cell, get_flatK _ _ _ _ (by simpa using ht)] at h1
    rw [genVals_at ht]
    exact h1
  apply List.ext_getElem?
  intro t
  rw [List.getElem?_take]
  by_cases ht : t < L.length * 8
  · rw [if_pos (by rw [genVals_len]; exact ht), ← hc t ht]
    simp
  · rw [if_neg (by rw [genVals_len]; exact ht), List.getElem?_eq_none (by rw [genVals_len]; omega)]
theorem sorted_one {M L : List (Str × Int)} (hp : M.Perm L) (hs : M.Pairwise fun a b => a.2 ≤ b.2) (hL : L.Pairwise fun a b => a.2 < b.2) : M = L := by
  refine List.Perm.eq_of_pairwise (le := fun a b : Str × Int => a.2 ≤ b.2) (fun a b ha hb h1 h2 => ?_) hs (hL.imp fun h => Int.le_of_lt h) hp
  have ha' := hp.subset ha
  rw [List.pairwise_iff_getElem] at hL
  obtain ⟨i, hi, rfl⟩ := List.getElem_of_mem ha'
  obtain ⟨j, hj, rfl⟩ := List.getElem_of_mem hb
  rcases Nat.lt_trichotomy i j with h | h | h
  · have := hL i j hi hj h; omega
  · subst h; rfl
  · have := hL j i hj hi h; omega
end Go.Proofs.Ytmkccblcmiflfaa
