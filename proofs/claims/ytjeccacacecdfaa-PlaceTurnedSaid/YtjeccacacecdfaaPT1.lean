/- Lists of cartridges that are swapped about; the choice out of a list with its cartridges turned. No condition beyond those that each theorem states. -/
import Derived.Test.YtjeccacacecdfaaPM1
import Derived.Deep.QuietTactic
namespace Go.Proofs.Ytjeccacacecdfaa
open Go.RowKit Go.Shelf Go.Maps

theorem valE_one {E : List (Int × Int)} (h : (E.map Prod.fst).Nodup) {p : Int × Int} (hp : p ∈ E) : valE E p.1 = p.2 := by
  induction E with
  | nil => cases hp
  | cons x E ih =>
    rw [List.map_cons, List.nodup_cons] at h
    unfold valE
    by_cases hx : x.1 = p.1
    · rcases List.mem_cons.1 hp with rfl | hp
      · simp
      · exact absurd (by rw [hx]; exact List.mem_map_of_mem hp) h.1
    · rcases List.mem_cons.1 hp with rfl | hp
      · exact absurd rfl hx
      · rw [List.find?_cons_of_neg (by simpa using hx)]
        exact ih h.2 hp
theorem Ranked.perm_of {E F : List (Int × Int)} {S : List Int} (h : Ranked E S) (hnd : (E.map Prod.fst).Nodup) (hp : F.Perm E) : Ranked F S := by
  have hndF : (F.map Prod.fst).Nodup := ((hp.map Prod.fst).nodup_iff).2 hnd
  have hv : ∀ s ∈ S, valE F s = valE E s := fun s hs => by
    obtain ⟨p, hpE, rfl⟩ := List.mem_map.1 (h.perm.subset hs)
    rw [valE_one hnd hpE, valE_one hndF (hp.symm.subset hpE)]
  refine ⟨h.perm.trans (hp.symm.map _), ?_⟩
  have h2 := h.sorted
  rw [List.pairwise_iff_getElem] at h2 ⊢
  intro i j hi hj hij
  have := h2 i j hi hj hij
  unfold ltE at this ⊢
  rw [hv _ (List.getElem_mem hi), hv _ (List.getElem_mem hj)]
  exact this
def posF (p : Int × Int) : Bool := decide (0 < p.2)
theorem metK_all {l : List (Int × Int)} (hnd : (l.map Prod.fst).Nodup) : ∀ k, metK l [] k = (l.take k).filter posF := by
  intro k
  induction k with
  | zero => rfl
  | succ k ih =>
    unfold metK
    rw [List.take_add_one]
    cases hf : l[k]? with
    | none => simpa using ih
    | some f =>
      simp only [Option.toList_some]
      rw [List.filter_append, ← ih]
      have hh : hasE (metK l [] k) f.1 = false := by
        cases hx : hasE (metK l [] k) f.1 with
        | false => rfl
        | true =>
          have h1 := hasE_mem.1 hx
          rw [ih] at h1
          obtain ⟨p, hp, hpe⟩ := List.mem_map.1 h1
          have hp2 := (List.mem_filter.1 hp).1
          obtain ⟨j, hj⟩ := List.mem_iff_getElem?.1 hp2
          have hjk : j < k := by
            have := (List.getElem?_eq_some_iff.1 hj).1
            rw [List.length_take] at this
            omega
          rw [List.getElem?_take_of_lt hjk] at hj
          have hn := hnd
          rw [List.nodup_iff_pairwise_ne, List.pairwise_iff_getElem] at hn
          obtain ⟨hk, hkf⟩ := List.getElem?_eq_some_iff.1 hf
          obtain ⟨hj', hjp⟩ := List.getElem?_eq_some_iff.1 hj
          have := hn j k (by simpa using hj') (by simpa using hk) hjk
          rw [List.getElem_map, List.getElem_map, hkf, hjp] at this
          exact absurd hpe this
      unfold metS
      rw [hh]
      by_cases hr : 0 < f.2
      · simp [hr, posF, inL]
      · simp [hr, posF]
theorem metM_all {l : List (Int × Int)} (hnd : (l.map Prod.fst).Nodup) : metM l [] = l.filter posF := by
  unfold metM
  rw [metK_all hnd, List.take_length]
/-- The choice out of a list whose cartridges stand in another order. -/
theorem turned_law {E M : List (Int × Int)} {S T : List Int} (hnd : (E.map Prod.fst).Nodup) (hp : M.Perm E) (hS : Ranked (metM E []) S) (hT : Ranked (metM M []) T) : T = S := by
  have hndM : (M.map Prod.fst).Nodup := ((hp.map Prod.fst).nodup_iff).2 hnd
  rw [metM_all hnd] at hS
  rw [metM_all hndM] at hT
  refine hT.one (hS.perm_of ?_ (hp.filter _))
  exact (hnd.sublist ((List.filter_sublist).map _))
theorem turned_len {E M : List (Int × Int)} (hnd : (E.map Prod.fst).Nodup) (hp : M.Perm E) : (metM M []).length = (metM E []).length := by
  have hndM : (M.map Prod.fst).Nodup := ((hp.map Prod.fst).nodup_iff).2 hnd
  rw [metM_all hnd, metM_all hndM]
  exact (hp.filter _).length_eq

def freeV (p : Int × Int) : List Value := [.int .i64 p.1, .int .i64 p.2]
theorem freeV_len (p : Int × Int) : (freeV p).length = 2 := rfl
def freeVs (E : List (Int × Int)) : List Value := E.flatMap freeV
theorem freeVs_len (E : List (Int × Int)) : (freeVs E).length = E.length * 2 := flat_length freeV_len E
theorem freeVs_snoc (E : List (Int × Int)) (p : Int × Int) : freeVs (E ++ [p]) = freeVs E ++ freeV p := by simp [freeVs]
theorem free_info : (Try.prog.info? 32).map (fun i => (i.zero, i.size, i.bytes)) = some (some (.agg #[.int .i64 0, .int .i64 0]), 2, 16) := by kernel_rfl
section
variable {w : World} {base g n cap : Nat} {E : List (Int × Int)}
theorem row_cart (h : w.ownsRow base 32 2 (.slice (some ⟨g, 0, none⟩) n cap) n (freeVs E)) {i : Nat} {p : Int × Int} (hp : E[i]? = some p) : w.cell? ⟨g, i * 2, none⟩ = some (.int .i64 p.1) := by
  have := own_cell h (j := i * 2 + 0) (by rw [freeVs, flat_get freeV_len hp (by decide)]; rfl)
  simpa using this
theorem row_room (h : w.ownsRow base 32 2 (.slice (some ⟨g, 0, none⟩) n cap) n (freeVs E)) {i : Nat} {p : Int × Int} (hp : E[i]? = some p) : w.cell? ⟨g, i * 2 + 1, none⟩ = some (.int .i64 p.2) :=
  own_cell h (j := i * 2 + 1) (by rw [freeVs, flat_get freeV_len hp (by decide)]; rfl)
end
theorem own_made (W : World) {base g : Nat} (t : TypeId) (size : Nat) (hg : g = W.heap.size) (h : base ≤ g) : (W.alloc (.cells #[] t)).ownsRow base t size (.slice (some ⟨g, 0, none⟩) 0 0) 0 [] := by
  subst hg
  exact ⟨by simp, .inr ⟨_, 0, #[], rfl, h, heap_alloc_new _ _, Nat.le_refl _, by simp [maxLen], by simp, by simp⟩⟩

/-- The cells of a block begin with these cartridges. -/
def FreeCs (cs : Array Value) (M : List (Int × Int)) : Prop := M.length * 2 ≤ cs.size ∧ ∀ (j : Nat) (f : Int × Int), M[j]? = some f → cs[j * 2]? = some (.int .i64 f.1) ∧ cs[j * 2 + 1]? = some (.int .i64 f.2)
theorem FreeCs.set {cs : Array Value} {M : List (Int × Int)} (h : FreeCs cs M) {p : Nat} (f : Int × Int) (hp : p < M.length) : FreeCs ((cs.setIfInBounds (p * 2) (.int .i64 f.1)).setIfInBounds (p * 2 + 1) (.int .i64 f.2)) (M.set p f) := by
  obtain ⟨h1, h2⟩ := h
  refine ⟨by simpa using h1, fun j u hu => ?_⟩
  rw [List.getElem?_set] at hu
  by_cases hjp : p = j
  · subst hjp
    rw [if_pos rfl, if_pos hp] at hu
    cases hu
    refine ⟨?_, ?_⟩
    · rw [Array.getElem?_setIfInBounds, if_neg (by omega), Array.getElem?_setIfInBounds, if_pos rfl, if_pos (by omega)]
    · rw [Array.getElem?_setIfInBounds, if_pos rfl, if_pos (by simp; omega)]
  · rw [if_neg hjp] at hu
    obtain ⟨h3, h4⟩ := h2 j u hu
    refine ⟨?_, ?_⟩
    · rw [Array.getElem?_setIfInBounds, if_neg (by omega), Array.getElem?_setIfInBounds, if_neg (by omega)]
      exact h3
    · rw [Array.getElem?_setIfInBounds, if_neg (by omega), Array.getElem?_setIfInBounds, if_neg (by omega)]
      exact h4
/-- A block that begins with these cartridges. -/
def FB (w : World) (g : Nat) (M : List (Int × Int)) : Prop := ∃ cs, Blk w g 32 cs ∧ FreeCs cs M
section
variable {w w' : World} {g : Nat} {M : List (Int × Int)}
theorem FB.of_own {base n cap : Nat} (h : w.ownsRow base 32 2 (.slice (some ⟨g, 0, none⟩) n cap) n (freeVs M)) : FB w g M := by
  obtain ⟨cs, hcs⟩ := own_blk h (g := g) rfl
  have key : ∀ (j : Nat) (f : Int × Int), M[j]? = some f → cs[j * 2]? = some (.int .i64 f.1) ∧ cs[j * 2 + 1]? = some (.int .i64 f.2) := fun j f hf =>
    ⟨(hcs.cell _).symm.trans (row_cart h hf), (hcs.cell _).symm.trans (row_room h hf)⟩
  refine ⟨cs, hcs, ?_, key⟩
  rcases Nat.eq_zero_or_pos M.length with h0 | h0
  · omega
  · obtain ⟨f, hf⟩ : ∃ f, M[M.length - 1]? = some f := ⟨_, List.getElem?_eq_getElem (by omega)⟩
    have := (Array.getElem?_eq_some_iff.1 (key _ f hf).2).1
    omega
theorem FB.of_eq (h : FB w g M) (he : w'.heap[g]? = w.heap[g]?) : FB w' g M := by
  obtain ⟨cs, h1, h2⟩ := h
  exact ⟨cs, h1.of_eq he, h2⟩
theorem FB.size (h : FB w g M) : g < w.heap.size := by
  obtain ⟨cs, h1, h2⟩ := h
  exact h1.size
theorem FB.cart (h : FB w g M) {j : Nat} {f : Int × Int} (hf : M[j]? = some f) : w.cell? ⟨g, j * 2, none⟩ = some (.int .i64 f.1) := by
  obtain ⟨cs, h1, h2⟩ := h
  exact (h1.cell _).trans (h2.2 j f hf).1
theorem FB.room (h : FB w g M) {j : Nat} {f : Int × Int} (hf : M[j]? = some f) : w.cell? ⟨g, j * 2 + 1, none⟩ = some (.int .i64 f.2) := by
  obtain ⟨cs, h1, h2⟩ := h
  exact (h1.cell _).trans (h2.2 j f hf).2
theorem FB.free (h : FB w g M) (i : Nat) : w.frozen? ⟨g, i, none⟩ = false := by
  obtain ⟨cs, h1, h2⟩ := h
  exact h1.free i
theorem FB.frees (h : FB w g M) (hw : ∀ p ∈ M, wfI p.1 ∧ wfI p.2) : FreesIn w (some ⟨g, 0, none⟩) M.length M :=
  ⟨rfl, .inr ⟨g, 0, rfl, h.size, fun i c r hi => by rw [Nat.zero_add]; exact ⟨h.cart hi, h.room hi⟩⟩, hw⟩
theorem FB.alloc (h : FB w g M) (o : Obj) : FB (w.alloc o) g M := h.of_eq (Below.heap_alloc w o g h.size)
theorem FB.apart (h : FB w g M) {p : Addr} (hp : g ≠ p.block) (u : Value) : FB (w.setCell p u) g M := h.of_eq (Below.heap_setCell w p u g hp)
theorem FB.store (h : FB w g M) {p : Nat} (f : Int × Int) (hp : p < M.length) : FB ((w.setCell ⟨g, p * 2, none⟩ (.int .i64 f.1)).setCell ⟨g, p * 2 + 1, none⟩ (.int .i64 f.2)) g (M.set p f) := by
  obtain ⟨cs, h1, h2⟩ := h
  exact ⟨_, (h1.store _ _).store _ _, h2.set f hp⟩
theorem FB.drewN (h : FB w g M) (n : Nat) : FB (w.drewN n) g M := h
end
theorem swap_perm {M : List (Int × Int)} {p s : Nat} {x y : Int × Int} (hp : M[p]? = some x) (hs : M[s]? = some y) : ((M.set p y).set s x).Perm M := by
  obtain ⟨h1, rfl⟩ := List.getElem?_eq_some_iff.1 hp
  obtain ⟨h2, rfl⟩ := List.getElem?_eq_some_iff.1 hs
  exact List.set_set_perm h1 h2
end Go.Proofs.Ytjeccacacecdfaa
