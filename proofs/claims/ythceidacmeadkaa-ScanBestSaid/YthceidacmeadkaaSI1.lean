/- A range over an iterator's elements, as a statement. No condition beyond those that each theorem states. -/
import Derived.Test.YthceidacmeadkaaG1
import Derived.RangeFuncNested
import Derived.RangeFuncBound
import Derived.RangeFuncCalls
import Derived.RangeFuncLeaves
import Derived.OwnWalkIn
import Derived.TacticsInMore
import Derived.LoopNIn
import Derived.LoopIn
import Derived.RegionIn
namespace Go.Proofs.Ythceidacmeadkaa
open Go.RowKit
attribute [local go_sem] Oper.semAt_some

/-- The iterator it over what caps captured hands out xs, one behind the other, as long as Inv holds, until it is stopped. -/
def Iterates {α : Type} (it : Nat) (caps : Array Value) (val : α → Array Value) (xs : List α) (Inv : World → Prop) : Prop :=
  ∀ (l : Nat) (J Jx : List α → World → Prop) (W : World), (∀ pre W W', J pre W → Below W.heap.size W W' → J pre W') → (∀ pre W, J pre W → Inv W) →
    (∀ pre x W1, pre ++ [x] <+: xs → J pre W1 → YieldAt Fence.wide 1 Try.prog l (val x) W1 fun e W' => (e = .returned (.bool true) ∧ J (pre ++ [x]) W') ∨ (e = .returned (.bool false) ∧ Jx (pre ++ [x]) W')) →
    J [] W → CallsIn Fence.wide 2 Try.prog it (#[.func (.yield l) #[] #[]] ++ caps) W fun e W' => (∃ v, e = .returned v) ∧ (J xs W' ∨ ∃ pre, pre <+: xs ∧ Jx pre W')
/-- How a round's body is left. -/
def roundEnd {α : Type} (base : Nat) (I Jr : List α → World → Prop) (xs : List α) (W : World) : Exit → Act → World → Prop
  | .normal, _, W' => (∀ k, base ≤ k → k < base + 2 → W'.heap[k]? = W.heap[k]?) ∧ I xs W'
  | .ret, _, W' => (∀ k, base ≤ k → k < base + 2 → W'.heap[k]? = W.heap[k]?) ∧ Jr xs W'
  | .exit _, _, _ => False
  | .goto _, _, _ => False
  | .panic _, _, _ => False
  | .outgrown, _, _ => False
section
set_option maxHeartbeats 8000000
set_option maxRecDepth 8000
theorem range_iter {α : Type} {g : Operand} {ps : Array Tmp} {assign body : Code} {Q : Exit → Act → World → Prop} {a : Act} {w : World} {it : Nat} {caps : Array Value} {val : α → Array Value} {xs : List α} {Inv : World → Prop}
    (eg : ∀ args w, (callFunc it args).run Try.prog w = .ok (.enter it args) w) (hit : Iterates it caps val xs Inv)
    (hg : a.eval g = .func (.func it) #[] caps) (hps : ∀ x, (val x).size = ps.size)
    (I Jr : List α → World → Prop) (hIb : ∀ pre W W', I pre W → Below W.heap.size W W' → I pre W') (hInv : ∀ pre W, I pre W → Inv W)
    (hIp : ∀ pre W k o, w.heap.size ≤ k → k < w.heap.size + 2 → k < W.heap.size → I pre W → I pre (W.putObj k o)) (hJp : ∀ pre W k o, w.heap.size ≤ k → k < w.heap.size + 2 → k < W.heap.size → Jr pre W → Jr pre (W.putObj k o))
    (h0 : I [] w) (wa : α → World → World) (hwa : ∀ x W, Below W.heap.size W (wa x W)) (a₁ : α → World → Act)
    (hassign : ∀ (l : Nat) (x : α) (W : World) (K : Act → World → Prop), K (a₁ x W) (wa x W) → assign.wpIn (Fence.wide.inRound l) 1 Try.prog (Exit.then K (fun _ _ _ => False)) { tmps := (ps.zip (val x)).foldl (fun t (p, v) => t.setIfInBounds p v) a.tmps, defers := [] } W)
    (hbody : ∀ (l : Nat) (pre : List α) (x : α) (W0 W : World), pre ++ [x] <+: xs → I pre W0 → I pre W → w.heap.size + 2 ≤ W0.heap.size → W.heap.size = (wa x W0).heap.size → (∀ k, k ≠ w.heap.size + 1 → W.heap[k]? = (wa x W0).heap[k]?) →
      body.wpIn (Fence.wide.inRound l) 1 Try.prog (roundEnd w.heap.size I Jr (pre ++ [x]) W) (a₁ x W0) W)
    (hdone : ∀ (W : World), I xs W → W.heap[w.heap.size]? = some (.deferred (some [])) → Q .normal { a with defers := { target := .collected w.heap.size, args := #[] } :: a.defers } W)
    (hstop : ∀ (pre : List α) (W : World), pre <+: xs → Jr pre W → W.heap[w.heap.size]? = some (.deferred (some [])) → Code.ret.wpIn Fence.wide 3 Try.prog Q { a with defers := { target := .collected w.heap.size, args := #[] } :: a.defers } W) :
    (Code.rangeFunc g ps assign body).wpIn Fence.wide 3 Try.prog Q a w := by
  refine wpIn_rangeFunc fun fn hfn => ?_
  obtain ⟨rec, hrec⟩ : ∃ rec : LoopState → Option Code → Loop, rec = fun st pe => { state := st, pending := pe, fn, tmps := a.tmps, params := ps, assign, body, defers := w.heap.size } := ⟨_, rfl⟩
  obtain ⟨W1, hW1⟩ : ∃ W1, (w.alloc (.deferred (some []))).alloc (.loop (rec .ready none)) = W1 := ⟨_, rfl⟩
  have hL1 : W1.heap[w.heap.size + 1]? = some (.loop (rec .ready none)) := by
    rw [← hW1]
    have h := World.alloc_heap_new (w.alloc (.deferred (some []))) (.loop (rec .ready none))
    rwa [World.size_alloc] at h
  have hK1 : W1.heap[w.heap.size]? = some (.deferred (some [])) := by
    rw [← hW1]
    exact (Below.heap_alloc _ _ _ (by simp)).trans (World.alloc_heap_new w _)
  have hI1 : I [] W1 := by
    rw [← hW1]
    exact hIb _ _ _ h0 (((Below.refl _ w).alloc (Nat.le_refl _) _).alloc (by simp) _)
  refine ⟨w.heap.size + 1, [{ target := .collected w.heap.size, args := #[] }], W1, { target := .fn (.func it) caps, args := #[.func (.yield (w.heap.size + 1)) #[] #[]] }, W1, it,
    #[.func (.yield (w.heap.size + 1)) #[] #[]] ++ caps, W1, ?_, ?_, ?_, ?_, ?_, ?_⟩
  · rw [← hW1, hrec]
    exact run_enterLoop_outer _ _ _ _ _
  · simp only [resolve, hg]
    simp [go_sem]
  · intro f' _
    trivial
  · simp [invoke, go_sem, eg]
  · intro _
    omega
  · refine (hit (w.heap.size + 1) (fun pre W => I pre W ∧ W.heap[w.heap.size + 1]? = some (.loop (rec .ready none)) ∧ W.heap[w.heap.size]? = some (.deferred (some [])))
      (fun pre W => Jr pre W ∧ W.heap[w.heap.size + 1]? = some (.loop (rec .done (some .ret))) ∧ W.heap[w.heap.size]? = some (.deferred (some []))) W1
      (fun pre W W' ⟨h1, h2, h3⟩ hb => ⟨hIb _ _ _ h1 hb, (hb.block _ (Array.getElem?_eq_some_iff.1 h2).1).trans h2, (hb.block _ (Array.getElem?_eq_some_iff.1 h3).1).trans h3⟩)
      (fun pre W ⟨h1, _, _⟩ => hInv pre W h1)
      ?_ ⟨hI1, hL1, hK1⟩).mono ?_
    · rintro pre x W0 hpf ⟨hi0, hl0, hk0⟩
      have hz0 : w.heap.size + 1 < W0.heap.size := (Array.getElem?_eq_some_iff.1 hl0).1
      have hy := run_yield (P := Try.prog) (args := val x) hl0 (by rw [hrec]; exact (hps x))
      rw [hrec] at hy
      have hwb := hwa x W0
      obtain ⟨W, hW⟩ : ∃ W, wa x W0 = W := ⟨_, rfl⟩
      rw [hW] at hwb
      have hi : I pre W := hIb _ _ _ hi0 hwb
      have hl : W.heap[w.heap.size + 1]? = some (.loop (rec .ready none)) := (hwb.block _ hz0).trans hl0
      have hk : W.heap[w.heap.size]? = some (.deferred (some [])) := (hwb.block _ (by omega)).trans hk0
      have hlt : w.heap.size + 1 < W.heap.size := (Array.getElem?_eq_some_iff.1 hl).1
      refine ⟨fn, _, assign, body, hy, roundIn_of_wpIn hfn (hassign _ x W0 _ ?_)⟩
      rw [hW]
      refine ⟨_, run_beginRound hl (by rw [hrec]), ?_⟩
      obtain ⟨W2, hW2⟩ : ∃ W2, W.putObj (w.heap.size + 1) (.loop { rec .ready none with state := .busy }) = W2 := ⟨_, rfl⟩
      rw [hW2]
      have hl2 : W2.heap[w.heap.size + 1]? = some (.loop { rec .ready none with state := .busy }) := by rw [← hW2]; exact World.putObj_heap_same hlt
      have hk2 : W2.heap[w.heap.size]? = some (.deferred (some [])) := by rw [← hW2]; exact (World.putObj_heap_other (by omega)).trans hk
      have hi2 : I pre W2 := by rw [← hW2]; exact hIp _ _ _ _ (by omega) (by omega) hlt hi
      refine wpIn_mono (hbody _ pre x W0 W2 hpf hi0 hi2 (by omega) (by rw [← hW2, World.putObj_size, hW]) (fun k hk => by rw [← hW2, hW]; exact World.putObj_heap_other hk)) ?_
      have fin : ∀ (jump : Option Code) (W3 : World), (∀ k, w.heap.size ≤ k → k < w.heap.size + 2 → W3.heap[k]? = W2.heap[k]?) →
          (Instr.endRound (w.heap.size + 1) jump).run Try.prog W3 = .ok (.bool jump.isNone) (W3.putObj (w.heap.size + 1) (.loop (rec (if jump.isNone then .ready else .done) jump))) ∧ w.heap.size + 1 < W3.heap.size ∧
          (W3.putObj (w.heap.size + 1) (.loop (rec (if jump.isNone then .ready else .done) jump))).heap[w.heap.size + 1]? = some (.loop (rec (if jump.isNone then .ready else .done) jump)) ∧
          (W3.putObj (w.heap.size + 1) (.loop (rec (if jump.isNone then .ready else .done) jump))).heap[w.heap.size]? = some (.deferred (some [])) := fun jump W3 hk3 => by
        have hl3 : W3.heap[w.heap.size + 1]? = some (.loop { rec .ready none with state := .busy }) := (hk3 _ (by omega) (by omega)).trans hl2
        have hz := (Array.getElem?_eq_some_iff.1 hl3).1
        have h := run_endRound (P := Try.prog) jump hl3
        rw [hrec] at h ⊢
        exact ⟨h, hz, World.putObj_heap_same hz, (World.putObj_heap_other (by omega)).trans ((hk3 _ (by omega) (by omega)).trans hk2)⟩
      rintro e a3 W3 hp
      cases e with
      | normal =>
        obtain ⟨hk3, hi3⟩ := hp
        obtain ⟨hr, hz, hl4, hk4⟩ := fin none W3 hk3
        exact ⟨_, _, hr, .inl ⟨rfl, ⟨hIp _ _ _ _ (by omega) (by omega) hz hi3, hl4, hk4⟩⟩⟩
      | ret =>
        obtain ⟨hk3, hi3⟩ := hp
        obtain ⟨hr, hz, hl4, hk4⟩ := fin (some .ret) W3 hk3
        exact ⟨_, _, hr, .inr ⟨rfl, hJp _ _ _ _ (by omega) (by omega) hz hi3, hl4, hk4⟩⟩
      | exit id => exact hp.elim
      | goto t => exact hp.elim
      | panic ch => exact hp.elim
      | outgrown => exact hp.elim
    · rintro e W2 ⟨⟨v, rfl⟩, (⟨hi, hl, hk⟩ | ⟨pre, hpre, hi, hl, hk⟩)⟩
      · have hz := (Array.getElem?_eq_some_iff.1 hl).1
        refine ⟨none, _, by have h := run_endLoop (P := Try.prog) hl (by rw [hrec]; simp); rw [hrec] at h; exact h, ?_⟩
        exact hdone _ (hIp _ _ _ _ (by omega) (by omega) hz hi) ((World.putObj_heap_other (by omega)).trans hk)
      · have hz := (Array.getElem?_eq_some_iff.1 hl).1
        refine ⟨some .ret, _, by have h := run_endLoop (P := Try.prog) hl (by rw [hrec]; simp); rw [hrec] at h; exact h, ?_⟩
        exact hstop pre _ hpre (hJp _ _ _ _ (by omega) (by omega) hz hi) ((World.putObj_heap_other (by omega)).trans hk)
end
end Go.Proofs.Ythceidacmeadkaa
