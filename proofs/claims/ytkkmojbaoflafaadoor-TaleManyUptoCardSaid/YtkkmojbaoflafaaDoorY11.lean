/- A range over a text's lines, as a statement. No condition beyond those that each theorem states. -/
import Derived.Test.YtkkmojbaoflafaaDoorY10
namespace Go.Proofs.YtkkmojbaoflafaaDoor
open Go.RowKit Go.Shelf
attribute [local go_sem] Oper.semAt_some

/-- How a round's body is left. -/
def roundEnd (base b : Nat) (u : Value) (I Jr : List Str → World → Prop) (xs : List Str) (W : World) : Exit → Act → World → Prop
  | .normal, _, W' => (∀ k, base ≤ k → k < base + 2 → W'.heap[k]? = W.heap[k]?) ∧ Blk W' b 9 #[u] ∧ I xs W'
  | .ret, _, W' => (∀ k, base ≤ k → k < base + 2 → W'.heap[k]? = W.heap[k]?) ∧ Jr xs W'
  | .exit _, _, _ => False
  | .goto _, _, _ => False
  | .panic _, _, _ => False
  | .outgrown, _, _ => False
section
set_option maxHeartbeats 8000000
set_option maxRecDepth 8000
theorem range_lines {g : Operand} {ps : Array Tmp} {assign body : Code} {Q : Exit → Act → World → Prop} {a : Act} {w : World} {b : Nat} {s : Str} (hg : a.eval g = .func (.func 44) #[] #[.pointer (some ⟨b, 0, none⟩)]) (hps : ps.size = 1)
    (hs : s.length ≤ 1000000000) (hb : Blk w b 9 #[strV s]) (I Jr : List Str → World → Prop) (hId : ∀ pre W, I pre W → I pre W.drew) (hIs : ∀ pre W u v, I pre W → Blk W b 9 #[u] → I pre (W.setCell ⟨b, 0, none⟩ v))
    (hIp : ∀ pre W k o, w.heap.size ≤ k → k < w.heap.size + 2 → k < W.heap.size → I pre W → I pre (W.putObj k o)) (hJp : ∀ pre W k o, w.heap.size ≤ k → k < w.heap.size + 2 → k < W.heap.size → Jr pre W → Jr pre (W.putObj k o))
    (h0 : ∀ o o', I [] ((w.alloc o).alloc o')) (a₁ : Str → Act)
    (hassign : ∀ (l : Nat) (x : Str) (W : World) (K : Act → World → Prop), K (a₁ x) W → assign.wpIn (Fence.wide.inRound l) 1 Tryd.prog (Exit.then K (fun _ _ _ => False)) { tmps := (ps.zip #[strV x]).foldl (fun t (p, v) => t.setIfInBounds p v) a.tmps, defers := [] } W)
    (hbody : ∀ (l : Nat) (pre : List Str) (x : Str) (W : World) (u : Value), pre ++ [x] <+: rawLines s → I pre W → Blk W b 9 #[u] → w.heap.size + 2 ≤ W.heap.size → body.wpIn (Fence.wide.inRound l) 1 Tryd.prog (roundEnd w.heap.size b u I Jr (pre ++ [x]) W) (a₁ x) W)
    (hdone : ∀ (W : World), I (rawLines s) W → W.heap[w.heap.size]? = some (.deferred (some [])) → Q .normal { a with defers := { target := .collected w.heap.size, args := #[] } :: a.defers } W)
    (hstop : ∀ (pre : List Str) (W : World), pre <+: rawLines s → Jr pre W → W.heap[w.heap.size]? = some (.deferred (some [])) → Code.ret.wpIn Fence.wide 3 Tryd.prog Q { a with defers := { target := .collected w.heap.size, args := #[] } :: a.defers } W) :
    (Code.rangeFunc g ps assign body).wpIn Fence.wide 3 Tryd.prog Q a w := by
  have eg : ∀ args w, (callFunc 44 args).run Tryd.prog w = .ok (.enter 44 args) w := enters_of Tryd.func44 (by kernel_rfl) rfl
  refine wpIn_rangeFunc fun fn hfn => ?_
  obtain ⟨rec, hrec⟩ : ∃ rec : LoopState → Option Code → Loop, rec = fun st pe => { state := st, pending := pe, fn, tmps := a.tmps, params := ps, assign, body, defers := w.heap.size } := ⟨_, rfl⟩
  obtain ⟨W1, hW1⟩ : ∃ W1, (w.alloc (.deferred (some []))).alloc (.loop (rec .ready none)) = W1 := ⟨_, rfl⟩
  have hL1 : W1.heap[w.heap.size + 1]? = some (.loop (rec .ready none)) := by
    rw [← hW1]
    have h := World.alloc_heap_new (w.alloc (.deferred (some []))) (.loop (rec .ready none))
    rwa [World.size_alloc] at h
  have hK1 : W1.heap[w.heap.size]? = some (.deferred (some [])) := by
    rw [← hW1]
    exact (Below.heap_alloc _ _ _ (by simp)).trans (World.alloc_heap_new w _)
  have hB1 : Blk W1 b 9 #[strV s] := by
    rw [← hW1]
    exact (hb.alloc _).alloc _
  have hI1 : I [] W1 := by rw [← hW1]; exact h0 _ _
  refine ⟨w.heap.size + 1, [{ target := .collected w.heap.size, args := #[] }], W1, { target := .fn (.func 44) #[.pointer (some ⟨b, 0, none⟩)], args := #[.func (.yield (w.heap.size + 1)) #[] #[]] }, W1, 44,
    #[.func (.yield (w.heap.size + 1)) #[] #[], .pointer (some ⟨b, 0, none⟩)], W1, ?_, ?_, ?_, ?_, ?_, ?_⟩
  · rw [← hW1, hrec]
    exact run_enterLoop_outer _ _ _ _ _
  · simp only [resolve, hg]
    simp [go_sem]
  · intro f' _
    trivial
  · simp [invoke, go_sem, eg]
  · intro _
    omega
  · refine (lines_it b s (w.heap.size + 1) (fun pre W => I pre W ∧ W.heap[w.heap.size + 1]? = some (.loop (rec .ready none)) ∧ W.heap[w.heap.size]? = some (.deferred (some [])))
      (fun pre W => Jr pre W ∧ W.heap[w.heap.size + 1]? = some (.loop (rec .done (some .ret))) ∧ W.heap[w.heap.size]? = some (.deferred (some []))) W1
      (fun pre W ⟨h1, h2, h3⟩ => ⟨hId _ _ h1, h2, h3⟩)
      (fun pre W u v ⟨h1, h2, h3⟩ hbl => ⟨hIs _ _ u v h1 hbl, (Below.heap_setCell W _ v _ (fun e => by
          have e' : w.heap.size + 1 = b := e
          unfold Blk at hbl
          rw [← e', h2] at hbl
          cases hbl)).trans h2, (Below.heap_setCell W _ v _ (fun e => by
          have e' : w.heap.size = b := e
          unfold Blk at hbl
          rw [← e', h3] at hbl
          cases hbl)).trans h3⟩)
      ?_ hB1 ⟨hI1, hL1, hK1⟩ hs).mono ?_
    · rintro pre x W u hpf ⟨hi, hl, hk⟩ hbl
      have hlt : w.heap.size + 1 < W.heap.size := (Array.getElem?_eq_some_iff.1 hl).1
      have hy := run_yield (P := Tryd.prog) (args := #[strV x]) hl (by rw [hrec]; exact hps.symm)
      rw [hrec] at hy
      refine ⟨fn, _, assign, body, hy, roundIn_of_wpIn hfn (hassign _ x W _ ⟨_, run_beginRound hl (by rw [hrec]), ?_⟩)⟩
      have hbn : b ≠ w.heap.size + 1 := fun e => by
        unfold Blk at hbl
        rw [e, hl] at hbl
        cases hbl
      obtain ⟨W2, hW2⟩ : ∃ W2, W.putObj (w.heap.size + 1) (.loop { rec .ready none with state := .busy }) = W2 := ⟨_, rfl⟩
      rw [hW2]
      have hl2 : W2.heap[w.heap.size + 1]? = some (.loop { rec .ready none with state := .busy }) := by rw [← hW2]; exact World.putObj_heap_same hlt
      have hk2 : W2.heap[w.heap.size]? = some (.deferred (some [])) := by rw [← hW2]; exact (World.putObj_heap_other (by omega)).trans hk
      have hb2 : Blk W2 b 9 #[u] := by rw [← hW2]; exact hbl.of_eq (World.putObj_heap_other hbn)
      have hi2 : I pre W2 := by rw [← hW2]; exact hIp _ _ _ _ (by omega) (by omega) hlt hi
      have hz2 : w.heap.size + 2 ≤ W2.heap.size := by rw [← hW2, World.putObj_size]; omega
      refine wpIn_mono (hbody _ pre x W2 u hpf hi2 hb2 hz2) ?_
      have fin : ∀ (jump : Option Code) (W3 : World), (∀ k, w.heap.size ≤ k → k < w.heap.size + 2 → W3.heap[k]? = W2.heap[k]?) →
          (Instr.endRound (w.heap.size + 1) jump).run Tryd.prog W3 = .ok (.bool jump.isNone) (W3.putObj (w.heap.size + 1) (.loop (rec (if jump.isNone then .ready else .done) jump))) ∧ w.heap.size + 1 < W3.heap.size ∧
          (W3.putObj (w.heap.size + 1) (.loop (rec (if jump.isNone then .ready else .done) jump))).heap[w.heap.size + 1]? = some (.loop (rec (if jump.isNone then .ready else .done) jump)) ∧
          (W3.putObj (w.heap.size + 1) (.loop (rec (if jump.isNone then .ready else .done) jump))).heap[w.heap.size]? = some (.deferred (some [])) := fun jump W3 hk3 => by
        have hl3 : W3.heap[w.heap.size + 1]? = some (.loop { rec .ready none with state := .busy }) := (hk3 _ (by omega) (by omega)).trans hl2
        have hz := (Array.getElem?_eq_some_iff.1 hl3).1
        have h := run_endRound (P := Tryd.prog) jump hl3
        rw [hrec] at h ⊢
        exact ⟨h, hz, World.putObj_heap_same hz, (World.putObj_heap_other (by omega)).trans ((hk3 _ (by omega) (by omega)).trans hk2)⟩
      rintro e a3 W3 hp
      cases e with
      | normal =>
        obtain ⟨hk3, hb3, hi3⟩ := hp
        obtain ⟨hr, hz, hl4, hk4⟩ := fin none W3 hk3
        exact ⟨_, _, hr, .inl ⟨rfl, ⟨hIp _ _ _ _ (by omega) (by omega) hz hi3, hl4, hk4⟩, hb3.of_eq (World.putObj_heap_other hbn)⟩⟩
      | ret =>
        obtain ⟨hk3, hi3⟩ := hp
        obtain ⟨hr, hz, hl4, hk4⟩ := fin (some .ret) W3 hk3
        exact ⟨_, _, hr, .inr ⟨rfl, hJp _ _ _ _ (by omega) (by omega) hz hi3, hl4, hk4⟩⟩
      | exit id => exact hp.elim
      | goto t => exact hp.elim
      | panic ch => exact hp.elim
      | outgrown => exact hp.elim
    · rintro e W2 ⟨⟨v, rfl⟩, (⟨hi, hl, hk⟩ | ⟨pre, hpre, hi, hl, hk⟩)⟩
      · have hz := (Array.getElem?_eq_some_iff.1 hl).1
        refine ⟨none, _, by have h := run_endLoop (P := Tryd.prog) hl (by rw [hrec]; simp); rw [hrec] at h; exact h, ?_⟩
        exact hdone _ (hIp _ _ _ _ (by omega) (by omega) hz hi) ((World.putObj_heap_other (by omega)).trans hk)
      · have hz := (Array.getElem?_eq_some_iff.1 hl).1
        refine ⟨some .ret, _, by have h := run_endLoop (P := Tryd.prog) hl (by rw [hrec]; simp); rw [hrec] at h; exact h, ?_⟩
        exact hstop pre _ hpre (hJp _ _ _ _ (by omega) (by omega) hz hi) ((World.putObj_heap_other (by omega)).trans hk)
end
end Go.Proofs.YtkkmojbaoflafaaDoor
