/- The notes that a catalog tells: their rows. No condition beyond those that each theorem states. -/
import Derived.Test.YtmkccblcmiflfaaKC22
namespace Go.Proofs.Ytmkccblcmiflfaa
open Go.RowKit Go.Maps Go.WideMaps

/-- A part of something that is handed out: nil, or a row from a new block's beginning on. -/
def PartAt (w0 w : World) (t : TypeId) (A : Option Addr) (n c : Nat) (xs : List Value) : Prop :=
  (A = none ∧ n = 0 ∧ c = 0 ∧ xs = []) ∨ ∃ g, A = some ⟨g, 0, none⟩ ∧ w0.heap.size ≤ g ∧ RowAt w g t xs ∧ n ≤ c ∧ c ≤ maxLen
section
variable {w0 w w' : World} {t : TypeId} {A : Option Addr} {n c : Nat} {xs : List Value}
theorem PartAt.nil (w0 w : World) (t : TypeId) : PartAt w0 w t none 0 0 [] := .inl ⟨rfl, rfl, rfl, rfl⟩
theorem PartAt.below (h : PartAt w0 w t A n c xs) (hb : Below w.heap.size w w') : PartAt w0 w' t A n c xs :=
  h.imp id fun ⟨g, h1, h2, h3, h4⟩ => ⟨g, h1, h2, h3.of_eq (hb.block g h3.size), h4⟩
theorem PartAt.of_own (h : w.ownsRow w0.heap.size t 1 (.slice A n c) n xs) : PartAt w0 w t A n c xs := by
  have hl := h.1
  rcases h.2 with ⟨e, h0⟩ | ⟨g, cap, cur, e, h1, h2, h3, h4, _⟩
  · cases e
    exact .inl ⟨rfl, rfl, rfl, List.eq_nil_of_length_eq_zero (by simpa using hl)⟩
  · cases e
    exact .inr ⟨g, rfl, h1, RowAt.of_own h, h3, h4⟩
theorem PartAt.of_out (h : OutAt w0 w t (.slice A n n) n xs) (hn : n ≤ maxLen) : PartAt w0 w t A n n xs := by
  rcases h with ⟨e, rfl, hx⟩ | ⟨g, e, h1, h2⟩
  · cases e
    exact .inl ⟨rfl, rfl, rfl, hx⟩
  · cases e
    exact .inr ⟨g, rfl, h1, h2, Nat.le_refl _, hn⟩
theorem PartAt.old {w1 : World} (h : PartAt w1 w t A n c xs) (hz : w0.heap.size ≤ w1.heap.size) : PartAt w0 w t A n c xs :=
  h.imp id fun ⟨g, h1, h2, h3⟩ => ⟨g, h1, Nat.le_trans hz h2, h3⟩
theorem PartAt.grown {row : Option Nat} {t' : TypeId} (h : PartAt w0 w t A n c xs) (hg : w.grownBy w' row) (hr : ∀ g, row = some g → ∃ cs, w.heap[g]? = some (.cells cs t' (0, 0))) (hne : t' ≠ t) : PartAt w0 w' t A n c xs := by
  rcases h with h | ⟨g, h1, h2, h3, h4⟩
  · exact .inl h
  · refine .inr ⟨g, h1, h2, h3.of_eq (hg.block g h3.size (fun e => ?_)), h4⟩
    obtain ⟨cs, hc⟩ := hr g e.symm
    obtain ⟨cs', hc', _⟩ := h3
    rw [hc] at hc'
    injection hc' with hc'
    injection hc' with _ ht _
    exact hne ht
end
/-- A note that is handed out, where its bytes and places lie. -/
structure NoteP where
  v : NoteV
  D : Option Addr
  dc : Nat
  Q : Option Addr
  qc : Nat
def NoteP.cells (r : NoteP) : List Value := [.int .i64 r.v.kind, encStr r.v.key, .int .i64 r.v.gen, .int .i64 r.v.cart, .slice r.D r.v.data.length r.dc, encStr r.v.sum, .int .i64 r.v.size, .slice r.Q r.v.places.length r.qc]
def notePVals (l : List NoteP) : List Value := l.flatMap NoteP.cells
theorem notePVals_app (l m : List NoteP) : notePVals (l ++ m) = notePVals l ++ notePVals m := by simp [notePVals]
theorem notePVals_one1 (r : NoteP) : notePVals [r] = r.cells := by simp [notePVals]
theorem notePVals_len (l : List NoteP) : (notePVals l).length = l.length * 8 := by
  induction l with
  | nil => rfl
  | cons x l ih =>
    show (x.cells ++ notePVals l).length = _
    rw [List.length_append, ih, List.length_cons]
    show 8 + l.length * 8 = _
    omega
theorem noteP_one (r : NoteP) : ∀ u ∈ r.cells, u.oneCell' = true := by
  intro u hu
  simp only [NoteP.cells, List.mem_cons, List.not_mem_nil, or_false] at hu
  rcases hu with rfl | rfl | rfl | rfl | rfl | rfl | rfl | rfl <;> rfl
structure NotePOk (w0 w : World) (r : NoteP) : Prop where
  data : PartAt w0 w 5 r.D r.v.data.length r.dc (byteVals r.v.data)
  places : PartAt w0 w 40 r.Q r.v.places.length r.qc (placeVals r.v.places)
theorem NotePOk.below {w0 w w' : World} {r : NoteP} (h : NotePOk w0 w r) (hb : Below w.heap.size w w') : NotePOk w0 w' r := ⟨h.data.below hb, h.places.below hb⟩
theorem NotePOk.grown {w0 w w' : World} {r : NoteP} {row : Option Nat} (h : NotePOk w0 w r) (hg : w.grownBy w' row) (hr : ∀ g, row = some g → ∃ cs, w.heap[g]? = some (.cells cs 26 (0, 0))) : NotePOk w0 w' r :=
  ⟨h.data.grown hg hr (by decide), h.places.grown hg hr (by decide)⟩
/-- Notes collected so far. -/
def NSt (w0 w : World) (v : Value) (L : List NoteV) : Prop :=
  ∃ NP : List NoteP, NP.map (·.v) = L ∧ w.ownsRow w0.heap.size 26 8 v L.length (notePVals NP) ∧ (∀ r ∈ NP, NotePOk w0 w r) ∧ Below w0.heap.size w0 w
theorem NSt.start (w : World) : NSt w w (.slice none 0 0) [] := ⟨[], rfl, World.ownsRow_nil _ _ _ _, (fun _ h => by cases h), Below.refl _ _⟩
theorem NSt.below {w0 w w' : World} {v : Value} {L : List NoteV} (h : NSt w0 w v L) (hb : Below w.heap.size w w') : NSt w0 w' v L := by
  obtain ⟨NP, h1, h2, h3, h4⟩ := h
  exact ⟨NP, h1, own_of_eq h2 (fun g hg => hb.block g (h2.lt g hg).2), fun r hr => (h3 r hr).below hb, h4.trans (hb.mono h4.size)⟩
theorem NSt.bel {w0 w : World} {v : Value} {L : List NoteV} (h : NSt w0 w v L) : Below w0.heap.size w0 w := by
  obtain ⟨NP, h1, h2, h3, h4⟩ := h
  exact h4
theorem NSt.form {w0 w : World} {v : Value} {L : List NoteV} (h : NSt w0 w v L) : ∃ B c, v = .slice B L.length c ∧ L.length ≤ c ∧ c ≤ maxLen ∧ ((B = none ∧ L.length = 0 ∧ c = 0) ∨ ∃ g, B = some ⟨g, 0, none⟩) := by
  obtain ⟨NP, h1, h2, h3, h4⟩ := h
  exact own_form h2
/-- Append notes, whose cells lie somewhere. -/
theorem wpList_append_n (w0 W : World) {ops : Array Oper} {rest : List Oper} {o : Oper} {a : Act} {Q : Exit → Act → World → Prop} (hgd : o.guard = none) (s x : Operand)
    (ho : o.op = .call { callee := .builtin .append, args := #[s, x], argTypes := #[22, 22] })
    (v : Value) (L : List NoteV) (hs : a.eval s = v) (hst : NSt w0 W v L)
    (A : Option Addr) (m c : Nat) (NN : List NoteP) (hm : NN.length = m) (hA : A = none → m = 0) (hx : a.eval x = .slice A m c) (hr : SrcAt W A m (notePVals NN)) (hok : ∀ r ∈ NN, NotePOk w0 W r)
    (hL : L.length + m ≤ 1000000)
    (h : ∀ v' w', NSt w0 w' v' (L ++ NN.map (·.v)) → W.heap.size ≤ w'.heap.size → (∀ g, g < W.heap.size → v.ownBlock ≠ some g → w'.heap[g]? = W.heap[g]?) → (v'.ownBlock = v.ownBlock ∨ v'.ownBlock = some W.heap.size) → wpList Try.prog ops Q rest (a.put o.dst v') w') : wpList Try.prog ops Q (o :: rest) a W := by
  obtain ⟨i0, hi0, hz0, hz1, hz2⟩ := info_parts noteC_info
  obtain ⟨NP, h1, h2, h3, h4⟩ := hst
  refine wpList_append_src W hgd s x 22 ho w0.heap.size 26 i0 _ 8 112 Try.underlying22 hi0 hz0 hz1 hz2 rfl (by omega) v L.length (notePVals NP) hs h2 A m c (notePVals NN) hx (by rw [notePVals_len, hm]) hA hr (fun u hu => by
    obtain ⟨r, _, hu⟩ := List.mem_flatMap.1 hu
    exact noteP_one r u hu) (by simp only [maxLen]; omega) (by omega) h4.size fun v' w' ho' hg' hat' => ?_
  refine h v' w' ⟨NP ++ NN, by rw [List.map_append, h1], by rw [notePVals_app, List.length_append, List.length_map, hm]; exact ho', fun r hr => ?_, h4.grown hg' h4.size (fun q hq => (h2.lt q hq).1)⟩ hg'.size (fun g hg hne => hg'.block g hg (fun e => hne e.symm)) hat'
  have hk : ∀ g, v.ownBlock = some g → ∃ cs, W.heap[g]? = some (.cells cs 26 (0, 0)) := fun g hg => own_kind h2 g hg
  rcases List.mem_append.1 hr with hr | hr
  · exact (h3 r hr).grown hg' hk
  · exact (hok r hr).grown hg' hk
end Go.Proofs.Ytmkccblcmiflfaa
