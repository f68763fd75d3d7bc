/- Plain lists: a list of things that take k cells each, as cells. No condition beyond those that each theorem states. -/
import Derived.Test.YthceidacmeadkaaK2
namespace Go.Proofs.Ythceidacmeadkaa
open Go.RowKit

section
variable {α : Type} {vals : α → List Value} {k : Nat} (hk : ∀ x, (vals x).length = k)
include hk

theorem flat_length (xs : List α) : (xs.flatMap vals).length = xs.length * k := by
  induction xs with
  | nil => simp
  | cons x xs ih => rw [List.flatMap_cons, List.length_append, hk, ih, List.length_cons, Nat.add_mul, Nat.one_mul, Nat.add_comm]

theorem flat_get {xs : List α} {i q : Nat} {x : α} (hx : xs[i]? = some x) (hq : q < k) : (xs.flatMap vals)[i * k + q]? = (vals x)[q]? := by
  induction xs generalizing i with
  | nil => simp at hx
  | cons y ys ih =>
    rw [List.flatMap_cons]
    cases i with
    | zero =>
      simp only [List.getElem?_cons_zero, Option.some.injEq] at hx
      subst hx
      rw [Nat.zero_mul, Nat.zero_add, List.getElem?_append_left (by rw [hk]; exact hq)]
    | succ i =>
      rw [List.getElem?_append_right (by rw [hk, Nat.add_mul]; omega), hk]
      rw [show (i + 1) * k + q - k = i * k + q by rw [Nat.add_mul]; omega]
      exact ih (by simpa using hx)

theorem flat_take (xs : List α) (j : Nat) : (xs.take j).flatMap vals = (xs.flatMap vals).take (j * k) := by
  induction xs generalizing j with
  | nil => simp
  | cons y ys ih =>
    cases j with
    | zero => simp
    | succ j =>
      rw [List.take_succ_cons, List.flatMap_cons, List.flatMap_cons, ih j, List.take_append, hk]
      rw [show (j + 1) * k - k = j * k by rw [Nat.add_mul]; omega, List.take_of_length_le (l := vals y) (by rw [hk, Nat.add_mul]; omega)]

theorem flat_drop (xs : List α) (j : Nat) : (xs.drop j).flatMap vals = (xs.flatMap vals).drop (j * k) := by
  induction xs generalizing j with
  | nil => simp
  | cons y ys ih =>
    cases j with
    | zero => simp
    | succ j =>
      rw [List.drop_succ_cons, List.flatMap_cons, ih j, List.drop_append, hk]
      rw [show (j + 1) * k - k = j * k by rw [Nat.add_mul]; omega, List.drop_of_length_le (l := vals y) (by rw [hk, Nat.add_mul]; omega), List.nil_append]
end

section
variable {w : World} {base e size n cap g : Nat} {xs : List Value}
/-- The cells of a row of the call's own. -/
theorem own_cell (h : w.ownsRow base e size (.slice (some ⟨g, 0, none⟩) n cap) n xs) {j : Nat} {u : Value} (hu : xs[j]? = some u) : w.cell? ⟨g, j, none⟩ = some u := by
  have := h.cells (g := g) rfl j u hu
  rw [add_plain, Nat.zero_add] at this
  exact this
theorem own_lt (h : w.ownsRow base e size (.slice (some ⟨g, 0, none⟩) n cap) n xs) : g < w.heap.size := (h.lt g rfl).2
theorem own_cap (h : w.ownsRow base e size (.slice (some ⟨g, 0, none⟩) n cap) n xs) : n ≤ cap ∧ cap ≤ maxLen := by
  rcases h.2 with ⟨h, _⟩ | ⟨g', cap', cur, hv, _, _, h1, h2, _⟩
  · cases h
  · injection hv with _ _ hc
    subst hc
    exact ⟨h1, h2⟩
/-- A piece of it, as the source of an append. -/
theorem own_src (h : w.ownsRow base e size (.slice (some ⟨g, 0, none⟩) n cap) n xs) (o m : Nat) (news : List Value) (hn : ∀ q u, news[q]? = some u → xs[o + q]? = some u) : SrcAt w (some ⟨g, o, none⟩) m news :=
  .inr ⟨g, o, rfl, fun q u hu => own_cell h (hn q u hu)⟩
theorem own_kept {w' : World} (h : w.ownsRow base e size (.slice (some ⟨g, 0, none⟩) n cap) n xs) (hb : w'.heap[g]? = w.heap[g]?) : w'.ownsRow base e size (.slice (some ⟨g, 0, none⟩) n cap) n xs := by
  refine ⟨h.1, ?_⟩
  rcases h.2 with ⟨h, _⟩ | ⟨g', cap', cur, hv, h1, h2, h3⟩
  · cases h
  · have e : g = g' := by
      injection hv with hv
      injection hv with hv
      injection hv
    subst e
    exact .inr ⟨g, cap', cur, hv, h1, by rw [hb]; exact h2, h3⟩
theorem own_drewN {w : World} {v : Value} (h : w.ownsRow base e size v n xs) (k : Nat) : (w.drewN k).ownsRow base e size v n xs := h
theorem src_new (W : World) (cs : List Value) (t : TypeId) (m : Nat) : SrcAt (W.alloc (.cells cs.toArray t)) (some ⟨W.heap.size, 0, none⟩) m cs :=
  .inr ⟨_, 0, rfl, fun q u hu => by
    rw [Nat.zero_add, cell_of_row _ _ q _ _ (0, 0) (heap_alloc_new W _)]
    simpa using hu⟩
end

/-- Block g is just these cells, none of them frozen. -/
def Blk (w : World) (g : Nat) (t : TypeId) (cs : Array Value) : Prop := w.heap[g]? = some (.cells cs t (0, 0))
section
variable {w w' : World} {g : Nat} {t : TypeId} {cs : Array Value}
theorem Blk.size (h : Blk w g t cs) : g < w.heap.size := (Array.getElem?_eq_some_iff.1 h).1
theorem Blk.cell (h : Blk w g t cs) (i : Nat) : w.cell? ⟨g, i, none⟩ = cs[i]? := cell_of_row w g i cs t (0, 0) h
theorem Blk.free (h : Blk w g t cs) (i : Nat) : w.frozen? ⟨g, i, none⟩ = false := by
  unfold Blk at h
  simp [World.frozen?, h]
theorem Blk.made (w : World) (t : TypeId) (cs : Array Value) : Blk (w.alloc (.cells cs t)) w.heap.size t cs := heap_alloc_new w _
theorem Blk.of_eq (h : Blk w g t cs) (he : w'.heap[g]? = w.heap[g]?) : Blk w' g t cs := he.trans h
theorem Blk.drewN (h : Blk w g t cs) (n : Nat) : Blk (w.drewN n) g t cs := h
theorem Blk.alloc (h : Blk w g t cs) (o : Obj) : Blk (w.alloc o) g t cs := (Below.heap_alloc w o g h.size).trans h
theorem Blk.store (h : Blk w g t cs) (i : Nat) (u : Value) : Blk (w.setCell ⟨g, i, none⟩ u) g t (cs.setIfInBounds i u) := by
  unfold Blk at h ⊢
  simp [World.setCell, Array.getElem?_modify, h]
theorem Blk.apart (h : Blk w g t cs) {p : Addr} (hp : g ≠ p.block) (u : Value) : Blk (w.setCell p u) g t cs := (Below.heap_setCell w p u g hp).trans h
theorem Blk.below {B : Nat} (h : Blk w g t cs) (hb : Below B w w') (hg : g < B) : Blk w' g t cs := (hb.block g hg).trans h
theorem Blk.grown {row : Option Nat} (h : Blk w g t cs) (hb : w.grownBy w' row) (hg : row ≠ some g) : Blk w' g t cs := (hb.block g h.size (fun e => hg e.symm)).trans h
end

def sliceLen : Value → Nat
  | .slice _ n _ => n
  | _ => 0

section
variable {P : Program} (w : World)
/-- Append onto a slice that is not nil: its form. -/
theorem wp_append_live {o : Oper} {a : Act} {K : Act → World → Prop} {Q : Exit → Act → World → Prop} (s x : Operand) (t : TypeId)
    (ho : o.op = .call { callee := .builtin .append, args := #[s, x], argTypes := #[t, t] })
    (base : Nat) (e : TypeId) (i : TypeInfo) (z : Value) (size bytes : Nat) (ht : P.underlying t = some (.slice e)) (hi : P.info? e = some i) (hz : i.zero = some z)
    (hsize : i.size = size) (hby : i.bytes = bytes) (hzs : z.cells.size = size) (hsz : 0 < size)
    (g0 n c0 : Nat) (xs : List Value) (hs : a.eval s = .slice (some ⟨g0, 0, none⟩) n c0) (hown : w.ownsRow base e size (.slice (some ⟨g0, 0, none⟩) n c0) n xs)
    (b off m c : Nat) (news : List Value) (hx : a.eval x = .slice (some ⟨b, off, none⟩) m c) (hl : news.length = m * size) (hr : SrcAt w (some ⟨b, off, none⟩) m news) (h1 : ∀ u ∈ news, u.oneCell' = true)
    (h63 : n + m ≤ maxLen) (hbytes : (n + m) * bytes ≤ 140737488355328) (hbase : base ≤ w.heap.size)
    (h : ∀ g cap w', w'.ownsRow base e size (.slice (some ⟨g, 0, none⟩) (n + m) cap) (n + m) (xs ++ news) → w.grownBy w' (some g0) → (g = g0 ∨ g = w.heap.size) → g < w'.heap.size → K (a.put o.dst (.slice (some ⟨g, 0, none⟩) (n + m) cap)) w') : o.wp P a w K Q := by
  have hcells : ∀ j u, news[j]? = some u → w.cell? ((⟨b, off, none⟩ : Addr).add j) = some u := by
    intro j u hu
    rcases hr with ⟨_, rfl⟩ | ⟨b', off', h, hc⟩
    · simp at hu
    · injection h with h
      rw [h, add_plain]
      exact hc j u hu
  obtain ⟨v', w', hrun, h2, h3, h4, h5⟩ := run_append_own_at (P := P) w base t o.type e i z size bytes ht hi hz hsize hby hzs hsz _ n xs hown ⟨b, off, none⟩ m c news hl hcells h1 h63 hbytes hbase
  unfold Oper.wp execOp
  simp only [ho, resolve, invoke, builtin, Sem.run_bind, Sem.run_pure, Result.andThen_ok, List.map_toArray, List.map_cons, List.map_nil, hs, hx, hrun]
  rcases h2.2 with ⟨hv, _⟩ | ⟨g, cap, cur, hv, _, hg, _⟩
  · have := (h4.1 hv).1
    cases this
  · subst hv
    refine h g cap w' h2 h3 ?_ (Array.getElem?_eq_some_iff.1 hg).1
    rcases h5 with h5 | h5
    · exact .inl (Option.some.inj h5)
    · exact .inr (Option.some.inj h5)

theorem wpList_append_live {ops : Array Oper} {rest : List Oper} {o : Oper} {a : Act} {Q : Exit → Act → World → Prop} (hgd : o.guard = none) (s x : Operand) (t : TypeId)
    (ho : o.op = .call { callee := .builtin .append, args := #[s, x], argTypes := #[t, t] })
    (base : Nat) (e : TypeId) (i : TypeInfo) (z : Value) (size bytes : Nat) (ht : P.underlying t = some (.slice e)) (hi : P.info? e = some i) (hz : i.zero = some z)
    (hsize : i.size = size) (hby : i.bytes = bytes) (hzs : z.cells.size = size) (hsz : 0 < size)
    (g0 n c0 : Nat) (xs : List Value) (hs : a.eval s = .slice (some ⟨g0, 0, none⟩) n c0) (hown : w.ownsRow base e size (.slice (some ⟨g0, 0, none⟩) n c0) n xs)
    (b off m c : Nat) (news : List Value) (hx : a.eval x = .slice (some ⟨b, off, none⟩) m c) (hl : news.length = m * size) (hr : SrcAt w (some ⟨b, off, none⟩) m news) (h1 : ∀ u ∈ news, u.oneCell' = true)
    (h63 : n + m ≤ maxLen) (hbytes : (n + m) * bytes ≤ 140737488355328) (hbase : base ≤ w.heap.size)
    (h : ∀ g cap w', w'.ownsRow base e size (.slice (some ⟨g, 0, none⟩) (n + m) cap) (n + m) (xs ++ news) → w.grownBy w' (some g0) → (g = g0 ∨ g = w.heap.size) → g < w'.heap.size → wpList P ops Q rest (a.put o.dst (.slice (some ⟨g, 0, none⟩) (n + m) cap)) w') : wpList P ops Q (o :: rest) a w :=
  wpList_plain hgd fun _ hK => wp_append_live w s x t ho base e i z size bytes ht hi hz hsize hby hzs hsz g0 n c0 xs hs hown b off m c news hx hl hr h1 h63 hbytes hbase fun g cap w' h2 h3 h4 h5 => hK _ _ (h g cap w' h2 h3 h4 h5)
end
end Go.Proofs.Ythceidacmeadkaa
