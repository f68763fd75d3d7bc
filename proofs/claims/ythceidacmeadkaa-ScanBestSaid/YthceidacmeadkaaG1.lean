/- Things in memory, each in blocks of its own: who owns which block. No condition beyond those that each theorem states. -/
import Derived.Test.YthceidacmeadkaaK4
namespace Go.Proofs.Ythceidacmeadkaa
open Go.RowKit

/-- Only these blocks have turned. -/
structure Chg (S : Nat → Prop) (w w' : World) : Prop where
  os : w'.os = w.os
  tape : w'.tape = w.tape
  output : w'.output = w.output
  size : w.heap.size ≤ w'.heap.size
  block : ∀ k, k < w.heap.size → ¬ S k → w'.heap[k]? = w.heap[k]?

theorem Chg.refl (S : Nat → Prop) (w : World) : Chg S w w := ⟨rfl, rfl, rfl, Nat.le_refl _, fun _ _ _ => rfl⟩
theorem Chg.trans {S : Nat → Prop} {a b c : World} (h : Chg S a b) (k : Chg S b c) : Chg S a c :=
  ⟨k.os.trans h.os, k.tape.trans h.tape, k.output.trans h.output, Nat.le_trans h.size k.size, fun i hi hs => (k.block i (Nat.lt_of_lt_of_le hi h.size) hs).trans (h.block i hi hs)⟩
/-- What the second turns, beyond the first, is new. -/
theorem Chg.trans' {S T : Nat → Prop} {a b c : World} (h : Chg S a b) (k : Chg T b c) (hT : ∀ i, i < a.heap.size → T i → S i) : Chg S a c :=
  ⟨k.os.trans h.os, k.tape.trans h.tape, k.output.trans h.output, Nat.le_trans h.size k.size, fun i hi hs => (k.block i (Nat.lt_of_lt_of_le hi h.size) (fun ht => hs (hT i hi ht))).trans (h.block i hi hs)⟩
theorem Chg.mono {S T : Nat → Prop} {a b : World} (h : Chg S a b) (hs : ∀ i, S i → T i) : Chg T a b := ⟨h.os, h.tape, h.output, h.size, fun i hi ht => h.block i hi (fun x => ht (hs i x))⟩
theorem Chg.below {S : Nat → Prop} {a b : World} {B : Nat} (h : Chg S a b) (hB : B ≤ a.heap.size) (hs : ∀ i, S i → B ≤ i) : Below B a b :=
  ⟨h.os, h.tape, h.output, h.size, fun i hi => h.block i (Nat.lt_of_lt_of_le hi hB) (fun x => by have := hs i x; omega)⟩
theorem Chg.of_below {a b : World} (S : Nat → Prop) (h : Below a.heap.size a b) : Chg S a b := ⟨h.os, h.tape, h.output, h.size, fun i hi _ => h.block i hi⟩
theorem Chg.drewN {S : Nat → Prop} {a b : World} (h : Chg S a b) (n : Nat) : Chg S a (b.drewN n) := ⟨h.os, h.tape, h.output, h.size, h.block⟩
theorem Chg.alloc {S : Nat → Prop} {a b : World} (h : Chg S a b) (o : Obj) : Chg S a (b.alloc o) :=
  ⟨h.os, h.tape, h.output, Nat.le_trans h.size (by simp), fun i hi hs => (Below.heap_alloc b o i (Nat.lt_of_lt_of_le hi h.size)).trans (h.block i hi hs)⟩
theorem Chg.store {S : Nat → Prop} {a b : World} (h : Chg S a b) {p : Addr} (hp : S p.block ∨ a.heap.size ≤ p.block) (u : Value) : Chg S a (b.setCell p u) :=
  ⟨h.os, h.tape, h.output, by simpa [World.setCell] using h.size, fun i hi hs => (Below.heap_setCell b p u i (by
    rintro rfl
    rcases hp with hp | hp
    · exact hs hp
    · omega)).trans (h.block i hi hs)⟩
theorem Chg.grown {S : Nat → Prop} {a b c : World} {row : Option Nat} (h : Chg S a b) (hg : b.grownBy c row) (hr : ∀ g, row = some g → S g ∨ a.heap.size ≤ g) : Chg S a c :=
  ⟨hg.os.trans h.os, hg.tape.trans h.tape, hg.output.trans h.output, Nat.le_trans h.size hg.size, fun i hi hs => (hg.block i (Nat.lt_of_lt_of_le hi h.size) (fun e => by
    rcases hr i e.symm with h1 | h1
    · exact hs h1
    · omega)).trans (h.block i hi hs)⟩

section
variable {w w' : World} {lv : Value}
theorem own_blk {base : Nat} {e : TypeId} {size n : Nat} {xs : List Value} (h : w.ownsRow base e size lv n xs) {g : Nat} (hg : lv.ownBlock = some g) : ∃ cs, Blk w g e cs := by
  rcases h.2 with ⟨rfl, _⟩ | ⟨g', cap, cur, rfl, _, h2, _⟩
  · simp [Value.ownBlock] at hg
  · have e : g' = g := Option.some.inj hg
    subst e
    exact ⟨cur, h2⟩
theorem blk_ne {g g' : Nat} {t t' : TypeId} {cs cs' : Array Value} (h : Blk w g t cs) (h' : Blk w g' t' cs') (hne : t ≠ t') : g ≠ g' := by
  rintro rfl
  unfold Blk at h h'
  rw [h] at h'
  injection h' with h'
  injection h' with _ ht
  exact hne ht
theorem own_of_eq {base : Nat} {e : TypeId} {size n : Nat} {xs : List Value} (h : w.ownsRow base e size lv n xs) (he : ∀ g, lv.ownBlock = some g → w'.heap[g]? = w.heap[g]?) : w'.ownsRow base e size lv n xs := by
  refine ⟨h.1, ?_⟩
  rcases h.2 with h | ⟨g', cap', cur, hv, h1, h2, h3⟩
  · exact .inl h
  · exact .inr ⟨g', cap', cur, hv, h1, by rw [he g' (by rw [hv]; rfl)]; exact h2, h3⟩
end
/-- A word of a world that rests on the blocks in F alone. -/
structure Owning (R : (Nat → Prop) → World → Prop) : Prop where
  mono : ∀ F G w, R F w → (∀ k, k < w.heap.size → F k → G k) → R G w
  keep : ∀ F w w', R F w → w.heap.size ≤ w'.heap.size → (∀ k, k < w.heap.size → F k → w'.heap[k]? = w.heap[k]?) → R F w'

theorem Owning.below {R : (Nat → Prop) → World → Prop} (hR : Owning R) {F : Nat → Prop} {w w' : World} (h : R F w) (hb : Below w.heap.size w w') : R F w' := hR.keep F w w' h hb.size fun k hk _ => hb.block k hk
theorem Owning.chg {R : (Nat → Prop) → World → Prop} (hR : Owning R) {F S : Nat → Prop} {w w' : World} (h : R F w) (hc : Chg S w w') (hd : ∀ k, k < w.heap.size → F k → ¬ S k) : R F w' := hR.keep F w w' h hc.size fun k hk hf => hc.block k hk (hd k hk hf)

/-- What a call on such a thing does: it turns its own blocks, and may take new ones. -/
def Took (F F' : Nat → Prop) (w w' : World) : Prop := Chg F w w' ∧ ∀ k, F' k → k < w'.heap.size ∧ (F k ∨ w.heap.size ≤ k)
theorem Took.of {R : (Nat → Prop) → World → Prop} (hR : Owning R) {F : Nat → Prop} {w w' : World} (h : R (fun k => F k ∨ w.heap.size ≤ k) w') (hc : Chg F w w') : ∃ F', R F' w' ∧ Took F F' w w' :=
  ⟨fun k => (F k ∨ w.heap.size ≤ k) ∧ k < w'.heap.size, hR.mono _ _ _ h (fun _ hk hf => ⟨hf, hk⟩), hc, fun _ h => ⟨h.2, h.1⟩⟩
theorem Took.same {R : (Nat → Prop) → World → Prop} (hR : Owning R) {F : Nat → Prop} {w w' : World} (h : R F w) (hb : Below w.heap.size w w') : ∃ F', R F' w' ∧ Took F F' w w' :=
  ⟨fun k => F k ∧ k < w.heap.size, hR.below (hR.mono _ _ _ h (fun _ hk hf => ⟨hf, hk⟩)) hb, Chg.of_below _ hb, fun _ h => ⟨Nat.lt_of_lt_of_le h.2 hb.size, .inl h.1⟩⟩
theorem Took.trans {F F' F'' : Nat → Prop} {a b c : World} (h : Took F F' a b) (k : Took F' F'' b c) : Took F F'' a c :=
  ⟨h.1.trans' (k.1.mono (T := F') (fun _ h => h)) (fun i hi hf => (h.2 i hf).2.resolve_right (by omega)), fun i hi => ⟨(k.2 i hi).1, (k.2 i hi).2.elim (fun h' => (h.2 i h').2) (fun h' => .inr (Nat.le_trans h.1.size h'))⟩⟩

/-- Each block's owner, a number; new blocks go to i. -/
def relabel (own : Nat → Nat) (i sz : Nat) : Nat → Nat := fun k => if k < sz then own k else i
theorem relabel_own {R : (Nat → Prop) → World → Prop} (hR : Owning R) {own : Nat → Nat} {i : Nat} {F' : Nat → Prop} {w w' : World} (h : R F' w') (ht : Took (fun k => own k = i) F' w w') : R (fun k => relabel own i w.heap.size k = i) w' := by
  refine hR.mono _ _ _ h (fun k _ hf => ?_)
  unfold relabel
  split
  · rcases (ht.2 k hf).2 with h | h
    · exact h
    · omega
  · rfl
theorem relabel_other {R : (Nat → Prop) → World → Prop} (hR : Owning R) {own : Nat → Nat} {i j : Nat} {w w' : World} (h : R (fun k => own k = j) w) (hne : j ≠ i) (hc : Chg (fun k => own k = i) w w') : R (fun k => relabel own i w.heap.size k = j) w' := by
  have h1 : R (fun k => relabel own i w.heap.size k = j) w := hR.mono _ _ _ h (fun k hk hf => by unfold relabel; rw [if_pos hk]; exact hf)
  refine hR.chg h1 hc (fun k hk hf => ?_)
  unfold relabel at hf
  rw [if_pos hk] at hf
  omega
/-- All owned blocks lie from B on; what is below is as it was. -/
structure Sep (B : Nat) (w0 w : World) (own : Nat → Nat) : Prop where
  base : Below B w0 w
  from_ : ∀ k, own k ≠ 0 → B ≤ k
theorem Sep.step {B : Nat} {w0 w w' : World} {own : Nat → Nat} {i : Nat} (h : Sep B w0 w own) (hB : B ≤ w.heap.size) (hi : i ≠ 0) (hc : Chg (fun k => own k = i) w w') : Sep B w0 w' (relabel own i w.heap.size) := by
  refine ⟨h.base.trans (hc.below hB (fun k hk => h.from_ k (by omega))), fun k hk => ?_⟩
  unfold relabel at hk
  split at hk
  · exact h.from_ k hk
  · omega
theorem Sep.below {B : Nat} {w0 w w' : World} {own : Nat → Nat} (h : Sep B w0 w own) (hB : B ≤ w.heap.size) (hb : Below w.heap.size w w') : Sep B w0 w' own := ⟨h.base.trans (hb.mono hB), h.from_⟩

/-- A row of one's own. -/
def OwnRow (F : Nat → Prop) (w : World) (t : TypeId) (size : Nat) (v : Value) (n : Nat) (xs : List Value) : Prop :=
  w.ownsRow 0 t size v n xs ∧ ∀ g, v.ownBlock = some g → F g
theorem OwnRow.owning (t : TypeId) (size : Nat) (v : Value) (n : Nat) (xs : List Value) : Owning fun F w => OwnRow F w t size v n xs where
  mono := fun _ _ _ h hs => ⟨h.1, fun g hg => hs g (h.1.lt g hg).2 (h.2 g hg)⟩
  keep := fun _ _ _ h _ hk => ⟨own_of_eq h.1 (fun g hg => hk g (h.1.lt g hg).2 (h.2 g hg)), h.2⟩
theorem OwnRow.nil (F : Nat → Prop) (w : World) (t : TypeId) (size : Nat) : OwnRow F w t size (.slice none 0 0) 0 [] := ⟨World.ownsRow_nil _ _ _ _, fun g hg => by cases hg⟩
/-- Behind an append. -/
theorem OwnRow.grown {F : Nat → Prop} {w w1 w2 : World} {t : TypeId} {size n m cap g : Nat} {v : Value} {xs ys : List Value} (h : OwnRow F w t size v n xs) (hb : Below w.heap.size w w1) (h2 : w2.ownsRow 0 t size (.slice (some ⟨g, 0, none⟩) m cap) m ys) (hg : w1.grownBy w2 v.ownBlock) (hat : v.ownBlock = some g ∨ g = w1.heap.size) :
    OwnRow (fun k => F k ∨ w.heap.size ≤ k) w2 t size (.slice (some ⟨g, 0, none⟩) m cap) m ys ∧ Chg F w w2 := by
  refine ⟨⟨h2, fun k hk => ?_⟩, (Chg.of_below F hb).grown hg (fun q hq => .inl (h.2 q hq))⟩
  have e : g = k := Option.some.inj hk
  subst e
  rcases hat with h' | h'
  · exact .inl (h.2 g h')
  · have := hb.size
    exact .inr (by omega)
/-- Its form: nil, or at the head of its block. -/
theorem OwnRow.form {F : Nat → Prop} {w : World} {t : TypeId} {size n : Nat} {v : Value} {xs : List Value} (h : OwnRow F w t size v n xs) : (v = .slice none 0 0 ∧ n = 0) ∨ ∃ g cap, v = .slice (some ⟨g, 0, none⟩) n cap ∧ n ≤ cap ∧ cap ≤ maxLen ∧ F g ∧ g < w.heap.size := by
  rcases h.1.2 with ⟨h1, h2⟩ | ⟨g, cap, cur, h1, _, h3, h4, h5, _⟩
  · exact .inl ⟨h1, h2⟩
  · exact .inr ⟨g, cap, h1, h4, h5, h.2 g (by rw [h1]; rfl), (Array.getElem?_eq_some_iff.1 h3).1⟩
theorem OwnRow.row {F : Nat → Prop} {w : World} {t : TypeId} {size n g cap : Nat} {xs : List Value} (h : OwnRow F w t size (.slice (some ⟨g, 0, none⟩) n cap) n xs) : RowAt w g t xs := RowAt.of_own h.1
/-- A block of one's own. -/
def OwnBlk (F : Nat → Prop) (w : World) (p : Nat) (t : TypeId) (cs : Array Value) : Prop := Blk w p t cs ∧ F p
theorem OwnBlk.owning (p : Nat) (t : TypeId) (cs : Array Value) : Owning fun F w => OwnBlk F w p t cs where
  mono := fun _ _ _ h hs => ⟨h.1, hs p h.1.size h.2⟩
  keep := fun _ _ _ h _ hk => ⟨h.1.of_eq (hk p h.1.size h.2), h.2⟩
end Go.Proofs.Ythceidacmeadkaa
