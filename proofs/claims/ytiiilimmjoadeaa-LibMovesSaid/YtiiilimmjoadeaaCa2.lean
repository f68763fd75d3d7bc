/- What the methods of a cartridge do. No condition beyond those that each theorem states. -/
import Derived.Test.YtiiilimmjoadeaaCa1
namespace Go.Proofs.Ytiiilimmjoadeaa
open Go.RowKit

/-- A record: where its bytes lie, how many, and whether it can be read. -/
structure RecV where
  g : Nat
  len : Nat
  cap : Nat
  bytes : List UInt8
  rot : Bool

def recVals (r : RecV) : List Value := [.slice (some ⟨r.g, 0, none⟩) r.len r.cap, .bool r.rot]
theorem recVals_length (r : RecV) : (recVals r).length = 2 := rfl
def recsVals (R : List RecV) : List Value := R.flatMap recVals
theorem recsVals_length (R : List RecV) : (recsVals R).length = R.length * 2 := flat_length recVals_length R
theorem recsVals_one (R : List RecV) : ∀ u ∈ recsVals R, u.oneCell' = true := by
  intro u hu
  simp only [recsVals, List.mem_flatMap, recVals, List.mem_cons, List.not_mem_nil, or_false] at hu
  obtain ⟨x, _, h⟩ := hu
  rcases h with rfl | rfl <;> rfl

structure RecOk (w : World) (r : RecV) : Prop where
  row : RowAt w r.g 5 (byteVals r.bytes)
  size : r.bytes.length = r.len
  cap : r.len ≤ r.cap ∧ r.cap ≤ maxLen
  short : r.len ≤ 256

/-- A cartridge: its struct in block p, its records in a row of its own. -/
structure CartAt (w : World) (p : Nat) (lv : Value) (R : List RecV) (most : Int) (lost : Bool) : Prop where
  blk : Blk w p 76 #[lv, .int .i64 most, .bool lost]
  own : w.ownsRow 0 79 2 lv R.length (recsVals R)
  recs : ∀ r ∈ R, RecOk w r
  lim : 0 ≤ most ∧ most ≤ 1024
  few : (R.length : Int) ≤ most

/-- Only these blocks have turned. -/
structure Chg (S : Nat → Prop) (w w' : World) : Prop where
  os : w'.os = w.os
  tape : w'.tape = w.tape
  output : w'.output = w.output
  size : w.heap.size ≤ w'.heap.size
  block : ∀ k, k < w.heap.size → ¬ S k → w'.heap[k]? = w.heap[k]?

theorem Chg.refl (S : Nat → Prop) (w : World) : Chg S w w := ⟨rfl, rfl, rfl, Nat.le_refl _, fun _ _ _ => rfl⟩
theorem Chg.trans {S : Nat → Prop} {a b c : World} (h : Chg S a b) (k : Chg S b c) : Chg S a c :=
  ⟨k.os.trans h.os, k.tape.trans h.tape, k.output.trans h.output, Nat.le_trans h.size k.size, fun i hi hs => (k.block i (Nat.lt_of_lt_of_le hi h.size) hs).trans (h.block i hi hs)⟩
/-- What the second turns, beyond the first, is new. -/
theorem Chg.trans' {S T : Nat → Prop} {a b c : World} (h : Chg S a b) (k : Chg T b c) (hT : ∀ i, i < a.heap.size → T i → S i) : Chg S a c :=
  ⟨k.os.trans h.os, k.tape.trans h.tape, k.output.trans h.output, Nat.le_trans h.size k.size, fun i hi hs => (k.block i (Nat.lt_of_lt_of_le hi h.size) (fun ht => hs (hT i hi ht))).trans (h.block i hi hs)⟩
theorem Chg.mono {S T : Nat → Prop} {a b : World} (h : Chg S a b) (hs : ∀ i, S i → T i) : Chg T a b := ⟨h.os, h.tape, h.output, h.size, fun i hi ht => h.block i hi (fun x => ht (hs i x))⟩
theorem Chg.below {S : Nat → Prop} {a b : World} {B : Nat} (h : Chg S a b) (hB : B ≤ a.heap.size) (hs : ∀ i, S i → B ≤ i) : Below B a b :=
  ⟨h.os, h.tape, h.output, h.size, fun i hi => h.block i (Nat.lt_of_lt_of_le hi hB) (fun x => by have := hs i x; omega)⟩
theorem Chg.of_below {a b : World} (S : Nat → Prop) (h : Below a.heap.size a b) : Chg S a b := ⟨h.os, h.tape, h.output, h.size, fun i hi _ => h.block i hi⟩
theorem Chg.drewN {S : Nat → Prop} {a b : World} (h : Chg S a b) (n : Nat) : Chg S a (b.drewN n) := ⟨h.os, h.tape, h.output, h.size, h.block⟩
theorem Chg.alloc {S : Nat → Prop} {a b : World} (h : Chg S a b) (o : Obj) : Chg S a (b.alloc o) :=
  ⟨h.os, h.tape, h.output, Nat.le_trans h.size (by simp), fun i hi hs => (Below.heap_alloc b o i (Nat.lt_of_lt_of_le hi h.size)).trans (h.block i hi hs)⟩
theorem Chg.store {S : Nat → Prop} {a b : World} (h : Chg S a b) {p : Addr} (hp : S p.block ∨ a.heap.size ≤ p.block) (u : Value) : Chg S a (b.setCell p u) :=
  ⟨h.os, h.tape, h.output, by simpa [World.setCell] using h.size, fun i hi hs => (Below.heap_setCell b p u i (by
    rintro rfl
    rcases hp with hp | hp
    · exact hs hp
    · omega)).trans (h.block i hi hs)⟩
theorem Chg.grown {S : Nat → Prop} {a b c : World} {row : Option Nat} (h : Chg S a b) (hg : b.grownBy c row) (hr : ∀ g, row = some g → S g ∨ a.heap.size ≤ g) : Chg S a c :=
  ⟨hg.os.trans h.os, hg.tape.trans h.tape, hg.output.trans h.output, Nat.le_trans h.size hg.size, fun i hi hs => (hg.block i (Nat.lt_of_lt_of_le hi h.size) (fun e => by
    rcases hr i e.symm with h1 | h1
    · exact hs h1
    · omega)).trans (h.block i hi hs)⟩

section
variable {w w' : World} {p : Nat} {lv : Value} {R : List RecV} {most : Int} {lost : Bool}
theorem RecOk.of_eq {r : RecV} (h : RecOk w r) (he : w'.heap[r.g]? = w.heap[r.g]?) : RecOk w' r := ⟨h.row.of_eq he, h.size, h.cap, h.short⟩
theorem RecOk.ne_blk {r : RecV} {t : TypeId} {cs : Array Value} (h : RecOk w r) {q : Nat} (hb : Blk w q t cs) (ht : 5 ≠ t) : r.g ≠ q := h.row.ne hb ht
/-- A row of the cartridge's own lies in a block of that element type. -/
theorem own_blk {base : Nat} {e : TypeId} {size n : Nat} {xs : List Value} (h : w.ownsRow base e size lv n xs) {g : Nat} (hg : lv.ownBlock = some g) : ∃ cs, Blk w g e cs := by
  rcases h.2 with ⟨rfl, _⟩ | ⟨g', cap, cur, rfl, _, h2, _⟩
  · simp [Value.ownBlock] at hg
  · have e : g' = g := Option.some.inj hg
    subst e
    exact ⟨cur, h2⟩
theorem blk_ne {g g' : Nat} {t t' : TypeId} {cs cs' : Array Value} (h : Blk w g t cs) (h' : Blk w g' t' cs') (hne : t ≠ t') : g ≠ g' := by
  rintro rfl
  unfold Blk at h h'
  rw [h] at h'
  injection h' with h'
  injection h' with _ ht
  exact hne ht
theorem own_of_eq {base : Nat} {e : TypeId} {size n : Nat} {xs : List Value} (h : w.ownsRow base e size lv n xs) (he : ∀ g, lv.ownBlock = some g → w'.heap[g]? = w.heap[g]?) : w'.ownsRow base e size lv n xs := by
  refine ⟨h.1, ?_⟩
  rcases h.2 with h | ⟨g', cap', cur, hv, h1, h2, h3⟩
  · exact .inl h
  · exact .inr ⟨g', cap', cur, hv, h1, by rw [he g' (by rw [hv]; rfl)]; exact h2, h3⟩
/-- Where neither its struct, nor its row, nor a record's bytes have turned, it is as it was. -/
theorem CartAt.keep (h : CartAt w p lv R most lost) (hp : w'.heap[p]? = w.heap[p]?) (hl : ∀ g, lv.ownBlock = some g → w'.heap[g]? = w.heap[g]?) (hr : ∀ r ∈ R, w'.heap[r.g]? = w.heap[r.g]?) : CartAt w' p lv R most lost :=
  ⟨h.blk.of_eq hp, own_of_eq h.own hl, fun r hx => (h.recs r hx).of_eq (hr r hx), h.lim, h.few⟩
theorem CartAt.drewN (h : CartAt w p lv R most lost) (n : Nat) : CartAt (w.drewN n) p lv R most lost := h.keep rfl (fun _ _ => rfl) (fun _ _ => rfl)
theorem CartAt.rec_lt (h : CartAt w p lv R most lost) {r : RecV} (hr : r ∈ R) : r.g < w.heap.size := (h.recs r hr).row.size
theorem CartAt.own_lt (h : CartAt w p lv R most lost) {g : Nat} (hg : lv.ownBlock = some g) : g < w.heap.size := (h.own.lt g hg).2
/-- A change elsewhere. -/
theorem CartAt.chg {S : Nat → Prop} (h : CartAt w p lv R most lost) (hc : Chg S w w') (hp : ¬ S p) (hl : ∀ g, lv.ownBlock = some g → ¬ S g) (hr : ∀ r ∈ R, ¬ S r.g) : CartAt w' p lv R most lost :=
  h.keep (hc.block _ h.blk.size hp) (fun g hg => hc.block _ (h.own_lt hg) (hl g hg)) (fun r hx => hc.block _ (h.rec_lt hx) (hr r hx))
/-- New blocks alone. -/
theorem CartAt.below (h : CartAt w p lv R most lost) (hb : Below w.heap.size w w') : CartAt w' p lv R most lost :=
  h.chg (Chg.of_below (fun _ => False) hb) (fun x => x) (fun _ _ x => x) (fun _ _ x => x)
end

theorem cart_made (W : World) {m k : Int} (h : k = max 0 (min m 1024)) : CartAt (W.alloc (.cells #[.slice none 0 0, .int .i64 k, .bool false] 76)) W.heap.size (.slice none 0 0) [] (max 0 (min m 1024)) false := by
  subst h
  exact ⟨Blk.made _ _ _, World.ownsRow_nil _ _ _ _, (fun r hr => by cases hr), by omega, by show ((0 : Nat) : Int) ≤ _; omega⟩

set_option maxHeartbeats 400000 in
theorem cartNew_any (m : Int) (w : World) :
    Calls Try.prog 13 #[.int .i64 m] w fun e w' => ∃ p, e = .returned (.pointer (some ⟨p, 0, none⟩)) ∧ w.heap.size ≤ p ∧ CartAt w' p (.slice none 0 0) [] (max 0 (min m 1024)) false ∧ Below w.heap.size w w' := by
  go_enter Try.func13, Try.ntmps13
  go_wp2
  all_goals
    go_ret
    exact ⟨_, rfl, Nat.le_refl _, cart_made _ (by omega), (Below.refl _ _).alloc (Nat.le_refl _) _⟩

section
variable {w : World} {p : Nat} {lv : Value} {R : List RecV} {most : Int} {lost : Bool}
/-- The list's value: nil, or a row at its head. -/
theorem CartAt.form (h : CartAt w p lv R most lost) : (lv = .slice none 0 0 ∧ R = []) ∨ ∃ g cap, lv = .slice (some ⟨g, 0, none⟩) R.length cap ∧ R.length ≤ cap ∧ cap ≤ maxLen := by
  rcases h.own.2 with ⟨h1, h2⟩ | ⟨g, cap, cur, h1, _, _, h2, h3, _⟩
  · exact .inl ⟨h1, List.eq_nil_of_length_eq_zero h2⟩
  · exact .inr ⟨g, cap, h1, h2, h3⟩
end

/-- Appending nothing, or too much; or to no cartridge. -/
theorem append_bad (pv : Value) (A : Option Addr) (n c : Nat) (w : World) (hp : pv = .pointer none ∨ ∃ p, pv = .pointer (some ⟨p, 0, none⟩)) (h : pv = .pointer none ∨ n = 0 ∨ 256 < n) :
    Calls Try.prog 14 #[pv, .slice A n c] w fun e w' => e = .returned (.tuple #[.int .i64 0, .int .i64 1]) ∧ w = w' := by
  rcases hp with rfl | ⟨p, rfl⟩
  · go_enter Try.func14, Try.ntmps14
    go_wp2
    go_ret2
    exact ⟨rfl, rfl⟩
  · have h2 : (((n : Int) == 0) = true) ∨ (((n : Int) == 0) = false ∧ (256 : Int) < n) := by
      rcases h with h | h | h
      · cases h
      · exact .inl (by rw [h]; rfl)
      · exact .inr ⟨by rw [beq_eq_false_iff_ne]; omega, by omega⟩
    rcases h2 with h2 | ⟨h2, h3⟩
    all_goals
      go_enter Try.func14, Try.ntmps14
      go_wp2
      go_ret2
      exact ⟨rfl, rfl⟩
end Go.Proofs.Ytiiilimmjoadeaa
