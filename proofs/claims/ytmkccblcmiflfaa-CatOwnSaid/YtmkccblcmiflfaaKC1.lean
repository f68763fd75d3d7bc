/- A catalog in memory: what waits, what is on cartridges, what was begun, what is gone, what is retired. No condition beyond those that each theorem states. -/
import Derived.Test.YtmkccblcmiflfaaKM
import Derived.Test.YtmkccblcmiflfaaKB
namespace Go.Proofs.Ytmkccblcmiflfaa
open Go.RowKit Go.Maps Go.WideMaps

abbrev Str := List UInt8
abbrev Pls := List (Int × Int)
structure EntV where
  gen : Int
  size : Int
  sum : Str
  places : Pls
structure NoteV where
  kind : Int
  key : Str
  gen : Int
  cart : Int
  data : Str
  sum : Str
  size : Int
  places : Pls
structure CV where
  staged : List (Str × Str)
  entries : List (Str × EntV)
  begun : List (Str × Int)
  tombs : List (Str × Int)
  retired : List Int
  gen : Int
def newC : CV := ⟨[], [], [], [], [], 0⟩

def placeVals (l : Pls) : List Value := l.flatMap fun p => [.int .i64 p.1, .int .i64 p.2]
theorem placeVals_len (l : Pls) : (placeVals l).length = l.length * 2 := by
  induction l with
  | nil => rfl
  | cons x l ih => simp only [placeVals, List.flatMap_cons, List.length_append, List.length_cons, List.length_nil] at *; omega
def PlacesIn (w : World) (A : Option Addr) (n : Nat) (l : Pls) : Prop := l.length = n ∧ SrcAt w A n (placeVals l)
/-- A note as a value. -/
def noteAgg (v : NoteV) (D : Option Addr) (dn dc : Nat) (Q : Option Addr) (qn qc : Nat) : Value :=
  .agg #[.int .i64 v.kind, encStr v.key, .int .i64 v.gen, .int .i64 v.cart, .slice D dn dc, encStr v.sum, .int .i64 v.size, .slice Q qn qc]
structure NoteIn (w : World) (v : NoteV) (D : Option Addr) (dn dc : Nat) (Q : Option Addr) (qn qc : Nat) : Prop where
  dform : Form D dn dc
  data : BytesIn w D dn v.data
  pform : Form Q qn qc
  places : PlacesIn w Q qn v.places
  key : v.key.length ≤ maxLen
  sum : v.sum.length ≤ maxLen
  gen : (Lit.int .i64 v.gen).wf = true
  cart : (Lit.int .i64 v.cart).wf = true
  size : (Lit.int .i64 v.size).wf = true
/-- A blob that waits, where its bytes lie. -/
structure BlobR where
  key : Str
  A : Option Addr
  n : Nat
  c : Nat
  data : Str
def blobVals (l : List BlobR) : List Value := l.flatMap fun r => [encStr r.key, .slice r.A r.n r.c]
def BlobOk (F : Nat → Prop) (w : World) (r : BlobR) : Prop := OwnRow F w 5 1 (.slice r.A r.n r.c) r.n (byteVals r.data)
/-- An entry, where its places lie. -/
structure EntR where
  key : Str
  e : EntV
  A : Option Addr
  n : Nat
  c : Nat
def entVal (r : EntR) : Value := .agg #[encStr r.key, .int .i64 r.e.gen, .int .i64 r.e.size, encStr r.e.sum, .slice r.A r.n r.c]
def entVals (l : List EntR) : List (Str × Value) := l.map fun r => (r.key, entVal r)
def EntOk (F : Nat → Prop) (w : World) (r : EntR) : Prop := OwnRow F w 40 2 (.slice r.A r.n r.c) r.n (placeVals r.e.places)
def tombVals (l : List (Str × Int)) : List Value := l.flatMap fun q => [.int .i64 6, encStr q.1, .int .i64 q.2, .int .i64 0, .slice none 0 0, encStr [], .int .i64 1, .slice none 0 0]
def zeroEnt : Value := .agg #[encStr [], .int .i64 0, .int .i64 0, encStr [], .slice none 0 0]
noncomputable def skey : KeyForm Try.prog 9 Str := strKey Try.underlying9
noncomputable def ikey : KeyForm Try.prog 3 Int := intKey Try.underlying3
theorem zeroE (w : World) : (zeroValue 46).run Try.prog w = .ok zeroEnt w := by kernel_rfl
theorem zeroI (w : World) : (zeroValue 3).run Try.prog w = .ok (.int .i64 0) w := by kernel_rfl
theorem zeroU (w : World) : (zeroValue 69).run Try.prog w = .ok (.agg #[]) w := by kernel_rfl
def begunVals (l : List (Str × Int)) : List (Str × Value) := l.map fun q => (q.1, .int .i64 q.2)
def retVals (l : List Int) : List (Int × Value) := l.map fun n => (n, .agg #[])
/-- What all catalogs hold. -/
structure CWf (N : Nat) (C : CV) : Prop where
  staged : C.staged.length ≤ N
  tombs : C.tombs.length ≤ N
  keys : ∀ q ∈ C.staged, 1 ≤ q.1.length ∧ q.1.length ≤ 16 ∧ q.2.length ≤ 512
  ents : ∀ q ∈ C.entries, 1 ≤ q.1.length ∧ q.1.length ≤ 16 ∧ 1 ≤ q.2.gen ∧ q.2.gen ≤ C.gen ∧ 0 ≤ q.2.size ∧ q.2.size ≤ 512 ∧ (q.2.places.length : Int) = max 1 ((q.2.size + 127) / 128) * 10 ∧ q.2.sum.length ≤ maxLen
  marks : ∀ q ∈ C.tombs, 1 ≤ q.1.length ∧ q.1.length ≤ 16 ∧ 1 ≤ q.2 ∧ q.2 ≤ C.gen
  begun : ∀ q ∈ C.begun, 1 ≤ q.1.length ∧ q.1.length ≤ 16 ∧ 1 ≤ q.2 ∧ q.2 ≤ C.gen
  gens : C.begun.Pairwise fun a b => a.2 < b.2
  carts : ∀ n ∈ C.retired, 0 ≤ n ∧ n ≤ 31
  gen : 0 ≤ C.gen ∧ C.gen ≤ 1099511627776
  nds : (C.staged.map Prod.fst).Nodup
  apart : ∀ q ∈ C.staged, hasL C.entries q.1 = false
/-- The catalog at p; all its blocks lie in F. -/
structure CatR (F : Nat → Prop) (w : World) (p N : Nat) (C : CV) (sv tv : Value) (SR : List BlobR) (ER : List EntR) (be bb br : Nat) : Prop where
  blk : Blk w p 59 #[sv, .map (some be), .map (some bb), tv, .map (some br), .int .i64 C.gen]
  fp : F p
  stg : OwnRow F w 61 2 sv C.staged.length (blobVals SR)
  stgs : SR.map (fun r => (r.key, r.data)) = C.staged
  blobs : ∀ r ∈ SR, BlobOk F w r
  ents : MapAt skey zeroEnt w be N (entVals ER)
  fe : F be
  entr : ER.map (fun r => (r.key, r.e)) = C.entries
  entb : ∀ r ∈ ER, EntOk F w r
  begs : MapAt skey (.int .i64 0) w bb N (begunVals C.begun)
  fb : F bb
  tmb : OwnRow F w 26 8 tv C.tombs.length (tombVals C.tombs)
  rets : MapAt ikey (.agg #[]) w br N (retVals C.retired)
  fr : F br
  neq : be ≠ bb ∧ be ≠ br ∧ bb ≠ br
  wf : CWf N C
def CatAt (F : Nat → Prop) (w : World) (p N : Nat) (C : CV) : Prop := ∃ sv tv SR ER be bb br, CatR F w p N C sv tv SR ER be bb br
section
variable {F G : Nat → Prop} {w w' : World} {p N : Nat} {C : CV} {sv tv : Value} {SR : List BlobR} {ER : List EntR} {be bb br : Nat}
theorem CatR.mono (h : CatR F w p N C sv tv SR ER be bb br) (hs : ∀ k, k < w.heap.size → F k → G k) : CatR G w p N C sv tv SR ER be bb br :=
  { h with
    fp := hs p h.blk.size h.fp
    stg := (OwnRow.owning ..).mono _ _ _ h.stg hs
    blobs := fun r hr => (OwnRow.owning ..).mono _ _ _ (h.blobs r hr) hs
    fe := hs be h.ents.lt h.fe
    entb := fun r hr => (OwnRow.owning ..).mono _ _ _ (h.entb r hr) hs
    fb := hs bb h.begs.lt h.fb
    tmb := (OwnRow.owning ..).mono _ _ _ h.tmb hs
    fr := hs br h.rets.lt h.fr }
theorem CatR.keep (h : CatR F w p N C sv tv SR ER be bb br) (hz : w.heap.size ≤ w'.heap.size) (hk : ∀ k, k < w.heap.size → F k → w'.heap[k]? = w.heap[k]?) : CatR F w' p N C sv tv SR ER be bb br :=
  { h with
    blk := h.blk.of_eq (hk p h.blk.size h.fp)
    stg := (OwnRow.owning ..).keep _ _ _ h.stg hz hk
    blobs := fun r hr => (OwnRow.owning ..).keep _ _ _ (h.blobs r hr) hz hk
    ents := h.ents.of_eq (hk be h.ents.lt h.fe)
    entb := fun r hr => (OwnRow.owning ..).keep _ _ _ (h.entb r hr) hz hk
    begs := h.begs.of_eq (hk bb h.begs.lt h.fb)
    tmb := (OwnRow.owning ..).keep _ _ _ h.tmb hz hk
    rets := h.rets.of_eq (hk br h.rets.lt h.fr) }
theorem CatR.below (h : CatR F w p N C sv tv SR ER be bb br) (hb : Below w.heap.size w w') : CatR F w' p N C sv tv SR ER be bb br := h.keep hb.size fun k hk _ => hb.block k hk
theorem CatAt.owning (p N : Nat) (C : CV) : Owning fun F w => CatAt F w p N C where
  mono := fun _ _ _ ⟨sv, tv, SR, ER, be, bb, br, h⟩ hs => ⟨sv, tv, SR, ER, be, bb, br, h.mono hs⟩
  keep := fun _ _ _ ⟨sv, tv, SR, ER, be, bb, br, h⟩ hz hk => ⟨sv, tv, SR, ER, be, bb, br, h.keep hz hk⟩
theorem CatAt.below (h : CatAt F w p N C) (hb : Below w.heap.size w w') : CatAt F w' p N C := (CatAt.owning p N C).below h hb
theorem CatAt.same (h : CatAt F w p N C) (hb : Below w.heap.size w w') : ∃ F', CatAt F' w' p N C ∧ Took F F' w w' := Took.same (CatAt.owning p N C) h hb
end
theorem cNew (w : World) : Calls Try.prog 13 #[] w fun e w' => ∃ p, e = .returned (.pointer (some ⟨p, 0, none⟩)) ∧ w.heap.size ≤ p ∧ CatAt (fun k => w.heap.size ≤ k) w' p 0 newC ∧ Below w.heap.size w w' := by
  have hmm := @run_makeMap Try.prog
  go_enter Try.func13, Try.ntmps13
  go_wp2
  go_ret
  obtain ⟨w1, hw1⟩ : ∃ w1, w1 = w.alloc (.map #[] 0) := ⟨_, rfl⟩
  obtain ⟨w2, hw2⟩ : ∃ w2, w2 = w1.alloc (.map #[] 0) := ⟨_, rfl⟩
  obtain ⟨w3, hw3⟩ : ∃ w3, w3 = w2.alloc (.map #[] 0) := ⟨_, rfl⟩
  have z1 : w1.heap.size = w.heap.size + 1 := by rw [hw1, World.size_alloc]
  have z2 : w2.heap.size = w.heap.size + 1 + 1 := by rw [hw2, World.size_alloc, z1]
  have z3 : w3.heap.size = w.heap.size + 1 + 1 + 1 := by rw [hw3, World.size_alloc, z2]
  rw [← hw1, ← hw2, ← hw3]
  generalize hcs : (#[.slice none 0 0, .map (some w.heap.size), .map (some (w.heap.size + 1)), .slice none 0 0, .map (some (w.heap.size + 1 + 1)), .int .i64 0] : Array Value) = cs
  have h1 : MapAt skey zeroEnt w1 w.heap.size 0 [] := by rw [hw1]; exact MapAt.made skey zeroEnt w
  have h2 : MapAt skey (.int .i64 0) w2 (w.heap.size + 1) 0 [] := by rw [hw2, ← z1]; exact MapAt.made skey _ w1
  have h3 : MapAt ikey (.agg #[]) w3 (w.heap.size + 1 + 1) 0 [] := by rw [hw3, ← z2]; exact MapAt.made ikey _ w2
  have h4 : Blk (w3.alloc (.cells cs 59)) (w.heap.size + 1 + 1 + 1) 59 cs := by rw [← z3]; exact Blk.made w3 _ _
  have b2 : Below w1.heap.size w1 w2 := by rw [hw2]; exact (Below.refl _ _).alloc (Nat.le_refl _) _
  have b3 : Below w2.heap.size w2 w3 := by rw [hw3]; exact (Below.refl _ _).alloc (Nat.le_refl _) _
  have b4 : Below w3.heap.size w3 (w3.alloc (.cells cs 59)) := (Below.refl _ _).alloc (Nat.le_refl _) _
  have b1 : Below w.heap.size w w1 := by rw [hw1]; exact (Below.refl _ _).alloc (Nat.le_refl _) _
  subst hcs
  refine ⟨_, rfl, by omega, ⟨_, _, [], [], _, _, _, ⟨h4, (by show w.heap.size ≤ _; omega), OwnRow.nil _ _ _ _, rfl, (fun r hr => by cases hr), h1.of_eq ((b4.block _ (by omega)).trans ((b3.block _ (by omega)).trans (b2.block _ (by omega)))), Nat.le_refl _, rfl, (fun r hr => by cases hr), h2.of_eq ((b4.block _ (by omega)).trans (b3.block _ (by omega))), (by show w.heap.size ≤ _; omega), OwnRow.nil _ _ _ _, h3.of_eq (b4.block _ (by omega)), (by show w.heap.size ≤ _; omega), ⟨by omega, by omega, by omega⟩, ?_⟩⟩, ((b1.trans (b2.mono (by omega))).trans (b3.mono (by omega))).trans (b4.mono (by omega))⟩
  exact ⟨Nat.le_refl _, Nat.le_refl _, by simp [newC], by simp [newC], by simp [newC], by simp [newC], by simp [newC], by simp [newC], by simp [newC], by simp [newC], by simp [newC]⟩
end Go.Proofs.Ytmkccblcmiflfaa
