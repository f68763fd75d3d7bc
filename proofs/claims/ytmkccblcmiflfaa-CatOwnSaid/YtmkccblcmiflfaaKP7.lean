/- Rows that are changed; plain laws of the catalog of CatOwn. No condition beyond those that each theorem states. -/
import Derived.Test.YtmkccblcmiflfaaKC29
import Derived.Test.YtmkccblcmiflfaaKP3
import Derived.Laws.BitsLemmas
import Derived.Laws.MakeOwn
namespace Go.Proofs.Ytmkccblcmiflfaa
open Go.RowKit Go.Maps Go.WideMaps

theorem RowAt.store {w : World} {g : Nat} {t : TypeId} {vals : List Value} (h : RowAt w g t vals) (i : Nat) (u : Value) : RowAt (w.setCell ⟨g, i, none⟩ u) g t (vals.set i u) := by
  obtain ⟨cs, h, ht⟩ := h
  refine ⟨cs.setIfInBounds i u, ?_, ?_⟩
  · simp [World.setCell, Array.getElem?_modify, h]
  · rw [Array.toList_setIfInBounds, List.length_set, List.take_set, ht]
/-- A row of q bytes in block g, whatever they are. -/
def SomeBytes (w : World) (g q : Nat) : Prop := ∃ l : List UInt8, l.length = q ∧ RowAt w g 5 (byteVals l)
theorem SomeBytes.cell {w : World} {g q i : Nat} (h : SomeBytes w g q) (hi : i < q) : ∃ z : UInt8, w.cell? ⟨g, i, none⟩ = some (.int .u8 (z.toNat : Int)) := by
  obtain ⟨l, hl, hr⟩ := h
  have hil : i < l.length := by omega
  exact ⟨l[i], hr.cell (by rw [byteVals_get, List.getElem?_eq_getElem hil]; rfl)⟩
theorem SomeBytes.free {w : World} {g q : Nat} (h : SomeBytes w g q) (i : Nat) : w.frozen? ⟨g, i, none⟩ = false := by
  obtain ⟨l, hl, hr⟩ := h
  exact hr.free i
theorem SomeBytes.size {w : World} {g q : Nat} (h : SomeBytes w g q) : g < w.heap.size := by
  obtain ⟨l, hl, hr⟩ := h
  exact hr.size
theorem SomeBytes.of_eq {w w' : World} {g q : Nat} (h : SomeBytes w g q) (he : w'.heap[g]? = w.heap[g]?) : SomeBytes w' g q := by
  obtain ⟨l, hl, hr⟩ := h
  exact ⟨l, hl, hr.of_eq he⟩
theorem SomeBytes.store {w : World} {g q i : Nat} (h : SomeBytes w g q) {z : Int} (h0 : 0 ≤ z) (h1 : z ≤ 255) : SomeBytes (w.setCell ⟨g, i, none⟩ (.int .u8 z)) g q := by
  obtain ⟨l, hl, hr⟩ := h
  refine ⟨l.set i (UInt8.ofNat z.toNat), by simpa using hl, ?_⟩
  have h2 := hr.store i (.int .u8 z)
  have e : byteVals (l.set i (UInt8.ofNat z.toNat)) = (byteVals l).set i (.int .u8 z) := by
    unfold byteVals
    rw [List.map_set]
    congr 1
    rw [UInt8.toNat_ofNat']
    congr 1
    omega
  rw [e]
  exact h2
theorem xor_range (a b : Int) : 0 ≤ bits BinOp.xor IntKind.u8 a b ∧ bits BinOp.xor IntKind.u8 a b ≤ 255 := by
  have h : bits BinOp.xor IntKind.u8 a b = IntKind.u8.wrap ((BitVec.ofInt 8 a ^^^ BitVec.ofInt 8 b).toNat : Int) := rfl
  rw [h, Go.IntKind.wrap_u8]
  omega
/-- A row of q places in block g, whatever they are. -/
def SomePl (w : World) (g q : Nat) : Prop := ∃ l : Pls, l.length = q ∧ RowAt w g 40 (placeVals l)
theorem SomePl.cell {w : World} {g q i : Nat} (h : SomePl w g q) (hi : i < q) : ∃ z : Int, w.cell? ⟨g, i * 2 + 1, none⟩ = some (.int .i64 z) := by
  obtain ⟨l, hl, hr⟩ := h
  have hil : i < l.length := by omega
  exact ⟨_, hr.cell (placeVals_get (List.getElem?_eq_getElem hil)).2⟩
theorem SomePl.free {w : World} {g q : Nat} (h : SomePl w g q) (i : Nat) : w.frozen? ⟨g, i, none⟩ = false := by
  obtain ⟨l, hl, hr⟩ := h
  exact hr.free i
theorem SomePl.size {w : World} {g q : Nat} (h : SomePl w g q) : g < w.heap.size := by
  obtain ⟨l, hl, hr⟩ := h
  exact hr.size
theorem SomePl.of_eq {w w' : World} {g q : Nat} (h : SomePl w g q) (he : w'.heap[g]? = w.heap[g]?) : SomePl w' g q := by
  obtain ⟨l, hl, hr⟩ := h
  exact ⟨l, hl, hr.of_eq he⟩
theorem placeVals_set {l : Pls} {i : Nat} {x : Int × Int} (h : l[i]? = some x) (z : Int) : placeVals (l.set i (x.1, z)) = (placeVals l).set (i * 2 + 1) (.int .i64 z) := by
  induction l generalizing i with
  | nil => simp at h
  | cons y l ih =>
    cases i with
    | zero =>
      obtain rfl : y = x := by simpa using h
      rfl
    | succ i =>
      have h1 := ih (i := i) (by simpa using h)
      show .int .i64 y.1 :: .int .i64 y.2 :: placeVals (l.set i (x.1, z)) = (.int .i64 y.1 :: .int .i64 y.2 :: placeVals l).set ((i + 1) * 2 + 1) (.int .i64 z)
      rw [h1, show (i + 1) * 2 + 1 = (i * 2 + 1) + 1 + 1 by omega, List.set_cons_succ, List.set_cons_succ]
theorem SomePl.store {w : World} {g q i : Nat} (h : SomePl w g q) (hi : i < q) (z : Int) : SomePl (w.setCell ⟨g, i * 2 + 1, none⟩ (.int .i64 z)) g q := by
  obtain ⟨l, hl, hr⟩ := h
  have hil : i < l.length := by omega
  have hx := List.getElem?_eq_getElem hil
  exact ⟨l.set i (l[i].1, z), by simpa using hl, by rw [placeVals_set hx]; exact hr.store _ _⟩
theorem SomePl.other {w : World} {g g' q i : Nat} (h : SomePl w g q) (hne : g ≠ g') (u : Value) : SomePl (w.setCell ⟨g', i, none⟩ u) g q := h.of_eq (Below.heap_setCell _ _ _ _ hne)
/-- The catalog of the law CatOwn. -/
def ownE (sz : Int) (zs : Pls) : EntV := ⟨2, sz, [], zs⟩
def own1 (l : Str) : CV := ⟨[([97], l)], [], [], [], [], 0⟩
def own2 (l : Str) : CV := ⟨[([97], l)], [], [], [], [], 5⟩
def own3 (l : Str) (sz : Int) (zs : Pls) : CV := ⟨[([97], l)], [([98], ownE sz zs)], [], [], [], 5⟩
def ownN1 (l : Str) : NoteV := ⟨1, [97], 0, 0, l, [], 0, []⟩
def ownN2 : NoteV := ⟨4, [], 5, 0, [], [], 0, []⟩
def ownN3 (sz : Int) (zs : Pls) : NoteV := ⟨2, [98], 2, 0, [], [], sz, zs⟩
theorem own_ap1 {l : Str} (hl : l.length ≤ 512) : applyC newC (ownN1 l) = (0, own1 l) := by
  show putC newC (ownN1 l) = _
  unfold putC
  rw [if_neg (by show ¬ (([97] : Str).length < 1 ∨ 16 < ([97] : Str).length ∨ 512 < l.length); simp; omega), if_neg (by show ¬ hasC newC [97] = true; simp [hasC, newC, hasL])]
  rfl
theorem own_ap2 (l : Str) : applyC (own1 l) ownN2 = (0, own2 l) := rfl
theorem own_ap3 {l : Str} {sz : Int} {zs : Pls} (h0 : 0 ≤ sz) (h1 : sz ≤ 512) (hz : (zs.length : Int) = groupsI sz * 10) : applyC (own2 l) (ownN3 sz zs) = (0, own3 l sz zs) := by
  show placedC (own2 l) (ownN3 sz zs) = _
  unfold placedC
  rw [if_neg (by show ¬ (([98] : Str).length < 1 ∨ 16 < ([98] : Str).length ∨ (2 : Int) < 1 ∨ (5 : Int) < 2 ∨ sz < 0 ∨ 512 < sz); simp; omega), if_neg (by show ¬ ((zs.length : Int) ≠ groupsI sz * 10); simpa using hz)]
  rfl
theorem own_ents (l : Str) (sz : Int) (zs : Pls) : entsC (own3 l sz zs) = [([98], ownE sz zs)] := by
  have h : sortS [[98]] = [[98]] := by simp [sortS]
  show (sortS [[98]]).map _ = _
  rw [h]
  rfl
theorem own_notes (l : Str) (sz : Int) (zs : Pls) : notesC (own3 l sz zs) = [putN ([97], l), genN ([], 5), placedN ([98], ownE sz zs)] := by
  unfold notesC
  rw [own_ents, show sortI (own3 l sz zs).retired = [] by simp [sortI, own3]]
  rfl
end Go.Proofs.Ytmkccblcmiflfaa
