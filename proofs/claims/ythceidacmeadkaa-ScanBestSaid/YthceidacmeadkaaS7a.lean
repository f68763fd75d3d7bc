/- The copies that records come to: lemmas for the walk. No condition beyond those that each theorem states. -/
import Derived.Test.YthceidacmeadkaaS6
import Derived.Test.YthceidacmeadkaaS8
import Derived.Test.YthceidacmeadkaaS9
namespace Go.Proofs.Ythceidacmeadkaa
open Go.RowKit Go.Maps Go.WideMaps
attribute [local go_sem] Oper.semAt_some

theorem zeroS (w : World) : (zeroValue 30).run Try.prog w = .ok (.slice none 0 0) w := by kernel_rfl
theorem placeVals_set : ∀ (l : List (Int × Int)) (s : Nat) (p : Int × Int), ((placeVals l).set (s * 2) (.int .i64 p.1)).set (s * 2 + 1) (.int .i64 p.2) = placeVals (l.set s p)
  | [], s, p => by simp [placeVals]
  | q :: l, 0, p => rfl
  | q :: l, s + 1, p => by
    have h := placeVals_set l s p
    rw [List.set_cons_succ, show placeVals (q :: l.set s p) = .int .i64 q.1 :: .int .i64 q.2 :: placeVals (l.set s p) from rfl, ← h, show placeVals (q :: l) = .int .i64 q.1 :: .int .i64 q.2 :: placeVals l from rfl, show (s + 1) * 2 = s * 2 + 1 + 1 by omega]
    rfl
theorem ent_look {W : World} {B N k : Nat} {CL : List CopyE} {e : CopyE} {b : BlobV} (hm : MapAt (blobKey ()) (.slice none 0 0) W B N (CL.map entV)) (he : e ∈ CL) (hb : e.b = b) (hk : slotsB b = k) (hob : OkB b) :
    (Instr.lookup 56 (.map (some B)) (.agg #[strV b.key, .int .i64 b.gen, .int .i64 b.groups, .int .i64 b.size, strV b.sum]) false).run Try.prog W = .ok (.slice (some ⟨e.g, 0, none⟩) k k) W := by
  have h := hm.look1 Try.underlying56 (zeroS W) (k := b) hob
  rw [getL_at _ hm.nd (k := b) (v := .slice (some ⟨e.g, 0, none⟩) k k) (by rw [← hk, ← hb]; exact List.mem_map_of_mem (f := entV) he)] at h
  exact h
theorem new_look {W : World} {B N : Nat} {CL : List CopyE} {b : BlobV} (hm : MapAt (blobKey ()) (.slice none 0 0) W B N (CL.map entV)) (hh : hasL (CL.map entV) b = false) (hob : OkB b) :
    (Instr.lookup 56 (.map (some B)) (.agg #[strV b.key, .int .i64 b.gen, .int .i64 b.groups, .int .i64 b.size, strV b.sum]) false).run Try.prog W = .ok (.slice none 0 0) W := by
  have h := hm.look1 Try.underlying56 (zeroS W) (k := b) hob
  rw [getL_no _ hh] at h
  exact h
theorem place_at {W : World} {g s : Nat} {pre : List FoundP} {b : BlobV} {q : Int × Int} (h : Blk W g 34 (placeVals (placesOf pre b)).toArray) (hs : s < slotsB b) (hp : firstAt pre b s = q) :
    W.cell? ⟨g, s * 2, none⟩ = some (.int .i64 q.1) ∧ W.cell? ⟨g, s * 2 + 1, none⟩ = some (.int .i64 q.2) := by
  have h1 := placeVals_get (places_get pre b hs)
  rw [hp] at h1
  exact ⟨(h.cell _).trans (by rw [List.getElem?_toArray]; exact h1.1), (h.cell _).trans (by rw [List.getElem?_toArray]; exact h1.2)⟩
theorem CopiesAt.stored {w W : World} {A : Option Addr} {n c s : Nat} {G : Nat → FoundP} {pre : List FoundP} {CL : List CopyE} {x : FoundP} {e : CopyE} (h : CopiesAt w A n c G pre (pre ++ [x]) CL W) (IN : FoundsIn w A n G) (he : e ∈ CL) (hb : ofR x.r = e.b)
    (hk : x.r.kind = 2) (hs : x.r.group * 10 + x.r.index = (s : Int)) (hn : firstAt pre e.b s = (0, 1024)) (hok : ∀ p ∈ pre, okF p = true) :
    CopiesAt w A n c G (pre ++ [x]) (pre ++ [x]) CL ((W.setCell ⟨e.g, s * 2, none⟩ (.int .i64 x.cart)).setCell ⟨e.g, s * 2 + 1, none⟩ (.int .i64 x.pos)) := by
  have hge := (h.rows e he).1
  have hnone : pre.find? (isShard (ofR x.r) s) = none := by
    cases hq : pre.find? (isShard (ofR x.r) s) with
    | none => rfl
    | some q =>
      rw [← hb] at hn
      exact absurd hn ((first_found hok).1 (by rw [hq]; rfl))
  have CH : Chg (fun k => k = e.g) W ((W.setCell ⟨e.g, s * 2, none⟩ (.int .i64 x.cart)).setCell ⟨e.g, s * 2 + 1, none⟩ (.int .i64 x.pos)) := ((Chg.refl (fun k => k = e.g) W).store (p := ⟨e.g, s * 2, none⟩) (.inl rfl) _).store (p := ⟨e.g, s * 2 + 1, none⟩) (.inl rfl) _
  refine h.last IN he hb (fun k h1 h2 => CH.block k h2 h1) ?_ (h.base.trans (CH.below h.base.size (fun k hk => by omega)))
  have hr := (((h.rows e he).2.store (s * 2) (.int .i64 x.cart)).store (s * 2 + 1) (.int .i64 x.pos))
  rw [List.setIfInBounds_toArray, List.setIfInBounds_toArray, placeVals_set (placesOf pre e.b) s (x.cart, x.pos), ← hb, ← places_set hk hs hnone] at hr
  rw [← hb]
  exact hr
theorem CopiesAt.same_ {w W : World} {A : Option Addr} {n c s : Nat} {G : Nat → FoundP} {pre : List FoundP} {CL : List CopyE} {x : FoundP} {e : CopyE} (h : CopiesAt w A n c G pre (pre ++ [x]) CL W) (IN : FoundsIn w A n G) (he : e ∈ CL) (hb : ofR x.r = e.b)
    (hs : x.r.group * 10 + x.r.index = (s : Int)) (hn : firstAt pre e.b s ≠ (0, 1024)) (hok : ∀ p ∈ pre, okF p = true) :
    CopiesAt w A n c G (pre ++ [x]) (pre ++ [x]) CL W := by
  rw [← hb] at hn
  refine h.last IN he hb (fun _ _ _ => rfl) ?_ h.base
  rw [← hb, places_keep hs ((first_found hok).2 hn), hb]
  exact (h.rows e he).2
theorem far2 {w : World} {b i g s1 s2 : Nat} {v v0 v1 : Value} (h : w.cell? ⟨b, i, none⟩ = some v) (hne : g ≠ b) : ((w.setCell ⟨g, s1, none⟩ v0).setCell ⟨g, s2, none⟩ v1).cell? ⟨b, i, none⟩ = some v := by
  rw [World.cell?_setCell_far _ _ _ _ hne, World.cell?_setCell_far _ _ _ _ hne]
  exact h
theorem map_far2 {W : World} {B N g s1 s2 : Nat} {L : List (BlobV × Value)} {v0 v1 : Value} (h : MapAt (blobKey ()) (.slice none 0 0) W B N L) (hne : B ≠ g) : MapAt (blobKey ()) (.slice none 0 0) ((W.setCell ⟨g, s1, none⟩ v0).setCell ⟨g, s2, none⟩ v1) B N L :=
  (h.of_eq (Below.heap_setCell W ⟨g, s1, none⟩ v0 B hne)).of_eq (Below.heap_setCell _ ⟨g, s2, none⟩ v1 B hne)
theorem nil_places (w : World) (a : Option Addr) (n c : Nat) : (binOp .eql 30 (.slice a n c) (.slice none 0 0)).run Try.prog w = .ok (.bool a.isNone) w := Lib.run_eql_slice_nil w _ _ a n c 0 0 Try.underlying30
theorem far2_heap {w : World} {g s1 s2 q : Nat} {v0 v1 : Value} (h : q ≠ g) : ((w.setCell ⟨g, s1, none⟩ v0).setCell ⟨g, s2, none⟩ v1).heap[q]? = w.heap[q]? :=
  (Below.heap_setCell _ ⟨g, s2, none⟩ v1 q h).trans (Below.heap_setCell w ⟨g, s1, none⟩ v0 q h)
theorem below_drewed (B : Nat) (w : World) : Below B w w.drew := ⟨rfl, rfl, rfl, Nat.le_refl _, fun _ _ => rfl⟩
end Go.Proofs.Ythceidacmeadkaa
