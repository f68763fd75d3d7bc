/- A library and the document's, side by side. No condition beyond those that each theorem states. -/
import Derived.Test.YtiiilimmjoadeaaQ7
namespace Go.Proofs.Ytiiilimmjoadeaa
open Go.RowKit

/-- The document's library, in blocks of F. -/
def R9 (F : Nat → Prop) (w : World) (rp : Nat) (cv dv av : Value) (R : RLV) : Prop := ∃ own, (∀ k, own k ≠ 0 → F k) ∧ RCore own w rp cv dv av R
theorem R9.owning (rp : Nat) (cv dv av : Value) (R : RLV) : Owning fun F w => R9 F w rp cv dv av R where
  mono := by
    rintro F G w ⟨own, h1, h2⟩ hs
    have e : ∀ k, k < w.heap.size → (if k < w.heap.size then own k else 0) = own k := fun k hk => if_pos hk
    refine ⟨fun k => if k < w.heap.size then own k else 0, fun k hk => ?_, h2.relab e⟩
    replace hk : (if k < w.heap.size then own k else 0) ≠ 0 := hk
    split at hk
    · rename_i hlt
      exact hs k hlt (h1 k hk)
    · exact absurd rfl hk
  keep := fun _ _ _ ⟨own, h1, h2⟩ hz hk => ⟨own, h1, h2.keep hz (fun k hk1 hf => hk k hk1 (h1 k hf))⟩
def RPost (F : Nat → Prop) (w w' : World) (rp nc nd na : Nat) : Prop := ∃ F' cv' dv' av' R', R9 F' w' rp cv' dv' av' R' ∧ Took F F' w w' ∧ R'.carts.length = nc ∧ R'.drives.length = nd ∧ R'.asked.length ≤ na
theorem RStep.post {F : Nat → Prop} {own : Nat → Nat} {w w' : World} {rp nc nd na : Nat} (hF : ∀ k, own k ≠ 0 → F k) (h : RStep own w w' rp nc nd na) : RPost F w w' rp nc nd na := by
  obtain ⟨own', cv', dv', av', R', h1, h2, h3, h4, h5, h6⟩ := h
  obtain ⟨F', k1, k2⟩ := Took.of (F := F) (R9.owning rp cv' dv' av' R') ⟨own', fun k hk => (h5 k hk).imp (hF k) id, h1⟩ (h6.mono hF)
  exact ⟨F', _, _, _, R', k1, k2, h2, h3, h4⟩
theorem RPost.le {F : Nat → Prop} {w w' : World} {rp nc nd na na' : Nat} (h : RPost F w w' rp nc nd na) (hl : na ≤ na') : RPost F w w' rp nc nd na' := by
  obtain ⟨F', cv, dv, av, R, h1, h2, h3, h4, h5⟩ := h
  exact ⟨F', cv, dv, av, R, h1, h2, h3, h4, Nat.le_trans h5 hl⟩

section
variable {F : Nat → Prop} {w : World} {rp : Nat} {cv dv av : Value} {R : RLV} (h : R9 F w rp cv dv av R)
include h
theorem qIs (n : Int) : Calls Try.prog 59 #[.pointer (some ⟨rp, 0, none⟩), .int .i64 n] w fun e w' => e = .returned (.bool (isR R n)) ∧ w = w' := by
  obtain ⟨own, hF, h⟩ := h
  exact rIs own w rp cv dv av R n h
theorem qBreak (n : Int) : Calls Try.prog 56 #[.pointer (some ⟨rp, 0, none⟩), .int .i64 n] w fun e w' => BoolEnd e ∧ RPost F w w' rp R.carts.length R.drives.length R.asked.length := by
  obtain ⟨own, hF, h⟩ := h
  exact (rBreak own w rp cv dv av R n h).mono fun e w' ⟨h1, h2⟩ => ⟨h1, h2.post hF⟩
theorem qMend (n : Int) : Calls Try.prog 57 #[.pointer (some ⟨rp, 0, none⟩), .int .i64 n] w fun e w' => BoolEnd e ∧ RPost F w w' rp R.carts.length R.drives.length R.asked.length := by
  obtain ⟨own, hF, h⟩ := h
  exact (rMend own w rp cv dv av R n h).mono fun e w' ⟨h1, h2⟩ => ⟨h1, h2.post hF⟩
theorem qAdd (m : Int) : Calls Try.prog 58 #[.pointer (some ⟨rp, 0, none⟩), .int .i64 m] w fun e w' => IntBoolEnd e ∧ RPost F w w' rp (if R.carts.length < 32 then R.carts.length + 1 else R.carts.length) R.drives.length R.asked.length := by
  obtain ⟨own, hF, h⟩ := h
  exact (rAdd own w rp cv dv av R m h).mono fun e w' ⟨h1, h2⟩ => ⟨h1, h2.post hF⟩
theorem qRead (n pos : Int) : Calls Try.prog 60 #[.pointer (some ⟨rp, 0, none⟩), .int .i64 n, .int .i64 pos] w fun e w' => StrIntEnd e ∧ RPost F w w' rp R.carts.length R.drives.length R.asked.length := by
  obtain ⟨own, hF, h⟩ := h
  exact (rRead own w rp cv dv av R n pos h).mono fun e w' ⟨h1, h2⟩ => ⟨h1, h2.post hF⟩
theorem qAppend (n : Int) (A : Option Addr) (m c : Nat) (l : List UInt8) (hb : BytesIn w A m l) (hm : m ≤ 9223372036854775807) : Calls Try.prog 61 #[.pointer (some ⟨rp, 0, none⟩), .int .i64 n, .slice A m c] w fun e w' => IntIntEnd e ∧ RPost F w w' rp R.carts.length R.drives.length R.asked.length := by
  obtain ⟨own, hF, h⟩ := h
  exact (rAppend own w rp cv dv av R n A m c l h hb hm).mono fun e w' ⟨h1, h2⟩ => ⟨h1, h2.post hF⟩
theorem qGo (n pos : Int) (hna : R.asked.length ≤ 100000) : Calls Try.prog 63 #[.pointer (some ⟨rp, 0, none⟩), .int .i64 n, .int .i64 pos] w fun e w' => BoolIntEnd e ∧ RPost F w w' rp R.carts.length R.drives.length (R.asked.length + 1) := by
  obtain ⟨own, hF, h⟩ := h
  exact (rGo own w rp cv dv av R n pos h hna).mono fun e w' ⟨h1, h2⟩ => ⟨h1, h2.post hF⟩
theorem qLose {i : Nat} {C : CV} (hC : R.carts[i]? = some C) : Calls Try.prog 47 #[.pointer (some ⟨C.p, 0, none⟩)] w fun e w' => BoolEnd e ∧ ∃ F' M2 l2, R9 F' w' rp cv dv av ⟨R.carts.set i ⟨C.p, M2, C.most, l2⟩, R.drives, R.asked⟩ ∧ Took F F' w w' := by
  obtain ⟨own, hF, h⟩ := h
  refine (refLose _ C.p C.M C.most C.lost w (h.cs i C hC)).mono fun e w' ⟨h1, F', h2, h3⟩ => ?_
  obtain ⟨F2, k1, k2⟩ := Took.of (F := F) (R9.owning rp cv dv av ⟨R.carts.set i ⟨C.p, C.M, C.most, true⟩, R.drives, R.asked⟩) ⟨_, fun k hk => (relabel_from k hk).imp (hF k) id, h.cart_step hC h2 h3⟩ (h3.1.mono (fun k (hk : own k = i + 10) => hF k (by omega)))
  exact ⟨⟨_, h1⟩, F2, _, _, k1, k2⟩
theorem qRot {i : Nat} {C : CV} (hC : R.carts[i]? = some C) (pos : Int) : Calls Try.prog 45 #[.pointer (some ⟨C.p, 0, none⟩), .int .i64 pos] w fun e w' => BoolEnd e ∧ ∃ F' M2 l2, R9 F' w' rp cv dv av ⟨R.carts.set i ⟨C.p, M2, C.most, l2⟩, R.drives, R.asked⟩ ∧ Took F F' w w' := by
  obtain ⟨own, hF, h⟩ := h
  refine (refRot _ C.p C.M C.most C.lost pos w (h.cs i C hC)).mono fun e w' ⟨h1, F', h2, h3⟩ => ?_
  obtain ⟨F2, k1, k2⟩ := Took.of (F := F) (R9.owning rp cv dv av ⟨R.carts.set i ⟨C.p, (rotM C.M C.lost pos).2, C.most, C.lost⟩, R.drives, R.asked⟩) ⟨_, fun k hk => (relabel_from k hk).imp (hF k) id, h.cart_step hC h2 h3⟩ (h3.1.mono (fun k (hk : own k = i + 10) => hF k (by omega)))
  exact ⟨⟨_, h1⟩, F2, _, _, k1, k2⟩
theorem R9.cells {i : Nat} (hi : i < R.carts.length) : ∃ g cap C, w.cell? ⟨rp, 0, none⟩ = some (.slice (some ⟨g, 0, none⟩) R.carts.length cap) ∧ R.carts[i]? = some C ∧ w.cell? ⟨g, i, none⟩ = some (.pointer (some ⟨C.p, 0, none⟩)) ∧ cv = .slice (some ⟨g, 0, none⟩) R.carts.length cap := by
  obtain ⟨own, hF, h⟩ := h
  rcases h.rc.form with ⟨_, h0⟩ | ⟨g, cap, rfl, _, _, _, _⟩
  · omega
  · exact ⟨g, cap, R.carts[i], h.blk.cell 0, List.getElem?_eq_getElem hi, h.cart_cell rfl (List.getElem?_eq_getElem hi), rfl⟩
/-- They read so wherever the document's library is still so. -/
theorem R9.cell0 : w.cell? ⟨rp, 0, none⟩ = some cv := by
  obtain ⟨own, hF, h⟩ := h
  exact h.blk.cell 0
theorem R9.cellC {i g n cap : Nat} {C : CV} (hv : cv = .slice (some ⟨g, 0, none⟩) n cap) (hC : R.carts[i]? = some C) : w.cell? ⟨g, i, none⟩ = some (.pointer (some ⟨C.p, 0, none⟩)) := by
  obtain ⟨own, hF, h⟩ := h
  subst hv
  rcases h.rc.form with ⟨h0, _⟩ | ⟨g', cap', h0, _, _, _, _⟩
  · cases h0
  · have e : g = g' := by
      injection h0 with h0
      injection h0 with h0
      injection h0
    subst e
    exact h.cart_cell (cap := cap') h0 hC
end

section
variable {F : Nat → Prop} {w : World} {lp : Nat} {L : LV} (h : LOwn F w lp L)
include h
theorem oLose {i : Nat} {C : CV} (hC : L.carts[i]? = some C) : Calls Try.prog 26 #[.pointer (some ⟨C.p, 0, none⟩)] w fun e w' => BoolEnd e ∧ ∃ F', LOwn F' w' lp ⟨L.carts.set i ⟨C.p, C.M, C.most, true⟩, L.drives, L.now⟩ ∧ Took F F' w w' := by
  obtain ⟨own, cv, dv, hF, h⟩ := h
  exact (cLose _ C.p C.M C.most C.lost w (h.cs i C hC)).mono fun e w' ⟨h1, F', h2, h3⟩ => ⟨⟨_, h1⟩, LStep.took hF (LStep.cart h hC h2 h3)⟩
theorem oRot {i : Nat} {C : CV} (hC : L.carts[i]? = some C) (pos : Int) : Calls Try.prog 18 #[.pointer (some ⟨C.p, 0, none⟩), .int .i64 pos] w fun e w' => BoolEnd e ∧ ∃ F', LOwn F' w' lp ⟨L.carts.set i ⟨C.p, (rotM C.M C.lost pos).2, C.most, C.lost⟩, L.drives, L.now⟩ ∧ Took F F' w w' := by
  obtain ⟨own, cv, dv, hF, h⟩ := h
  exact (cRot _ C.p C.M C.most C.lost pos w (h.cs i C hC)).mono fun e w' ⟨h1, F', h2, h3⟩ => ⟨⟨_, h1⟩, LStep.took hF (LStep.cart h hC h2 h3)⟩
theorem oCartRead {i : Nat} {C : CV} (hC : L.carts[i]? = some C) (pos : Int) : Calls Try.prog 16 #[.pointer (some ⟨C.p, 0, none⟩), .int .i64 pos] w fun e w' => ∃ v, e = .returned (.tuple #[v, .int .i64 (readM C.M C.lost pos).2]) ∧ OutB w w' v (readM C.M C.lost pos).1 ∧ Below w.heap.size w w' := by
  obtain ⟨own, cv, dv, hF, h⟩ := h
  exact cRead _ C.p C.M C.most C.lost pos w (h.cs i C hC)
theorem oCartLen {i : Nat} {C : CV} (hC : L.carts[i]? = some C) : Calls Try.prog 19 #[.pointer (some ⟨C.p, 0, none⟩)] w fun e w' => e = .returned (.int .i64 C.M.length) ∧ w = w' := by
  obtain ⟨own, cv, dv, hF, h⟩ := h
  exact cLen _ C.p C.M C.most C.lost w (h.cs i C hC)
theorem oCartShort {i : Nat} {C : CV} (hC : L.carts[i]? = some C) : (∀ r ∈ C.M, r.1.length ≤ 256) ∧ (C.M.length : Int) ≤ C.most ∧ C.most ≤ 1024 := by
  obtain ⟨own, cv, dv, hF, h⟩ := h
  exact (h.cs i C hC).short
end

/-- Both, and an act's cells: who owns what. -/
structure Duo8 (own : Nat → Nat) (w0 w : World) (lp rp a : Nat) (cs : Array Value) (L : LV) (cv dv av : Value) (R : RLV) : Prop where
  l : LOwn (fun k => own k = 1) w lp L
  r : R9 (fun k => own k = 2) w rp cv dv av R
  a : OwnBlk (fun k => own k = 9) w a 69 cs
  sep : Sep w0.heap.size w0 w own
section
variable {own : Nat → Nat} {w0 w w' : World} {lp rp a : Nat} {cs : Array Value} {L L2 : LV} {cv dv av : Value} {R : RLV} {F' : Nat → Prop}
theorem Duo8.below (h : Duo8 own w0 w lp rp a cs L cv dv av R) (hb : Below w.heap.size w w') : Duo8 own w0 w' lp rp a cs L cv dv av R :=
  ⟨(LOwn.owning _ _).below h.l hb, (R9.owning _ _ _ _ _).below h.r hb, (OwnBlk.owning _ _ _).below h.a hb, h.sep.below h.sep.base.size hb⟩
theorem Duo8.stepL (h : Duo8 own w0 w lp rp a cs L cv dv av R) (h' : LOwn F' w' lp L2) (ht : Took (fun k => own k = 1) F' w w') : Duo8 (relabel own 1 w.heap.size) w0 w' lp rp a cs L2 cv dv av R :=
  ⟨relabel_own (LOwn.owning _ _) h' ht, relabel_other (R9.owning _ _ _ _ _) h.r (by decide) ht.1, relabel_other (OwnBlk.owning _ _ _) h.a (by decide) ht.1, h.sep.step h.sep.base.size (by decide) ht.1⟩
def Duo8N (w0 w' : World) (lp rp a : Nat) (cs : Array Value) (L : LV) (nc na : Nat) : Prop := ∃ own cv dv av R, Duo8 own w0 w' lp rp a cs L cv dv av R ∧ R.carts.length = nc ∧ R.asked.length ≤ na
theorem Duo8.stepR {nc nd na : Nat} (h : Duo8 own w0 w lp rp a cs L cv dv av R) (h' : RPost (fun k => own k = 2) w w' rp nc nd na) : Duo8N w0 w' lp rp a cs L nc na := by
  obtain ⟨F', cv', dv', av', R', h1, h2, h3, h4, h5⟩ := h'
  exact ⟨relabel own 2 w.heap.size, _, _, _, R', ⟨relabel_other (LOwn.owning _ _) h.l (by decide) h2.1, relabel_own (R9.owning _ _ _ _ _) h1 h2, relabel_other (OwnBlk.owning _ _ _) h.a (by decide) h2.1, h.sep.step h.sep.base.size (by decide) h2.1⟩, h3, h5⟩
end
section
variable {own : Nat → Nat} {w0 w w' : World} {lp rp a : Nat} {cs : Array Value} {L : LV} {cv dv av : Value} {R R2 : RLV} {F' : Nat → Prop}
theorem Duo8.stepC (h : Duo8 own w0 w lp rp a cs L cv dv av R) (h1 : R9 F' w' rp cv dv av R2) (h2 : Took (fun k => own k = 2) F' w w') : Duo8 (relabel own 2 w.heap.size) w0 w' lp rp a cs L cv dv av R2 :=
  ⟨relabel_other (LOwn.owning _ _) h.l (by decide) h2.1, relabel_own (R9.owning _ _ _ _ _) h1 h2, relabel_other (OwnBlk.owning _ _ _) h.a (by decide) h2.1, h.sep.step h.sep.base.size (by decide) h2.1⟩
end
/-- Both. -/
def Both8 (w0 w : World) (lp rp : Nat) (L : LV) (na : Nat) : Prop := ∃ own cv dv av R, LOwn (fun k => own k = 1) w lp L ∧ R9 (fun k => own k = 2) w rp cv dv av R ∧ Sep w0.heap.size w0 w own ∧ R.carts.length = L.carts.length ∧ R.asked.length ≤ na
theorem Both8.duo {w0 w : World} {lp rp na : Nat} {L : LV} (h : Both8 w0 w lp rp L na) (cs : Array Value) : ∃ own cv dv av R, Duo8 own w0 (w.alloc (.cells cs 69)) lp rp w.heap.size cs L cv dv av R ∧ R.carts.length = L.carts.length ∧ R.asked.length ≤ na := by
  obtain ⟨own, cv, dv, av, R, h1, h2, h3, h4, h5⟩ := h
  have hc : Chg (fun k => own k = 9) w (w.alloc (.cells cs 69)) := (Chg.refl _ w).alloc _
  exact ⟨relabel own 9 w.heap.size, cv, dv, av, R, ⟨relabel_other (LOwn.owning _ _) h1 (by decide) hc, relabel_other (R9.owning _ _ _ _ _) h2 (by decide) hc, ⟨Blk.made _ _ _, by simp [relabel]⟩, h3.step h3.base.size (by decide) hc⟩, h4, h5⟩
theorem Duo8N.both {w0 w : World} {lp rp a nc na : Nat} {cs : Array Value} {L : LV} (h : Duo8N w0 w lp rp a cs L nc na) (hn : nc = L.carts.length) : Both8 w0 w lp rp L na := by
  obtain ⟨own, cv, dv, av, R, h1, h2, h3⟩ := h
  exact ⟨own, cv, dv, av, R, h1.l, h1.r, h1.sep, h2.trans hn, h3⟩
theorem Both8.le {w0 w : World} {lp rp na na' : Nat} {L : LV} (h : Both8 w0 w lp rp L na) (hl : na ≤ na') : Both8 w0 w lp rp L na' := by
  obtain ⟨own, cv, dv, av, R, h1, h2, h3, h4, h5⟩ := h
  exact ⟨own, cv, dv, av, R, h1, h2, h3, h4, Nat.le_trans h5 hl⟩
theorem Both8.below {w0 w w' : World} {lp rp na : Nat} {L : LV} (h : Both8 w0 w lp rp L na) (hb : Below w.heap.size w w') : Both8 w0 w' lp rp L na := by
  obtain ⟨own, cv, dv, av, R, h1, h2, h3, h4⟩ := h
  exact ⟨own, cv, dv, av, R, (LOwn.owning _ _).below h1 hb, (R9.owning _ _ _ _ _).below h2 hb, h3.below h3.base.size hb, h4⟩
end Go.Proofs.Ytiiilimmjoadeaa
