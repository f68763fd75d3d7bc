/- A cartridge and the document's, side by side: what an act comes to. No condition beyond those that each theorem states. -/
import Derived.Test.YtiiilimmjoadeaaS2
import Derived.Test.YtiiilimmjoadeaaR3
import Derived.Deep.RegionHeld3
namespace Go.Proofs.Ytiiilimmjoadeaa
open Go.RowKit

theorem ROwn.gone_cell {F : Nat → Prop} {w : World} {p : Nat} {M : Recs} {most : Int} {gone : Bool} (h : ROwn F w p M most gone) : w.cell? ⟨p, 3, none⟩ = some (.bool gone) := by
  obtain ⟨rv, bv, hb, _⟩ := h
  exact hb.1.cell 3
theorem ROwn.recs_cell {F : Nat → Prop} {w : World} {p : Nat} {M : Recs} {most : Int} {gone : Bool} (h : ROwn F w p M most gone) : ∃ rv, w.cell? ⟨p, 0, none⟩ = some rv ∧ ((rv = .slice none 0 0 ∧ M.length = 0) ∨ ∃ g cap, rv = .slice (some ⟨g, 0, none⟩) M.length cap) := by
  obtain ⟨rv, bv, hb, hr, _⟩ := h
  refine ⟨rv, hb.1.cell 0, hr.form.imp id fun ⟨g, cap, h, _⟩ => ⟨g, cap, h⟩⟩
/-- Both, and an act's cells: who owns what. -/
structure Duo (own : Nat → Nat) (w0 w : World) (c r a : Nat) (cs : Array Value) (M M' : Recs) (l l' : Bool) (most : Int) : Prop where
  c : COwn (fun k => own k = 1) w c M most l
  r : ROwn (fun k => own k = 2) w r M' most l'
  a : OwnBlk (fun k => own k = 9) w a 44 cs
  sep : Sep w0.heap.size w0 w own

section
variable {own : Nat → Nat} {w0 w w' : World} {c r a : Nat} {cs : Array Value} {M M' M2 : Recs} {l l' l2 : Bool} {most : Int} {F' : Nat → Prop}
theorem Duo.below (h : Duo own w0 w c r a cs M M' l l' most) (hb : Below w.heap.size w w') : Duo own w0 w' c r a cs M M' l l' most :=
  ⟨(COwn.owning _ _ _ _).below h.c hb, (ROwn.owning _ _ _ _).below h.r hb, (OwnBlk.owning _ _ _).below h.a hb, h.sep.below h.sep.base.size hb⟩
theorem Duo.stepC (h : Duo own w0 w c r a cs M M' l l' most) (h' : COwn F' w' c M2 most l2) (ht : Took (fun k => own k = 1) F' w w') : Duo (relabel own 1 w.heap.size) w0 w' c r a cs M2 M' l2 l' most :=
  ⟨relabel_own (COwn.owning _ _ _ _) h' ht, relabel_other (ROwn.owning _ _ _ _) h.r (by decide) ht.1, relabel_other (OwnBlk.owning _ _ _) h.a (by decide) ht.1, h.sep.step h.sep.base.size (by decide) ht.1⟩
theorem Duo.stepR (h : Duo own w0 w c r a cs M M' l l' most) (h' : ROwn F' w' r M2 most l2) (ht : Took (fun k => own k = 2) F' w w') : Duo (relabel own 2 w.heap.size) w0 w' c r a cs M M2 l l2 most :=
  ⟨relabel_other (COwn.owning _ _ _ _) h.c (by decide) ht.1, relabel_own (ROwn.owning _ _ _ _) h' ht, relabel_other (OwnBlk.owning _ _ _) h.a (by decide) ht.1, h.sep.step h.sep.base.size (by decide) ht.1⟩
end

/-- Both, alike. -/
def Pair7 (w0 w : World) (c r : Nat) (M : Recs) (l : Bool) (most : Int) : Prop :=
  ∃ own, COwn (fun k => own k = 1) w c M most l ∧ ROwn (fun k => own k = 2) w r M most l ∧ Sep w0.heap.size w0 w own
theorem Pair7.duo {w0 w : World} {c r : Nat} {M : Recs} {l : Bool} {most : Int} (h : Pair7 w0 w c r M l most) (cs : Array Value) : ∃ own, Duo own w0 (w.alloc (.cells cs 44)) c r w.heap.size cs M M l l most := by
  obtain ⟨own, h1, h2, h3⟩ := h
  have hc : Chg (fun k => own k = 9) w (w.alloc (.cells cs 44)) := (Chg.refl _ w).alloc _
  exact ⟨relabel own 9 w.heap.size, relabel_other (COwn.owning _ _ _ _) h1 (by decide) hc, relabel_other (ROwn.owning _ _ _ _) h2 (by decide) hc, ⟨Blk.made _ _ _, by simp [relabel]⟩, h3.step h3.base.size (by decide) hc⟩
theorem Duo.pair {own : Nat → Nat} {w0 w : World} {c r a : Nat} {cs : Array Value} {M : Recs} {l : Bool} {most : Int} (h : Duo own w0 w c r a cs M M l l most) : Pair7 w0 w c r M l most := ⟨own, h.c, h.r, h.sep⟩
theorem Pair7.below {w0 w w' : World} {c r : Nat} {M : Recs} {l : Bool} {most : Int} (h : Pair7 w0 w c r M l most) (hb : Below w.heap.size w w') : Pair7 w0 w' c r M l most := by
  obtain ⟨own, h1, h2, h3⟩ := h
  exact ⟨own, (COwn.owning _ _ _ _).below h1 hb, (ROwn.owning _ _ _ _).below h2 hb, h3.below h3.base.size hb⟩

/-- What an act may leave. -/
def Acted (w0 : World) (c r : Nat) (most : Int) (e : Ending) (w' : World) : Prop := e = .returned (.bool true) ∧ ∃ M l, Pair7 w0 w' c r M l most

set_option maxRecDepth 100000 in
set_option maxHeartbeats 4000000 in
theorem does07 (w0 w : World) (c r : Nat) (M : Recs) (l : Bool) (most : Int) (x : Nat) (n : Int) (B : Option Addr) (m d : Nat) (lb : List UInt8) (h : Pair7 w0 w c r M l most) (hx : x < 256) (hb : BytesIn w0 B m lb) (hmd : m ≤ d) (hd : d ≤ maxLen) :
    Calls Try.prog 22 #[.pointer (some ⟨c, 0, none⟩), .pointer (some ⟨r, 0, none⟩), .agg #[.int .u8 (x : Int), .int .i64 n, .slice B m d]] w fun e w' => Acted w0 c r most e w' := by
  obtain ⟨own, hD⟩ := h.duo #[.int .u8 (x : Int), .int .i64 n, .slice B m d]
  have hm2 : m ≤ 9223372036854775807 := by simp only [maxLen] at hd; omega
  have D0 := Lib.hid hD
  have HB := Lib.hid hb
  clear hD hb h hd
  go_enter Try.func22, Try.ntmps22
  go_upto_region 2 with fail
  generalize World.alloc w _ = wa at *
  generalize w.heap.size = a at *
  have hz : ((x : Nat) : Int) % 16 = ((x % 16 : Nat) : Int) := by simp
  rw [hz]
  have hz16 : x % 16 < 16 := Nat.mod_lt _ (by decide)
  clear hz
  generalize x % 16 = z at *
  have hcase : z = 0 ∨ z = 1 ∨ z = 2 ∨ (z = 3 ∨ z = 4 ∨ z = 5 ∨ z = 6) ∨ 7 ≤ z := by omega
  rcases hcase with rfl | rfl | rfl | hz | hz
  · go_wp2_with fail
    have k1 : wa.cell? ⟨a, 1, none⟩ = some (.int .i64 n) := D0.out.a.1.cell 1
    have HSH := Lib.hid D0.out.c.short
    go_region_held3 (fun w' => w'.cell? ⟨a, 1, none⟩ = some (.int .i64 n)) (first | go_keep | exact K1)
      ((first
        | (go_at_call 18; refine (cRot _ c M most l n _ D2.out.c).mono ?_; rintro e w4 ⟨rfl, F4, h4, t4⟩; have D3 := Lib.hid (D2.out.stepC h4 t4); clear h4 t4; have K1 : w4.cell? ⟨a, 1, none⟩ = some (.int .i64 n) := D3.out.a.1.cell 1)
        | (go_at_call 18; refine (cRot _ c M most l n _ (D0.out.below below_of_drew_r).c).mono ?_; rintro e w3 ⟨rfl, F3, h3, t3⟩; have D1 := Lib.hid ((D0.out.below below_of_drew_r).stepC h3 t3); clear h3 t3; have K1 : w3.cell? ⟨a, 1, none⟩ = some (.int .i64 n) := D1.out.a.1.cell 1)
        | (go_at_call 45; refine (refRot _ r M most l n _ D1.out.r).mono ?_; rintro e w4 ⟨rfl, F4, h4, t4⟩; have D3 := Lib.hid (D1.out.stepR h4 t4); clear h4 t4; have K1 : w4.cell? ⟨a, 1, none⟩ = some (.int .i64 n) := D3.out.a.1.cell 1)
        | (go_at_call 45; refine (refRot _ r M most l n _ (D0.out.below below_of_drew_r).r).mono ?_; rintro e w3 ⟨rfl, F3, h3, t3⟩; have D2 := Lib.hid ((D0.out.below below_of_drew_r).stepR h3 t3); clear h3 t3; have K1 : w3.cell? ⟨a, 1, none⟩ = some (.int .i64 n) := D2.out.a.1.cell 1)))
    all_goals
      generalize (rotM M l n).1 = z at *
      go_wp2_with fail
      go_ret
      exact ⟨rfl, _, _, D3.out.pair⟩
  · go_wp2_with fail
    have k1 : wa.cell? ⟨a, 1, none⟩ = some (.int .i64 n) := D0.out.a.1.cell 1
    have HSH := Lib.hid D0.out.c.short
    go_region_held3 (fun w' => w'.cell? ⟨a, 1, none⟩ = some (.int .i64 n)) (first | go_keep | exact K1)
      ((first
        | (go_at_call 17; refine (cTear _ c M most l n _ D2.out.c).mono ?_; rintro e w4 ⟨rfl, F4, h4, t4⟩; have D3 := Lib.hid (D2.out.stepC h4 t4); clear h4 t4; have K1 : w4.cell? ⟨a, 1, none⟩ = some (.int .i64 n) := D3.out.a.1.cell 1)
        | (go_at_call 17; refine (cTear _ c M most l n _ (D0.out.below below_of_drew_r).c).mono ?_; rintro e w3 ⟨rfl, F3, h3, t3⟩; have D1 := Lib.hid ((D0.out.below below_of_drew_r).stepC h3 t3); clear h3 t3; have K1 : w3.cell? ⟨a, 1, none⟩ = some (.int .i64 n) := D1.out.a.1.cell 1)
        | (go_at_call 46; refine (refTear _ r M most l n _ D1.out.r HSH.out.1).mono ?_; rintro e w4 ⟨rfl, F4, h4, t4⟩; have D3 := Lib.hid (D1.out.stepR h4 t4); clear h4 t4; have K1 : w4.cell? ⟨a, 1, none⟩ = some (.int .i64 n) := D3.out.a.1.cell 1)
        | (go_at_call 46; refine (refTear _ r M most l n _ (D0.out.below below_of_drew_r).r HSH.out.1).mono ?_; rintro e w3 ⟨rfl, F3, h3, t3⟩; have D2 := Lib.hid ((D0.out.below below_of_drew_r).stepR h3 t3); clear h3 t3; have K1 : w3.cell? ⟨a, 1, none⟩ = some (.int .i64 n) := D2.out.a.1.cell 1)))
    all_goals
      generalize (tearM M l n).1 = z at *
      go_wp2_with fail
      go_ret
      exact ⟨rfl, _, _, D3.out.pair⟩
  · have k1 : wa.cell? ⟨a, 1, none⟩ = some (.int .i64 n) := D0.out.a.1.cell 1
    have kr : wa.cell? ⟨r, 3, none⟩ = some (.bool l) := D0.out.r.gone_cell
    go_wp2_with fail
    · go_quiet ((go_at_call 25; exact quiet_eq (cLost _ c M most l _ (D0.out.below (below_drewN (Below.refl _ _) _)).c)))
      go_wp2_with fail
      go_ret
      exact ⟨rfl, _, _, (D0.out.below (below_drewN (Below.refl _ _) _)).pair⟩
    · refine (cLose _ c M most l _ D0.out.c).mono ?_
      rintro e w3 ⟨rfl, F3, h3, t3⟩
      have D1 := Lib.hid (D0.out.stepC h3 t3)
      clear h3 t3
      go_wp2_with fail
      refine (refLose _ r M most l _ D1.out.r).mono ?_
      rintro e w4 ⟨rfl, F4, h4, t4⟩
      have D2 := Lib.hid (D1.out.stepR h4 t4)
      clear h4 t4
      generalize (!l) = z at *
      go_wp2_with fail
      go_ret
      exact ⟨rfl, _, _, D2.out.pair⟩
  · have k1 : wa.cell? ⟨a, 1, none⟩ = some (.int .i64 n) := D0.out.a.1.cell 1
    rcases hz with rfl | rfl | rfl | rfl
    all_goals
      go_wp2_with fail
      refine (cRead _ c M most l n _ D0.out.c).mono ?_
      rintro e w3 ⟨v, rfl, ho, hb3⟩
      have D1 := Lib.hid (D0.out.below hb3)
      have k3 : w3.cell? ⟨a, 1, none⟩ = some (.int .i64 n) := D1.out.a.1.cell 1
      have hcv := ho.string
      obtain ⟨A5, c5, rfl, -, -⟩ := ho.bytesIn
      clear ho hb3 k1
      go_wp2_with fail
      refine (refRead _ r M most l n _ D1.out.r).mono ?_
      rintro e w4 ⟨rfl, rfl⟩
      generalize (readM M l n).2 = f at *
      generalize (readM M l n).1 = lr at *
      go_wp2_with fail
      go_ret
      exact ⟨rfl, _, _, D1.out.pair⟩
  · have k2 : wa.cell? ⟨a, 2, none⟩ = some (.slice B m d) := D0.out.a.1.cell 2
    have z0 : ((z : Int) == 0) = false := by simp; omega
    have z1 : ((z : Int) == 1) = false := by simp; omega
    have z2 : ((z : Int) == 2) = false := by simp; omega
    have z3 : ((z : Int) == 3) = false := by simp; omega
    have z4 : ((z : Int) == 4) = false := by simp; omega
    have z5 : ((z : Int) == 5) = false := by simp; omega
    have z6 : ((z : Int) == 6) = false := by simp; omega
    clear hz hz16
    go_wp2_with fail
    refine (cAppend _ c M most l B m d lb _ D0.out.c (HB.out.below D0.out.sep.base)).mono ?_
    rintro e w3 ⟨rfl, F3, h3, t3⟩
    have D1 := Lib.hid (D0.out.stepC h3 t3)
    have k3 : w3.cell? ⟨a, 2, none⟩ = some (.slice B m d) := D1.out.a.1.cell 2
    clear h3 t3 k2
    go_wp2_with fail
    refine (refAppend _ r M most l B m d lb _ D1.out.r (HB.out.below D1.out.sep.base) hm2).mono ?_
    rintro e w4 ⟨rfl, F4, h4, t4⟩
    have D2 := Lib.hid (D1.out.stepR h4 t4)
    clear h4 t4
    generalize (appendM M most l lb).1 = f at *
    generalize (appendM M most l lb).2.1 = f2 at *
    go_wp2_with fail
    go_ret
    exact ⟨rfl, _, _, D2.out.pair⟩

set_option maxRecDepth 100000 in
set_option maxHeartbeats 4000000 in
theorem alike07 (w0 w : World) (c r : Nat) (M : Recs) (l : Bool) (most : Int) (h : Pair7 w0 w c r M l most) :
    Calls Try.prog 23 #[.pointer (some ⟨c, 0, none⟩), .pointer (some ⟨r, 0, none⟩)] w fun e w' => e = .returned (.bool true) ∧ ∃ n, w' = w.drewN n := by
  obtain ⟨own, hc, hr, _⟩ := h
  have HC := Lib.hid (fun N => (COwn.owning _ _ _ _).below hc (below_drewN (Below.refl _ w) N))
  have HR := Lib.hid (fun N => (ROwn.owning _ _ _ _).below hr (below_drewN (Below.refl _ w) N))
  have kr : w.cell? ⟨r, 3, none⟩ = some (.bool l) := hr.gone_cell
  obtain ⟨rv, k0, hf⟩ := hr.recs_cell
  obtain ⟨rm, hrm⟩ : ∃ rm : Int, rm = (if l then 0 else most - M.length) := ⟨_, rfl⟩
  have RC : ∀ N, Calls Try.prog 20 #[.pointer (some ⟨c, 0, none⟩)] (w.drewN N) fun e w' => e = .returned (.int .i64 rm) ∧ ∃ n, w' = (w.drewN N).drewN n := fun N => by rw [hrm]; exact cRoom _ c M most l _ (HC.out N)
  have RR : ∀ N, Calls Try.prog 49 #[.pointer (some ⟨r, 0, none⟩)] (w.drewN N) fun e w' => e = .returned (.int .i64 rm) ∧ ∃ n, w' = (w.drewN N).drewN n := fun N => by rw [hrm]; exact refRoom _ r M most l _ (HR.out N)
  have HRC := Lib.hid RC
  have HRR := Lib.hid RR
  have HLEN : Hid (∀ N, Calls Try.prog 19 #[.pointer (some ⟨c, 0, none⟩)] (w.drewN N) fun e w' => e = .returned (.int .i64 (M.length : Int)) ∧ (w.drewN N) = w') := Lib.hid (fun N => cLen _ c M most l _ (HC.out N))
  clear hc hr RC RR hrm
  rcases hf with ⟨rfl, h0⟩ | ⟨g, cap, rfl⟩
  · rw [h0] at HLEN
    clear h0
    go_enter Try.func23, Try.ntmps23
    go_wp2_with fail
    go_quiet ((first
      | (go_at_call 19; exact quiet_eq (HLEN.out _))
      | (go_at_call 25; exact quiet_eq (cLost _ c M most l _ (HC.out _)))
      | (go_at_call 20; exact Calls.quiet_of (HRC.out _))
      | (go_at_call 49; exact Calls.quiet_of (HRR.out _))))
    go_wp2_with fail
    go_ret
    exact ⟨rfl, _, rfl⟩
  ·
    go_enter Try.func23, Try.ntmps23
    go_wp2_with fail
    go_quiet ((first
      | (go_at_call 19; exact quiet_eq (cLen _ c M most l _ (HC.out _)))
      | (go_at_call 25; exact quiet_eq (cLost _ c M most l _ (HC.out _)))
      | (go_at_call 20; exact Calls.quiet_of (HRC.out _))
      | (go_at_call 49; exact Calls.quiet_of (HRR.out _))))
    go_wp2_with fail
    go_ret
    exact ⟨rfl, _, rfl⟩
end Go.Proofs.Ytiiilimmjoadeaa
