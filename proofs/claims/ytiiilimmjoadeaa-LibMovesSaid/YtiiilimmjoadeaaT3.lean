/- What an act comes to, of a library and of the document's. No condition beyond those that each theorem states. -/
import Derived.Test.YtiiilimmjoadeaaT2
import Derived.Deep.RegionHeld3
namespace Go.Proofs.Ytiiilimmjoadeaa
open Go.RowKit

theorem set_at {α : Type} {xs : List α} {i : Nat} {x y : α} (h : xs[i]? = some x) : (xs.set i y)[i]? = some y := List.getElem?_set_self (List.getElem?_eq_some_iff.1 h).1
def IntEnd (e : Ending) : Prop := ∃ a : Int, e = .returned (.int .i64 a)
set_option maxHeartbeats 1000000 in
theorem oNear {F : Nat → Prop} {w : World} {lp : Nat} {L : LV} (h : LOwn F w lp L) (n pos : Int) : Calls Try.prog 62 #[.pointer (some ⟨lp, 0, none⟩), .int .i64 n, .int .i64 pos] w fun e w' => IntEnd e ∧ w = w' := by
  have H := Lib.hid h
  by_cases hc : isC L n = true
  · obtain ⟨i, C, rfl, hi, hC, hcv⟩ := isC_get hc
    have HCV := Lib.hid hcv
    have HC := Lib.hid hC
    clear h hc hcv hC hi
    go_enter Try.func62, Try.ntmps62
    go_wp2_with (first
      | (go_at_call 34; refine (oCart H.out i).mono ?_; rintro e w1 ⟨rfl, rfl⟩; rw [HCV.out])
      | (go_at_call 19; refine (oCartLen H.out HC.out).mono ?_; rintro e w1 ⟨rfl, rfl⟩))
    all_goals
      go_ret
      exact ⟨⟨_, rfl⟩, rfl⟩
  · have hcf : isC L n = false := by simpa using hc
    have HCV := Lib.hid (cartV_no hcf)
    clear h hc hcf
    go_enter Try.func62, Try.ntmps62
    go_wp2_with (first
      | (go_at_call 34; refine (oCart H.out n).mono ?_; rintro e w1 ⟨rfl, rfl⟩; rw [HCV.out])
      | (go_at_call 19; refine (len_nil _).mono ?_; rintro e w1 ⟨rfl, rfl⟩))
    all_goals
      go_ret
      exact ⟨⟨_, rfl⟩, rfl⟩

/-- What an act may leave. -/
def Acted8 (w0 : World) (lp rp k : Nat) (e : Ending) (w' : World) : Prop := BoolEnd e ∧ ∃ L, Both8 w0 w' lp rp L k ∧ Good k L

theorem isR_isC {R : RLV} {L : LV} (h : R.carts.length = L.carts.length) (n : Int) : isR R n = isC L n := by unfold isR isC; rw [h]
theorem add_len {L : LV} {m : Int} {p : Nat} : (if L.carts.length < 32 then L.carts.length + 1 else L.carts.length) = (laddM L m p).2.carts.length := by
  unfold laddM
  split <;> simp
theorem go_len {L : LV} {n pos : Int} : (goM L n pos).2.2.carts.length = L.carts.length := by
  unfold goM
  split
  · split
    · split <;> rfl
    · split <;> rfl
  · rfl
theorem break_len {L : LV} {n : Int} : (breakM L n).2.carts.length = L.carts.length := by
  unfold breakM
  split
  · split
    · rfl
    · split <;> rfl
  · rfl
theorem mend_len {L : LV} {n : Int} : (mendM L n).2.carts.length = L.carts.length := by
  unfold mendM
  split
  · split
    · rfl
    · split <;> rfl
  · rfl
theorem read_len {L : LV} {n pos : Int} : (lreadM L n pos).2.carts.length = L.carts.length := by
  unfold lreadM
  split
  · split
    · rfl
    · split
      · split <;> rfl
      · rfl
  · rfl
theorem append_len {L : LV} {n : Int} {l : List UInt8} : (lappendM L n l).2.carts.length = L.carts.length := by
  unfold lappendM
  split
  · split
    · rfl
    · split
      · split
        · simp
        · rfl
      · rfl
  · rfl

set_option maxRecDepth 100000 in
set_option maxHeartbeats 8000000 in
theorem does08 (w0 w : World) (lp rp : Nat) (L : LV) (k x : Nat) (n pos : Int) (B : Option Addr) (m d : Nat) (lb : List UInt8) (h : Both8 w0 w lp rp L k) (hg : Good k L) (hk : k ≤ 10000) (hx : x < 256) (hb : BytesIn w0 B m lb) (hmd : m ≤ d) (hd : d ≤ maxLen) :
    Calls Try.prog 54 #[.pointer (some ⟨lp, 0, none⟩), .pointer (some ⟨rp, 0, none⟩), .agg #[.int .u8 (x : Int), .int .i64 n, .int .i64 pos, .slice B m d]] w fun e w' => Acted8 w0 lp rp (k + 1) e w' := by
  obtain ⟨own, cv, dv, av, R, hD, hlen, hna⟩ := h.duo #[.int .u8 (x : Int), .int .i64 n, .int .i64 pos, .slice B m d]
  have hm2 : m ≤ 9223372036854775807 := by simp only [maxLen] at hd; omega
  have D0 := Lib.hid hD
  have HB := Lib.hid hb
  have GD := Lib.hid hg
  have HL := Lib.hid hlen
  have hna2 : R.asked.length ≤ 100000 := by omega
  have HPOS := Lib.hid (hg.pos (by omega))
  have hnow : 0 ≤ L.now ∧ L.now < 4611686018427387904 := by have := hg.now; omega
  clear hD hb h hd hg hlen
  go_enter Try.func54, Try.ntmps54
  go_upto_region 2 with fail
  generalize World.alloc w _ = wa at *
  generalize w.heap.size = a at *
  have hz : ((x : Nat) : Int) % 16 = ((x % 16 : Nat) : Int) := by simp
  rw [hz]
  have hz16 : x % 16 < 16 := Nat.mod_lt _ (by decide)
  clear hz
  generalize x % 16 = z at *
  have k1 : wa.cell? ⟨a, 1, none⟩ = some (.int .i64 n) := D0.out.a.1.cell 1
  have k2 : wa.cell? ⟨a, 2, none⟩ = some (.int .i64 pos) := D0.out.a.1.cell 2
  have k3 : wa.cell? ⟨a, 3, none⟩ = some (.slice B m d) := D0.out.a.1.cell 3
  have hcase : z = 0 ∨ z = 1 ∨ z = 2 ∨ z = 3 ∨ (z = 4 ∨ z = 5 ∨ z = 6 ∨ z = 7) ∨ (z = 8 ∨ z = 9 ∨ z = 10 ∨ z = 11) ∨ 12 ≤ z := by omega
  rcases hcase with rfl | rfl | rfl | rfl | hz | hz | hz
  · go_wp2_with fail
    clear k2 k3
    go_region_held3 (fun w' => w'.cell? ⟨a, 1, none⟩ = some (.int .i64 n)) (first | go_keep | exact K1)
      ((first
        | (go_at_call 32; refine (oBreak D2.out.l n).mono ?_; rintro e w4 ⟨rfl, F4, h4, t4⟩; have D3 := Lib.hid (D2.out.stepL h4 t4); have D3N := Lib.hid (show Duo8N w0 w4 lp rp a _ (breakM L n).2 _ _ from ⟨_, _, _, _, _, D3.out, LN2, LA2⟩); clear h4 t4; have K1 : w4.cell? ⟨a, 1, none⟩ = some (.int .i64 n) := D3.out.a.1.cell 1)
        | (go_at_call 32; refine (oBreak (D0.out.below below_of_drew_r).l n).mono ?_; rintro e w3 ⟨rfl, F3, h3, t3⟩; have D1 := Lib.hid ((D0.out.below below_of_drew_r).stepL h3 t3); clear h3 t3; have K1 : w3.cell? ⟨a, 1, none⟩ = some (.int .i64 n) := D1.out.a.1.cell 1)
        | (go_at_call 56; refine (qBreak D1.out.r n).mono ?_; rintro e w4 ⟨⟨b, rfl⟩, h4⟩; have D3N := Lib.hid (D1.out.stepR h4); clear h4; obtain ⟨o4, c4, d4, a4, R4, D3, LN2, LA2⟩ := D3N.out; have K1 : w4.cell? ⟨a, 1, none⟩ = some (.int .i64 n) := D3.a.1.cell 1)
        | (go_at_call 56; refine (qBreak (D0.out.below below_of_drew_r).r n).mono ?_; rintro e w3 ⟨⟨b, rfl⟩, h3⟩; obtain ⟨o4, c4, d4, a4, R4, D2', LN2, LA2⟩ := (D0.out.below below_of_drew_r).stepR h3; have D2 := Lib.hid D2'; clear h3 D2'; have K1 : w3.cell? ⟨a, 1, none⟩ = some (.int .i64 n) := D2.out.a.1.cell 1)))
    all_goals
      have GB := Lib.hid (good_break GD.out n)
      generalize (breakM L n).1 = z at *
      go_wp2_with fail
      go_ret
      exact ⟨⟨_, rfl⟩, _, Both8.le (D3N.out.both (HL.out.trans break_len.symm)) (by omega), GB.out⟩
  · go_wp2_with fail
    clear k2 k3
    go_region_held3 (fun w' => w'.cell? ⟨a, 1, none⟩ = some (.int .i64 n)) (first | go_keep | exact K1)
      ((first
        | (go_at_call 33; refine (oMend D2.out.l n).mono ?_; rintro e w4 ⟨rfl, F4, h4, t4⟩; have D3 := Lib.hid (D2.out.stepL h4 t4); have D3N := Lib.hid (show Duo8N w0 w4 lp rp a _ (mendM L n).2 _ _ from ⟨_, _, _, _, _, D3.out, LN2, LA2⟩); clear h4 t4; have K1 : w4.cell? ⟨a, 1, none⟩ = some (.int .i64 n) := D3.out.a.1.cell 1)
        | (go_at_call 33; refine (oMend (D0.out.below below_of_drew_r).l n).mono ?_; rintro e w3 ⟨rfl, F3, h3, t3⟩; have D1 := Lib.hid ((D0.out.below below_of_drew_r).stepL h3 t3); clear h3 t3; have K1 : w3.cell? ⟨a, 1, none⟩ = some (.int .i64 n) := D1.out.a.1.cell 1)
        | (go_at_call 57; refine (qMend D1.out.r n).mono ?_; rintro e w4 ⟨⟨b, rfl⟩, h4⟩; have D3N := Lib.hid (D1.out.stepR h4); clear h4; obtain ⟨o4, c4, d4, a4, R4, D3, LN2, LA2⟩ := D3N.out; have K1 : w4.cell? ⟨a, 1, none⟩ = some (.int .i64 n) := D3.a.1.cell 1)
        | (go_at_call 57; refine (qMend (D0.out.below below_of_drew_r).r n).mono ?_; rintro e w3 ⟨⟨b, rfl⟩, h3⟩; obtain ⟨o4, c4, d4, a4, R4, D2', LN2, LA2⟩ := (D0.out.below below_of_drew_r).stepR h3; have D2 := Lib.hid D2'; clear h3 D2'; have K1 : w3.cell? ⟨a, 1, none⟩ = some (.int .i64 n) := D2.out.a.1.cell 1)))
    all_goals
      have GB := Lib.hid (good_mend GD.out n)
      generalize (mendM L n).1 = z at *
      go_wp2_with fail
      go_ret
      exact ⟨⟨_, rfl⟩, _, Both8.le (D3N.out.both (HL.out.trans mend_len.symm)) (by omega), GB.out⟩
  · clear k1 k3
    go_wp2_with fail
    refine (oAdd D0.out.l pos).mono ?_
    rintro e w3 ⟨p, rfl, F3, h3, t3⟩
    have D1 := Lib.hid (D0.out.stepL h3 t3)
    have k2 : w3.cell? ⟨a, 2, none⟩ = some (.int .i64 pos) := D1.out.a.1.cell 2
    clear h3 t3
    have GB := Lib.hid (good_add GD.out pos p)
    have AL := Lib.hid (add_len (L := L) (m := pos) (p := p))
    generalize (laddM L pos p).1.1 = z1 at *
    generalize (laddM L pos p).1.2 = z2 at *
    go_wp2_with fail
    refine (qAdd D1.out.r pos).mono ?_
    rintro e w4 ⟨⟨y1, y2, rfl⟩, h4⟩
    have D3N := Lib.hid (D1.out.stepR h4)
    clear h4
    go_wp2_with fail
    all_goals
      go_ret
      exact ⟨⟨_, rfl⟩, _, Both8.le (D3N.out.both (by rw [HL.out]; exact AL.out)) (by omega), GB.out⟩
  · by_cases hc : isC L n = true
    · obtain ⟨i, C, rfl, hi, hC, hcv⟩ := isC_get hc
      have HCV := Lib.hid hcv
      have HC := Lib.hid hC
      have E := Lib.hid ((isR_isC HL.out i).trans hc)
      obtain ⟨gr, capr, C', q0, hC2, q1, rfl⟩ := D0.out.r.cells (i := i) (by rw [HL.out]; exact hi)
      have HC2 := Lib.hid hC2
      have hir : i < R.carts.length := by rw [HL.out]; exact hi
      have hi1 : (0 : Int) ≤ (i : Int) := by omega
      have hi2 : (i : Int) < (R.carts.length : Int) := by omega
      have hi3 : decide ((i : Int) < (R.carts.length : Int)) = true := by simpa using hir
      clear hcv hC hc hC2
      by_cases hp3 : pos.tmod 3 = 0
      · have dp : (pos.tmod 3 == 0) = true := by simpa using hp3
        clear hp3
        clear k3
        go_wp2_with (go_at_call 59; refine (qIs D0.out.r i).mono ?_; rintro e w1 ⟨rfl, rfl⟩; rw [E.out])
        go_region_held3 (fun w' => w'.cell? ⟨a, 1, none⟩ = some (.int .i64 (i : Int)) ∧ w'.cell? ⟨rp, 0, none⟩ = some (.slice (some ⟨gr, 0, none⟩) R.carts.length capr) ∧ w'.cell? ⟨gr, i, none⟩ = some (.pointer (some ⟨C'.p, 0, none⟩))) (first | go_keep | exact K1)
          ((first
            | (go_at_call 26; refine (oLose D2.out.l HC.out).mono ?_; rintro e w4 ⟨⟨b, rfl⟩, F4, h4, t4⟩; have D3 := Lib.hid (D2.out.stepL h4 t4); clear h4 t4; have K1 : (fun w' => w'.cell? ⟨a, 1, none⟩ = some (.int .i64 (i : Int)) ∧ w'.cell? ⟨rp, 0, none⟩ = some (.slice (some ⟨gr, 0, none⟩) R.carts.length capr) ∧ w'.cell? ⟨gr, i, none⟩ = some (.pointer (some ⟨C'.p, 0, none⟩))) w4 := ⟨D3.out.a.1.cell 1, D3.out.r.cell0, D3.out.r.cellC (C := ⟨C'.p, M4, C'.most, l4⟩) rfl (set_at HC2.out)⟩)
            | (go_at_call 26; refine (oLose (D0.out.below below_of_drew_r).l HC.out).mono ?_; rintro e w3 ⟨⟨b, rfl⟩, F3, h3, t3⟩; have D1 := Lib.hid ((D0.out.below below_of_drew_r).stepL h3 t3); clear h3 t3; have K1 : (fun w' => w'.cell? ⟨a, 1, none⟩ = some (.int .i64 (i : Int)) ∧ w'.cell? ⟨rp, 0, none⟩ = some (.slice (some ⟨gr, 0, none⟩) R.carts.length capr) ∧ w'.cell? ⟨gr, i, none⟩ = some (.pointer (some ⟨C'.p, 0, none⟩))) w3 := ⟨D1.out.a.1.cell 1, D1.out.r.cell0, D1.out.r.cellC rfl HC2.out⟩)
            | (go_at_call 47; refine (qLose D1.out.r HC2.out).mono ?_; rintro e w4 ⟨⟨b2, rfl⟩, F4, M4, l4, h4, t4⟩; have D3 := Lib.hid (D1.out.stepC h4 t4); clear h4 t4; have K1 : (fun w' => w'.cell? ⟨a, 1, none⟩ = some (.int .i64 (i : Int)) ∧ w'.cell? ⟨rp, 0, none⟩ = some (.slice (some ⟨gr, 0, none⟩) R.carts.length capr) ∧ w'.cell? ⟨gr, i, none⟩ = some (.pointer (some ⟨C'.p, 0, none⟩))) w4 := ⟨D3.out.a.1.cell 1, D3.out.r.cell0, D3.out.r.cellC (C := ⟨C'.p, M4, C'.most, l4⟩) rfl (set_at HC2.out)⟩)
            | (go_at_call 47; refine (qLose (D0.out.below below_of_drew_r).r HC2.out).mono ?_; rintro e w3 ⟨⟨b2, rfl⟩, F3, M4, l4, h3, t3⟩; have D2 := Lib.hid ((D0.out.below below_of_drew_r).stepC h3 t3); clear h3 t3; have K1 : (fun w' => w'.cell? ⟨a, 1, none⟩ = some (.int .i64 (i : Int)) ∧ w'.cell? ⟨rp, 0, none⟩ = some (.slice (some ⟨gr, 0, none⟩) R.carts.length capr) ∧ w'.cell? ⟨gr, i, none⟩ = some (.pointer (some ⟨C'.p, 0, none⟩))) w3 := ⟨D2.out.a.1.cell 1, D2.out.r.cell0, D2.out.r.cellC (C := ⟨C'.p, M4, C'.most, l4⟩) rfl (set_at HC2.out)⟩)
            | (go_at_call 34; refine (oCart D2.out.l i).mono ?_; rintro e w5 ⟨rfl, rfl⟩; rw [HCV.out])
            | (go_at_call 34; refine (oCart (D0.out.below below_of_drew_r).l i).mono ?_; rintro e w5 ⟨rfl, rfl⟩; rw [HCV.out])))
        all_goals
          go_wp2_with fail
          go_ret
          exact ⟨⟨_, rfl⟩, ⟨L.carts.set i ⟨C.p, C.M, C.most, true⟩, L.drives, L.now⟩, Both8.le (Duo8N.both ⟨_, _, _, _, _, D3.out, rfl, Nat.le_refl _⟩ (by simpa using HL.out)) (by show R.asked.length ≤ k + 1; omega), (GD.out.carts (by simp)).mono (by omega)⟩
      · have dp : (pos.tmod 3 == 0) = false := by simpa using hp3
        clear hp3
        clear k3
        go_wp2_with (go_at_call 59; refine (qIs D0.out.r i).mono ?_; rintro e w1 ⟨rfl, rfl⟩; rw [E.out])
        go_region_held3 (fun w' => w'.cell? ⟨a, 1, none⟩ = some (.int .i64 (i : Int)) ∧ w'.cell? ⟨a, 2, none⟩ = some (.int .i64 pos) ∧ w'.cell? ⟨rp, 0, none⟩ = some (.slice (some ⟨gr, 0, none⟩) R.carts.length capr) ∧ w'.cell? ⟨gr, i, none⟩ = some (.pointer (some ⟨C'.p, 0, none⟩))) (first | go_keep | exact K1)
          ((first
            | (go_at_call 18; refine (oRot D2.out.l HC.out pos).mono ?_; rintro e w4 ⟨⟨b, rfl⟩, F4, h4, t4⟩; have D3 := Lib.hid (D2.out.stepL h4 t4); clear h4 t4; have K1 : (fun w' => w'.cell? ⟨a, 1, none⟩ = some (.int .i64 (i : Int)) ∧ w'.cell? ⟨a, 2, none⟩ = some (.int .i64 pos) ∧ w'.cell? ⟨rp, 0, none⟩ = some (.slice (some ⟨gr, 0, none⟩) R.carts.length capr) ∧ w'.cell? ⟨gr, i, none⟩ = some (.pointer (some ⟨C'.p, 0, none⟩))) w4 := ⟨D3.out.a.1.cell 1, D3.out.a.1.cell 2, D3.out.r.cell0, D3.out.r.cellC (C := ⟨C'.p, M4, C'.most, l4⟩) rfl (set_at HC2.out)⟩)
            | (go_at_call 18; refine (oRot (D0.out.below below_of_drew_r).l HC.out pos).mono ?_; rintro e w3 ⟨⟨b, rfl⟩, F3, h3, t3⟩; have D1 := Lib.hid ((D0.out.below below_of_drew_r).stepL h3 t3); clear h3 t3; have K1 : (fun w' => w'.cell? ⟨a, 1, none⟩ = some (.int .i64 (i : Int)) ∧ w'.cell? ⟨a, 2, none⟩ = some (.int .i64 pos) ∧ w'.cell? ⟨rp, 0, none⟩ = some (.slice (some ⟨gr, 0, none⟩) R.carts.length capr) ∧ w'.cell? ⟨gr, i, none⟩ = some (.pointer (some ⟨C'.p, 0, none⟩))) w3 := ⟨D1.out.a.1.cell 1, D1.out.a.1.cell 2, D1.out.r.cell0, D1.out.r.cellC rfl HC2.out⟩)
            | (go_at_call 45; refine (qRot D1.out.r HC2.out pos).mono ?_; rintro e w4 ⟨⟨b2, rfl⟩, F4, M4, l4, h4, t4⟩; have D3 := Lib.hid (D1.out.stepC h4 t4); clear h4 t4; have K1 : (fun w' => w'.cell? ⟨a, 1, none⟩ = some (.int .i64 (i : Int)) ∧ w'.cell? ⟨a, 2, none⟩ = some (.int .i64 pos) ∧ w'.cell? ⟨rp, 0, none⟩ = some (.slice (some ⟨gr, 0, none⟩) R.carts.length capr) ∧ w'.cell? ⟨gr, i, none⟩ = some (.pointer (some ⟨C'.p, 0, none⟩))) w4 := ⟨D3.out.a.1.cell 1, D3.out.a.1.cell 2, D3.out.r.cell0, D3.out.r.cellC (C := ⟨C'.p, M4, C'.most, l4⟩) rfl (set_at HC2.out)⟩)
            | (go_at_call 45; refine (qRot (D0.out.below below_of_drew_r).r HC2.out pos).mono ?_; rintro e w3 ⟨⟨b2, rfl⟩, F3, M4, l4, h3, t3⟩; have D2 := Lib.hid ((D0.out.below below_of_drew_r).stepC h3 t3); clear h3 t3; have K1 : (fun w' => w'.cell? ⟨a, 1, none⟩ = some (.int .i64 (i : Int)) ∧ w'.cell? ⟨a, 2, none⟩ = some (.int .i64 pos) ∧ w'.cell? ⟨rp, 0, none⟩ = some (.slice (some ⟨gr, 0, none⟩) R.carts.length capr) ∧ w'.cell? ⟨gr, i, none⟩ = some (.pointer (some ⟨C'.p, 0, none⟩))) w3 := ⟨D2.out.a.1.cell 1, D2.out.a.1.cell 2, D2.out.r.cell0, D2.out.r.cellC (C := ⟨C'.p, M4, C'.most, l4⟩) rfl (set_at HC2.out)⟩)
            | (go_at_call 34; refine (oCart D2.out.l i).mono ?_; rintro e w5 ⟨rfl, rfl⟩; rw [HCV.out])
            | (go_at_call 34; refine (oCart (D0.out.below below_of_drew_r).l i).mono ?_; rintro e w5 ⟨rfl, rfl⟩; rw [HCV.out])))
        all_goals
          go_wp2_with fail
          go_ret
          exact ⟨⟨_, rfl⟩, ⟨L.carts.set i ⟨C.p, (rotM C.M C.lost pos).2, C.most, C.lost⟩, L.drives, L.now⟩, Both8.le (Duo8N.both ⟨_, _, _, _, _, D3.out, rfl, Nat.le_refl _⟩ (by simpa using HL.out)) (by show R.asked.length ≤ k + 1; omega), (GD.out.carts (by simp)).mono (by omega)⟩
    · have hcf : isC L n = false := by simpa using hc
      have HCV := Lib.hid (cartV_no hcf)
      have E := Lib.hid ((isR_isC HL.out n).trans hcf)
      have e0 : Both8 w0 wa lp rp L (k + 1) := Both8.le (Duo8N.both ⟨_, _, _, _, _, D0.out, rfl, Nat.le_refl _⟩ HL.out) (by omega)
      have E0 := Lib.hid e0
      clear k2 k3 hc hcf e0
      go_wp2_with (first
        | (go_at_call 59; refine (qIs D0.out.r n).mono ?_; rintro e w1 ⟨rfl, rfl⟩; rw [E.out])
        | (go_at_call 34; refine (oCart D0.out.l n).mono ?_; rintro e w5 ⟨rfl, rfl⟩; rw [HCV.out]))
      go_ret
      exact ⟨⟨_, rfl⟩, _, E0.out, GD.out.mono (by omega)⟩
  · rcases hz with rfl | rfl | rfl | rfl
    all_goals
      clear k3
      go_wp2_with fail
      refine (oRead D0.out.l n pos HPOS.out).mono ?_
      rintro e w3 ⟨v, rfl, ho, h3, t3⟩
      have D1 := Lib.hid (D0.out.stepL h3 ⟨t3, fun q hq => ⟨Nat.lt_of_lt_of_le hq.2 t3.size, .inl hq.1⟩⟩)
      have O1 := Lib.hid ho
      have n1 : ∀ g, v.ownBlock = some g → relabel own 1 wa.heap.size g = 1 := fun g hgo => by
        have := (ho.range g hgo).1
        unfold relabel
        rw [if_neg (by omega)]
      have N1 := Lib.hid n1
      have j1 : w3.cell? ⟨a, 1, none⟩ = some (.int .i64 n) := D1.out.a.1.cell 1
      have j2 : w3.cell? ⟨a, 2, none⟩ = some (.int .i64 pos) := D1.out.a.1.cell 2
      clear h3 t3 k1 k2 ho n1
      have GB := Lib.hid (good_read GD.out n pos)
      go_wp2_with fail
      refine (qRead D1.out.r n pos).mono ?_
      rintro e w4 ⟨⟨y1, y2, rfl⟩, h4⟩
      have D3N := Lib.hid (D1.out.stepR h4)
      obtain ⟨F4, c4, d4, a4, R4, _, t4, _⟩ := h4
      have ho4 := O1.out.chg t4.1 (fun g hgo h => by have := N1.out g hgo; omega)
      have hcv := ho4.string
      obtain ⟨A5, c5, rfl, -, -⟩ := ho4.bytesIn
      clear ho4 t4
      generalize (lreadM L n pos).1.2 = f at *
      generalize (lreadM L n pos).1.1 = lr at *
      go_wp2_with fail
      all_goals
        go_ret
        exact ⟨⟨_, rfl⟩, _, Both8.le (D3N.out.both (HL.out.trans read_len.symm)) (by omega), GB.out⟩
  · rcases hz with rfl | rfl | rfl | rfl
    all_goals
      clear k2
      go_wp2_with fail
      refine (oAppend D0.out.l n B m d lb HPOS.out (HB.out.below D0.out.sep.base)).mono ?_
      rintro e w3 ⟨rfl, F3, h3, t3⟩
      have D1 := Lib.hid (D0.out.stepL h3 t3)
      have j1 : w3.cell? ⟨a, 1, none⟩ = some (.int .i64 n) := D1.out.a.1.cell 1
      have j3 : w3.cell? ⟨a, 3, none⟩ = some (.slice B m d) := D1.out.a.1.cell 3
      clear h3 t3 k1 k3
      have GB := Lib.hid (good_append GD.out n lb)
      go_wp2_with fail
      refine (qAppend D1.out.r n B m d lb (HB.out.below D1.out.sep.base) hm2).mono ?_
      rintro e w4 ⟨⟨y1, y2, rfl⟩, h4⟩
      have D3N := Lib.hid (D1.out.stepR h4)
      clear h4
      generalize (lappendM L n lb).1.2 = f at *
      generalize (lappendM L n lb).1.1 = lr at *
      go_wp2_with fail
      all_goals
        go_ret
        exact ⟨⟨_, rfl⟩, _, Both8.le (D3N.out.both (HL.out.trans append_len.symm)) (by omega), GB.out⟩
  · have z0 : ((z : Int) == 0) = false := by simp; omega
    have z1 : ((z : Int) == 1) = false := by simp; omega
    have z2 : ((z : Int) == 2) = false := by simp; omega
    have z3 : ((z : Int) == 3) = false := by simp; omega
    have z4 : ((z : Int) == 4) = false := by simp; omega
    have z5 : ((z : Int) == 5) = false := by simp; omega
    have z6 : ((z : Int) == 6) = false := by simp; omega
    have z7 : ((z : Int) == 7) = false := by simp; omega
    have z8 : ((z : Int) == 8) = false := by simp; omega
    have z9 : ((z : Int) == 9) = false := by simp; omega
    have z10 : ((z : Int) == 10) = false := by simp; omega
    have z11 : ((z : Int) == 11) = false := by simp; omega
    clear k3
    go_wp2_with fail
    refine (oNear D0.out.l n pos).mono ?_
    rintro e w2 ⟨⟨q, rfl⟩, rfl⟩
    go_wp2_with fail
    refine (oGo D0.out.l n q hnow).mono ?_
    rintro e w3 ⟨rfl, F3, h3, t3⟩
    have D1 := Lib.hid (D0.out.stepL h3 t3)
    have j1 : w3.cell? ⟨a, 1, none⟩ = some (.int .i64 n) := D1.out.a.1.cell 1
    clear h3 t3 k1 k2
    have GB := Lib.hid (good_go GD.out n q)
    go_wp2_with fail
    refine (qGo D1.out.r n q hna2).mono ?_
    rintro e w4 ⟨⟨y1, y2, rfl⟩, h4⟩
    have D3N := Lib.hid (D1.out.stepR h4)
    clear h4
    generalize (goM L n q).2.1 = f at *
    generalize (goM L n q).1 = lr at *
    go_wp2_with fail
    all_goals
      go_ret
      exact ⟨⟨_, rfl⟩, _, Both8.le (D3N.out.both (HL.out.trans go_len.symm)) (by omega), GB.out⟩
end Go.Proofs.Ytiiilimmjoadeaa
