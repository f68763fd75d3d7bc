/- The document's library: Break, Mend, Add and asked. No condition beyond those that each theorem states. -/
import Derived.Test.YtiiilimmjoadeaaQ1
namespace Go.Proofs.Ytiiilimmjoadeaa
open Go.RowKit

theorem flat_put {α : Type} {vals : α → List Value} {k : Nat} (hv : ∀ x, (vals x).length = k) {x x' : α} {q : Nat} {u : Value} (hq : q < k) (hx : vals x' = (vals x).set q u) : ∀ {xs : List α} {i : Nat}, xs[i]? = some x → (xs.set i x').flatMap vals = (xs.flatMap vals).set (i * k + q) u := by
  intro xs
  induction xs with
  | nil => intro i h; simp at h
  | cons y ys ih =>
    intro i h
    cases i with
    | zero =>
      have e : y = x := by simpa using h
      subst e
      rw [List.set_cons_zero, List.flatMap_cons, List.flatMap_cons, hx, List.set_append_left _ _ (by rw [hv]; omega)]
      simp
    | succ i =>
      have h' : ys[i]? = some x := by simpa using h
      rw [List.set_cons_succ, List.flatMap_cons, List.flatMap_cons, ih h', List.set_append_right _ _ (by rw [hv, Nat.add_mul]; omega)]
      congr 2
      rw [hv, Nat.add_mul]
      omega

def BoolEnd (e : Ending) : Prop := ∃ b, e = .returned (.bool b)
/-- Behind a call the document's library is there still. -/
def RStep (own : Nat → Nat) (w w' : World) (rp nc nd na : Nat) : Prop :=
  ∃ own' cv' dv' av' R', RCore own' w' rp cv' dv' av' R' ∧ R'.carts.length = nc ∧ R'.drives.length = nd ∧ R'.asked.length ≤ na ∧ (∀ k, own' k ≠ 0 → own k ≠ 0 ∨ w.heap.size ≤ k) ∧ Chg (fun k => own k ≠ 0) w w'

theorem RStep.le {own : Nat → Nat} {w w' : World} {rp nc nd na na' : Nat} (h : RStep own w w' rp nc nd na) (hl : na ≤ na') : RStep own w w' rp nc nd na' := by
  obtain ⟨o, c, d, a, R, h1, h2, h3, h4, h5⟩ := h
  exact ⟨o, c, d, a, R, h1, h2, h3, Nat.le_trans h4 hl, h5⟩
section
variable {own : Nat → Nat} {w w' : World} {rp : Nat} {cv dv av : Value} {R : RLV}
theorem RStep.below (h : RCore own w rp cv dv av R) (hb : Below w.heap.size w w') : RStep own w w' rp R.carts.length R.drives.length R.asked.length :=
  ⟨own, _, _, _, R, h.below hb, rfl, rfl, Nat.le_refl _, fun _ h => .inl h, Chg.of_below _ hb⟩
theorem RCore.live (h : RCore own w rp cv dv av R) {k : Nat} (hk : k < R.drives.length) : ∃ g cap D, dv = .slice (some ⟨g, 0, none⟩) R.drives.length cap ∧ R.drives[k]? = some D ∧ g ≠ rp ∧ own g = 1 ∧ g < w.heap.size ∧ (∀ j, w.frozen? ⟨g, j, none⟩ = false) ∧
    w.cell? ⟨g, k * 3, none⟩ = some (.int .i64 D.cart) ∧ w.cell? ⟨g, k * 3 + 1, none⟩ = some (.int .i64 D.pos) ∧ w.cell? ⟨g, k * 3 + 2, none⟩ = some (.bool D.works) := by
  rcases h.rd.form with ⟨_, h0⟩ | ⟨g, cap, rfl, _, _, hg1, hgs⟩
  · omega
  have hD : R.drives[k]? = some R.drives[k] := List.getElem?_eq_getElem hk
  refine ⟨g, cap, R.drives[k], rfl, hD, ?_, hg1, hgs, fun j => h.rd.row.free j, h.drive_cell rfl hD (q := 0) (by decide) rfl, h.drive_cell rfl hD (q := 1) (by decide) rfl, h.drive_cell rfl hD (q := 2) (by decide) rfl⟩
  obtain ⟨cs, hcs⟩ := own_blk h.rd.1 (g := g) rfl
  exact blk_ne hcs h.blk (by decide)
/-- The drives' row has turned, and nothing else. -/
theorem RCore.turn {g cap : Nat} {ds : List RD} (h : RCore own w rp cv (.slice (some ⟨g, 0, none⟩) R.drives.length cap) av R) (hr : OwnRow (fun k => own k = 1) w' 105 3 (.slice (some ⟨g, 0, none⟩) R.drives.length cap) R.drives.length (rdvs ds)) (hl : ds.length = R.drives.length) (hc : Chg (fun k => k = g) w w') :
    RCore own w' rp cv (.slice (some ⟨g, 0, none⟩) R.drives.length cap) av ⟨R.carts, ds, R.asked⟩ := by
  obtain ⟨cs, hcs⟩ := own_blk h.rd.1 (g := g) rfl
  have hS : ∀ k, k = g → ∃ cs, Blk w k 105 cs := fun k hk => ⟨cs, by rw [hk]; exact hcs⟩
  have hg1 : own g = 1 := h.rd.2 g rfl
  exact ⟨h.blk.of_eq (hc.block rp h.blk.size (fun e => blk_ne hcs h.blk (by decide) e.symm)), h.lab, h.rc.off hc hS (by decide), by rw [hl]; exact hr, h.ra.off hc hS (by decide), h.cs_keep hc (fun k hk => by rw [hk]; exact hg1), h.few, by rw [hl]; exact h.four, by rw [hl]; exact h.ask⟩
theorem RCore.put1 {g cap k q : Nat} {d d' : RD} {u : Value} (h : RCore own w rp cv (.slice (some ⟨g, 0, none⟩) R.drives.length cap) av R) (hd : R.drives[k]? = some d) (hq : q < 3) (hd' : rdVals d' = (rdVals d).set q u) :
    RCore own (w.setCell ⟨g, k * 3 + q, none⟩ u) rp cv (.slice (some ⟨g, 0, none⟩) R.drives.length cap) av ⟨R.carts, R.drives.set k d', R.asked⟩ := by
  refine h.turn ?_ (by simp) ((Chg.refl (fun k => k = g) w).store (p := ⟨g, k * 3 + q, none⟩) (.inl rfl) _)
  rw [rdvs, flat_put rdVals_length hq hd' hd]
  exact h.rd.storeAt _ _
theorem RCore.put {g cap k : Nat} {d : RD} (h : RCore own w rp cv (.slice (some ⟨g, 0, none⟩) R.drives.length cap) av R) (hd : R.drives[k]? = some d) (a b : Int) (c : Bool) :
    RCore own (((w.setCell ⟨g, k * 3, none⟩ (.int .i64 a)).setCell ⟨g, k * 3 + 1, none⟩ (.int .i64 b)).setCell ⟨g, k * 3 + 2, none⟩ (.bool c)) rp cv (.slice (some ⟨g, 0, none⟩) R.drives.length cap) av ⟨R.carts, R.drives.set k ⟨a, b, c⟩, R.asked⟩ := by
  have hk : k < R.drives.length := (List.getElem?_eq_some_iff.1 hd).1
  have hg1 : own g = 1 := h.rd.2 g rfl
  have h1 := h.rd.storeAt (k * 3) (.int .i64 a)
  have x1 := flat_put rdVals_length (x := d) (x' := ⟨a, d.pos, d.works⟩) (q := 0) (u := .int .i64 a) (by decide) rfl hd
  rw [show k * 3 = k * 3 + 0 from rfl, rdvs, ← x1] at h1
  have g1 : (R.drives.set k ⟨a, d.pos, d.works⟩)[k]? = some ⟨a, d.pos, d.works⟩ := by simp [hk]
  have x2 := flat_put rdVals_length (x := ⟨a, d.pos, d.works⟩) (x' := ⟨a, b, d.works⟩) (q := 1) (u := .int .i64 b) (by decide) rfl g1
  have h2 := h1.storeAt (k * 3 + 1) (.int .i64 b)
  rw [← x2, List.set_set] at h2
  have g2 : (R.drives.set k ⟨a, b, d.works⟩)[k]? = some ⟨a, b, d.works⟩ := by simp [hk]
  have x3 := flat_put rdVals_length (x := ⟨a, b, d.works⟩) (x' := ⟨a, b, c⟩) (q := 2) (u := .bool c) (by decide) rfl g2
  have h3 := h2.storeAt (k * 3 + 2) (.bool c)
  rw [← x3, List.set_set] at h3
  exact h.turn h3 (by simp) ((((Chg.refl (fun k => k = g) w).store (p := ⟨g, k * 3, none⟩) (.inl rfl) _).store (p := ⟨g, k * 3 + 1, none⟩) (.inl rfl) _).store (p := ⟨g, k * 3 + 2, none⟩) (.inl rfl) _)
theorem RStep.put {g cap k : Nat} {d : RD} (h : RCore own w rp cv (.slice (some ⟨g, 0, none⟩) R.drives.length cap) av R) (hd : R.drives[k]? = some d) (a b : Int) (c : Bool) :
    RStep own w (((w.setCell ⟨g, k * 3, none⟩ (.int .i64 a)).setCell ⟨g, k * 3 + 1, none⟩ (.int .i64 b)).setCell ⟨g, k * 3 + 2, none⟩ (.bool c)) rp R.carts.length R.drives.length R.asked.length :=
  have hg0 : own g ≠ 0 := by have := h.rd.2 g rfl; omega
  ⟨own, _, _, _, _, h.put hd a b c, rfl, by simp, Nat.le_refl _, fun _ h => .inl h, (((Chg.refl (fun k => own k ≠ 0) w).store (p := ⟨g, k * 3, none⟩) (.inl hg0) _).store (p := ⟨g, k * 3 + 1, none⟩) (.inl hg0) _).store (p := ⟨g, k * 3 + 2, none⟩) (.inl hg0) _⟩
theorem RStep.put1 {g cap k q : Nat} {d d' : RD} {u : Value} (h : RCore own w rp cv (.slice (some ⟨g, 0, none⟩) R.drives.length cap) av R) (hd : R.drives[k]? = some d) (hq : q < 3) (hd' : rdVals d' = (rdVals d).set q u) :
    RStep own w (w.setCell ⟨g, k * 3 + q, none⟩ u) rp R.carts.length R.drives.length R.asked.length :=
  have hg0 : own g ≠ 0 := by have := h.rd.2 g rfl; omega
  ⟨own, _, _, _, _, h.put1 hd hq hd', rfl, by simp, Nat.le_refl _, fun _ h => .inl h, (Chg.refl (fun k => own k ≠ 0) w).store (p := ⟨g, k * 3 + q, none⟩) (.inl hg0) _⟩
end

set_option maxHeartbeats 1000000 in
theorem rBreak (own : Nat → Nat) (w : World) (rp : Nat) (cv dv av : Value) (R : RLV) (n : Int) (h : RCore own w rp cv dv av R) :
    Calls Try.prog 56 #[.pointer (some ⟨rp, 0, none⟩), .int .i64 n] w fun e w' => BoolEnd e ∧ RStep own w w' rp R.carts.length R.drives.length R.asked.length := by
  have c0 : w.cell? ⟨rp, 1, none⟩ = some dv := h.blk.cell 1
  have H := Lib.hid h
  by_cases hneg : n < 0
  · clear h
    have d1 : decide (n < 0) = true := by simpa using hneg
    go_enter Try.func56, Try.ntmps56
    go_wp2
    go_ret
    exact ⟨⟨_, rfl⟩, RStep.below H.out (Below.refl _ _)⟩
  · obtain ⟨k, rfl⟩ := Int.eq_ofNat_of_zero_le (show 0 ≤ n by omega)
    have d1 : decide ((k : Int) < 0) = false := by simp
    by_cases hk : k < R.drives.length
    · obtain ⟨g, cap, D, rfl, hD, hgl, hg1, hgs, fr, k0, k1, k2⟩ := h.live hk
      have d2 : decide (R.drives.length ≤ k) = false := by simpa using hk
      have FIN := Lib.hid (RStep.put h hD (-1) 0 false)
      cases hbr : D.works with
      | false =>
        rw [hbr] at k2
        clear h hD hbr FIN
        go_enter Try.func56, Try.ntmps56
        go_wp2
        go_ret
        exact ⟨⟨_, rfl⟩, RStep.below H.out (Below.refl _ _)⟩
      | true =>
        rw [hbr] at k2
        clear h hD hbr
        go_enter Try.func56, Try.ntmps56
        go_wp2
        go_ret
        exact ⟨⟨_, rfl⟩, FIN.out⟩
    · rcases h.rd.form with ⟨rfl, h0⟩ | ⟨g, cap, rfl, _⟩
      · clear h h0
        go_enter Try.func56, Try.ntmps56
        go_wp2
        go_ret
        exact ⟨⟨_, rfl⟩, RStep.below H.out (Below.refl _ _)⟩
      · have d2 : decide (R.drives.length ≤ k) = true := by simpa using hk
        clear h
        go_enter Try.func56, Try.ntmps56
        go_wp2
        go_ret
        exact ⟨⟨_, rfl⟩, RStep.below H.out (Below.refl _ _)⟩
set_option maxHeartbeats 1000000 in
theorem rMend (own : Nat → Nat) (w : World) (rp : Nat) (cv dv av : Value) (R : RLV) (n : Int) (h : RCore own w rp cv dv av R) :
    Calls Try.prog 57 #[.pointer (some ⟨rp, 0, none⟩), .int .i64 n] w fun e w' => BoolEnd e ∧ RStep own w w' rp R.carts.length R.drives.length R.asked.length := by
  have c0 : w.cell? ⟨rp, 1, none⟩ = some dv := h.blk.cell 1
  have H := Lib.hid h
  by_cases hneg : n < 0
  · clear h
    have d1 : decide (n < 0) = true := by simpa using hneg
    go_enter Try.func57, Try.ntmps57
    go_wp2
    go_ret
    exact ⟨⟨_, rfl⟩, RStep.below H.out (Below.refl _ _)⟩
  · obtain ⟨k, rfl⟩ := Int.eq_ofNat_of_zero_le (show 0 ≤ n by omega)
    have d1 : decide ((k : Int) < 0) = false := by simp
    by_cases hk : k < R.drives.length
    · obtain ⟨g, cap, D, rfl, hD, hgl, hg1, hgs, fr, k0, k1, k2⟩ := h.live hk
      have d2 : decide (R.drives.length ≤ k) = false := by simpa using hk
      have FIN := Lib.hid (RStep.put h hD (-1) 0 true)
      cases hbr : D.works with
      | true =>
        rw [hbr] at k2
        clear h hD hbr FIN
        go_enter Try.func57, Try.ntmps57
        go_wp2
        go_ret
        exact ⟨⟨_, rfl⟩, RStep.below H.out (Below.refl _ _)⟩
      | false =>
        rw [hbr] at k2
        clear h hD hbr
        go_enter Try.func57, Try.ntmps57
        go_wp2
        go_ret
        exact ⟨⟨_, rfl⟩, FIN.out⟩
    · rcases h.rd.form with ⟨rfl, h0⟩ | ⟨g, cap, rfl, _⟩
      · clear h h0
        go_enter Try.func57, Try.ntmps57
        go_wp2
        go_ret
        exact ⟨⟨_, rfl⟩, RStep.below H.out (Below.refl _ _)⟩
      · have d2 : decide (R.drives.length ≤ k) = true := by simpa using hk
        clear h
        go_enter Try.func57, Try.ntmps57
        go_wp2
        go_ret
        exact ⟨⟨_, rfl⟩, RStep.below H.out (Below.refl _ _)⟩
end Go.Proofs.Ytiiilimmjoadeaa
