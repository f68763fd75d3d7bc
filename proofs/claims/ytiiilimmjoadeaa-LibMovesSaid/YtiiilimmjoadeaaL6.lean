/- What a library's methods Break, Mend and Read do. No condition beyond those that each theorem states. -/
import Derived.Test.YtiiilimmjoadeaaL5
namespace Go.Proofs.Ytiiilimmjoadeaa
open Go.RowKit

/-- Behind a call the library is so; only its own blocks have turned. -/
def LStep (own : Nat → Nat) (w w' : World) (lp : Nat) (L' : LV) : Prop :=
  ∃ own' cv' dv', LCore own' w' lp cv' dv' L' ∧ (∀ k, own' k ≠ 0 → own k ≠ 0 ∨ w.heap.size ≤ k) ∧ Chg (fun k => own k ≠ 0) w w'
theorem LStep.of {own : Nat → Nat} {w w' : World} {lp : Nat} {cv dv : Value} {L : LV} {S : Nat → Prop} (h : LCore own w' lp cv dv L) (hc : Chg S w w') (hS : ∀ k, S k → own k ≠ 0) : LStep own w w' lp L := ⟨own, cv, dv, h, fun _ h => .inl h, hc.mono hS⟩
theorem LStep.below {own : Nat → Nat} {w w' : World} {lp : Nat} {cv dv : Value} {L : LV} (h : LCore own w lp cv dv L) (hb : Below w.heap.size w w') : LStep own w w' lp L := ⟨own, cv, dv, h.below hb, fun _ h => .inl h, Chg.of_below _ hb⟩
theorem LStep.took {F : Nat → Prop} {own : Nat → Nat} {w w' : World} {lp : Nat} {L' : LV} (hF : ∀ k, own k ≠ 0 → F k) (h : LStep own w w' lp L') : ∃ F', LOwn F' w' lp L' ∧ Took F F' w w' := by
  obtain ⟨own', cv', dv', h1, h2, h3⟩ := h
  exact Took.of (LOwn.owning lp L') ⟨own', cv', dv', fun k hk => (h2 k hk).imp (hF k) id, h1⟩ (h3.mono hF)

def brokenD : DV := ⟨-1, 0, 0, true⟩
def breakM (L : LV) (n : Int) : Bool × LV := if 0 ≤ n then match L.drives[n.toNat]? with
  | none => (false, L)
  | some d => if d.broken then (false, L) else (true, ⟨L.carts, L.drives.set n.toNat brokenD, L.now⟩)
  else (false, L)
def mendM (L : LV) (n : Int) : Bool × LV := if 0 ≤ n then match L.drives[n.toNat]? with
  | none => (false, L)
  | some d => if d.broken then (true, ⟨L.carts, L.drives.set n.toNat ⟨d.cart, d.pos, d.last, false⟩, L.now⟩) else (false, L)
  else (false, L)

section
variable {own : Nat → Nat} {w w' : World} {lp : Nat} {cv dv : Value} {L : LV}
/-- What the walks read of the drives. -/
theorem LCore.live (h : LCore own w lp cv dv L) {k : Nat} (hk : k < L.drives.length) : ∃ g cap D, dv = .slice (some ⟨g, 0, none⟩) L.drives.length cap ∧ L.drives[k]? = some D ∧ g ≠ lp ∧ own g = 1 ∧ g < w.heap.size ∧ (∀ j, w.frozen? ⟨g, j, none⟩ = false) ∧
    w.cell? ⟨g, k * 4, none⟩ = some (.int .i64 D.cart) ∧ w.cell? ⟨g, k * 4 + 1, none⟩ = some (.int .i64 D.pos) ∧ w.cell? ⟨g, k * 4 + 2, none⟩ = some (.int .i64 D.last) ∧ w.cell? ⟨g, k * 4 + 3, none⟩ = some (.bool D.broken) := by
  rcases h.rd.form with ⟨_, h0⟩ | ⟨g, cap, rfl, _, _, hg1, hgs⟩
  · omega
  have hD : L.drives[k]? = some L.drives[k] := List.getElem?_eq_getElem hk
  refine ⟨g, cap, L.drives[k], rfl, hD, ?_, hg1, hgs, fun j => h.rd.row.free j, h.drive_cell rfl hD (q := 0) (by decide) rfl, h.drive_cell rfl hD (q := 1) (by decide) rfl, h.drive_cell rfl hD (q := 2) (by decide) rfl, h.drive_cell rfl hD (q := 3) (by decide) rfl⟩
  obtain ⟨cs, hcs⟩ := own_blk h.rd.1 (g := g) rfl
  exact blk_ne hcs h.blk (by decide)
theorem LCore.no_drives (h : LCore own w lp cv dv L) : (dv = .slice none 0 0 ∧ L.drives.length = 0) ∨ ∃ g cap, dv = .slice (some ⟨g, 0, none⟩) L.drives.length cap := by
  rcases h.rd.form with h | ⟨g, cap, h, _⟩
  · exact .inl h
  · exact .inr ⟨g, cap, h⟩
/-- One drive is turned as a whole, and nothing else. -/
theorem LCore.put {g cap k : Nat} {d : DV} (h : LCore own w lp cv (.slice (some ⟨g, 0, none⟩) L.drives.length cap) L) (hd : L.drives[k]? = some d) (hgl : g ≠ lp) (hg1 : own g = 1) (a b c : Int) (br : Bool) :
    LStep own w ((((w.setCell ⟨g, k * 4, none⟩ (.int .i64 a)).setCell ⟨g, k * 4 + 1, none⟩ (.int .i64 b)).setCell ⟨g, k * 4 + 2, none⟩ (.int .i64 c)).setCell ⟨g, k * 4 + 3, none⟩ (.bool br)) lp ⟨L.carts, L.drives.set k ⟨a, b, c, br⟩, L.now⟩ := by
  have hchg : ∀ S : Nat → Prop, S g → Chg S w ((((w.setCell ⟨g, k * 4, none⟩ (.int .i64 a)).setCell ⟨g, k * 4 + 1, none⟩ (.int .i64 b)).setCell ⟨g, k * 4 + 2, none⟩ (.int .i64 c)).setCell ⟨g, k * 4 + 3, none⟩ (.bool br)) := fun S h2 =>
    ((((Chg.refl S w).store (p := ⟨g, k * 4, none⟩) (.inl h2) _).store (p := ⟨g, k * 4 + 1, none⟩) (.inl h2) _).store (p := ⟨g, k * 4 + 2, none⟩) (.inl h2) _).store (p := ⟨g, k * 4 + 3, none⟩) (.inl h2) _
  refine LStep.of (LCore.turn (S := fun k => k = g) h (fun _ h => .inr h) ?_ ?_ (by simp) (hchg _ rfl)) (hchg (fun k => k = g) rfl) (fun k hk => by rw [hk, hg1]; decide)
  · exact (((h.blk.apart (p := ⟨g, k * 4, none⟩) (Ne.symm hgl) _).apart (p := ⟨g, k * 4 + 1, none⟩) (Ne.symm hgl) _).apart (p := ⟨g, k * 4 + 2, none⟩) (Ne.symm hgl) _).apart (p := ⟨g, k * 4 + 3, none⟩) (Ne.symm hgl) _
  · rw [List.length_set]
    exact h.rd.setDrive hd a b c br
/-- One number of a drive is turned, and nothing else. -/
theorem LCore.put1 {g cap k q : Nat} {d d' : DV} {u : Value} (h : LCore own w lp cv (.slice (some ⟨g, 0, none⟩) L.drives.length cap) L) (hd : L.drives[k]? = some d) (hgl : g ≠ lp) (hq : q < 4) (hd' : drVals d' = (drVals d).set q u) :
    LCore own (w.setCell ⟨g, k * 4 + q, none⟩ u) lp cv (.slice (some ⟨g, 0, none⟩) L.drives.length cap) ⟨L.carts, L.drives.set k d', L.now⟩ := by
  refine LCore.turn (S := fun k => k = g) h (fun _ h => .inr h) (h.blk.apart (p := ⟨g, k * 4 + q, none⟩) (Ne.symm hgl) _) ?_ (by simp) ((Chg.refl (fun k => k = g) w).store (p := ⟨g, k * 4 + q, none⟩) (.inl rfl) _)
  rw [List.length_set]
  exact h.rd.setPart hd hq hd'
end

set_option maxHeartbeats 1000000 in
theorem lBreak (own : Nat → Nat) (w : World) (lp : Nat) (cv dv : Value) (L : LV) (n : Int) (h : LCore own w lp cv dv L) :
    Calls Try.prog 32 #[.pointer (some ⟨lp, 0, none⟩), .int .i64 n] w fun e w' => e = .returned (.bool (breakM L n).1) ∧ LStep own w w' lp (breakM L n).2 := by
  have c0 : w.cell? ⟨lp, 1, none⟩ = some dv := h.blk.cell 1
  have H := Lib.hid h
  by_cases hneg : n < 0
  · have e1 : breakM L n = (false, L) := by unfold breakM; rw [if_neg (by omega)]
    rw [e1]
    clear e1 h
    have d1 : decide (n < 0) = true := by simpa using hneg
    go_enter Try.func32, Try.ntmps32
    go_wp2
    go_ret
    exact ⟨rfl, LStep.below H.out (Below.refl _ _)⟩
  · obtain ⟨k, rfl⟩ := Int.eq_ofNat_of_zero_le (show 0 ≤ n by omega)
    have d1 : decide ((k : Int) < 0) = false := by simp
    by_cases hk : k < L.drives.length
    · obtain ⟨g, cap, D, rfl, hD, hgl, hg1, hgs, fr, k0, k1, k2, k3⟩ := h.live hk
      have d2 : decide (L.drives.length ≤ k) = false := by simpa using hk
      have e1 : breakM L (k : Int) = if D.broken then (false, L) else (true, ⟨L.carts, L.drives.set k brokenD, L.now⟩) := by unfold breakM; rw [if_pos (by omega), Int.toNat_natCast, hD]
      rw [e1]
      have FIN := Lib.hid (h.put hD hgl hg1 (-1) 0 0 true)
      cases hbr : D.broken with
      | true =>
        rw [hbr] at k3
        clear e1 h hD hbr FIN
        go_enter Try.func32, Try.ntmps32
        go_wp2
        go_ret
        exact ⟨rfl, LStep.below H.out (Below.refl _ _)⟩
      | false =>
        rw [hbr] at k3
        clear e1 h hD hbr
        go_enter Try.func32, Try.ntmps32
        go_wp2
        go_ret
        exact ⟨rfl, FIN.out⟩
    · have e1 : breakM L (k : Int) = (false, L) := by unfold breakM; rw [if_pos (by omega), Int.toNat_natCast, List.getElem?_eq_none (by omega)]
      rw [e1]
      rcases h.no_drives with ⟨rfl, h0⟩ | ⟨g, cap, rfl⟩
      · clear e1 h h0
        go_enter Try.func32, Try.ntmps32
        go_wp2
        go_ret
        exact ⟨rfl, LStep.below H.out (Below.refl _ _)⟩
      · have d2 : decide (L.drives.length ≤ k) = true := by simpa using hk
        clear e1 h
        go_enter Try.func32, Try.ntmps32
        go_wp2
        go_ret
        exact ⟨rfl, LStep.below H.out (Below.refl _ _)⟩
set_option maxHeartbeats 1000000 in
theorem lMend (own : Nat → Nat) (w : World) (lp : Nat) (cv dv : Value) (L : LV) (n : Int) (h : LCore own w lp cv dv L) :
    Calls Try.prog 33 #[.pointer (some ⟨lp, 0, none⟩), .int .i64 n] w fun e w' => e = .returned (.bool (mendM L n).1) ∧ LStep own w w' lp (mendM L n).2 := by
  have c0 : w.cell? ⟨lp, 1, none⟩ = some dv := h.blk.cell 1
  have H := Lib.hid h
  by_cases hneg : n < 0
  · have e1 : mendM L n = (false, L) := by unfold mendM; rw [if_neg (by omega)]
    rw [e1]
    clear e1 h
    have d1 : decide (n < 0) = true := by simpa using hneg
    go_enter Try.func33, Try.ntmps33
    go_wp2
    go_ret
    exact ⟨rfl, LStep.below H.out (Below.refl _ _)⟩
  · obtain ⟨k, rfl⟩ := Int.eq_ofNat_of_zero_le (show 0 ≤ n by omega)
    have d1 : decide ((k : Int) < 0) = false := by simp
    by_cases hk : k < L.drives.length
    · obtain ⟨g, cap, D, rfl, hD, hgl, hg1, hgs, fr, k0, k1, k2, k3⟩ := h.live hk
      have d2 : decide (L.drives.length ≤ k) = false := by simpa using hk
      have e1 : mendM L (k : Int) = if D.broken then (true, ⟨L.carts, L.drives.set k ⟨D.cart, D.pos, D.last, false⟩, L.now⟩) else (false, L) := by unfold mendM; rw [if_pos (by omega), Int.toNat_natCast, hD]
      rw [e1]
      have fin : LStep own w (w.setCell ⟨g, k * 4 + 3, none⟩ (.bool false)) lp ⟨L.carts, L.drives.set k ⟨D.cart, D.pos, D.last, false⟩, L.now⟩ :=
        LStep.of (S := fun k => k = g) (h.put1 hD hgl (q := 3) (by decide) rfl) ((Chg.refl (fun k => k = g) w).store (p := ⟨g, k * 4 + 3, none⟩) (.inl rfl) _) (fun k hk => by rw [hk, hg1]; decide)
      have FIN := Lib.hid fin
      cases hbr : D.broken with
      | true =>
        rw [hbr] at k3
        clear e1 h hD hbr fin
        go_enter Try.func33, Try.ntmps33
        go_wp2
        go_ret
        exact ⟨rfl, FIN.out⟩
      | false =>
        rw [hbr] at k3
        clear e1 h hD hbr fin FIN
        go_enter Try.func33, Try.ntmps33
        go_wp2
        go_ret
        exact ⟨rfl, LStep.below H.out (Below.refl _ _)⟩
    · have e1 : mendM L (k : Int) = (false, L) := by unfold mendM; rw [if_pos (by omega), Int.toNat_natCast, List.getElem?_eq_none (by omega)]
      rw [e1]
      rcases h.no_drives with ⟨rfl, h0⟩ | ⟨g, cap, rfl⟩
      · clear e1 h h0
        go_enter Try.func33, Try.ntmps33
        go_wp2
        go_ret
        exact ⟨rfl, LStep.below H.out (Below.refl _ _)⟩
      · have d2 : decide (L.drives.length ≤ k) = true := by simpa using hk
        clear e1 h
        go_enter Try.func33, Try.ntmps33
        go_wp2
        go_ret
        exact ⟨rfl, LStep.below H.out (Below.refl _ _)⟩
end Go.Proofs.Ytiiilimmjoadeaa
