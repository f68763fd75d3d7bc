/- What Lose, Lost, Len and Room do. No condition beyond those that each theorem states. -/
import Derived.Test.YtiiilimmjoadeaaCa6
namespace Go.Proofs.Ytiiilimmjoadeaa
open Go.RowKit

set_option maxHeartbeats 400000 in
theorem lost_nil (w : World) : Calls Try.prog 25 #[.pointer none] w fun e w' => e = .returned (.bool false) ∧ w = w' := by
  go_enter Try.func25, Try.ntmps25
  go_wp2
  go_ret
  exact ⟨rfl, rfl⟩
set_option maxHeartbeats 400000 in
theorem lost_any (p : Nat) (lv : Value) (R : List RecV) (most : Int) (lost : Bool) (w : World) (h : CartAt w p lv R most lost) :
    Calls Try.prog 25 #[.pointer (some ⟨p, 0, none⟩)] w fun e w' => e = .returned (.bool lost) ∧ w = w' := by
  have c2 : w.cell? ⟨p, 2, none⟩ = some (.bool lost) := h.blk.cell 2
  clear h
  go_enter Try.func25, Try.ntmps25
  go_wp2
  go_ret
  exact ⟨rfl, rfl⟩
set_option maxHeartbeats 400000 in
theorem lose_no (pv : Value) (w : World) (h : pv = .pointer none ∨ ∃ p lv R most, pv = .pointer (some ⟨p, 0, none⟩) ∧ CartAt w p lv R most true) :
    Calls Try.prog 26 #[pv] w fun e w' => e = .returned (.bool false) ∧ w = w' := by
  rcases h with rfl | ⟨p, lv, R, most, rfl, h⟩
  · go_enter Try.func26, Try.ntmps26
    go_wp2
    go_ret
    exact ⟨rfl, rfl⟩
  · have c2 : w.cell? ⟨p, 2, none⟩ = some (.bool true) := h.blk.cell 2
    clear h
    go_enter Try.func26, Try.ntmps26
    go_wp2
    go_ret
    exact ⟨rfl, rfl⟩
set_option maxHeartbeats 400000 in
theorem lose_yes (p : Nat) (lv : Value) (R : List RecV) (most : Int) (w : World) (h : CartAt w p lv R most false) :
    Calls Try.prog 26 #[.pointer (some ⟨p, 0, none⟩)] w fun e w' => e = .returned (.bool true) ∧ CartAt w' p lv R most true ∧ Chg (fun k => k = p) w w' := by
  have c2 : w.cell? ⟨p, 2, none⟩ = some (.bool false) := h.blk.cell 2
  have f2 : w.frozen? ⟨p, 2, none⟩ = false := h.blk.free 2
  have hp : ∀ g, lv.ownBlock = some g → g ≠ p := fun g hg => by
    obtain ⟨cs, hcs⟩ := own_blk h.own hg
    exact blk_ne hcs h.blk (by decide)
  have hfin : CartAt (w.setCell ⟨p, 2, none⟩ (.bool true)) p lv R most true :=
    ⟨h.blk.store 2 _, own_of_eq h.own (fun g hg => Below.heap_setCell _ _ _ _ (hp g hg)), fun r hr => (h.recs r hr).of_eq (Below.heap_setCell _ _ _ _ ((h.recs r hr).ne_blk h.blk (by decide))), h.lim, h.few⟩
  have HF := Lib.hid hfin
  clear h hp hfin
  go_enter Try.func26, Try.ntmps26
  go_wp2
  go_ret
  exact ⟨rfl, HF.out, (Chg.refl (fun k => k = p) _).store (p := ⟨p, _, none⟩) (.inl rfl) _⟩
set_option maxHeartbeats 400000 in
theorem len_nil (w : World) : Calls Try.prog 19 #[.pointer none] w fun e w' => e = .returned (.int .i64 0) ∧ w = w' := by
  go_enter Try.func19, Try.ntmps19
  go_wp2
  go_ret
  exact ⟨rfl, rfl⟩
set_option maxHeartbeats 400000 in
theorem len_any (p : Nat) (lv : Value) (R : List RecV) (most : Int) (lost : Bool) (w : World) (h : CartAt w p lv R most lost) :
    Calls Try.prog 19 #[.pointer (some ⟨p, 0, none⟩)] w fun e w' => e = .returned (.int .i64 R.length) ∧ w = w' := by
  have c0 : w.cell? ⟨p, 0, none⟩ = some lv := h.blk.cell 0
  rcases h.form with ⟨rfl, rfl⟩ | ⟨g, cap, rfl, _, _⟩
  all_goals
    clear h
    go_enter Try.func19, Try.ntmps19
    go_wp2
    go_ret
    exact ⟨rfl, rfl⟩
set_option maxHeartbeats 400000 in
theorem room_off (pv : Value) (w : World) (h : pv = .pointer none ∨ ∃ p lv R most, pv = .pointer (some ⟨p, 0, none⟩) ∧ CartAt w p lv R most true) :
    Calls Try.prog 20 #[pv] w fun e w' => e = .returned (.int .i64 0) ∧ w = w' := by
  rcases h with rfl | ⟨p, lv, R, most, rfl, h⟩
  · go_enter Try.func20, Try.ntmps20
    go_wp2
    go_ret
    exact ⟨rfl, rfl⟩
  · have c2 : w.cell? ⟨p, 2, none⟩ = some (.bool true) := h.blk.cell 2
    clear h
    go_enter Try.func20, Try.ntmps20
    go_wp2
    go_ret
    exact ⟨rfl, rfl⟩
theorem int_ret {a b : Int} (h : a = b) : Ending.returned (.int .i64 a) = .returned (.int .i64 b) := by rw [h]
set_option maxHeartbeats 400000 in
theorem room_any (p : Nat) (lv : Value) (R : List RecV) (most : Int) (w : World) (h : CartAt w p lv R most false) :
    Calls Try.prog 20 #[.pointer (some ⟨p, 0, none⟩)] w fun e w' => e = .returned (.int .i64 (most - R.length)) ∧ ∃ n, w' = w.drewN n := by
  have c0 : w.cell? ⟨p, 0, none⟩ = some lv := h.blk.cell 0
  have c1 : w.cell? ⟨p, 1, none⟩ = some (.int .i64 most) := h.blk.cell 1
  have c2 : w.cell? ⟨p, 2, none⟩ = some (.bool false) := h.blk.cell 2
  have hl := h.lim
  have hf := h.few
  rcases h.form with ⟨rfl, rfl⟩ | ⟨g, cap, rfl, _, _⟩
  all_goals
    clear h
    try simp only [List.length_nil] at *
    go_enter Try.func20, Try.ntmps20
    go_wp2
    go_quiet (fail)
    go_wp2
    go_ret
    exact ⟨int_ret (by first | rfl | (simp only [wrap64, IntKind.wrap_i64]; omega) | omega), _, rfl⟩
end Go.Proofs.Ytiiilimmjoadeaa
