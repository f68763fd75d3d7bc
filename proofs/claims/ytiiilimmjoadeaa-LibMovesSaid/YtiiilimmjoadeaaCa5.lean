/- What Rot, Tear, Lose, Lost, Len and Room do. No condition beyond those that each theorem states. -/
import Derived.Test.YtiiilimmjoadeaaCa4
namespace Go.Proofs.Ytiiilimmjoadeaa
open Go.RowKit

theorem flat_set {α : Type} {vals : α → List Value} {k : Nat} (hk : ∀ x, (vals x).length = k) {xs : List α} {i q : Nat} {x y : α} (u : Value) (hy : xs[i]? = some y) (hu : vals x = (vals y).set q u) (hq : q < k) :
    (xs.set i x).flatMap vals = (xs.flatMap vals).set (i * k + q) u := by
  induction xs generalizing i with
  | nil => simp at hy
  | cons z zs ih =>
    cases i with
    | zero =>
      simp only [List.getElem?_cons_zero, Option.some.injEq] at hy
      subst hy
      simp only [List.set_cons_zero, List.flatMap_cons, Nat.zero_mul, Nat.zero_add]
      rw [List.set_append_left _ _ (by rw [hk]; exact hq), hu]
    | succ i =>
      simp only [List.set_cons_succ, List.flatMap_cons]
      rw [List.set_append_right _ _ (by rw [hk, Nat.add_mul]; omega), hk, show (i + 1) * k + q - k = i * k + q by rw [Nat.add_mul]; omega]
      rw [ih (by simpa using hy)]

theorem own_store {w : World} {base e size n cap g : Nat} {xs : List Value} (h : w.ownsRow base e size (.slice (some ⟨g, 0, none⟩) n cap) n xs) (j : Nat) (u : Value) :
    (w.setCell ⟨g, j, none⟩ u).ownsRow base e size (.slice (some ⟨g, 0, none⟩) n cap) n (xs.set j u) := by
  refine ⟨by simpa using h.1, ?_⟩
  rcases h.2 with ⟨h, _⟩ | ⟨g', cap', cur, hv, h1, h2, h3, h4, h5, h6⟩
  · cases h
  · have e1 : g = g' := by
      injection hv with hv
      injection hv with hv
      injection hv
    subst e1
    refine .inr ⟨g, cap', cur.setIfInBounds j u, hv, h1, ?_, h3, h4, by simpa using h5, ?_⟩
    · simp [World.setCell, Array.getElem?_modify, h2]
    · rw [← h6, Array.toList_setIfInBounds, List.take_set]

/-- A record in the middle turned. -/
theorem CartAt.turn {w : World} {p g cap : Nat} {R : List RecV} {most : Int} {lost : Bool} (h : CartAt w p (.slice (some ⟨g, 0, none⟩) R.length cap) R most lost) {i q : Nat} {r r' : RecV} {u : Value}
    (hr : R[i]? = some r) (hq : q < 2) (hu : recVals r' = (recVals r).set q u) (hok : RecOk w r → RecOk w r') : CartAt (w.setCell ⟨g, i * 2 + q, none⟩ u) p (.slice (some ⟨g, 0, none⟩) R.length cap) (R.set i r') most lost := by
  obtain ⟨cs, hcs⟩ := own_blk h.own (g := g) rfl
  have hp : p ≠ g := blk_ne h.blk hcs (by decide)
  have keepr : ∀ x, RecOk w x → RecOk (w.setCell ⟨g, i * 2 + q, none⟩ u) x := fun x hx => hx.of_eq (Below.heap_setCell _ _ _ _ (hx.ne_blk hcs (by decide)))
  refine ⟨h.blk.apart hp _, ?_, fun x hx => ?_, h.lim, by simpa using h.few⟩
  · rw [List.length_set, show recsVals (R.set i r') = (recsVals R).set (i * 2 + q) u from flat_set recVals_length u hr hu hq]
    exact own_store h.own _ u
  · rcases List.mem_or_eq_of_mem_set hx with hx | rfl
    · exact keepr x (h.recs x hx)
    · exact keepr x (hok (h.recs r (List.mem_of_getElem? hr)))

set_option maxHeartbeats 400000 in
theorem rot_no (pv : Value) (n : Int) (w : World) (h : pv = .pointer none ∨ ∃ p lv R most, pv = .pointer (some ⟨p, 0, none⟩) ∧ CartAt w p lv R most true) :
    Calls Try.prog 18 #[pv, .int .i64 n] w fun e w' => e = .returned (.bool false) ∧ Below w.heap.size w w' := by
  rcases h with rfl | ⟨p, lv, R, most, rfl, h⟩
  · go_enter Try.func18, Try.ntmps18
    go_wp2
    go_ret
    exact ⟨rfl, Below.refl _ _⟩
  · have c2 : w.cell? ⟨p, 2, none⟩ = some (.bool true) := h.blk.cell 2
    clear h
    go_enter Try.func18, Try.ntmps18
    go_wp2
    go_ret
    exact ⟨rfl, Below.refl _ _⟩
set_option maxHeartbeats 400000 in
theorem rot_none (p : Nat) (lv : Value) (R : List RecV) (most : Int) (n : Int) (w : World) (h : CartAt w p lv R most false) (hn : n < 0 ∨ R.length ≤ n) :
    Calls Try.prog 18 #[.pointer (some ⟨p, 0, none⟩), .int .i64 n] w fun e w' => e = .returned (.bool false) ∧ Below w.heap.size w w' := by
  have c2 : w.cell? ⟨p, 2, none⟩ = some (.bool false) := h.blk.cell 2
  have H := Lib.hid h
  have HN := Lib.hid hn
  clear h hn
  go_enter Try.func18, Try.ntmps18
  go_wp2_with (go_at_call 43; refine (at_no p lv R most false n _ H.out HN.out).mono ?_; rintro e w1 ⟨rfl, rfl⟩)
  go_ret
  exact ⟨rfl, Below.refl _ _⟩
set_option maxHeartbeats 400000 in
theorem rot_again (p g cap : Nat) (R : List RecV) (most : Int) (i : Nat) (r : RecV) (w : World) (h : CartAt w p (.slice (some ⟨g, 0, none⟩) R.length cap) R most false) (hr : R[i]? = some r) (hrot : r.rot = true) :
    Calls Try.prog 18 #[.pointer (some ⟨p, 0, none⟩), .int .i64 i] w fun e w' => e = .returned (.bool false) ∧ Below w.heap.size w w' := by
  have c2 : w.cell? ⟨p, 2, none⟩ = some (.bool false) := h.blk.cell 2
  have c3 : w.cell? ⟨g, i * 2 + 1, none⟩ = some (.bool true) := by rw [(h.rec_get hr).2, hrot]
  have hi : i < R.length := (List.getElem?_eq_some_iff.1 hr).1
  have H := Lib.hid h
  clear h hr hrot
  go_enter Try.func18, Try.ntmps18
  go_wp2_with (go_at_call 43; refine (at_yes p g cap R most false i _ H.out hi).mono ?_; rintro e w1 ⟨rfl, rfl⟩)
  go_ret
  exact ⟨rfl, Below.refl _ _⟩
set_option maxHeartbeats 400000 in
theorem rot_yes (p g cap : Nat) (R : List RecV) (most : Int) (i : Nat) (r : RecV) (w : World) (h : CartAt w p (.slice (some ⟨g, 0, none⟩) R.length cap) R most false) (hr : R[i]? = some r) (hrot : r.rot = false) :
    Calls Try.prog 18 #[.pointer (some ⟨p, 0, none⟩), .int .i64 i] w fun e w' => e = .returned (.bool true) ∧ CartAt w' p (.slice (some ⟨g, 0, none⟩) R.length cap) (R.set i { r with rot := true }) most false ∧ Chg (fun k => k = g) w w' := by
  have c2 : w.cell? ⟨p, 2, none⟩ = some (.bool false) := h.blk.cell 2
  have c3 : w.cell? ⟨g, i * 2 + 1, none⟩ = some (.bool false) := by rw [(h.rec_get hr).2, hrot]
  have f3 : w.frozen? ⟨g, i * 2 + 1, none⟩ = false := h.row_free _
  have hi : i < R.length := (List.getElem?_eq_some_iff.1 hr).1
  have hfin : CartAt (w.setCell ⟨g, i * 2 + 1, none⟩ (.bool true)) p (.slice (some ⟨g, 0, none⟩) R.length cap) (R.set i { r with rot := true }) most false :=
    h.turn hr (q := 1) (by omega) rfl (fun hx => ⟨hx.row, hx.size, hx.cap, hx.short⟩)
  have H := Lib.hid h
  have HF := Lib.hid hfin
  clear h hr hrot hfin
  go_enter Try.func18, Try.ntmps18
  go_wp2_with (go_at_call 43; refine (at_yes p g cap R most false i _ H.out hi).mono ?_; rintro e w1 ⟨rfl, rfl⟩)
  go_ret
  exact ⟨rfl, HF.out, (Chg.refl (fun k => k = g) _).store (p := ⟨g, _, none⟩) (.inl rfl) _⟩
end Go.Proofs.Ytiiilimmjoadeaa
