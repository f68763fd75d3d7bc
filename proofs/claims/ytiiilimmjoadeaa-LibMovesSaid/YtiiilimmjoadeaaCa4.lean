/- What the other methods of a cartridge do. No condition beyond those that each theorem states. -/
import Derived.Test.YtiiilimmjoadeaaCa3
namespace Go.Proofs.Ytiiilimmjoadeaa
open Go.RowKit

section
variable {w : World} {p g cap : Nat} {R : List RecV} {most : Int} {lost : Bool}
theorem CartAt.rec_get (h : CartAt w p (.slice (some ⟨g, 0, none⟩) R.length cap) R most lost) {i : Nat} {r : RecV} (hr : R[i]? = some r) :
    w.cell? ⟨g, i * 2, none⟩ = some (.slice (some ⟨r.g, 0, none⟩) r.len r.cap) ∧ w.cell? ⟨g, i * 2 + 1, none⟩ = some (.bool r.rot) :=
  ⟨own_cell h.own (flat_get recVals_length hr (q := 0) (by omega)), own_cell h.own (flat_get recVals_length hr (q := 1) (by omega))⟩
theorem CartAt.row_free (h : CartAt w p (.slice (some ⟨g, 0, none⟩) R.length cap) R most lost) (i : Nat) : w.frozen? ⟨g, i, none⟩ = false := by
  obtain ⟨cs, hcs⟩ := own_blk h.own (g := g) rfl
  exact hcs.free i
end

set_option maxHeartbeats 400000 in
theorem at_no (p : Nat) (lv : Value) (R : List RecV) (most : Int) (lost : Bool) (n : Int) (w : World) (h : CartAt w p lv R most lost) (hn : n < 0 ∨ R.length ≤ n) :
    Calls Try.prog 43 #[.pointer (some ⟨p, 0, none⟩), .int .i64 n] w fun e w' => e = .returned (.tuple #[.pointer none, .bool false]) ∧ w = w' := by
  have c0 : w.cell? ⟨p, 0, none⟩ = some lv := h.blk.cell 0
  rcases h.form with ⟨rfl, rfl⟩ | ⟨g, cap, rfl, _, _⟩
  · have hn' : n < 0 ∨ 0 ≤ n := by omega
    clear h hn
    rcases hn' with h | h
    all_goals
      go_enter Try.func43, Try.ntmps43
      go_wp2
      go_ret2
      exact ⟨rfl, rfl⟩
  · clear h
    rcases hn with h | h
    · go_enter Try.func43, Try.ntmps43
      go_wp2
      go_ret2
      exact ⟨rfl, rfl⟩
    · have h' : ¬ n < 0 := by omega
      go_enter Try.func43, Try.ntmps43
      go_wp2
      go_ret2
      exact ⟨rfl, rfl⟩

set_option maxHeartbeats 400000 in
theorem at_yes (p g cap : Nat) (R : List RecV) (most : Int) (lost : Bool) (i : Nat) (w : World) (h : CartAt w p (.slice (some ⟨g, 0, none⟩) R.length cap) R most lost) (hi : i < R.length) :
    Calls Try.prog 43 #[.pointer (some ⟨p, 0, none⟩), .int .i64 i] w fun e w' => e = .returned (.tuple #[.pointer (some ⟨g, i * 2, none⟩), .bool true]) ∧ w = w' := by
  have c0 : w.cell? ⟨p, 0, none⟩ = some (.slice (some ⟨g, 0, none⟩) R.length cap) := h.blk.cell 0
  have h1 : decide (R.length ≤ i) = false := by simpa using hi
  clear h
  go_enter Try.func43, Try.ntmps43
  go_wp2
  go_ret2
  exact ⟨rfl, rfl⟩

set_option maxHeartbeats 400000 in
theorem read_nil (n : Int) (w : World) : Calls Try.prog 16 #[.pointer none, .int .i64 n] w fun e w' => e = .returned (.tuple #[.slice none 0 0, .int .i64 1]) ∧ w = w' := by
  go_enter Try.func16, Try.ntmps16
  go_wp2
  go_ret2
  exact ⟨rfl, rfl⟩
set_option maxHeartbeats 400000 in
theorem read_lost (p : Nat) (lv : Value) (R : List RecV) (most : Int) (n : Int) (w : World) (h : CartAt w p lv R most true) :
    Calls Try.prog 16 #[.pointer (some ⟨p, 0, none⟩), .int .i64 n] w fun e w' => e = .returned (.tuple #[.slice none 0 0, .int .i64 9]) ∧ w = w' := by
  have c2 : w.cell? ⟨p, 2, none⟩ = some (.bool true) := h.blk.cell 2
  clear h
  go_enter Try.func16, Try.ntmps16
  go_wp2
  go_ret2
  exact ⟨rfl, rfl⟩
set_option maxHeartbeats 400000 in
theorem read_none (p : Nat) (lv : Value) (R : List RecV) (most : Int) (n : Int) (w : World) (h : CartAt w p lv R most false) (hn : n < 0 ∨ R.length ≤ n) :
    Calls Try.prog 16 #[.pointer (some ⟨p, 0, none⟩), .int .i64 n] w fun e w' => e = .returned (.tuple #[.slice none 0 0, .int .i64 5]) ∧ w = w' := by
  have c2 : w.cell? ⟨p, 2, none⟩ = some (.bool false) := h.blk.cell 2
  have H := Lib.hid h
  have HN := Lib.hid hn
  clear h hn
  go_enter Try.func16, Try.ntmps16
  go_wp2_with (go_at_call 43; refine (at_no p lv R most false n _ H.out HN.out).mono ?_; rintro e w1 ⟨rfl, rfl⟩)
  go_ret2
  exact ⟨rfl, rfl⟩
set_option maxHeartbeats 400000 in
theorem read_rot (p g cap : Nat) (R : List RecV) (most : Int) (i : Nat) (r : RecV) (w : World) (h : CartAt w p (.slice (some ⟨g, 0, none⟩) R.length cap) R most false) (hr : R[i]? = some r) (hrot : r.rot = true) :
    Calls Try.prog 16 #[.pointer (some ⟨p, 0, none⟩), .int .i64 i] w fun e w' => e = .returned (.tuple #[.slice none 0 0, .int .i64 10]) ∧ w = w' := by
  have c2 : w.cell? ⟨p, 2, none⟩ = some (.bool false) := h.blk.cell 2
  have c3 : w.cell? ⟨g, i * 2 + 1, none⟩ = some (.bool true) := by rw [(h.rec_get hr).2, hrot]
  have hi : i < R.length := (List.getElem?_eq_some_iff.1 hr).1
  have H := Lib.hid h
  clear h hr hrot
  go_enter Try.func16, Try.ntmps16
  go_wp2_with (go_at_call 43; refine (at_yes p g cap R most false i _ H.out hi).mono ?_; rintro e w1 ⟨rfl, rfl⟩)
  go_ret2
  exact ⟨rfl, rfl⟩
set_option maxHeartbeats 400000 in
theorem read_ok (p g cap : Nat) (R : List RecV) (most : Int) (i : Nat) (r : RecV) (w : World) (h : CartAt w p (.slice (some ⟨g, 0, none⟩) R.length cap) R most false) (hr : R[i]? = some r) (hrot : r.rot = false) :
    Calls Try.prog 16 #[.pointer (some ⟨p, 0, none⟩), .int .i64 i] w fun e w' => ∃ g', e = .returned (.tuple #[.slice (some ⟨g', 0, none⟩) r.len r.len, .int .i64 0]) ∧ w.heap.size ≤ g' ∧ RowAt w' g' 5 (byteVals r.bytes) ∧ Below w.heap.size w w' := by
  have c2 : w.cell? ⟨p, 2, none⟩ = some (.bool false) := h.blk.cell 2
  have c3 : w.cell? ⟨g, i * 2 + 1, none⟩ = some (.bool false) := by rw [(h.rec_get hr).2, hrot]
  have c4 := (h.rec_get hr).1
  have hi : i < R.length := (List.getElem?_eq_some_iff.1 hr).1
  have hok := h.recs r (List.mem_of_getElem? hr)
  have hshort := hok.short
  have hb : BytesIn w (some ⟨r.g, 0, none⟩) r.len r.bytes := by rw [← hok.size]; exact hok.row.bytesIn
  have HB := Lib.hid hb
  have H := Lib.hid h
  clear h hr hrot hok hb
  go_enter Try.func16, Try.ntmps16
  go_wp2_with (first
    | (go_at_call 43; refine (at_yes p g cap R most false i _ H.out hi).mono ?_; rintro e w1 ⟨rfl, rfl⟩)
    | (go_at_call 42
       refine (clone_some r.g 0 r.len r.cap r.bytes _ (by omega) HB.out).mono ?_
       rintro e w1 ⟨v, rfl, ⟨g', cap', rfl, hg', hnc', hcm', hrow⟩, hb1⟩)
    | (go_at_call 44; refine (clip_any g' r.len cap' _ hnc').mono ?_; rintro e w2 ⟨rfl, rfl⟩))
  go_ret2
  exact ⟨g', rfl, hg', hrow, hb1⟩
end Go.Proofs.Ytiiilimmjoadeaa
