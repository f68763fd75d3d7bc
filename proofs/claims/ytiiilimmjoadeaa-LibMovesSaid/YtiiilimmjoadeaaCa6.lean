/- What Tear, Lose, Lost, Len and Room do. No condition beyond those that each theorem states. -/
import Derived.Test.YtiiilimmjoadeaaCa5
namespace Go.Proofs.Ytiiilimmjoadeaa
open Go.RowKit

theorem quiet_eq {P : Program} {f : FuncId} {args : Array Value} {w : World} {n : Nat} {v : Value} (h : Calls P f args (w.drewN n) fun e w' => e = .returned v ∧ w.drewN n = w') :
    Calls P f args (w.drewN n) fun e w' => e = .returned v ∧ ∃ m, w' = w.drewN m :=
  h.mono fun _ _ ⟨he, hm⟩ => ⟨he, n, hm.symm⟩

set_option maxHeartbeats 400000 in
theorem tear_off (pv : Value) (n : Int) (w : World) (h : pv = .pointer none ∨ ∃ p lv R most, pv = .pointer (some ⟨p, 0, none⟩) ∧ CartAt w p lv R most true) :
    Calls Try.prog 17 #[pv, .int .i64 n] w fun e w' => e = .returned (.bool false) ∧ Below w.heap.size w w' := by
  rcases h with rfl | ⟨p, lv, R, most, rfl, h⟩
  · go_enter Try.func17, Try.ntmps17
    go_wp2
    go_ret
    exact ⟨rfl, Below.refl _ _⟩
  · have c2 : w.cell? ⟨p, 2, none⟩ = some (.bool true) := h.blk.cell 2
    clear h
    go_enter Try.func17, Try.ntmps17
    go_wp2
    go_ret
    exact ⟨rfl, Below.refl _ _⟩

set_option maxHeartbeats 400000 in
theorem tear_none (p : Nat) (lv : Value) (most : Int) (n : Int) (w : World) (h : CartAt w p lv [] most false) :
    Calls Try.prog 17 #[.pointer (some ⟨p, 0, none⟩), .int .i64 n] w fun e w' => e = .returned (.bool false) ∧ Below w.heap.size w w' := by
  have c0 : w.cell? ⟨p, 0, none⟩ = some lv := h.blk.cell 0
  have c2 : w.cell? ⟨p, 2, none⟩ = some (.bool false) := h.blk.cell 2
  have s1 : IntKind.i64.wrap (0 - 1) = -1 := by decide
  have H := Lib.hid h
  rcases h.form with ⟨rfl, _⟩ | ⟨g, cap, rfl, _, _⟩
  all_goals
    clear h
    simp only [List.length_nil] at *
    go_enter Try.func17, Try.ntmps17
    go_wp2_with fail
    go_quiet ((go_at_call 43; exact quiet_eq (at_no p _ [] most false _ _ (H.out.drewN _) (.inl (by decide)))))
    go_wp2_with fail
    go_ret
    exact ⟨rfl, below_drewN (Below.refl _ _) _⟩

set_option maxHeartbeats 400000 in
theorem tear_bad (p g cap : Nat) (R : List RecV) (most : Int) (i : Nat) (r : RecV) (n : Int) (w : World) (h : CartAt w p (.slice (some ⟨g, 0, none⟩) R.length cap) R most false) (hR : R.length = i + 1) (hr : R[i]? = some r) (hn : n < 0 ∨ r.len ≤ n) :
    Calls Try.prog 17 #[.pointer (some ⟨p, 0, none⟩), .int .i64 n] w fun e w' => e = .returned (.bool false) ∧ Below w.heap.size w w' := by
  have c0 : w.cell? ⟨p, 0, none⟩ = some (.slice (some ⟨g, 0, none⟩) (i + 1) cap) := by rw [← hR]; exact h.blk.cell 0
  have c2 : w.cell? ⟨p, 2, none⟩ = some (.bool false) := h.blk.cell 2
  have c4 := (h.rec_get hr).1
  have hl := h.few
  have hm := h.lim
  have s1 : IntKind.i64.wrap (i : Int) = i := IntWalk.i64_in _ (by omega)
  have s2 : wrap64 (i : Int) = i := IntWalk.wrap64_in _ (by omega)
  have H := Lib.hid h
  have HI := Lib.hid (show i < R.length by omega)
  clear h hr hR
  rcases hn with hn | hn
  · go_enter Try.func17, Try.ntmps17
    go_wp2_with fail
    go_quiet ((go_at_call 43; exact quiet_eq (at_yes p g cap R most false i _ (H.out.drewN _) HI.out)))
    go_wp2_with fail
    go_ret
    exact ⟨rfl, below_drewN (Below.refl _ _) _⟩
  · have hn' : ¬ n < 0 := by omega
    go_enter Try.func17, Try.ntmps17
    go_wp2_with fail
    go_quiet ((go_at_call 43; exact quiet_eq (at_yes p g cap R most false i _ (H.out.drewN _) HI.out)))
    go_wp2_with fail
    go_ret
    exact ⟨rfl, below_drewN (Below.refl _ _) _⟩

def RecV.cut (r : RecV) (n : Nat) : RecV := { r with len := n, cap := n, bytes := r.bytes.take n }
theorem RecOk.cut {w : World} {r : RecV} (h : RecOk w r) {n : Nat} (hn : n < r.len) : RecOk w (r.cut n) := by
  have hs := h.size
  have hc := h.cap
  refine ⟨?_, by simp [RecV.cut]; omega, by simp [RecV.cut]; omega, by have := h.short; simp [RecV.cut]; omega⟩
  have := h.row.less n
  simpa [RecV.cut, byteVals] using this

set_option maxHeartbeats 400000 in
theorem tear_ok (p g cap : Nat) (R : List RecV) (most : Int) (i n : Nat) (r : RecV) (w : World) (h : CartAt w p (.slice (some ⟨g, 0, none⟩) R.length cap) R most false) (hR : R.length = i + 1) (hr : R[i]? = some r) (hn : n < r.len) :
    Calls Try.prog 17 #[.pointer (some ⟨p, 0, none⟩), .int .i64 n] w fun e w' => e = .returned (.bool true) ∧ CartAt w' p (.slice (some ⟨g, 0, none⟩) R.length cap) (R.set i (r.cut n)) most false ∧ Chg (fun k => k = g) w w' := by
  have c0 : w.cell? ⟨p, 0, none⟩ = some (.slice (some ⟨g, 0, none⟩) (i + 1) cap) := by rw [← hR]; exact h.blk.cell 0
  have c2 : w.cell? ⟨p, 2, none⟩ = some (.bool false) := h.blk.cell 2
  have c4 := (h.rec_get hr).1
  have f4 : w.frozen? ⟨g, i * 2, none⟩ = false := h.row_free _
  have hl := h.few
  have hm := h.lim
  have hcap := (h.recs r (List.mem_of_getElem? hr)).cap
  have hsh := (h.recs r (List.mem_of_getElem? hr)).short
  have s1 : IntKind.i64.wrap (i : Int) = i := IntWalk.i64_in _ (by omega)
  have s2 : wrap64 (i : Int) = i := IntWalk.wrap64_in _ (by omega)
  have hfin : ∀ nq, CartAt ((w.drewN nq).setCell ⟨g, i * 2, none⟩ (.slice (some ⟨r.g, 0, none⟩) n n)) p (.slice (some ⟨g, 0, none⟩) R.length cap) (R.set i (r.cut n)) most false := fun nq =>
    (h.drewN nq).turn hr (q := 0) (by omega) rfl (fun hx => hx.cut hn)
  have hd1 : decide ((n : Int) < 0) = false := by simp
  have hd2 : decide (r.len ≤ n) = false := by simpa using hn
  have H := Lib.hid h
  have HF := Lib.hid hfin
  have HI := Lib.hid (show i < R.length by omega)
  have hcm : n ≤ r.cap := by omega
  clear h hr hR hfin
  go_enter Try.func17, Try.ntmps17
  go_wp2_with fail
  go_quiet ((go_at_call 43; exact quiet_eq (at_yes p g cap R most false i _ (H.out.drewN _) HI.out)))
  go_wp2_with fail
  go_ret
  exact ⟨rfl, HF.out _, ((Chg.refl (fun k => k = g) _).drewN _).store (p := ⟨g, _, none⟩) (.inl rfl) _⟩
end Go.Proofs.Ytiiilimmjoadeaa
