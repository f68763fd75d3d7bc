/- The document's question whether two steps are one. No condition beyond those that each theorem states. -/
import Derived.Test.YtkkmojbaoflafaaDoorY12
namespace Go.Proofs.YtkkmojbaoflafaaDoor
open Go.RowKit Go.Shelf
attribute [local go_sem] Oper.semAt_some

def sameT (x y : StepV) : Bool := x.kind == y.kind && (x.a == y.a && (x.b == y.b && (x.key == y.key && x.data == y.data)))
theorem same_iff {x y : StepV} : sameT x y = true ↔ x = y := by
  obtain ⟨k, a, b, key, d⟩ := x
  obtain ⟨k', a', b', key', d'⟩ := y
  simp [sameT]
theorem arg_str {w : World} {A : Option Addr} {n c : Nat} {l : Str} (h : BytesIn w A n l) : (convert 22 9 (.slice A n c)).run Tryd.prog w = .ok (strV l) w := by
  rcases h.2 with h0 | ⟨b, off, rfl, _⟩
  · subst h0
    have hl : l = [] := List.eq_nil_of_length_eq_zero h.1
    subst hl
    cases A with
    | none => exact run_string_of (P := Tryd.prog) (src := 22) (e := 5) (dst := 9) (c := c) Tryd.underlying22 Tryd.underlying5 Tryd.underlying9 h (.inl rfl)
    | some a =>
      have hl : (loadCells a 0).run Tryd.prog w = .ok (([] : List Int).map (Value.int .u8)).toArray w := run_loadCells_list (P := Tryd.prog) w a [] (fun j v hj => by simp at hj)
      rw [run_convert_bytes_string w 22 9 5 _ 0 c Tryd.underlying22 Tryd.underlying5 Tryd.underlying9, run_bytesToString w _ 0 c [] hl]
      rfl
  · exact run_string_of (P := Tryd.prog) (src := 22) (e := 5) (dst := 9) (c := c) Tryd.underlying22 Tryd.underlying5 Tryd.underlying9 h (.inr ⟨b, off, rfl⟩)
set_option maxHeartbeats 4000000 in
set_option maxRecDepth 100000 in
theorem tSame (x y : StepV) (A A' : Option Addr) (c c' : Nat) (w : World) (hx : BytesIn w A x.data.length x.data) (hy : BytesIn w A' y.data.length y.data) :
    Calls Tryd.prog 13 #[stepV x A c, stepV y A' c'] w fun e w' => e = .returned (.bool (sameT x y)) ∧ Below w.heap.size w w' := by
  have HCX := Lib.hid (show ∀ W, Below w.heap.size w W → (convert 22 9 (.slice A x.data.length c)).run Tryd.prog W = .ok (strV x.data) W from fun W h => arg_str (hx.below h))
  have HCY := Lib.hid (show ∀ W, Below w.heap.size w W → (convert 22 9 (.slice A' y.data.length c')).run Tryd.prog W = .ok (strV y.data) W from fun W h => arg_str (hy.below h))
  clear hx hy
  obtain ⟨k, a, b, key, d⟩ := x
  obtain ⟨k', a', b', key', d'⟩ := y
  obtain ⟨n, hn⟩ : ∃ n, d.length = n := ⟨_, rfl⟩
  obtain ⟨n', hn'⟩ : ∃ n, d'.length = n := ⟨_, rfl⟩
  simp only [stepV, hn, hn'] at *
  clear hn hn'
  go_enter Tryd.func13, Tryd.ntmps13
  go_upto_region 1 with fail
  obtain ⟨w0, hw0⟩ : ∃ x, (w.alloc (.cells #[.int .i64 k, .int .i64 a, .int .i64 b, strV key, .slice A n c] 24)).alloc (.cells #[.int .i64 k', .int .i64 a', .int .i64 b', strV key', .slice A' n' c'] 24) = x := ⟨_, rfl⟩
  have B0 := Lib.hid (show Below w.heap.size w w0 by rw [← hw0]; exact ((Below.refl _ w).alloc (Nat.le_refl _) _).alloc (by simp) _)
  have X0 := Lib.hid (show Blk w0 w.heap.size 24 #[.int .i64 k, .int .i64 a, .int .i64 b, strV key, .slice A n c] by rw [← hw0]; exact (Blk.made _ _ _).alloc _)
  have Y0 := Lib.hid (show Blk w0 (w.heap.size + 1) 24 #[.int .i64 k', .int .i64 a', .int .i64 b', strV key', .slice A' n' c'] by rw [← hw0]; exact Blk.made' _ _ _ (by simp))
  rw [hw0]
  clear hw0
  have x0 : w0.cell? ⟨w.heap.size, 0, none⟩ = some (.int .i64 k) := X0.out.cell 0
  have x1 : w0.cell? ⟨w.heap.size, 1, none⟩ = some (.int .i64 a) := X0.out.cell 1
  have x2 : w0.cell? ⟨w.heap.size, 2, none⟩ = some (.int .i64 b) := X0.out.cell 2
  have x3 : w0.cell? ⟨w.heap.size, 3, none⟩ = some (strV key) := X0.out.cell 3
  have x4 : w0.cell? ⟨w.heap.size, 4, none⟩ = some (.slice A n c) := X0.out.cell 4
  have y0 : w0.cell? ⟨w.heap.size + 1, 0, none⟩ = some (.int .i64 k') := Y0.out.cell 0
  have y1 : w0.cell? ⟨w.heap.size + 1, 1, none⟩ = some (.int .i64 a') := Y0.out.cell 1
  have y2 : w0.cell? ⟨w.heap.size + 1, 2, none⟩ = some (.int .i64 b') := Y0.out.cell 2
  have y3 : w0.cell? ⟨w.heap.size + 1, 3, none⟩ = some (strV key') := Y0.out.cell 3
  have y4 : w0.cell? ⟨w.heap.size + 1, 4, none⟩ = some (.slice A' n' c') := Y0.out.cell 4
  have cx := HCX.out w0 B0.out
  have cy := HCY.out w0 B0.out
  clear X0 Y0 HCX HCY
  by_cases h : k = k'
  · subst h
    by_cases h : a = a'
    · subst h
      by_cases h : b = b'
      · subst h
        by_cases h : key = key'
        · subst h
          by_cases h : d = d'
          · subst h
            go_wp2_with fail
            go_ret
            exact ⟨by simp [sameT], B0.out⟩
          · have HN := Lib.hid h
            have e1 : (d == d') = false := by simpa using h
            go_wp2_with fail
            go_ret
            exact ⟨by simp [sameT, HN.out], B0.out⟩
        · have HN := Lib.hid h
          have e1 : (key == key') = false := by simpa using h
          go_wp2_with fail
          go_ret
          exact ⟨by simp [sameT, HN.out], B0.out⟩
      · have HN := Lib.hid h
        have e1 : (b == b') = false := by simpa using h
        go_wp2_with fail
        go_ret
        exact ⟨by simp [sameT, HN.out], B0.out⟩
    · have HN := Lib.hid h
      have e1 : (a == a') = false := by simpa using h
      go_wp2_with fail
      go_ret
      exact ⟨by simp [sameT, HN.out], B0.out⟩
  · have HN := Lib.hid h
    have e1 : (k == k') = false := by simpa using h
    go_wp2_with fail
    go_ret
    exact ⟨by simp [sameT, HN.out], B0.out⟩
end Go.Proofs.YtkkmojbaoflafaaDoor
