/- The document's question whether a record may be. No condition beyond those that each theorem states. -/
import Derived.Test.YthceidacmeadkaaS8
import Derived.Deep.RegionHeld
import Derived.Deep.DrawnRows
namespace Go.Proofs.Ythceidacmeadkaa
open Go.RowKit Go.Maps Go.WideMaps Go.Sort Go.Shelf
attribute [local go_sem] Oper.semAt_some

def inV (n a b : Int) : Bool := decide (a ≤ n) && decide (n ≤ b)
theorem arg_str {w : World} {A : Option Addr} {n c : Nat} {l : Str} (h : BytesIn w A n l) : (convert 35 9 (.slice A n c)).run Try.prog w = .ok (strV l) w := by
  rcases h.2 with h0 | ⟨b, off, rfl, _⟩
  · subst h0
    have hl : l = [] := List.eq_nil_of_length_eq_zero h.1
    subst hl
    cases A with
    | none => exact run_string_of (P := Try.prog) (src := 35) (e := 5) (dst := 9) (c := c) Try.underlying35 Try.underlying5 Try.underlying9 h (.inl rfl)
    | some a =>
      have hl : (loadCells a 0).run Try.prog w = .ok (([] : List Int).map (Value.int .u8)).toArray w := run_loadCells_list (P := Try.prog) w a [] (fun j v hj => by simp at hj)
      rw [run_convert_bytes_string w 35 9 5 _ 0 c Try.underlying35 Try.underlying5 Try.underlying9, run_bytesToString w _ 0 c [] hl]
      rfl
  · exact run_string_of (P := Try.prog) (src := 35) (e := 5) (dst := 9) (c := c) Try.underlying35 Try.underlying5 Try.underlying9 h (.inr ⟨b, off, rfl⟩)
theorem sIn9 (n a b : Int) (w : World) : Calls Try.prog 65 #[.int .i64 n, .int .i64 a, .int .i64 b] w fun e w' => e = .returned (.bool (inV n a b)) ∧ w = w' := by
  by_cases c0 : a ≤ n
  · have q0 : decide (a ≤ n) = true := decide_eq_true c0
    by_cases c1 : n ≤ b
    · have q1 : decide (n ≤ b) = true := decide_eq_true c1
      have V := Lib.hid (show inV n a b = true by simp [inV, c0, c1])
      clear c0 c1
      go_enter Try.func65, Try.ntmps65
      go_wp2_with fail
      go_ret
      exact ⟨by rw [V.out]; rfl, rfl⟩
    · have q1 : decide (n ≤ b) = false := decide_eq_false c1
      have V := Lib.hid (show inV n a b = false by simp [inV, c0, c1])
      clear c0 c1
      go_enter Try.func65, Try.ntmps65
      go_wp2_with fail
      go_ret
      exact ⟨by rw [V.out]; rfl, rfl⟩
  · have q0 : decide (a ≤ n) = false := decide_eq_false c0
    have V := Lib.hid (show inV n a b = false by simp [inV, c0])
    clear c0
    go_enter Try.func65, Try.ntmps65
    go_wp2_with fail
    go_ret
    exact ⟨by rw [V.out]; rfl, rfl⟩
def sameR (r s : RecV) : Bool := decide (r.kind = s.kind) && (decide (r.cart = s.cart) && (decide (r.key = s.key) && (decide (r.gen = s.gen) && (decide (r.group = s.group) && (decide (r.groups = s.groups) && (decide (r.index = s.index) && (decide (r.size = s.size) && (decide (r.sum = s.sum) && decide (r.data = s.data)))))))))
theorem below_al7 (w : World) (o : Obj) : Below w.heap.size w (w.alloc o) := (Below.refl _ w).alloc (Nat.le_refl _) _
theorem BytesIn.belowU {w w' : World} {A : Option Addr} {n : Nat} {l : List UInt8} (h : BytesIn w A n l) (hb : Below w.heap.size w w') : BytesIn w' A n l := h.keep hb.size fun b _ _ hlt => hb.block b hlt
theorem src_of_bytes {w w' : World} {r : RecV} {A : Option Addr} (h : BytesIn w A r.data.length r.data) (hb : Below w.heap.size w w') : BytesIn w' A r.data.length r.data := h.belowU hb
set_option maxHeartbeats 8000000
set_option maxRecDepth 100000
theorem sSame9 (r : RecV) (A : Option Addr) (c : Nat) (s : RecV) (B : Option Addr) (d : Nat) (w : World) (hA : BytesIn w A r.data.length r.data) (hB : BytesIn w B s.data.length s.data) :
    Calls Try.prog 66 #[recV r A c, recV s B d] w fun e w' => e = .returned (.bool (sameR r s)) ∧ Below w.heap.size w w' := by
  have HA := Lib.hid hA
  have HB := Lib.hid hB
  clear hA hB
  obtain ⟨w0, hw0⟩ : ∃ z, (w.alloc (.cells (recCells r A c) 37)).alloc (.cells (recCells s B d) 37) = z := ⟨_, rfl⟩
  have B0 := Lib.hid (show Below w.heap.size w w0 by rw [← hw0]; exact (below_al7 w _).alloc (by simp) _)
  have BR := Lib.hid (show Blk w0 w.heap.size 37 (recCells r A c) by rw [← hw0]; exact (Blk.made _ _ _).alloc _)
  have BS := Lib.hid (show Blk w0 (w.heap.size + 1) 37 (recCells s B d) by rw [← hw0]; exact Blk.made' _ _ _ (by simp))
  have hca : (convert 35 9 (.slice A r.data.length c)).run Try.prog w0 = .ok (strV r.data) w0 := arg_str (HA.out.belowU B0.out)
  have hcb : (convert 35 9 (.slice B s.data.length d)).run Try.prog w0 = .ok (strV s.data) w0 := arg_str (HB.out.belowU B0.out)
  simp only [recCells] at hw0
  unfold recV recCells
  go_enter Try.func66, Try.ntmps66
  go_upto_region 1 with fail
  clear hw0
  have x0 : w0.cell? ⟨w.heap.size, 0, none⟩ = some (.int .i64 r.kind) := BR.out.cell 0
  have x1 : w0.cell? ⟨w.heap.size, 1, none⟩ = some (.int .i64 r.cart) := BR.out.cell 1
  have x2 : w0.cell? ⟨w.heap.size, 2, none⟩ = some (strV r.key) := BR.out.cell 2
  have x3 : w0.cell? ⟨w.heap.size, 3, none⟩ = some (.int .i64 r.gen) := BR.out.cell 3
  have x4 : w0.cell? ⟨w.heap.size, 4, none⟩ = some (.int .i64 r.group) := BR.out.cell 4
  have x5 : w0.cell? ⟨w.heap.size, 5, none⟩ = some (.int .i64 r.groups) := BR.out.cell 5
  have x6 : w0.cell? ⟨w.heap.size, 6, none⟩ = some (.int .i64 r.index) := BR.out.cell 6
  have x7 : w0.cell? ⟨w.heap.size, 7, none⟩ = some (.int .i64 r.size) := BR.out.cell 7
  have x8 : w0.cell? ⟨w.heap.size, 8, none⟩ = some (strV r.sum) := BR.out.cell 8
  have x9 : w0.cell? ⟨w.heap.size, 9, none⟩ = some (.slice A r.data.length c) := BR.out.cell 9
  have y0 : w0.cell? ⟨w.heap.size + 1, 0, none⟩ = some (.int .i64 s.kind) := BS.out.cell 0
  have y1 : w0.cell? ⟨w.heap.size + 1, 1, none⟩ = some (.int .i64 s.cart) := BS.out.cell 1
  have y2 : w0.cell? ⟨w.heap.size + 1, 2, none⟩ = some (strV s.key) := BS.out.cell 2
  have y3 : w0.cell? ⟨w.heap.size + 1, 3, none⟩ = some (.int .i64 s.gen) := BS.out.cell 3
  have y4 : w0.cell? ⟨w.heap.size + 1, 4, none⟩ = some (.int .i64 s.group) := BS.out.cell 4
  have y5 : w0.cell? ⟨w.heap.size + 1, 5, none⟩ = some (.int .i64 s.groups) := BS.out.cell 5
  have y6 : w0.cell? ⟨w.heap.size + 1, 6, none⟩ = some (.int .i64 s.index) := BS.out.cell 6
  have y7 : w0.cell? ⟨w.heap.size + 1, 7, none⟩ = some (.int .i64 s.size) := BS.out.cell 7
  have y8 : w0.cell? ⟨w.heap.size + 1, 8, none⟩ = some (strV s.sum) := BS.out.cell 8
  have y9 : w0.cell? ⟨w.heap.size + 1, 9, none⟩ = some (.slice B s.data.length d) := BS.out.cell 9
  by_cases c0 : r.kind = s.kind
  · have q0 : (r.kind != s.kind) = false := by simpa using c0
    by_cases c1 : r.cart = s.cart
    · have q1 : (r.cart != s.cart) = false := by simpa using c1
      by_cases c2 : r.key = s.key
      · have q2 : (r.key == s.key) = true := by simpa using c2
        by_cases c3 : r.gen = s.gen
        · have q3 : (r.gen != s.gen) = false := by simpa using c3
          by_cases c4 : r.group = s.group
          · have q4 : (r.group != s.group) = false := by simpa using c4
            by_cases c5 : r.groups = s.groups
            · have q5 : (r.groups == s.groups) = true := by simpa using c5
              by_cases c6 : r.index = s.index
              · have q6 : (r.index == s.index) = true := by simpa using c6
                by_cases c7 : r.size = s.size
                · have q7 : (r.size == s.size) = true := by simpa using c7
                  by_cases c8 : r.sum = s.sum
                  · have q8 : (r.sum == s.sum) = true := by simpa using c8
                    by_cases c9 : r.data = s.data
                    · have q9 : (r.data == s.data) = true := by simpa using c9
                      have V := Lib.hid (show sameR r s = true by unfold sameR; simp [c0, c1, c2, c3, c4, c5, c6, c7, c8, c9])
                      clear c0 c1 c2 c3 c4 c5 c6 c7 c8 c9
                      go_wp2_with fail
                      go_ret
                      rw [V.out]
                      exact ⟨rfl, B0.out⟩
                    · have q9 : (r.data == s.data) = false := by simpa using c9
                      have p9 : (⟨(r.data).toArray⟩ : ByteArray) ≠ ⟨(s.data).toArray⟩ := fun h => c9 (by have h2 := congrArg (fun b => b.data.toList) h; simpa using h2)
                      have V := Lib.hid (show sameR r s = false by unfold sameR; simp [c0, c1, c2, c3, c4, c5, c6, c7, c8, c9])
                      clear c0 c1 c2 c3 c4 c5 c6 c7 c8 c9
                      go_wp2_with fail
                      go_ret
                      rw [V.out]
                      exact ⟨rfl, B0.out⟩
                  · have q8 : (r.sum == s.sum) = false := by simpa using c8
                    have p8 : (⟨(r.sum).toArray⟩ : ByteArray) ≠ ⟨(s.sum).toArray⟩ := fun h => c8 (by have h2 := congrArg (fun b => b.data.toList) h; simpa using h2)
                    have V := Lib.hid (show sameR r s = false by unfold sameR; simp [c0, c1, c2, c3, c4, c5, c6, c7, c8])
                    clear c0 c1 c2 c3 c4 c5 c6 c7 c8
                    go_wp2_with fail
                    go_ret
                    rw [V.out]
                    exact ⟨rfl, B0.out⟩
                · have q7 : (r.size == s.size) = false := by simpa using c7
                  have V := Lib.hid (show sameR r s = false by unfold sameR; simp [c0, c1, c2, c3, c4, c5, c6, c7])
                  clear c0 c1 c2 c3 c4 c5 c6 c7
                  go_wp2_with fail
                  go_ret
                  rw [V.out]
                  exact ⟨rfl, B0.out⟩
              · have q6 : (r.index == s.index) = false := by simpa using c6
                have V := Lib.hid (show sameR r s = false by unfold sameR; simp [c0, c1, c2, c3, c4, c5, c6])
                clear c0 c1 c2 c3 c4 c5 c6
                go_wp2_with fail
                go_ret
                rw [V.out]
                exact ⟨rfl, B0.out⟩
            · have q5 : (r.groups == s.groups) = false := by simpa using c5
              have V := Lib.hid (show sameR r s = false by unfold sameR; simp [c0, c1, c2, c3, c4, c5])
              clear c0 c1 c2 c3 c4 c5
              go_wp2_with fail
              go_ret
              rw [V.out]
              exact ⟨rfl, B0.out⟩
          · have q4 : (r.group != s.group) = true := by simpa using c4
            have V := Lib.hid (show sameR r s = false by unfold sameR; simp [c0, c1, c2, c3, c4])
            clear c0 c1 c2 c3 c4
            go_wp2_with fail
            go_ret
            rw [V.out]
            exact ⟨rfl, B0.out⟩
        · have q3 : (r.gen != s.gen) = true := by simpa using c3
          have V := Lib.hid (show sameR r s = false by unfold sameR; simp [c0, c1, c2, c3])
          clear c0 c1 c2 c3
          go_wp2_with fail
          go_ret
          rw [V.out]
          exact ⟨rfl, B0.out⟩
      · have q2 : (r.key == s.key) = false := by simpa using c2
        have p2 : (⟨(r.key).toArray⟩ : ByteArray) ≠ ⟨(s.key).toArray⟩ := fun h => c2 (by have h2 := congrArg (fun b => b.data.toList) h; simpa using h2)
        have V := Lib.hid (show sameR r s = false by unfold sameR; simp [c0, c1, c2])
        clear c0 c1 c2
        go_wp2_with fail
        go_ret
        rw [V.out]
        exact ⟨rfl, B0.out⟩
    · have q1 : (r.cart != s.cart) = true := by simpa using c1
      have V := Lib.hid (show sameR r s = false by unfold sameR; simp [c0, c1])
      clear c0 c1
      go_wp2_with fail
      go_ret
      rw [V.out]
      exact ⟨rfl, B0.out⟩
  · have q0 : (r.kind != s.kind) = true := by simpa using c0
    have V := Lib.hid (show sameR r s = false by unfold sameR; simp [c0])
    clear c0
    go_wp2_with fail
    go_ret
    rw [V.out]
    exact ⟨rfl, B0.out⟩
def bareR (r : RecV) : RecV := if r.kind = 1 then ⟨1, r.cart, [], 0, 0, 0, 0, 0, [], []⟩ else if r.kind = 2 then ⟨r.kind, 0, r.key, r.gen, r.group, r.groups, r.index, r.size, r.sum, r.data⟩ else ⟨r.kind, 0, r.key, r.gen, 0, 0, 0, 0, [], []⟩
theorem blk_ten {w0 : World} {g : Nat} {t : TypeId} {a0 a1 a2 a3 a4 a5 a6 a7 a8 a9 : Value} (h : Blk w0 g t #[a0, a1, a2, a3, a4, a5, a6, a7, a8, a9]) (v0 v1 v2 v3 v4 v5 v6 v7 v8 v9 : Value) :
    Blk ((((((((((w0.setCell ⟨g, 0, none⟩ v0).setCell ⟨g, 1, none⟩ v1).setCell ⟨g, 2, none⟩ v2).setCell ⟨g, 3, none⟩ v3).setCell ⟨g, 4, none⟩ v4).setCell ⟨g, 5, none⟩ v5).setCell ⟨g, 6, none⟩ v6).setCell ⟨g, 7, none⟩ v7).setCell ⟨g, 8, none⟩ v8).setCell ⟨g, 9, none⟩ v9) g t
      #[v0, v1, v2, v3, v4, v5, v6, v7, v8, v9] := by
  have h2 := (((((((((h.store 0 v0).store 1 v1).store 2 v2).store 3 v3).store 4 v4).store 5 v5).store 6 v6).store 7 v7).store 8 v8).store 9 v9
  simp only [List.setIfInBounds_toArray, List.set_cons_zero, List.set_cons_succ] at h2
  exact h2
theorem bel_set {B : Nat} {a W wz : World} {g k : Nat} {v : Value} (h : W.setCell ⟨g, k, none⟩ v = wz) (hb : Below B a W) (hg : B ≤ g) : Below B a wz := h ▸ hb.setCell hg v
theorem blk_set {W wz : World} {g k : Nat} {t : TypeId} {cs : Array Value} {v : Value} (h : W.setCell ⟨g, k, none⟩ v = wz) (hb : Blk W g t cs) : Blk wz g t (cs.setIfInBounds k v) := h ▸ hb.store k v
theorem below_ten {B : Nat} {w w0 : World} {g : Nat} (h : Below B w w0) (hg : B ≤ g) (v0 v1 v2 v3 v4 v5 v6 v7 v8 v9 : Value) :
    Below B w ((((((((((w0.setCell ⟨g, 0, none⟩ v0).setCell ⟨g, 1, none⟩ v1).setCell ⟨g, 2, none⟩ v2).setCell ⟨g, 3, none⟩ v3).setCell ⟨g, 4, none⟩ v4).setCell ⟨g, 5, none⟩ v5).setCell ⟨g, 6, none⟩ v6).setCell ⟨g, 7, none⟩ v7).setCell ⟨g, 8, none⟩ v8).setCell ⟨g, 9, none⟩ v9) :=
  (((((((((h.setCell hg v0).setCell hg v1).setCell hg v2).setCell hg v3).setCell hg v4).setCell hg v5).setCell hg v6).setCell hg v7).setCell hg v8).setCell hg v9
theorem sBare9 (r : RecV) (A : Option Addr) (c : Nat) (w : World) (hA : BytesIn w A r.data.length r.data) :
    Calls Try.prog 67 #[recV r A c] w fun e w' => ∃ B d, e = .returned (recV (bareR r) B d) ∧ BytesIn w' B (bareR r).data.length (bareR r).data ∧ Below w.heap.size w w' := by
  have HA := Lib.hid hA
  clear hA
  obtain ⟨w0, hw0⟩ : ∃ z, (w.alloc (.cells (recCells r A c) 37)).alloc (.cells #[.int .i64 0, .int .i64 0, .string ⟨#[]⟩, .int .i64 0, .int .i64 0, .int .i64 0, .int .i64 0, .int .i64 0, .string ⟨#[]⟩, .slice none 0 0] 37) = z := ⟨_, rfl⟩
  have B0 := Lib.hid (show Below w.heap.size w w0 by rw [← hw0]; exact (below_al7 w _).alloc (by simp) _)
  have BR := Lib.hid (show Blk w0 w.heap.size 37 (recCells r A c) by rw [← hw0]; exact (Blk.made _ _ _).alloc _)
  have BS := Lib.hid (show Blk w0 (w.heap.size + 1) 37 #[.int .i64 0, .int .i64 0, .string ⟨#[]⟩, .int .i64 0, .int .i64 0, .int .i64 0, .int .i64 0, .int .i64 0, .string ⟨#[]⟩, .slice none 0 0] by rw [← hw0]; exact Blk.made' _ _ _ (by simp))
  have hz0 : w.heap.size + 2 = w0.heap.size := by rw [← hw0]; simp
  simp only [recCells] at hw0
  unfold recV recCells
  go_enter Try.func67, Try.ntmps67
  go_upto_region 1 with fail
  clear hw0
  have x0 : w0.cell? ⟨w.heap.size, 0, none⟩ = some (.int .i64 r.kind) := BR.out.cell 0
  have x1 : w0.cell? ⟨w.heap.size, 1, none⟩ = some (.int .i64 r.cart) := BR.out.cell 1
  have x2 : w0.cell? ⟨w.heap.size, 2, none⟩ = some (strV r.key) := BR.out.cell 2
  have x3 : w0.cell? ⟨w.heap.size, 3, none⟩ = some (.int .i64 r.gen) := BR.out.cell 3
  have x4 : w0.cell? ⟨w.heap.size, 4, none⟩ = some (.int .i64 r.group) := BR.out.cell 4
  have x5 : w0.cell? ⟨w.heap.size, 5, none⟩ = some (.int .i64 r.groups) := BR.out.cell 5
  have x6 : w0.cell? ⟨w.heap.size, 6, none⟩ = some (.int .i64 r.index) := BR.out.cell 6
  have x7 : w0.cell? ⟨w.heap.size, 7, none⟩ = some (.int .i64 r.size) := BR.out.cell 7
  have x8 : w0.cell? ⟨w.heap.size, 8, none⟩ = some (strV r.sum) := BR.out.cell 8
  have x9 : w0.cell? ⟨w.heap.size, 9, none⟩ = some (.slice A r.data.length c) := BR.out.cell 9
  have z0 : w0.cell? ⟨w.heap.size + 1, 0, none⟩ = some (.int .i64 0) := BS.out.cell 0
  have f0 : w0.frozen? ⟨w.heap.size + 1, 0, none⟩ = false := BS.out.free 0
  have z1 : w0.cell? ⟨w.heap.size + 1, 1, none⟩ = some (.int .i64 0) := BS.out.cell 1
  have f1 : w0.frozen? ⟨w.heap.size + 1, 1, none⟩ = false := BS.out.free 1
  have z2 : w0.cell? ⟨w.heap.size + 1, 2, none⟩ = some (.string ⟨#[]⟩) := BS.out.cell 2
  have f2 : w0.frozen? ⟨w.heap.size + 1, 2, none⟩ = false := BS.out.free 2
  have z3 : w0.cell? ⟨w.heap.size + 1, 3, none⟩ = some (.int .i64 0) := BS.out.cell 3
  have f3 : w0.frozen? ⟨w.heap.size + 1, 3, none⟩ = false := BS.out.free 3
  have z4 : w0.cell? ⟨w.heap.size + 1, 4, none⟩ = some (.int .i64 0) := BS.out.cell 4
  have f4 : w0.frozen? ⟨w.heap.size + 1, 4, none⟩ = false := BS.out.free 4
  have z5 : w0.cell? ⟨w.heap.size + 1, 5, none⟩ = some (.int .i64 0) := BS.out.cell 5
  have f5 : w0.frozen? ⟨w.heap.size + 1, 5, none⟩ = false := BS.out.free 5
  have z6 : w0.cell? ⟨w.heap.size + 1, 6, none⟩ = some (.int .i64 0) := BS.out.cell 6
  have f6 : w0.frozen? ⟨w.heap.size + 1, 6, none⟩ = false := BS.out.free 6
  have z7 : w0.cell? ⟨w.heap.size + 1, 7, none⟩ = some (.int .i64 0) := BS.out.cell 7
  have f7 : w0.frozen? ⟨w.heap.size + 1, 7, none⟩ = false := BS.out.free 7
  have z8 : w0.cell? ⟨w.heap.size + 1, 8, none⟩ = some (.string ⟨#[]⟩) := BS.out.cell 8
  have f8 : w0.frozen? ⟨w.heap.size + 1, 8, none⟩ = false := BS.out.free 8
  have z9 : w0.cell? ⟨w.heap.size + 1, 9, none⟩ = some (.slice none 0 0) := BS.out.cell 9
  have f9 : w0.frozen? ⟨w.heap.size + 1, 9, none⟩ = false := BS.out.free 9
  have hb0 : w.heap.size < w0.heap.size := by omega
  have hb1 : w.heap.size + 1 < w0.heap.size := by omega
  clear hz0
  by_cases c0 : r.kind = 1
  · have q0 : (r.kind == 1) = true := by simpa using c0
    have V := Lib.hid (show bareR r = ⟨1, r.cart, [], 0, 0, 0, 0, 0, [], []⟩ by unfold bareR; rw [if_pos c0])
    clear c0
    go_wp2_with fail
    refine bodyPost_ret (results_cell_row rfl _ _ (w.heap.size + 1) 37 _ (0, 0) _ rfl (blk_ten BS.out _ _ _ _ _ _ _ _ _ _) Try.underlying37 rfl (by kernel_rfl)) rfl ?_
    rw [V.out]
    exact ⟨none, 0, rfl, BytesIn.empty _ _, below_ten B0.out (by omega) _ _ _ _ _ _ _ _ _ _⟩
  · have q0 : (r.kind == 1) = false := by simpa using c0
    by_cases c1 : r.kind = 2
    · have q1 : (r.kind == 2) = true := by simpa using c1
      have V := Lib.hid (show bareR r = ⟨r.kind, 0, r.key, r.gen, r.group, r.groups, r.index, r.size, r.sum, r.data⟩ by unfold bareR; rw [if_neg c0, if_pos c1])
      clear c0 c1
      go_upto_region 5 with fail
      obtain ⟨w1, hw1⟩ : ∃ z, w0.alloc (.cells #[.int .i64 r.kind, .int .i64 0, strV r.key, .int .i64 r.gen, .int .i64 0, .int .i64 0, .int .i64 0, .int .i64 0, .string ⟨#[]⟩, .slice none 0 0] 37) = z := ⟨_, rfl⟩
      have BT := Lib.hid (show Blk w1 w0.heap.size 37 #[.int .i64 r.kind, .int .i64 0, strV r.key, .int .i64 r.gen, .int .i64 0, .int .i64 0, .int .i64 0, .int .i64 0, .string ⟨#[]⟩, .slice none 0 0] by rw [← hw1]; exact Blk.made _ _ _)
      have BW := Lib.hid (show Below w0.heap.size w0 w1 by rw [← hw1]; exact below_al7 w0 _)
      have BW1 := Lib.hid (show Below w0.heap.size w0 w1 by rw [← hw1]; exact below_al7 w0 _)
      rw [hw1]
      clear hw1
      have n0 : w1.cell? ⟨w0.heap.size, 0, none⟩ = some (.int .i64 r.kind) := BT.out.cell 0
      have m0 : w1.frozen? ⟨w0.heap.size, 0, none⟩ = false := BT.out.free 0
      have n1 : w1.cell? ⟨w0.heap.size, 1, none⟩ = some (.int .i64 0) := BT.out.cell 1
      have m1 : w1.frozen? ⟨w0.heap.size, 1, none⟩ = false := BT.out.free 1
      have n2 : w1.cell? ⟨w0.heap.size, 2, none⟩ = some (strV r.key) := BT.out.cell 2
      have m2 : w1.frozen? ⟨w0.heap.size, 2, none⟩ = false := BT.out.free 2
      have n3 : w1.cell? ⟨w0.heap.size, 3, none⟩ = some (.int .i64 r.gen) := BT.out.cell 3
      have m3 : w1.frozen? ⟨w0.heap.size, 3, none⟩ = false := BT.out.free 3
      have n4 : w1.cell? ⟨w0.heap.size, 4, none⟩ = some (.int .i64 0) := BT.out.cell 4
      have m4 : w1.frozen? ⟨w0.heap.size, 4, none⟩ = false := BT.out.free 4
      have n5 : w1.cell? ⟨w0.heap.size, 5, none⟩ = some (.int .i64 0) := BT.out.cell 5
      have m5 : w1.frozen? ⟨w0.heap.size, 5, none⟩ = false := BT.out.free 5
      have n6 : w1.cell? ⟨w0.heap.size, 6, none⟩ = some (.int .i64 0) := BT.out.cell 6
      have m6 : w1.frozen? ⟨w0.heap.size, 6, none⟩ = false := BT.out.free 6
      have n7 : w1.cell? ⟨w0.heap.size, 7, none⟩ = some (.int .i64 0) := BT.out.cell 7
      have m7 : w1.frozen? ⟨w0.heap.size, 7, none⟩ = false := BT.out.free 7
      have n8 : w1.cell? ⟨w0.heap.size, 8, none⟩ = some (.string ⟨#[]⟩) := BT.out.cell 8
      have m8 : w1.frozen? ⟨w0.heap.size, 8, none⟩ = false := BT.out.free 8
      have n9 : w1.cell? ⟨w0.heap.size, 9, none⟩ = some (.slice none 0 0) := BT.out.cell 9
      have m9 : w1.frozen? ⟨w0.heap.size, 9, none⟩ = false := BT.out.free 9
      have g0 : w1.cell? ⟨w.heap.size, 0, none⟩ = some (.int .i64 r.kind) := keepc BW1.out hb0 x0
      have g1 : w1.cell? ⟨w.heap.size, 1, none⟩ = some (.int .i64 r.cart) := keepc BW1.out hb0 x1
      have g2 : w1.cell? ⟨w.heap.size, 2, none⟩ = some (strV r.key) := keepc BW1.out hb0 x2
      have g3 : w1.cell? ⟨w.heap.size, 3, none⟩ = some (.int .i64 r.gen) := keepc BW1.out hb0 x3
      have g4 : w1.cell? ⟨w.heap.size, 4, none⟩ = some (.int .i64 r.group) := keepc BW1.out hb0 x4
      have g5 : w1.cell? ⟨w.heap.size, 5, none⟩ = some (.int .i64 r.groups) := keepc BW1.out hb0 x5
      have g6 : w1.cell? ⟨w.heap.size, 6, none⟩ = some (.int .i64 r.index) := keepc BW1.out hb0 x6
      have g7 : w1.cell? ⟨w.heap.size, 7, none⟩ = some (.int .i64 r.size) := keepc BW1.out hb0 x7
      have g8 : w1.cell? ⟨w.heap.size, 8, none⟩ = some (strV r.sum) := keepc BW1.out hb0 x8
      have g9 : w1.cell? ⟨w.heap.size, 9, none⟩ = some (.slice A r.data.length c) := keepc BW1.out hb0 x9
      have hne : w0.heap.size ≠ w.heap.size := by omega
      have hne2 : w.heap.size ≠ w0.heap.size := by omega
      refine wp_region_held_drew (S := (fun w' => w'.cell? ⟨w.heap.size, 4, none⟩ = some (.int .i64 r.group) ∧ w'.cell? ⟨w.heap.size, 5, none⟩ = some (.int .i64 r.groups) ∧ w'.cell? ⟨w.heap.size, 6, none⟩ = some (.int .i64 r.index) ∧ w'.cell? ⟨w.heap.size, 7, none⟩ = some (.int .i64 r.size) ∧ w'.cell? ⟨w.heap.size, 8, none⟩ = some (strV r.sum) ∧ w'.cell? ⟨w.heap.size, 9, none⟩ = some (.slice A r.data.length c))) (by kernel_rfl) ⟨g4, g5, g6, g7, g8, g9⟩ (fun hHeld => ?_)
      refine wpAnyH_take (i := 0) (v := ?vU15n10) (take_list rfl) (by kernel_rfl) (by kernel_rfl) (by kernel_rfl) (fun _ _ _ h => h) (Or.inl ⟨by rfl, ?hyU15n10⟩) (by assumption) ?restU15n10
      case hyU15n10 => (intro w hSw; (try dsimp only at hSw); go_simp <;> with_reducible rfl)
      try simp only [Act.put, List.setIfInBounds_toArray, List.set_cons_zero, List.set_cons_succ]
      refine wpAnyH_take (i := 1) (v := ?vU15n11) (take_list rfl) (by kernel_rfl) (by kernel_rfl) (by kernel_rfl) (fun _ _ _ h => h) (Or.inl ⟨by rfl, ?hyU15n11⟩) (by assumption) ?restU15n11
      case hyU15n11 => (intro w hSw; (try dsimp only at hSw); go_simp <;> with_reducible rfl)
      try simp only [Act.put, List.setIfInBounds_toArray, List.set_cons_zero, List.set_cons_succ]
      refine wpAnyH_take (i := 2) (v := ?vU15n12) (take_list rfl) (by kernel_rfl) (by kernel_rfl) (by kernel_rfl) (fun _ _ _ h => h) (Or.inl ⟨by rfl, ?hyU15n12⟩) (by assumption) ?restU15n12
      case hyU15n12 => (intro w hSw; (try dsimp only at hSw); go_simp <;> with_reducible rfl)
      try simp only [Act.put, List.setIfInBounds_toArray, List.set_cons_zero, List.set_cons_succ]
      refine wpAnyH_take (i := 3) (v := ?vU15n13) (take_list rfl) (by kernel_rfl) (by kernel_rfl) (by kernel_rfl) (fun _ _ _ h => h) (Or.inl ⟨by rfl, ?hyU15n13⟩) (by assumption) ?restU15n13
      case hyU15n13 => (intro w hSw; (try dsimp only at hSw); go_simp <;> with_reducible rfl)
      try simp only [Act.put, List.setIfInBounds_toArray, List.set_cons_zero, List.set_cons_succ]
      refine wpAnyH_take (i := 4) (v := ?vU15n14) (take_list rfl) (by kernel_rfl) (by kernel_rfl) (by kernel_rfl) (fun _ _ _ h => h) (Or.inl ⟨by rfl, ?hyU15n14⟩) (by assumption) ?restU15n14
      case hyU15n14 => (intro w hSw; (try dsimp only at hSw); go_simp <;> with_reducible rfl)
      try simp only [Act.put, List.setIfInBounds_toArray, List.set_cons_zero, List.set_cons_succ]
      refine wpAnyH_take (i := 5) (v := ?vU15n15) (take_list rfl) (by kernel_rfl) (by kernel_rfl) (by kernel_rfl) (fun _ _ _ h => h) (Or.inl ⟨by rfl, ?hyU15n15⟩) (by assumption) ?restU15n15
      case hyU15n15 => (intro w hSw; (try dsimp only at hSw); go_simp <;> with_reducible rfl)
      try simp only [Act.put, List.setIfInBounds_toArray, List.set_cons_zero, List.set_cons_succ]
      refine wpAnyH_take (i := 6) (v := ?vU15n16) (take_list rfl) (by kernel_rfl) (by kernel_rfl) (by kernel_rfl) (fun _ _ _ h => h) (Or.inl ⟨by rfl, ?hyU15n16⟩) (by assumption) ?restU15n16
      case hyU15n16 => (intro w hSw; (try dsimp only at hSw); go_simp <;> with_reducible rfl)
      try simp only [Act.put, List.setIfInBounds_toArray, List.set_cons_zero, List.set_cons_succ]
      refine wpAnyH_take (i := 7) (v := ?vU15n17) (take_list rfl) (by kernel_rfl) (by kernel_rfl) (by kernel_rfl) (fun _ _ _ h => h) (Or.inl ⟨by rfl, ?hyU15n17⟩) (by assumption) ?restU15n17
      case hyU15n17 => (intro w hSw; (try dsimp only at hSw); go_simp <;> with_reducible rfl)
      try simp only [Act.put, List.setIfInBounds_toArray, List.set_cons_zero, List.set_cons_succ]
      refine wpAnyH_take (i := 8) (v := ?vU15n18) (take_list rfl) (by kernel_rfl) (by kernel_rfl) (by kernel_rfl) (fun _ _ _ h => h) (Or.inl ⟨by rfl, ?hyU15n18⟩) (by assumption) ?restU15n18
      case hyU15n18 => (intro w hSw; (try dsimp only at hSw); go_simp <;> with_reducible rfl)
      try simp only [Act.put, List.setIfInBounds_toArray, List.set_cons_zero, List.set_cons_succ]
      refine wpAnyH_take (i := 9) (v := ?vU15n19) (take_list rfl) (by kernel_rfl) (by kernel_rfl) (by kernel_rfl) (fun _ _ _ h => h) (Or.inl ⟨by rfl, ?hyU15n19⟩) (by assumption) ?restU15n19
      case hyU15n19 => (intro w hSw; (try dsimp only at hSw); go_simp <;> with_reducible rfl)
      try simp only [Act.put, List.setIfInBounds_toArray, List.set_cons_zero, List.set_cons_succ]
      refine wpAnyH_take (i := 10) (v := ?vU15n110) (take_list rfl) (by kernel_rfl) (by kernel_rfl) (by kernel_rfl) (fun _ _ _ h => h) (Or.inl ⟨by rfl, ?hyU15n110⟩) (by assumption) ?restU15n110
      case hyU15n110 => (intro w hSw; (try dsimp only at hSw); go_simp <;> with_reducible rfl)
      try simp only [Act.put, List.setIfInBounds_toArray, List.set_cons_zero, List.set_cons_succ]
      refine wpAnyH_take (i := 11) (v := ?vU15n111) (take_list rfl) (by kernel_rfl) (by kernel_rfl) (by kernel_rfl) (fun _ _ _ h => h) (Or.inl ⟨by rfl, ?hyU15n111⟩) (by assumption) ?restU15n111
      case hyU15n111 => (intro w hSw; (try dsimp only at hSw); go_simp <;> with_reducible rfl)
      try simp only [Act.put, List.setIfInBounds_toArray, List.set_cons_zero, List.set_cons_succ]
      refine wpAnyH_take (i := 12) (v := ?vU15n112) (take_list rfl) (by kernel_rfl) (by kernel_rfl) (by kernel_rfl) (fun _ _ _ h => h) (Or.inl ⟨by rfl, ?hyU15n112⟩) (by assumption) ?restU15n112
      case hyU15n112 => (intro w hSw; (try dsimp only at hSw); go_simp <;> with_reducible rfl)
      try simp only [Act.put, List.setIfInBounds_toArray, List.set_cons_zero, List.set_cons_succ]
      refine wpAnyH_ready (rs := [13]) (by kernel_rfl) (by simp) ?_
      refine AllReadyH.cons rfl (fun K hK => ?_) AllReadyH.nil
      (go_simp; generalize hwz : World.setCell _ _ _ = wz; have BW := Lib.hid (bel_set hwz BW.out (Nat.le_refl _)); have BT := Lib.hid (blk_set hwz BT.out); simp only [List.setIfInBounds_toArray, List.set_cons_zero, List.set_cons_succ] at BT; have n5 : wz.cell? ⟨w0.heap.size, 5, none⟩ = some (.int .i64 0) := BT.out.cell 5; have m5 : wz.frozen? ⟨w0.heap.size, 5, none⟩ = false := BT.out.free 5; clear hwz)
      clear hHeld
      refine hK.out _ _ ⟨(have h := keepc BW.out hb0 x4; h), (have h := keepc BW.out hb0 x5; h), (have h := keepc BW.out hb0 x6; h), (have h := keepc BW.out hb0 x7; h), (have h := keepc BW.out hb0 x8; h), (have h := keepc BW.out hb0 x9; h)⟩ (fun hHeld => ?_)
      clear hK K
      refine wpAnyH_take (i := 14) (v := ?vU15n114) (take_list rfl) (by kernel_rfl) (by kernel_rfl) (by kernel_rfl) (fun _ _ _ h => h) (Or.inl ⟨by rfl, ?hyU15n114⟩) (by assumption) ?restU15n114
      case hyU15n114 => (intro w hSw; (try dsimp only at hSw); go_simp <;> with_reducible rfl)
      refine wpAnyH_ready (rs := [15]) (by kernel_rfl) (by simp) ?_
      refine AllReadyH.cons rfl (fun K hK => ?_) AllReadyH.nil
      (go_simp; generalize hwz : World.setCell _ _ _ = wz; have BW := Lib.hid (bel_set hwz BW.out (Nat.le_refl _)); have BT := Lib.hid (blk_set hwz BT.out); simp only [List.setIfInBounds_toArray, List.set_cons_zero, List.set_cons_succ] at BT; have n6 : wz.cell? ⟨w0.heap.size, 6, none⟩ = some (.int .i64 0) := BT.out.cell 6; have m6 : wz.frozen? ⟨w0.heap.size, 6, none⟩ = false := BT.out.free 6; clear hwz)
      clear hHeld
      refine hK.out _ _ ⟨(have h := keepc BW.out hb0 x4; h), (have h := keepc BW.out hb0 x5; h), (have h := keepc BW.out hb0 x6; h), (have h := keepc BW.out hb0 x7; h), (have h := keepc BW.out hb0 x8; h), (have h := keepc BW.out hb0 x9; h)⟩ (fun hHeld => ?_)
      clear hK K
      refine wpAnyH_take (i := 16) (v := ?vU15n116) (take_list rfl) (by kernel_rfl) (by kernel_rfl) (by kernel_rfl) (fun _ _ _ h => h) (Or.inl ⟨by rfl, ?hyU15n116⟩) (by assumption) ?restU15n116
      case hyU15n116 => (intro w hSw; (try dsimp only at hSw); go_simp <;> with_reducible rfl)
      refine wpAnyH_ready (rs := [17]) (by kernel_rfl) (by simp) ?_
      refine AllReadyH.cons rfl (fun K hK => ?_) AllReadyH.nil
      (go_simp; generalize hwz : World.setCell _ _ _ = wz; have BW := Lib.hid (bel_set hwz BW.out (Nat.le_refl _)); have BT := Lib.hid (blk_set hwz BT.out); simp only [List.setIfInBounds_toArray, List.set_cons_zero, List.set_cons_succ] at BT; have n7 : wz.cell? ⟨w0.heap.size, 7, none⟩ = some (.int .i64 0) := BT.out.cell 7; have m7 : wz.frozen? ⟨w0.heap.size, 7, none⟩ = false := BT.out.free 7; clear hwz)
      clear hHeld
      refine hK.out _ _ ⟨(have h := keepc BW.out hb0 x4; h), (have h := keepc BW.out hb0 x5; h), (have h := keepc BW.out hb0 x6; h), (have h := keepc BW.out hb0 x7; h), (have h := keepc BW.out hb0 x8; h), (have h := keepc BW.out hb0 x9; h)⟩ (fun hHeld => ?_)
      clear hK K
      refine wpAnyH_take (i := 18) (v := ?vU15n118) (take_list rfl) (by kernel_rfl) (by kernel_rfl) (by kernel_rfl) (fun _ _ _ h => h) (Or.inl ⟨by rfl, ?hyU15n118⟩) (by assumption) ?restU15n118
      case hyU15n118 => (intro w hSw; (try dsimp only at hSw); go_simp <;> with_reducible rfl)
      refine wpAnyH_ready (rs := [19]) (by kernel_rfl) (by simp) ?_
      refine AllReadyH.cons rfl (fun K hK => ?_) AllReadyH.nil
      (go_simp; generalize hwz : World.setCell _ _ _ = wz; have BW := Lib.hid (bel_set hwz BW.out (Nat.le_refl _)); have BT := Lib.hid (blk_set hwz BT.out); simp only [List.setIfInBounds_toArray, List.set_cons_zero, List.set_cons_succ] at BT; have n8 : wz.cell? ⟨w0.heap.size, 8, none⟩ = some (.string ⟨#[]⟩) := BT.out.cell 8; have m8 : wz.frozen? ⟨w0.heap.size, 8, none⟩ = false := BT.out.free 8; clear hwz)
      clear hHeld
      refine hK.out _ _ ⟨(have h := keepc BW.out hb0 x4; h), (have h := keepc BW.out hb0 x5; h), (have h := keepc BW.out hb0 x6; h), (have h := keepc BW.out hb0 x7; h), (have h := keepc BW.out hb0 x8; h), (have h := keepc BW.out hb0 x9; h)⟩ (fun hHeld => ?_)
      clear hK K
      refine wpAnyH_take (i := 20) (v := ?vU15n120) (take_list rfl) (by kernel_rfl) (by kernel_rfl) (by kernel_rfl) (fun _ _ _ h => h) (Or.inl ⟨by rfl, ?hyU15n120⟩) (by assumption) ?restU15n120
      case hyU15n120 => (intro w hSw; (try dsimp only at hSw); go_simp <;> with_reducible rfl)
      refine wpAnyH_ready (rs := [21]) (by kernel_rfl) (by simp) ?_
      refine AllReadyH.cons rfl (fun K hK => ?_) AllReadyH.nil
      (go_simp; generalize hwz : World.setCell _ _ _ = wz; have BW := Lib.hid (bel_set hwz BW.out (Nat.le_refl _)); have BT := Lib.hid (blk_set hwz BT.out); simp only [List.setIfInBounds_toArray, List.set_cons_zero, List.set_cons_succ] at BT; have n9 : wz.cell? ⟨w0.heap.size, 9, none⟩ = some (.slice none 0 0) := BT.out.cell 9; have m9 : wz.frozen? ⟨w0.heap.size, 9, none⟩ = false := BT.out.free 9; clear hwz)
      clear hHeld
      refine hK.out _ _ ⟨(have h := keepc BW.out hb0 x4; h), (have h := keepc BW.out hb0 x5; h), (have h := keepc BW.out hb0 x6; h), (have h := keepc BW.out hb0 x7; h), (have h := keepc BW.out hb0 x8; h), (have h := keepc BW.out hb0 x9; h)⟩ (fun hHeld => ?_)
      clear hK K
      refine wpAnyH_take (i := 22) (v := ?vU15n122) (take_list rfl) (by kernel_rfl) (by kernel_rfl) (by kernel_rfl) (fun _ _ _ h => h) (Or.inl ⟨by rfl, ?hyU15n122⟩) (by assumption) ?restU15n122
      case hyU15n122 => (intro w hSw; (try dsimp only at hSw); go_simp <;> with_reducible rfl)
      refine wpAnyH_ready (rs := [23]) (by kernel_rfl) (by simp) ?_
      refine AllReadyH.cons rfl (fun K hK => ?_) AllReadyH.nil
      (go_simp; generalize hwz : World.setCell _ _ _ = wz; have BW := Lib.hid (bel_set hwz BW.out (Nat.le_refl _)); have BT := Lib.hid (blk_set hwz BT.out); simp only [List.setIfInBounds_toArray, List.set_cons_zero, List.set_cons_succ] at BT; clear hwz)
      clear hHeld
      refine hK.out _ _ ⟨(have h := keepc BW.out hb0 x4; h), (have h := keepc BW.out hb0 x5; h), (have h := keepc BW.out hb0 x6; h), (have h := keepc BW.out hb0 x7; h), (have h := keepc BW.out hb0 x8; h), (have h := keepc BW.out hb0 x9; h)⟩ (fun hHeld => ?_)
      clear hK K
      refine wpAnyH_done (by kernel_rfl) ?_ _
      generalize hwy : World.drew _ = wy
      have BW := Lib.hid (show Below w0.heap.size w0 wy from hwy ▸ BW.out.drew)
      have BT := Lib.hid (show Blk wy w0.heap.size 37 #[.int .i64 r.kind, .int .i64 0, strV r.key, .int .i64 r.gen, .int .i64 r.group, .int .i64 r.groups, .int .i64 r.index, .int .i64 r.size, strV r.sum, .slice A r.data.length c] from hwy ▸ (show Blk wz.drew _ _ _ from BT.out))
      clear hwy
      have hzb := BW.out.size
      have n0 : wy.cell? ⟨w0.heap.size, 0, none⟩ = some (.int .i64 r.kind) := BT.out.cell 0
      have n1 : wy.cell? ⟨w0.heap.size, 1, none⟩ = some (.int .i64 0) := BT.out.cell 1
      have n2 : wy.cell? ⟨w0.heap.size, 2, none⟩ = some (strV r.key) := BT.out.cell 2
      have n3 : wy.cell? ⟨w0.heap.size, 3, none⟩ = some (.int .i64 r.gen) := BT.out.cell 3
      have n4 : wy.cell? ⟨w0.heap.size, 4, none⟩ = some (.int .i64 r.group) := BT.out.cell 4
      have n5 : wy.cell? ⟨w0.heap.size, 5, none⟩ = some (.int .i64 r.groups) := BT.out.cell 5
      have n6 : wy.cell? ⟨w0.heap.size, 6, none⟩ = some (.int .i64 r.index) := BT.out.cell 6
      have n7 : wy.cell? ⟨w0.heap.size, 7, none⟩ = some (.int .i64 r.size) := BT.out.cell 7
      have n8 : wy.cell? ⟨w0.heap.size, 8, none⟩ = some (strV r.sum) := BT.out.cell 8
      have n9 : wy.cell? ⟨w0.heap.size, 9, none⟩ = some (.slice A r.data.length c) := BT.out.cell 9
      have BS6 := Lib.hid (BS.out.below BW.out hb1)
      have z0 : wy.cell? ⟨w.heap.size + 1, 0, none⟩ = some (.int .i64 0) := BS6.out.cell 0
      have f0 : wy.frozen? ⟨w.heap.size + 1, 0, none⟩ = false := BS6.out.free 0
      have z1 : wy.cell? ⟨w.heap.size + 1, 1, none⟩ = some (.int .i64 0) := BS6.out.cell 1
      have f1 : wy.frozen? ⟨w.heap.size + 1, 1, none⟩ = false := BS6.out.free 1
      have z2 : wy.cell? ⟨w.heap.size + 1, 2, none⟩ = some (.string ⟨#[]⟩) := BS6.out.cell 2
      have f2 : wy.frozen? ⟨w.heap.size + 1, 2, none⟩ = false := BS6.out.free 2
      have z3 : wy.cell? ⟨w.heap.size + 1, 3, none⟩ = some (.int .i64 0) := BS6.out.cell 3
      have f3 : wy.frozen? ⟨w.heap.size + 1, 3, none⟩ = false := BS6.out.free 3
      have z4 : wy.cell? ⟨w.heap.size + 1, 4, none⟩ = some (.int .i64 0) := BS6.out.cell 4
      have f4 : wy.frozen? ⟨w.heap.size + 1, 4, none⟩ = false := BS6.out.free 4
      have z5 : wy.cell? ⟨w.heap.size + 1, 5, none⟩ = some (.int .i64 0) := BS6.out.cell 5
      have f5 : wy.frozen? ⟨w.heap.size + 1, 5, none⟩ = false := BS6.out.free 5
      have z6 : wy.cell? ⟨w.heap.size + 1, 6, none⟩ = some (.int .i64 0) := BS6.out.cell 6
      have f6 : wy.frozen? ⟨w.heap.size + 1, 6, none⟩ = false := BS6.out.free 6
      have z7 : wy.cell? ⟨w.heap.size + 1, 7, none⟩ = some (.int .i64 0) := BS6.out.cell 7
      have f7 : wy.frozen? ⟨w.heap.size + 1, 7, none⟩ = false := BS6.out.free 7
      have z8 : wy.cell? ⟨w.heap.size + 1, 8, none⟩ = some (.string ⟨#[]⟩) := BS6.out.cell 8
      have f8 : wy.frozen? ⟨w.heap.size + 1, 8, none⟩ = false := BS6.out.free 8
      have z9 : wy.cell? ⟨w.heap.size + 1, 9, none⟩ = some (.slice none 0 0) := BS6.out.cell 9
      have f9 : wy.frozen? ⟨w.heap.size + 1, 9, none⟩ = false := BS6.out.free 9
      have B6 := Lib.hid (show Below w.heap.size w wy from B0.out.trans (BW.out.mono (by omega)))
      have hb6 : w.heap.size + 1 < wy.heap.size := BS6.out.size
      have hb7 : w0.heap.size < wy.heap.size := BT.out.size
      clear g0 x0 g1 x1 g2 x2 g3 x3 g4 x4 g5 x5 g6 x6 g7 x7 g8 x8 g9 x9 m0 m1 m2 m3 m4 m5 m6 m7 m8 m9
      go_wp2_with fail
      refine bodyPost_ret (results_cell_row rfl _ _ (w.heap.size + 1) 37 _ (0, 0) _ rfl (blk_ten BS6.out _ _ _ _ _ _ _ _ _ _) Try.underlying37 rfl (by kernel_rfl)) rfl ?_
      rw [V.out]
      exact ⟨A, c, rfl, HA.out.belowU (below_ten B6.out (by omega) _ _ _ _ _ _ _ _ _ _), below_ten B6.out (by omega) _ _ _ _ _ _ _ _ _ _⟩
    · have q1 : (r.kind == 2) = false := by simpa using c1
      have V := Lib.hid (show bareR r = ⟨r.kind, 0, r.key, r.gen, 0, 0, 0, 0, [], []⟩ by unfold bareR; rw [if_neg c0, if_neg c1])
      clear c0 c1
      go_wp2_with fail
      refine bodyPost_ret (results_cell_row rfl _ _ (w.heap.size + 1) 37 _ (0, 0) _ rfl ((blk_ten BS.out _ _ _ _ _ _ _ _ _ _).alloc _) Try.underlying37 rfl (by kernel_rfl)) rfl ?_
      rw [V.out]
      exact ⟨none, 0, rfl, BytesIn.empty _ _, (below_ten B0.out (by omega) _ _ _ _ _ _ _ _ _ _).alloc (by simp; omega) _⟩
end Go.Proofs.Ythceidacmeadkaa
