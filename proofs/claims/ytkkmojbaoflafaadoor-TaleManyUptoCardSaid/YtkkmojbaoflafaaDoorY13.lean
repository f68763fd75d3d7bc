/- The fixed fact of the scripts' laws. No condition beyond those that each theorem states. -/
import Derived.Test.YtkkmojbaoflafaaDoorY12
namespace Go.Proofs.YtkkmojbaoflafaaDoor
open Go.RowKit Go.Shelf
attribute [local go_sem] Oper.semAt_some

theorem aw_l1 : lineT ⟨1, 0, 0, [97, 98], [7]⟩ = some [112, 117, 116, 32, 120, 54, 49, 54, 50, 32, 120, 48, 55] := by decide
theorem aw_i3 : Lib.itoa 3 = [51] := by simp [Lib.itoa, Lib.decDigits]
theorem aw_im : Lib.itoa (-1) = [45, 49] := by simp [Lib.itoa, Lib.decDigits]
theorem aw_l2 : lineT ⟨17, 3, -1, [], []⟩ = some [99, 114, 97, 115, 104, 32, 51, 32, 45, 49] := by
  show some ([99, 114, 97, 115, 104] ++ tailT ⟨17, 3, -1, [], []⟩ [97, 98]) = _
  simp [tailT, partT, aw_i3, aw_im]
theorem aw_l3 : lineT ⟨6, 1, 0, [], []⟩ = none := by decide
theorem aw_s1 : stepT [112, 117, 116, 32, 120, 54, 49, 32, 120] = some ⟨1, 0, 0, [97], []⟩ := by rfl
theorem aw_r1 : readT [116, 105, 99, 107, 10, 116, 105, 99, 107] = .ok [⟨6, 0, 0, [], []⟩, ⟨6, 0, 0, [], []⟩] := by rfl
theorem aw_r2 : readT [116, 105, 99, 107, 10, 116, 105, 99, 107, 32, 49, 10] = .bad 2 := by rfl
theorem lit_bytes (W : World) (l : List UInt8) : BytesIn (W.alloc (.cells (byteVals l).toArray 5)) (some ⟨W.heap.size, 0, none⟩) l.length l :=
  ⟨rfl, .inr ⟨_, 0, rfl, by simp, fun i u hu => by
    rw [Nat.zero_add, (Blk.made W 5 (byteVals l).toArray).cell i]
    simp only [List.getElem?_toArray, byteVals_get, hu]
    rfl⟩⟩
theorem wf_small {n : Int} (h : -100 ≤ n ∧ n ≤ 100) : Wf64 n := ⟨by omega, by omega⟩
set_option maxHeartbeats 4000000 in
set_option maxRecDepth 100000 in
theorem tAwake (w : World) (he : Env w) : Calls Tryd.prog 11 #[] w fun e w' => e = .returned (.bool true) ∧ Below w.heap.size w w' := by
  have HE := Lib.hid he
  clear he
  have L1 := Lib.hid (tLine ⟨1, 0, 0, [97, 98], [7]⟩ (some ⟨w.heap.size, 0, none⟩) 1 (w.alloc (.cells #[.int .u8 7] 5)) (lit_bytes w [7]) (wf_small (by decide)) (wf_small (by decide)) (HE.out.below ((Below.refl _ w).alloc (Nat.le_refl _) _)) (by decide))
  go_enter Tryd.func11, Tryd.ntmps11
  go_upto_region 1 with fail
  go_wp2_with fail
  refine L1.out.mono ?_
  rw [aw_l1]
  rintro e w1 ⟨rfl, hb1⟩
  have B1 := Lib.hid (show Below w.heap.size w w1 from ((Below.refl _ w).alloc (Nat.le_refl _) (.cells #[.int .u8 7] 5)).trans (hb1.mono (by simp)))
  clear hb1 L1
  unfold lineV strV
  have L2 := Lib.hid (tLine ⟨17, 3, -1, [], []⟩ none 0 w1 (BytesIn.empty _ _) (wf_small (by decide)) (wf_small (by decide)) (HE.out.below B1.out) (by decide))
  go_upto_region 3 with (
    refine L2.out.mono ?_
    rw [aw_l2]
    rintro e w2 ⟨rfl, hb2⟩
    have B2 := Lib.hid (show Below w.heap.size w w2 from B1.out.trans (hb2.mono B1.out.size))
    clear hb2
    unfold lineV strV)
  have L3 := Lib.hid (tLine ⟨6, 1, 0, [], []⟩ none 0 w2 (BytesIn.empty _ _) (wf_small (by decide)) (wf_small (by decide)) (HE.out.below B2.out) (by decide))
  go_upto_region 4 with (
    refine L3.out.mono ?_
    rw [aw_l3]
    rintro e w3 ⟨rfl, hb3⟩
    have B3 := Lib.hid (show Below w.heap.size w w3 from B2.out.trans (hb3.mono B2.out.size))
    clear hb3
    unfold lineV strV)
  clear L2 L3
  have L4 := Lib.hid (tStep [112, 117, 116, 32, 120, 54, 49, 32, 120] w3 (HE.out.below B3.out) (by decide))
  go_upto_region 5 with (
    refine L4.out.mono ?_
    rw [aw_s1]
    rintro e w4 ⟨⟨A, c, rfl, hd, _⟩, hb4⟩
    have B4 := Lib.hid (show Below w.heap.size w w4 from B3.out.trans (hb4.mono B3.out.size))
    clear hb4 hd
    unfold stepV strV)
  obtain ⟨w5, hw5⟩ : ∃ x, w4.alloc (.cells #[.int .i64 1, .int .i64 0, .int .i64 0, .string ⟨#[97]⟩, .slice A 0 c] 24) = x := ⟨_, rfl⟩
  have B5 := Lib.hid (show Below w.heap.size w w5 by rw [← hw5]; exact B4.out.alloc B4.out.size _)
  have X5 := Lib.hid (show Blk w5 w4.heap.size 24 #[.int .i64 1, .int .i64 0, .int .i64 0, .string ⟨#[97]⟩, .slice A 0 c] by rw [← hw5]; exact Blk.made _ _ _)
  rw [hw5]
  clear hw5
  have L5 := Lib.hid (tRead [116, 105, 99, 107, 10, 116, 105, 99, 107] w5 (HE.out.below B5.out) (by decide))
  go_upto_region 6 with (
    refine L5.out.mono ?_
    rw [aw_r1]
    rintro e w6 ⟨⟨v, rfl, PL, hPL, hrow, _⟩, hb6⟩
    have B6 := Lib.hid (show Below w.heap.size w w6 from B5.out.trans (hb6.mono B5.out.size))
    have X6 := Lib.hid (X5.out.below hb6 X5.out.size)
    obtain ⟨B, cc, rfl⟩ := own_form hrow
    clear hb6 hPL hrow)
  have L6 := Lib.hid (tRead [116, 105, 99, 107, 10, 116, 105, 99, 107, 32, 49, 10] w6 (HE.out.below B6.out) (by decide))
  go_upto_region 7 with (
    refine L6.out.mono ?_
    rw [aw_r2]
    rintro e w7 ⟨rfl, hb7⟩
    have B7 := Lib.hid (show Below w.heap.size w w7 from B6.out.trans (hb7.mono B6.out.size))
    have X7 := Lib.hid (X6.out.below hb7 X6.out.size)
    clear hb7)
  have k0 : w7.cell? ⟨w4.heap.size, 0, none⟩ = some (.int .i64 1) := X7.out.cell 0
  have k3 : w7.cell? ⟨w4.heap.size, 3, none⟩ = some (.string ⟨#[97]⟩) := X7.out.cell 3
  have k4 : w7.cell? ⟨w4.heap.size, 4, none⟩ = some (.slice A 0 c) := X7.out.cell 4
  go_wp2_with fail
  go_ret
  exact ⟨rfl, B7.out⟩
end Go.Proofs.YtkkmojbaoflafaaDoor
