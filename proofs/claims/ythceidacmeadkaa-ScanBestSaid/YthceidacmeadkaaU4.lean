/- The document's order of entries. No condition beyond those that each theorem states. -/
import Derived.Test.YthceidacmeadkaaU3
namespace Go.Proofs.Ythceidacmeadkaa
open Go.RowKit Go.Maps Go.WideMaps Go.Sort Go.Shelf
attribute [local go_sem] Oper.semAt_some

def entV5 (b : BlobV) (g k c : Nat) : Array Value := #[strV b.key, .int .i64 b.gen, .int .i64 b.size, strV b.sum, .slice (some ⟨g, 0, none⟩) k c]
def PlcAt (w : World) (g : Nat) (ps : List (Int × Int)) : Prop := g < w.heap.size ∧ ∀ i u, (placeVals ps)[i]? = some u → w.cell? ⟨g, i, none⟩ = some u
theorem PlcAt.below {w w' : World} {g : Nat} {ps : List (Int × Int)} (h : PlcAt w g ps) (hb : Below w.heap.size w w') : PlcAt w' g ps := ⟨Nat.lt_of_lt_of_le h.1 hb.size, fun i u hu => keepc hb h.1 (h.2 i u hu)⟩
set_option maxHeartbeats 8000000
set_option maxRecDepth 100000
theorem sPoorest10 (b : BlobV) (g k c q : Nat) (ps : List (Int × Int)) (w : World) (hps : ps.length = k) (hk : k = q * 10) (hq : q ≤ 1000) (hB : PlcAt w g ps) :
    Calls Try.prog 29 #[.agg (entV5 b g k c)] w fun e w' => e = .returned (.int .i64 (poorV ps)) ∧ Below w.heap.size w w' := by
  have hPV : poorV ps = poorL ps (List.range q) := by unfold poorV; rw [hps, hk, Nat.mul_div_cancel _ (by omega)]
  rw [hPV]
  clear hPV
  have HPS := Lib.hid hps
  have HK := Lib.hid hk
  have hk5 : k ≤ 10000 := by omega
  have PB := Lib.hid hB
  clear hps hk hB
  unfold entV5
  obtain ⟨w0, hw0⟩ : ∃ z, w.alloc (.cells #[strV b.key, .int .i64 b.gen, .int .i64 b.size, strV b.sum, .slice (some ⟨g, 0, none⟩) k c] 32) = z := ⟨_, rfl⟩
  have BX := Lib.hid (show Blk w0 w.heap.size 32 #[strV b.key, .int .i64 b.gen, .int .i64 b.size, strV b.sum, .slice (some ⟨g, 0, none⟩) k c] by rw [← hw0]; exact Blk.made _ _ _)
  have B0 := Lib.hid (show Below w.heap.size w w0 by rw [← hw0]; exact below_al7 w _)
  have hz0 := BX.out.size
  have P0 := Lib.hid (PB.out.below B0.out)
  clear PB
  go_enter Try.func29, Try.ntmps29
  go_upto_region 1 with fail
  clear hw0
  go_wp2_with fail
  go_loopw [3, 4] (fun lv gv wr => ∃ (j o : Nat), gv = .int .i64 (o : Int) ∧ o = j * 10 ∧ lv = .int .i64 (poorL ps (List.range j)) ∧ j ≤ q ∧ Below w0.heap.size w0 wr) (fun _ gv _ => k - (intOf gv).toNat)
  case atStart => exact ⟨0, 0, rfl, rfl, rfl, Nat.zero_le _, Below.refl _ _⟩
  obtain ⟨j, o, rfl, ho, rfl, hj, hbl⟩ := hrel
  obtain ⟨wo, rfl⟩ : ∃ wo : World, wo = wr := ⟨_, rfl⟩
  have BL := Lib.hid hbl
  have HO := Lib.hid ho
  have hzo := hbl.size
  have ho5 : o ≤ 10000 := by omega
  have x4 : wo.cell? ⟨w.heap.size, 4, none⟩ = some (.slice (some ⟨g, 0, none⟩) k c) := keepc hbl hz0 (BX.out.cell 4)
  have P1 := Lib.hid (P0.out.below hbl)
  have hgo : g < wo.heap.size := P1.out.1
  have p1 : IntKind.i64.wrap ((o : Int) + 10) = ((o + 10 : Nat) : Int) := by rw [IntWalk.i64_in _ (by omega)]; omega
  obtain ⟨lp, hlp⟩ : ∃ z, poorL ps (List.range j) = z := ⟨_, rfl⟩
  have HLP := Lib.hid hlp
  rw [hlp]
  clear hbl ho hlp
  by_cases hlt : j < q
  case neg =>
    have hjq : j = q := by omega
    have hok : ¬ o + 10 ≤ k := by have := HO.out; have := HK.out; omega
    have e1 : decide (o + 10 ≤ k) = false := decide_eq_false hok
    have e2 : decide (((o + 10 : Nat) : Int) ≤ (k : Int)) = false := decide_eq_false (by omega)
    have e3 : decide ((o : Int) + 10 ≤ (k : Int)) = false := decide_eq_false (by omega)
    have V := Lib.hid (show lp = poorL ps (List.range q) by rw [← HLP.out, hjq])
    clear hjq hok
    go_wp2_with fail
    go_ret
    rw [← V.out]
    exact ⟨rfl, B0.out.trans (BL.out.mono (by omega))⟩
  have hok : o + 10 ≤ k := by have := HO.out; have := HK.out; omega
  have e1 : decide (o + 10 ≤ k) = true := decide_eq_true hok
  have e2 : decide (((o + 10 : Nat) : Int) ≤ (k : Int)) = true := decide_eq_true (by omega)
  have e3 : decide ((o : Int) + 10 ≤ (k : Int)) = true := decide_eq_true (by omega)
  go_wp2_with fail
  go_loopw [5, 6] (fun nv iv wr => ∃ i m : Nat, iv = .int .i64 ((o + i : Nat) : Int) ∧ nv = .int .i64 (m : Int) ∧ i ≤ 10 ∧ m = cntTo ps j i ∧ Below wo.heap.size wo wr) (fun _ iv _ => o + 10 - (intOf iv).toNat)
  case atStart => exact ⟨0, 0, rfl, rfl, Nat.zero_le _, rfl, Below.refl _ _⟩
  obtain ⟨i, m, rfl, rfl, hi, hm, hb2⟩ := hrel
  obtain ⟨wp, rfl⟩ : ∃ wp : World, wp = wr := ⟨_, rfl⟩
  have BP := Lib.hid hb2
  have HM := Lib.hid hm
  have hm10 : m ≤ 10 := by rw [hm]; unfold cntTo; exact Nat.le_trans List.countP_le_length (by rw [List.length_take]; omega)
  have x4 := keepc hb2 (by omega) x4
  obtain ⟨s, hs⟩ : ∃ s, o + i = s := ⟨_, rfl⟩
  have HS := Lib.hid hs
  have hs10 : s ≤ o + 10 := by omega
  have P2 := Lib.hid (P1.out.below hb2)
  have hzp := hb2.size
  rw [hs]
  have p3 : IntKind.i64.wrap ((s : Int) + 1) = ((s + 1 : Nat) : Int) := by rw [IntWalk.i64_in _ (by omega)]; omega
  have p4 : IntKind.i64.wrap ((m : Int) + 1) = ((m + 1 : Nat) : Int) := by rw [IntWalk.i64_in _ (by omega)]; omega
  clear hm hb2 hs
  by_cases hli : s < o + 10
  case neg =>
    have f1 : decide (s < o + 10) = false := decide_eq_false hli
    have f2 : decide ((s : Int) < ((o + 10 : Nat) : Int)) = false := decide_eq_false (by omega)
    have f3 : decide ((s : Int) < (o : Int) + 10) = false := decide_eq_false (by omega)
    have HN := Lib.hid (show poorL ps (List.range (j + 1)) = min lp (m : Int) by rw [List.range_succ, poor_snoc, HLP.out, HM.out, show i = 10 by have := HS.out; omega])
    have HO2 := Lib.hid (show o + 10 = (j + 1) * 10 by have := HO.out; omega)
    by_cases hml : (m : Int) < lp
    · have g1 : decide ((m : Int) < lp) = true := decide_eq_true hml
      have HN2 := Lib.hid (show (m : Int) = poorL ps (List.range (j + 1)) by rw [HN.out]; omega)
      clear hml
      go_wp2_with fail
      go_roundw
      case rel => exact ⟨j + 1, o + 10, rfl, HO2.out, by rw [HN2.out], hlt, BL.out.trans (BP.out.mono hzo)⟩
      case measure => (simp only [intOf]; omega)
    · have g1 : decide ((m : Int) < lp) = false := decide_eq_false hml
      have HN2 := Lib.hid (show lp = poorL ps (List.range (j + 1)) by rw [HN.out]; omega)
      clear hml
      go_wp2_with fail
      go_roundw
      case rel => exact ⟨j + 1, o + 10, rfl, HO2.out, by rw [← HN2.out], hlt, BL.out.trans (BP.out.mono hzo)⟩
      case measure => (simp only [intOf]; omega)
  have f1 : decide (s < o + 10) = true := decide_eq_true hli
  have f2 : decide ((s : Int) < ((o + 10 : Nat) : Int)) = true := decide_eq_true (by omega)
  have f3 : decide ((s : Int) < (o : Int) + 10) = true := decide_eq_true (by omega)
  have f4 : (0 : Int) ≤ (s : Int) := by omega
  have f5 : (s : Int) < (k : Int) := by omega
  obtain ⟨⟨x, y⟩, hxy⟩ : ∃ z, ps[s]? = some z := ⟨_, List.getElem?_eq_getElem (by rw [HPS.out]; omega)⟩
  have v0 : wp.cell? ⟨g, s * 2, none⟩ = some (.int .i64 x) := P2.out.2 _ _ (placeVals_get hxy).1
  have v1 : wp.cell? ⟨g, s * 2 + 1, none⟩ = some (.int .i64 y) := P2.out.2 _ _ (placeVals_get hxy).2
  have CS := Lib.hid (show cntTo ps j (i + 1) = m + (if thereP (x, y) then 1 else 0) by rw [HM.out]; exact cnt_succ (by rw [← HO.out, HS.out]; exact hxy))
  have HS2 := Lib.hid (show o + (i + 1) = s + 1 by have := HS.out; omega)
  have hi10 : i + 1 ≤ 10 := by have := HS.out; omega
  clear hxy
  by_cases hx0 : x = 0
  · by_cases hy0 : y = 1024
    · have q0 : (x != 0) = false := by simpa using hx0
      have q1 : (y != 1024) = false := by simpa using hy0
      have CS2 := Lib.hid (show m = cntTo ps j (i + 1) by rw [CS.out]; simp [thereP, hx0, hy0])
      clear hx0 hy0
      go_wp2_with fail
      go_roundw
      case rel => exact ⟨i + 1, m, by rw [HS2.out]; rfl, rfl, hi10, CS2.out, BP.out⟩
      case measure => (simp only [intOf]; omega)
    · have q0 : (x != 0) = false := by simpa using hx0
      have q1 : (y != 1024) = true := by simpa using hy0
      have CS2 := Lib.hid (show m + 1 = cntTo ps j (i + 1) by rw [CS.out]; simp [thereP, hy0])
      clear hx0 hy0
      go_wp2_with fail
      go_roundw
      case rel => exact ⟨i + 1, m + 1, by rw [HS2.out]; rfl, rfl, hi10, CS2.out, BP.out⟩
      case measure => (simp only [intOf]; omega)
  · have q0 : (x != 0) = true := by simpa using hx0
    have CS2 := Lib.hid (show m + 1 = cntTo ps j (i + 1) by rw [CS.out]; simp [thereP, hx0])
    clear hx0
    go_wp2_with fail
    go_roundw
    case rel => exact ⟨i + 1, m + 1, by rw [HS2.out]; rfl, rfl, hi10, CS2.out, BP.out⟩
    case measure => (simp only [intOf]; omega)
def aheadV (x : BlobV) (lx : Int) (y : BlobV) (ly : Int) : Bool := if lx ≠ ly then decide (ly < lx) else if x.gen ≠ y.gen then decide (y.gen < x.gen) else if x.size ≠ y.size then decide (x.size < y.size) else Op.bytesLess x.sum y.sum
theorem ahead_better (x y : BlobV) (lx ly : Int) : aheadV x lx y ly = betterV x lx y ly := by
  rw [Bool.eq_iff_iff, better_iff]
  unfold aheadV
  by_cases h1 : lx = ly
  · by_cases h2 : x.gen = y.gen
    · by_cases h3 : x.size = y.size
      · rw [if_neg (by simp [h1]), if_neg (by simp [h2]), if_neg (by simp [h3]), bytesLess_eq]
        simp [h1, h2, h3]
      · rw [if_neg (by simp [h1]), if_neg (by simp [h2]), if_pos h3]
        simp [h1, h2, h3]
    · rw [if_neg (by simp [h1]), if_pos h2]
      simp [h1, h2]
  · rw [if_pos h1]
    simp [h1]
theorem sAhead10 (x : BlobV) (gx kx cx qx : Nat) (px : List (Int × Int)) (y : BlobV) (gy ky cy qy : Nat) (py : List (Int × Int)) (w : World)
    (hpx : px.length = kx) (hkx : kx = qx * 10) (hqx : qx ≤ 1000) (hBx : PlcAt w gx px) (hpy : py.length = ky) (hky : ky = qy * 10) (hqy : qy ≤ 1000) (hBy : PlcAt w gy py) :
    Calls Try.prog 31 #[.agg (entV5 x gx kx cx), .agg (entV5 y gy ky cy)] w fun e w' => e = .returned (.bool (betterV x (poorV px) y (poorV py))) ∧ Below w.heap.size w w' := by
  rw [← ahead_better]
  obtain ⟨w0, hw0⟩ : ∃ z, (w.alloc (.cells (entV5 x gx kx cx) 32)).alloc (.cells (entV5 y gy ky cy) 32) = z := ⟨_, rfl⟩
  have B0 := Lib.hid (show Below w.heap.size w w0 by rw [← hw0]; exact (below_al7 w _).alloc (by simp) _)
  have BX := Lib.hid (show Blk w0 w.heap.size 32 (entV5 x gx kx cx) by rw [← hw0]; exact (Blk.made _ _ _).alloc _)
  have BY := Lib.hid (show Blk w0 (w.heap.size + 1) 32 (entV5 y gy ky cy) by rw [← hw0]; exact Blk.made' _ _ _ (by simp))
  have FX := Lib.hid (show ∀ W, Below w0.heap.size w0 W → Calls Try.prog 29 #[.agg #[strV x.key, .int .i64 x.gen, .int .i64 x.size, strV x.sum, .slice (some ⟨gx, 0, none⟩) kx cx]] W fun e w' => e = .returned (.int .i64 (poorV px)) ∧ Below W.heap.size W w' from fun W h => sPoorest10 x gx kx cx qx px W hpx hkx hqx ((hBx.below B0.out).below h))
  have FY := Lib.hid (show ∀ W, Below w0.heap.size w0 W → Calls Try.prog 29 #[.agg #[strV y.key, .int .i64 y.gen, .int .i64 y.size, strV y.sum, .slice (some ⟨gy, 0, none⟩) ky cy]] W fun e w' => e = .returned (.int .i64 (poorV py)) ∧ Below W.heap.size W w' from fun W h => sPoorest10 y gy ky cy qy py W hpy hky hqy ((hBy.below B0.out).below h))
  obtain ⟨lx, hlx⟩ : ∃ z, poorV px = z := ⟨_, rfl⟩
  obtain ⟨ly, hly⟩ : ∃ z, poorV py = z := ⟨_, rfl⟩
  rw [hlx] at FX ⊢
  rw [hly] at FY ⊢
  clear hpx hkx hqx hBx hpy hky hqy hBy hlx hly
  unfold entV5 at hw0 BX BY ⊢
  have hb0 : w.heap.size < w0.heap.size := BX.out.size
  have hb1 : w.heap.size + 1 < w0.heap.size := BY.out.size
  go_enter Try.func31, Try.ntmps31
  go_upto_region 1 with fail
  clear hw0
  have x0 : w0.cell? ⟨w.heap.size, 0, none⟩ = some (strV x.key) := BX.out.cell 0
  have x1 : w0.cell? ⟨w.heap.size, 1, none⟩ = some (.int .i64 x.gen) := BX.out.cell 1
  have x2 : w0.cell? ⟨w.heap.size, 2, none⟩ = some (.int .i64 x.size) := BX.out.cell 2
  have x3 : w0.cell? ⟨w.heap.size, 3, none⟩ = some (strV x.sum) := BX.out.cell 3
  have x4 : w0.cell? ⟨w.heap.size, 4, none⟩ = some (.slice (some ⟨gx, 0, none⟩) kx cx) := BX.out.cell 4
  have y0 : w0.cell? ⟨w.heap.size + 1, 0, none⟩ = some (strV y.key) := BY.out.cell 0
  have y1 : w0.cell? ⟨w.heap.size + 1, 1, none⟩ = some (.int .i64 y.gen) := BY.out.cell 1
  have y2 : w0.cell? ⟨w.heap.size + 1, 2, none⟩ = some (.int .i64 y.size) := BY.out.cell 2
  have y3 : w0.cell? ⟨w.heap.size + 1, 3, none⟩ = some (strV y.sum) := BY.out.cell 3
  have y4 : w0.cell? ⟨w.heap.size + 1, 4, none⟩ = some (.slice (some ⟨gy, 0, none⟩) ky cy) := BY.out.cell 4
  go_cut [5, 6] from 7 to 10 (fun a b wx => a = .int .i64 lx ∧ b = .int .i64 ly ∧ Below w0.heap.size w0 wx)
  case first =>
    have BW := Lib.hid (Below.refl w0.heap.size w0)
    refine wp_region_held_drew (S := (fun w' => w'.cell? ⟨w.heap.size, 0, none⟩ = some (strV x.key) ∧ w'.cell? ⟨w.heap.size, 1, none⟩ = some (.int .i64 x.gen) ∧ w'.cell? ⟨w.heap.size, 2, none⟩ = some (.int .i64 x.size) ∧ w'.cell? ⟨w.heap.size, 3, none⟩ = some (strV x.sum) ∧ w'.cell? ⟨w.heap.size, 4, none⟩ = some (.slice (some ⟨gx, 0, none⟩) kx cx) ∧ w'.cell? ⟨w.heap.size + 1, 0, none⟩ = some (strV y.key) ∧ w'.cell? ⟨w.heap.size + 1, 1, none⟩ = some (.int .i64 y.gen) ∧ w'.cell? ⟨w.heap.size + 1, 2, none⟩ = some (.int .i64 y.size) ∧ w'.cell? ⟨w.heap.size + 1, 3, none⟩ = some (strV y.sum) ∧ w'.cell? ⟨w.heap.size + 1, 4, none⟩ = some (.slice (some ⟨gy, 0, none⟩) ky cy))) (by kernel_rfl) ⟨x0, x1, x2, x3, x4, y0, y1, y2, y3, y4⟩ (fun hHeld => ?_)
    refine wpAnyH_take (i := 0) (v := ?vA1n10) (take_list rfl) (by kernel_rfl) (by kernel_rfl) (by kernel_rfl) (fun _ _ _ h => h) (Or.inl ⟨by rfl, ?hyA1n10⟩) (by assumption) ?restA1n10
    case hyA1n10 => (intro w hSw; (try dsimp only at hSw); go_simp <;> with_reducible rfl)
    try simp only [Act.put, List.setIfInBounds_toArray, List.set_cons_zero, List.set_cons_succ]
    refine wpAnyH_take (i := 2) (v := ?vA1n12) (take_list rfl) (by kernel_rfl) (by kernel_rfl) (by kernel_rfl) (fun _ _ _ h => h) (Or.inl ⟨by rfl, ?hyA1n12⟩) (by assumption) ?restA1n12
    case hyA1n12 => (intro w hSw; (try dsimp only at hSw); go_simp <;> with_reducible rfl)
    try simp only [Act.put, List.setIfInBounds_toArray, List.set_cons_zero, List.set_cons_succ]
    refine wpAnyH_ready (rs := [1]) (by kernel_rfl) (by simp) ?_
    refine AllReadyH.cons rfl (fun K hK => ?_) AllReadyH.nil
    go_simp
    go_wp2_with (go_at_call 29; ((with_reducible refine (FX.out _ (by first | exact BW.out | exact BW.out.drew)).mono ?_); rintro e w1 ⟨rfl, hb⟩; have BW := Lib.hid (show Below w0.heap.size w0 w1 from (by first | exact BW.out.trans (hb.mono BW.out.size) | exact BW.out.trans ((below_of_drew hb).mono BW.out.size))); clear hb))
    clear hHeld
    refine hK.out _ _ ⟨(have h := keepc BW.out hb0 x0; h), (have h := keepc BW.out hb0 x1; h), (have h := keepc BW.out hb0 x2; h), (have h := keepc BW.out hb0 x3; h), (have h := keepc BW.out hb0 x4; h), (have h := keepc BW.out hb1 y0; h), (have h := keepc BW.out hb1 y1; h), (have h := keepc BW.out hb1 y2; h), (have h := keepc BW.out hb1 y3; h), (have h := keepc BW.out hb1 y4; h)⟩ (fun hHeld => ?_)
    clear hK K
    refine wpAnyH_ready (rs := [3]) (by kernel_rfl) (by simp) ?_
    refine AllReadyH.cons rfl (fun K hK => ?_) AllReadyH.nil
    go_simp
    go_wp2_with (go_at_call 29; ((with_reducible refine (FY.out _ (by first | exact BW.out | exact BW.out.drew)).mono ?_); rintro e w1 ⟨rfl, hb⟩; have BW := Lib.hid (show Below w0.heap.size w0 w1 from (by first | exact BW.out.trans (hb.mono BW.out.size) | exact BW.out.trans ((below_of_drew hb).mono BW.out.size))); clear hb))
    clear hHeld
    refine hK.out _ _ ⟨(have h := keepc BW.out hb0 x0; h), (have h := keepc BW.out hb0 x1; h), (have h := keepc BW.out hb0 x2; h), (have h := keepc BW.out hb0 x3; h), (have h := keepc BW.out hb0 x4; h), (have h := keepc BW.out hb1 y0; h), (have h := keepc BW.out hb1 y1; h), (have h := keepc BW.out hb1 y2; h), (have h := keepc BW.out hb1 y3; h), (have h := keepc BW.out hb1 y4; h)⟩ (fun hHeld => ?_)
    clear hK K
    refine wpAnyH_take (i := 4) (v := ?vA1n14) (take_list rfl) (by kernel_rfl) (by kernel_rfl) (by kernel_rfl) (fun _ _ _ h => h) (Or.inl ⟨by rfl, ?hyA1n14⟩) (by assumption) ?restA1n14
    case hyA1n14 => (intro w hSw; (try dsimp only at hSw); go_simp <;> with_reducible rfl)
    try simp only [Act.put, List.setIfInBounds_toArray, List.set_cons_zero, List.set_cons_succ]
    refine wpAnyH_take (i := 5) (v := ?vA1n15) (take_list rfl) (by kernel_rfl) (by kernel_rfl) (by kernel_rfl) (fun _ _ _ h => h) (Or.inl ⟨by rfl, ?hyA1n15⟩) (by assumption) ?restA1n15
    case hyA1n15 => (intro w hSw; (try dsimp only at hSw); go_simp <;> with_reducible rfl)
    try simp only [Act.put, List.setIfInBounds_toArray, List.set_cons_zero, List.set_cons_succ]
    refine wpAnyH_done (by kernel_rfl) ?_ _
    go_wp2_with fail
    go_meet
    exact ⟨rfl, rfl, by first | exact BW.out | exact BW.out.drew⟩
  obtain ⟨rfl, rfl, hbc⟩ := hcut
  obtain ⟨w1, rfl⟩ : ∃ w1 : World, w1 = wc := ⟨_, rfl⟩
  have BC := Lib.hid (show Below w.heap.size w w1 from B0.out.trans (hbc.mono B0.out.size))
  have x0 := keepc hbc hb0 x0
  have x1 := keepc hbc hb0 x1
  have x2 := keepc hbc hb0 x2
  have x3 := keepc hbc hb0 x3
  have x4 := keepc hbc hb0 x4
  have y0 := keepc hbc hb1 y0
  have y1 := keepc hbc hb1 y1
  have y2 := keepc hbc hb1 y2
  have y3 := keepc hbc hb1 y3
  have y4 := keepc hbc hb1 y4
  clear hbc
  by_cases c0 : lx = ly
  case neg =>
    have q0 : (lx != ly) = true := by simpa using c0
    have V := Lib.hid (show aheadV x lx y ly = decide (ly < lx) by unfold aheadV; rw [if_pos c0])
    clear c0
    go_wp2_with fail
    go_ret
    rw [V.out]
    exact ⟨rfl, BC.out⟩
  have q0 : (lx != ly) = false := by simpa using c0
  by_cases c1 : x.gen = y.gen
  case neg =>
    have q1 : (x.gen != y.gen) = true := by simpa using c1
    have V := Lib.hid (show aheadV x lx y ly = decide (y.gen < x.gen) by unfold aheadV; rw [if_neg (by simp [c0]), if_pos c1])
    clear c0 c1
    go_wp2_with fail
    go_ret
    rw [V.out]
    exact ⟨rfl, BC.out⟩
  have q1 : (x.gen != y.gen) = false := by simpa using c1
  by_cases c2 : x.size = y.size
  case neg =>
    have q2 : (x.size != y.size) = true := by simpa using c2
    have V := Lib.hid (show aheadV x lx y ly = decide (x.size < y.size) by unfold aheadV; rw [if_neg (by simp [c0]), if_neg (by simp [c1]), if_pos c2])
    clear c0 c1 c2
    go_wp2_with fail
    go_ret
    rw [V.out]
    exact ⟨rfl, BC.out⟩
  have q2 : (x.size != y.size) = false := by simpa using c2
  have V := Lib.hid (show aheadV x lx y ly = Op.bytesLess x.sum y.sum by unfold aheadV; rw [if_neg (by simp [c0]), if_neg (by simp [c1]), if_neg (by simp [c2])])
  clear c0 c1 c2
  go_wp2_with fail
  go_ret
  rw [V.out]
  exact ⟨rfl, BC.out⟩
end Go.Proofs.Ythceidacmeadkaa
