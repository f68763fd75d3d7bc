/- Unlike steps have unlike lines: TaleUnlike. No condition beyond those that each theorem states. -/
import Derived.Test.YtkkmojbaoflafaaDoorY13
import Derived.Test.YtkkmojbaoflafaaDoorY15
import Derived.Deep.DeepCutAuto
import Derived.Deep.CutBlock
namespace Go.Proofs.YtkkmojbaoflafaaDoor
open Go.RowKit Go.Shelf
attribute [local go_sem] Oper.semAt_some

theorem parts_len {x : StepV} {s : Str} (h : lineT x = some s) : x.key.length + x.data.length ≤ s.length := by
  unfold lineT at h
  cases hf : formAt x.kind with
  | none => rw [hf] at h; cases h
  | some f =>
    rw [hf] at h
    simp only at h
    have hm : f ∈ formsT := by
      unfold formAt at hf
      split at hf
      · exact List.mem_of_getElem? hf
      · cases hf
    obtain ⟨_, _, h3⟩ := forms_facts f hm
    split at h
    · rename_i hfit
      obtain rfl := Option.some.inj h
      have e1 := hexT_len x.key
      have e2 := hexT_len x.data
      obtain ⟨w, has⟩ := f
      simp only [kinds, List.mem_cons, List.not_mem_nil, or_false] at h3
      rcases h3 with rfl | rfl | rfl | rfl | rfl <;> simp [fitsT] at hfit <;> simp [tailT, partT, hfit] <;> omega
    · cases h
theorem line_inj {x y : StepV} {s : Str} (h1 : lineT x = some s) (h2 : lineT y = some s) (ha : Wf64 x.a) (hb : Wf64 x.b) (ha' : Wf64 y.a) (hb' : Wf64 y.b) : x = y :=
  Option.some.inj ((line_step h1 ha hb).symm.trans (line_step h2 ha' hb'))
def lineS (o : Option Str) : Str := o.getD []
def lineE (o : Option Str) : Int := if o.isSome then 0 else 1
theorem lineV_eq (o : Option Str) : lineV o = .tuple #[strV (lineS o), .int .i64 (lineE o)] := by cases o <;> rfl
set_option maxHeartbeats 4000000 in
set_option maxRecDepth 100000 in
theorem unlike_walk (x y : StepV) (A A' : Option Addr) (c c' : Nat) (s : Str) (w : World) (he : Env w) (hx : BytesIn w A x.data.length x.data) (hxa : Wf64 x.a) (hxb : Wf64 x.b) (hxs : x.key.length + x.data.length ≤ 1099511627776)
    (hy : BytesIn w A' y.data.length y.data) (hya : Wf64 y.a) (hyb : Wf64 y.b) (hys : y.key.length + y.data.length ≤ 1099511627776) :
    Calls Tryd.prog 7 #[stepV x A c, stepV y A' c', strV s] w fun e w' => e = .returned (.bool true) ∧ Below w.heap.size w w' := by
  have HE := Lib.hid he
  have HX := Lib.hid (And.intro hx (And.intro hxa (And.intro hxb hxs)))
  have HY := Lib.hid (And.intro hy (And.intro hya (And.intro hyb hys)))
  clear he hx hxa hxb hxs hy hya hyb hys
  obtain ⟨w0, hw0⟩ : ∃ z, (w.alloc (.cells (stepCells x A c) 24)).alloc (.cells (stepCells y A' c') 24) = z := ⟨_, rfl⟩
  have B0 := Lib.hid (show Below w.heap.size w w0 by rw [← hw0]; exact ((Below.refl _ w).alloc (Nat.le_refl _) _).alloc (by simp) _)
  have X0 := Lib.hid (show Blk w0 w.heap.size 24 (stepCells x A c) by rw [← hw0]; exact (Blk.made _ _ _).alloc _)
  have Y0 := Lib.hid (show Blk w0 (w.heap.size + 1) 24 (stepCells y A' c') by rw [← hw0]; exact Blk.made' _ _ _ (by simp))
  have L1 := Lib.hid (tLine x A c w0 (HX.out.1.below B0.out) HX.out.2.1 HX.out.2.2.1 (HE.out.below B0.out) HX.out.2.2.2)
  simp only [lineV_eq, stepV] at L1
  obtain ⟨sx, hsx⟩ : ∃ v, lineS (lineT x) = v := ⟨_, rfl⟩
  obtain ⟨ex, hex⟩ : ∃ v, lineE (lineT x) = v := ⟨_, rfl⟩
  rw [hsx, hex] at L1
  have HSX := Lib.hid (And.intro hsx hex)
  clear hsx hex
  simp only [stepCells] at hw0
  unfold stepV
  go_enter Tryd.func7, Tryd.ntmps7
  go_upto_region 1 with fail
  clear hw0
  have x0 : w0.cell? ⟨w.heap.size, 0, none⟩ = some (.int .i64 x.kind) := X0.out.cell 0
  have x1 : w0.cell? ⟨w.heap.size, 1, none⟩ = some (.int .i64 x.a) := X0.out.cell 1
  have x2 : w0.cell? ⟨w.heap.size, 2, none⟩ = some (.int .i64 x.b) := X0.out.cell 2
  have x3 : w0.cell? ⟨w.heap.size, 3, none⟩ = some (strV x.key) := X0.out.cell 3
  have x4 : w0.cell? ⟨w.heap.size, 4, none⟩ = some (.slice A x.data.length c) := X0.out.cell 4
  go_upto_region 2 with (
    go_at_call 9
    refine L1.out.mono ?_
    rintro e w1 ⟨rfl, hb1⟩
    have B1 := Lib.hid (show Below w.heap.size w w1 from B0.out.trans (hb1.mono B0.out.size))
    have X1 := Lib.hid (X0.out.below hb1 X0.out.size)
    have Y1 := Lib.hid (Y0.out.below hb1 Y0.out.size)
    clear hb1)
  have L2 := Lib.hid (tLine y A' c' w1 (HY.out.1.below B1.out) HY.out.2.1 HY.out.2.2.1 (HE.out.below B1.out) HY.out.2.2.2)
  simp only [lineV_eq, stepV] at L2
  obtain ⟨sy, hsy⟩ : ∃ v, lineS (lineT y) = v := ⟨_, rfl⟩
  obtain ⟨ey, hey⟩ : ∃ v, lineE (lineT y) = v := ⟨_, rfl⟩
  rw [hsy, hey] at L2
  have HSY := Lib.hid (And.intro hsy hey)
  clear hsy hey
  clear L1 X0 Y0 x0 x1 x2 x3 x4
  have y0 : w1.cell? ⟨w.heap.size + 1, 0, none⟩ = some (.int .i64 y.kind) := Y1.out.cell 0
  have y1 : w1.cell? ⟨w.heap.size + 1, 1, none⟩ = some (.int .i64 y.a) := Y1.out.cell 1
  have y2 : w1.cell? ⟨w.heap.size + 1, 2, none⟩ = some (.int .i64 y.b) := Y1.out.cell 2
  have y3 : w1.cell? ⟨w.heap.size + 1, 3, none⟩ = some (strV y.key) := Y1.out.cell 3
  have y4 : w1.cell? ⟨w.heap.size + 1, 4, none⟩ = some (.slice A' y.data.length c') := Y1.out.cell 4
  go_upto_region 3 with (
    go_at_call 9
    refine L2.out.mono ?_
    rintro e w2 ⟨rfl, hb2⟩
    have B2 := Lib.hid (show Below w.heap.size w w2 from B1.out.trans (hb2.mono B1.out.size))
    have X2 := Lib.hid (X1.out.below hb2 X1.out.size)
    have Y2 := Lib.hid (Y1.out.below hb2 Y1.out.size)
    clear hb2)
  clear L2 X1 Y1 y0 y1 y2 y3 y4
  go_cut [39] (fun v wx => v = .bool false ∧ Below w.heap.size w wx)
  case first =>
    cases hlx : lineT x with
    | none =>
      obtain rfl : sx = [] := by rw [← HSX.out.1, hlx]; rfl
      obtain rfl : ex = 1 := by rw [← HSX.out.2, hlx]; rfl
      clear hlx HSX HSY
      go_wp2_with fail
      go_meet
      exact ⟨rfl, B2.out⟩
    | some lx =>
      have HLX := Lib.hid hlx
      obtain rfl : sx = lx := by rw [← HSX.out.1, hlx]; rfl
      obtain rfl : ex = 0 := by rw [← HSX.out.2, hlx]; rfl
      cases hly : lineT y with
      | none =>
        obtain rfl : sy = [] := by rw [← HSY.out.1, hly]; rfl
        obtain rfl : ey = 1 := by rw [← HSY.out.2, hly]; rfl
        clear hlx hly HSX HSY
        go_wp2_with fail
        go_meet
        exact ⟨rfl, B2.out⟩
      | some ly =>
        have HLY := Lib.hid hly
        obtain rfl : sy = ly := by rw [← HSY.out.1, hly]; rfl
        obtain rfl : ey = 0 := by rw [← HSY.out.2, hly]; rfl
        clear hlx hly HSX HSY
        have SM := Lib.hid (tSame x y A A' c c' w2 (HX.out.1.below B2.out) (HY.out.1.below B2.out))
        simp only [stepV] at SM
        have x0 : w2.cell? ⟨w.heap.size, 0, none⟩ = some (.int .i64 x.kind) := X2.out.cell 0
        have x1 : w2.cell? ⟨w.heap.size, 1, none⟩ = some (.int .i64 x.a) := X2.out.cell 1
        have x2 : w2.cell? ⟨w.heap.size, 2, none⟩ = some (.int .i64 x.b) := X2.out.cell 2
        have x3 : w2.cell? ⟨w.heap.size, 3, none⟩ = some (strV x.key) := X2.out.cell 3
        have x4 : w2.cell? ⟨w.heap.size, 4, none⟩ = some (.slice A x.data.length c) := X2.out.cell 4
        have y0 : w2.cell? ⟨w.heap.size + 1, 0, none⟩ = some (.int .i64 y.kind) := Y2.out.cell 0
        have y1 : w2.cell? ⟨w.heap.size + 1, 1, none⟩ = some (.int .i64 y.a) := Y2.out.cell 1
        have y2 : w2.cell? ⟨w.heap.size + 1, 2, none⟩ = some (.int .i64 y.b) := Y2.out.cell 2
        have y3 : w2.cell? ⟨w.heap.size + 1, 3, none⟩ = some (strV y.key) := Y2.out.cell 3
        have y4 : w2.cell? ⟨w.heap.size + 1, 4, none⟩ = some (.slice A' y.data.length c') := Y2.out.cell 4
        have HEQ := Lib.hid (show (sx == sy) = sameT x y by
          cases hs : sameT x y with
          | true =>
            obtain rfl := same_iff.1 hs
            simpa using Option.some.inj (HLX.out.symm.trans HLY.out)
          | false =>
            rw [beq_eq_false_iff_ne]
            rintro rfl
            rw [same_iff.2 (line_inj HLX.out HLY.out HX.out.2.1 HX.out.2.2.1 HY.out.2.1 HY.out.2.2.1)] at hs
            cases hs)
        cases hsm : sameT x y with
        | true =>
          rw [hsm] at SM
          have hq : (sx == sy) = true := by rw [HEQ.out, hsm]
          obtain rfl : sx = sy := by simpa using hq
          clear hsm hq
          go_wp2_with (
            go_at_call 13
            refine SM.out.mono ?_
            rintro e w3 ⟨rfl, hb3⟩
            have B3 := Lib.hid (show Below w.heap.size w w3 from B2.out.trans (hb3.mono B2.out.size))
            clear hb3)
          go_meet
          exact ⟨rfl, B3.out⟩
        | false =>
          rw [hsm] at SM
          have hq : (sx == sy) = false := by rw [HEQ.out, hsm]
          clear hsm
          go_wp2_with (
            go_at_call 13
            refine SM.out.mono ?_
            rintro e w3 ⟨rfl, hb3⟩
            have B3 := Lib.hid (show Below w.heap.size w w3 from B2.out.trans (hb3.mono B2.out.size))
            clear hb3)
          go_meet
          exact ⟨rfl, B3.out⟩
  case rest =>
  obtain ⟨rfl, hbc⟩ := hcut
  have BC := Lib.hid hbc
  clear hbc
  by_cases hl : 5000 < s.length
  · have d1 : decide ((5000 : Int) < (s.length : Int)) = true := decide_eq_true (by omega)
    have d2 : (5000 : Int) < (s.length : Int) := by omega
    go_wp2_with (
      go_at_call 11
      refine (tAwake wc (HE.out.below BC.out)).mono ?_
      rintro e w4 ⟨rfl, hb4⟩
      have B4 := Lib.hid (show Below w.heap.size w w4 from BC.out.trans (hb4.mono BC.out.size))
      clear hb4)
    go_ret
    exact ⟨rfl, B4.out⟩
  · have d1 : decide ((5000 : Int) < (s.length : Int)) = false := decide_eq_false (by omega)
    have d2 : ¬ (5000 : Int) < (s.length : Int) := by omega
    have TS := Lib.hid (tStep s wc (HE.out.below BC.out) (by omega))
    cases hst : stepT s with
    | none =>
      rw [hst] at TS
      clear hst
      go_wp2_with (first
        | (go_at_call 12
           refine TS.out.mono ?_
           rintro e w4 ⟨htold, hb4⟩
           obtain rfl : e = .returned (.tuple #[stepV zeroS none 0, .int .i64 15]) := htold
           have B4 := Lib.hid (show Below w.heap.size w w4 from BC.out.trans (hb4.mono BC.out.size))
           clear hb4
           unfold stepV zeroS)
        | (go_at_call 11
           refine (tAwake _ (by exact HE.out.below (B4.out.alloc B4.out.size _))).mono ?_
           rintro e w5 ⟨rfl, hb5⟩
           have B5 := Lib.hid (show Below w.heap.size w w5 from (B4.out.alloc B4.out.size _).trans (hb5.mono (by have := B4.out.size; simp; omega)))
           clear hb5))
      go_ret
      exact ⟨rfl, B5.out⟩
    | some z =>
      rw [hst] at TS
      obtain ⟨hlz, hza, hzb, _, _⟩ := step_line hst
      have hzl := parts_len hlz
      have ZF := Lib.hid (And.intro hlz (And.intro hza hzb))
      clear hst hlz hza hzb
      go_upto_region 8 with (
        go_at_call 12
        refine TS.out.mono ?_
        rintro e w4 ⟨⟨Z, cz, rfl, hd, _⟩, hb4⟩
        have B4 := Lib.hid (show Below w.heap.size w w4 from BC.out.trans (hb4.mono BC.out.size))
        have D4 := Lib.hid hd
        clear hb4 hd
        unfold stepV)
      obtain ⟨w5, hw5⟩ : ∃ v, w4.alloc (.cells #[.int .i64 z.kind, .int .i64 z.a, .int .i64 z.b, .string ⟨z.key.toArray⟩, .slice Z z.data.length cz] 24) = v := ⟨_, rfl⟩
      have B5 := Lib.hid (show Below w.heap.size w w5 by rw [← hw5]; exact B4.out.alloc B4.out.size _)
      have Z5 := Lib.hid (show Blk w5 w4.heap.size 24 (stepCells z Z cz) by rw [← hw5]; exact Blk.made _ _ _)
      have D5 := Lib.hid (show DataAt w5 Z cz z.data by rw [← hw5]; exact D4.out.below ((Below.refl _ w4).alloc (Nat.le_refl _) _))
      rw [hw5]
      clear hw5
      have z0 : w5.cell? ⟨w4.heap.size, 0, none⟩ = some (.int .i64 z.kind) := Z5.out.cell 0
      have z1 : w5.cell? ⟨w4.heap.size, 1, none⟩ = some (.int .i64 z.a) := Z5.out.cell 1
      have z2 : w5.cell? ⟨w4.heap.size, 2, none⟩ = some (.int .i64 z.b) := Z5.out.cell 2
      have z3 : w5.cell? ⟨w4.heap.size, 3, none⟩ = some (strV z.key) := Z5.out.cell 3
      have z4 : w5.cell? ⟨w4.heap.size, 4, none⟩ = some (.slice Z z.data.length cz) := Z5.out.cell 4
      have LZ := Lib.hid (tLine z Z cz w5 D5.out.bytes ZF.out.2.1 ZF.out.2.2 (HE.out.below B5.out) (by omega))
      rw [ZF.out.1] at LZ
      simp only [lineV, stepV] at LZ
      go_wp2_with (first
        | (go_at_call 9
           refine LZ.out.mono ?_
           rintro e w6 ⟨rfl, hb6⟩
           have B6 := Lib.hid (show Below w.heap.size w w6 from B5.out.trans (hb6.mono B5.out.size))
           clear hb6)
        | (go_at_call 11
           refine (tAwake w6 (HE.out.below B6.out)).mono ?_
           rintro e w7 ⟨rfl, hb7⟩
           have B7 := Lib.hid (show Below w.heap.size w w7 from B6.out.trans (hb7.mono B6.out.size))
           clear hb7))
      go_ret
      exact ⟨rfl, B7.out⟩
end Go.Proofs.YtkkmojbaoflafaaDoor
