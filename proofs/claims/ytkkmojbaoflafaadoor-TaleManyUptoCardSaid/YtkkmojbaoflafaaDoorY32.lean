/- Steps' lines, one behind the other, are read as these steps: TaleMany's walk. No condition beyond those that each theorem states. -/
import Derived.Test.YtkkmojbaoflafaaDoorY26
import Derived.Test.YtkkmojbaoflafaaDoorY30
import Derived.Test.YtkkmojbaoflafaaDoorY31
import Derived.Deep.DeepCutAuto
import Derived.Deep.CutBlock
import Derived.Deep.RegionHeldLaw
namespace Go.Proofs.YtkkmojbaoflafaaDoor
open Go.RowKit Go.Shelf
attribute [local go_sem] Oper.semAt_some

/-- A step that comes in. -/
def StepOk (w : World) (p : StepP) : Prop := BytesIn w p.A p.x.data.length p.x.data ∧ Wf64 p.x.a ∧ Wf64 p.x.b ∧ p.x.key.length + p.x.data.length ≤ 100000000
def StepsIn (w : World) (A : Option Addr) (n : Nat) (F : Nat → StepP) : Prop := n = 0 ∨ ∃ b off, A = some ⟨b, off, none⟩ ∧ b < w.heap.size ∧ ∀ i, i < n → StepOk w (F i) ∧ ∀ q u, (stepCells (F i).x (F i).A (F i).c)[q]? = some u → w.cell? ⟨b, off + i * 5 + q, none⟩ = some u
/-- A row of steps, their bytes wherever they lie. -/
def SRow (w : World) (base : Nat) (v : Value) (PL : List StepP) : Prop := w.ownsRow base 24 5 v PL.length (stepVals PL) ∧ ∀ p ∈ PL, BytesIn w p.A p.x.data.length p.x.data
theorem SRow.below {w w' : World} {base : Nat} {v : Value} {PL : List StepP} (h : SRow w base v PL) (hb : Below w.heap.size w w') : SRow w' base v PL :=
  ⟨own_of_eq h.1 (fun g hg => hb.block g (h.1.lt g hg).2), fun p hp => (h.2 p hp).below hb⟩
theorem SRow.at {w : World} {base : Nat} {B : Option Addr} {n c i : Nat} {PL : List StepP} {p : StepP} (h : SRow w base (.slice B n c) PL) (hp : PL[i]? = some p) :
    ∃ g, B = some ⟨g, 0, none⟩ ∧ BytesIn w p.A p.x.data.length p.x.data ∧ ∀ q, q < 5 → w.cell? ⟨g, i * 5 + q, none⟩ = (stepCells p.x p.A p.c)[q]? := by
  have hi := (List.getElem?_eq_some_iff.1 hp).1
  obtain ⟨g, cap, hv⟩ := own_some h.1 (by omega)
  injection hv with hB hn hc
  subst hB hn hc
  refine ⟨g, rfl, h.2 p (List.mem_of_getElem? hp), fun q hq => ?_⟩
  have hr := RowAt.of_own h.1
  have hg : (stepVals PL)[i * 5 + q]? = (stepCells p.x p.A p.c)[q]? := by
    unfold stepVals
    rw [flat_get (vals := fun p : StepP => (stepCells p.x p.A p.c).toList) (k := 5) (fun _ => rfl) hp hq]
    simp
  obtain ⟨u, hu⟩ : ∃ u, (stepCells p.x p.A p.c)[q]? = some u := ⟨_, Array.getElem?_eq_getElem (by show q < 5; exact hq)⟩
  rw [hu] at hg ⊢
  exact hr.cell hg
theorem RStepsAt.row {w : World} {v : Value} {L : List StepV} (h : RStepsAt w v L) : ∃ PL, PL.map (·.x) = L ∧ SRow w 0 v PL := by
  obtain ⟨PL, h1, h2, h3⟩ := h
  exact ⟨PL, h1, by rw [← h1, List.length_map] at h2; exact h2, fun p hp => (h3 p hp).bytes⟩
theorem calm_snoc {s : Str} {j : Nat} {ch : UInt8} (h : (10 : UInt8) ∉ s.take j) (hc : s[j]? = some ch) (hn : ch ≠ 10) : (10 : UInt8) ∉ s.take (j + 1) := by
  rw [List.take_add_one, hc]
  intro hm
  rcases List.mem_append.1 hm with hm | hm
  · exact h hm
  · have h2 : (10 : UInt8) = ch := by simpa using hm
    exact hn h2.symm
section
set_option maxHeartbeats 16000000
set_option maxRecDepth 100000
theorem many_walk (A : Option Addr) (n c : Nat) (F : Nat → StepP) (odd : Str) (last : Bool) (w : World) (he : Env w) (hin : StepsIn w A n F) (hodd : odd.length ≤ 100000000) :
    Calls Tryd.prog 6 #[.slice A n c, strV odd, .bool last] w fun e w' => e = .returned (.bool true) ∧ Below w.heap.size w w' := by
  obtain ⟨i0, hi0, hz0, hz1, hz2⟩ := info_parts step_info
  have HE := Lib.hid he
  have IN := Lib.hid hin
  have OW0 := Lib.hid (World.ownsRow_lit (base := w.heap.size) (e := 24) (size := 5) w #[] 0 (Nat.le_refl _) (by decide) rfl)
  clear he hin
  go_enter Tryd.func6, Tryd.ntmps6
  go_upto_block 0 with fail
  go_cut [7, 8, 9] (fun tv nv kv wx => ∃ (k : Nat) (PL : List StepP) (ls : List Str) (tx : Str) (B : Option Addr) (cc : Nat), nv = .int .i64 k ∧ PL.length = k ∧ k ≤ 40 ∧ tv = strV tx ∧ textOf ls = tx ∧ tx.length ≤ k * 5000 ∧ Says ls (PL.map (·.x)) ∧
    kv = .slice B k cc ∧ SRow wx w.heap.size (.slice B k cc) PL ∧ Below w.heap.size w wx)
  case first =>
    go_wp2_with fail
    go_loopw [7, 8, 9, 10] (fun tv nv kv iv wr => ∃ (i k : Nat) (PL : List StepP) (ls : List Str) (tx : Str), iv = .int .i64 i ∧ i ≤ n ∧ i ≤ 40 ∧ nv = .int .i64 k ∧ PL.length = k ∧ k ≤ i ∧ tv = strV tx ∧ textOf ls = tx ∧ tx.length ≤ k * 5000 ∧ Says ls (PL.map (·.x)) ∧
      wr.ownsRow w.heap.size 24 5 kv k (stepVals PL) ∧ (∀ p ∈ PL, BytesIn w p.A p.x.data.length p.x.data) ∧ Below w.heap.size w wr) (fun _ _ _ iv _ => 40 - (intOf iv).toNat)
    case atStart => exact ⟨0, 0, [], [], [], rfl, Nat.zero_le _, by omega, rfl, rfl, Nat.le_refl _, rfl, rfl, by simp, ⟨rfl, fun x hx => by cases hx⟩, OW0.out, fun p hp => (by cases hp), (Below.refl _ w).alloc (Nat.le_refl _) _⟩
    case round =>
      obtain ⟨i, k, PL, ls, tx, rfl, hin, hi4, rfl, hPL, hki, rfl, htx, htl, hsay, hown, hdat, hbl⟩ := hrel
      obtain ⟨B, cc, rfl⟩ := own_form hown
      have OW := Lib.hid hown
      have SY := Lib.hid hsay
      have DA := Lib.hid hdat
      have BL := Lib.hid hbl
      have HPL := Lib.hid hPL
      have HTX := Lib.hid htx
      have hz := hbl.size
      clear hown hsay hdat hbl hPL OW0 htx
      by_cases hlt : i < n ∧ i < 40
      · obtain ⟨hln, hl4⟩ := hlt
        rcases IN.out with h0 | ⟨b, off, rfl, hb, hF⟩
        · omega
        obtain ⟨hok, hcell⟩ := hF i hln
        obtain ⟨p, hp⟩ : ∃ p, F i = p := ⟨_, rfl⟩
        rw [hp] at hok hcell
        obtain ⟨x, XA, xc⟩ := p
        simp only at hok hcell
        obtain ⟨hxb, hxa1, hxb1, hxs⟩ := hok
        simp only at hxb hxa1 hxb1 hxs
        have OK := Lib.hid (And.intro hxb (And.intro hxa1 hxb1))
        have CE := Lib.hid hcell
        have hbr : b < wr.heap.size := Nat.lt_of_lt_of_le hb hz
        have x0 : wr.cell? ⟨b, off + i * 5, none⟩ = some (.int .i64 x.kind) := keepc BL.out hb (hcell 0 _ rfl)
        have x1 : wr.cell? ⟨b, off + i * 5 + 1, none⟩ = some (.int .i64 x.a) := keepc BL.out hb (hcell 1 _ rfl)
        have x2 : wr.cell? ⟨b, off + i * 5 + 2, none⟩ = some (.int .i64 x.b) := keepc BL.out hb (hcell 2 _ rfl)
        have x3 : wr.cell? ⟨b, off + i * 5 + 3, none⟩ = some (strV x.key) := keepc BL.out hb (hcell 3 _ rfl)
        have x4 : wr.cell? ⟨b, off + i * 5 + 4, none⟩ = some (.slice XA x.data.length xc) := keepc BL.out hb (hcell 4 _ rfl)
        have f1 : decide ((i : Int) < (n : Int)) = true := decide_eq_true (by omega)
        have f2 : (i : Int) < (n : Int) := by omega
        have f3 : (0 : Int) ≤ (i : Int) := by omega
        have f4 : decide ((i : Int) < 40) = true := decide_eq_true (by omega)
        have p1 : IntKind.i64.wrap ((i : Int) + 1) = ((i + 1 : Nat) : Int) := by rw [IntWalk.i64_in _ (by omega)]; omega
        have p2 : IntKind.i64.wrap ((k : Int) + 1) = ((k + 1 : Nat) : Int) := by rw [IntWalk.i64_in _ (by omega)]; omega
        have pw : IntKind.i64.wrap ((x.key.length : Int) + (x.data.length : Int)) = (x.key.length : Int) + (x.data.length : Int) := IntWalk.i64_in _ (by omega)
        clear hF hp hcell hxb hxa1 hxb1
        go_upto_region 6 with fail
        go_quiet (fail)
        have hzq : wr.heap.size ≤ (wr.drewN nq).heap.size := Nat.le_refl _
        by_cases hbig : 2000 < x.key.length + x.data.length
        · have g1 : decide ((2000 : Int) < (x.key.length : Int) + (x.data.length : Int)) = true := decide_eq_true (by omega)
          have g2 : (2000 : Int) < (x.key.length : Int) + (x.data.length : Int) := by omega
          clear hbig
          go_wp2_with fail
          go_roundw
          case rel => exact ⟨i + 1, k, PL, ls, tx, by simp, by omega, by omega, rfl, HPL.out, by omega, rfl, HTX.out, htl, SY.out, own_drewN OW.out nq, fun p hp => (DA.out p hp), below_drewN BL.out nq⟩
          case measure =>
            simp only [intOf]
            omega
        · have g1 : decide ((2000 : Int) < (x.key.length : Int) + (x.data.length : Int)) = false := decide_eq_false (by omega)
          have g2 : ¬ (2000 : Int) < (x.key.length : Int) + (x.data.length : Int) := by omega
          have LN := Lib.hid (tLine x XA xc (wr.drewN nq) (OK.out.1.below (below_drewN BL.out nq)) OK.out.2.1 OK.out.2.2 (HE.out.below (below_drewN BL.out nq)) (by omega))
          simp only [lineV_eq, stepV] at LN
          cases hlx : lineT x with
          | none =>
            rw [hlx] at LN
            simp only [show lineE none = 1 from rfl, show lineS none = [] from rfl] at LN
            clear hlx hbig
            go_wp2_with (
              go_at_call 9
              refine LN.out.mono ?_
              rintro e w3 ⟨rfl, hb3⟩
              have HB3 := Lib.hid (below_of_drewN hb3)
              have B3 := Lib.hid (show Below w.heap.size w w3 from (below_drewN BL.out nq).trans (hb3.mono BL.out.size))
              clear hb3)
            go_roundw
            case rel =>
              have hb3 : Below wr.heap.size wr w3 := HB3.out
              exact ⟨i + 1, k, PL, ls, tx, by simp, by omega, by omega, rfl, HPL.out, by omega, rfl, HTX.out, htl, SY.out, own_of_eq OW.out (fun g hg => hb3.block g (OW.out.lt g hg).2), fun p hp => (DA.out p hp), B3.out⟩
            case measure =>
              simp only [intOf]
              omega
          | some l =>
            have hll := lines_len hlx OK.out.2.1 OK.out.2.2
            rw [hlx] at LN
            simp only [show lineE (some l) = 0 from rfl, show lineS (some l) = l from rfl] at LN
            have HLX := Lib.hid hlx
            have s1 : ¬ 9223372036854775807 < l.length + 1 := by omega
            have s2 : ¬ 9223372036854775807 < tx.length + (l.length + 1) := by omega
            have LL := Lib.hid (show l.length + 1 ≤ 5000 by omega)
            clear hlx hbig hll
            go_upto_region 10 with (
              go_at_call 9
              refine LN.out.mono ?_
              rintro e w3 ⟨rfl, hb3⟩
              have HB3 := Lib.hid (below_of_drewN hb3)
              have B3 := Lib.hid (show Below w.heap.size w w3 from (below_drewN BL.out nq).trans (hb3.mono BL.out.size))
              clear hb3)
            have hb3 : Below wr.heap.size wr w3 := HB3.out
            have OW3 := Lib.hid (own_of_eq OW.out (fun g hg => hb3.block g (OW.out.lt g hg).2))
            have hz3 : w.heap.size ≤ w3.heap.size := B3.out.size
            have hb33 : b < w3.heap.size := Nat.lt_of_lt_of_le hb hz3
            clear hb3 x0 x1 x2 x3 x4
            have x0 : w3.cell? ⟨b, off + i * 5, none⟩ = some (.int .i64 x.kind) := keepc B3.out hb (CE.out 0 _ rfl)
            have x1 : w3.cell? ⟨b, off + i * 5 + 1, none⟩ = some (.int .i64 x.a) := keepc B3.out hb (CE.out 1 _ rfl)
            have x2 : w3.cell? ⟨b, off + i * 5 + 2, none⟩ = some (.int .i64 x.b) := keepc B3.out hb (CE.out 2 _ rfl)
            have x3 : w3.cell? ⟨b, off + i * 5 + 3, none⟩ = some (strV x.key) := keepc B3.out hb (CE.out 3 _ rfl)
            have x4 : w3.cell? ⟨b, off + i * 5 + 4, none⟩ = some (.slice XA x.data.length xc) := keepc B3.out hb (CE.out 4 _ rfl)
            have hk4 : k ≤ 65536 := by omega
            go_wp2_with (
              at_builtin
              refine wpList_append_own _ rfl _ _ 38 rfl w.heap.size 24 i0 _ 5 64 Tryd.underlying38 hi0 hz0 hz1 hz2 rfl (by decide) (.slice B k cc) k (stepVals PL) rfl (by exact OW3.out.alloc _) ⟨w3.heap.size, 0, none⟩ 1 1 (stepCells x XA xc).toList rfl rfl (by exact cells_new _ _ _ rfl) (by exact step_ones x XA xc) (by exact len_ok1 hk4) (by exact len_ok2 hk4) (by simp; omega) ?_
              intro v7 w7 hown7 hgr7 _
              obtain ⟨B7, c7, rfl⟩ := own_form hown7
              have O7 := Lib.hid hown7
              have G7 := Lib.hid hgr7
              clear hown7 hgr7)
            go_roundw
            case rel =>
              refine ⟨i + 1, k + 1, PL ++ [⟨x, XA, xc⟩], ls ++ [l], tx ++ (l ++ [10]), by simp, by omega, by omega, rfl, by rw [List.length_append, HPL.out]; rfl, by omega, ?_, ?_, ?_, ?_, ?_, ?_, ?_⟩
              · show Value.string ((⟨tx.toArray⟩ : ByteArray) ++ ((⟨l.toArray⟩ : ByteArray) ++ ⟨[10].toArray⟩)) = _
                rw [str_cat, str_cat]
              · rw [text_snoc, HTX.out]
              · have := LL.out
                rw [List.length_append, List.length_append, List.length_singleton]
                omega
              · rw [List.map_append]
                exact SY.out.snoc HLX.out OK.out.2.1 OK.out.2.2
              · have e : stepVals (PL ++ [⟨x, XA, xc⟩]) = stepVals PL ++ (stepCells x XA xc).toList := by simp [stepVals]
                rw [e]
                exact O7.out
              · intro p hp
                rcases List.mem_append.1 hp with hp | hp
                · exact DA.out p hp
                · rw [List.mem_singleton] at hp
                  subst hp
                  exact OK.out.1
              · have hb1 : Below w.heap.size w (w3.alloc (.cells (stepCells x XA xc) 24)) := B3.out.alloc hz3 _
                exact hb1.grown G7.out hb1.size (fun q hq => (OW3.out.lt q hq).1)
            case measure =>
              simp only [intOf]
              omega
      · have ROW := Lib.hid (show SRow wr w.heap.size (.slice B k cc) PL from ⟨by rw [HPL.out]; exact OW.out, fun p hp => (DA.out p hp).below BL.out⟩)
        by_cases hln : i < n
        · have f1 : decide ((i : Int) < (n : Int)) = true := decide_eq_true (by omega)
          have f4 : decide ((i : Int) < 40) = false := decide_eq_false (by omega)
          go_wp2_with fail
          go_meet
          exact ⟨k, PL, ls, tx, B, cc, rfl, HPL.out, by omega, rfl, HTX.out, htl, SY.out, rfl, ROW.out, BL.out⟩
        · have f1 : decide ((i : Int) < (n : Int)) = false := decide_eq_false (by omega)
          go_wp2_with fail
          go_meet
          exact ⟨k, PL, ls, tx, B, cc, rfl, HPL.out, by omega, rfl, HTX.out, htl, SY.out, rfl, ROW.out, BL.out⟩
  case rest =>
  obtain ⟨k, PL, ls, tx, B, cc, rfl, hPL, hk4, rfl, htx, htl, hsay, rfl, hrow, hbl⟩ := hcut
  obtain ⟨w1, rfl⟩ : ∃ z : World, z = wc := ⟨_, rfl⟩
  have HPL := Lib.hid hPL
  have HTX := Lib.hid htx
  have SY := Lib.hid hsay
  have R1 := Lib.hid hrow
  have B1 := Lib.hid hbl
  have hzw : w.heap.size ≤ w1.heap.size := hbl.size
  clear hPL htx hsay hrow hbl OW0
  go_upto_region 13 with fail
  go_cut [77] (fun v wx => v = .bool (last && decide (0 < k)) ∧ wx = w1)
  case first =>
    cases last
    · go_wp2_with fail
      go_meet
      exact ⟨rfl, rfl⟩
    · have f1 : decide ((0 : Int) < (k : Int)) = decide (0 < k) := by simp
      go_wp2_with fail
      go_meet
      exact ⟨by simp, rfl⟩
  case rest =>
  obtain ⟨rfl, hwc⟩ := hcut
  obtain ⟨wm, rfl⟩ : ∃ wm : World, wm = wc := ⟨_, rfl⟩
  subst hwc
  obtain ⟨cb, hcb⟩ : ∃ cb, (last && decide (0 < k)) = cb := ⟨_, rfl⟩
  rw [hcb]
  go_upto_if 77 with fail
  go_cut [13] (fun v wx => (∃ wh : Str, v = strV wh ∧ readT wh = .ok (PL.map (·.x)) ∧ wh.length ≤ 200000) ∧ wx = wm)
  case first =>
    cases cb
    · have RT := Lib.hid (many_read SY.out (by rw [List.length_map, HPL.out]; omega))
      rw [HTX.out] at RT
      clear hcb
      go_wp2_with fail
      go_meet
      exact ⟨⟨tx, rfl, RT.out, by omega⟩, rfl⟩
    · have hk0 : 0 < k := by simp at hcb; exact hcb.2
      have RT := Lib.hid (many_short SY.out (by rw [List.length_map, HPL.out]; omega) (by rw [List.length_map, HPL.out]; exact hk0))
      rw [HTX.out] at RT
      have htp : 0 < tx.length := by
        have h1 := SY.out.len
        rw [List.length_map, HPL.out] at h1
        rw [← HTX.out]
        cases ls with
        | nil => simp at h1; omega
        | cons l ls =>
          simp [textOf]
          omega
      obtain ⟨tl, htl1⟩ : ∃ tl, tx.length = tl + 1 := ⟨tx.length - 1, by omega⟩
      have hdl : tx.dropLast = tx.take tl := by rw [List.dropLast_eq_take, htl1]; rfl
      obtain ⟨tn, htn⟩ : ∃ tn, tx.length = tn := ⟨_, rfl⟩
      have x1 : (⟨tx.toArray⟩ : ByteArray).extract 0 tl = ⟨(tx.dropLast).toArray⟩ := by rw [str_sl, hdl]; rfl
      have hll : (tx.dropLast).length ≤ 200000 := by rw [List.length_dropLast]; omega
      rw [htn] at htl1 htl htp
      have pw : IntKind.i64.wrap ((tn : Int) - 1) = (tl : Int) := by rw [IntWalk.i64_in _ (by omega)]; omega
      have g0 : (0 : Int) ≤ (tl : Int) := by omega
      have g1 : (tl : Int) ≤ (tn : Int) := by omega
      have g2 : tl ≤ tn := by omega
      obtain ⟨wh, hwh⟩ : ∃ wh, tx.dropLast = wh := ⟨_, rfl⟩
      rw [hwh] at x1 hll RT
      clear hcb hdl htl1 hwh htp hk0
      go_wp2_with fail
      go_meet
      exact ⟨⟨wh, rfl, RT.out, hll⟩, rfl⟩
  case rest =>
  obtain ⟨⟨wh, rfl, hrt, hwl⟩, hwc⟩ := hcut
  obtain ⟨wn, rfl⟩ : ∃ wn : World, wn = wc := ⟨_, rfl⟩
  subst hwc
  clear hcb
  obtain ⟨w1, rfl⟩ : ∃ z : World, z = wn := ⟨_, rfl⟩
  have TR := Lib.hid (tRead wh w1 (HE.out.below B1.out) (by omega))
  rw [hrt] at TR
  clear hrt hwl
  go_upto_region 16 with (
    go_at_call 15
    refine TR.out.mono ?_
    rintro e w2 ⟨⟨v1, rfl, hst⟩, hb2⟩
    obtain ⟨PL1, hm1, hrow1⟩ := hst.of.row
    have hp1 : PL1.length = k := by have h := congrArg List.length hm1; rw [List.length_map, List.length_map, HPL.out] at h; exact h
    obtain ⟨BB, c1, rfl⟩ := own_form hrow1.1
    rw [hp1] at hrow1 ⊢
    have HM1 := Lib.hid hm1
    have S2 := Lib.hid hrow1
    have R2 := Lib.hid (R1.out.below hb2)
    have B2 := Lib.hid (show Below w.heap.size w w2 from B1.out.trans (hb2.mono B1.out.size))
    have HP1 := Lib.hid hp1
    clear hst hb2 hm1 hp1 hrow1)
  clear TR R1 B1
  go_upto_region 19 with fail
  go_loopw [17] (fun iv wr => ∃ i : Nat, iv = .int .i64 i ∧ i ≤ k ∧ Below w2.heap.size w2 wr) (fun iv _ => k - (intOf iv).toNat)
  case atStart => exact ⟨0, rfl, Nat.zero_le _, Below.refl _ _⟩
  case round =>
    obtain ⟨i, rfl, hik, hbl⟩ := hrel
    have BL := Lib.hid hbl
    have BW := Lib.hid (show Below w.heap.size w wr from B2.out.trans (hbl.mono B2.out.size))
    clear hbl
    by_cases hlt : i < k
    · obtain ⟨p, hp⟩ : ∃ p, PL[i]? = some p := ⟨_, List.getElem?_eq_getElem (by rw [HPL.out]; exact hlt)⟩
      obtain ⟨p1, hp1⟩ : ∃ p, PL1[i]? = some p := ⟨_, List.getElem?_eq_getElem (by rw [HP1.out]; exact hlt)⟩
      have hpx : p1.x = p.x := by
        have h := congrArg (·[i]?) HM1.out
        simp only [List.getElem?_map, hp, hp1, Option.map_some] at h
        exact Option.some.inj h
      obtain ⟨ga, rfl, hba, hca⟩ := (S2.out.below BL.out).at hp1
      obtain ⟨gb, rfl, hbb, hcb⟩ := (R2.out.below BL.out).at hp
      obtain ⟨x, A', d'⟩ := p
      obtain ⟨x1, A1, d1⟩ := p1
      simp only at hpx hba hbb hca hcb
      subst hpx
      have SM := Lib.hid (tSame x1 x1 A1 A' d1 d' wr.drew (hba.below (below_drew3 (Below.refl _ _))) (hbb.below (below_drew3 (Below.refl _ _))))
      rw [same_iff.2 rfl] at SM
      simp only [stepV] at SM
      have x0 : wr.cell? ⟨ga, i * 5, none⟩ = some (.int .i64 x1.kind) := hca 0 (by omega)
      have x1' : wr.cell? ⟨ga, i * 5 + 1, none⟩ = some (.int .i64 x1.a) := hca 1 (by omega)
      have x2 : wr.cell? ⟨ga, i * 5 + 2, none⟩ = some (.int .i64 x1.b) := hca 2 (by omega)
      have x3 : wr.cell? ⟨ga, i * 5 + 3, none⟩ = some (strV x1.key) := hca 3 (by omega)
      have x4 : wr.cell? ⟨ga, i * 5 + 4, none⟩ = some (.slice A1 x1.data.length d1) := hca 4 (by omega)
      have y0 : wr.cell? ⟨gb, i * 5, none⟩ = some (.int .i64 x1.kind) := hcb 0 (by omega)
      have y1 : wr.cell? ⟨gb, i * 5 + 1, none⟩ = some (.int .i64 x1.a) := hcb 1 (by omega)
      have y2 : wr.cell? ⟨gb, i * 5 + 2, none⟩ = some (.int .i64 x1.b) := hcb 2 (by omega)
      have y3 : wr.cell? ⟨gb, i * 5 + 3, none⟩ = some (strV x1.key) := hcb 3 (by omega)
      have y4 : wr.cell? ⟨gb, i * 5 + 4, none⟩ = some (.slice A' x1.data.length d') := hcb 4 (by omega)
      have f1 : decide ((i : Int) < (k : Int)) = true := decide_eq_true (by omega)
      have f2 : (i : Int) < (k : Int) := by omega
      have f3 : (0 : Int) ≤ (i : Int) := by omega
      have p1 : IntKind.i64.wrap ((i : Int) + 1) = ((i + 1 : Nat) : Int) := by rw [IntWalk.i64_in _ (by omega)]; omega
      clear hp hp1 hba hca hbb hcb
      go_upto_region 21 with fail
      go_region_law (
        go_simp
        go_at_call 13
        refine SM.out.mono ?_
        rintro e w3 ⟨rfl, hb3⟩
        have B3 := Lib.hid (below_of_drew hb3)
        clear hb3)
      all_goals
        go_wp2_with fail
        go_roundw
        case rel => exact ⟨i + 1, by simp, hlt, BL.out.trans ((show Below wr.heap.size wr _ from B3.out).mono BL.out.size)⟩
        case measure =>
          simp only [intOf]
          omega
    · have f1 : decide ((i : Int) < (k : Int)) = false := decide_eq_false (by omega)
      have f2 : ¬ (i : Int) < (k : Int) := by omega
      obtain ⟨w3, rfl⟩ : ∃ z : World, z = wr := ⟨_, rfl⟩
      obtain ⟨m, hm⟩ : ∃ m, odd.length = m := ⟨_, rfl⟩
      have HM := Lib.hid hm
      rw [hm] at hodd
      clear S2 R2 B2 BL HM1 HP1 hlt
      go_upto_region 24 with fail
      go_loopw [18] (fun jv wx => ∃ j : Nat, jv = .int .i64 j ∧ j ≤ m ∧ (10 : UInt8) ∉ odd.take j ∧ wx = w3) (fun jv _ => m - (intOf jv).toNat)
      case atStart => exact ⟨0, rfl, Nat.zero_le _, by simp, rfl⟩
      case round =>
        obtain ⟨j, rfl, hj, hno, hwx⟩ := hrel
        have NO := Lib.hid hno
        obtain ⟨w4, rfl⟩ : ∃ z : World, z = wr := ⟨_, rfl⟩
        subst hwx
        clear hno
        by_cases hlj : j < m
        · obtain ⟨ch, hch⟩ : ∃ ch, odd[j]? = some ch := ⟨_, List.getElem?_eq_getElem (by rw [HM.out]; exact hlj)⟩
          have HCH := Lib.hid hch
          have e0 : ∀ h, ((⟨odd.toArray⟩ : ByteArray)[j]'h).toNat = ch.toNat := fun h => congrArg UInt8.toNat (List.getElem?_eq_some_iff.1 hch).2
          have g1 : decide ((j : Int) < (m : Int)) = true := decide_eq_true (by omega)
          have g2 : (j : Int) < (m : Int) := by omega
          have g3 : (0 : Int) ≤ (j : Int) := by omega
          have p1 : IntKind.i64.wrap ((j : Int) + 1) = ((j + 1 : Nat) : Int) := by rw [IntWalk.i64_in _ (by omega)]; omega
          clear hch
          obtain ⟨cn, hcn⟩ : ∃ cn, ch.toNat = cn := ⟨_, rfl⟩
          rw [hcn] at e0
          by_cases hc : cn = 10
          · have q1 : ((cn : Int) == 10) = true := by rw [hc]; rfl
            clear hc hcn
            go_wp2_with (
              go_at_call 11
              refine (tAwake _ (HE.out.below BW.out)).mono ?_
              rintro e w5 ⟨rfl, hb5⟩
              have B5 := Lib.hid (BW.out.trans (hb5.mono BW.out.size))
              clear hb5)
            go_ret
            exact ⟨rfl, B5.out⟩
          · have q1 : ((cn : Int) == 10) = false := by rw [beq_eq_false_iff_ne]; omega
            have HC := Lib.hid (show ch ≠ 10 by rintro rfl; exact hc hcn.symm)
            clear hc hcn
            go_wp2_with fail
            go_roundw
            case rel => exact ⟨j + 1, by simp, hlj, calm_snoc NO.out HCH.out HC.out, trivial⟩
            case measure =>
              simp only [intOf]
              omega
        · have g1 : decide ((j : Int) < (m : Int)) = false := decide_eq_false (by omega)
          have g2 : ¬ (j : Int) < (m : Int) := by omega
          have CALM := Lib.hid (show (10 : UInt8) ∉ odd by have h := NO.out; rw [List.take_of_length_le (by rw [HM.out]; omega)] at h; exact h)
          clear hlj NO
          have hs5 : odd.length ≤ 1000000000 := by rw [HM.out]; omega
          have TS := Lib.hid (tStep odd w4 (HE.out.below BW.out) hs5)
          obtain ⟨zz, hz⟩ : ∃ z, (stepT odd).getD zeroS = z := ⟨_, rfl⟩
          clear hs5
          cases ho : stepT odd with
          | some z =>
            rw [ho] at TS
            clear ho hz
            go_wp2_with (first
              | (go_at_call 12
                 refine TS.out.mono ?_
                 rintro e w5 ⟨⟨Z, cz, rfl, hd, _⟩, hb5⟩
                 have B5 := Lib.hid (BW.out.trans (hb5.mono BW.out.size))
                 clear hb5 hd
                 unfold stepV)
              | (go_at_call 11
                 refine (tAwake _ (by exact HE.out.below (B5.out.alloc B5.out.size _))).mono ?_
                 rintro e w6 ⟨rfl, hb6⟩
                 have B6 := Lib.hid (show Below w.heap.size w w6 from (B5.out.alloc B5.out.size _).trans (hb6.mono (by have := B5.out.size; simp; omega)))
                 clear hb6))
            go_ret
            exact ⟨rfl, B6.out⟩
          | none =>
            rw [ho] at TS
            have HO := Lib.hid ho
            clear ho hz
            by_cases hbig : 2000 < m
            · have q1 : decide ((2000 : Int) < (m : Int)) = true := decide_eq_true (by omega)
              clear hbig
              go_wp2_with (first
                | (go_at_call 12
                   refine TS.out.mono ?_
                   rintro e w5 ⟨htold, hb5⟩
                   obtain rfl : e = .returned (.tuple #[stepV zeroS none 0, .int .i64 15]) := htold
                   have B5 := Lib.hid (BW.out.trans (hb5.mono BW.out.size))
                   clear hb5
                   unfold stepV zeroS)
                | (go_at_call 11
                   refine (tAwake _ (by exact HE.out.below (B5.out.alloc B5.out.size _))).mono ?_
                   rintro e w6 ⟨rfl, hb6⟩
                   have B6 := Lib.hid (show Below w.heap.size w w6 from (B5.out.alloc B5.out.size _).trans (hb6.mono (by have := B5.out.size; simp; omega)))
                   clear hb6))
              go_ret
              exact ⟨rfl, B6.out⟩
            · have q1 : decide ((2000 : Int) < (m : Int)) = false := decide_eq_false (by omega)
              have RT := Lib.hid (many_odd SY.out (by rw [List.length_map, HPL.out]; omega) CALM.out HO.out)
              rw [HTX.out, List.length_map, HPL.out] at RT
              have s1 : ¬ 9223372036854775807 < tx.length + m := by omega
              have s2 : ¬ 9223372036854775807 < tx.length + m + 1 := by omega
              have s3 : ¬ 9223372036854775807 < tx.length + m + 1 + tx.length := by omega
              have p2 : IntKind.i64.wrap ((k : Int) + 1) = ((k + 1 : Nat) : Int) := by rw [IntWalk.i64_in _ (by omega)]; omega
              have RD := Lib.hid (show ∀ W, Env W → Calls Tryd.prog 15 #[.string ((((⟨tx.toArray⟩ : ByteArray) ++ ⟨odd.toArray⟩) ++ ⟨#[10]⟩) ++ ⟨tx.toArray⟩)] W fun e w' => e = .returned (.tuple #[.slice none 0 0, .int .i64 ((k + 1 : Nat) : Int), .int .i64 15]) ∧ Below W.heap.size W w' from fun W hW => by
                have h := tRead (((tx ++ odd) ++ [10]) ++ tx) W hW (by rw [List.length_append, List.length_append, List.length_append, HM.out, List.length_singleton]; omega)
                rw [RT.out] at h
                have e1 : strV (((tx ++ odd) ++ [10]) ++ tx) = .string ((((⟨tx.toArray⟩ : ByteArray) ++ ⟨odd.toArray⟩) ++ ⟨#[10]⟩) ++ ⟨tx.toArray⟩) := by
                  show Value.string _ = Value.string (((⟨tx.toArray⟩ ++ ⟨odd.toArray⟩) ++ ⟨[10].toArray⟩) ++ ⟨tx.toArray⟩)
                  rw [str_cat, str_cat, str_cat]
                rw [e1] at h
                exact h)
              clear hbig RT
              go_wp2_with (first
                | (go_at_call 12
                   refine TS.out.mono ?_
                   rintro e w5 ⟨htold, hb5⟩
                   obtain rfl : e = .returned (.tuple #[stepV zeroS none 0, .int .i64 15]) := htold
                   have B5 := Lib.hid (BW.out.trans (hb5.mono BW.out.size))
                   clear hb5
                   unfold stepV zeroS)
                | (go_at_call 15
                   refine (RD.out _ (by exact HE.out.below (B5.out.alloc B5.out.size _))).mono ?_
                   rintro e w6 ⟨rfl, hb6⟩
                   have B6 := Lib.hid (show Below w.heap.size w w6 from (B5.out.alloc B5.out.size _).trans (hb6.mono (by have := B5.out.size; simp; omega)))
                   clear hb6)
                | (go_at_call 11
                   refine (tAwake _ (by exact HE.out.below B6.out)).mono ?_
                   rintro e w7 ⟨rfl, hb7⟩
                   have B7 := Lib.hid (show Below w.heap.size w w7 from B6.out.trans (hb7.mono B6.out.size))
                   clear hb7))
              go_ret
              exact ⟨rfl, B7.out⟩
end
end Go.Proofs.YtkkmojbaoflafaaDoor
