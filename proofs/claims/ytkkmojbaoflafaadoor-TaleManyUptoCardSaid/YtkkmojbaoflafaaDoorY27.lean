/- The document's steps of a text. No condition beyond those that each theorem states. -/
import Derived.Test.YtkkmojbaoflafaaDoorY12
import Derived.Test.YtkkmojbaoflafaaDoorY25
import Derived.Deep.DeepCutAuto
import Derived.Deep.CutBlock
import Derived.Deep.RegionHeldLaw
namespace Go.Proofs.YtkkmojbaoflafaaDoor
open Go.RowKit Go.Shelf
attribute [local go_sem] Oper.semAt_some

theorem split_many (c : UInt8) : ∀ s : Str, (splitT c s).length ≤ s.length + 1
  | [] => by simp [splitT]
  | y :: r => by
    have ih := split_many c r
    unfold splitT
    split
    · simp only [List.length_cons]; omega
    · cases hs : splitT c r with
      | nil => exact absurd hs (splitT_ne c r)
      | cons p t =>
        rw [hs] at ih
        simp only [List.length_cons] at ih ⊢
        omega
theorem RowM.ne {w : World} {g g' : Nat} {t t' : TypeId} {vals : List Value} {cs : Array Value} (h : RowM w g t vals) (h' : Blk w g' t' cs) (hne : t ≠ t') : g ≠ g' := by
  rintro rfl
  obtain ⟨cs', m, h, _⟩ := h
  unfold Blk at h'
  rw [h] at h'
  injection h' with h'
  injection h' with _ ht
  exact hne ht
theorem lines_take (s : Str) : ∃ n M x, (splitT 10 s).length = M + 1 ∧ (linesT s).length = n ∧ linesT s = (splitT 10 s).take n ∧ (splitT 10 s)[M]? = some x ∧ ((x = [] ∧ n = M) ∨ (x ≠ [] ∧ n = M + 1)) := by
  have hne := splitT_ne 10 s
  obtain ⟨l, hl⟩ : ∃ l, splitT 10 s = l := ⟨_, rfl⟩
  unfold linesT
  rw [hl] at hne ⊢
  obtain ⟨M, hM⟩ : ∃ M, l.length = M + 1 := ⟨l.length - 1, by have := List.length_pos_iff.2 hne; omega⟩
  obtain ⟨x, hx⟩ : ∃ x, l[M]? = some x := ⟨_, List.getElem?_eq_getElem (by omega)⟩
  have hlast : l.getLast? = some x := by rw [List.getLast?_eq_getElem?, hM]; simpa using hx
  by_cases h : x = []
  · refine ⟨M, M, x, hM, ?_, ?_, hx, .inl ⟨h, rfl⟩⟩
    · rw [if_pos (by rw [hlast, h]), List.length_dropLast]
      omega
    · rw [if_pos (by rw [hlast, h]), List.dropLast_eq_take, hM]
      rfl
  · refine ⟨M + 1, M, x, hM, ?_, ?_, hx, .inr ⟨h, rfl⟩⟩
    · rw [if_neg (by rw [hlast]; simpa using h), hM]
    · rw [if_neg (by rw [hlast]; simpa using h), List.take_of_length_le (by omega)]
theorem read_ok_at {ls : List Str} {PL : List StepP} {i : Nat} (h : (ls.take i).map stepT = PL.map fun p => some p.x) (hi : i ≤ 65536) (hil : i ≤ ls.length) : readFrom [] ls = readFrom (PL.map (·.x)) (ls.drop i) := by
  have h1 := read_ok (ls.take i) (PL.map (·.x)) [] (ls.drop i) (by rw [h, List.map_map]; rfl) (by simp; omega)
  rw [List.take_append_drop, List.nil_append] at h1
  exact h1
theorem drop_line {ls : List Str} {i : Nat} {x : Str} (h : ls[i]? = some x) : ls.drop i = x :: ls.drop (i + 1) := by
  obtain ⟨hi, he⟩ := List.getElem?_eq_some_iff.1 h
  rw [List.drop_eq_getElem_cons hi, he]
theorem take_line {ls : List Str} {i : Nat} {x : Str} (h : ls[i]? = some x) : ls.take (i + 1) = ls.take i ++ [x] := by
  rw [List.take_add_one, h]
  rfl
def RStepsAt (w : World) (v : Value) (L : List StepV) : Prop := ∃ PL : List StepP, PL.map (·.x) = L ∧ w.ownsRow 0 24 5 v L.length (stepVals PL) ∧ ∀ p ∈ PL, DatB (fun _ => True) w p.A p.x.data
theorem StepsAt.of {w : World} {v : Value} {L : List StepV} (h : StepsAt w v L) : RStepsAt w v L := by
  obtain ⟨PL, h1, h2, h3⟩ := h
  refine ⟨PL, h1, h2, fun p hp => ?_⟩
  rcases h3 p hp with ⟨ha, _, hl⟩ | ⟨g, ha, _, _, cs, hr, ht⟩
  · exact .inl ⟨ha, hl⟩
  · exact .inr ⟨g, ha, trivial, cs, _, hr, ht⟩
def RReadTold (o : ReadV) (e : Ending) (w' : World) : Prop := match o with
  | .ok L => ∃ v, e = .returned (.tuple #[v, .int .i64 0, .int .i64 0]) ∧ RStepsAt w' v L
  | .over => e = .returned (.tuple #[.slice none 0 0, .int .i64 0, .int .i64 16])
  | .bad n => e = .returned (.tuple #[.slice none 0 0, .int .i64 n, .int .i64 15])
theorem DatB.grown {P : Nat → Prop} {w w' : World} {A : Option Addr} {l : Str} {B : Option Nat} (h : DatB P w A l) (hg : w.grownBy w' B) (hb : ∀ q, B = some q → ∃ cs, Blk w q 24 cs) : DatB P w' A l :=
  h.imp id fun ⟨g, h1, h2, h3⟩ => ⟨g, h1, h2, h3.of_eq (hg.block g h3.size (fun e => by
    obtain ⟨cs, hc⟩ := hb g e.symm
    exact h3.ne hc (by decide) rfl))⟩
section
set_option maxHeartbeats 16000000
set_option maxRecDepth 100000
theorem rRead (s : Str) (w : World) (hs : s.length ≤ 1000000000) :
    Calls Tryd.prog 16 #[strV s] w fun e w' => RReadTold (readT s) e w' ∧ Below w.heap.size w w' := by
  obtain ⟨i0, hi0, hz0, hz1, hz2⟩ := info_parts step_info
  obtain ⟨n, M, x, hN, hn, hls, hx, hcase⟩ := lines_take s
  have hrd : readT s = readFrom [] (linesT s) := rfl
  have hall : ∀ x ∈ linesT s, x.length ≤ 1000000000 := fun x hx => Nat.le_trans (split_len (by rw [hls] at hx; exact List.mem_of_mem_take hx)) hs
  have SPL := Lib.hid (rSplit s 10 ((w.alloc (.cells #[] 24))) hs)
  obtain ⟨ls, hls2⟩ : ∃ ls, linesT s = ls := ⟨_, rfl⟩
  obtain ⟨rows, hrows⟩ : ∃ rows, splitT 10 s = rows := ⟨_, rfl⟩
  rw [hls2] at hn hls hrd hall
  rw [hrows] at hN hls hx SPL
  have OW0 := Lib.hid (World.ownsRow_lit (base := w.heap.size) (e := 24) (size := 5) w #[] 0 (Nat.le_refl _) (by decide) rfl)
  have RD := Lib.hid hrd
  have AL := Lib.hid hall
  have HN := Lib.hid hn
  have HL := Lib.hid hls
  have HX := Lib.hid hx
  obtain ⟨N, hNN⟩ : ∃ N, rows.length = N := ⟨_, rfl⟩
  rw [hNN] at SPL hN
  have hN9 : N ≤ 1000000001 := by have h := split_many 10 s; rw [hrows, hNN] at h; omega
  have hM := hN
  clear hrd hall hn hls hx hls2 hrows hN
  go_enter Tryd.func16, Tryd.ntmps16
  go_upto_region 3 with (
    go_at_call 28
    refine SPL.out.mono ?_
    rintro e w1 ⟨⟨v, rfl, hrow⟩, hb1⟩
    have R0 := Lib.hid hrow
    have OW1 := Lib.hid (own_of_eq OW0.out (fun g hg => hb1.block g (OW0.out.lt g hg).2))
    have B1 := Lib.hid (show Below w.heap.size w w1 from ((Below.refl _ w).alloc (Nat.le_refl _) _).trans (hb1.mono (by simp)))
    clear hrow hb1)
  obtain ⟨g, cap, rfl⟩ := own_some R0.out (by omega)
  have hcap : N ≤ cap := (own_cap R0.out).1
  have R1 := Lib.hid (RowAt.of_own R0.out)
  have hg1 : g < w1.heap.size := R1.out.size
  have hzw : w.heap.size ≤ w1.heap.size := B1.out.size
  have pw : IntKind.i64.wrap ((N : Int) - 1) = (M : Int) := by rw [IntWalk.i64_in _ (by omega)]; omega
  have g0 : (0 : Int) ≤ (M : Int) := by omega
  have g1 : (M : Int) < (N : Int) := by omega
  have g2 : M < N := by omega
  have g3 : (M : Int) ≤ (cap : Int) := by omega
  have g4 : M ≤ cap := by omega
  have kM : w1.cell? ⟨g, M, none⟩ = some (strV x) := R1.out.cell (by rw [List.getElem?_map, HX.out]; rfl)
  have hnN : n ≤ N := by omega
  have HM := Lib.hid hM
  clear R0 OW0 SPL hM
  go_cut [19] (fun v wx => v = .bool (decide (n = M)) ∧ wx = w1)
  case first =>
    rcases hcase with ⟨rfl, rfl⟩ | ⟨hx, hnM⟩
    · go_wp2_with fail
      go_meet
      exact ⟨by simp, rfl⟩
    · have hq : (x == []) = false := by simpa using hx
      have hq2 : (⟨x.toArray⟩ : ByteArray) ≠ ⟨#[]⟩ := fun h => hx (by have h2 := congrArg (fun b => b.data.toList) h; simpa using h2)
      have hnn : decide (n = M) = false := decide_eq_false (by omega)
      clear hx hnM
      go_wp2_with fail
      go_meet
      exact ⟨by rw [hnn], rfl⟩
  case rest =>
  obtain ⟨rfl, hwc⟩ := hcut
  obtain ⟨wm, rfl⟩ : ∃ wm : World, wm = wc := ⟨_, rfl⟩
  subst hwc
  have hcs : n = M ∨ n = N := by
    have h1 := HM.out
    rcases hcase with h | h
    · exact .inl h.2
    · exact .inr (by omega)
  clear hcase
  go_upto_if 19 with fail
  go_cut [6] (fun v wx => v = .slice (some ⟨g, 0, none⟩) n cap ∧ wx = wm)
  case first =>
    by_cases hnM : n = M
    · subst hnM
      have dd : decide (n = n) = true := decide_eq_true rfl
      rw [dd]
      go_wp2_with fail
      go_meet
      exact ⟨rfl, rfl⟩
    · have dd : decide (n = M) = false := decide_eq_false hnM
      have hnn : n = N := by omega
      rw [dd]
      clear dd hcs hnM
      subst hnn
      go_wp2_with fail
      go_meet
      exact ⟨rfl, rfl⟩
  case rest =>
  obtain ⟨rfl, hwc⟩ := hcut
  obtain ⟨wn, rfl⟩ : ∃ wn : World, wn = wc := ⟨_, rfl⟩
  subst hwc
  clear pw g0 g1 g2 g3 g4 kM hcs
  go_upto_region 6 with fail
  go_loopw [5, 7] (fun ov iv wr => ∃ (i : Nat) (PL : List StepP), iv = .int .i64 i ∧ i ≤ n ∧ i ≤ 65536 ∧ PL.length = i ∧ wr.ownsRow w.heap.size 24 5 ov i (stepVals PL) ∧ (ls.take i).map stepT = (PL.map fun p => some p.x) ∧
    (∀ p ∈ PL, DatB (fun _ => True) wr p.A p.x.data) ∧ RowAt wr g 9 (rows.map strV) ∧ Below w.heap.size w wr) (fun _ iv _ => n - (intOf iv).toNat)
  case atStart => exact ⟨0, [], rfl, Nat.zero_le _, by omega, rfl, OW1.out, rfl, (fun p hp => by cases hp), R1.out, B1.out⟩
  case round =>
    obtain ⟨i, PL, rfl, hin, hi6, hPL, hown, hdone, hdat, hrow, hbl⟩ := hrel
    obtain ⟨B, cc, rfl⟩ := own_form hown
    have OW := Lib.hid hown
    have DN := Lib.hid hdone
    have DA := Lib.hid hdat
    have RW := Lib.hid hrow
    have BL := Lib.hid hbl
    have HPL := Lib.hid hPL
    have hz := hbl.size
    have hgr : g < wr.heap.size := hrow.size
    clear hown hdone hdat hrow hbl hPL OW1
    have RA := Lib.hid (show readT s = readFrom (PL.map (·.x)) (ls.drop i) by rw [RD.out]; exact read_ok_at DN.out hi6 (by rw [HN.out]; exact hin))
    by_cases hlt : i < n
    · obtain ⟨sj, hsj⟩ : ∃ sj, ls[i]? = some sj := ⟨_, List.getElem?_eq_getElem (by rw [HN.out]; exact hlt)⟩
      have hlen : sj.length ≤ 1000000000 := AL.out sj (List.mem_of_getElem? hsj)
      have hrj : rows[i]? = some sj := by rw [HL.out, List.getElem?_take, if_pos hlt] at hsj; exact hsj
      have HSJ := Lib.hid hsj
      have f1 : decide ((i : Int) < (n : Int)) = true := decide_eq_true (by omega)
      have f2 : (i : Int) < (n : Int) := by omega
      have f3 : (0 : Int) ≤ (i : Int) := by omega
      have p1 : IntKind.i64.wrap ((i : Int) + 1) = ((i + 1 : Nat) : Int) := by rw [IntWalk.i64_in _ (by omega)]; omega
      by_cases hfull : 65536 ≤ i
      · have d1 : decide ((65536 : Int) ≤ (i : Int)) = true := decide_eq_true (by omega)
        have d2 : (65536 : Int) ≤ (i : Int) := by omega
        have RES := Lib.hid (show readT s = .over by rw [RA.out, drop_line hsj, readFrom, if_pos (by rw [List.length_map, HPL.out]; exact hfull)])
        clear hsj hrj hlen
        go_wp2_with fail
        go_ret3
        exact ⟨by rw [RES.out]; rfl, BL.out⟩
      · have d1 : decide ((65536 : Int) ≤ (i : Int)) = false := decide_eq_false (by omega)
        have d2 : ¬ (65536 : Int) ≤ (i : Int) := by omega
        have RN := Lib.hid (show readT s = match stepT sj with | none => .bad (i + 1) | some x => readFrom (PL.map (·.x) ++ [x]) (ls.drop (i + 1)) by
          rw [RA.out, drop_line hsj, readFrom, if_neg (by rw [List.length_map, HPL.out]; exact hfull), List.length_map, HPL.out]
          cases stepT sj <;> rfl)
        have kj : wr.cell? ⟨g, i, none⟩ = some (strV sj) := RW.out.cell (by rw [List.getElem?_map, hrj]; rfl)
        have ST := Lib.hid (rStep sj wr hlen)
        clear hsj hrj hlen
        cases ho : stepT sj with
        | none =>
          rw [ho] at ST RN
          clear ho
          go_wp2_with (
            go_at_call 14
            refine ST.out.mono ?_
            rintro e w3 ⟨htold, hb3⟩
            obtain rfl : e = .returned (.tuple #[stepV zeroS none 0, .int .i64 15]) := htold
            have B3 := Lib.hid (show Below w.heap.size w w3 from BL.out.trans (hb3.mono BL.out.size))
            clear hb3
            unfold stepV zeroS)
          go_ret3
          exact ⟨by rw [RN.out]; rfl, B3.out.alloc B3.out.size _⟩
        | some y =>
          rw [ho] at ST RN
          have HO := Lib.hid ho
          clear ho
          go_upto_region 11 with (
            go_at_call 14
            refine ST.out.mono ?_
            rintro e w3 ⟨⟨A', c', rfl, hd⟩, hb3⟩
            have D3 := Lib.hid hd
            have HB3 := Lib.hid hb3
            have B3 := Lib.hid (show Below w.heap.size w w3 from BL.out.trans (hb3.mono BL.out.size))
            clear hb3 hd
            unfold stepV)
          obtain ⟨w4, hw4⟩ : ∃ v, w3.alloc (.cells #[.int .i64 y.kind, .int .i64 y.a, .int .i64 y.b, .string ⟨y.key.toArray⟩, .slice A' y.data.length c'] 24) = v := ⟨_, rfl⟩
          have hb34 : Below wr.heap.size wr w4 := by rw [← hw4]; exact HB3.out.alloc HB3.out.size _
          have B4 := Lib.hid (show Below w.heap.size w w4 by rw [← hw4]; exact B3.out.alloc B3.out.size _)
          have X4 := Lib.hid (show Blk w4 w3.heap.size 24 (stepCells y A' c') by rw [← hw4]; exact Blk.made _ _ _)
          have D4 := Lib.hid (show DatB (fun _ => True) w4 A' y.data by rw [← hw4]; exact (D3.out.below ((Below.refl _ w3).alloc (Nat.le_refl _) _)).mono (fun _ _ => trivial))
          have OW4 := Lib.hid (own_of_eq OW.out (fun g hg => hb34.block g (OW.out.lt g hg).2))
          have DA4 := Lib.hid (show ∀ p ∈ PL, DatB (fun _ => True) w4 p.A p.x.data from fun p hp => (DA.out p hp).below hb34)
          have R4 := Lib.hid (show RowAt w4 g 9 (rows.map strV) from RW.out.of_eq (hb34.block g hgr))
          rw [hw4]
          clear hw4 hb34 kj D3 HB3 B3
          have x0 : w4.cell? ⟨w3.heap.size, 0, none⟩ = some (.int .i64 y.kind) := X4.out.cell 0
          have x1 : w4.cell? ⟨w3.heap.size, 1, none⟩ = some (.int .i64 y.a) := X4.out.cell 1
          have x2 : w4.cell? ⟨w3.heap.size, 2, none⟩ = some (.int .i64 y.b) := X4.out.cell 2
          have x3 : w4.cell? ⟨w3.heap.size, 3, none⟩ = some (strV y.key) := X4.out.cell 3
          have x4 : w4.cell? ⟨w3.heap.size, 4, none⟩ = some (.slice A' y.data.length c') := X4.out.cell 4
          have hz4 : w.heap.size ≤ w4.heap.size := B4.out.size
          go_wp2_with (
            at_builtin
            refine wpList_append_own _ rfl _ _ 38 rfl w.heap.size 24 i0 _ 5 64 Tryd.underlying38 hi0 hz0 hz1 hz2 rfl (by decide) (.slice B i cc) i (stepVals PL) rfl (by exact OW4.out.alloc _) ⟨w4.heap.size, 0, none⟩ 1 1 (stepCells y A' c').toList rfl rfl (by exact cells_new _ _ _ rfl) (by exact step_ones y A' c') (by exact len_ok1 hi6) (by exact len_ok2 hi6) (by simp; omega) ?_
            intro v7 w7 hown7 hgr7 _
            obtain ⟨B7, c7, rfl⟩ := own_form hown7
            have O7 := Lib.hid hown7
            have G7 := Lib.hid hgr7
            clear hown7 hgr7)
          go_roundw
          case rel =>
            have hkind : ∀ q, (Value.slice B i cc).ownBlock = some q → ∃ cs, Blk (w4.alloc (.cells (stepCells y A' c') 24)) q 24 cs := fun q hq => own_blk (OW4.out.alloc _) hq
            have hal : Below w4.heap.size w4 (w4.alloc (.cells (stepCells y A' c') 24)) := (Below.refl _ w4).alloc (Nat.le_refl _) _
            refine ⟨i + 1, PL ++ [⟨y, A', c'⟩], by simp, hlt, by omega, by rw [List.length_append, HPL.out]; rfl, ?_, ?_, ?_, ?_, ?_⟩
            · have e : stepVals (PL ++ [⟨y, A', c'⟩]) = stepVals PL ++ (stepCells y A' c').toList := by simp [stepVals]
              rw [e]
              exact O7.out
            · rw [take_line HSJ.out, List.map_append, DN.out, List.map_append, List.map_singleton, List.map_singleton, HO.out]
            · intro p hp
              rcases List.mem_append.1 hp with hp | hp
              · exact ((DA4.out p hp).below hal).grown G7.out hkind
              · rw [List.mem_singleton] at hp
                subst hp
                exact (D4.out.below hal).grown G7.out hkind
            · refine (R4.out.of_eq (hal.block g R4.out.size)).of_eq (G7.out.block g (by have h := Nat.lt_of_lt_of_le R4.out.size hal.size; exact h) (fun e => ?_))
              obtain ⟨cs, hc⟩ := hkind g e.symm
              exact (R4.out.of_eq (hal.block g R4.out.size)).ne hc (by decide) rfl
            · have hb1 : Below w.heap.size w (w4.alloc (.cells (stepCells y A' c') 24)) := B4.out.alloc hz4 _
              exact hb1.grown G7.out hb1.size (fun q hq => (OW4.out.lt q hq).1)
          case measure =>
            simp only [intOf]
            omega
    · have hie : i = n := by omega
      have f1 : decide ((i : Int) < (n : Int)) = false := decide_eq_false (by omega)
      have f2 : ¬ (i : Int) < (n : Int) := by omega
      have RES := Lib.hid (show readT s = .ok (PL.map (·.x)) by rw [RA.out, List.drop_of_length_le (by rw [HN.out]; omega)]; rfl)
      have OE := Lib.hid (show wr.ownsRow 0 24 5 (.slice B i cc) (PL.map (·.x)).length (stepVals PL) by rw [List.length_map, HPL.out]; exact Joins.ownsRow_le OW.out (Nat.zero_le _))
      clear hie hin
      go_wp2_with fail
      go_ret3
      exact ⟨by rw [RES.out]; exact ⟨_, rfl, PL, rfl, OE.out, DA.out⟩, BL.out⟩
end
end Go.Proofs.YtkkmojbaoflafaaDoor
