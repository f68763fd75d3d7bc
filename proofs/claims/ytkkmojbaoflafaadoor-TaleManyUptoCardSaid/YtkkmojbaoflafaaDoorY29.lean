/- The document's line of a step. No condition beyond those that each theorem states. -/
import Derived.Test.YtkkmojbaoflafaaDoorY15
import Derived.Test.YtkkmojbaoflafaaDoorY17
import Derived.Test.YtkkmojbaoflafaaDoorY24
import Derived.Deep.DeepCutAuto
import Derived.Deep.CutBlock
namespace Go.Proofs.YtkkmojbaoflafaaDoor
open Go.RowKit Go.Shelf
attribute [local go_sem] Oper.semAt_some

theorem tail_take (x : StepV) (has : Str) (j : Nat) : (tailT x (has.take j)).length ≤ (tailT x has).length := by
  have e : tailT x has = tailT x (has.take j) ++ tailT x (has.drop j) := by
    unfold tailT
    rw [← List.flatMap_append, List.take_append_drop]
  rw [e, List.length_append]
  omega
theorem tail_succ {x : StepV} {has : Str} {j : Nat} {ch : UInt8} (h : has[j]? = some ch) : tailT x (has.take (j + 1)) = tailT x (has.take j) ++ 32 :: partT x ch := by
  unfold tailT
  rw [List.take_add_one, h, List.flatMap_append]
  simp
section
set_option maxHeartbeats 16000000
set_option maxRecDepth 100000
theorem rLine (x : StepV) (A : Option Addr) (c : Nat) (w : World) (hd : BytesIn w A x.data.length x.data) (ha : Wf64 x.a) (hb : Wf64 x.b) (hs : x.key.length + x.data.length ≤ 1099511627776) :
    Calls Tryd.prog 10 #[stepV x A c] w fun e w' => e = .returned (lineV (lineT x)) ∧ Below w.heap.size w w' := by
  obtain ⟨kind, a, b, key, data⟩ := x
  have HD := Lib.hid hd
  have HA := Lib.hid ha
  have HB := Lib.hid hb
  simp only at hs HD HA HB
  clear hd ha hb
  unfold stepV
  simp only
  by_cases h1 : kind < 1
  · have d1 : decide (kind < 1) = true := by simpa using h1
    have hno : lineT ⟨kind, a, b, key, data⟩ = none := by simp only [lineT, formAt]; rw [if_neg (by omega)]
    rw [hno]
    clear hno
    go_enter Tryd.func10, Tryd.ntmps10
    have c0 : (w.alloc (.cells #[.int .i64 kind, .int .i64 a, .int .i64 b, strV key, .slice A data.length c] 24)).cell? ⟨w.heap.size, 0, none⟩ = some (.int .i64 kind) := (Blk.made w 24 _).cell 0
    go_wp2_with fail
    go_ret2
    exact ⟨rfl, (Below.refl _ w).alloc (Nat.le_refl _) _⟩
  by_cases h2 : 19 < kind
  · have d1 : decide (kind < 1) = false := by simpa using h1
    have d2 : decide ((19 : Int) < kind) = true := by simpa using h2
    have hno : lineT ⟨kind, a, b, key, data⟩ = none := by
      simp only [lineT, formAt]
      rw [if_pos (by omega), List.getElem?_eq_none (by rw [forms_len]; omega)]
    rw [hno]
    clear hno
    go_enter Tryd.func10, Tryd.ntmps10
    have c0 : (w.alloc (.cells #[.int .i64 kind, .int .i64 a, .int .i64 b, strV key, .slice A data.length c] 24)).cell? ⟨w.heap.size, 0, none⟩ = some (.int .i64 kind) := (Blk.made w 24 _).cell 0
    go_wp2_with fail
    go_ret2
    exact ⟨rfl, (Below.refl _ w).alloc (Nat.le_refl _) _⟩
  obtain ⟨k, k1, hk, hkk, rfl⟩ : ∃ k k1 : Nat, k < 19 ∧ k1 = k + 1 ∧ kind = (k1 : Int) := ⟨(kind - 1).toNat, kind.toNat, by omega, by omega, by omega⟩
  obtain ⟨f, hf⟩ := forms_get hk
  have HF := Lib.hid hf
  have d1 : decide ((k1 : Int) < 1) = false := decide_eq_false (by omega)
  have d2 : decide ((19 : Int) < (k1 : Int)) = false := decide_eq_false (by omega)
  have d3 : ¬ (k1 : Int) < 1 := by omega
  have d4 : ¬ (19 : Int) < (k1 : Int) := by omega
  have hline : lineT ⟨(k1 : Int), a, b, key, data⟩ = if fitsT f.2 ⟨(k1 : Int), a, b, key, data⟩ then some (f.1 ++ tailT ⟨(k1 : Int), a, b, key, data⟩ f.2) else none := by
    have h : formAt (k1 : Int) = some f := by
      unfold formAt
      rw [if_pos (by omega), show ((k1 : Int) - 1).toNat = k by omega]
      exact hf
    simp only [lineT, h]
  have LN := Lib.hid hline
  have HK := Lib.hid hkk
  have hl2 : f.2.length ≤ 2 := by
    have h1 := (forms_facts f (List.mem_of_getElem? HF.out)).2.2
    have h2 : ∀ h ∈ kinds, h.length ≤ 2 := by decide
    exact h2 _ h1
  obtain ⟨w0, hw0⟩ : ∃ v, w.alloc (.cells #[.int .i64 (k1 : Int), .int .i64 a, .int .i64 b, strV key, .slice A data.length c] 24) = v := ⟨_, rfl⟩
  have BX0 := Lib.hid (show Blk w0 w.heap.size 24 #[.int .i64 (k1 : Int), .int .i64 a, .int .i64 b, strV key, .slice A data.length c] by rw [← hw0]; exact Blk.made w _ _)
  have B0 := Lib.hid (show Below w.heap.size w w0 by rw [← hw0]; exact (Below.refl _ w).alloc (Nat.le_refl _) _)
  have RW := Lib.hid (rWord k1 f.1 f.2 (by rw [HK.out]; exact (words_get hf).1) (by rw [HK.out]; exact (words_get hf).2) w0)
  clear hline hf h1 h2 hkk hk
  go_enter Tryd.func10, Tryd.ntmps10
  go_upto_region 1 with fail
  clear hw0
  have c0 : w0.cell? ⟨w.heap.size, 0, none⟩ = some (.int .i64 (k1 : Int)) := BX0.out.cell 0
  go_upto_region 4 with (
    go_at_call 22
    refine RW.out.mono ?_
    rintro e w2 ⟨rfl, hb2⟩
    have B2 := Lib.hid (show Below w.heap.size w w2 from B0.out.trans (hb2.mono B0.out.size))
    have X2 := Lib.hid (BX0.out.below hb2 BX0.out.size)
    clear hb2)
  have hw2 : w.heap.size < w2.heap.size := X2.out.size
  clear RW c0 d1 d2 d3 d4
  have x1 : w2.cell? ⟨w.heap.size, 1, none⟩ = some (.int .i64 a) := X2.out.cell 1
  have x2 : w2.cell? ⟨w.heap.size, 2, none⟩ = some (.int .i64 b) := X2.out.cell 2
  have x3 : w2.cell? ⟨w.heap.size, 3, none⟩ = some (strV key) := X2.out.cell 3
  have x4 : w2.cell? ⟨w.heap.size, 4, none⟩ = some (.slice A data.length c) := X2.out.cell 4
  obtain ⟨H, hH⟩ : ∃ H : Int → Bool, H = fun z => f.2.contains (UInt8.ofNat z.toNat) := ⟨_, rfl⟩
  have RH := Lib.hid (show ∀ z : Int, 0 ≤ z → z < 256 → Calls Tryd.prog 23 #[strV f.2, .int .u8 z] w2 fun e w' => e = .returned (.bool (H z)) ∧ w2 = w' from fun z h1 h2 => by
    have h := rHas f.2 (UInt8.ofNat z.toNat) w2 (by omega)
    rw [show ((UInt8.ofNat z.toNat).toNat : Int) = z by rw [UInt8.toNat_ofNat']; omega] at h
    rw [hH]
    exact h)
  go_cut [59] (fun v wx => v = .bool (!fitsT f.2 ⟨(k1 : Int), a, b, key, data⟩) ∧ wx = w2)
  case first =>
    have FT := Lib.hid (show fitsT f.2 ⟨(k1 : Int), a, b, key, data⟩ = ((H 107 || decide (key = [])) && (H 100 || decide (data = [])) && (H 97 || decide (a = 0)) && (H 98 || decide (b = 0))) by rw [hH]; rfl)
    clear hH LN
    by_cases ek : key = []
    · have hqk : (key == []) = true := by simpa using ek
      by_cases ed : data = []
      · have hqd : decide ((0 : Int) < (data.length : Int)) = false := decide_eq_false (by rw [ed]; simp)
        have hqd2 : ¬ (0 : Int) < (data.length : Int) := by rw [ed]; simp
        by_cases ea : a = 0
        · have hqa : (a != 0) = false := by simpa using ea
          by_cases eb : b = 0
          · have hqb : (b != 0) = false := by simpa using eb
            have V := Lib.hid (show fitsT f.2 ⟨(k1 : Int), a, b, key, data⟩ = true by rw [FT.out]; simp [ek, ed, ea, eb])
            clear FT ek ed ea eb
            go_wp2_with (
              go_at_call 23
              refine (RH.out _ (by decide) (by decide)).mono ?_
              rintro e w9 ⟨rfl, rfl⟩)
            go_meet
            exact ⟨by rw [V.out]; rfl, rfl⟩
          · have hqb : (b != 0) = true := by simpa using eb
            cases hhb : H 98
            · have V := Lib.hid (show fitsT f.2 ⟨(k1 : Int), a, b, key, data⟩ = false by rw [FT.out]; simp [ek, ed, ea, eb, hhb])
              clear FT ek ed ea eb
              go_wp2_with (
                go_at_call 23
                refine (RH.out _ (by decide) (by decide)).mono ?_
                rintro e w9 ⟨rfl, rfl⟩)
              go_meet
              exact ⟨by rw [V.out]; rfl, rfl⟩
            · have V := Lib.hid (show fitsT f.2 ⟨(k1 : Int), a, b, key, data⟩ = true by rw [FT.out]; simp [ek, ed, ea, eb, hhb])
              clear FT ek ed ea eb
              go_wp2_with (
                go_at_call 23
                refine (RH.out _ (by decide) (by decide)).mono ?_
                rintro e w9 ⟨rfl, rfl⟩)
              go_meet
              exact ⟨by rw [V.out]; rfl, rfl⟩
        · have hqa : (a != 0) = true := by simpa using ea
          cases hha : H 97
          · have V := Lib.hid (show fitsT f.2 ⟨(k1 : Int), a, b, key, data⟩ = false by rw [FT.out]; simp [ek, ed, ea, hha])
            clear FT ek ed ea
            go_wp2_with (
              go_at_call 23
              refine (RH.out _ (by decide) (by decide)).mono ?_
              rintro e w9 ⟨rfl, rfl⟩)
            go_meet
            exact ⟨by rw [V.out]; rfl, rfl⟩
          · by_cases eb : b = 0
            · have hqb : (b != 0) = false := by simpa using eb
              have V := Lib.hid (show fitsT f.2 ⟨(k1 : Int), a, b, key, data⟩ = true by rw [FT.out]; simp [ek, ed, ea, hha, eb])
              clear FT ek ed ea eb
              go_wp2_with (
                go_at_call 23
                refine (RH.out _ (by decide) (by decide)).mono ?_
                rintro e w9 ⟨rfl, rfl⟩)
              go_meet
              exact ⟨by rw [V.out]; rfl, rfl⟩
            · have hqb : (b != 0) = true := by simpa using eb
              cases hhb : H 98
              · have V := Lib.hid (show fitsT f.2 ⟨(k1 : Int), a, b, key, data⟩ = false by rw [FT.out]; simp [ek, ed, ea, hha, eb, hhb])
                clear FT ek ed ea eb
                go_wp2_with (
                  go_at_call 23
                  refine (RH.out _ (by decide) (by decide)).mono ?_
                  rintro e w9 ⟨rfl, rfl⟩)
                go_meet
                exact ⟨by rw [V.out]; rfl, rfl⟩
              · have V := Lib.hid (show fitsT f.2 ⟨(k1 : Int), a, b, key, data⟩ = true by rw [FT.out]; simp [ek, ed, ea, hha, eb, hhb])
                clear FT ek ed ea eb
                go_wp2_with (
                  go_at_call 23
                  refine (RH.out _ (by decide) (by decide)).mono ?_
                  rintro e w9 ⟨rfl, rfl⟩)
                go_meet
                exact ⟨by rw [V.out]; rfl, rfl⟩
      · have hqd : decide ((0 : Int) < (data.length : Int)) = true := decide_eq_true (by have := List.length_pos_iff.2 ed; omega)
        have hqd2 : (0 : Int) < (data.length : Int) := by have := List.length_pos_iff.2 ed; omega
        cases hhd : H 100
        · have V := Lib.hid (show fitsT f.2 ⟨(k1 : Int), a, b, key, data⟩ = false by rw [FT.out]; simp [ek, ed, hhd])
          clear FT ek ed
          go_wp2_with (
            go_at_call 23
            refine (RH.out _ (by decide) (by decide)).mono ?_
            rintro e w9 ⟨rfl, rfl⟩)
          go_meet
          exact ⟨by rw [V.out]; rfl, rfl⟩
        · by_cases ea : a = 0
          · have hqa : (a != 0) = false := by simpa using ea
            by_cases eb : b = 0
            · have hqb : (b != 0) = false := by simpa using eb
              have V := Lib.hid (show fitsT f.2 ⟨(k1 : Int), a, b, key, data⟩ = true by rw [FT.out]; simp [ek, ed, hhd, ea, eb])
              clear FT ek ed ea eb
              go_wp2_with (
                go_at_call 23
                refine (RH.out _ (by decide) (by decide)).mono ?_
                rintro e w9 ⟨rfl, rfl⟩)
              go_meet
              exact ⟨by rw [V.out]; rfl, rfl⟩
            · have hqb : (b != 0) = true := by simpa using eb
              cases hhb : H 98
              · have V := Lib.hid (show fitsT f.2 ⟨(k1 : Int), a, b, key, data⟩ = false by rw [FT.out]; simp [ek, ed, hhd, ea, eb, hhb])
                clear FT ek ed ea eb
                go_wp2_with (
                  go_at_call 23
                  refine (RH.out _ (by decide) (by decide)).mono ?_
                  rintro e w9 ⟨rfl, rfl⟩)
                go_meet
                exact ⟨by rw [V.out]; rfl, rfl⟩
              · have V := Lib.hid (show fitsT f.2 ⟨(k1 : Int), a, b, key, data⟩ = true by rw [FT.out]; simp [ek, ed, hhd, ea, eb, hhb])
                clear FT ek ed ea eb
                go_wp2_with (
                  go_at_call 23
                  refine (RH.out _ (by decide) (by decide)).mono ?_
                  rintro e w9 ⟨rfl, rfl⟩)
                go_meet
                exact ⟨by rw [V.out]; rfl, rfl⟩
          · have hqa : (a != 0) = true := by simpa using ea
            cases hha : H 97
            · have V := Lib.hid (show fitsT f.2 ⟨(k1 : Int), a, b, key, data⟩ = false by rw [FT.out]; simp [ek, ed, hhd, ea, hha])
              clear FT ek ed ea
              go_wp2_with (
                go_at_call 23
                refine (RH.out _ (by decide) (by decide)).mono ?_
                rintro e w9 ⟨rfl, rfl⟩)
              go_meet
              exact ⟨by rw [V.out]; rfl, rfl⟩
            · by_cases eb : b = 0
              · have hqb : (b != 0) = false := by simpa using eb
                have V := Lib.hid (show fitsT f.2 ⟨(k1 : Int), a, b, key, data⟩ = true by rw [FT.out]; simp [ek, ed, hhd, ea, hha, eb])
                clear FT ek ed ea eb
                go_wp2_with (
                  go_at_call 23
                  refine (RH.out _ (by decide) (by decide)).mono ?_
                  rintro e w9 ⟨rfl, rfl⟩)
                go_meet
                exact ⟨by rw [V.out]; rfl, rfl⟩
              · have hqb : (b != 0) = true := by simpa using eb
                cases hhb : H 98
                · have V := Lib.hid (show fitsT f.2 ⟨(k1 : Int), a, b, key, data⟩ = false by rw [FT.out]; simp [ek, ed, hhd, ea, hha, eb, hhb])
                  clear FT ek ed ea eb
                  go_wp2_with (
                    go_at_call 23
                    refine (RH.out _ (by decide) (by decide)).mono ?_
                    rintro e w9 ⟨rfl, rfl⟩)
                  go_meet
                  exact ⟨by rw [V.out]; rfl, rfl⟩
                · have V := Lib.hid (show fitsT f.2 ⟨(k1 : Int), a, b, key, data⟩ = true by rw [FT.out]; simp [ek, ed, hhd, ea, hha, eb, hhb])
                  clear FT ek ed ea eb
                  go_wp2_with (
                    go_at_call 23
                    refine (RH.out _ (by decide) (by decide)).mono ?_
                    rintro e w9 ⟨rfl, rfl⟩)
                  go_meet
                  exact ⟨by rw [V.out]; rfl, rfl⟩
    · have hqk : (key == []) = false := by simpa using ek
      have hqk3 : (key != []) = true := by simpa using ek
      have hqk2 : (⟨key.toArray⟩ : ByteArray) ≠ ⟨#[]⟩ := fun h => ek (by have h2 := congrArg (fun b => b.data.toList) h; simpa using h2)
      cases hhk : H 107
      · have V := Lib.hid (show fitsT f.2 ⟨(k1 : Int), a, b, key, data⟩ = false by rw [FT.out]; simp [ek, hhk])
        clear FT ek
        go_wp2_with (
          go_at_call 23
          refine (RH.out _ (by decide) (by decide)).mono ?_
          rintro e w9 ⟨rfl, rfl⟩)
        go_meet
        exact ⟨by rw [V.out]; rfl, rfl⟩
      · by_cases ed : data = []
        · have hqd : decide ((0 : Int) < (data.length : Int)) = false := decide_eq_false (by rw [ed]; simp)
          have hqd2 : ¬ (0 : Int) < (data.length : Int) := by rw [ed]; simp
          by_cases ea : a = 0
          · have hqa : (a != 0) = false := by simpa using ea
            by_cases eb : b = 0
            · have hqb : (b != 0) = false := by simpa using eb
              have V := Lib.hid (show fitsT f.2 ⟨(k1 : Int), a, b, key, data⟩ = true by rw [FT.out]; simp [ek, hhk, ed, ea, eb])
              clear FT ek ed ea eb
              go_wp2_with (
                go_at_call 23
                refine (RH.out _ (by decide) (by decide)).mono ?_
                rintro e w9 ⟨rfl, rfl⟩)
              go_meet
              exact ⟨by rw [V.out]; rfl, rfl⟩
            · have hqb : (b != 0) = true := by simpa using eb
              cases hhb : H 98
              · have V := Lib.hid (show fitsT f.2 ⟨(k1 : Int), a, b, key, data⟩ = false by rw [FT.out]; simp [ek, hhk, ed, ea, eb, hhb])
                clear FT ek ed ea eb
                go_wp2_with (
                  go_at_call 23
                  refine (RH.out _ (by decide) (by decide)).mono ?_
                  rintro e w9 ⟨rfl, rfl⟩)
                go_meet
                exact ⟨by rw [V.out]; rfl, rfl⟩
              · have V := Lib.hid (show fitsT f.2 ⟨(k1 : Int), a, b, key, data⟩ = true by rw [FT.out]; simp [ek, hhk, ed, ea, eb, hhb])
                clear FT ek ed ea eb
                go_wp2_with (
                  go_at_call 23
                  refine (RH.out _ (by decide) (by decide)).mono ?_
                  rintro e w9 ⟨rfl, rfl⟩)
                go_meet
                exact ⟨by rw [V.out]; rfl, rfl⟩
          · have hqa : (a != 0) = true := by simpa using ea
            cases hha : H 97
            · have V := Lib.hid (show fitsT f.2 ⟨(k1 : Int), a, b, key, data⟩ = false by rw [FT.out]; simp [ek, hhk, ed, ea, hha])
              clear FT ek ed ea
              go_wp2_with (
                go_at_call 23
                refine (RH.out _ (by decide) (by decide)).mono ?_
                rintro e w9 ⟨rfl, rfl⟩)
              go_meet
              exact ⟨by rw [V.out]; rfl, rfl⟩
            · by_cases eb : b = 0
              · have hqb : (b != 0) = false := by simpa using eb
                have V := Lib.hid (show fitsT f.2 ⟨(k1 : Int), a, b, key, data⟩ = true by rw [FT.out]; simp [ek, hhk, ed, ea, hha, eb])
                clear FT ek ed ea eb
                go_wp2_with (
                  go_at_call 23
                  refine (RH.out _ (by decide) (by decide)).mono ?_
                  rintro e w9 ⟨rfl, rfl⟩)
                go_meet
                exact ⟨by rw [V.out]; rfl, rfl⟩
              · have hqb : (b != 0) = true := by simpa using eb
                cases hhb : H 98
                · have V := Lib.hid (show fitsT f.2 ⟨(k1 : Int), a, b, key, data⟩ = false by rw [FT.out]; simp [ek, hhk, ed, ea, hha, eb, hhb])
                  clear FT ek ed ea eb
                  go_wp2_with (
                    go_at_call 23
                    refine (RH.out _ (by decide) (by decide)).mono ?_
                    rintro e w9 ⟨rfl, rfl⟩)
                  go_meet
                  exact ⟨by rw [V.out]; rfl, rfl⟩
                · have V := Lib.hid (show fitsT f.2 ⟨(k1 : Int), a, b, key, data⟩ = true by rw [FT.out]; simp [ek, hhk, ed, ea, hha, eb, hhb])
                  clear FT ek ed ea eb
                  go_wp2_with (
                    go_at_call 23
                    refine (RH.out _ (by decide) (by decide)).mono ?_
                    rintro e w9 ⟨rfl, rfl⟩)
                  go_meet
                  exact ⟨by rw [V.out]; rfl, rfl⟩
        · have hqd : decide ((0 : Int) < (data.length : Int)) = true := decide_eq_true (by have := List.length_pos_iff.2 ed; omega)
          have hqd2 : (0 : Int) < (data.length : Int) := by have := List.length_pos_iff.2 ed; omega
          cases hhd : H 100
          · have V := Lib.hid (show fitsT f.2 ⟨(k1 : Int), a, b, key, data⟩ = false by rw [FT.out]; simp [ek, hhk, ed, hhd])
            clear FT ek ed
            go_wp2_with (
              go_at_call 23
              refine (RH.out _ (by decide) (by decide)).mono ?_
              rintro e w9 ⟨rfl, rfl⟩)
            go_meet
            exact ⟨by rw [V.out]; rfl, rfl⟩
          · by_cases ea : a = 0
            · have hqa : (a != 0) = false := by simpa using ea
              by_cases eb : b = 0
              · have hqb : (b != 0) = false := by simpa using eb
                have V := Lib.hid (show fitsT f.2 ⟨(k1 : Int), a, b, key, data⟩ = true by rw [FT.out]; simp [ek, hhk, ed, hhd, ea, eb])
                clear FT ek ed ea eb
                go_wp2_with (
                  go_at_call 23
                  refine (RH.out _ (by decide) (by decide)).mono ?_
                  rintro e w9 ⟨rfl, rfl⟩)
                go_meet
                exact ⟨by rw [V.out]; rfl, rfl⟩
              · have hqb : (b != 0) = true := by simpa using eb
                cases hhb : H 98
                · have V := Lib.hid (show fitsT f.2 ⟨(k1 : Int), a, b, key, data⟩ = false by rw [FT.out]; simp [ek, hhk, ed, hhd, ea, eb, hhb])
                  clear FT ek ed ea eb
                  go_wp2_with (
                    go_at_call 23
                    refine (RH.out _ (by decide) (by decide)).mono ?_
                    rintro e w9 ⟨rfl, rfl⟩)
                  go_meet
                  exact ⟨by rw [V.out]; rfl, rfl⟩
                · have V := Lib.hid (show fitsT f.2 ⟨(k1 : Int), a, b, key, data⟩ = true by rw [FT.out]; simp [ek, hhk, ed, hhd, ea, eb, hhb])
                  clear FT ek ed ea eb
                  go_wp2_with (
                    go_at_call 23
                    refine (RH.out _ (by decide) (by decide)).mono ?_
                    rintro e w9 ⟨rfl, rfl⟩)
                  go_meet
                  exact ⟨by rw [V.out]; rfl, rfl⟩
            · have hqa : (a != 0) = true := by simpa using ea
              cases hha : H 97
              · have V := Lib.hid (show fitsT f.2 ⟨(k1 : Int), a, b, key, data⟩ = false by rw [FT.out]; simp [ek, hhk, ed, hhd, ea, hha])
                clear FT ek ed ea
                go_wp2_with (
                  go_at_call 23
                  refine (RH.out _ (by decide) (by decide)).mono ?_
                  rintro e w9 ⟨rfl, rfl⟩)
                go_meet
                exact ⟨by rw [V.out]; rfl, rfl⟩
              · by_cases eb : b = 0
                · have hqb : (b != 0) = false := by simpa using eb
                  have V := Lib.hid (show fitsT f.2 ⟨(k1 : Int), a, b, key, data⟩ = true by rw [FT.out]; simp [ek, hhk, ed, hhd, ea, hha, eb])
                  clear FT ek ed ea eb
                  go_wp2_with (
                    go_at_call 23
                    refine (RH.out _ (by decide) (by decide)).mono ?_
                    rintro e w9 ⟨rfl, rfl⟩)
                  go_meet
                  exact ⟨by rw [V.out]; rfl, rfl⟩
                · have hqb : (b != 0) = true := by simpa using eb
                  cases hhb : H 98
                  · have V := Lib.hid (show fitsT f.2 ⟨(k1 : Int), a, b, key, data⟩ = false by rw [FT.out]; simp [ek, hhk, ed, hhd, ea, hha, eb, hhb])
                    clear FT ek ed ea eb
                    go_wp2_with (
                      go_at_call 23
                      refine (RH.out _ (by decide) (by decide)).mono ?_
                      rintro e w9 ⟨rfl, rfl⟩)
                    go_meet
                    exact ⟨by rw [V.out]; rfl, rfl⟩
                  · have V := Lib.hid (show fitsT f.2 ⟨(k1 : Int), a, b, key, data⟩ = true by rw [FT.out]; simp [ek, hhk, ed, hhd, ea, hha, eb, hhb])
                    clear FT ek ed ea eb
                    go_wp2_with (
                      go_at_call 23
                      refine (RH.out _ (by decide) (by decide)).mono ?_
                      rintro e w9 ⟨rfl, rfl⟩)
                    go_meet
                    exact ⟨by rw [V.out]; rfl, rfl⟩
  case rest =>
  obtain ⟨rfl, hwc⟩ := hcut
  obtain ⟨wm, rfl⟩ : ∃ wm : World, wm = wc := ⟨_, rfl⟩
  subst hwc
  clear RH hH x1 x2 x3 x4
  by_cases hft : fitsT f.2 ⟨(k1 : Int), a, b, key, data⟩ = true
  · have RES := Lib.hid (show lineT ⟨(k1 : Int), a, b, key, data⟩ = some (f.1 ++ tailT ⟨(k1 : Int), a, b, key, data⟩ f.2) by rw [LN.out, if_pos hft])
    rw [hft, Bool.not_true]
    clear LN hft
    have hkm := fun x hx => kinds_mem f.2 (forms_facts f (List.mem_of_getElem? HF.out)).2.2 x hx
    have KM := Lib.hid hkm
    clear hkm
    obtain ⟨m, hm⟩ : ∃ m, f.2.length = m := ⟨_, rfl⟩
    rw [hm] at hl2
    go_upto_region 7 with fail
    obtain ⟨w2, rfl⟩ : ∃ z : World, z = wm := ⟨_, rfl⟩
    go_loopw [4, 6] (fun sv jv wr => ∃ (j : Nat) (acc : Str), jv = .int .i64 j ∧ sv = strV acc ∧ j ≤ m ∧ acc = f.1 ++ tailT ⟨(k1 : Int), a, b, key, data⟩ (f.2.take j) ∧ Below w2.heap.size w2 wr) (fun _ jv _ => m - (intOf jv).toNat)
    case atStart => exact ⟨0, f.1, rfl, rfl, Nat.zero_le _, by simp [tailT], Below.refl _ _⟩
    case round =>
      obtain ⟨j, acc, rfl, rfl, hj, hac, hbl⟩ := hrel
      have AC := Lib.hid hac
      have BL := Lib.hid hbl
      have BW := Lib.hid (show Below w.heap.size w wr from B2.out.trans (hbl.mono B2.out.size))
      have XW := Lib.hid (X2.out.below hbl X2.out.size)
      have hwr : w.heap.size < wr.heap.size := XW.out.size
      have hal : acc.length ≤ 100 + 2 * key.length + 2 * data.length := by
        have h := line_len (x := ⟨(k1 : Int), a, b, key, data⟩) (List.mem_of_getElem? HF.out) HA.out HB.out
        have h2 := tail_take ⟨(k1 : Int), a, b, key, data⟩ f.2 j
        rw [hac, List.length_append]
        rw [List.length_append] at h
        simp only at h
        omega
      have AL := Lib.hid hal
      have s1 : ¬ 9223372036854775807 < acc.length + 1 := by omega
      clear hac hbl hal
      by_cases hlj : j < m
      · obtain ⟨ch, hch⟩ : ∃ ch, f.2[j]? = some ch := ⟨_, List.getElem?_eq_getElem (by omega)⟩
        have hcl := KM.out ch (List.mem_of_getElem? hch)
        have HCH := Lib.hid hch
        have f1 : decide ((j : Int) < (m : Int)) = true := decide_eq_true (by omega)
        have f2 : (j : Int) < (m : Int) := by omega
        have f3 : (0 : Int) ≤ (j : Int) := by omega
        have p1 : IntKind.i64.wrap ((j : Int) + 1) = ((j + 1 : Nat) : Int) := by rw [IntWalk.i64_in _ (by omega)]; omega
        clear hch
        rcases hcl with rfl | rfl | rfl | rfl
        · have e0 : ∀ h, ((⟨f.2.toArray⟩ : ByteArray)[j]'h).toNat = 107 := fun h => congrArg UInt8.toNat (List.getElem?_eq_some_iff.1 HCH.out).2
          have PT := Lib.hid (show partT ⟨(k1 : Int), a, b, key, data⟩ 107 = hexT key from rfl)
          have x3 : wr.cell? ⟨w.heap.size, 3, none⟩ = some (strV key) := XW.out.cell 3
          have CN := Lib.hid (rHex key wr (by omega))
          have s2 : ¬ 9223372036854775807 < acc.length + 1 + (hexT key).length := by have h1 := AL.out; have h2 := hexT_len key; omega
          go_wp2_with (
            go_at_call 24
            refine CN.out.mono ?_
            rintro e w3 ⟨rfl, hb3⟩
            have B3 := Lib.hid (show Below w2.heap.size w2 w3 from BL.out.trans (hb3.mono BL.out.size))
            clear hb3)
          go_roundw
          case rel =>
            refine ⟨j + 1, acc ++ [32] ++ hexT key, by simp, ?_, hlj, ?_, B3.out⟩
            · show Value.string (((⟨acc.toArray⟩ : ByteArray) ++ ⟨[32].toArray⟩) ++ ⟨(hexT key).toArray⟩) = _
              rw [str_cat, str_cat]
            · rw [AC.out, tail_succ HCH.out, PT.out]
              simp
          case measure =>
            simp only [intOf]
            omega
        · have e0 : ∀ h, ((⟨f.2.toArray⟩ : ByteArray)[j]'h).toNat = 100 := fun h => congrArg UInt8.toNat (List.getElem?_eq_some_iff.1 HCH.out).2
          have PT := Lib.hid (show partT ⟨(k1 : Int), a, b, key, data⟩ 100 = hexT data from rfl)
          have x4 : wr.cell? ⟨w.heap.size, 4, none⟩ = some (.slice A data.length c) := XW.out.cell 4
          have CN := Lib.hid (rHex data wr (by omega))
          have s2 : ¬ 9223372036854775807 < acc.length + 1 + (hexT data).length := by have h1 := AL.out; have h2 := hexT_len data; omega
          have hcv := arg_str (c := c) (HD.out.below BW.out)
          go_wp2_with (
            go_at_call 24
            refine CN.out.mono ?_
            rintro e w3 ⟨rfl, hb3⟩
            have B3 := Lib.hid (show Below w2.heap.size w2 w3 from BL.out.trans (hb3.mono BL.out.size))
            clear hb3)
          go_roundw
          case rel =>
            refine ⟨j + 1, acc ++ [32] ++ hexT data, by simp, ?_, hlj, ?_, B3.out⟩
            · show Value.string (((⟨acc.toArray⟩ : ByteArray) ++ ⟨[32].toArray⟩) ++ ⟨(hexT data).toArray⟩) = _
              rw [str_cat, str_cat]
            · rw [AC.out, tail_succ HCH.out, PT.out]
              simp
          case measure =>
            simp only [intOf]
            omega
        · have e0 : ∀ h, ((⟨f.2.toArray⟩ : ByteArray)[j]'h).toNat = 97 := fun h => congrArg UInt8.toNat (List.getElem?_eq_some_iff.1 HCH.out).2
          have PT := Lib.hid (show partT ⟨(k1 : Int), a, b, key, data⟩ 97 = Lib.itoa a from rfl)
          have x1 : wr.cell? ⟨w.heap.size, 1, none⟩ = some (.int .i64 a) := XW.out.cell 1
          have CN := Lib.hid (rNum a HA.out wr)
          have s2 : ¬ 9223372036854775807 < acc.length + 1 + (Lib.itoa a).length := by have h1 := AL.out; have h2 := itoa_len HA.out; omega
          go_wp2_with (
            go_at_call 25
            refine CN.out.mono ?_
            rintro e w3 ⟨rfl, hb3⟩
            have B3 := Lib.hid (show Below w2.heap.size w2 w3 from BL.out.trans (hb3.mono BL.out.size))
            clear hb3)
          go_roundw
          case rel =>
            refine ⟨j + 1, acc ++ [32] ++ Lib.itoa a, by simp, ?_, hlj, ?_, B3.out⟩
            · show Value.string (((⟨acc.toArray⟩ : ByteArray) ++ ⟨[32].toArray⟩) ++ ⟨(Lib.itoa a).toArray⟩) = _
              rw [str_cat, str_cat]
            · rw [AC.out, tail_succ HCH.out, PT.out]
              simp
          case measure =>
            simp only [intOf]
            omega
        · have e0 : ∀ h, ((⟨f.2.toArray⟩ : ByteArray)[j]'h).toNat = 98 := fun h => congrArg UInt8.toNat (List.getElem?_eq_some_iff.1 HCH.out).2
          have PT := Lib.hid (show partT ⟨(k1 : Int), a, b, key, data⟩ 98 = Lib.itoa b from rfl)
          have x2 : wr.cell? ⟨w.heap.size, 2, none⟩ = some (.int .i64 b) := XW.out.cell 2
          have CN := Lib.hid (rNum b HB.out wr)
          have s2 : ¬ 9223372036854775807 < acc.length + 1 + (Lib.itoa b).length := by have h1 := AL.out; have h2 := itoa_len HB.out; omega
          go_wp2_with (
            go_at_call 25
            refine CN.out.mono ?_
            rintro e w3 ⟨rfl, hb3⟩
            have B3 := Lib.hid (show Below w2.heap.size w2 w3 from BL.out.trans (hb3.mono BL.out.size))
            clear hb3)
          go_roundw
          case rel =>
            refine ⟨j + 1, acc ++ [32] ++ Lib.itoa b, by simp, ?_, hlj, ?_, B3.out⟩
            · show Value.string (((⟨acc.toArray⟩ : ByteArray) ++ ⟨[32].toArray⟩) ++ ⟨(Lib.itoa b).toArray⟩) = _
              rw [str_cat, str_cat]
            · rw [AC.out, tail_succ HCH.out, PT.out]
              simp
          case measure =>
            simp only [intOf]
            omega
      · have hjm : j = m := by omega
        have f1 : decide ((j : Int) < (m : Int)) = false := decide_eq_false (by omega)
        have f2 : ¬ (j : Int) < (m : Int) := by omega
        have RS := Lib.hid (show lineT ⟨(k1 : Int), a, b, key, data⟩ = some acc by rw [RES.out, AC.out, List.take_of_length_le (by omega)])
        clear hjm
        go_wp2_with fail
        go_ret2
        rw [RS.out]
        exact ⟨rfl, BW.out⟩
  · have RES := Lib.hid (show lineT ⟨(k1 : Int), a, b, key, data⟩ = none by rw [LN.out, if_neg hft])
    have hff : fitsT f.2 ⟨(k1 : Int), a, b, key, data⟩ = false := by simpa using hft
    rw [hff, Bool.not_false]
    clear LN hft hff
    go_wp2_with fail
    go_ret2
    rw [RES.out]
    exact ⟨rfl, B2.out⟩
end
end Go.Proofs.YtkkmojbaoflafaaDoor
