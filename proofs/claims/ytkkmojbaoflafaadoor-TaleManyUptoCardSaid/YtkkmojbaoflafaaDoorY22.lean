/- The document's number of a word: the walk. No condition beyond those that each theorem states. -/
import Derived.Test.YtkkmojbaoflafaaDoorY20
import Derived.Test.YtkkmojbaoflafaaDoorY21
namespace Go.Proofs.YtkkmojbaoflafaaDoor
open Go.RowKit Go.Shelf
attribute [local go_sem] Oper.semAt_some

set_option maxHeartbeats 4000000 in
set_option maxRecDepth 100000 in
theorem rNumber (s : Str) (w : World) : Calls Tryd.prog 30 #[strV s] w fun e w' => NumTold s e ∧ Below w.heap.size w w' := by
  obtain ⟨n, hn⟩ : ∃ n, s.length = n := ⟨_, rfl⟩
  have HN := Lib.hid hn
  by_cases hl1 : n < 1
  · have HN0 := Lib.hid (num_none (s := s) (.inr (.inl (by omega))))
    have d1 : decide ((n : Int) < 1) = true := decide_eq_true (by omega)
    have d2 : (n : Int) < 1 := by omega
    go_enter Tryd.func30, Tryd.ntmps30
    go_wp2_with fail
    go_ret2
    exact ⟨⟨0, by rw [HN0.out]; rfl, fun n hn => by rw [HN0.out] at hn; cases hn⟩, Below.refl _ _⟩
  by_cases hl2 : 20 < n
  · have HN0 := Lib.hid (num_none (s := s) (.inr (.inr (by omega))))
    have d1 : decide ((n : Int) < 1) = false := decide_eq_false (by omega)
    have d2 : ¬ (n : Int) < 1 := by omega
    have d3 : decide ((20 : Int) < (n : Int)) = true := decide_eq_true (by omega)
    have d4 : (20 : Int) < (n : Int) := by omega
    go_enter Tryd.func30, Tryd.ntmps30
    go_wp2_with fail
    go_ret2
    exact ⟨⟨0, by rw [HN0.out]; rfl, fun n hn => by rw [HN0.out] at hn; cases hn⟩, Below.refl _ _⟩
  have d1 : decide ((n : Int) < 1) = false := decide_eq_false (by omega)
  have d2 : ¬ (n : Int) < 1 := by omega
  have d3 : decide ((20 : Int) < (n : Int)) = false := decide_eq_false (by omega)
  have d4 : ¬ (20 : Int) < (n : Int) := by omega
  go_enter Tryd.func30, Tryd.ntmps30
  go_upto_region 5 with fail
  clear d1 d2 d3 d4
  go_loopw [4, 5] (fun uv iv wr => ∃ (i acc : Nat), iv = .int .i64 i ∧ uv = .int .u64 acc ∧ i ≤ n ∧ acc < 18446744073709551616 ∧ ((i = 0 ∧ acc = 0) ∨ (0 < i ∧ numS s = numR (s.drop i) acc)) ∧ Below w.heap.size w wr) (fun _ iv _ => n - (intOf iv).toNat)
  case atStart => exact ⟨0, 0, rfl, rfl, Nat.zero_le _, by omega, .inl ⟨rfl, rfl⟩, Below.refl _ w⟩
  case round =>
    obtain ⟨i, acc, rfl, rfl, hin, hacc, hcase, hbl⟩ := hrel
    have BL := Lib.hid hbl
    clear hbl
    by_cases hlt : i < n
    · obtain ⟨ch, hch⟩ : ∃ ch, s[i]? = some ch := ⟨_, List.getElem?_eq_getElem (by omega)⟩
      have HCH := Lib.hid hch
      have e0 : ∀ h, ((⟨s.toArray⟩ : ByteArray)[i]'h).toNat = ch.toNat := fun h => congrArg UInt8.toNat (List.getElem?_eq_some_iff.1 hch).2
      have f1 : decide ((i : Int) < (n : Int)) = true := decide_eq_true (by omega)
      have f2 : (i : Int) < (n : Int) := by omega
      have f3 : (0 : Int) ≤ (i : Int) := by omega
      have p1 : IntKind.i64.wrap ((i : Int) + 1) = ((i + 1 : Nat) : Int) := by rw [IntWalk.i64_in _ (by omega)]; omega
      clear hch hin
      by_cases hi0 : i = 0
      · have hac0 : acc = 0 := by rcases hcase with h | h <;> omega
        have q1 : ((i : Int) == 0) = true := by simpa using hi0
        by_cases hc : ch = 45
        · have q2 : ((ch.toNat : Int) == 45) = true := by rw [hc]; rfl
          have HS := Lib.hid (show numS s = numR (s.drop (i + 1)) acc by
            have h := drop_one HCH.out
            rw [hi0, List.drop_zero] at h
            unfold numS
            rw [h, hc, List.head?_cons, if_pos rfl, List.tail_cons, hi0, hac0]
            rfl)
          clear hi0 hac0 hcase hc
          go_wp2_with fail
          go_roundw
          case rel => exact ⟨i + 1, acc, by simp, rfl, hlt, hacc, .inr ⟨by omega, HS.out⟩, BL.out⟩
          case measure =>
            simp only [intOf]
            omega
        · have q2 : ((ch.toNat : Int) == 45) = false := by
            rw [beq_eq_false_iff_ne]
            intro h
            exact hc (UInt8.toNat_inj.1 (by have e : (45 : UInt8).toNat = 45 := rfl; omega))
          have hR : numS s = numR (s.drop i) acc := by
            have h := drop_one HCH.out
            rw [hi0, List.drop_zero] at h
            unfold numS
            rw [if_neg (by rw [h]; simpa using hc), hi0, hac0, List.drop_zero]
          clear hi0 hac0 hcase hc
          have HR := Lib.hid hR
          clear hR
          by_cases hdig : 48 ≤ ch.toNat ∧ ch.toNat ≤ 57
          · obtain ⟨cn, hcn⟩ : ∃ cn, ch.toNat = cn := ⟨_, rfl⟩
            rw [hcn] at hdig
            have g1 : decide ((cn : Int) < 48) = false := decide_eq_false (by omega)
            have g2 : ¬ (cn : Int) < 48 := by omega
            have g3 : decide ((57 : Int) < (cn : Int)) = false := decide_eq_false (by omega)
            have g4 : ¬ (57 : Int) < (cn : Int) := by omega
            obtain ⟨x, hx⟩ : ∃ x, acc * 10 % 18446744073709551616 = x := ⟨_, rfl⟩
            obtain ⟨y, hy⟩ : ∃ y, (acc * 10 + (cn - 48)) % 18446744073709551616 = y := ⟨_, rfl⟩
            have v1 : IntKind.u64.wrap ((acc : Int) * 10) = (x : Int) := by simp [IntKind.wrap, IntKind.signed, IntKind.bits]; omega
            have v2 : IntKind.u8.wrap ((cn : Int) - 48) = (cn : Int) - 48 := by simp [IntKind.wrap, IntKind.signed, IntKind.bits]; omega
            have v3 : IntKind.u64.wrap ((cn : Int) - 48) = (cn : Int) - 48 := by simp [IntKind.wrap, IntKind.signed, IntKind.bits]; omega
            have v4 : IntKind.u64.wrap ((x : Int) + ((cn : Int) - 48)) = (y : Int) := by simp [IntKind.wrap, IntKind.signed, IntKind.bits]; omega
            have hy64 : y < 18446744073709551616 := by omega
            have HY := Lib.hid (show numS s = numR (s.drop (i + 1)) y by rw [HR.out, drop_one HCH.out, numR, hcn, if_pos hdig, hy])
            clear hx hy hdig
            rw [hcn] at e0
            clear hcn
            go_wp2_with fail
            go_roundw
            case rel => exact ⟨i + 1, y, by simp, rfl, hlt, hy64, .inr ⟨by omega, HY.out⟩, BL.out⟩
            case measure =>
              simp only [intOf]
              omega
          · have HN0 := Lib.hid (num_none (s := s) (.inl (by rw [HR.out, drop_one HCH.out, numR, if_neg hdig])))
            obtain ⟨cn, hcn⟩ : ∃ cn, ch.toNat = cn := ⟨_, rfl⟩
            rw [hcn] at hdig e0 q2
            clear hcn
            by_cases h48 : cn < 48
            · have g1 : decide ((cn : Int) < 48) = true := decide_eq_true (by omega)
              have g2 : (cn : Int) < 48 := by omega
              clear hdig h48
              go_wp2_with fail
              go_ret2
              exact ⟨⟨0, by rw [HN0.out]; rfl, fun n hn => by rw [HN0.out] at hn; cases hn⟩, BL.out⟩
            · have g1 : decide ((cn : Int) < 48) = false := decide_eq_false (by omega)
              have g2 : ¬ (cn : Int) < 48 := by omega
              have g3 : decide ((57 : Int) < (cn : Int)) = true := decide_eq_true (by omega)
              have g4 : (57 : Int) < (cn : Int) := by omega
              clear hdig h48
              go_wp2_with fail
              go_ret2
              exact ⟨⟨0, by rw [HN0.out]; rfl, fun n hn => by rw [HN0.out] at hn; cases hn⟩, BL.out⟩
      · have q1 : ((i : Int) == 0) = false := by rw [beq_eq_false_iff_ne]; omega
        have hR : numS s = numR (s.drop i) acc := by rcases hcase with h | h; exact absurd h.1 hi0; exact h.2
        clear hi0 hcase
        have HR := Lib.hid hR
        clear hR
        by_cases hdig : 48 ≤ ch.toNat ∧ ch.toNat ≤ 57
        · obtain ⟨cn, hcn⟩ : ∃ cn, ch.toNat = cn := ⟨_, rfl⟩
          rw [hcn] at hdig
          have g1 : decide ((cn : Int) < 48) = false := decide_eq_false (by omega)
          have g2 : ¬ (cn : Int) < 48 := by omega
          have g3 : decide ((57 : Int) < (cn : Int)) = false := decide_eq_false (by omega)
          have g4 : ¬ (57 : Int) < (cn : Int) := by omega
          obtain ⟨x, hx⟩ : ∃ x, acc * 10 % 18446744073709551616 = x := ⟨_, rfl⟩
          obtain ⟨y, hy⟩ : ∃ y, (acc * 10 + (cn - 48)) % 18446744073709551616 = y := ⟨_, rfl⟩
          have v1 : IntKind.u64.wrap ((acc : Int) * 10) = (x : Int) := by simp [IntKind.wrap, IntKind.signed, IntKind.bits]; omega
          have v2 : IntKind.u8.wrap ((cn : Int) - 48) = (cn : Int) - 48 := by simp [IntKind.wrap, IntKind.signed, IntKind.bits]; omega
          have v3 : IntKind.u64.wrap ((cn : Int) - 48) = (cn : Int) - 48 := by simp [IntKind.wrap, IntKind.signed, IntKind.bits]; omega
          have v4 : IntKind.u64.wrap ((x : Int) + ((cn : Int) - 48)) = (y : Int) := by simp [IntKind.wrap, IntKind.signed, IntKind.bits]; omega
          have hy64 : y < 18446744073709551616 := by omega
          have HY := Lib.hid (show numS s = numR (s.drop (i + 1)) y by rw [HR.out, drop_one HCH.out, numR, hcn, if_pos hdig, hy])
          clear hx hy hdig
          rw [hcn] at e0
          clear hcn
          go_wp2_with fail
          go_roundw
          case rel => exact ⟨i + 1, y, by simp, rfl, hlt, hy64, .inr ⟨by omega, HY.out⟩, BL.out⟩
          case measure =>
            simp only [intOf]
            omega
        · have HN0 := Lib.hid (num_none (s := s) (.inl (by rw [HR.out, drop_one HCH.out, numR, if_neg hdig])))
          obtain ⟨cn, hcn⟩ : ∃ cn, ch.toNat = cn := ⟨_, rfl⟩
          rw [hcn] at hdig e0
          clear hcn
          by_cases h48 : cn < 48
          · have g1 : decide ((cn : Int) < 48) = true := decide_eq_true (by omega)
            have g2 : (cn : Int) < 48 := by omega
            clear hdig h48
            go_wp2_with fail
            go_ret2
            exact ⟨⟨0, by rw [HN0.out]; rfl, fun n hn => by rw [HN0.out] at hn; cases hn⟩, BL.out⟩
          · have g1 : decide ((cn : Int) < 48) = false := decide_eq_false (by omega)
            have g2 : ¬ (cn : Int) < 48 := by omega
            have g3 : decide ((57 : Int) < (cn : Int)) = true := decide_eq_true (by omega)
            have g4 : (57 : Int) < (cn : Int) := by omega
            clear hdig h48
            go_wp2_with fail
            go_ret2
            exact ⟨⟨0, by rw [HN0.out]; rfl, fun n hn => by rw [HN0.out] at hn; cases hn⟩, BL.out⟩
    · have hin2 : i = n := by omega
      have f1 : decide ((i : Int) < (n : Int)) = false := decide_eq_false (by omega)
      have f2 : ¬ (i : Int) < (n : Int) := by omega
      have HS := Lib.hid (show numS s = some acc by
        rcases hcase with h | h
        · omega
        · rw [h.2, List.drop_of_length_le (by omega)]; rfl)
      obtain ⟨ch, hch⟩ : ∃ ch, s[0]? = some ch := ⟨_, List.getElem?_eq_getElem (by omega)⟩
      have hh : s.head? = some ch := by rw [List.head?_eq_getElem?, hch]
      have e0 : ∀ h, ((⟨s.toArray⟩ : ByteArray)[0]'h).toNat = ch.toNat := fun h => congrArg UInt8.toNat (List.getElem?_eq_some_iff.1 hch).2
      have f3 : (0 : Int) < (n : Int) := by omega
      obtain ⟨m, hm⟩ : ∃ m, IntKind.i64.wrap (acc : Int) = m := ⟨_, rfl⟩
      have LW := Lib.hid (num_law HS.out)
      by_cases hc : ch = 45
      · have q2 : ((ch.toNat : Int) == 45) = true := by rw [hc]; rfl
        obtain ⟨v, hv⟩ : ∃ v, IntKind.i64.wrap (-m) = v := ⟨_, rfl⟩
        have HV := Lib.hid (show numI s acc = v by unfold numI; rw [hh, hc, if_pos rfl, hm, hv])
        have RN := Lib.hid (rNum v (by rw [← HV.out]; exact numI_wf _ _) wr)
        have LV := LW.out
        rw [HV.out] at LV
        have LX := Lib.hid LV
        clear LV hcase hin2 hch hh hc hin hacc hlt
        go_wp2_with (
          go_at_call 25
          refine RN.out.mono ?_
          rintro e w2 ⟨rfl, hb2⟩
          have B2 := Lib.hid (show Below w.heap.size w w2 from BL.out.trans (hb2.mono BL.out.size))
          clear hb2)
        go_ret2
        exact ⟨⟨v, by rw [← LX.out.1]; rfl, LX.out.2⟩, B2.out⟩
      · have q2 : ((ch.toNat : Int) == 45) = false := by
          rw [beq_eq_false_iff_ne]
          intro h
          exact hc (UInt8.toNat_inj.1 (by have e : (45 : UInt8).toNat = 45 := rfl; omega))
        obtain ⟨v, hv⟩ : ∃ v, m = v := ⟨_, rfl⟩
        have HV := Lib.hid (show numI s acc = v by unfold numI; rw [hh, if_neg (by simpa using hc), hm, hv])
        subst hv
        have RN := Lib.hid (rNum m (by rw [← HV.out]; exact numI_wf _ _) wr)
        have LV := LW.out
        rw [HV.out] at LV
        have LX := Lib.hid LV
        clear LV hcase hin2 hch hh hc hin hacc hlt
        go_wp2_with (
          go_at_call 25
          refine RN.out.mono ?_
          rintro e w2 ⟨rfl, hb2⟩
          have B2 := Lib.hid (show Below w.heap.size w w2 from BL.out.trans (hb2.mono BL.out.size))
          clear hb2)
        go_ret2
        exact ⟨⟨m, by rw [← LX.out.1]; rfl, LX.out.2⟩, B2.out⟩
end Go.Proofs.YtkkmojbaoflafaaDoor
