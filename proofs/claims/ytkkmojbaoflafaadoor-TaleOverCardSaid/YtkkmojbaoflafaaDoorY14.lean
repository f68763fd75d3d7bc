/- As many lines as there may be are read, and not one more: TaleOver. No condition beyond those that each theorem states. -/
import Derived.Test.YtkkmojbaoflafaaDoorY13
namespace Go.Proofs.YtkkmojbaoflafaaDoor
open Go.RowKit Go.Shelf
attribute [local go_sem] Oper.semAt_some

def tickL : Str := [116, 105, 99, 107, 10]
def ticks : Nat → Str
  | 0 => []
  | n + 1 => tickL ++ ticks n
theorem ticks_len : ∀ n, (ticks n).length = n * 5
  | 0 => rfl
  | n + 1 => by rw [ticks, List.length_append, ticks_len n]; show 5 + _ = _; omega
theorem ticks_end : ∀ n, ticks (n + 1) = ticks n ++ tickL
  | 0 => rfl
  | n + 1 => by
    show tickL ++ ticks (n + 1) = (tickL ++ ticks n) ++ tickL
    rw [ticks_end n, List.append_assoc]
theorem raw_ticks : ∀ n, rawLines (ticks n) = List.replicate n tickL
  | 0 => rfl
  | n + 1 => by
    have h := raw_at (ticks n) (a := [116, 105, 99, 107]) (by decide)
    rw [List.replicate_succ, ← raw_ticks n]
    exact h
theorem tick_step : stepT (trimL tickL) = some ⟨6, 0, 0, [], []⟩ := by rfl
theorem read_ticks {n : Nat} (h : n ≤ 65536) : readT (ticks n) = .ok (List.replicate n ⟨6, 0, 0, [], []⟩) :=
  read_done (by rw [raw_ticks, List.map_replicate, List.map_replicate, tick_step]) (by rw [raw_ticks, List.length_replicate]; exact h)
theorem over_ticks {n : Nat} (h : 65536 < n) : readT (ticks n) = .over := by
  have hp : List.replicate 65536 tickL ++ [tickL] <+: rawLines (ticks n) := by
    rw [raw_ticks]
    refine ⟨List.replicate (n - 65537) tickL, ?_⟩
    rw [show ([tickL] : List Str) = List.replicate 1 tickL from rfl, List.replicate_append_replicate, List.replicate_append_replicate]
    exact congrArg (fun k => List.replicate k tickL) (show 65536 + 1 + (n - 65537) = n by omega)
  obtain ⟨h1, t, ht⟩ := read_left (L := List.replicate 65536 ⟨6, 0, 0, [], []⟩) hp (by rw [List.map_replicate, List.map_replicate, tick_step]) (by rw [List.length_replicate]; exact Nat.le_refl _)
  rw [ht, readFrom, if_pos (by rw [h1, List.length_replicate]; exact Nat.le_refl _)]
def OverTold (n : Nat) (v a b : Value) : Prop := (n ≤ 65536 ∧ (∃ B c, v = .slice B n c) ∧ a = .int .i64 0 ∧ b = .int .i64 0) ∨ (65536 < n ∧ v = .slice none 0 0 ∧ a = .int .i64 0 ∧ b = .int .i64 16)
theorem tTicks (n : Nat) (w : World) (he : Env w) (hn : n ≤ 65538) : Calls Tryd.prog 15 #[strV (ticks n)] w fun e w' => (∃ v a b, e = .returned (.tuple #[v, a, b]) ∧ OverTold n v a b) ∧ Below w.heap.size w w' := by
  refine (tRead (ticks n) w he (by rw [ticks_len]; omega)).mono ?_
  rintro e w' ⟨h, hb⟩
  refine ⟨?_, hb⟩
  by_cases h6 : n ≤ 65536
  · rw [read_ticks h6] at h
    obtain ⟨v, rfl, PL, _, hrow, _⟩ := h
    obtain ⟨B, c, rfl⟩ := own_form hrow
    rw [List.length_replicate]
    exact ⟨_, _, _, rfl, .inl ⟨h6, ⟨B, c, rfl⟩, rfl, rfl⟩⟩
  · rw [over_ticks (by omega)] at h
    obtain rfl := h
    exact ⟨_, _, _, rfl, .inr ⟨by omega, rfl, rfl, rfl⟩⟩
theorem tick_vals (i : Nat) : byteVals (ticks (i + 1)) = byteVals (ticks i) ++ [.int .u8 116, .int .u8 105, .int .u8 99, .int .u8 107, .int .u8 10] := by
  rw [ticks_end]
  simp only [byteVals, List.map_append]
  rfl
set_option maxHeartbeats 4000000 in
set_option maxRecDepth 100000 in
theorem over_walk (k m : Nat) (hm : m = if k < 4 then 65538 - k else k) (hk : k < 256) (w : World) (he : Env w) : Calls Tryd.prog 8 #[.int .u8 k] w fun e w' => e = .returned (.bool true) ∧ Below w.heap.size w w' := by
  have HE := Lib.hid he
  have HM := Lib.hid hm
  have hm6 : m ≤ 65538 := by rw [hm]; split <;> omega
  clear he hm
  obtain ⟨i0, hi0, hz0, hz1, hz2⟩ := info_parts byte_info
  have c1 : IntKind.i64.wrap (k : Int) = k := IntWalk.i64_in _ (by omega)
  have c2 : IntKind.i64.wrap (65538 - (k : Int)) = 65538 - k := IntWalk.i64_in _ (by omega)
  go_enter Tryd.func8, Tryd.ntmps8
  by_cases h4 : k < 4
  · have d1 : decide ((k : Int) < 4) = true := decide_eq_true (by omega)
    have d2 : (k : Int) < 4 := by omega
    have hM : (65538 - (k : Int)) = (m : Int) := by rw [HM.out, if_pos h4]; omega
    go_upto_region 6 with fail
    clear c1 c2 d1 d2 hM h4 hk
    have OW0 := Lib.hid (World.ownsRow_lit (base := w.heap.size) (e := 5) (size := 1) w #[] 0 (Nat.le_refl _) (by decide) rfl)
    go_loopw [4, 5] (fun tv iv wr => ∃ (i g cap : Nat), iv = .int .i64 i ∧ i ≤ m ∧ tv = .slice (some ⟨g, 0, none⟩) (i * 5) cap ∧ wr.ownsRow w.heap.size 5 1 tv (i * 5) (byteVals (ticks i)) ∧ Below w.heap.size w wr) (fun _ iv _ => m - (intOf iv).toNat)
    case atStart => exact ⟨0, w.heap.size, 0, rfl, Nat.zero_le _, rfl, OW0.out, (Below.refl _ w).alloc (Nat.le_refl _) _⟩
    case round =>
      obtain ⟨i, g, cap, rfl, him, rfl, hown, hbl⟩ := hrel
      have OW := Lib.hid hown
      have BL := Lib.hid hbl
      have hz := hbl.size
      clear hown hbl OW0
      by_cases hlt : i < m
      · have e1 : decide ((i : Int) < (m : Int)) = true := decide_eq_true (by omega)
        have e2 : (i : Int) < (m : Int) := by omega
        have e3 : IntKind.i64.wrap ((i : Int) + 1) = (i : Int) + 1 := IntWalk.i64_in _ (by omega)
        go_wp2_with (
          at_builtin
          refine wpList_append_live _ rfl _ _ 22 rfl w.heap.size 5 i0 _ 1 1 Tryd.underlying22 hi0 hz0 hz1 hz2 rfl (by omega) g (i * 5) cap (byteVals (ticks i)) rfl (by exact OW.out.alloc _) wr.heap.size 0 5 5 [.int .u8 116, .int .u8 105, .int .u8 99, .int .u8 107, .int .u8 10] rfl rfl (by exact src_new wr [.int .u8 116, .int .u8 105, .int .u8 99, .int .u8 107, .int .u8 10] 5 5) (by simp [Value.oneCell']) (by simp only [maxLen]; omega) (by omega) (by simp; omega) ?_
          intro g2 cap2 w2 hown2 hg2 hat2 hlt2
          have O2 := Lib.hid hown2
          have G2 := Lib.hid hg2
          clear hown2 hg2 hat2)
        go_roundw
        case rel =>
          refine ⟨i + 1, g2, cap2, by simp, hlt, by rw [show (i + 1) * 5 = i * 5 + 5 by omega], ?_, ?_⟩
          · rw [tick_vals, show (i + 1) * 5 = i * 5 + 5 by omega]
            exact O2.out
          · have hb1 : Below w.heap.size w (wr.alloc (.cells #[.int .u8 116, .int .u8 105, .int .u8 99, .int .u8 107, .int .u8 10] 5)) := BL.out.alloc hz _
            exact hb1.grown G2.out hb1.size (fun q hq => by have e := Option.some.inj hq; have := (OW.out.lt g rfl).1; omega)
        case measure =>
          simp only [intOf]
          omega
      · obtain rfl : i = m := by omega
        have e1 : decide ((i : Int) < (i : Int)) = false := by simp
        have hrow : RowAt wr g 5 (byteVals (ticks i)) := RowAt.of_own OW.out
        have hcv := run_string_of (P := Tryd.prog) (src := 22) (e := 5) (dst := 9) (c := cap) Tryd.underlying22 Tryd.underlying5 Tryd.underlying9 hrow.bytesIn (.inr ⟨_, _, rfl⟩)
        rw [ticks_len] at hcv
        clear hrow
        go_upto_region 10 with (
          go_at_call 15
          refine (tTicks i wr (HE.out.below BL.out) (by omega)).mono ?_
          rintro e w3 ⟨⟨v, a, b, rfl, ho⟩, hb⟩
          have HO := Lib.hid ho
          have B3 := Lib.hid (show Below w.heap.size w w3 from BL.out.trans (hb.mono hz))
          clear ho hb)
        clear hcv
        rcases HO.out with ⟨h6, ⟨B, c, rfl⟩, rfl, rfl⟩ | ⟨h6, rfl, rfl, rfl⟩
        · have e4 : decide ((65536 : Int) < (i : Int)) = false := decide_eq_false (by omega)
          have e5 : ¬ (65536 : Int) < (i : Int) := by omega
          go_wp2_with (
            go_at_call 11
            refine (tAwake w3 (HE.out.below B3.out)).mono ?_
            rintro e w4 ⟨rfl, hb4⟩
            have B4 := Lib.hid (show Below w.heap.size w w4 from B3.out.trans (hb4.mono B3.out.size))
            clear hb4)
          go_ret
          exact ⟨rfl, B4.out⟩
        · have e4 : decide ((65536 : Int) < (i : Int)) = true := decide_eq_true (by omega)
          have e5 : (65536 : Int) < (i : Int) := by omega
          go_wp2_with (
            go_at_call 11
            refine (tAwake w3 (HE.out.below B3.out)).mono ?_
            rintro e w4 ⟨rfl, hb4⟩
            have B4 := Lib.hid (show Below w.heap.size w w4 from B3.out.trans (hb4.mono B3.out.size))
            clear hb4)
          go_ret
          exact ⟨rfl, B4.out⟩
  · have d1 : decide ((k : Int) < 4) = false := decide_eq_false (by omega)
    have d2 : ¬ (k : Int) < 4 := by omega
    obtain rfl : m = k := by rw [HM.out, if_neg h4]
    go_upto_region 6 with fail
    clear c1 c2 d1 d2 h4 hk
    have OW0 := Lib.hid (World.ownsRow_lit (base := w.heap.size) (e := 5) (size := 1) w #[] 0 (Nat.le_refl _) (by decide) rfl)
    go_loopw [4, 5] (fun tv iv wr => ∃ (i g cap : Nat), iv = .int .i64 i ∧ i ≤ m ∧ tv = .slice (some ⟨g, 0, none⟩) (i * 5) cap ∧ wr.ownsRow w.heap.size 5 1 tv (i * 5) (byteVals (ticks i)) ∧ Below w.heap.size w wr) (fun _ iv _ => m - (intOf iv).toNat)
    case atStart => exact ⟨0, w.heap.size, 0, rfl, Nat.zero_le _, rfl, OW0.out, (Below.refl _ w).alloc (Nat.le_refl _) _⟩
    case round =>
      obtain ⟨i, g, cap, rfl, him, rfl, hown, hbl⟩ := hrel
      have OW := Lib.hid hown
      have BL := Lib.hid hbl
      have hz := hbl.size
      clear hown hbl OW0
      by_cases hlt : i < m
      · have e1 : decide ((i : Int) < (m : Int)) = true := decide_eq_true (by omega)
        have e2 : (i : Int) < (m : Int) := by omega
        have e3 : IntKind.i64.wrap ((i : Int) + 1) = (i : Int) + 1 := IntWalk.i64_in _ (by omega)
        go_wp2_with (
          at_builtin
          refine wpList_append_live _ rfl _ _ 22 rfl w.heap.size 5 i0 _ 1 1 Tryd.underlying22 hi0 hz0 hz1 hz2 rfl (by omega) g (i * 5) cap (byteVals (ticks i)) rfl (by exact OW.out.alloc _) wr.heap.size 0 5 5 [.int .u8 116, .int .u8 105, .int .u8 99, .int .u8 107, .int .u8 10] rfl rfl (by exact src_new wr [.int .u8 116, .int .u8 105, .int .u8 99, .int .u8 107, .int .u8 10] 5 5) (by simp [Value.oneCell']) (by simp only [maxLen]; omega) (by omega) (by simp; omega) ?_
          intro g2 cap2 w2 hown2 hg2 hat2 hlt2
          have O2 := Lib.hid hown2
          have G2 := Lib.hid hg2
          clear hown2 hg2 hat2)
        go_roundw
        case rel =>
          refine ⟨i + 1, g2, cap2, by simp, hlt, by rw [show (i + 1) * 5 = i * 5 + 5 by omega], ?_, ?_⟩
          · rw [tick_vals, show (i + 1) * 5 = i * 5 + 5 by omega]
            exact O2.out
          · have hb1 : Below w.heap.size w (wr.alloc (.cells #[.int .u8 116, .int .u8 105, .int .u8 99, .int .u8 107, .int .u8 10] 5)) := BL.out.alloc hz _
            exact hb1.grown G2.out hb1.size (fun q hq => by have e := Option.some.inj hq; have := (OW.out.lt g rfl).1; omega)
        case measure =>
          simp only [intOf]
          omega
      · obtain rfl : i = m := by omega
        have e1 : decide ((i : Int) < (i : Int)) = false := by simp
        have hrow : RowAt wr g 5 (byteVals (ticks i)) := RowAt.of_own OW.out
        have hcv := run_string_of (P := Tryd.prog) (src := 22) (e := 5) (dst := 9) (c := cap) Tryd.underlying22 Tryd.underlying5 Tryd.underlying9 hrow.bytesIn (.inr ⟨_, _, rfl⟩)
        rw [ticks_len] at hcv
        clear hrow
        go_upto_region 10 with (
          go_at_call 15
          refine (tTicks i wr (HE.out.below BL.out) (by omega)).mono ?_
          rintro e w3 ⟨⟨v, a, b, rfl, ho⟩, hb⟩
          have HO := Lib.hid ho
          have B3 := Lib.hid (show Below w.heap.size w w3 from BL.out.trans (hb.mono hz))
          clear ho hb)
        clear hcv
        rcases HO.out with ⟨h6, ⟨B, c, rfl⟩, rfl, rfl⟩ | ⟨h6, rfl, rfl, rfl⟩
        · have e4 : decide ((65536 : Int) < (i : Int)) = false := decide_eq_false (by omega)
          have e5 : ¬ (65536 : Int) < (i : Int) := by omega
          go_wp2_with (
            go_at_call 11
            refine (tAwake w3 (HE.out.below B3.out)).mono ?_
            rintro e w4 ⟨rfl, hb4⟩
            have B4 := Lib.hid (show Below w.heap.size w w4 from B3.out.trans (hb4.mono B3.out.size))
            clear hb4)
          go_ret
          exact ⟨rfl, B4.out⟩
        · have e4 : decide ((65536 : Int) < (i : Int)) = true := decide_eq_true (by omega)
          have e5 : (65536 : Int) < (i : Int) := by omega
          go_wp2_with (
            go_at_call 11
            refine (tAwake w3 (HE.out.below B3.out)).mono ?_
            rintro e w4 ⟨rfl, hb4⟩
            have B4 := Lib.hid (show Below w.heap.size w w4 from B3.out.trans (hb4.mono B3.out.size))
            clear hb4)
          go_ret
          exact ⟨rfl, B4.out⟩
end Go.Proofs.YtkkmojbaoflafaaDoor
