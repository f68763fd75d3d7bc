/- The document's Hex. No condition beyond those that each theorem states. -/
import Derived.Test.YtkkmojbaoflafaaDoorY23
import Derived.Deep.RegionHeldLaw
namespace Go.Proofs.YtkkmojbaoflafaaDoor
open Go.RowKit Go.Shelf
attribute [local go_sem] Oper.semAt_some

theorem hex_at (k : Nat) (hk : k < 16) : ∀ h, ((⟨#[48, 49, 50, 51, 52, 53, 54, 55, 56, 57, 97, 98, 99, 100, 101, 102]⟩ : ByteArray)[k]'h).toNat = (hexD k).toNat := by
  have h : ∀ k : Fin 16, ((⟨#[48, 49, 50, 51, 52, 53, 54, 55, 56, 57, 97, 98, 99, 100, 101, 102]⟩ : ByteArray)[k.val]'(by have := k.isLt; show k.val < 16; exact this)).toNat = (hexD k.val).toNat := by decide
  intro _
  exact h ⟨k, hk⟩
theorem and15 (k : Nat) (hk : k < 256) : bits .and .u8 (k : Int) 15 = ((k % 16 : Nat) : Int) := by
  have h : ∀ k : Fin 256, bits .and .u8 (k.val : Int) 15 = ((k.val % 16 : Nat) : Int) := by decide +kernel
  exact h ⟨k, hk⟩
set_option maxHeartbeats 4000000 in
set_option maxRecDepth 100000 in
theorem rHex (s : Str) (w : World) (hs : s.length + s.length + 1 ≤ 140737488355328) : Calls Tryd.prog 24 #[strV s] w fun e w' => e = .returned (strV (hexT s)) ∧ Below w.heap.size w w' := by
  obtain ⟨i0, hi0, hz0, hz1, hz2⟩ := info_parts byte_info
  obtain ⟨n, hn⟩ : ∃ n, s.length = n := ⟨_, rfl⟩
  have HN := Lib.hid hn
  have hn9 : n + n + 1 ≤ 140737488355328 := by rw [← hn]; exact hs
  clear hs
  have OW0 := Lib.hid (World.ownsRow_lit (base := w.heap.size) (e := 5) (size := 1) w #[.int .u8 120] 1 (Nat.le_refl _) (by decide) rfl)
  go_enter Tryd.func24, Tryd.ntmps24
  go_upto_region 4 with fail
  go_loopw [4, 5] (fun ov iv wr => ∃ (i g cap k : Nat), iv = .int .i64 i ∧ i ≤ n ∧ k = i + i + 1 ∧ ov = .slice (some ⟨g, 0, none⟩) k cap ∧ wr.ownsRow w.heap.size 5 1 ov k (byteVals (hexT (s.take i))) ∧ Below w.heap.size w wr) (fun _ iv _ => n - (intOf iv).toNat)
  case atStart => exact ⟨0, w.heap.size, 1, 1, rfl, Nat.zero_le _, rfl, rfl, OW0.out, (Below.refl _ w).alloc (Nat.le_refl _) _⟩
  case round =>
    obtain ⟨i, g, cap, k, rfl, hin, hk, rfl, hown, hbl⟩ := hrel
    have OW := Lib.hid hown
    have BL := Lib.hid hbl
    have HK := Lib.hid hk
    have hz := hbl.size
    clear hown hbl OW0
    by_cases hlt : i < n
    · obtain ⟨ch, hch⟩ : ∃ ch, s[i]? = some ch := ⟨_, List.getElem?_eq_getElem (by omega)⟩
      have HCH := Lib.hid hch
      obtain ⟨cn, hcn⟩ : ∃ cn, ch.toNat = cn := ⟨_, rfl⟩
      have hc2 : cn < 256 := by rw [← hcn]; exact ch.toNat_lt
      have e0 : ∀ h, ((⟨s.toArray⟩ : ByteArray)[i]'h).toNat = cn := fun h => (congrArg UInt8.toNat (List.getElem?_eq_some_iff.1 hch).2).trans hcn
      have f1 : decide ((i : Int) < (n : Int)) = true := decide_eq_true (by omega)
      have f2 : (i : Int) < (n : Int) := by omega
      have f3 : (0 : Int) ≤ (i : Int) := by omega
      have p1 : IntKind.i64.wrap ((i : Int) + 1) = ((i + 1 : Nat) : Int) := by rw [IntWalk.i64_in _ (by omega)]; omega
      have hk9 : k + 2 ≤ 140737488355328 := by omega
      have HC := Lib.hid hcn
      obtain ⟨a, ha⟩ : ∃ a, cn / 16 = a := ⟨_, rfl⟩
      obtain ⟨b, hb⟩ : ∃ b, cn % 16 = b := ⟨_, rfl⟩
      have r1 : (cn : Int) / 16 = (a : Int) := by omega
      have r2 : (cn : Int) % 16 = (b : Int) := by omega
      have r3 : (0 : Int) ≤ (a : Int) := by omega
      have r4 : (a : Int) < 16 := by omega
      have r5 : a < 16 := by omega
      have r6 : (0 : Int) ≤ (b : Int) := by omega
      have r7 : (b : Int) < 16 := by omega
      have r8 : b < 16 := by omega
      have r9 : bits .and .u8 (cn : Int) 15 = (b : Int) := by rw [and15 cn hc2, hb]
      have x1 := hex_at a r5
      have x2 := hex_at b r8
      have HAB := Lib.hid (And.intro ha hb)
      clear ha hb
      clear hch hin hk hcn
      go_upto_region 6 with fail
      go_region_law (
        refine step_append_form _ rfl (.tmp 13) (.tmp 26) 22 rfl w.heap.size 5 i0 _ 1 1 Tryd.underlying22 hi0 hz0 hz1 hz2 rfl (by omega) (.slice (some ⟨g, 0, none⟩) k cap) k (byteVals (hexT (s.take i))) rfl (by exact OW.out.alloc _) (some ⟨wr.heap.size, 0, none⟩) 2 2 [.int .u8 ((hexD a).toNat : Int), .int .u8 ((hexD b).toNat : Int)] rfl rfl (fun e => by cases e) (by exact src_new _ _ _ _) (by simp [Value.oneCell']) (by omega) (by simp only [maxLen]; omega) (by omega) (by simp; omega) ?_
        intro g2 cap2 w2 hown2 hg2 hat2 hlt2
        have O2 := Lib.hid hown2
        have G2 := Lib.hid hg2
        clear hown2 hg2 hat2)
      all_goals
        go_wp2_with fail
        go_roundw
        case rel =>
          refine ⟨i + 1, g2, cap2, k + 2, by simp, hlt, by have := HK.out; omega, rfl, ?_, ?_⟩
          · have h := take_one (f := 0) HCH.out (Nat.zero_le _)
            simp only [List.drop_zero] at h
            have e : byteVals (hexT (s.take (i + 1))) = byteVals (hexT (s.take i)) ++ [.int .u8 ((hexD a).toNat : Int), .int .u8 ((hexD b).toNat : Int)] := by
              rw [h, ← HAB.out.1, ← HAB.out.2, ← HC.out]
              simp [hexT, hexB, byteVals]
            rw [e]
            exact O2.out
          · have hb1 : Below w.heap.size w (wr.alloc (.cells #[.int .u8 ((hexD a).toNat : Int), .int .u8 ((hexD b).toNat : Int)] 5)).drew := below_drew3 (BL.out.alloc hz _)
            exact hb1.grown G2.out hb1.size (fun q hq => (OW.out.lt q hq).1)
        case measure =>
          simp only [intOf]
          omega
    · have hie : i = n := by omega
      have f1 : decide ((i : Int) < (n : Int)) = false := decide_eq_false (by omega)
      have f2 : ¬ (i : Int) < (n : Int) := by omega
      have hrow : RowAt wr g 5 (byteVals (hexT (s.take i))) := RowAt.of_own OW.out
      have hlen : (hexT (s.take i)).length = k := by rw [hexT_len, List.length_take]; omega
      have hcv := run_string_of (P := Tryd.prog) (src := 22) (e := 5) (dst := 9) (c := cap) Tryd.underlying22 Tryd.underlying5 Tryd.underlying9 hrow.bytesIn (.inr ⟨_, _, rfl⟩)
      rw [hlen] at hcv
      have HT := Lib.hid (show s.take i = s from List.take_of_length_le (by omega))
      clear hie hin hk hrow hlen hlt
      go_wp2_with fail
      go_ret
      exact ⟨congrArg (fun z => Ending.returned (strV (hexT z))) HT.out, BL.out⟩
end Go.Proofs.YtkkmojbaoflafaaDoor
