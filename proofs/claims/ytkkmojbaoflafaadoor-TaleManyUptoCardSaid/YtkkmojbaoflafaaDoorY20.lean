/- The document's split. No condition beyond those that each theorem states. -/
import Derived.Test.YtkkmojbaoflafaaDoorY19
namespace Go.Proofs.YtkkmojbaoflafaaDoor
open Go.RowKit Go.Shelf
attribute [local go_sem] Oper.semAt_some

theorem str_sl (l : Str) (a b : Nat) : (⟨l.toArray⟩ : ByteArray).extract a b = ⟨((l.take b).drop a).toArray⟩ := by
  apply ByteArray.ext
  simp [List.drop_take]
theorem drop_split {s : Str} {f i : Nat} (h : f ≤ i) (hi : i ≤ s.length) : s.drop f = (s.take i).drop f ++ s.drop i := by
  have e : s = s.take i ++ s.drop i := (List.take_append_drop i s).symm
  calc s.drop f = (s.take i ++ s.drop i).drop f := by rw [← e]
    _ = _ := by rw [List.drop_append_of_le_length (by simp; omega)]
theorem drop_one {s : Str} {i : Nat} {ch : UInt8} (h : s[i]? = some ch) : s.drop i = ch :: s.drop (i + 1) := by
  obtain ⟨hi, he⟩ := List.getElem?_eq_some_iff.1 h
  rw [List.drop_eq_getElem_cons hi, he]
theorem take_one {s : Str} {i f : Nat} {ch : UInt8} (h : s[i]? = some ch) (hf : f ≤ i) : (s.take (i + 1)).drop f = (s.take i).drop f ++ [ch] := by
  have hi := (List.getElem?_eq_some_iff.1 h).1
  rw [List.take_add_one, h, List.drop_append_of_le_length (by simp; omega)]
  rfl
set_option maxHeartbeats 4000000 in
set_option maxRecDepth 100000 in
theorem rSplit (s : Str) (c : UInt8) (w : World) (hs : s.length ≤ 1000000000) :
    Calls Tryd.prog 28 #[strV s, .int .u8 (c.toNat : Int)] w fun e w' => (∃ v, e = .returned v ∧ w'.ownsRow w.heap.size 9 1 v (splitT c s).length ((splitT c s).map strV)) ∧ Below w.heap.size w w' := by
  obtain ⟨i0, hi0, hz0, hz1, hz2⟩ := info_parts str_info
  obtain ⟨n, hn⟩ : ∃ n, s.length = n := ⟨_, rfl⟩
  have HN := Lib.hid hn
  have OW0 := Lib.hid (World.ownsRow_lit (base := w.heap.size) (e := 9) (size := 1) w #[] 0 (Nat.le_refl _) (by decide) rfl)
  go_enter Tryd.func28, Tryd.ntmps28
  go_upto_region 4 with fail
  go_loopw [5, 6, 7] (fun ov fv iv wr => ∃ (i f k : Nat) (done : List Str), iv = .int .i64 i ∧ fv = .int .i64 f ∧ done.length = k ∧ wr.ownsRow w.heap.size 9 1 ov k (done.map strV) ∧ k ≤ i ∧
    ((i ≤ n ∧ f ≤ i ∧ splitT c s = done ++ splitT c (s.drop f) ∧ c ∉ (s.take i).drop f) ∨ (i = n + 1 ∧ splitT c s = done)) ∧ Below w.heap.size w wr) (fun _ _ iv _ => n + 1 - (intOf iv).toNat)
  case atStart => exact ⟨0, 0, 0, [], rfl, rfl, rfl, OW0.out, Nat.le_refl _, .inl ⟨Nat.zero_le _, Nat.le_refl _, rfl, by simp⟩, (Below.refl _ w).alloc (Nat.le_refl _) _⟩
  case round =>
    obtain ⟨i, f, k, done, rfl, rfl, hk, hown, hki, hcase, hbl⟩ := hrel
    obtain ⟨B, cc, rfl⟩ := own_form hown
    have OW := Lib.hid hown
    have BL := Lib.hid hbl
    have HK := Lib.hid hk
    have hz := hbl.size
    clear hown hbl OW0 hk
    have hn9 : n ≤ 1000000000 := by rw [← hn]; exact hs
    rcases hcase with ⟨hin, hfi, hsp, hcalm⟩ | ⟨hin, hsp⟩
    · have SP := Lib.hid hsp
      have CA := Lib.hid hcalm
      clear hsp hcalm
      have e1 : decide ((i : Int) ≤ (n : Int)) = true := decide_eq_true (by omega)
      have e2 : (i : Int) ≤ (n : Int) := by omega
      have g0 : (0 : Int) ≤ (f : Int) := by omega
      have g1 : (f : Int) ≤ (i : Int) := by omega
      have g2 : (0 : Int) ≤ (i : Int) := by omega
      have p1 : IntKind.i64.wrap ((i : Int) + 1) = ((i + 1 : Nat) : Int) := by rw [IntWalk.i64_in _ (by omega)]; omega
      by_cases hl : i = n
      · subst hl
        clear e1 e2 hin
        obtain ⟨pc, hpc⟩ : ∃ pc, (s.take i).drop f = pc := ⟨_, rfl⟩
        have x1 : (⟨s.toArray⟩ : ByteArray).extract f i = ⟨pc.toArray⟩ := by rw [str_sl, hpc]
        have PC := Lib.hid hpc
        clear hpc
        go_wp2_with (
          at_builtin
          refine wpList_append_own _ rfl _ _ 50 rfl w.heap.size 9 i0 _ 1 16 Tryd.underlying50 hi0 hz0 hz1 hz2 rfl (by decide) (.slice B k cc) k (done.map strV) rfl (by exact OW.out.alloc _) ⟨wr.heap.size, 0, none⟩ 1 1 [strV pc] rfl rfl (by exact cells_new wr #[strV pc] 9 rfl) (by simp [strV, Value.oneCell']) (by simp only [maxLen]; omega) (by omega) (by simp; omega) ?_
          intro v2 w2 hown2 hg2 _
          obtain ⟨B2, c2, rfl⟩ := own_form hown2
          have O2 := Lib.hid hown2
          have G2 := Lib.hid hg2
          clear hown2 hg2)
        go_roundw
        case rel =>
          refine ⟨i + 1, i + 1, k + 1, done ++ [pc], by simp, by simp, by rw [List.length_append, HK.out]; rfl, ?_, by omega, .inr ⟨rfl, ?_⟩, ?_⟩
          · rw [List.map_append]
            exact O2.out
          · have hd : s.drop f = pc := by rw [← PC.out, List.take_of_length_le (by rw [HN.out]; exact Nat.le_refl _)]
            rw [SP.out, hd, splitT_calm (by have h := CA.out; rw [PC.out] at h; exact h)]
          · have hb1 : Below w.heap.size w (wr.alloc (.cells #[strV pc] 9)) := BL.out.alloc hz _
            exact hb1.grown G2.out hb1.size (fun q hq => (OW.out.lt q hq).1)
        case measure =>
          simp only [intOf]
          omega
      · have hlt : i < n := by omega
        have e3 : (i : Int) < (n : Int) := by omega
        obtain ⟨ch, hch⟩ : ∃ ch, s[i]? = some ch := ⟨_, List.getElem?_eq_getElem (by omega)⟩
        have e0 : ∀ h, (⟨s.toArray⟩ : ByteArray)[i]'h = ch := fun h => (List.getElem?_eq_some_iff.1 hch).2
        have q1 : ((i : Int) == (n : Int)) = false := by rw [beq_eq_false_iff_ne]; omega
        have HCH := Lib.hid hch
        clear hch hl hin
        by_cases hc : ch = c
        · subst hc
          obtain ⟨pc, hpc⟩ : ∃ pc, (s.take i).drop f = pc := ⟨_, rfl⟩
          have x1 : (⟨s.toArray⟩ : ByteArray).extract f i = ⟨pc.toArray⟩ := by rw [str_sl, hpc]
          have PC := Lib.hid hpc
          clear hpc
          go_wp2_with (
            at_builtin
            refine wpList_append_own _ rfl _ _ 50 rfl w.heap.size 9 i0 _ 1 16 Tryd.underlying50 hi0 hz0 hz1 hz2 rfl (by decide) (.slice B k cc) k (done.map strV) rfl (by exact OW.out.alloc _) ⟨wr.heap.size, 0, none⟩ 1 1 [strV pc] rfl rfl (by exact cells_new wr #[strV pc] 9 rfl) (by simp [strV, Value.oneCell']) (by simp only [maxLen]; omega) (by omega) (by simp; omega) ?_
            intro v2 w2 hown2 hg2 _
            obtain ⟨B2, c2, rfl⟩ := own_form hown2
            have O2 := Lib.hid hown2
            have G2 := Lib.hid hg2
            clear hown2 hg2)
          go_roundw
          case rel =>
            refine ⟨i + 1, i + 1, k + 1, done ++ [pc], by simp, by simp, by rw [List.length_append, HK.out]; rfl, ?_, by omega, .inl ⟨hlt, Nat.le_refl _, ?_, by rw [List.drop_of_length_le (by rw [List.length_take]; omega)]; simp⟩, ?_⟩
            · rw [List.map_append]
              exact O2.out
            · rw [SP.out, drop_split hfi (by rw [HN.out]; omega), drop_one HCH.out, splitT_at _ CA.out, PC.out, List.append_assoc]
              rfl
            · have hb1 : Below w.heap.size w (wr.alloc (.cells #[strV pc] 9)) := BL.out.alloc hz _
              exact hb1.grown G2.out hb1.size (fun q hq => (OW.out.lt q hq).1)
          case measure =>
            simp only [intOf]
            omega
        · have q2 : ((ch.toNat : Int) == (c.toNat : Int)) = false := by rw [beq_eq_false_iff_ne]; intro h; exact hc (UInt8.toNat_inj.1 (by omega))
          have HC := Lib.hid hc
          clear hc
          go_wp2_with fail
          go_roundw
          case rel => exact ⟨i + 1, f, k, done, by simp, rfl, HK.out, OW.out, by omega, .inl ⟨hlt, by omega, SP.out, by rw [take_one HCH.out hfi]; intro hm; rcases List.mem_append.1 hm with hm | hm; exact CA.out hm; exact HC.out (List.mem_singleton.1 hm).symm⟩, BL.out⟩
          case measure =>
            simp only [intOf]
            omega
    · have SP := Lib.hid hsp
      have e1 : decide ((i : Int) ≤ (n : Int)) = false := decide_eq_false (by omega)
      have e2 : ¬ (i : Int) ≤ (n : Int) := by omega
      clear hsp hin
      go_wp2_with fail
      go_ret
      refine ⟨⟨_, rfl, ?_⟩, BL.out⟩
      rw [SP.out, HK.out]
      exact OW.out
end Go.Proofs.YtkkmojbaoflafaaDoor
