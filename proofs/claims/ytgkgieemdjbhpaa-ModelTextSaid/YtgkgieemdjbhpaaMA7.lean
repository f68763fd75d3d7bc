/- The fixed fact of the model's laws. No condition beyond those that each theorem states. -/
import Derived.Test.YtgkgieemdjbhpaaMA6
import Derived.Deep.DeepCutAuto
import Derived.Deep.CutBlock
import Derived.Deep.RegionHeldLaw
namespace Go.Proofs.Ytgkgieemdjbhpaa
open Go.RowKit Go.Maps

abbrev aw1 : MV := [([98], [120, 121])]
abbrev aw2 : MV := [([98], [120, 121]), ([97], [])]
theorem aw_put1 : putE [] [98] [120, 121] = 0 ∧ putM [] [98] [120, 121] = aw1 := by decide
theorem aw_put2 : putE aw1 [97] [] = 0 ∧ putM aw1 [97] [] = aw2 := by decide
theorem aw_put3 : putE aw2 [97] [] = 4 ∧ putM aw2 [97] [] = aw2 := by decide
theorem aw_get : getM aw2 [98] = [120, 121] ∧ hasM aw2 [98] = true := by decide
theorem aw_del : delE aw2 [99] = 5 ∧ delM aw2 [99] = aw2 := by decide
theorem aw_sort : sortM aw2 = [[97], [98]] := by
  have h1 : (sortM aw2).Perm [[97], [98]] := (List.mergeSort_perm _ _).trans (by decide)
  have tr : ∀ a b c : List UInt8, leB a b = true → leB b c = true → leB a c = true := fun a b c h1 h2 => by simp only [leB, decide_eq_true_eq] at *; exact List.le_trans h1 h2
  have tt : ∀ a b : List UInt8, (leB a b || leB b a) = true := fun a b => by simp only [leB, Bool.or_eq_true, decide_eq_true_eq]; exact List.le_total a b
  refine List.Perm.eq_of_pairwise (le := fun a b => leB a b = true) (fun a b _ _ h1 h2 => ?_) (List.pairwise_mergeSort tr tt _) (by decide) h1
  simp only [leB, decide_eq_true_eq] at h1 h2
  exact List.le_antisymm h1 h2
theorem aw_text : textM aw2 = [1, 97, 0, 1, 98, 2, 120, 121] := by
  unfold textM
  rw [aw_sort]
  decide
theorem lit_bytes (W : World) (l : List UInt8) : BytesIn (W.alloc (.cells (byteVals l).toArray 5)) (some ⟨W.heap.size, 0, none⟩) l.length l :=
  ⟨rfl, .inr ⟨_, 0, rfl, by simp, fun i u hu => by
    rw [Nat.zero_add, (Blk.made W 5 (byteVals l).toArray).cell i]
    simp only [List.getElem?_toArray, byteVals_get, hu]
    rfl⟩⟩
theorem below_drew1 {B : Nat} {w : World} : Below B w w.drew := ⟨rfl, rfl, rfl, Nat.le_refl _, fun _ _ => rfl⟩
theorem aw_enc : encStr [1, 97, 0, 1, 98, 2, 120, 121] = .string ⟨#[1, 97, 0, 1, 98, 2, 120, 121]⟩ := rfl
theorem aw_lit : ∀ W : World, (convert 29 9 (.slice (some ⟨W.heap.size, 0, none⟩) 8 8)).run Try.prog (W.alloc (.cells #[.int .u8 1, .int .u8 97, .int .u8 0, .int .u8 1, .int .u8 98, .int .u8 2, .int .u8 120, .int .u8 121] 5)) = .ok (.string ⟨#[1, 97, 0, 1, 98, 2, 120, 121]⟩) (W.alloc (.cells #[.int .u8 1, .int .u8 97, .int .u8 0, .int .u8 1, .int .u8 98, .int .u8 2, .int .u8 120, .int .u8 121] 5)) :=
  fun W => bytes_string (c := 8) (lit_bytes W [1, 97, 0, 1, 98, 2, 120, 121]) (.inr ⟨_, _, rfl⟩)
set_option maxHeartbeats 4000000 in
theorem awake22 (w : World) : Calls Try.prog 20 #[] w fun e w' => e = .returned (.bool true) ∧ Below w.heap.size w w' := by
  go_enter Try.func20, Try.ntmps20
  go_upto_region 4 with (first
    | (go_at_call 8; refine (mNew _).mono ?_; rintro e w1 ⟨p, b, rfl, hm1, hb1⟩; have M1 := Lib.hid hm1; have BL1 := Lib.hid hb1; have hz1 := hb1.size; clear hm1 hb1)
    | (go_at_call 11; have M1' := M2; refine (mPut w.heap.size p b aw1 [97] none 0 0 [] _ M2.out (by omega) (by decide) (by decide) ⟨by decide, by decide, fun _ => ⟨rfl, rfl⟩⟩ (BytesIn.empty _ _)).mono ?_; rw [aw_put2.1, aw_put2.2]; rintro e w3 ⟨rfl, hm3, hg3⟩; have M3 := Lib.hid hm3; have BL3 := Lib.hid (BL2.out.grown hg3 hz2 (fun y hy => by have h : b = y := Option.some.inj hy; have h2 := M1.out.ge; omega)); have hz3 := BL3.out.size; clear hm3 hg3)
    | (go_at_call 11; refine (mPut w.heap.size p b [] [98] (some ⟨w1.heap.size, 0, none⟩) 2 2 [120, 121] _ (M1.out.below ((Below.refl _ _).alloc (Nat.le_refl _) _)) (by simp; omega) (by decide) (by decide) ⟨by decide, by decide, fun e => by cases e⟩ (by exact lit_bytes w1 [120, 121])).mono ?_; rw [aw_put1.1, aw_put1.2]; rintro e w2 ⟨rfl, hm2, hg2⟩; have M2 := Lib.hid hm2; have BL2 := Lib.hid ((BL1.out.alloc hz1 _).grown hg2 (by simp; omega) (fun y hy => by have h : b = y := Option.some.inj hy; have h2 := M1.out.ge; omega)); have hz2 := BL2.out.size; clear hm2 hg2)
    | (go_at_call 18; refine (mGet w.heap.size p b aw2 [98] _ M3.out (by decide)).mono ?_; rw [aw_get.1, aw_get.2]; rintro e w4 ⟨B, n, rfl, hb4, hf4, hg4, hbe4⟩; have G4 := Lib.hid hb4; have GG4 := Lib.hid hg4; have M4 := Lib.hid (M3.out.below hbe4); have BL4 := Lib.hid (BL3.out.trans (hbe4.mono hz3)); have hz4 := BL4.out.size; have hbw := M3.out.lt; have HZ4 := Lib.hid hbe4.size; clear hb4 hf4 hg4 hbe4))
  have hn2 : n = 2 := G4.out.1.symm
  subst hn2
  have GA := Lib.hid (show B = none ∨ (∃ b off, B = some ⟨b, off, none⟩) by
    cases B with
    | none => exact .inl rfl
    | some a =>
      obtain ⟨g, off, q⟩ := a
      obtain ⟨_, _, rfl, _⟩ := GG4.out g off q rfl
      exact .inr ⟨g, off, rfl⟩)
  have HLIT := Lib.hid (aw_lit)
  go_region_held_law (fun _ => True) (trivial) ((first
    | (go_at_call 11
       refine (mPut w.heap.size p b aw2 [97] none 0 0 [] _ (M4.out.below below_drew1) (by exact hz4) (by decide) (by decide) ⟨by decide, by decide, fun _ => ⟨rfl, rfl⟩⟩ (BytesIn.empty _ _)).mono ?_
       rw [aw_put3.1, aw_put3.2]
       rintro e w5 ⟨rfl, hm5, hg5⟩
       have M5 := Lib.hid hm5
       have BL5 := Lib.hid (show Below w.heap.size w w5 from BL4.out.grown (w := w4) ⟨hg5.os, hg5.tape, hg5.output, hg5.size, hg5.block⟩ hz4 (fun y hy => by have h : b = y := Option.some.inj hy; have h2 := M1.out.ge; omega))
       have G5 := G4.out.keep (w' := w5) hg5.size (fun g off hB hlt => hg5.block g hlt (fun e => by have h : g = b := Option.some.inj e; have h2 := (GG4.out g off none hB).1; omega))
       have hcv5 : (convert 29 9 (.slice B 2 2)).run Try.prog w5 = .ok (.string ⟨#[120, 121]⟩) w5 := bytes_string G5 GA.out
       have hz5 := BL5.out.size
       have hlit5 := HLIT.out w5
       clear hm5 hg5 G5)
    | (go_at_call 9
       refine (mDelete w.heap.size p b aw2 [99] _ (by first | exact M6.out | exact M6.out.below ((Below.refl _ _).alloc (Nat.le_refl _) _)) (by decide)).mono ?_
       rw [aw_del.1, aw_del.2]
       rintro e w7 ⟨rfl, hm7, hg7⟩
       have BL7 := Lib.hid (show Below w.heap.size w w7 by first | exact (BL5.out.trans (BL6.out.mono hz5)).grown hg7 (by omega) (fun y hy => by have h : b = y := Option.some.inj hy; have h2 := M1.out.ge; omega) | exact ((BL5.out.trans (BL6.out.mono hz5)).alloc (by omega) _).grown hg7 (by simp; omega) (fun y hy => by have h : b = y := Option.some.inj hy; have h2 := M1.out.ge; omega))
       clear hm7 hg7)
    | (go_at_call 16
       refine (mText w.heap.size p b aw2 _ (by first | exact M5.out | exact M5.out.below ((Below.refl _ _).alloc (Nat.le_refl _) _)) (by decide)).mono ?_
       rw [aw_text, aw_enc]
       rintro e w6 ⟨rfl, hb6⟩
       have BL6 := Lib.hid (show Below w5.heap.size w5 w6 by first | exact hb6 | exact ((Below.refl _ w5).alloc (Nat.le_refl _) _).trans (hb6.mono (by simp)))
       have M6 := Lib.hid (M5.out.below BL6.out)
       try (have hlit6 : (convert 29 9 (.slice (some ⟨w5.heap.size, 0, none⟩) 8 8)).run Try.prog w6 = .ok (.string ⟨#[1, 97, 0, 1, 98, 2, 120, 121]⟩) w6 := bytes_string ((lit_bytes w5 [1, 97, 0, 1, 98, 2, 120, 121]).below hb6) (.inr ⟨_, _, rfl⟩))
       have hz6 := BL6.out.size
       have hlit7 := HLIT.out w6
       clear hb6)))
  all_goals
    go_wp2_with fail
    go_ret
    exact ⟨rfl, BL7.out⟩
end Go.Proofs.Ytgkgieemdjbhpaa
