/- The fixed fact awake of the laws on libraries returns true. No condition beyond those that each theorem states. -/
import Derived.Test.YtiiilimmjoadeaaL12
namespace Go.Proofs.Ytiiilimmjoadeaa
open Go.RowKit

theorem newL_two {L : LV} (h : NewL 2 1 9 L) : ∃ p0 p1, L = ⟨[⟨p0, [], 9, false⟩, ⟨p1, [], 9, false⟩], [⟨-1, 0, 0, false⟩], 0⟩ := by
  obtain ⟨h1, h2, h3, h4⟩ := h
  rcases L with ⟨cs, ds, now⟩
  simp only at h1 h2 h3 h4
  subst h4 h3
  match cs, h1, h2 with
  | [a, b], _, h2 =>
    obtain ⟨x1, x2, x3⟩ := h2 a (by simp)
    obtain ⟨y1, y2, y3⟩ := h2 b (by simp)
    rcases a with ⟨pa, Ma, ma, la⟩
    rcases b with ⟨pb, Mb, mb, lb⟩
    simp only at x1 x2 x3 y1 y2 y3
    subst x1 x2 x3 y1 y2 y3
    exact ⟨pa, pb, rfl⟩

section
variable (p0 p1 : Nat)
def s8 (M : Recs) (d : DV) (now : Int) : LV := ⟨[⟨p0, [], 9, false⟩, ⟨p1, M, 9, false⟩], [d], now⟩
theorem a1 : goM (s8 p0 p1 [] ⟨-1, 0, 0, false⟩ 0) 1 0 = (false, 0, s8 p0 p1 [] ⟨1, 0, 1, false⟩ 1) := rfl
theorem a2 : goM (s8 p0 p1 [] ⟨1, 0, 1, false⟩ 1) 1 0 = (true, 0, s8 p0 p1 [] ⟨1, 0, 2, false⟩ 2) := rfl
theorem a3 : lappendM (s8 p0 p1 [] ⟨1, 0, 2, false⟩ 2) 1 [97, 98] = ((0, 0), s8 p0 p1 [([97, 98], false)] ⟨1, 1, 2, false⟩ 2) := rfl
theorem a4 : lreadM (s8 p0 p1 [([97, 98], false)] ⟨1, 1, 2, false⟩ 2) 1 0 = (([], 8), s8 p0 p1 [([97, 98], false)] ⟨1, 1, 2, false⟩ 2) := rfl
theorem a5 : goM (s8 p0 p1 [([97, 98], false)] ⟨1, 1, 2, false⟩ 2) 1 0 = (false, 0, s8 p0 p1 [([97, 98], false)] ⟨1, 0, 3, false⟩ 3) := rfl
theorem a6 : lreadM (s8 p0 p1 [([97, 98], false)] ⟨1, 0, 3, false⟩ 3) 1 0 = (([97, 98], 0), s8 p0 p1 [([97, 98], false)] ⟨1, 1, 3, false⟩ 3) := rfl
theorem a7 : goM (s8 p0 p1 [([97, 98], false)] ⟨1, 1, 3, false⟩ 3) 0 0 = (false, 0, s8 p0 p1 [([97, 98], false)] ⟨0, 0, 4, false⟩ 4) := rfl
theorem a8 : driveM (s8 p0 p1 [([97, 98], false)] ⟨0, 0, 4, false⟩ 4) 0 = (0, 0, true) := rfl
theorem a9 : breakM (s8 p0 p1 [([97, 98], false)] ⟨0, 0, 4, false⟩ 4) 0 = (true, s8 p0 p1 [([97, 98], false)] brokenD 4) := rfl
theorem a10 : goM (s8 p0 p1 [([97, 98], false)] brokenD 4) 0 0 = (false, 11, s8 p0 p1 [([97, 98], false)] brokenD 4) := rfl
end
theorem pos_ok {p0 p1 : Nat} {M : Recs} {d : DV} {now : Int} (h : 0 ≤ d.pos ∧ d.pos < 4611686018427387904) : ∀ x ∈ (s8 p0 p1 M d now).drives, 0 ≤ x.pos ∧ x.pos < 4611686018427387904 := by
  intro x hx
  have e : x = d := by simpa [s8] using hx
  rw [e]
  exact h

theorem now_ok {p0 p1 : Nat} {M : Recs} {d : DV} {now : Int} (h : 0 ≤ now ∧ now < 4611686018427387904) : 0 ≤ (s8 p0 p1 M d now).now ∧ (s8 p0 p1 M d now).now < 4611686018427387904 := h
/-- All that is owned is new since w0. -/
theorem Took.base {F F' : Nat → Prop} {w0 w w' : World} (h : Took F F' w w') (hb : Below w0.heap.size w0 w) (hF : ∀ k, F k → w0.heap.size ≤ k) : Below w0.heap.size w0 w' ∧ ∀ k, F' k → w0.heap.size ≤ k :=
  ⟨hb.trans (h.1.below hb.size hF), fun k hk => (h.2 k hk).2.elim (hF k) (Nat.le_trans hb.size)⟩
/-- The library, alone in what is new. -/
def LAlone (w0 w : World) (lp : Nat) (L : LV) : Prop := ∃ F, LOwn F w lp L ∧ (∀ k, F k → w0.heap.size ≤ k) ∧ Below w0.heap.size w0 w
theorem LAlone.step {w0 w w' : World} {lp : Nat} {L' : LV} {F : Nat → Prop} (hF : ∀ k, F k → w0.heap.size ≤ k) (hb : Below w0.heap.size w0 w) (h : ∃ F', LOwn F' w' lp L' ∧ Took F F' w w') : LAlone w0 w' lp L' := by
  obtain ⟨F', h1, h2⟩ := h
  exact ⟨F', h1, (h2.base hb hF).2, (h2.base hb hF).1⟩

set_option maxRecDepth 100000 in
set_option maxHeartbeats 4000000 in
theorem awake08 (w : World) : Calls Try.prog 39 #[] w fun e w' => e = .returned (.bool true) ∧ Below w.heap.size w w' := by
  go_enter Try.func39, Try.ntmps39
  go_wp2_with fail
  refine (oNew 2 9 1 _).mono ?_
  rintro e w1 ⟨lp, L, rfl, hlp, h1, hb1, hn⟩
  obtain ⟨p0, p1, rfl⟩ := newL_two hn
  have P1 := Lib.hid (show LAlone w w1 lp (s8 p0 p1 [] ⟨-1, 0, 0, false⟩ 0) from ⟨_, h1, fun _ h => h, hb1⟩)
  clear h1 hn hb1
  go_wp2_with fail
  obtain ⟨F1, h1, hF1, hb1⟩ := P1.out
  refine (oGo h1 1 0 (now_ok (by decide))).mono ?_
  rintro e w2 ⟨rfl, h2⟩
  rw [a1] at h2
  have P2 := Lib.hid (LAlone.step hF1 hb1 h2)
  clear h1 h2 hF1 hb1 P1
  simp only [a1]
  go_wp2_with fail
  obtain ⟨F1, h1, hF1, hb1⟩ := P2.out
  refine (oGo h1 1 0 (now_ok (by decide))).mono ?_
  rintro e w3 ⟨rfl, h2⟩
  rw [a2] at h2
  have P3 := Lib.hid (LAlone.step hF1 hb1 h2)
  clear h1 h2 hF1 hb1 P2
  simp only [a2]
  go_wp2_with fail
  obtain ⟨F1, h1, hF1, hb1⟩ := P3.out
  refine (oAppend ((LOwn.owning _ _).below h1 ((Below.refl _ _).alloc (Nat.le_refl _) _)) 1 _ 2 2 [97, 98] (pos_ok (by decide)) (lit_bytes _ [97, 98] _)).mono ?_
  rintro e w4 ⟨rfl, h2⟩
  rw [a3] at h2
  have P4 := Lib.hid (LAlone.step hF1 (hb1.alloc hb1.size _) h2)
  clear h1 h2 hF1 hb1 P3
  simp only [a3]
  go_wp2_with fail
  obtain ⟨F1, h1, hF1, hb1⟩ := P4.out
  refine (oRead h1 1 0 (pos_ok (by decide))).mono ?_
  rintro e w5 ⟨v, rfl, _, h2, h3⟩
  rw [a4] at h2
  have P5 := Lib.hid (show LAlone w w5 lp _ from ⟨_, h2, fun k hk => hF1 k hk.1, hb1.trans (h3.below hb1.size hF1)⟩)
  clear h1 h2 h3 hF1 hb1 P4
  simp only [a4]
  go_wp2_with fail
  obtain ⟨F1, h1, hF1, hb1⟩ := P5.out
  refine (oGo h1 1 0 (now_ok (by decide))).mono ?_
  rintro e w6 ⟨rfl, h2⟩
  rw [a5] at h2
  have P6 := Lib.hid (LAlone.step hF1 hb1 h2)
  clear h1 h2 hF1 hb1 P5
  simp only [a5]
  go_wp2_with fail
  obtain ⟨F1, h1, hF1, hb1⟩ := P6.out
  refine (oRead h1 1 0 (pos_ok (by decide))).mono ?_
  rintro e w7 ⟨x, rfl, ho, h2, h3⟩
  rw [a6] at h2 ho
  have HO := Lib.hid ho
  have hb7 := hb1.trans (h3.below hb1.size hF1)
  have hF7 : ∀ k, F1 k ∧ k < w6.heap.size → w.heap.size ≤ k := fun k hk => hF1 k hk.1
  have hz7 := h3.size
  clear h1 h3 ho P6
  simp only [a6]
  go_wp2_with fail
  refine (oGo h2 0 0 (now_ok (by decide))).mono ?_
  rintro e w8 ⟨rfl, h4⟩
  rw [a7] at h4
  obtain ⟨F8, h8, t8⟩ := h4
  have RG := Lib.hid HO.out.range
  have o8 := HO.out.chg t8.1 (fun g hg hf => by have := hf.2; have := (RG.out g hg).1; omega)
  have b8 := t8.base hb7 hF7
  have n8 : ∀ g, w6.heap.size ≤ g → g < w7.heap.size → ¬ F8 g := fun g h1 h2 hf => (t8.2 g hf).2.elim (fun h => by have := h.2; omega) (fun h => by omega)
  have z8 := t8.1.size
  have H8 := Lib.hid h8
  have N8 := Lib.hid n8
  have O8 := Lib.hid o8
  have B8 := Lib.hid b8
  clear h8 t8 h2 hF7 hb7 HO o8 n8 b8 hF1 hb1
  simp only [a7]
  go_wp2_with fail
  refine (oDrive H8.out 0).mono ?_
  rintro e w9 ⟨rfl, hb9⟩
  have H9 := Lib.hid ((LOwn.owning _ _).below H8.out hb9)
  have B9 := Lib.hid (B8.out.1.trans (hb9.mono B8.out.1.size))
  have O9 := Lib.hid (O8.out.chg (Chg.of_below (fun _ => False) hb9) (fun _ _ h => h))
  have z9 := hb9.size
  clear hb9
  simp only [a8]
  go_wp2_with fail
  refine (oBreak H9.out 0).mono ?_
  rintro e w10 ⟨rfl, h4⟩
  rw [a9] at h4
  obtain ⟨F10, h10, t10⟩ := h4
  have O10 := Lib.hid (O9.out.chg t10.1 (fun g hg hf => N8.out g (RG.out g hg).1 (RG.out g hg).2 hf))
  have b10 := t10.base B9.out B8.out.2
  have n10 : ∀ g, w6.heap.size ≤ g → g < w7.heap.size → ¬ F10 g := fun g h1 h2 hf => (t10.2 g hf).2.elim (fun h => N8.out g h1 h2 h) (fun h => by omega)
  have N10 := Lib.hid n10
  have B10 := Lib.hid b10
  have H10 := Lib.hid h10
  clear h10 t10 n10 b10
  simp only [a9]
  go_wp2_with fail
  refine (oGo H10.out 0 0 (now_ok (by decide))).mono ?_
  rintro e w11 ⟨rfl, h4⟩
  rw [a10] at h4
  obtain ⟨F11, h11, t11⟩ := h4
  have hcv := (O10.out.chg t11.1 (fun g hg hf => N10.out g (RG.out g hg).1 (RG.out g hg).2 hf)).string
  have B11 := Lib.hid (t11.base B10.out.1 B10.out.2).1
  clear h11 t11
  have hcv2 : (convert 22 9 (.slice (some ⟨w11.heap.size, 0, none⟩) 2 2)).run Try.prog (w11.alloc (.cells #[.int .u8 97, .int .u8 98] 5)) = .ok (.string ⟨#[97, 98]⟩) (w11.alloc (.cells #[.int .u8 97, .int .u8 98] 5)) :=
    run_string_of Try.underlying22 Try.underlying5 Try.underlying9 (lit_bytes w11 [97, 98] 5) (.inr ⟨_, _, rfl⟩)
  simp only [a10]
  go_wp2_with fail
  go_ret
  exact ⟨rfl, B11.out.alloc B11.out.size _⟩
end Go.Proofs.Ytiiilimmjoadeaa
