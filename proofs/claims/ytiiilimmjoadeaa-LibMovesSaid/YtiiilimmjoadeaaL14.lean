/- The law LibNone returns true on values. No condition beyond those that each theorem states. -/
import Derived.Test.YtiiilimmjoadeaaL13
namespace Go.Proofs.Ytiiilimmjoadeaa
open Go.RowKit

theorem oAppend_no {F : Nat → Prop} {w : World} {lp : Nat} {L : LV} (h : LOwn F w lp L) (n : Int) (A : Option Addr) (m c : Nat) (hc : isC L n = false) : Calls Try.prog 29 #[.pointer (some ⟨lp, 0, none⟩), .int .i64 n, .slice A m c] w fun e w' => e = .returned (.tuple #[.int .i64 0, .int .i64 1]) ∧ w = w' := by
  obtain ⟨own, cv, dv, _, h⟩ := h
  have H := Lib.hid h
  have HCV := Lib.hid (cartV_no hc)
  clear h hc
  go_enter Try.func29, Try.ntmps29
  go_wp2_with (go_at_call 34; refine (lCart own w lp cv dv L n H.out).mono ?_; rintro e w1 ⟨rfl, rfl⟩; rw [HCV.out])
  go_ret2
  exact ⟨rfl, rfl⟩

theorem LAlone.below {w0 w w' : World} {lp : Nat} {L : LV} (h : LAlone w0 w lp L) (hb : Below w.heap.size w w') : LAlone w0 w' lp L := by
  obtain ⟨F, x1, x2, x3⟩ := h
  exact ⟨F, (LOwn.owning _ _).below x1 hb, x2, x3.trans (hb.mono x3.size)⟩
set_option maxRecDepth 100000 in
set_option maxHeartbeats 4000000 in
theorem libNone_walk (n pos : Int) (A : Option Addr) (m c : Nat) (w : World) : Calls Try.prog 9 #[.int .i64 n, .int .i64 pos, .slice A m c] w fun e w' => e = .returned (.bool true) ∧ Below w.heap.size w w' := by
  go_enter Try.func9, Try.ntmps9
  go_upto_region 9 with (first
    | (go_at_call 27; refine (nGo _ n pos).mono ?_; rintro e w1 ⟨rfl, rfl⟩)
    | (go_at_call 28; refine (nRead _ n pos).mono ?_; rintro e w1 ⟨rfl, rfl⟩)
    | (go_at_call 29; refine (nAppend _ n A m c).mono ?_; rintro e w1 ⟨rfl, rfl⟩)
    | (go_at_call 30; refine (nAdd _ pos).mono ?_; rintro e w1 ⟨rfl, rfl⟩)
    | (go_at_call 31; refine (nDrive _ n).mono ?_; rintro e w1 ⟨rfl, rfl⟩)
    | (go_at_call 32; refine (nBreak _ n).mono ?_; rintro e w1 ⟨rfl, rfl⟩)
    | (go_at_call 33; refine (nMend _ n).mono ?_; rintro e w1 ⟨rfl, rfl⟩)
    | (go_at_call 34; refine (nCart _ n).mono ?_; rintro e w1 ⟨rfl, rfl⟩)
    | (go_at_call 35; refine (nCarts _).mono ?_; rintro e w1 ⟨rfl, rfl⟩)
    | (go_at_call 36; refine (nDrives _).mono ?_; rintro e w1 ⟨rfl, rfl⟩)
    | (go_at_call 37; refine (nWorking _).mono ?_; rintro e w1 ⟨rfl, rfl⟩))
  go_wp2_with fail
  refine (oNew 3 3 2 _).mono ?_
  rintro e w1 ⟨lp, L, rfl, hlp, h1, hb1, hn⟩
  have hl3 : L.carts.length = 3 := hn.len
  have hd2 : L.drives.length = 2 := by rw [hn.drives]; rfl
  have hnow := hn.now
  by_cases hc : 0 ≤ n ∧ n < 3
  · have hcc : isC L n = true := isC_iff.2 (by omega)
    obtain ⟨i, C, rfl, hi, hC, hcv⟩ := isC_get hcc
    have H1 := Lib.hid h1
    have B1 := Lib.hid hb1
    have CV := Lib.hid hcv
    have d2 : decide ((i : Int) < 3) = true := by simpa using hc.2
    clear h1 hb1 hn hl3 hd2 hnow hcv hcc hc hi hC
    go_wp2_with (first
      | (go_at_call 39; refine (awake08 _).mono ?_; rintro e w2 ⟨rfl, hb2⟩)
      | (go_at_call 34; refine (oCart ((LOwn.owning _ _).below H1.out hb2) i).mono ?_; rintro e w3 ⟨rfl, rfl⟩; rw [CV.out]))
    go_ret
    exact ⟨rfl, B1.out.trans (hb2.mono B1.out.size)⟩
  · have hcc : isC L n = false := by
      cases h : isC L n
      · rfl
      · exact absurd (isC_iff.1 h) (by omega)
    have e1 : goM L n pos = (false, 1, L) := by unfold goM; rw [if_neg (fun h => by rw [hcc] at h; cases h.1)]
    have e2 : lreadM L n pos = (([], 1), L) := by unfold lreadM; rw [if_neg (by simp [hcc])]
    have e3 : breakM L n = (false, L) := by
      unfold breakM
      split
      · rw [List.getElem?_eq_none (by omega)]
      · rfl
    have e4 : mendM L n = (false, L) := by
      unfold mendM
      split
      · rw [List.getElem?_eq_none (by omega)]
      · rfl
    have hp : ∀ d ∈ L.drives, 0 ≤ d.pos ∧ d.pos < 4611686018427387904 := fun d hd => by
      rw [hn.drives] at hd
      rw [List.eq_of_mem_replicate hd]
      decide
    have HC := Lib.hid hcc
    have E1 := Lib.hid e1
    have E2 := Lib.hid e2
    have E3 := Lib.hid e3
    have E4 := Lib.hid e4
    have HP := Lib.hid hp
    have CV := Lib.hid (cartV_no hcc)
    have P1 := Lib.hid (show LAlone w w1 lp L from ⟨_, h1, fun _ h => h, hb1⟩)
    have HN := Lib.hid hnow
    clear hcc e1 e2 e3 e4 hp h1 hb1 hn hl3 hd2 hnow
    have rest : ∀ (w2 : World), LAlone w w2 lp L → Calls Try.prog 27 #[.pointer (some ⟨lp, 0, none⟩), .int .i64 n, .int .i64 pos] w2 fun e w' => e = .returned (.tuple #[.bool false, .int .i64 1]) ∧ LAlone w w' lp L := fun w2 ⟨F, h1, h2, h3⟩ =>
      (oGo h1 n pos (by rw [HN.out]; decide)).mono fun e w' ⟨he, h4⟩ => by
        rw [E1.out] at he h4
        exact ⟨he, LAlone.step h2 h3 h4⟩
    have RD : ∀ (w2 : World), LAlone w w2 lp L → Calls Try.prog 28 #[.pointer (some ⟨lp, 0, none⟩), .int .i64 n, .int .i64 pos] w2 fun e w' => ∃ v, e = .returned (.tuple #[v, .int .i64 1]) ∧ LAlone w w' lp L := fun w2 ⟨F, h1, h2, h3⟩ =>
      (oRead h1 n pos HP.out).mono fun e w' ⟨v, he, _, h4, h5⟩ => by
        rw [E2.out] at he h4
        exact ⟨v, he, ⟨_, h4, fun k hk => h2 k hk.1, h3.trans (h5.below h3.size h2)⟩⟩
    have AP : ∀ (w2 : World), LAlone w w2 lp L → Calls Try.prog 29 #[.pointer (some ⟨lp, 0, none⟩), .int .i64 n, .slice A m c] w2 fun e w' => e = .returned (.tuple #[.int .i64 0, .int .i64 1]) ∧ w2 = w' := fun w2 ⟨F, h1, h2, h3⟩ => oAppend_no h1 n A m c HC.out
    have CA : ∀ (w2 : World), LAlone w w2 lp L → Calls Try.prog 34 #[.pointer (some ⟨lp, 0, none⟩), .int .i64 n] w2 fun e w' => e = .returned (.pointer none) ∧ w2 = w' := fun w2 ⟨F, h1, h2, h3⟩ =>
      (oCart h1 n).mono fun e w' ⟨he, h4⟩ => ⟨by rw [he, CV.out], h4⟩
    have BR : ∀ (w2 : World), LAlone w w2 lp L → Calls Try.prog 32 #[.pointer (some ⟨lp, 0, none⟩), .int .i64 n] w2 fun e w' => e = .returned (.bool false) ∧ LAlone w w' lp L := fun w2 ⟨F, h1, h2, h3⟩ =>
      (oBreak h1 n).mono fun e w' ⟨he, h4⟩ => by
        rw [E3.out] at he h4
        exact ⟨he, LAlone.step h2 h3 h4⟩
    have ME : ∀ (w2 : World), LAlone w w2 lp L → Calls Try.prog 33 #[.pointer (some ⟨lp, 0, none⟩), .int .i64 n] w2 fun e w' => e = .returned (.bool false) ∧ LAlone w w' lp L := fun w2 ⟨F, h1, h2, h3⟩ =>
      (oMend h1 n).mono fun e w' ⟨he, h4⟩ => by
        rw [E4.out] at he h4
        exact ⟨he, LAlone.step h2 h3 h4⟩
    have GO := Lib.hid rest
    have RD' := Lib.hid RD
    have AP' := Lib.hid AP
    have CA' := Lib.hid CA
    have BR' := Lib.hid BR
    have ME' := Lib.hid ME
    clear rest RD AP CA BR ME HC E1 E2 E3 E4 HP CV HN
    by_cases h0 : 0 ≤ n
    · have d1 : decide (0 ≤ n) = true := by simpa using h0
      have d2 : decide (n < 3) = false := by simp; omega
      clear hc h0
      go_wp2_with (first
        | (go_at_call 27; refine (GO.out _ P1.out).mono ?_; rintro e w2 ⟨rfl, h2⟩; have P2 := Lib.hid h2; clear h2)
        | (go_at_call 28; refine (RD'.out _ P2.out).mono ?_; rintro e w3 ⟨v, rfl, h2⟩; have P3 := Lib.hid h2; clear h2)
        | (go_at_call 29; refine (AP'.out _ P3.out).mono ?_; rintro e w4 ⟨rfl, rfl⟩)
        | (go_at_call 39; refine (awake08 _).mono ?_; rintro e w5 ⟨rfl, hb2⟩; have P5 := Lib.hid (P3.out.below hb2); clear hb2)
        | (go_at_call 34; refine (CA'.out _ P5.out).mono ?_; rintro e w6 ⟨rfl, rfl⟩)
        | (go_at_call 32; refine (BR'.out _ P5.out).mono ?_; rintro e w7 ⟨rfl, h2⟩; have P7 := Lib.hid h2; clear h2)
        | (go_at_call 33; refine (ME'.out _ P7.out).mono ?_; rintro e w8 ⟨rfl, h2⟩; have P8 := Lib.hid h2; clear h2))
      go_ret
      obtain ⟨F, x1, x2, x3⟩ := P8.out
      exact ⟨rfl, x3⟩
    · have d1 : decide (0 ≤ n) = false := by simpa using h0
      clear hc h0
      go_wp2_with (first
        | (go_at_call 27; refine (GO.out _ P1.out).mono ?_; rintro e w2 ⟨rfl, h2⟩; have P2 := Lib.hid h2; clear h2)
        | (go_at_call 28; refine (RD'.out _ P2.out).mono ?_; rintro e w3 ⟨v, rfl, h2⟩; have P3 := Lib.hid h2; clear h2)
        | (go_at_call 29; refine (AP'.out _ P3.out).mono ?_; rintro e w4 ⟨rfl, rfl⟩)
        | (go_at_call 39; refine (awake08 _).mono ?_; rintro e w5 ⟨rfl, hb2⟩; have P5 := Lib.hid (P3.out.below hb2); clear hb2)
        | (go_at_call 34; refine (CA'.out _ P5.out).mono ?_; rintro e w6 ⟨rfl, rfl⟩)
        | (go_at_call 32; refine (BR'.out _ P5.out).mono ?_; rintro e w7 ⟨rfl, h2⟩; have P7 := Lib.hid h2; clear h2)
        | (go_at_call 33; refine (ME'.out _ P7.out).mono ?_; rintro e w8 ⟨rfl, h2⟩; have P8 := Lib.hid h2; clear h2))
      go_ret
      obtain ⟨F, x1, x2, x3⟩ := P8.out
      exact ⟨rfl, x3⟩
end Go.Proofs.Ytiiilimmjoadeaa
