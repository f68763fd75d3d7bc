/- The law LibMoves returns true on values. No condition beyond those that each theorem states. -/
import Derived.Test.YtiiilimmjoadeaaT8
import Derived.Deep.DeepCutAuto
import Derived.Deep.CutBlock
namespace Go.Proofs.Ytiiilimmjoadeaa
open Go.RowKit

theorem go_carts {L : LV} {n pos : Int} : (goM L n pos).2.2.carts = L.carts := by
  unfold goM
  split
  · split
    · split <;> rfl
    · split <;> rfl
  · rfl
theorem break_carts {L : LV} {n : Int} : (breakM L n).2.carts = L.carts := by
  unfold breakM
  split
  · split
    · rfl
    · split <;> rfl
  · rfl
theorem mend_carts {L : LV} {n : Int} : (mendM L n).2.carts = L.carts := by
  unfold mendM
  split
  · split
    · rfl
    · split <;> rfl
  · rfl
theorem go_drives {L : LV} {n pos : Int} : (goM L n pos).2.2.drives.length = L.drives.length := by
  unfold goM
  split
  · split
    · split
      · rfl
      · simp
    · split
      · rfl
      · simp
  · rfl
theorem append_drives {L : LV} {n : Int} {l : List UInt8} : (lappendM L n l).2.drives.length = L.drives.length := by
  unfold lappendM
  split
  · split
    · rfl
    · split
      · split
        · simp only
          split <;> simp
        · rfl
      · rfl
  · rfl
theorem append_text {L : LV} {c : Nat} {l : List UInt8} : textM (lappendM L c l).2.carts (c : Int) = textM L.carts (c : Int) := by
  unfold lappendM
  split
  · split
    · rfl
    · split
      · split
        · unfold textM
          simp only [Int.toNat_natCast, List.length_set]
          exact textK_set _
        · rfl
      · rfl
  · rfl

section
variable {w0 w : World} {lp : Nat} {L : LV} (h : LAlone w0 w lp L)
include h
theorem aGo (n pos : Int) (hnow : 0 ≤ L.now ∧ L.now < 4611686018427387904) : Calls Try.prog 27 #[.pointer (some ⟨lp, 0, none⟩), .int .i64 n, .int .i64 pos] w fun e w' => e = .returned (.tuple #[.bool (goM L n pos).1, .int .i64 (goM L n pos).2.1]) ∧ LAlone w0 w' lp (goM L n pos).2.2 := by
  obtain ⟨F, h1, h2, h3⟩ := h
  exact (oGo h1 n pos hnow).mono fun e w' ⟨he, h4⟩ => ⟨he, LAlone.step h2 h3 h4⟩
theorem aBreak (n : Int) : Calls Try.prog 32 #[.pointer (some ⟨lp, 0, none⟩), .int .i64 n] w fun e w' => e = .returned (.bool (breakM L n).1) ∧ LAlone w0 w' lp (breakM L n).2 := by
  obtain ⟨F, h1, h2, h3⟩ := h
  exact (oBreak h1 n).mono fun e w' ⟨he, h4⟩ => ⟨he, LAlone.step h2 h3 h4⟩
theorem aMend (n : Int) : Calls Try.prog 33 #[.pointer (some ⟨lp, 0, none⟩), .int .i64 n] w fun e w' => e = .returned (.bool (mendM L n).1) ∧ LAlone w0 w' lp (mendM L n).2 := by
  obtain ⟨F, h1, h2, h3⟩ := h
  exact (oMend h1 n).mono fun e w' ⟨he, h4⟩ => ⟨he, LAlone.step h2 h3 h4⟩
theorem aAppend (n : Int) (A : Option Addr) (m c : Nat) (l : List UInt8) (hpos : ∀ d ∈ L.drives, 0 ≤ d.pos ∧ d.pos < 4611686018427387904) (hb : BytesIn w A m l) : Calls Try.prog 29 #[.pointer (some ⟨lp, 0, none⟩), .int .i64 n, .slice A m c] w fun e w' => e = .returned (.tuple #[.int .i64 (lappendM L n l).1.1, .int .i64 (lappendM L n l).1.2]) ∧ LAlone w0 w' lp (lappendM L n l).2 := by
  obtain ⟨F, h1, h2, h3⟩ := h
  exact (oAppend h1 n A m c l hpos hb).mono fun e w' ⟨he, h4⟩ => ⟨he, LAlone.step h2 h3 h4⟩
theorem aTexts (but : Int) : Calls Try.prog 41 #[.pointer (some ⟨lp, 0, none⟩), .int .i64 but] w fun e w' => e = .returned (.string ⟨(textM L.carts but).toArray⟩) ∧ LAlone w0 w' lp L := by
  have h' := h
  obtain ⟨F, h1, h2, h3⟩ := h
  exact (oTexts h1 but).mono fun e w' ⟨he, hb⟩ => ⟨he, h'.below hb⟩
theorem aDrive (n : Int) : Calls Try.prog 31 #[.pointer (some ⟨lp, 0, none⟩), .int .i64 n] w fun e w' => e = .returned (.tuple #[.int .i64 (driveM L n).1, .int .i64 (driveM L n).2.1, .bool (driveM L n).2.2]) ∧ LAlone w0 w' lp L := by
  have h' := h
  obtain ⟨F, h1, h2, h3⟩ := h
  exact (oDrive h1 n).mono fun e w' ⟨he, hb⟩ => ⟨he, h'.below hb⟩
theorem aDrives : Calls Try.prog 36 #[.pointer (some ⟨lp, 0, none⟩)] w fun e w' => e = .returned (.int .i64 L.drives.length) ∧ w = w' := by
  obtain ⟨F, h1, h2, h3⟩ := h
  exact oDrives h1
theorem aCart (n : Int) : Calls Try.prog 34 #[.pointer (some ⟨lp, 0, none⟩), .int .i64 n] w fun e w' => e = .returned (cartV L n) ∧ w = w' := by
  obtain ⟨F, h1, h2, h3⟩ := h
  exact oCart h1 n
theorem aLen {i : Nat} {C : CV} (hC : L.carts[i]? = some C) : Calls Try.prog 19 #[.pointer (some ⟨C.p, 0, none⟩)] w fun e w' => e = .returned (.int .i64 C.M.length) ∧ w = w' := by
  obtain ⟨F, h1, h2, h3⟩ := h
  exact oCartLen h1 hC
theorem LAlone.base : Below w0.heap.size w0 w := by
  obtain ⟨F, h1, h2, h3⟩ := h
  exact h3
theorem LAlone.four : L.drives.length ≤ 4 := by
  obtain ⟨F, ⟨own, cv, dv, _, h1⟩, h2, h3⟩ := h
  exact h1.four
end
theorem drive_range {k : Nat} {L : LV} (h : Good k L) {i : Nat} (hi : i < L.drives.length) : -1 ≤ (driveM L (i : Int)).1 ∧ (driveM L (i : Int)).1 < L.carts.length := by
  obtain ⟨d, hd⟩ : ∃ d, L.drives[i]? = some d := ⟨_, List.getElem?_eq_getElem hi⟩
  obtain ⟨a, b, _⟩ := h.d i d hd
  unfold driveM
  rw [if_pos (by omega), Int.toNat_natCast, hd]
  simp only
  split
  · exact ⟨by show (-1 : Int) ≤ -1; omega, by show (-1 : Int) < _; omega⟩
  · exact ⟨a, b⟩

set_option maxRecDepth 100000 in
set_option maxHeartbeats 4000000 in
theorem libMoves_walk (x y : Int) (A : Option Addr) (n c : Nat) (f : Nat → Act8V) (A2 : Option Addr) (n2 c2 : Nat) (f2 : Nat → Act8V) (B : Option Addr) (m d : Nat) (lb : List UInt8) (w : World) (hA : Acts8In w A n f) (hn : n ≤ c) (hc : c ≤ maxLen) (hA2 : Acts8In w A2 n2 f2) (hn2 : n2 ≤ c2) (hc2 : c2 ≤ maxLen) (hb : BytesIn w B m lb) :
    Calls Try.prog 11 #[.int .u8 x, .int .u8 y, .slice A n c, .slice A2 n2 c2, .slice B m d] w fun e w' => e = .returned (.bool true) ∧ Below w.heap.size w w' := by
  have HA2 := Lib.hid hA2
  have HB := Lib.hid hb
  have hn63 : n2 ≤ 9223372036854775807 := by simp only [maxLen] at hc2; omega
  go_enter Try.func11, Try.ntmps11
  go_wp2_with fail
  refine (after08 x y A n c f _ hA hn hc).mono ?_
  rintro e w1 ⟨lp, L, rfl, h1, g1⟩
  have P1 := Lib.hid h1
  have G1 := Lib.hid g1
  clear h1 g1 hA hA2 hb hn2 hc2
  go_upto_block 0 with ((go_at_call 41; refine (aTexts P1.out (-1)).mono ?_; rintro e w2 ⟨rfl, h2⟩; have P2 := Lib.hid h2; clear h2))
  go_cut [] (fun wx => ∃ L', LAlone w wx lp L' ∧ Good 80 L' ∧ L'.carts = L.carts)
  case first =>
    go_wp2_with fail
    go_loopw [13] (fun i wx => ∃ (k : Nat) (L' : LV), k ≤ n2 ∧ k ≤ 40 ∧ i = .int .i64 k ∧ LAlone w wx lp L' ∧ Good (40 + k) L' ∧ L'.carts = L.carts) (fun i _ => 40 - (intOf i).toNat)
    case atStart => exact ⟨0, L, by omega, by omega, rfl, P2.out, G1.out, rfl⟩
    case round =>
      obtain ⟨k, L', hk, hk40, rfl, hx, hg, hcs⟩ := hrel
      have PX := Lib.hid hx
      have GX := Lib.hid hg
      have CS := Lib.hid hcs
      clear hx hg hcs
      by_cases hlt : k < n2
      · by_cases hlt40 : k < 40
        · obtain ⟨b, off, rfl, hbw, hF⟩ := HA2.out.resolve_left (by omega)
          have ha := hF k hlt
          have hbl := PX.out.base
          have k0 : wr.cell? ⟨b, off + k * 4, none⟩ = some (.int .u8 ((f2 k).x : Int)) := (hbl.cell (p := ⟨b, off + k * 4, none⟩) hbw).trans ha.c0
          have k1 : wr.cell? ⟨b, off + k * 4 + 1, none⟩ = some (.int .i64 (f2 k).n) := (hbl.cell (p := ⟨b, off + k * 4 + 1, none⟩) hbw).trans ha.c1
          have k2 : wr.cell? ⟨b, off + k * 4 + 2, none⟩ = some (.int .i64 (f2 k).pos) := (hbl.cell (p := ⟨b, off + k * 4 + 2, none⟩) hbw).trans ha.c2
          have k3 : wr.cell? ⟨b, off + k * 4 + 3, none⟩ = some (.slice (f2 k).B (f2 k).m (f2 k).d) := (hbl.cell (p := ⟨b, off + k * 4 + 3, none⟩) hbw).trans ha.c3
          have d1 : decide (k < n2) = true := by simpa using hlt
          have d2 : decide (k < 40) = true := by simpa using hlt40
          have hbz : b < wr.heap.size := by have := hbl.size; omega
          clear ha hF hbl
          generalize f2 k = v at *
          obtain ⟨x, y, q, B, m, d, lb⟩ := v
          simp only at k0 k1 k2 k3
          go_upto_region 7 with fail
          have hx2 := fun o : Obj => PX.out.below ((Below.refl wr.heap.size wr).alloc (Nat.le_refl _) o)
          have PA := Lib.hid hx2
          have hnow : 0 ≤ L'.now ∧ L'.now < 4611686018427387904 := by have := GX.out.now; omega
          clear hx2 k0 k1 k2 k3 d1 d2
          by_cases h0 : (x : Int) % 4 = 0
          · have d4 : ((x : Int) % 4 == 0) = true := by simpa using h0
            clear h0
            go_wp2_with ((go_at_call 32; refine (aBreak (PA.out _) y).mono ?_; rintro e w5 ⟨rfl, h5⟩; have P5 := Lib.hid h5; clear h5))
            go_roundw
            case rel => exact ⟨k + 1, _, hlt, hlt40, by go_num, P5.out, good_break GX.out y, break_carts.trans CS.out⟩
            case measure => simp [intOf]; omega
          · have d4 : ((x : Int) % 4 == 0) = false := by simpa using h0
            by_cases h1 : (x : Int) % 4 = 1
            · have d5 : ((x : Int) % 4 == 1) = true := by simpa using h1
              clear h0 h1
              go_wp2_with ((go_at_call 33; refine (aMend (PA.out _) y).mono ?_; rintro e w5 ⟨rfl, h5⟩; have P5 := Lib.hid h5; clear h5))
              go_roundw
              case rel => exact ⟨k + 1, _, hlt, hlt40, by go_num, P5.out, good_mend GX.out y, mend_carts.trans CS.out⟩
              case measure => simp [intOf]; omega
            · have d5 : ((x : Int) % 4 == 1) = false := by simpa using h1
              clear h0 h1
              go_wp2_with ((go_at_call 27; refine (aGo (PA.out _) y q hnow).mono ?_; rintro e w5 ⟨rfl, h5⟩; have P5 := Lib.hid h5; clear h5))
              go_roundw
              case rel => exact ⟨k + 1, _, hlt, hlt40, by go_num, P5.out, good_go GX.out y q, go_carts.trans CS.out⟩
              case measure => simp [intOf]; omega
        · have d1 : decide (k < n2) = true := by simpa using hlt
          have d2 : decide (k < 40) = false := by simpa using hlt40
          go_wp2_with fail
          go_meet
          exact ⟨L', PX.out, GX.out.mono (by omega), CS.out⟩
      · have d1 : decide (k < n2) = false := by simpa using hlt
        go_wp2_with fail
        go_meet
        exact ⟨L', PX.out, GX.out.mono (by omega), CS.out⟩
  case rest =>
    obtain ⟨L1, hx1, hg1, hcs1⟩ := hcut
    obtain ⟨wm, rfl⟩ : ∃ wm : World, wm = wc := ⟨_, rfl⟩
    have PM := Lib.hid hx1
    have GM := Lib.hid hg1
    have TX := Lib.hid (show textM L1.carts (-1) = textM L.carts (-1) by rw [hcs1])
    clear hx1 hg1 hcs1
    go_wp2_with ((go_at_call 41; refine (aTexts PM.out (-1)).mono ?_; rintro e w3 ⟨rfl, h3⟩; rw [TX.out]; have P3 := Lib.hid h3; clear h3))
    go_loopw [15] (fun i wx => ∃ (k : Nat) (L' : LV), k ≤ L1.drives.length ∧ i = .int .i64 k ∧ LAlone w wx lp L' ∧ Good (80 + 2 * k) L' ∧ L'.drives.length = L1.drives.length) (fun i _ => L1.drives.length - (intOf i).toNat)
    case atStart => exact ⟨0, L1, by omega, rfl, P3.out, GM.out, rfl⟩
    case round =>
      obtain ⟨k, L', hk, rfl, hx, hg, hlen⟩ := hrel
      have PX := Lib.hid hx
      have GX := Lib.hid hg
      have LE := Lib.hid hlen
      have h4 : L'.drives.length ≤ 4 := hx.four
      have hkl : k ≤ L'.drives.length := by omega
      clear hx hg hlen
      by_cases hlt : k < L'.drives.length
      · have d1 : decide (k < L'.drives.length) = true := by simpa using hlt
        have hlt1 : k < L1.drives.length := by have := LE.out; omega
        have hdr := drive_range GX.out hlt
        by_cases hneg : 0 ≤ (driveM L' (k : Int)).1
        · obtain ⟨i, C, hii, hi, hC, hcv⟩ := isC_get (L := L') (n := (driveM L' (k : Int)).1) (isC_iff.2 ⟨hneg, hdr.2⟩)
          generalize hdm : driveM L' (k : Int) = t at *
          obtain ⟨tn, tp, tw⟩ := t
          simp only at hii hcv hneg hdr
          subst hii
          have DM := Lib.hid hdm
          have HC := Lib.hid hC
          have CV := Lib.hid hcv
          have hnow : 0 ≤ L'.now ∧ L'.now < 4611686018427387904 := by have := GX.out.now; omega
          have g2 := good_go GX.out i C.M.length
          have G2 := Lib.hid g2
          have HP2 := Lib.hid (g2.pos (by omega))
          have g3 := good_append g2 i lb
          have G3 := Lib.hid g3
          have E3 := Lib.hid (show textM (lappendM (goM L' i C.M.length).2.2 i lb).2.carts (i : Int) = textM L'.carts (i : Int) by rw [append_text, go_carts])
          have LD := Lib.hid (show (lappendM (goM L' i C.M.length).2.2 i lb).2.drives.length = L1.drives.length by rw [append_drives, go_drives, LE.out])
          clear hdm hC hcv g2 g3 hneg hdr hi
          go_wp2_with (first
            | (go_at_call 36; refine (aDrives PX.out).mono ?_; rintro e w4 ⟨rfl, rfl⟩)
            | (go_at_call 31; refine (aDrive PX.out k).mono ?_; rintro e w5 ⟨rfl, h5⟩; rw [DM.out]; have P5 := Lib.hid h5; clear h5)
            | (go_at_call 34; refine (aCart P6.out i).mono ?_; rintro e w7 ⟨rfl, rfl⟩; rw [CV.out])
            | (go_at_call 19; refine (aLen P6.out HC.out).mono ?_; rintro e w8 ⟨rfl, rfl⟩)
            | (go_at_call 27; refine (aGo P6.out i C.M.length hnow).mono ?_; rintro e w9 ⟨rfl, h9⟩; have P9 := Lib.hid h9; clear h9)
            | (go_at_call 29; refine (aAppend P9.out i B m d lb HP2.out (HB.out.below P9.out.base)).mono ?_; rintro e w10 ⟨rfl, h10⟩; have P10 := Lib.hid h10; clear h10)
            | (go_at_call 41; refine (aTexts P10.out i).mono ?_; rintro e w11 ⟨rfl, h11⟩; rw [E3.out]; have P11 := Lib.hid h11; clear h11)
            | (go_at_call 41; refine (aTexts P5.out i).mono ?_; rintro e w6 ⟨rfl, h6⟩; have P6 := Lib.hid h6; clear h6))
          go_roundw
          case rel => exact ⟨k + 1, _, hlt1, by go_num, P11.out, G3.out, LD.out⟩
          case measure => simp [intOf]; omega
        · have d3 : decide (0 ≤ (driveM L' (k : Int)).1) = false := by simpa using hneg
          clear hdr hneg
          go_wp2_with (first
            | (go_at_call 36; refine (aDrives PX.out).mono ?_; rintro e w4 ⟨rfl, rfl⟩)
            | (go_at_call 31; refine (aDrive PX.out k).mono ?_; rintro e w5 ⟨rfl, h5⟩; have P5 := Lib.hid h5; clear h5))
          go_roundw
          case rel => exact ⟨k + 1, _, hlt1, by go_num, P5.out, GX.out.mono (by omega), LE.out⟩
          case measure => simp [intOf]; omega
      · have d1 : decide (k < L'.drives.length) = false := by simpa using hlt
        go_wp2_with (first
          | (go_at_call 36; refine (aDrives PX.out).mono ?_; rintro e w4 ⟨rfl, rfl⟩)
          | (go_at_call 39; refine (awake08 _).mono ?_; rintro e w3 ⟨rfl, hb3⟩))
        go_ret
        have hb := PX.out.base
        exact ⟨rfl, hb.trans (hb3.mono hb.size)⟩
end Go.Proofs.Ytiiilimmjoadeaa
