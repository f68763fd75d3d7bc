/- The law LibOnce returns true on values. No condition beyond those that each theorem states. -/
import Derived.Test.YtiiilimmjoadeaaT4
namespace Go.Proofs.Ytiiilimmjoadeaa
open Go.RowKit

theorem driveM_get {L : LV} {i : Nat} {d : DV} (h : L.drives[i]? = some d) : driveM L (i : Int) = if d.broken then (-1, 0, false) else (d.cart, d.pos, true) := by
  unfold driveM
  rw [if_pos (by omega), Int.toNat_natCast, h]
/-- What Drive tells of a drive. -/
structure Told8 (L : LV) (n pos : Int) (ok : Bool) : Prop where
  rlo : -1 ≤ n
  rhi : n < L.carts.length
  rpos : 0 ≤ pos
  rnone : n = -1 → pos = 0
  roff : ok = false → n = -1
theorem Good.told {k : Nat} {L : LV} (h : Good k L) {i : Nat} (hi : i < L.drives.length) : Told8 L (driveM L (i : Int)).1 (driveM L (i : Int)).2.1 (driveM L (i : Int)).2.2 := by
  obtain ⟨d, hd⟩ : ∃ d, L.drives[i]? = some d := ⟨_, List.getElem?_eq_getElem hi⟩
  obtain ⟨a, b, c, e, f, g⟩ := h.d i d hd
  rw [driveM_get hd]
  cases hb : d.broken with
  | true => exact ⟨by show (-1 : Int) ≤ -1; omega, by show (-1 : Int) < _; omega, by show (0 : Int) ≤ 0; omega, fun _ => rfl, fun _ => rfl⟩
  | false => exact ⟨a, b, c, f, fun h => by cases h⟩
theorem Good.alone {k : Nat} {L : LV} (h : Good k L) {i j : Nat} (hi : i < L.drives.length) (hj : j < i) (he : (driveM L (j : Int)).1 = (driveM L (i : Int)).1) : (driveM L (i : Int)).1 < 0 := by
  obtain ⟨d, hd⟩ : ∃ d, L.drives[i]? = some d := ⟨_, List.getElem?_eq_getElem hi⟩
  obtain ⟨e, hej⟩ : ∃ e, L.drives[j]? = some e := ⟨_, List.getElem?_eq_getElem (by omega)⟩
  rw [driveM_get hd, driveM_get hej] at he
  rw [driveM_get hd]
  cases hb : d.broken with
  | true => show (-1 : Int) < 0; decide
  | false =>
    rw [hb] at he
    cases hb2 : e.broken with
    | true =>
      rw [hb2] at he
      have he : (-1 : Int) = d.cart := he
      show d.cart < 0
      omega
    | false =>
      rw [hb2] at he
      have he : e.cart = d.cart := he
      have := h.one i j d e (by omega) hd hej he.symm
      show d.cart < 0
      omega

set_option maxRecDepth 100000 in
set_option maxHeartbeats 4000000 in
theorem libOnce_walk (x y : Int) (A : Option Addr) (n c : Nat) (f : Nat → Act8V) (w : World) (hA : Acts8In w A n f) (hn : n ≤ c) (hc : c ≤ maxLen) :
    Calls Try.prog 10 #[.int .u8 x, .int .u8 y, .slice A n c] w fun e w' => e = .returned (.bool true) ∧ Below w.heap.size w w' := by
  go_enter Try.func10, Try.ntmps10
  go_wp2_with fail
  refine (after08 x y A n c f _ hA hn hc).mono ?_
  rintro e w1 ⟨lp, L, rfl, h1, g1⟩
  have P1 := Lib.hid h1
  have G1 := Lib.hid g1
  have hl4 : L.drives.length ≤ 4 := by
    obtain ⟨F, ⟨own, cv, dv, _, h⟩, _⟩ := h1
    exact h.four
  have hl32 : L.carts.length ≤ 32 := by
    obtain ⟨F, ⟨own, cv, dv, _, h⟩, _⟩ := h1
    exact h.few
  clear h1 g1 hA
  have DR := Lib.hid (fun (wx : World) (hx : LAlone w wx lp L) => (show Calls Try.prog 36 #[.pointer (some ⟨lp, 0, none⟩)] wx fun e w' => e = .returned (.int .i64 L.drives.length) ∧ wx = w' by
    obtain ⟨F, h, _⟩ := hx
    exact oDrives h))
  have CA := Lib.hid (fun (wx : World) (hx : LAlone w wx lp L) => (show Calls Try.prog 35 #[.pointer (some ⟨lp, 0, none⟩)] wx fun e w' => e = .returned (.int .i64 L.carts.length) ∧ wx = w' by
    obtain ⟨F, h, _⟩ := hx
    exact oCarts h))
  have DV' := Lib.hid (fun (wx : World) (hx : LAlone w wx lp L) (i : Int) => (show Calls Try.prog 31 #[.pointer (some ⟨lp, 0, none⟩), .int .i64 i] wx fun e w' => e = .returned (.tuple #[.int .i64 (driveM L i).1, .int .i64 (driveM L i).2.1, .bool (driveM L i).2.2]) ∧ LAlone w w' lp L by
    have hx' := hx
    obtain ⟨F, h, _⟩ := hx
    exact (oDrive h i).mono fun e w' ⟨he, hb⟩ => ⟨he, hx'.below hb⟩))
  go_wp2_with fail
  go_loopw [8] (fun i wx => ∃ k : Nat, k ≤ L.drives.length ∧ i = .int .i64 k ∧ LAlone w wx lp L) (fun i _ => L.drives.length - (intOf i).toNat)
  case atStart => exact ⟨0, by omega, rfl, P1.out⟩
  case round =>
    obtain ⟨k, hk, rfl, hx⟩ := hrel
    have PX := Lib.hid hx
    clear hx
    by_cases hlt : k < L.drives.length
    · have d1 : decide (k < L.drives.length) = true := by simpa using hlt
      have ht := G1.out.told hlt
      have AL := Lib.hid (fun (j : Nat) (hj : j < k) => G1.out.alone hlt hj)
      generalize hdm : driveM L (k : Int) = t at *
      have HDM := Lib.hid hdm
      obtain ⟨tn, tp, tw⟩ := t
      obtain ⟨b1, b2, b3, b4, b5⟩ := ht
      simp only at b1 b2 b3 b4 b5
      have e1 : decide ((L.carts.length : Int) ≤ tn) = false := by simp; omega
      have e2 : decide (tn < -1) = false := by simp; omega
      have e3 : decide (tp < 0) = false := by simp; omega
      clear hdm
      cases tw with
      | false =>
        obtain rfl : tn = -1 := b5 rfl
        obtain rfl : tp = 0 := b4 rfl
        clear b1 b2 b3 b4 b5
        go_wp2_with (first
          | (go_at_call 36; refine (DR.out _ PX.out).mono ?_; rintro e w2 ⟨rfl, rfl⟩)
          | (go_at_call 31; refine (DV'.out _ PX.out k).mono ?_; rintro e w3 ⟨rfl, h3⟩; rw [HDM.out]; have P3 := Lib.hid h3; clear h3)
          | (go_at_call 35; refine (CA.out _ P3.out).mono ?_; rintro e w4 ⟨rfl, rfl⟩))
        go_loopw [12] (fun i wx => ∃ j : Nat, j ≤ k ∧ i = .int .i64 j ∧ LAlone w wx lp L) (fun i _ => k - (intOf i).toNat)
        case atStart => exact ⟨0, by omega, rfl, P3.out⟩
        case round =>
          obtain ⟨j, hj, rfl, hx⟩ := hrel
          have PJ := Lib.hid hx
          clear hx
          by_cases hjk : j < k
          · have d2 : decide (j < k) = true := by simpa using hjk
            have al := AL.out j hjk
            generalize hdj : driveM L (j : Int) = u at *
            have HDJ := Lib.hid hdj
            obtain ⟨un, up, uw⟩ := u
            simp only at al
            clear hdj
            by_cases hun : un = (-1)
            · have d3 : (un == (-1)) = true := by simpa using hun
              subst hun
              clear al
              go_wp2_with (go_at_call 31; refine (DV'.out _ PJ.out j).mono ?_; rintro e w5 ⟨rfl, h5⟩; rw [HDJ.out]; have P5 := Lib.hid h5; clear h5)
              go_roundw
              case rel => exact ⟨j + 1, hjk, by go_num, P5.out⟩
              case measure => simp [intOf]; omega
            · have d3 : (un == (-1)) = false := by simpa using hun
              clear al hun
              go_wp2_with (go_at_call 31; refine (DV'.out _ PJ.out j).mono ?_; rintro e w5 ⟨rfl, h5⟩; rw [HDJ.out]; have P5 := Lib.hid h5; clear h5)
              go_roundw
              case rel => exact ⟨j + 1, hjk, by go_num, P5.out⟩
              case measure => simp [intOf]; omega
          · have d2 : decide (j < k) = false := by simpa using hjk
            go_wp2_with fail
            go_roundw
            case rel => exact ⟨k + 1, hlt, by go_num, PJ.out⟩
            case measure => simp [intOf]; omega
      | true =>
        have e4 : (tn == -1 && tp != 0) = false := by
          by_cases h : tn = -1
          · rw [b4 h]; simp
          · simp [h]
        by_cases hm : tn = -1
        · obtain rfl : tp = 0 := b4 hm
          subst hm
          clear b1 b2 b3 b4 b5 e4
          go_wp2_with (first
            | (go_at_call 36; refine (DR.out _ PX.out).mono ?_; rintro e w2 ⟨rfl, rfl⟩)
            | (go_at_call 31; refine (DV'.out _ PX.out k).mono ?_; rintro e w3 ⟨rfl, h3⟩; rw [HDM.out]; have P3 := Lib.hid h3; clear h3)
            | (go_at_call 35; refine (CA.out _ P3.out).mono ?_; rintro e w4 ⟨rfl, rfl⟩))
          go_loopw [12] (fun i wx => ∃ j : Nat, j ≤ k ∧ i = .int .i64 j ∧ LAlone w wx lp L) (fun i _ => k - (intOf i).toNat)
          case atStart => exact ⟨0, by omega, rfl, P3.out⟩
          case round =>
            obtain ⟨j, hj, rfl, hx⟩ := hrel
            have PJ := Lib.hid hx
            clear hx
            by_cases hjk : j < k
            · have d2 : decide (j < k) = true := by simpa using hjk
              have al := AL.out j hjk
              generalize hdj : driveM L (j : Int) = u at *
              have HDJ := Lib.hid hdj
              obtain ⟨un, up, uw⟩ := u
              simp only at al
              clear hdj
              by_cases hun : un = (-1)
              · have d3 : (un == (-1)) = true := by simpa using hun
                subst hun
                clear al
                go_wp2_with (go_at_call 31; refine (DV'.out _ PJ.out j).mono ?_; rintro e w5 ⟨rfl, h5⟩; rw [HDJ.out]; have P5 := Lib.hid h5; clear h5)
                go_roundw
                case rel => exact ⟨j + 1, hjk, by go_num, P5.out⟩
                case measure => simp [intOf]; omega
              · have d3 : (un == (-1)) = false := by simpa using hun
                clear al hun
                go_wp2_with (go_at_call 31; refine (DV'.out _ PJ.out j).mono ?_; rintro e w5 ⟨rfl, h5⟩; rw [HDJ.out]; have P5 := Lib.hid h5; clear h5)
                go_roundw
                case rel => exact ⟨j + 1, hjk, by go_num, P5.out⟩
                case measure => simp [intOf]; omega
            · have d2 : decide (j < k) = false := by simpa using hjk
              go_wp2_with fail
              go_roundw
              case rel => exact ⟨k + 1, hlt, by go_num, PJ.out⟩
              case measure => simp [intOf]; omega
        · have e5 : (tn == -1) = false := by simpa using hm
          clear b1 b2 b3 b4 b5 e4 hm
          go_wp2_with (first
            | (go_at_call 36; refine (DR.out _ PX.out).mono ?_; rintro e w2 ⟨rfl, rfl⟩)
            | (go_at_call 31; refine (DV'.out _ PX.out k).mono ?_; rintro e w3 ⟨rfl, h3⟩; rw [HDM.out]; have P3 := Lib.hid h3; clear h3)
            | (go_at_call 35; refine (CA.out _ P3.out).mono ?_; rintro e w4 ⟨rfl, rfl⟩))
          go_loopw [12] (fun i wx => ∃ j : Nat, j ≤ k ∧ i = .int .i64 j ∧ LAlone w wx lp L) (fun i _ => k - (intOf i).toNat)
          case atStart => exact ⟨0, by omega, rfl, P3.out⟩
          case round =>
            obtain ⟨j, hj, rfl, hx⟩ := hrel
            have PJ := Lib.hid hx
            clear hx
            by_cases hjk : j < k
            · have d2 : decide (j < k) = true := by simpa using hjk
              have al := AL.out j hjk
              generalize hdj : driveM L (j : Int) = u at *
              have HDJ := Lib.hid hdj
              obtain ⟨un, up, uw⟩ := u
              simp only at al
              clear hdj
              by_cases hun : un = tn
              · have d3 : (un == tn) = true := by simpa using hun
                have d4 : decide ((0 : Int) ≤ tn) = false := by have := al hun; simp; omega
                clear hun
                clear al
                go_wp2_with (go_at_call 31; refine (DV'.out _ PJ.out j).mono ?_; rintro e w5 ⟨rfl, h5⟩; rw [HDJ.out]; have P5 := Lib.hid h5; clear h5)
                go_roundw
                case rel => exact ⟨j + 1, hjk, by go_num, P5.out⟩
                case measure => simp [intOf]; omega
              · have d3 : (un == tn) = false := by simpa using hun
                clear al hun
                go_wp2_with (go_at_call 31; refine (DV'.out _ PJ.out j).mono ?_; rintro e w5 ⟨rfl, h5⟩; rw [HDJ.out]; have P5 := Lib.hid h5; clear h5)
                go_roundw
                case rel => exact ⟨j + 1, hjk, by go_num, P5.out⟩
                case measure => simp [intOf]; omega
            · have d2 : decide (j < k) = false := by simpa using hjk
              go_wp2_with fail
              go_roundw
              case rel => exact ⟨k + 1, hlt, by go_num, PJ.out⟩
              case measure => simp [intOf]; omega
    · have d1 : decide (k < L.drives.length) = false := by simpa using hlt
      go_wp2_with (first
        | (go_at_call 36; refine (DR.out _ PX.out).mono ?_; rintro e w2 ⟨rfl, rfl⟩)
        | (go_at_call 39; refine (awake08 _).mono ?_; rintro e w3 ⟨rfl, hb3⟩))
      go_ret
      obtain ⟨F, _, _, hb⟩ := PX.out
      exact ⟨rfl, hb.trans (hb3.mono hb.size)⟩
end Go.Proofs.Ytiiilimmjoadeaa
