/- The law LibThree returns true on values. No condition beyond those that each theorem states. -/
import Derived.Test.YtiiilimmjoadeaaT6
import Derived.Deep.DeepCutAuto
import Derived.Deep.CutBlock
namespace Go.Proofs.Ytiiilimmjoadeaa
open Go.RowKit

set_option maxRecDepth 100000 in
set_option maxHeartbeats 4000000 in
theorem libThree_walk (x y : Int) (A : Option Addr) (n c : Nat) (f : Nat → Act8V) (cn pn : Nat) (w : World) (hA : Acts8In w A n f) (hn : n ≤ c) (hc : c ≤ maxLen) (hcn : cn < 256) (hpn : pn < 256) :
    Calls Try.prog 12 #[.int .u8 x, .int .u8 y, .slice A n c, .int .u8 (cn : Int), .int .u8 (pn : Int)] w fun e w' => e = .returned (.bool true) ∧ Below w.heap.size w w' := by
  go_enter Try.func12, Try.ntmps12
  go_wp2_with fail
  refine (after08 x y A n c f _ hA hn hc).mono ?_
  rintro e w1 ⟨lp, L, rfl, h1, g1⟩
  have P1 := Lib.hid h1
  have G1 := Lib.hid g1
  have hl32 : L.carts.length ≤ 32 := by
    obtain ⟨F, ⟨own, cv, dv, _, h⟩, _⟩ := h1
    exact h.few
  clear h1 g1 hA
  have CA := Lib.hid (fun (wx : World) (hx : LAlone w wx lp L) => (show Calls Try.prog 35 #[.pointer (some ⟨lp, 0, none⟩)] wx fun e w' => e = .returned (.int .i64 L.carts.length) ∧ wx = w' by
    obtain ⟨F, h, _⟩ := hx
    exact oCarts h))
  have WO := Lib.hid (fun (wx : World) (hx : LAlone w wx lp L) => (show Calls Try.prog 37 #[.pointer (some ⟨lp, 0, none⟩)] wx fun e w' => e = .returned (.int .i64 (workM L)) ∧ LAlone w w' lp L by
    have hx' := hx
    obtain ⟨F, h, _⟩ := hx
    exact (oWorking h).mono fun e w' ⟨he, hb⟩ => ⟨he, hx'.below hb⟩))
  by_cases h0 : L.carts.length = 0
  · have d1 : ((L.carts.length : Int) == 0) = true := by simp [h0]
    go_wp2_with (first
      | (go_at_call 35; refine (CA.out _ P1.out).mono ?_; rintro e w2 ⟨rfl, rfl⟩)
      | (go_at_call 39; refine (awake08 _).mono ?_; rintro e w3 ⟨rfl, hb3⟩))
    go_ret
    obtain ⟨F, _, _, hb⟩ := P1.out
    exact ⟨rfl, hb.trans (hb3.mono hb.size)⟩
  · have d1 : ((L.carts.length : Int) == 0) = false := by simp [h0]
    by_cases hw0 : workM L = 0
    · have d2 : (workM L == 0) = true := by simp [hw0]
      have HW := Lib.hid hw0
      clear hw0
      go_wp2_with (first
        | (go_at_call 35; refine (CA.out _ P1.out).mono ?_; rintro e w2 ⟨rfl, rfl⟩)
        | (go_at_call 37; refine (WO.out _ P1.out).mono ?_; rintro e w2 ⟨rfl, h2⟩; have P2 := Lib.hid h2; clear h2)
        | (go_at_call 39; refine (awake08 _).mono ?_; rintro e w3 ⟨rfl, hb3⟩))
      go_ret
      obtain ⟨F, _, _, hb⟩ := P2.out
      exact ⟨rfl, hb.trans (hb3.mono hb.size)⟩
    · have d2 : (workM L == 0) = false := by simp [hw0]
      have HW := Lib.hid hw0
      clear hw0
      go_upto_region 5 with (first
        | (go_at_call 35; refine (CA.out _ P1.out).mono ?_; rintro e w2 ⟨rfl, rfl⟩)
        | (go_at_call 35; refine (CA.out _ P2.out).mono ?_; rintro e w2 ⟨rfl, rfl⟩)
        | (go_at_call 37; refine (WO.out _ P1.out).mono ?_; rintro e w2 ⟨rfl, h2⟩; have P2 := Lib.hid h2; clear h2))
      have hz : ((cn : Nat) : Int) % (L.carts.length : Int) = ((cn % L.carts.length : Nat) : Int) := by simp
      rw [hz]
      have hi : cn % L.carts.length < L.carts.length := Nat.mod_lt _ (by omega)
      clear hz
      generalize cn % L.carts.length = i at *
      have hic : isC L i = true := isC_iff.2 (by omega)
      obtain ⟨i', C, hii, _, hC, hcv⟩ := isC_get hic
      have hii : i' = i := by omega
      subst hii
      have hCs : C.M.length ≤ 1024 := by
        obtain ⟨F, h, _⟩ := P2.out
        have := oCartShort h hC
        omega
      have CV := Lib.hid hcv
      have HC := Lib.hid hC
      have CT := Lib.hid (fun (wx : World) (hx : LAlone w wx lp L) => (show Calls Try.prog 34 #[.pointer (some ⟨lp, 0, none⟩), .int .i64 i'] wx fun e w' => e = .returned (.pointer (some ⟨C.p, 0, none⟩)) ∧ wx = w' by
        obtain ⟨F, h, _⟩ := hx
        exact (oCart h i').mono fun e w' ⟨he, hb⟩ => ⟨by rw [he, CV.out], hb⟩))
      have LN := Lib.hid (fun (wx : World) (hx : LAlone w wx lp L) => (show Calls Try.prog 19 #[.pointer (some ⟨C.p, 0, none⟩)] wx fun e w' => e = .returned (.int .i64 C.M.length) ∧ wx = w' by
        obtain ⟨F, h, _⟩ := hx
        exact oCartLen h HC.out))
      clear hcv hC hic
      have hnz : ((C.M.length : Int) + 1 == 0) = false := by simp; omega
      go_upto_region 6 with (first
        | (go_at_call 34; refine (CT.out _ P2.out).mono ?_; rintro e w4 ⟨rfl, rfl⟩)
        | (go_at_call 19; refine (LN.out _ P2.out).mono ?_; rintro e w4 ⟨rfl, rfl⟩))
      have hz : ((pn : Nat) : Int) % ((C.M.length : Int) + 1) = ((pn % (C.M.length + 1) : Nat) : Int) := by simp
      rw [hz]
      have hp : pn % (C.M.length + 1) < C.M.length + 1 := Nat.mod_lt _ (by omega)
      clear hz
      generalize pn % (C.M.length + 1) = q at *
      have hq : 0 ≤ (q : Int) ∧ (q : Int) ≤ 1024 := by omega
      obtain ⟨b1, L1, e1, n1, c1, s1⟩ := go_any hi hq HW.out
      have g1 : Good 41 L1 := by have := good_go G1.out i' q; rw [e1] at this; exact this
      have hnow : 0 ≤ L.now ∧ L.now < 4611686018427387904 := by have := G1.out.now; omega
      have GO := Lib.hid (show ∀ wx, LAlone w wx lp L → Calls Try.prog 27 #[.pointer (some ⟨lp, 0, none⟩), .int .i64 i', .int .i64 q] wx fun e w' => e = .returned (.tuple #[.bool b1, .int .i64 0]) ∧ LAlone w w' lp L1 from fun wx ⟨F, h, hF, hb⟩ =>
        (oGo h i' q hnow).mono fun e w' ⟨he, h4⟩ => by
          rw [e1] at he h4
          exact ⟨he, LAlone.step hF hb h4⟩)
      have G41 := Lib.hid g1
      have N1 := Lib.hid n1
      have C1 := Lib.hid c1
      have S1 := Lib.hid s1
      clear e1 n1 c1 s1 g1 hnow
      go_upto_block 0 with ((go_at_call 27; refine (GO.out _ P2.out).mono ?_; rintro e w5 ⟨rfl, h5⟩; have P5 := Lib.hid h5; clear h5))
      go_cut [14, 15] (fun s14 s15 wx => s14 = .bool true ∧ s15 = .int .i64 0 ∧ ∃ L' k, LAlone w wx lp L' ∧ Good k L' ∧ k ≤ 50 ∧ Near0 L' i' q ∧ L'.carts = L.carts)
      case first =>
        go_wp2_with fail
        go_loopw [14, 15, 16] (fun s14 s15 s16 wx => ∃ (j : Nat) (b : Bool) (L' : LV), j ≤ 2 ∧ s16 = .int .i64 j ∧ s14 = .bool b ∧ s15 = .int .i64 0 ∧ LAlone w wx lp L' ∧ Good (41 + j) L' ∧ L'.carts = L.carts ∧ Near1 L' i' ∧ (b = true → Near0 L' i' q) ∧ (j = 1 → Near0 L' i' q) ∧ (j = 2 → b = true)) (fun _ _ i _ => 2 - (intOf i).toNat)
        case atStart => exact ⟨0, b1, L1, by omega, rfl, rfl, rfl, P5.out, G41.out, C1.out, N1.out, S1.out, fun h => by omega, fun h => by omega⟩
        case round =>
          obtain ⟨j, b, L', hj, rfl, rfl, rfl, hx, hg, hcs, h1, h2, h3, h4⟩ := hrel
          have PX := Lib.hid hx
          have GX := Lib.hid hg
          have CS := Lib.hid hcs
          clear hx hg hcs
          cases b with
          | true =>
            have N0 := Lib.hid (h2 rfl)
            clear h1 h2 h3 h4
            by_cases hj2 : j < 2
            · have d3 : decide ((j : Int) < 2) = true := by simp; omega
              go_wp2_with fail
              go_meet
              exact ⟨rfl, rfl, L', 41 + j, PX.out, GX.out, by omega, N0.out, CS.out⟩
            · have d3 : decide ((j : Int) < 2) = false := by simp; omega
              go_wp2_with fail
              go_meet
              exact ⟨rfl, rfl, L', 41 + j, PX.out, GX.out, by omega, N0.out, CS.out⟩
          | false =>
            have hj2 : j < 2 := by
              rcases Nat.lt_or_ge j 2 with h | h
              · exact h
              · exact absurd (h4 (by omega)) (by decide)
            have d3 : decide ((j : Int) < 2) = true := by simp; omega
            obtain ⟨b', L'', e1, n1, c1, s1⟩ := go_near1 (L := L') (c := i') (p := q) (by rw [CS.out]; exact hi) hq h1
            have g1 : Good (41 + (j + 1)) L'' := by have := good_go GX.out i' q; rw [e1] at this; exact this
            have hnow : 0 ≤ L'.now ∧ L'.now < 4611686018427387904 := by have := GX.out.now; omega
            have GO := Lib.hid (show ∀ wx, LAlone w wx lp L' → Calls Try.prog 27 #[.pointer (some ⟨lp, 0, none⟩), .int .i64 i', .int .i64 q] wx fun e w' => e = .returned (.tuple #[.bool b', .int .i64 0]) ∧ LAlone w w' lp L'' from fun wx ⟨F, h, hF, hb⟩ =>
              (oGo h i' q hnow).mono fun e w' ⟨he, h4⟩ => by
                rw [e1] at he h4
                exact ⟨he, LAlone.step hF hb h4⟩)
            have G2 := Lib.hid g1
            have N2 := Lib.hid n1
            have C2 := Lib.hid (c1.trans CS.out)
            have S2 := Lib.hid (show j + 1 = 2 → b' = true from fun h => s1 (h3 (by omega)))
            clear e1 n1 c1 s1 g1 hnow h1 h2 h3 h4
            go_wp2_with ((go_at_call 27; refine (GO.out _ PX.out).mono ?_; rintro e w5 ⟨rfl, h5⟩; have P6 := Lib.hid h5; clear h5))
            go_roundw
            case rel => exact ⟨j + 1, b', L'', by omega, by go_num, rfl, rfl, P6.out, G2.out, C2.out, N2.out.near1, fun _ => N2.out, fun _ => N2.out, S2.out⟩
            case measure => simp [intOf]; omega
      case rest =>
        obtain ⟨rfl, rfl, L2, k2, ⟨F, h, hF, hb⟩, hg2, hk2, hn0, hcs⟩ := hcut
        have hC2 : L2.carts[i']? = some C := by rw [hcs]; exact HC.out
        have hcv2 : cartV L2 i' = .pointer (some ⟨C.p, 0, none⟩) := by
          have := CV.out
          unfold cartV at this ⊢
          rw [hcs]
          exact this
        obtain ⟨L3, r1, r2⟩ := read_near0 (L := L2) (c := i') (p := q) (by rw [hcs]; exact hi) hC2 hn0
        have g3 : Good (k2 + 1) L3 := by have := good_read hg2 i' q; rw [r1] at this; exact this
        have hp2 := hg2.pos (by omega)
        have hp3 := g3.pos (by omega)
        have H := Lib.hid h
        have HF := Lib.hid hF
        have HB := Lib.hid hb
        have CV2 := Lib.hid hcv2
        have HC2 := Lib.hid hC2
        have R1 := Lib.hid r1
        have R2 := Lib.hid r2
        have HP2 := Lib.hid hp2
        have HP3 := Lib.hid hp3
        clear h hF hb hcv2 hC2 r1 r2 hp2 hp3 hg2 g3 hn0 hcs GO WO CA CT LN P1 P2 P5 S1 N1 C1
        obtain ⟨wm, rfl⟩ : ∃ wm : World, wm = wc := ⟨_, rfl⟩
        generalize hrd : readM C.M C.lost q = rd at *
        have HRD := Lib.hid hrd
        obtain ⟨rl, re⟩ := rd
        clear hrd
        go_upto_region 14 with (first
          | (go_at_call 34; refine (oCart H.out i').mono ?_; rintro e w4 ⟨rfl, rfl⟩; rw [CV2.out])
          | (go_at_call 16; refine (oCartRead H.out HC2.out q).mono ?_; rintro e w6 ⟨v, rfl, ho, hb6⟩; rw [HRD.out] at ho ⊢; have O1 := Lib.hid ho; have B6 := Lib.hid hb6; clear ho hb6))
        have h2 : LOwn (fun k => F k ∧ k < wm.heap.size) w6 lp L2 := (LOwn.owning _ _).below ((LOwn.owning _ _).mono _ _ _ H.out (fun k hk hf => ⟨hf, hk⟩)) B6.out
        have H2 := Lib.hid h2
        clear h2
        go_upto_region 15 with ((go_at_call 28; refine (oRead H2.out i' q HP2.out).mono ?_; rintro e w7 ⟨v2, rfl, ho2, h3, t3⟩; rw [R1.out] at ho2 h3 ⊢; have O2 := Lib.hid ho2; have H3 := Lib.hid h3; have T3 := Lib.hid t3; clear ho2 h3 t3))
        go_upto_region 16 with ((go_at_call 28; refine (oRead H3.out i' q HP3.out).mono ?_; rintro e w8 ⟨v3, rfl, ho3, h4, t4⟩; rw [R2.out] at ho3 h4 ⊢; have T4 := Lib.hid t4; clear ho3 h4 t4))
        have o1 : OutB wm w8 v rl := (O1.out.chg T3.out (fun g hg hf => by have := (O1.out.range g hg).1; have := hf.2; omega)).chg T4.out (fun g hg hf => by have := (O1.out.range g hg).1; have := hf.1.2; omega)
        have o2 : OutB w6 w8 v2 rl := O2.out.chg T4.out (fun g hg hf => by have := (O2.out.range g hg).1; have := hf.2; omega)
        have hb8 : Below w.heap.size w w8 := by
          have b6 := HB.out.trans (B6.out.mono HB.out.size)
          have b7 := b6.trans (T3.out.below b6.size (fun k hk => HF.out k hk.1))
          exact b7.trans (T4.out.below b7.size (fun k hk => HF.out k hk.1.1))
        have K1 := Lib.hid o1
        have K2 := Lib.hid o2
        have K3 := Lib.hid hb8
        clear o1 o2 hb8
        go_wp2_with (
          (go_at_call 39
           refine (awake08 _).mono ?_
           rintro e w9 ⟨rfl, hb9⟩
           have hcv1 := (K1.out.chg (Chg.of_below (fun _ => False) hb9) (fun _ _ h => h)).string
           have hcv2 := (K2.out.chg (Chg.of_below (fun _ => False) hb9) (fun _ _ h => h)).string
           have K4 := Lib.hid (K3.out.trans (hb9.mono K3.out.size))
           clear hb9))
        go_ret
        exact ⟨rfl, K4.out⟩
end Go.Proofs.Ytiiilimmjoadeaa
