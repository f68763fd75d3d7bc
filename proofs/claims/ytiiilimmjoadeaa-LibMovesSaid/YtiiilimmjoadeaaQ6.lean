/- The document's library: Append and Go. No condition beyond those that each theorem states. -/
import Derived.Test.YtiiilimmjoadeaaQ5
namespace Go.Proofs.Ytiiilimmjoadeaa
open Go.RowKit

set_option maxRecDepth 100000 in
set_option maxHeartbeats 4000000 in
theorem rAppend (own : Nat → Nat) (w : World) (rp : Nat) (cv dv av : Value) (R : RLV) (n : Int) (A : Option Addr) (m c : Nat) (l : List UInt8) (h : RCore own w rp cv dv av R) (hb : BytesIn w A m l) (hm : m ≤ 9223372036854775807) :
    Calls Try.prog 61 #[.pointer (some ⟨rp, 0, none⟩), .int .i64 n, .slice A m c] w fun e w' => IntIntEnd e ∧ RStep own w w' rp R.carts.length R.drives.length R.asked.length := by
  have H := Lib.hid h
  have c0 : ∀ N, (w.drewN N).cell? ⟨rp, 0, none⟩ = some cv := fun N => h.blk.cell 0
  have c1 : ∀ N, (w.drewN N).cell? ⟨rp, 1, none⟩ = some dv := fun N => h.blk.cell 1
  by_cases hc : isR R n = true
  · obtain ⟨i, C, rfl, hi, hC⟩ := isR_get hc
    have E := Lib.hid hc
    have HC := Lib.hid hC
    have HB := Lib.hid (fun N => hb.below (below_drewN (Below.refl w.heap.size w) N))
    clear hc hb
    go_enter Try.func61, Try.ntmps61
    go_upto_region 4 with (first
      | (go_at_call 59; refine (rIs own w rp cv dv av R i H.out).mono ?_; rintro e w1 ⟨rfl, rfl⟩; rw [E.out])
      | (go_at_call 64; refine (rWith own w rp cv dv av R i H.out).mono ?_; rintro e w1 ⟨⟨j, rfl, hj⟩, rfl⟩; have HJ := Lib.hid hj; clear hj))
    rcases HJ.out with rfl | ⟨k, rfl, hk⟩
    · clear h hC HJ
      go_quiet (fail)
      go_wp2_with fail
      go_ret2
      exact ⟨⟨_, _, rfl⟩, RStep.below H.out (below_drewN (Below.refl _ _) _)⟩
    · obtain ⟨g, cap, D, rfl, hD, hgl, hg1, hgs, fr, k0, k1, k2⟩ := h.live hk
      rcases h.rc.form with ⟨_, h0⟩ | ⟨gc, capc, rfl, _, _, hgc1, hgcs⟩
      · omega
      have x2 : ∀ N, (w.drewN N).cell? ⟨gc, i, none⟩ = some (.pointer (some ⟨C.p, 0, none⟩)) := fun N => h.cart_cell rfl hC
      have x3 : ∀ N, (w.drewN N).cell? ⟨g, k * 3 + 1, none⟩ = some (.int .i64 D.pos) := fun N => k1
      obtain ⟨rv, hrv0, hrvf⟩ := (h.cs i C hC).recs_cell
      have hrv : ∀ N, (w.drewN N).cell? ⟨C.p, 0, none⟩ = some rv := fun N => hrv0
      have CC := Lib.hid (fun N => (h.below (below_drewN (Below.refl w.heap.size w) N)).cs i C hC)
      have HD := Lib.hid hD
      generalize hr : appendM C.M C.most C.lost l = r
      have HR := Lib.hid hr
      rcases r with ⟨at_, er, M'⟩
      by_cases hpp : D.pos = C.M.length
      · have hap : ∀ N, Calls Try.prog 48 #[.pointer (some ⟨C.p, 0, none⟩), .slice A m c] (w.drewN N) fun e w2 => e = .returned (.tuple #[.int .i64 at_, .int .i64 er]) ∧ ∃ F', ROwn F' w2 C.p M' C.most C.lost ∧ Took (fun k => own k = i + 10) F' w w2 := fun N =>
          (refAppend _ C.p C.M C.most C.lost A m c l _ (CC.out N) (HB.out N) hm).mono fun e w2 ⟨he, F', ho, ht⟩ => by
            rw [HR.out] at he ho
            exact ⟨he, F', ho, ((Chg.refl _ w).drewN N).trans ht.1, ht.2⟩
        have HAP := Lib.hid hap
        have dlen : (D.pos != (C.M.length : Int)) = false := by simpa using hpp
        have fin1 : ∀ w2 F', ROwn F' w2 C.p M' C.most C.lost → Took (fun k => own k = i + 10) F' w w2 → RStep own w w2 rp R.carts.length R.drives.length R.asked.length ∧ w2.cell? ⟨g, k * 3 + 1, none⟩ = some (.int .i64 D.pos) ∧ (∀ j, w2.frozen? ⟨g, j, none⟩ = false) ∧ w2.cell? ⟨rp, 1, none⟩ = some (.slice (some ⟨g, 0, none⟩) R.drives.length cap) ∧ ∀ z : Int, RStep own w (w2.setCell ⟨g, k * 3 + 1, none⟩ (.int .i64 z)) rp R.carts.length R.drives.length R.asked.length := by
          intro w2 F' ho ht
          have s2 := H.out.cart_step HC.out ho ht
          have hcg : Chg (fun k => own k ≠ 0) w w2 := ht.1.mono (fun k hk => by omega)
          refine ⟨by simpa using RStep.of s2 relabel_from hcg, s2.drive_cell rfl HD.out (q := 1) (by decide) rfl, fun j => s2.rd.row.free j, s2.blk.cell 1, fun z => ?_⟩
          have s3 := RCore.put1 (R := ⟨R.carts.set i ⟨C.p, M', C.most, C.lost⟩, R.drives, R.asked⟩) (d' := ⟨D.cart, z, D.works⟩) s2 HD.out (q := 1) (u := .int .i64 z) (by decide) rfl
          simpa using RStep.of s3 relabel_from (hcg.store (p := ⟨g, k * 3 + 1, none⟩) (.inl (by show own g ≠ 0; omega)) _)
        have FIN := Lib.hid fin1
        by_cases hz : er = 0
        · subst hz
          rcases hrvf with ⟨rfl, hl0⟩ | ⟨gr, capr, rfl⟩
          · have dz : (D.pos != 0) = false := by simp; omega
            clear h hC HJ hD hpp k0 k1 k2 hrv0 hap fin1 hl0 hr
            go_quiet (fail)
            go_wp2_with (
              (go_at_call 48
               refine (HAP.out _).mono ?_
               rintro e w2 ⟨rfl, F', ho, ht⟩
               obtain ⟨y0, y1, y2, y3, y4⟩ := FIN.out w2 F' ho ht
               have Y4 := Lib.hid y4
               clear ho ht y0 y4))
            go_ret2
            exact ⟨⟨_, _, rfl⟩, Y4.out _⟩
          · clear h hC HJ hD hpp k0 k1 k2 hrv0 hap fin1 hr
            go_quiet (fail)
            go_wp2_with (
              (go_at_call 48
               refine (HAP.out _).mono ?_
               rintro e w2 ⟨rfl, F', ho, ht⟩
               obtain ⟨y0, y1, y2, y3, y4⟩ := FIN.out w2 F' ho ht
               have Y4 := Lib.hid y4
               clear ho ht y0 y4))
            go_ret2
            exact ⟨⟨_, _, rfl⟩, Y4.out _⟩
        · have d2 : (er == 0) = false := by simpa using hz
          rcases hrvf with ⟨rfl, hl0⟩ | ⟨gr, capr, rfl⟩
          · have dz : (D.pos != 0) = false := by simp; omega
            clear h hC HJ hD hpp k0 k1 k2 hrv0 hap fin1 hl0 hr hz
            go_quiet (fail)
            go_wp2_with (
              (go_at_call 48
               refine (HAP.out _).mono ?_
               rintro e w2 ⟨rfl, F', ho, ht⟩
               obtain ⟨y0, y1, y2, y3, y4⟩ := FIN.out w2 F' ho ht
               have Y0 := Lib.hid y0
               clear ho ht y0 y4))
            go_ret2
            exact ⟨⟨_, _, rfl⟩, Y0.out⟩
          · clear h hC HJ hD hpp k0 k1 k2 hrv0 hap fin1 hr hz
            go_quiet (fail)
            go_wp2_with (
              (go_at_call 48
               refine (HAP.out _).mono ?_
               rintro e w2 ⟨rfl, F', ho, ht⟩
               obtain ⟨y0, y1, y2, y3, y4⟩ := FIN.out w2 F' ho ht
               have Y0 := Lib.hid y0
               clear ho ht y0 y4))
            go_ret2
            exact ⟨⟨_, _, rfl⟩, Y0.out⟩
      · have dlen : (D.pos != (C.M.length : Int)) = true := by simpa using hpp
        rcases hrvf with ⟨rfl, hl0⟩ | ⟨gr, capr, rfl⟩
        · have dz : (D.pos != 0) = true := by simp; omega
          clear h hC HJ hD hpp k0 k1 k2 hrv0 hl0 hr
          go_quiet (fail)
          go_wp2_with fail
          go_ret2
          exact ⟨⟨_, _, rfl⟩, RStep.below H.out (below_drewN (Below.refl _ _) _)⟩
        · clear h hC HJ hD hpp k0 k1 k2 hrv0 hr
          go_quiet (fail)
          go_wp2_with fail
          go_ret2
          exact ⟨⟨_, _, rfl⟩, RStep.below H.out (below_drewN (Below.refl _ _) _)⟩
  · have hcf : isR R n = false := by simpa using hc
    have E := Lib.hid hcf
    clear hc hcf h hb
    go_enter Try.func61, Try.ntmps61
    go_wp2_with (go_at_call 59; refine (rIs own w rp cv dv av R n H.out).mono ?_; rintro e w1 ⟨rfl, rfl⟩; rw [E.out])
    go_ret2
    exact ⟨⟨_, _, rfl⟩, RStep.below H.out (Below.refl _ _)⟩

set_option maxRecDepth 100000 in
set_option maxHeartbeats 4000000 in
theorem rGo (own : Nat → Nat) (w : World) (rp : Nat) (cv dv av : Value) (R : RLV) (n pos : Int) (h : RCore own w rp cv dv av R) (hna : R.asked.length ≤ 100000) :
    Calls Try.prog 63 #[.pointer (some ⟨rp, 0, none⟩), .int .i64 n, .int .i64 pos] w fun e w' => BoolIntEnd e ∧ RStep own w w' rp R.carts.length R.drives.length (R.asked.length + 1) := by
  have H := Lib.hid h
  have c1 : w.cell? ⟨rp, 1, none⟩ = some dv := h.blk.cell 1
  by_cases hbad : isR R n = false ∨ pos < 0 ∨ 1024 < pos
  · have e1 : ∀ _ : World, RStep own w w rp R.carts.length R.drives.length (R.asked.length + 1) := fun _ => (RStep.below h (Below.refl _ _)).le (by omega)
    have E1 := Lib.hid e1
    clear h e1
    by_cases hc : isR R n = true
    · have E := Lib.hid hc
      by_cases hp0 : pos < 0
      · clear hbad hc
        go_enter Try.func63, Try.ntmps63
        go_wp2_with (go_at_call 59; refine (rIs own w rp cv dv av R n H.out).mono ?_; rintro e w1 ⟨rfl, rfl⟩; rw [E.out])
        go_ret2
        exact ⟨⟨_, _, rfl⟩, E1.out w⟩
      · have hp1 : 1024 < pos := by
          rcases hbad with h | h | h
          · rw [hc] at h; cases h
          · exact absurd h hp0
          · exact h
        clear hbad hc
        go_enter Try.func63, Try.ntmps63
        go_wp2_with (go_at_call 59; refine (rIs own w rp cv dv av R n H.out).mono ?_; rintro e w1 ⟨rfl, rfl⟩; rw [E.out])
        go_ret2
        exact ⟨⟨_, _, rfl⟩, E1.out w⟩
    · have hcf : isR R n = false := by simpa using hc
      have E := Lib.hid hcf
      clear hbad hc hcf
      go_enter Try.func63, Try.ntmps63
      go_wp2_with (go_at_call 59; refine (rIs own w rp cv dv av R n H.out).mono ?_; rintro e w1 ⟨rfl, rfl⟩; rw [E.out])
      go_ret2
      exact ⟨⟨_, _, rfl⟩, E1.out w⟩
  · have hc : isR R n = true := by
      cases hx : isR R n
      · exact absurd (.inl hx) hbad
      · rfl
    have hp0 : ¬ pos < 0 := fun h => hbad (.inr (.inl h))
    have hp1 : ¬ 1024 < pos := fun h => hbad (.inr (.inr h))
    have E := Lib.hid hc
    clear hc hbad
    go_enter Try.func63, Try.ntmps63
    go_upto_region 4 with (first
      | (go_at_call 59; refine (rIs own w rp cv dv av R n H.out).mono ?_; rintro e w1 ⟨rfl, rfl⟩; rw [E.out])
      | (go_at_call 64; refine (rWith own w rp cv dv av R n H.out).mono ?_; rintro e w1 ⟨⟨j, rfl, hj⟩, rfl⟩; have HJ := Lib.hid hj; clear hj))
    rcases HJ.out with rfl | ⟨k, rfl, hk⟩
    · clear HJ
      go_upto_region 6 with (go_at_call 65; refine (rTakes own w rp cv dv av R H.out hna).mono ?_; rintro e w1 ⟨⟨j, rfl, hj⟩, hb1⟩; have HJ := Lib.hid hj; clear hj)
      rcases HJ.out with rfl | ⟨k, rfl, hk⟩
      · clear h HJ
        go_wp2_with fail
        go_ret2
        exact ⟨⟨_, _, rfl⟩, (RStep.below H.out hb1).le (by omega)⟩
      · have h1 := h.below hb1
        obtain ⟨g, cap, D, rfl, hD, hgl, hg1, hgs, fr, k0, k1, k2⟩ := h1.live hk
        have y1 : w1.cell? ⟨rp, 1, none⟩ = some (.slice (some ⟨g, 0, none⟩) R.drives.length cap) := h1.blk.cell 1
        have s2 := h1.put hD n 0 true
        have hg0 : own g ≠ 0 := by omega
        have S2 := Lib.hid s2
        have CH := Lib.hid ((((Chg.of_below (fun k => own k ≠ 0) hb1).store (p := ⟨g, k * 3, none⟩) (.inl hg0) (.int .i64 n)).store (p := ⟨g, k * 3 + 1, none⟩) (.inl hg0) (.int .i64 0)).store (p := ⟨g, k * 3 + 2, none⟩) (.inl hg0) (.bool true))
        have hk2 : k < (R.drives.set k ⟨n, 0, true⟩).length := by simpa using hk
        clear h h1 HJ hb1 hD s2
        go_wp2_with (
          (go_at_call 66
           refine (rAsked own _ rp cv _ av ⟨R.carts, R.drives.set k ⟨n, 0, true⟩, R.asked⟩ k (by exact S2.out) hk2 hna).mono ?_
           rintro e w2 ⟨⟨v, rfl⟩, hs⟩
           have HS := Lib.hid hs
           clear hs))
        go_ret2
        exact ⟨⟨_, _, rfl⟩, RStep.trans (fun _ h => .inl h) CH.out (by simpa using HS.out)⟩
    · clear HJ h
      go_upto_region 12 with (
        (go_at_call 66
         refine (rAsked own _ rp cv _ av R k (by exact H.out) hk hna).mono ?_
         rintro e w2 ⟨⟨v, rfl⟩, hs⟩
         have HS := Lib.hid hs
         clear hs))
      obtain ⟨own2, cv2, dv2, av2, R2, h2, hc2, hd2, hn2, ho2, hg2⟩ := HS.out
      obtain ⟨g, cap, D, rfl, hD, hgl, hg1, hgs, fr, k0, k1, k2⟩ := h2.live (k := k) (by omega)
      have y1 : w2.cell? ⟨rp, 1, none⟩ = some (.slice (some ⟨g, 0, none⟩) R2.drives.length cap) := h2.blk.cell 1
      have hk2 : k < R2.drives.length := by omega
      have s2 := h2.put1 (d' := ⟨D.cart, pos, D.works⟩) hD (q := 1) (u := .int .i64 pos) (by decide) rfl
      have hg0 : own2 g ≠ 0 := by omega
      have q1 : RStep own w w2 rp R.carts.length R.drives.length (R.asked.length + 1) := HS.out
      have q2 : RStep own w (w2.setCell ⟨g, k * 3 + 1, none⟩ (.int .i64 pos)) rp R.carts.length R.drives.length (R.asked.length + 1) :=
        RStep.trans ho2 hg2 ⟨own2, _, _, _, _, s2, hc2, by simpa using hd2, hn2, fun _ h => .inl h, (Chg.refl (fun k => own2 k ≠ 0) w2).store (p := ⟨g, k * 3 + 1, none⟩) (.inl hg0) _⟩
      have Q1 := Lib.hid q1
      have Q2 := Lib.hid q2
      clear h2 hD s2 q1 q2 HS hc2 hd2 hn2 ho2 hg2
      by_cases hpp : D.pos = pos
      · have d1 : (D.pos == pos) = true := by simpa using hpp
        clear hpp
        go_wp2_with fail
        go_ret2
        exact ⟨⟨_, _, rfl⟩, Q1.out⟩
      · have d1 : (D.pos == pos) = false := by simpa using hpp
        clear hpp
        go_wp2_with fail
        go_ret2
        exact ⟨⟨_, _, rfl⟩, Q2.out⟩
end Go.Proofs.Ytiiilimmjoadeaa
