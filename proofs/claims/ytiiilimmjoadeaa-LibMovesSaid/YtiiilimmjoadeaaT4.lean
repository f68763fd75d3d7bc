/- A library behind acts. No condition beyond those that each theorem states. -/
import Derived.Test.YtiiilimmjoadeaaT3
namespace Go.Proofs.Ytiiilimmjoadeaa
open Go.RowKit

/-- An act that came in. -/
structure Act8V where
  x : Nat
  n : Int
  pos : Int
  B : Option Addr
  m : Nat
  d : Nat
  l : List UInt8
structure Act8In (w : World) (b o : Nat) (v : Act8V) : Prop where
  c0 : w.cell? ⟨b, o, none⟩ = some (.int .u8 (v.x : Int))
  c1 : w.cell? ⟨b, o + 1, none⟩ = some (.int .i64 v.n)
  c2 : w.cell? ⟨b, o + 2, none⟩ = some (.int .i64 v.pos)
  c3 : w.cell? ⟨b, o + 3, none⟩ = some (.slice v.B v.m v.d)
  small : v.x < 256
  md : v.m ≤ v.d
  dm : v.d ≤ maxLen
  bytes : BytesIn w v.B v.m v.l
def Acts8In (w : World) (A : Option Addr) (n : Nat) (f : Nat → Act8V) : Prop := n = 0 ∨ ∃ b off, A = some ⟨b, off, none⟩ ∧ b < w.heap.size ∧ ∀ i, i < n → Act8In w b (off + i * 4) (f i)

theorem both8_new {w w1 w2 : World} {lp rp kc kd kd' : Nat} {m : Int} {L : LV} (h1 : LOwn (fun k => w.heap.size ≤ k) w1 lp L) (hb1 : Below w.heap.size w w1) (hn : NewL kc kd m L) (h2 : RMade w1 w2 rp kc kd') : Both8 w w2 lp rp L 0 := by
  obtain ⟨own, cv, dv, av, R, h3, h4, h5, h6, h7, hb2⟩ := h2
  have hz := hb1.size
  have hR : R9 (fun k => w1.heap.size ≤ k) w2 rp cv dv av R := ⟨own, h7, h3⟩
  refine ⟨fun k => if k < w.heap.size then 0 else if k < w1.heap.size then 1 else 2, cv, dv, av, R, (LOwn.owning _ _).below ((LOwn.owning _ _).mono _ _ _ h1 (fun k hk hf => ?_)) hb2, (R9.owning _ _ _ _ _).mono _ _ _ hR (fun k hk hf => ?_), ⟨hb1.trans (hb2.mono hz), fun k hk => ?_⟩, by rw [h4, hn.len], h6⟩
  · show (if k < w.heap.size then 0 else if k < w1.heap.size then 1 else 2) = 1
    rw [if_neg (by omega), if_pos hk]
  · show (if k < w.heap.size then 0 else if k < w1.heap.size then 1 else 2) = 2
    rw [if_neg (by omega), if_neg (by omega)]
  · split at hk
    · exact absurd rfl hk
    · omega
theorem Both8.alone {w0 w : World} {lp rp k : Nat} {L : LV} (h : Both8 w0 w lp rp L k) : LAlone w0 w lp L := by
  obtain ⟨own, cv, dv, av, R, h1, h2, h3, h4⟩ := h
  exact ⟨_, h1, fun k hk => h3.from_ k (by omega), h3.base⟩
theorem Both8.base {w0 w : World} {lp rp k : Nat} {L : LV} (h : Both8 w0 w lp rp L k) : Below w0.heap.size w0 w := by
  obtain ⟨own, cv, dv, av, R, h1, h2, h3, h4⟩ := h
  exact h3.base

/-- The library that after hands out. -/
def After8 (w0 : World) (e : Ending) (w' : World) : Prop := ∃ lp L, e = .returned (.pointer (some ⟨lp, 0, none⟩)) ∧ LAlone w0 w' lp L ∧ Good 40 L
set_option maxRecDepth 100000 in
set_option maxHeartbeats 4000000 in
theorem after08 (x y : Int) (A : Option Addr) (n c : Nat) (f : Nat → Act8V) (w : World) (hA : Acts8In w A n f) (hn : n ≤ c) (hc : c ≤ maxLen) :
    Calls Try.prog 40 #[.int .u8 x, .int .u8 y, .slice A n c] w fun e w' => After8 w e w' := by
  have HA := Lib.hid hA
  have hn2 : n ≤ 9223372036854775807 := by simp only [maxLen] at hc; omega
  clear hA hc
  go_enter Try.func40, Try.ntmps40
  go_wp2_with fail
  refine (oNew _ _ _ _).mono ?_
  rintro e w1 ⟨lp, L, rfl, hlp, h1, hb1, hnl⟩
  have H1 := Lib.hid h1
  have B1 := Lib.hid hb1
  have N1 := Lib.hid hnl
  clear h1 hb1 hnl
  go_wp2_with fail
  refine (rNew _ _ _ _).mono ?_
  rintro e w2 ⟨rp, rfl, hrp, h2⟩
  have P2 := Lib.hid (both8_new H1.out B1.out N1.out h2)
  have G2 := Lib.hid (good_new N1.out)
  clear h2 H1 B1 N1
  go_wp2_with fail
  go_loopw [9] (fun i wx => ∃ (k : Nat) (L : LV), k ≤ n ∧ k ≤ 40 ∧ i = .int .i64 k ∧ Both8 w wx lp rp L k ∧ Good k L) (fun i _ => 40 - (intOf i).toNat)
  case atStart => exact ⟨0, _, by omega, by omega, rfl, P2.out, G2.out⟩
  case round =>
    obtain ⟨k, L, hk, hk40, rfl, hP, hG⟩ := hrel
    have PK := Lib.hid hP
    have GK := Lib.hid hG
    clear hP hG
    by_cases hlt : k < n
    · by_cases hlt40 : k < 40
      · obtain ⟨b, off, rfl, hbw, hF⟩ := HA.out.resolve_left (by omega)
        have ha := hF k hlt
        have hbl := PK.out.base
        have k0 : wr.cell? ⟨b, off + k * 4, none⟩ = some (.int .u8 ((f k).x : Int)) := (hbl.cell (p := ⟨b, off + k * 4, none⟩) hbw).trans ha.c0
        have k1 : wr.cell? ⟨b, off + k * 4 + 1, none⟩ = some (.int .i64 (f k).n) := (hbl.cell (p := ⟨b, off + k * 4 + 1, none⟩) hbw).trans ha.c1
        have k2 : wr.cell? ⟨b, off + k * 4 + 2, none⟩ = some (.int .i64 (f k).pos) := (hbl.cell (p := ⟨b, off + k * 4 + 2, none⟩) hbw).trans ha.c2
        have k3 : wr.cell? ⟨b, off + k * 4 + 3, none⟩ = some (.slice (f k).B (f k).m (f k).d) := (hbl.cell (p := ⟨b, off + k * 4 + 3, none⟩) hbw).trans ha.c3
        have HI := Lib.hid ha
        have d1 : decide (k < n) = true := by simpa using hlt
        have d2 : decide (k < 40) = true := by simpa using hlt40
        clear ha hF hbl
        generalize f k = v at *
        obtain ⟨x, y, q, B, m, d, lb⟩ := v
        simp only at k0 k1 k2 k3
        go_wp2_with fail
        refine (does08 w _ lp rp L k x y q B m d lb PK.out GK.out (by omega) HI.out.small HI.out.bytes HI.out.md HI.out.dm).mono ?_
        rintro e w3 ⟨⟨bb, rfl⟩, L2, h3, g3⟩
        have P3 := Lib.hid h3
        have G3 := Lib.hid g3
        clear h3 g3 k0 k1 k2 k3
        go_wp2_with fail
        go_roundw
        case rel => exact ⟨k + 1, L2, hlt, hlt40, by go_num, P3.out, G3.out⟩
        case measure => simp [intOf]; omega
      · have d1 : decide (k < n) = true := by simpa using hlt
        have d2 : decide (k < 40) = false := by simpa using hlt40
        go_wp2_with fail
        go_ret
        exact ⟨_, L, rfl, PK.out.alone, GK.out.mono hk40⟩
    · have d1 : decide (k < n) = false := by simpa using hlt
      go_wp2_with fail
      go_ret
      exact ⟨_, L, rfl, PK.out.alone, GK.out.mono hk40⟩
end Go.Proofs.Ytiiilimmjoadeaa
