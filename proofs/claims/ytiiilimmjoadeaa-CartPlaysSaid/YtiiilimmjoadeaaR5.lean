/- The law CartPlays returns true on values. No condition beyond those that each theorem states. -/
import Derived.Test.YtiiilimmjoadeaaR4
import Derived.Test.YtiiilimmjoadeaaCe1
namespace Go.Proofs.Ytiiilimmjoadeaa
open Go.RowKit

/-- An act that came in. -/
structure ActV where
  x : Nat
  n : Int
  B : Option Addr
  m : Nat
  d : Nat
  l : List UInt8
structure ActIn (w : World) (b o : Nat) (v : ActV) : Prop where
  c0 : w.cell? ⟨b, o, none⟩ = some (.int .u8 (v.x : Int))
  c1 : w.cell? ⟨b, o + 1, none⟩ = some (.int .i64 v.n)
  c2 : w.cell? ⟨b, o + 2, none⟩ = some (.slice v.B v.m v.d)
  small : v.x < 256
  md : v.m ≤ v.d
  dm : v.d ≤ maxLen
  bytes : BytesIn w v.B v.m v.l
def ActsIn (w : World) (A : Option Addr) (n : Nat) (f : Nat → ActV) : Prop := n = 0 ∨ ∃ b off, A = some ⟨b, off, none⟩ ∧ b < w.heap.size ∧ ∀ i, i < n → ActIn w b (off + i * 3) (f i)

theorem pair7_new {w w1 w2 : World} {c r : Nat} {most : Int} (h1 : COwn (fun k => w.heap.size ≤ k) w1 c [] most false) (hb1 : Below w.heap.size w w1) (h2 : ROwn (fun k => w1.heap.size ≤ k) w2 r [] most false) (hb2 : Below w1.heap.size w1 w2) : Pair7 w w2 c r [] false most := by
  have hz := hb1.size
  refine ⟨fun k => if k < w.heap.size then 0 else if k < w1.heap.size then 1 else 2, (COwn.owning _ _ _ _).below ((COwn.owning _ _ _ _).mono _ _ _ h1 (fun k hk hf => ?_)) hb2, (ROwn.owning _ _ _ _).mono _ _ _ h2 (fun k hk hf => ?_), ⟨hb1.trans (hb2.mono hz), fun k hk => ?_⟩⟩
  · show (if k < w.heap.size then 0 else if k < w1.heap.size then 1 else 2) = 1
    rw [if_neg (by omega), if_pos hk]
  · show (if k < w.heap.size then 0 else if k < w1.heap.size then 1 else 2) = 2
    rw [if_neg (by omega), if_neg (by omega)]
  · split at hk
    · exact absurd rfl hk
    · omega

set_option maxRecDepth 100000 in
set_option maxHeartbeats 4000000 in
theorem cartPlays_walk (most : Int) (A : Option Addr) (n c : Nat) (f : Nat → ActV) (w : World) (hA : ActsIn w A n f) (hn : n ≤ c) (hc : c ≤ maxLen) :
    Calls Try.prog 6 #[.int .i64 most, .slice A n c] w fun e w' => e = .returned (.bool true) ∧ Below w.heap.size w w' := by
  have HA := Lib.hid hA
  have hn2 : n ≤ 9223372036854775807 := by simp only [maxLen] at hc; omega
  clear hA hc
  go_enter Try.func6, Try.ntmps6
  go_wp2_with fail
  refine (cNew most _).mono ?_
  rintro e w1 ⟨p, rfl, hp, h1, hb1⟩
  go_wp2_with fail
  refine (refNew most _).mono ?_
  rintro e w2 ⟨r, rfl, hr, h2, hb2⟩
  have P2 := Lib.hid (pair7_new h1 hb1 h2 hb2)
  have hm0 : max 0 (min most 1024) ≤ 1024 := by omega
  clear h1 hb1 h2 hb2 hp hr
  generalize max 0 (min most 1024) = most' at *
  go_upto_block 0 with fail
  go_cut [5] (fun s5 wx => s5 = .pointer (some ⟨p, 0, none⟩) ∧ ∃ M l, Pair7 w wx p r M l most')
  case first =>
    go_wp2_with fail
    go_loopw [7] (fun i wr => ∃ (k : Nat), k ≤ n ∧ k ≤ 80 ∧ i = .int .i64 k ∧ ∃ M l, Pair7 w wr p r M l most') (fun i _ => 80 - (intOf i).toNat)
    case atStart => exact ⟨0, by omega, by omega, rfl, _, _, P2.out⟩
    case round =>
      obtain ⟨k, hk, hk80, rfl, M, l, hP⟩ := hrel
      have PK := Lib.hid hP
      clear hP
      by_cases hlt : k < n
      · by_cases hlt80 : k < 80
        · obtain ⟨b, off, rfl, hbw, hF⟩ := HA.out.resolve_left (by omega)
          have ha := hF k hlt
          obtain ⟨own, _, _, hsep⟩ := PK.out
          have hbl := hsep.base
          have k0 : wr.cell? ⟨b, off + k * 3, none⟩ = some (.int .u8 ((f k).x : Int)) := (hbl.cell (p := ⟨b, off + k * 3, none⟩) hbw).trans ha.c0
          have k1 : wr.cell? ⟨b, off + k * 3 + 1, none⟩ = some (.int .i64 (f k).n) := (hbl.cell (p := ⟨b, off + k * 3 + 1, none⟩) hbw).trans ha.c1
          have k2 : wr.cell? ⟨b, off + k * 3 + 2, none⟩ = some (.slice (f k).B (f k).m (f k).d) := (hbl.cell (p := ⟨b, off + k * 3 + 2, none⟩) hbw).trans ha.c2
          have HI := Lib.hid ha
          have d1 : decide (k < n) = true := by simpa using hlt
          have d2 : decide (k < 80) = true := by simpa using hlt80
          clear ha hF hbl hsep
          generalize f k = v at *
          obtain ⟨x, y, B, m, d, lb⟩ := v
          simp only at k0 k1 k2
          go_wp2_with fail
          refine (does07 w _ p r M l most' x y B m d lb PK.out HI.out.small HI.out.bytes HI.out.md HI.out.dm).mono ?_
          rintro e w3 ⟨rfl, M2, l2, h3⟩
          have P3 := Lib.hid h3
          clear h3 k0 k1 k2
          go_wp2_with fail
          refine (alike07 w _ p r M2 l2 most' P3.out).mono ?_
          rintro e w4 ⟨rfl, N, rfl⟩
          go_wp2_with fail
          go_roundw
          case rel => exact ⟨k + 1, hlt, hlt80, by go_num, _, _, P3.out.below (below_drewN (Below.refl _ _) _)⟩
          case measure => simp [intOf]; omega
        · have d1 : decide (k < n) = true := by simpa using hlt
          have d2 : decide (k < 80) = false := by simpa using hlt80
          go_wp2_with fail
          go_meet
          exact ⟨rfl, _, _, PK.out⟩
      · have d1 : decide (k < n) = false := by simpa using hlt
        go_wp2_with fail
        go_meet
        exact ⟨rfl, _, _, PK.out⟩
  case rest =>
    obtain ⟨rfl, M, l, hP⟩ := hcut
    have P3 := Lib.hid hP
    have hM : (M.length : Int) ≤ 1024 := by
      obtain ⟨own, h1, _⟩ := hP
      have := h1.short.2.1
      omega
    clear hP
    go_wp2_with fail
    go_loopw [8] (fun i wr => ∃ (j : Int), -1 ≤ j ∧ j ≤ M.length + 1 ∧ i = .int .i64 j ∧ Pair7 w wr p r M l most') (fun i _ => (M.length + 1 - intOf i).toNat)
    case atStart => exact ⟨-1, by omega, by omega, rfl, P3.out⟩
    case round =>
      obtain ⟨j, hj1, hj2, rfl, hP⟩ := hrel
      have PK := Lib.hid hP
      obtain ⟨own, hc, hr, hsep⟩ := hP
      obtain ⟨rv, k0, hf⟩ := hr.recs_cell
      have HC := Lib.hid hc
      have HR := Lib.hid hr
      have HS := Lib.hid hsep
      clear hc hr hsep
      rcases hf with ⟨rfl, h0⟩ | ⟨g, cap, rfl⟩
      · have H0 := Lib.hid (show (M.length : Int) = 0 by omega)
        have hj3 : j ≤ 1 := by omega
        clear h0
        by_cases hle : j ≤ 0
        · have d1 : decide (j ≤ 0) = true := by simpa using hle
          go_wp2_with fail
          refine (cRead _ p M most' l j _ HC.out).mono ?_
          rintro e w3 ⟨v, rfl, ho, hb3⟩
          have hcv := ho.string
          obtain ⟨A5, c5, rfl, -, -⟩ := ho.bytesIn
          have HR3 := Lib.hid ((ROwn.owning _ _ _ _).below HR.out hb3)
          have P4 := Lib.hid (PK.out.below hb3)
          clear ho hb3
          go_wp2_with fail
          refine (refRead _ r M most' l j _ HR3.out).mono ?_
          rintro e w4 ⟨rfl, rfl⟩
          generalize (readM M l j).2 = y at *
          generalize (readM M l j).1 = lr at *
          have s1 : IntKind.i64.wrap (j + 1) = j + 1 := IntWalk.i64_in _ (by omega)
          go_wp2_with fail
          go_roundw
          case rel => exact ⟨j + 1, by omega, by have := H0.out; omega, rfl, P4.out⟩
          case measure => simp [intOf]; have := H0.out; omega
        · have d1 : decide (j ≤ 0) = false := by simpa using hle
          go_wp2_with fail
          refine (awake07 _).mono ?_
          rintro e w8 ⟨rfl, hb8⟩
          go_wp2_with fail
          go_ret
          exact ⟨rfl, HS.out.base.trans (hb8.mono HS.out.base.size)⟩
      ·
        by_cases hle : j ≤ (M.length : Int)
        · have d1 : decide (j ≤ (M.length : Int)) = true := by simpa using hle
          go_wp2_with fail
          refine (cRead _ p M most' l j _ HC.out).mono ?_
          rintro e w3 ⟨v, rfl, ho, hb3⟩
          have hcv := ho.string
          obtain ⟨A5, c5, rfl, -, -⟩ := ho.bytesIn
          have HR3 := Lib.hid ((ROwn.owning _ _ _ _).below HR.out hb3)
          have P4 := Lib.hid (PK.out.below hb3)
          clear ho hb3
          go_wp2_with fail
          refine (refRead _ r M most' l j _ HR3.out).mono ?_
          rintro e w4 ⟨rfl, rfl⟩
          generalize (readM M l j).2 = y at *
          generalize (readM M l j).1 = lr at *
          have s1 : IntKind.i64.wrap (j + 1) = j + 1 := IntWalk.i64_in _ (by omega)
          go_wp2_with fail
          go_roundw
          case rel => exact ⟨j + 1, by omega, by omega, rfl, P4.out⟩
          case measure => simp [intOf]; omega
        · have d1 : decide (j ≤ (M.length : Int)) = false := by simpa using hle
          go_wp2_with fail
          refine (awake07 _).mono ?_
          rintro e w8 ⟨rfl, hb8⟩
          go_wp2_with fail
          go_ret
          exact ⟨rfl, HS.out.base.trans (hb8.mono HS.out.base.size)⟩
end Go.Proofs.Ytiiilimmjoadeaa
