/- The law ModelPlays returns true on values. No condition beyond those that each theorem states. -/
import Derived.Test.YtgkgieemdjbhpaaRA9
import Derived.Test.YtgkgieemdjbhpaaRG
namespace Go.Proofs.Ytgkgieemdjbhpaa
open Go.RowKit Go.Maps

section
variable {lo p b r : Nat} {w : World} {S R : MV}
theorem Both.len (h : Both lo w p b r S R) : R.length = S.length := h.perm.length_eq
theorem rKeys2 (h : Both lo w p b r S R) (hS : S.length ≤ 1000) :
    Calls Try.prog 15 #[.pointer (some ⟨r, 0, none⟩)] w fun e w' => ∃ B c, e = .returned (.slice B S.length c) ∧ StrsAt w' B S.length (sortM S) ∧ Below w.heap.size w w' := by
  have h1 := rKeys lo r R w h.r (by rw [h.len]; omega)
  rw [h.len, ← sort_perm h.perm h.rising] at h1
  exact h1
theorem rText2 (h : Both lo w p b r S R) (hS : S.length ≤ 1000) :
    Calls Try.prog 17 #[.pointer (some ⟨r, 0, none⟩)] w fun e w' => e = .returned (encStr (textM S)) ∧ Below w.heap.size w w' := by
  have h1 := rText lo r R w h.r (by rw [h.len]; omega) (fun q hq => by
    obtain ⟨D, _, hr⟩ := h.m.map
    have := hr.wf q (h.perm.subset hq)
    exact ⟨this.2.1, this.2.2⟩)
  rw [← text_perm h.perm h.rising] at h1
  exact h1
theorem rGet2 (h : Both lo w p b r S R) (hS : S.length ≤ 1000) (key : List UInt8) :
    Calls Try.prog 19 #[.pointer (some ⟨r, 0, none⟩), encStr key] w fun e w' => e = .returned (.tuple #[encStr (getM S key), .bool (hasM S key)]) ∧ ∃ N, w' = w.drewN N := by
  have h1 := rGet lo r R key w h.r (by rw [h.len]; omega) h.rising
  rw [getM_perm h.perm h.rising, hasM_perm h.perm] at h1
  exact h1
end
theorem x_cells {w : World} {xb m d : Nat} {g : Bool} {key : List UInt8} {D : Option Addr} (h : Blk w xb 31 #[.bool g, encStr key, .slice D m d]) : w.cell? ⟨xb, 0, none⟩ = some (.bool g) ∧ w.cell? ⟨xb, 1, none⟩ = some (encStr key) ∧ w.cell? ⟨xb, 2, none⟩ = some (.slice D m d) := ⟨h.cell 0, h.cell 1, h.cell 2⟩
set_option maxRecDepth 100000 in
set_option maxHeartbeats 20000000 in
theorem modelPlays_walk (A : Option Addr) (n c : Nat) (f : Nat → ActV) (key0 : List UInt8) (w : World) (hA : ActsIn w A n f) (hn : n ≤ c) (hc : c ≤ maxLen) (hk0 : key0.length ≤ maxLen) :
    Calls Try.prog 3 #[.slice A n c, encStr key0] w fun e w' => e = .returned (.bool true) ∧ Below w.heap.size w w' := by
  have HA := Lib.hid hA
  have hn2 : n ≤ 9223372036854775807 := by simp only [maxLen] at hc; omega
  have HK0 := Lib.hid hk0
  clear hA hc hk0
  go_enter Try.func3, Try.ntmps3
  go_upto_block 0 with (go_at_call 8; refine (mNew _).mono ?_; rintro e w1 ⟨p, b, rfl, hm1, hb1⟩; have M1 := Lib.hid hm1; have BL1 := Lib.hid hb1; clear hm1 hb1)
  obtain ⟨w2, hw2⟩ : ∃ w2 : World, w2 = w1.alloc (.cells #[.slice none 0 0] 28) := ⟨_, rfl⟩
  have D2 := Lib.hid (show Both w.heap.size w2 p b w1.heap.size [] [] by
    rw [hw2]
    exact ⟨M1.out.below ((Below.refl _ _).alloc (Nat.le_refl _) _), ⟨BL1.out.size, none, 0, Blk.made w1 _ _, World.ownsRow_nil _ _ _ _⟩, List.Perm.refl _, List.Pairwise.nil⟩)
  have B2 := Lib.hid (show Below w.heap.size w w2 by rw [hw2]; exact BL1.out.alloc BL1.out.size _)
  rw [← hw2]
  clear hw2 M1 BL1
  generalize w1.heap.size = r at *
  go_cut [7] (fun s7 wx => ∃ S R, S.length ≤ 60 ∧ Both w.heap.size wx p b r S R ∧ Below w.heap.size w wx)
  case first =>
    go_wp2_with fail
    go_loopw [7] (fun i wx => ∃ (k : Nat) (S R : MV), k ≤ n ∧ k ≤ 60 ∧ i = .int .i64 k ∧ S.length ≤ k ∧ Both w.heap.size wx p b r S R ∧ Below w.heap.size w wx) (fun i _ => n - (intOf i).toNat)
    case atStart => exact ⟨0, [], [], Nat.zero_le _, by omega, rfl, Nat.le_refl _, D2.out, B2.out⟩
    case round =>
      clear D2 B2
      obtain ⟨k, S, R, hk, hk60, rfl, hSk, hd, hbl⟩ := hrel
      obtain ⟨wo, rfl⟩ : ∃ wo : World, wo = wr := ⟨_, rfl⟩
      have DO := Lib.hid hd
      have BL0 := Lib.hid hbl
      have hz0 := hbl.size
      have hlb := hd.m.lt
      have hlr := hd.r.lt
      have hgb := hd.m.ge
      have hgr := hd.r.ge
      clear hd hbl
      by_cases h1 : k < n
      · have d1 : decide (k < n) = true := by simpa using h1
        by_cases h2 : k < 60
        · have d2 : decide ((k : Int) < 60) = true := by simp; omega
          obtain ⟨ba, off, rfl, hba, hacts⟩ := HA.out.resolve_left (by omega)
          have hact := hacts k h1
          generalize f k = v at hact
          obtain ⟨g0, key, D, m, d, data⟩ := v
          obtain ⟨a0, a1, a2, hkl, hfm, hby⟩ := hact
          have k0 : wo.cell? ⟨ba, off + k * 3, none⟩ = some (.bool g0) := (BL0.out.cell (p := ⟨ba, off + k * 3, none⟩) hba).trans a0
          have k1 : wo.cell? ⟨ba, off + k * 3 + 1, none⟩ = some (encStr key) := (BL0.out.cell (p := ⟨ba, off + k * 3 + 1, none⟩) hba).trans a1
          have k2 : wo.cell? ⟨ba, off + k * 3 + 2, none⟩ = some (.slice D m d) := (BL0.out.cell (p := ⟨ba, off + k * 3 + 2, none⟩) hba).trans a2
          have HF := Lib.hid (show Form D m d from hfm)
          have HBY := Lib.hid (show BytesIn w D m data from hby)
          have HKL := Lib.hid (show key.length ≤ maxLen from hkl)
          clear a0 a1 a2 hkl hfm hby hacts
          go_upto_region 6 with fail
          obtain ⟨w4, hw4⟩ : ∃ w4 : World, w4 = wo.alloc (.cells #[.bool g0, .string ⟨key.toArray⟩, .slice D m d] 31) := ⟨_, rfl⟩
          have X4 := Lib.hid (show Blk w4 wo.heap.size 31 #[.bool g0, encStr key, .slice D m d] by rw [hw4]; exact Blk.made wo _ _)
          have HB4 := Lib.hid (show Below wo.heap.size wo w4 by rw [hw4]; exact (Below.refl _ wo).alloc (Nat.le_refl _) _)
          rw [← hw4]
          clear hw4 k0 k1 k2
          have D0 := Lib.hid (DO.out.below HB4.out)
          have B4 := Lib.hid (BL0.out.trans (HB4.out.mono hz0))
          have hz4 := B4.out.size
          have hxb : wo.heap.size ≠ b := by omega
          have hxr : wo.heap.size ≠ r := by omega
          generalize wo.heap.size = xb at *
          have x0 : w4.cell? ⟨xb, 0, none⟩ = some (.bool g0) := X4.out.cell 0
          have x1 : w4.cell? ⟨xb, 1, none⟩ = some (encStr key) := X4.out.cell 1
          have x2 : w4.cell? ⟨xb, 2, none⟩ = some (.slice D m d) := X4.out.cell 2
          have hx4 := X4.out.size
          have hRl : R.length ≤ 1000 := by rw [D0.out.len]; omega
          clear DO HB4
          have hne1 : (delE S key != delE S key) = false := by simp
          have hne2 : (putE S key data != putE S key data) = false := by simp
          cases g0 with
          | true =>
            refine wp_region_held_drew (S := (fun w' => w'.cell? ⟨xb, 0, none⟩ = some (.bool true) ∧ w'.cell? ⟨xb, 1, none⟩ = some (encStr key) ∧ w'.cell? ⟨xb, 2, none⟩ = some (.slice D m d))) (by kernel_rfl) ⟨x0, x1, x2⟩ (fun hHeld => ?_)
            refine wpAnyH_take (i := 0) (v := ?vD0) (take_list rfl) (by kernel_rfl) (by kernel_rfl) (by kernel_rfl) (fun _ _ _ h => h) (Or.inl ⟨by rfl, ?hyD0⟩) (by assumption) ?restD0
            case hyD0 => (intro w hSw; (try dsimp only at hSw); go_simp <;> with_reducible rfl)
            try simp only [Act.put, List.setIfInBounds_toArray, List.set_cons_zero, List.set_cons_succ]
            refine wpAnyH_take (i := 1) (v := ?vD1) (take_list rfl) (by kernel_rfl) (by kernel_rfl) (by kernel_rfl) (fun _ _ _ h => h) (Or.inl ⟨by rfl, ?hyD1⟩) (by assumption) ?restD1
            case hyD1 => (intro w hSw; (try dsimp only at hSw); go_simp <;> with_reducible rfl)
            try simp only [Act.put, List.setIfInBounds_toArray, List.set_cons_zero, List.set_cons_succ]
            refine wpAnyH_take (i := 2) (v := ?vD2) (take_list rfl) (by kernel_rfl) (by kernel_rfl) (by kernel_rfl) (fun _ _ _ h => h) (Or.inl ⟨by rfl, ?hyD2⟩) (by assumption) ?restD2
            case hyD2 => (intro w hSw; (try dsimp only at hSw); go_simp <;> with_reducible rfl)
            try simp only [Act.put, List.setIfInBounds_toArray, List.set_cons_zero, List.set_cons_succ]
            refine wpAnyH_take (i := 3) (v := ?vD3) (take_list rfl) (by kernel_rfl) (by kernel_rfl) (by kernel_rfl) (fun _ _ _ h => h) (Or.inl ⟨by rfl, ?hyD3⟩) (by assumption) ?restD3
            case hyD3 => (intro w hSw; (try dsimp only at hSw); go_simp <;> with_reducible rfl)
            try simp only [Act.put, List.setIfInBounds_toArray, List.set_cons_zero, List.set_cons_succ]
            refine wpAnyH_take (i := 4) (v := ?vD4) (take_list rfl) (by kernel_rfl) (by kernel_rfl) (by kernel_rfl) (fun _ _ _ h => h) (Or.inl ⟨by rfl, ?hyD4⟩) (by assumption) ?restD4
            case hyD4 => (intro w hSw; (try dsimp only at hSw); go_simp <;> with_reducible rfl)
            try simp only [Act.put, List.setIfInBounds_toArray, List.set_cons_zero, List.set_cons_succ]
            refine wpAnyH_take (i := 5) (v := ?vD5) (take_list rfl) (by kernel_rfl) (by kernel_rfl) (by kernel_rfl) (fun _ _ _ h => h) (Or.inl ⟨by rfl, ?hyD5⟩) (by assumption) ?restD5
            case hyD5 => (intro w hSw; (try dsimp only at hSw); go_simp <;> with_reducible rfl)
            try simp only [Act.put, List.setIfInBounds_toArray, List.set_cons_zero, List.set_cons_succ]
            refine wpAnyH_take (i := 7) (v := ?vD7) (take_list rfl) (by kernel_rfl) (by kernel_rfl) (by kernel_rfl) (fun _ _ _ h => h) (Or.inl ⟨by rfl, ?hyD7⟩) (by assumption) ?restD7
            case hyD7 => (intro w hSw; (try dsimp only at hSw); go_simp <;> with_reducible rfl)
            try simp only [Act.put, List.setIfInBounds_toArray, List.set_cons_zero, List.set_cons_succ]
            refine wpAnyH_take (i := 8) (v := ?vD8) (take_list rfl) (by kernel_rfl) (by kernel_rfl) (by kernel_rfl) (fun _ _ _ h => h) (Or.inl ⟨by rfl, ?hyD8⟩) (by assumption) ?restD8
            case hyD8 => (intro w hSw; (try dsimp only at hSw); go_simp <;> with_reducible rfl)
            try simp only [Act.put, List.setIfInBounds_toArray, List.set_cons_zero, List.set_cons_succ]
            refine wpAnyH_take (i := 9) (v := ?vD9) (take_list rfl) (by kernel_rfl) (by kernel_rfl) (by kernel_rfl) (fun _ _ _ h => h) (Or.inl ⟨by rfl, ?hyD9⟩) (by assumption) ?restD9
            case hyD9 => (intro w hSw; (try dsimp only at hSw); go_simp <;> with_reducible rfl)
            try simp only [Act.put, List.setIfInBounds_toArray, List.set_cons_zero, List.set_cons_succ]
            refine wpAnyH_ready (rs := [6]) (by kernel_rfl) (by simp) ?_
            refine AllReadyH.cons rfl (fun K hK => ?_) AllReadyH.nil
            go_simp
            go_wp2_with (go_at_call 9; refine (mDelete w.heap.size p b S key _ (D0.out.m.below below_drew1) HKL.out).mono ?_; rintro e w5 ⟨rfl, hm5, hg5⟩; have M5 := Lib.hid hm5; have R5 := Lib.hid ((D0.out.r.below below_drew1).grown_b (D0.out.m.below below_drew1) hg5); have B5 := Lib.hid ((B4.out.trans below_drew1).grown hg5 (by exact hz4) (fun y hy => by have h : b = y := Option.some.inj hy; omega)); have hz5 := B5.out.size; have X5 := Lib.hid ((X4.out.below (below_drew1 (B := w4.heap.size)) hx4).grown hg5 (fun e => hxb (Option.some.inj e).symm)); have KX := x_cells X5.out; clear hm5 hg5)
            clear hHeld
            refine hK.out _ _ KX (fun hHeld => ?_)
            clear hK K
            refine wpAnyH_ready (rs := [10]) (by kernel_rfl) (by simp) ?_
            refine AllReadyH.cons rfl (fun K hK => ?_) AllReadyH.nil
            go_simp
            go_wp2_with (go_at_call 10; refine (rDelete w.heap.size r R key _ R5.out hz5 (by omega) D0.out.rising).mono ?_; rw [(del_perm D0.out.perm key).1]; rintro e w6 ⟨rfl, ⟨R', hR6, hpR, hri⟩, hg6⟩; have D6 := Lib.hid (Both.mk (M5.out.grown_r R5.out hg6) hR6 (hpR.trans (del_perm D0.out.perm key).2) hri); have B6 := Lib.hid (B5.out.grown hg6 hz5 (fun y hy => by have h : r = y := Option.some.inj hy; omega)); have X6 := Lib.hid (X5.out.grown hg6 (fun e => hxr (Option.some.inj e).symm)); have KX := x_cells X6.out; clear hR6 hpR hri hg6)
            clear hHeld
            refine hK.out _ _ KX (fun hHeld => ?_)
            clear hK K
            refine wpAnyH_take (i := 11) (v := ?vD11) (take_list rfl) (by kernel_rfl) (by kernel_rfl) (by kernel_rfl) (fun _ _ _ h => h) (Or.inl ⟨by rfl, ?hyD11⟩) (by assumption) ?restD11
            case hyD11 => (intro w hSw; (try dsimp only at hSw); go_simp <;> with_reducible rfl)
            try simp only [Act.put, List.setIfInBounds_toArray, List.set_cons_zero, List.set_cons_succ]
            refine wpAnyH_take (i := 12) (v := ?vD12) (take_list rfl) (by kernel_rfl) (by kernel_rfl) (by kernel_rfl) (fun _ _ _ h => h) (Or.inl ⟨by rfl, ?hyD12⟩) (by assumption) ?restD12
            case hyD12 => (intro w hSw; (try dsimp only at hSw); go_simp <;> with_reducible rfl)
            try simp only [Act.put, List.setIfInBounds_toArray, List.set_cons_zero, List.set_cons_succ]
            refine wpAnyH_take (i := 13) (v := ?vD13) (take_list rfl) (by kernel_rfl) (by kernel_rfl) (by kernel_rfl) (fun _ _ _ h => h) (Or.inl ⟨by rfl, ?hyD13⟩) (by assumption) ?restD13
            case hyD13 => (intro w hSw; (try dsimp only at hSw); go_simp <;> with_reducible rfl)
            try simp only [Act.put, List.setIfInBounds_toArray, List.set_cons_zero, List.set_cons_succ]
            refine wpAnyH_take (i := 14) (v := ?vD14) (take_list rfl) (by kernel_rfl) (by kernel_rfl) (by kernel_rfl) (fun _ _ _ h => h) (Or.inl ⟨by rfl, ?hyD14⟩) (by assumption) ?restD14
            case hyD14 => (intro w hSw; (try dsimp only at hSw); go_simp <;> with_reducible rfl)
            try simp only [Act.put, List.setIfInBounds_toArray, List.set_cons_zero, List.set_cons_succ]
            refine wpAnyH_take (i := 15) (v := ?vD15) (take_list rfl) (by kernel_rfl) (by kernel_rfl) (by kernel_rfl) (fun _ _ _ h => h) (Or.inl ⟨by rfl, ?hyD15⟩) (by assumption) ?restD15
            case hyD15 => (intro w hSw; (try dsimp only at hSw); go_simp <;> with_reducible rfl)
            try simp only [Act.put, List.setIfInBounds_toArray, List.set_cons_zero, List.set_cons_succ]
            refine wpAnyH_take (i := 16) (v := ?vD16) (take_list rfl) (by kernel_rfl) (by kernel_rfl) (by kernel_rfl) (fun _ _ _ h => h) (Or.inl ⟨by rfl, ?hyD16⟩) (by assumption) ?restD16
            case hyD16 => (intro w hSw; (try dsimp only at hSw); go_simp <;> with_reducible rfl)
            try simp only [Act.put, List.setIfInBounds_toArray, List.set_cons_zero, List.set_cons_succ]
            refine wpAnyH_take (i := 17) (v := ?vD17) (take_list rfl) (by kernel_rfl) (by kernel_rfl) (by kernel_rfl) (fun _ _ _ h => h) (Or.inl ⟨by rfl, ?hyD17⟩) (by assumption) ?restD17
            case hyD17 => (intro w hSw; (try dsimp only at hSw); go_simp <;> with_reducible rfl)
            try simp only [Act.put, List.setIfInBounds_toArray, List.set_cons_zero, List.set_cons_succ]
            refine wpAnyH_take (i := 18) (v := undef) (take_list rfl) (by kernel_rfl) (by kernel_rfl) (by kernel_rfl) (fun _ _ _ h => h) (Or.inr ⟨by rfl, rfl⟩) (by assumption) ?_
            try simp only [Act.put, List.setIfInBounds_toArray, List.set_cons_zero, List.set_cons_succ]
            refine wpAnyH_take (i := 19) (v := undef) (take_list rfl) (by kernel_rfl) (by kernel_rfl) (by kernel_rfl) (fun _ _ _ h => h) (Or.inr ⟨by rfl, rfl⟩) (by assumption) ?_
            try simp only [Act.put, List.setIfInBounds_toArray, List.set_cons_zero, List.set_cons_succ]
            refine wpAnyH_take (i := 20) (v := undef) (take_list rfl) (by kernel_rfl) (by kernel_rfl) (by kernel_rfl) (fun _ _ _ h => h) (Or.inr ⟨by rfl, rfl⟩) (by assumption) ?_
            try simp only [Act.put, List.setIfInBounds_toArray, List.set_cons_zero, List.set_cons_succ]
            refine wpAnyH_take (i := 21) (v := undef) (take_list rfl) (by kernel_rfl) (by kernel_rfl) (by kernel_rfl) (fun _ _ _ h => h) (Or.inr ⟨by rfl, rfl⟩) (by assumption) ?_
            try simp only [Act.put, List.setIfInBounds_toArray, List.set_cons_zero, List.set_cons_succ]
            refine wpAnyH_take (i := 22) (v := undef) (take_list rfl) (by kernel_rfl) (by kernel_rfl) (by kernel_rfl) (fun _ _ _ h => h) (Or.inr ⟨by rfl, rfl⟩) (by assumption) ?_
            try simp only [Act.put, List.setIfInBounds_toArray, List.set_cons_zero, List.set_cons_succ]
            refine wpAnyH_take (i := 23) (v := undef) (take_list rfl) (by kernel_rfl) (by kernel_rfl) (by kernel_rfl) (fun _ _ _ h => h) (Or.inr ⟨by rfl, rfl⟩) (by assumption) ?_
            try simp only [Act.put, List.setIfInBounds_toArray, List.set_cons_zero, List.set_cons_succ]
            refine wpAnyH_take (i := 24) (v := undef) (take_list rfl) (by kernel_rfl) (by kernel_rfl) (by kernel_rfl) (fun _ _ _ h => h) (Or.inr ⟨by rfl, rfl⟩) (by assumption) ?_
            try simp only [Act.put, List.setIfInBounds_toArray, List.set_cons_zero, List.set_cons_succ]
            refine wpAnyH_take (i := 25) (v := undef) (take_list rfl) (by kernel_rfl) (by kernel_rfl) (by kernel_rfl) (fun _ _ _ h => h) (Or.inr ⟨by rfl, rfl⟩) (by assumption) ?_
            try simp only [Act.put, List.setIfInBounds_toArray, List.set_cons_zero, List.set_cons_succ]
            refine wpAnyH_take (i := 26) (v := undef) (take_list rfl) (by kernel_rfl) (by kernel_rfl) (by kernel_rfl) (fun _ _ _ h => h) (Or.inr ⟨by rfl, rfl⟩) (by assumption) ?_
            try simp only [Act.put, List.setIfInBounds_toArray, List.set_cons_zero, List.set_cons_succ]
            refine wpAnyH_take (i := 27) (v := undef) (take_list rfl) (by kernel_rfl) (by kernel_rfl) (by kernel_rfl) (fun _ _ _ h => h) (Or.inr ⟨by rfl, rfl⟩) (by assumption) ?_
            try simp only [Act.put, List.setIfInBounds_toArray, List.set_cons_zero, List.set_cons_succ]
            refine wpAnyH_take (i := 28) (v := undef) (take_list rfl) (by kernel_rfl) (by kernel_rfl) (by kernel_rfl) (fun _ _ _ h => h) (Or.inr ⟨by rfl, rfl⟩) (by assumption) ?_
            try simp only [Act.put, List.setIfInBounds_toArray, List.set_cons_zero, List.set_cons_succ]
            refine wpAnyH_take (i := 29) (v := undef) (take_list rfl) (by kernel_rfl) (by kernel_rfl) (by kernel_rfl) (fun _ _ _ h => h) (Or.inr ⟨by rfl, rfl⟩) (by assumption) ?_
            try simp only [Act.put, List.setIfInBounds_toArray, List.set_cons_zero, List.set_cons_succ]
            refine wpAnyH_take (i := 30) (v := undef) (take_list rfl) (by kernel_rfl) (by kernel_rfl) (by kernel_rfl) (fun _ _ _ h => h) (Or.inr ⟨by rfl, rfl⟩) (by assumption) ?_
            try simp only [Act.put, List.setIfInBounds_toArray, List.set_cons_zero, List.set_cons_succ]
            refine wpAnyH_take (i := 31) (v := ?vD31) (take_list rfl) (by kernel_rfl) (by kernel_rfl) (by kernel_rfl) (fun _ _ _ h => h) (Or.inl ⟨by rfl, ?hyD31⟩) (by assumption) ?restD31
            case hyD31 => (intro w hSw; (try dsimp only at hSw); go_simp <;> with_reducible rfl)
            try simp only [Act.put, List.setIfInBounds_toArray, List.set_cons_zero, List.set_cons_succ]
            refine wpAnyH_take (i := 32) (v := ?vD32) (take_list rfl) (by kernel_rfl) (by kernel_rfl) (by kernel_rfl) (fun _ _ _ h => h) (Or.inl ⟨by rfl, ?hyD32⟩) (by assumption) ?restD32
            case hyD32 => (intro w hSw; (try dsimp only at hSw); go_simp <;> with_reducible rfl)
            try simp only [Act.put, List.setIfInBounds_toArray, List.set_cons_zero, List.set_cons_succ]
            refine wpAnyH_done (by kernel_rfl) ?_ _
            all_goals
              have hS6 : (delM S key).length ≤ S.length + 1 := Nat.le_trans delM_len (by omega)
              generalize delM S key = S6 at *
              generalize delE S key = r0 at *
              have hz6 := B6.out.size
              go_wp2_with (first
                | (go_at_call 14; refine (mKeys w.heap.size p b S6 _ D6.out.m (by omega)).mono ?_; rintro e w7 ⟨B7, rfl, hst7, hb7⟩; have ST7 := Lib.hid hst7; have D7 := Lib.hid (D6.out.below hb7); have B77 := Lib.hid (B6.out.trans (hb7.mono hz6)); have hz7 := B77.out.size; clear hst7 hb7)
                | (go_at_call 15; refine (rKeys2 D7.out (by omega)).mono ?_; rintro e w8 ⟨B8, c8, rfl, hst8, hb8⟩; have ST8 := Lib.hid hst8; have ST7' := Lib.hid (ST7.out.below hb8); have D8 := Lib.hid (D7.out.below hb8); have B88 := Lib.hid (B77.out.trans (hb8.mono hz7)); have hz8 := B88.out.size; clear hst8 hb8)
                | (go_at_call 13; refine (same_strs B7 B8 S6.length S6.length c8 (sortM S6) _ ST7'.out ST8.out (by omega)).mono ?_; rintro e w9 ⟨rfl, N9, rfl⟩; have D9 := Lib.hid (D8.out.below (below_drewN (Below.refl _ _) N9)); have B99 := Lib.hid (below_drewN B88.out N9); have hz9 := B99.out.size)
                | (go_at_call 16; refine (mText w.heap.size p b S6 _ D9.out.m (by omega)).mono ?_; rintro e w10 ⟨rfl, hb10⟩; have D10 := Lib.hid (D9.out.below hb10); have B10 := Lib.hid (B99.out.trans (hb10.mono hz9)); have hz10 := B10.out.size; clear hb10)
                | (go_at_call 17; refine (rText2 D10.out (by omega)).mono ?_; rintro e w11 ⟨rfl, hb11⟩; have D11 := Lib.hid (D10.out.below hb11); have B11 := Lib.hid (B10.out.trans (hb11.mono hz10)); clear hb11))
              go_roundw
              case rel => exact ⟨k + 1, S6, R', h1, by omega, by go_num, by omega, D11.out, B11.out⟩
              case measure => simp [intOf]; omega
          | false =>
            refine wp_region_held_drew (S := (fun w' => w'.cell? ⟨xb, 0, none⟩ = some (.bool false) ∧ w'.cell? ⟨xb, 1, none⟩ = some (encStr key) ∧ w'.cell? ⟨xb, 2, none⟩ = some (.slice D m d))) (by kernel_rfl) ⟨x0, x1, x2⟩ (fun hHeld => ?_)
            refine wpAnyH_take (i := 0) (v := ?vP0) (take_list rfl) (by kernel_rfl) (by kernel_rfl) (by kernel_rfl) (fun _ _ _ h => h) (Or.inl ⟨by rfl, ?hyP0⟩) (by assumption) ?restP0
            case hyP0 => (intro w hSw; (try dsimp only at hSw); go_simp <;> with_reducible rfl)
            try simp only [Act.put, List.setIfInBounds_toArray, List.set_cons_zero, List.set_cons_succ]
            refine wpAnyH_take (i := 1) (v := ?vP1) (take_list rfl) (by kernel_rfl) (by kernel_rfl) (by kernel_rfl) (fun _ _ _ h => h) (Or.inl ⟨by rfl, ?hyP1⟩) (by assumption) ?restP1
            case hyP1 => (intro w hSw; (try dsimp only at hSw); go_simp <;> with_reducible rfl)
            try simp only [Act.put, List.setIfInBounds_toArray, List.set_cons_zero, List.set_cons_succ]
            refine wpAnyH_take (i := 2) (v := ?vP2) (take_list rfl) (by kernel_rfl) (by kernel_rfl) (by kernel_rfl) (fun _ _ _ h => h) (Or.inl ⟨by rfl, ?hyP2⟩) (by assumption) ?restP2
            case hyP2 => (intro w hSw; (try dsimp only at hSw); go_simp <;> with_reducible rfl)
            try simp only [Act.put, List.setIfInBounds_toArray, List.set_cons_zero, List.set_cons_succ]
            refine wpAnyH_take (i := 3) (v := undef) (take_list rfl) (by kernel_rfl) (by kernel_rfl) (by kernel_rfl) (fun _ _ _ h => h) (Or.inr ⟨by rfl, rfl⟩) (by assumption) ?_
            try simp only [Act.put, List.setIfInBounds_toArray, List.set_cons_zero, List.set_cons_succ]
            refine wpAnyH_take (i := 4) (v := undef) (take_list rfl) (by kernel_rfl) (by kernel_rfl) (by kernel_rfl) (fun _ _ _ h => h) (Or.inr ⟨by rfl, rfl⟩) (by assumption) ?_
            try simp only [Act.put, List.setIfInBounds_toArray, List.set_cons_zero, List.set_cons_succ]
            refine wpAnyH_take (i := 5) (v := undef) (take_list rfl) (by kernel_rfl) (by kernel_rfl) (by kernel_rfl) (fun _ _ _ h => h) (Or.inr ⟨by rfl, rfl⟩) (by assumption) ?_
            try simp only [Act.put, List.setIfInBounds_toArray, List.set_cons_zero, List.set_cons_succ]
            refine wpAnyH_take (i := 6) (v := undef) (take_list rfl) (by kernel_rfl) (by kernel_rfl) (by kernel_rfl) (fun _ _ _ h => h) (Or.inr ⟨by rfl, rfl⟩) (by assumption) ?_
            try simp only [Act.put, List.setIfInBounds_toArray, List.set_cons_zero, List.set_cons_succ]
            refine wpAnyH_take (i := 7) (v := undef) (take_list rfl) (by kernel_rfl) (by kernel_rfl) (by kernel_rfl) (fun _ _ _ h => h) (Or.inr ⟨by rfl, rfl⟩) (by assumption) ?_
            try simp only [Act.put, List.setIfInBounds_toArray, List.set_cons_zero, List.set_cons_succ]
            refine wpAnyH_take (i := 8) (v := undef) (take_list rfl) (by kernel_rfl) (by kernel_rfl) (by kernel_rfl) (fun _ _ _ h => h) (Or.inr ⟨by rfl, rfl⟩) (by assumption) ?_
            try simp only [Act.put, List.setIfInBounds_toArray, List.set_cons_zero, List.set_cons_succ]
            refine wpAnyH_take (i := 9) (v := undef) (take_list rfl) (by kernel_rfl) (by kernel_rfl) (by kernel_rfl) (fun _ _ _ h => h) (Or.inr ⟨by rfl, rfl⟩) (by assumption) ?_
            try simp only [Act.put, List.setIfInBounds_toArray, List.set_cons_zero, List.set_cons_succ]
            refine wpAnyH_take (i := 10) (v := undef) (take_list rfl) (by kernel_rfl) (by kernel_rfl) (by kernel_rfl) (fun _ _ _ h => h) (Or.inr ⟨by rfl, rfl⟩) (by assumption) ?_
            try simp only [Act.put, List.setIfInBounds_toArray, List.set_cons_zero, List.set_cons_succ]
            refine wpAnyH_take (i := 11) (v := undef) (take_list rfl) (by kernel_rfl) (by kernel_rfl) (by kernel_rfl) (fun _ _ _ h => h) (Or.inr ⟨by rfl, rfl⟩) (by assumption) ?_
            try simp only [Act.put, List.setIfInBounds_toArray, List.set_cons_zero, List.set_cons_succ]
            refine wpAnyH_take (i := 12) (v := ?vP12) (take_list rfl) (by kernel_rfl) (by kernel_rfl) (by kernel_rfl) (fun _ _ _ h => h) (Or.inl ⟨by rfl, ?hyP12⟩) (by assumption) ?restP12
            case hyP12 => (intro w hSw; (try dsimp only at hSw); go_simp <;> with_reducible rfl)
            try simp only [Act.put, List.setIfInBounds_toArray, List.set_cons_zero, List.set_cons_succ]
            refine wpAnyH_take (i := 13) (v := ?vP13) (take_list rfl) (by kernel_rfl) (by kernel_rfl) (by kernel_rfl) (fun _ _ _ h => h) (Or.inl ⟨by rfl, ?hyP13⟩) (by assumption) ?restP13
            case hyP13 => (intro w hSw; (try dsimp only at hSw); go_simp <;> with_reducible rfl)
            try simp only [Act.put, List.setIfInBounds_toArray, List.set_cons_zero, List.set_cons_succ]
            refine wpAnyH_take (i := 14) (v := ?vP14) (take_list rfl) (by kernel_rfl) (by kernel_rfl) (by kernel_rfl) (fun _ _ _ h => h) (Or.inl ⟨by rfl, ?hyP14⟩) (by assumption) ?restP14
            case hyP14 => (intro w hSw; (try dsimp only at hSw); go_simp <;> with_reducible rfl)
            try simp only [Act.put, List.setIfInBounds_toArray, List.set_cons_zero, List.set_cons_succ]
            refine wpAnyH_take (i := 15) (v := ?vP15) (take_list rfl) (by kernel_rfl) (by kernel_rfl) (by kernel_rfl) (fun _ _ _ h => h) (Or.inl ⟨by rfl, ?hyP15⟩) (by assumption) ?restP15
            case hyP15 => (intro w hSw; (try dsimp only at hSw); go_simp <;> with_reducible rfl)
            try simp only [Act.put, List.setIfInBounds_toArray, List.set_cons_zero, List.set_cons_succ]
            refine wpAnyH_take (i := 16) (v := ?vP16) (take_list rfl) (by kernel_rfl) (by kernel_rfl) (by kernel_rfl) (fun _ _ _ h => h) (Or.inl ⟨by rfl, ?hyP16⟩) (by assumption) ?restP16
            case hyP16 => (intro w hSw; (try dsimp only at hSw); go_simp <;> with_reducible rfl)
            try simp only [Act.put, List.setIfInBounds_toArray, List.set_cons_zero, List.set_cons_succ]
            refine wpAnyH_take (i := 17) (v := ?vP17) (take_list rfl) (by kernel_rfl) (by kernel_rfl) (by kernel_rfl) (fun _ _ _ h => h) (Or.inl ⟨by rfl, ?hyP17⟩) (by assumption) ?restP17
            case hyP17 => (intro w hSw; (try dsimp only at hSw); go_simp <;> with_reducible rfl)
            try simp only [Act.put, List.setIfInBounds_toArray, List.set_cons_zero, List.set_cons_succ]
            refine wpAnyH_take (i := 18) (v := ?vP18) (take_list rfl) (by kernel_rfl) (by kernel_rfl) (by kernel_rfl) (fun _ _ _ h => h) (Or.inl ⟨by rfl, ?hyP18⟩) (by assumption) ?restP18
            case hyP18 => (intro w hSw; (try dsimp only at hSw); go_simp <;> with_reducible rfl)
            try simp only [Act.put, List.setIfInBounds_toArray, List.set_cons_zero, List.set_cons_succ]
            refine wpAnyH_take (i := 19) (v := ?vP19) (take_list rfl) (by kernel_rfl) (by kernel_rfl) (by kernel_rfl) (fun _ _ _ h => h) (Or.inl ⟨by rfl, ?hyP19⟩) (by assumption) ?restP19
            case hyP19 => (intro w hSw; (try dsimp only at hSw); go_simp <;> with_reducible rfl)
            try simp only [Act.put, List.setIfInBounds_toArray, List.set_cons_zero, List.set_cons_succ]
            refine wpAnyH_take (i := 20) (v := ?vP20) (take_list rfl) (by kernel_rfl) (by kernel_rfl) (by kernel_rfl) (fun _ _ _ h => h) (Or.inl ⟨by rfl, ?hyP20⟩) (by assumption) ?restP20
            case hyP20 => (intro w hSw; (try dsimp only at hSw); go_simp <;> with_reducible rfl)
            try simp only [Act.put, List.setIfInBounds_toArray, List.set_cons_zero, List.set_cons_succ]
            refine wpAnyH_take (i := 21) (v := ?vP21) (take_list rfl) (by kernel_rfl) (by kernel_rfl) (by kernel_rfl) (fun _ _ _ h => h) (Or.inl ⟨by rfl, ?hyP21⟩) (by assumption) ?restP21
            case hyP21 => (intro w hSw; (try dsimp only at hSw); go_simp <;> with_reducible rfl)
            try simp only [Act.put, List.setIfInBounds_toArray, List.set_cons_zero, List.set_cons_succ]
            refine wpAnyH_take (i := 22) (v := ?vP22) (take_list rfl) (by kernel_rfl) (by kernel_rfl) (by kernel_rfl) (fun _ _ _ h => h) (Or.inl ⟨by rfl, ?hyP22⟩) (by assumption) ?restP22
            case hyP22 => (intro w hSw; (try dsimp only at hSw); go_simp <;> with_reducible rfl)
            try simp only [Act.put, List.setIfInBounds_toArray, List.set_cons_zero, List.set_cons_succ]
            refine wpAnyH_take (i := 24) (v := ?vP24) (take_list rfl) (by kernel_rfl) (by kernel_rfl) (by kernel_rfl) (fun _ _ _ h => h) (Or.inl ⟨by rfl, ?hyP24⟩) (by assumption) ?restP24
            case hyP24 => (intro w hSw; (try dsimp only at hSw); go_simp <;> with_reducible rfl)
            try simp only [Act.put, List.setIfInBounds_toArray, List.set_cons_zero, List.set_cons_succ]
            refine wpAnyH_take (i := 25) (v := ?vP25) (take_list rfl) (by kernel_rfl) (by kernel_rfl) (by kernel_rfl) (fun _ _ _ h => h) (Or.inl ⟨by rfl, ?hyP25⟩) (by assumption) ?restP25
            case hyP25 => (intro w hSw; (try dsimp only at hSw); go_simp <;> with_reducible rfl)
            try simp only [Act.put, List.setIfInBounds_toArray, List.set_cons_zero, List.set_cons_succ]
            refine wpAnyH_take (i := 26) (v := ?vP26) (take_list rfl) (by kernel_rfl) (by kernel_rfl) (by kernel_rfl) (fun _ _ _ h => h) (Or.inl ⟨by rfl, ?hyP26⟩) (by assumption) ?restP26
            case hyP26 => (intro w hSw; (try dsimp only at hSw); go_simp <;> with_reducible rfl)
            try simp only [Act.put, List.setIfInBounds_toArray, List.set_cons_zero, List.set_cons_succ]
            refine wpAnyH_take (i := 27) (v := ?vP27) (take_list rfl) (by kernel_rfl) (by kernel_rfl) (by kernel_rfl) (fun _ _ _ h => h) (Or.inl ⟨by rfl, ?hyP27⟩) (by assumption) ?restP27
            case hyP27 => (intro w hSw; (try dsimp only at hSw); go_simp <;> with_reducible rfl)
            try simp only [Act.put, List.setIfInBounds_toArray, List.set_cons_zero, List.set_cons_succ]
            refine wpAnyH_take (i := 28) (v := ?vP28) (take_list rfl) (by kernel_rfl) (by kernel_rfl) (by kernel_rfl) (fun _ _ _ h => h) (Or.inl ⟨by rfl, ?hyP28⟩) (by assumption) ?restP28
            case hyP28 => (intro w hSw; (try dsimp only at hSw); go_simp <;> with_reducible rfl)
            try simp only [Act.put, List.setIfInBounds_toArray, List.set_cons_zero, List.set_cons_succ]
            refine wpAnyH_ready (rs := [23]) (by kernel_rfl) (by simp) ?_
            refine AllReadyH.cons rfl (fun K hK => ?_) AllReadyH.nil
            go_simp
            go_wp2_with (go_at_call 11; refine (mPut w.heap.size p b S key D m d data _ (D0.out.m.below below_drew1) hz4 (by omega) HKL.out HF.out (HBY.out.below (B4.out.trans below_drew1))).mono ?_; rintro e w5 ⟨rfl, hm5, hg5⟩; have M5 := Lib.hid hm5; have R5 := Lib.hid ((D0.out.r.below below_drew1).grown_b (D0.out.m.below below_drew1) hg5); have B5 := Lib.hid ((B4.out.trans below_drew1).grown hg5 (by exact hz4) (fun y hy => by have h : b = y := Option.some.inj hy; omega)); have hz5 := B5.out.size; have X5 := Lib.hid ((X4.out.below (below_drew1 (B := w4.heap.size)) hx4).grown hg5 (fun e => hxb (Option.some.inj e).symm)); have KX := x_cells X5.out; clear hm5 hg5)
            clear hHeld
            refine hK.out _ _ KX (fun hHeld => ?_)
            clear hK K
            refine wpAnyH_ready (rs := [29]) (by kernel_rfl) (by simp) ?_
            refine AllReadyH.cons rfl (fun K hK => ?_) AllReadyH.nil
            go_simp
            go_wp2_with (go_at_call 12; refine (rPut w.heap.size r R key D m d data _ R5.out hz5 (by omega) D0.out.rising HKL.out (HBY.out.below B5.out)).mono ?_; rw [(put_perm D0.out.perm key data).1]; rintro e w6 ⟨rfl, ⟨R', hR6, hpR, hri⟩, hg6⟩; have D6 := Lib.hid (Both.mk (M5.out.grown_r R5.out hg6) hR6 (hpR.trans (put_perm D0.out.perm key data).2) hri); have B6 := Lib.hid (B5.out.grown hg6 hz5 (fun y hy => by have h : r = y := Option.some.inj hy; omega)); have X6 := Lib.hid (X5.out.grown hg6 (fun e => hxr (Option.some.inj e).symm)); have KX := x_cells X6.out; clear hR6 hpR hri hg6)
            clear hHeld
            refine hK.out _ _ KX (fun hHeld => ?_)
            clear hK K
            refine wpAnyH_take (i := 30) (v := ?vP30) (take_list rfl) (by kernel_rfl) (by kernel_rfl) (by kernel_rfl) (fun _ _ _ h => h) (Or.inl ⟨by rfl, ?hyP30⟩) (by assumption) ?restP30
            case hyP30 => (intro w hSw; (try dsimp only at hSw); go_simp <;> with_reducible rfl)
            try simp only [Act.put, List.setIfInBounds_toArray, List.set_cons_zero, List.set_cons_succ]
            refine wpAnyH_take (i := 31) (v := ?vP31) (take_list rfl) (by kernel_rfl) (by kernel_rfl) (by kernel_rfl) (fun _ _ _ h => h) (Or.inl ⟨by rfl, ?hyP31⟩) (by assumption) ?restP31
            case hyP31 => (intro w hSw; (try dsimp only at hSw); go_simp <;> with_reducible rfl)
            try simp only [Act.put, List.setIfInBounds_toArray, List.set_cons_zero, List.set_cons_succ]
            refine wpAnyH_take (i := 32) (v := ?vP32) (take_list rfl) (by kernel_rfl) (by kernel_rfl) (by kernel_rfl) (fun _ _ _ h => h) (Or.inl ⟨by rfl, ?hyP32⟩) (by assumption) ?restP32
            case hyP32 => (intro w hSw; (try dsimp only at hSw); go_simp <;> with_reducible rfl)
            try simp only [Act.put, List.setIfInBounds_toArray, List.set_cons_zero, List.set_cons_succ]
            refine wpAnyH_done (by kernel_rfl) ?_ _
            all_goals
              have hS6 : (putM S key data).length ≤ S.length + 1 := putM_len _ _ _
              generalize putM S key data = S6 at *
              generalize putE S key data = r0 at *
              have hz6 := B6.out.size
              go_wp2_with (first
                | (go_at_call 14; refine (mKeys w.heap.size p b S6 _ D6.out.m (by omega)).mono ?_; rintro e w7 ⟨B7, rfl, hst7, hb7⟩; have ST7 := Lib.hid hst7; have D7 := Lib.hid (D6.out.below hb7); have B77 := Lib.hid (B6.out.trans (hb7.mono hz6)); have hz7 := B77.out.size; clear hst7 hb7)
                | (go_at_call 15; refine (rKeys2 D7.out (by omega)).mono ?_; rintro e w8 ⟨B8, c8, rfl, hst8, hb8⟩; have ST8 := Lib.hid hst8; have ST7' := Lib.hid (ST7.out.below hb8); have D8 := Lib.hid (D7.out.below hb8); have B88 := Lib.hid (B77.out.trans (hb8.mono hz7)); have hz8 := B88.out.size; clear hst8 hb8)
                | (go_at_call 13; refine (same_strs B7 B8 S6.length S6.length c8 (sortM S6) _ ST7'.out ST8.out (by omega)).mono ?_; rintro e w9 ⟨rfl, N9, rfl⟩; have D9 := Lib.hid (D8.out.below (below_drewN (Below.refl _ _) N9)); have B99 := Lib.hid (below_drewN B88.out N9); have hz9 := B99.out.size)
                | (go_at_call 16; refine (mText w.heap.size p b S6 _ D9.out.m (by omega)).mono ?_; rintro e w10 ⟨rfl, hb10⟩; have D10 := Lib.hid (D9.out.below hb10); have B10 := Lib.hid (B99.out.trans (hb10.mono hz9)); have hz10 := B10.out.size; clear hb10)
                | (go_at_call 17; refine (rText2 D10.out (by omega)).mono ?_; rintro e w11 ⟨rfl, hb11⟩; have D11 := Lib.hid (D10.out.below hb11); have B11 := Lib.hid (B10.out.trans (hb11.mono hz10)); clear hb11))
              go_roundw
              case rel => exact ⟨k + 1, S6, R', h1, by omega, by go_num, by omega, D11.out, B11.out⟩
              case measure => simp [intOf]; omega
        · have d2 : decide ((k : Int) < 60) = false := by simp; omega
          go_wp2_with fail
          go_meet
          exact ⟨S, R, by omega, DO.out, BL0.out⟩
      · have d1 : decide (k < n) = false := by simpa using h1
        go_wp2_with fail
        go_meet
        exact ⟨S, R, by omega, DO.out, BL0.out⟩
  case rest =>
    clear D2 B2
    obtain ⟨S, R, hS, hd, hbl⟩ := hcut
    have DD := Lib.hid hd
    have BB := Lib.hid hbl
    have hz := hbl.size
    clear hd hbl
    go_wp2_with (first
      | (go_at_call 18; refine (mGet w.heap.size p b S key0 _ DD.out.m HK0.out).mono ?_; rintro e w8 ⟨B8, n8, rfl, hg8, _, _, hb8⟩; have G8 := Lib.hid hg8; have D8 := Lib.hid (DD.out.below hb8); have BB8 := Lib.hid (BB.out.trans (hb8.mono hz)); have hz8 := BB8.out.size; clear hg8 hb8)
      | (go_at_call 19; refine (rGet2 D8.out (by omega) key0).mono ?_; rintro e w9 ⟨rfl, N9, rfl⟩; have BB9 := Lib.hid (below_drewN BB8.out N9); have hz9 := BB9.out.size; have G9 := Lib.hid (G8.out.below (below_drewN (Below.refl _ _) N9)))
      | (go_at_call 20; refine (awake22 _).mono ?_; rintro e w10 ⟨rfl, hb10⟩; have hcv := arg_string (c := n8) (G9.out.below hb10); have BB10 := Lib.hid (BB9.out.trans (hb10.mono hz9)); clear hb10))
    go_ret
    exact ⟨rfl, BB10.out⟩
end Go.Proofs.Ytgkgieemdjbhpaa
