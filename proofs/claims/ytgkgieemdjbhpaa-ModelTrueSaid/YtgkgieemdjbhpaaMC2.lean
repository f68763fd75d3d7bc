/- The law ModelTrue returns true on values. No condition beyond those that each theorem states. -/
import Derived.Test.YtgkgieemdjbhpaaMC1
import Derived.Deep.QuietTactic
namespace Go.Proofs.Ytgkgieemdjbhpaa
open Go.RowKit Go.Maps

theorem wrap_small {p : Nat} (h : p ≤ 1000000) : IntKind.i64.wrap (p : Int) = (p : Int) := by
  unfold IntKind.wrap
  simp [IntKind.bits, IntKind.signed]
  omega
theorem hasM_del_same (S : MV) (k : List UInt8) : hasM (delM S k) k = false := by rw [hasM_del]; simp
set_option maxRecDepth 100000 in
set_option maxHeartbeats 8000000 in
theorem modelTrue_walk (A : Option Addr) (n c : Nat) (f : Nat → ActV) (w : World) (hA : ActsIn w A n f) (hn : n ≤ c) (hc : c ≤ maxLen) :
    Calls Try.prog 4 #[.slice A n c] w fun e w' => e = .returned (.bool true) ∧ Below w.heap.size w w' := by
  have HA := Lib.hid hA
  have hn2 : n ≤ 9223372036854775807 := by simp only [maxLen] at hc; omega
  clear hA hc
  go_enter Try.func4, Try.ntmps4
  go_upto_block 0 with (go_at_call 8; refine (mNew _).mono ?_; rintro e w1 ⟨p, b, rfl, hm1, hb1⟩; have M1 := Lib.hid hm1; have BL1 := Lib.hid hb1; clear hm1 hb1)
  go_cut [4] (fun s4 wx => ∃ S, S.length ≤ 40 ∧ MAt w.heap.size wx p b S ∧ Below w.heap.size w wx)
  case first =>
    go_wp2_with fail
    go_loopw [4] (fun i wx => ∃ (k : Nat) (S : MV), k ≤ n ∧ k ≤ 40 ∧ i = .int .i64 k ∧ S.length ≤ k ∧ MAt w.heap.size wx p b S ∧ Below w.heap.size w wx) (fun i _ => n - (intOf i).toNat)
    case atStart => exact ⟨0, [], Nat.zero_le _, by omega, rfl, Nat.le_refl _, M1.out, BL1.out⟩
    case round =>
      clear M1 BL1
      obtain ⟨k, S, hk, hk40, rfl, hSk, hm, hbl⟩ := hrel
      obtain ⟨wo, rfl⟩ : ∃ wo : World, wo = wr := ⟨_, rfl⟩
      have M0 := Lib.hid hm
      have BL0 := Lib.hid hbl
      have hz0 := hbl.size
      have hlt0 := hm.lt
      have hge0 := hm.ge
      clear hm hbl
      by_cases h1 : k < n
      · have d1 : decide (k < n) = true := by simpa using h1
        by_cases h2 : k < 40
        · have d2 : decide ((k : Int) < 40) = true := by simp; omega
          obtain ⟨ba, off, rfl, hba, hacts⟩ := HA.out.resolve_left (by omega)
          have hact := hacts k h1
          generalize f k = v at hact
          obtain ⟨g, key, D, m, d, data⟩ := v
          obtain ⟨a0, a1, a2, hkl, hfm, hby⟩ := hact
          have k0 : wo.cell? ⟨ba, off + k * 3, none⟩ = some (.bool g) := (BL0.out.cell (p := ⟨ba, off + k * 3, none⟩) hba).trans a0
          have k1 : wo.cell? ⟨ba, off + k * 3 + 1, none⟩ = some (encStr key) := (BL0.out.cell (p := ⟨ba, off + k * 3 + 1, none⟩) hba).trans a1
          have k2 : wo.cell? ⟨ba, off + k * 3 + 2, none⟩ = some (.slice D m d) := (BL0.out.cell (p := ⟨ba, off + k * 3 + 2, none⟩) hba).trans a2
          have HF := Lib.hid (show Form D m d from hfm)
          have HBY := Lib.hid (show BytesIn w D m data from hby)
          have HKL := Lib.hid (show key.length ≤ maxLen from hkl)
          clear a0 a1 a2 hkl hfm hby hacts
          go_upto_region 6 with fail
          obtain ⟨w4, hw4⟩ : ∃ w4 : World, w4 = wo.alloc (.cells #[.bool g, .string ⟨key.toArray⟩, .slice D m d] 31) := ⟨_, rfl⟩
          have X4 := Lib.hid (show Blk w4 wo.heap.size 31 #[.bool g, encStr key, .slice D m d] by rw [hw4]; exact Blk.made wo _ _)
          have HB4 := Lib.hid (show Below wo.heap.size wo w4 by rw [hw4]; exact (Below.refl _ wo).alloc (Nat.le_refl _) _)
          rw [← hw4]
          clear hw4 k0 k1 k2
          have M4 := Lib.hid (M0.out.below HB4.out)
          have BL4 := Lib.hid (BL0.out.trans (HB4.out.mono hz0))
          have hxb : w.heap.size ≤ wo.heap.size := hz0
          have hxne : wo.heap.size ≠ b := by omega
          generalize wo.heap.size = xb at *
          have x0 : w4.cell? ⟨xb, 0, none⟩ = some (.bool g) := X4.out.cell 0
          have x1 : w4.cell? ⟨xb, 1, none⟩ = some (encStr key) := X4.out.cell 1
          have hx4 := X4.out.size
          cases g with
          | true =>
            cases hh : hasM S key with
            | true =>
              have HE := Lib.hid hh
              have DE := Lib.hid (show delE S key = 0 by unfold delE; rw [hh]; rfl)
              clear hh
              go_wp2_with (first
                | (go_at_call 18; refine (mGet w.heap.size p b (delM S key) key _ M6.out HKL.out).mono ?_; rw [hasM_del_same]; rintro e w7 ⟨B7, n7, rfl, _, _, _, hbe7⟩; have M7 := Lib.hid (M6.out.below hbe7); have BL7 := Lib.hid (BL6.out.trans (hbe7.mono hz6)); clear hbe7)
                | (go_at_call 9; refine (mDelete w.heap.size p b S key _ M5.out HKL.out).mono ?_; rw [DE.out]; rintro e w6 ⟨rfl, hm6, hg6⟩; have M6 := Lib.hid hm6; have BL6 := Lib.hid (BL5.out.grown hg6 hz5 (fun y hy => by have h : b = y := Option.some.inj hy; omega)); have hz6 := BL6.out.size; have x1'' : w6.cell? ⟨xb, 1, none⟩ = some (encStr key) := (X5.out.grown hg6 (fun e => hxne (Option.some.inj e).symm)).cell 1; clear hm6 hg6)
                | (go_at_call 18; refine (mGet w.heap.size p b S key _ M4.out HKL.out).mono ?_; rw [HE.out]; rintro e w5 ⟨B5, n5, rfl, _, _, _, hbe5⟩; have X5 := Lib.hid (X4.out.below hbe5 hx4); have M5 := Lib.hid (M4.out.below hbe5); have BL5 := Lib.hid (BL4.out.trans (hbe5.mono BL4.out.size)); have hz5 := BL5.out.size; have x0' : w5.cell? ⟨xb, 0, none⟩ = some (.bool true) := X5.out.cell 0; have x1' : w5.cell? ⟨xb, 1, none⟩ = some (encStr key) := X5.out.cell 1; clear hbe5))
              go_roundw
              case rel => exact ⟨k + 1, delM S key, h1, by omega, by go_num, Nat.le_trans delM_len (by omega), M7.out, BL7.out⟩
              case measure => simp [intOf]; omega
            | false =>
              have HE := Lib.hid hh
              have DE := Lib.hid (show delE S key = 5 by unfold delE; rw [hh]; rfl)
              clear hh
              go_wp2_with (first
                | (go_at_call 18; refine (mGet w.heap.size p b (delM S key) key _ M6.out HKL.out).mono ?_; rw [hasM_del_same]; rintro e w7 ⟨B7, n7, rfl, _, _, _, hbe7⟩; have M7 := Lib.hid (M6.out.below hbe7); have BL7 := Lib.hid (BL6.out.trans (hbe7.mono hz6)); clear hbe7)
                | (go_at_call 9; refine (mDelete w.heap.size p b S key _ M5.out HKL.out).mono ?_; rw [DE.out]; rintro e w6 ⟨rfl, hm6, hg6⟩; have M6 := Lib.hid hm6; have BL6 := Lib.hid (BL5.out.grown hg6 hz5 (fun y hy => by have h : b = y := Option.some.inj hy; omega)); have hz6 := BL6.out.size; have x1'' : w6.cell? ⟨xb, 1, none⟩ = some (encStr key) := (X5.out.grown hg6 (fun e => hxne (Option.some.inj e).symm)).cell 1; clear hm6 hg6)
                | (go_at_call 18; refine (mGet w.heap.size p b S key _ M4.out HKL.out).mono ?_; rw [HE.out]; rintro e w5 ⟨B5, n5, rfl, _, _, _, hbe5⟩; have X5 := Lib.hid (X4.out.below hbe5 hx4); have M5 := Lib.hid (M4.out.below hbe5); have BL5 := Lib.hid (BL4.out.trans (hbe5.mono BL4.out.size)); have hz5 := BL5.out.size; have x0' : w5.cell? ⟨xb, 0, none⟩ = some (.bool true) := X5.out.cell 0; have x1' : w5.cell? ⟨xb, 1, none⟩ = some (encStr key) := X5.out.cell 1; clear hbe5))
              go_roundw
              case rel => exact ⟨k + 1, delM S key, h1, by omega, by go_num, Nat.le_trans delM_len (by omega), M7.out, BL7.out⟩
              case measure => simp [intOf]; omega
          | false =>
            by_cases he : putE S key data = 0
            · skip
              have PO := Lib.hid (put_ok he)
              have HE := Lib.hid (put_ok he).1
              have PE := Lib.hid he
              clear he
              go_wp2_with (first
                | (go_at_call 18; refine (mGet w.heap.size p b (putM S key data) key _ M6.out HKL.out).mono ?_; rw [PO.out.2.2.1]; rintro e w7 ⟨B7, n7, rfl, hg7, _, _, hbe7⟩; have hcv1 := arg_string (c := n7) (show BytesIn w7 B7 n7 data by rw [← PO.out.2.2.2]; exact hg7); have hcv2 := arg_string (c := d) (HBY.out.below (show Below w.heap.size w w7 from BL6.out.trans (hbe7.mono hz6))); have x2' : w7.cell? ⟨xb, 2, none⟩ = some (.slice D m d) := (X6.out.below hbe7 X6.out.size).cell 2; have M7 := Lib.hid (M6.out.below hbe7); have BL7 := Lib.hid (BL6.out.trans (hbe7.mono hz6)); clear hg7 hbe7)
                | (go_at_call 11; refine (mPut w.heap.size p b S key D m d data _ M5.out hz5 (by omega) HKL.out HF.out (HBY.out.below BL5.out)).mono ?_; rw [PE.out]; rintro e w6 ⟨rfl, hm6, hg6⟩; have M6 := Lib.hid hm6; have BL6 := Lib.hid (BL5.out.grown hg6 hz5 (fun y hy => by have h : b = y := Option.some.inj hy; omega)); have hz6 := BL6.out.size; have X6 := Lib.hid (X5.out.grown hg6 (fun e => hxne (Option.some.inj e).symm)); have x1'' : w6.cell? ⟨xb, 1, none⟩ = some (encStr key) := X6.out.cell 1; clear hm6 hg6)
                | (go_at_call 18; refine (mGet w.heap.size p b S key _ M4.out HKL.out).mono ?_; rw [HE.out]; rintro e w5 ⟨B5, n5, rfl, hg5, _, hq5, hbe5⟩; have G5 := Lib.hid hg5; have Q5 := Lib.hid hq5; have X5 := Lib.hid (X4.out.below hbe5 hx4); have M5 := Lib.hid (M4.out.below hbe5); have BL5 := Lib.hid (BL4.out.trans (hbe5.mono BL4.out.size)); have hz5 := BL5.out.size; have hb4 := M4.out.lt; have x0' : w5.cell? ⟨xb, 0, none⟩ = some (.bool false) := X5.out.cell 0; have x1' : w5.cell? ⟨xb, 1, none⟩ = some (encStr key) := X5.out.cell 1; have x2'' : w5.cell? ⟨xb, 2, none⟩ = some (.slice D m d) := X5.out.cell 2; clear hg5 hq5 hbe5))
              go_roundw
              case rel => exact ⟨k + 1, putM S key data, h1, by omega, by go_num, Nat.le_trans (putM_len _ _ _) (by omega), M7.out, BL7.out⟩
              case measure => simp [intOf]; omega
            · cases hh : hasM S key with
              | true =>
                have PO := Lib.hid (put_no (S := S) (k := key) (d := data) he)
                have HE := Lib.hid hh
                have hr0 : (putE S key data == 0) = false := by simpa using he
                have hr1 : (putE S key data != 0) = true := by simpa using he
                clear he hh
                go_wp2_with (first
                  | (go_at_call 18; refine (mGet w.heap.size p b (putM S key data) key _ M6.out HKL.out).mono ?_; rw [PO.out, HE.out]; rintro e w7 ⟨B7, n7, rfl, hg7, _, _, hbe7⟩; have hcv1 := arg_string (c := n7) (show BytesIn w7 B7 n7 (getM S key) from hg7); have hcv2 := arg_string (c := n5) ((G6.out).below hbe7); have M7 := Lib.hid (M6.out.below hbe7); have BL7 := Lib.hid (BL6.out.trans (hbe7.mono hz6)); clear hg7 hbe7)
                  | (go_at_call 11; refine (mPut w.heap.size p b S key D m d data _ M5.out hz5 (by omega) HKL.out HF.out (HBY.out.below BL5.out)).mono ?_; rintro e w6 ⟨rfl, hm6, hg6⟩; have M6 := Lib.hid hm6; have BL6 := Lib.hid (BL5.out.grown hg6 hz5 (fun y hy => by have h : b = y := Option.some.inj hy; omega)); have hz6 := BL6.out.size; have X6 := Lib.hid (X5.out.grown hg6 (fun e => hxne (Option.some.inj e).symm)); have x1'' : w6.cell? ⟨xb, 1, none⟩ = some (encStr key) := X6.out.cell 1; have G6 := Lib.hid (G5.out.keep (w' := w6) hg6.size (fun g off hB hlt => hg6.block g hlt (fun e => by have h : g = b := Option.some.inj e; have h2 := (Q5.out g off none hB).1; omega))); clear hm6 hg6)
                  | (go_at_call 18; refine (mGet w.heap.size p b S key _ M4.out HKL.out).mono ?_; rw [HE.out]; rintro e w5 ⟨B5, n5, rfl, hg5, _, hq5, hbe5⟩; have G5 := Lib.hid hg5; have Q5 := Lib.hid hq5; have X5 := Lib.hid (X4.out.below hbe5 hx4); have M5 := Lib.hid (M4.out.below hbe5); have BL5 := Lib.hid (BL4.out.trans (hbe5.mono BL4.out.size)); have hz5 := BL5.out.size; have hb4 := M4.out.lt; have x0' : w5.cell? ⟨xb, 0, none⟩ = some (.bool false) := X5.out.cell 0; have x1' : w5.cell? ⟨xb, 1, none⟩ = some (encStr key) := X5.out.cell 1; have x2'' : w5.cell? ⟨xb, 2, none⟩ = some (.slice D m d) := X5.out.cell 2; clear hg5 hq5 hbe5))
                go_roundw
                case rel => exact ⟨k + 1, putM S key data, h1, by omega, by go_num, Nat.le_trans (putM_len _ _ _) (by omega), M7.out, BL7.out⟩
                case measure => simp [intOf]; omega
              | false =>
                have PO := Lib.hid (put_no (S := S) (k := key) (d := data) he)
                have HE := Lib.hid hh
                have hr0 : (putE S key data == 0) = false := by simpa using he
                have hr1 : (putE S key data != 0) = true := by simpa using he
                clear he hh
                go_wp2_with (first
                  | (go_at_call 18; refine (mGet w.heap.size p b (putM S key data) key _ M6.out HKL.out).mono ?_; rw [PO.out, HE.out]; rintro e w7 ⟨B7, n7, rfl, hg7, _, _, hbe7⟩; have hcv1 := arg_string (c := n7) (show BytesIn w7 B7 n7 (getM S key) from hg7); have hcv2 := arg_string (c := n5) ((G6.out).below hbe7); have M7 := Lib.hid (M6.out.below hbe7); have BL7 := Lib.hid (BL6.out.trans (hbe7.mono hz6)); clear hg7 hbe7)
                  | (go_at_call 11; refine (mPut w.heap.size p b S key D m d data _ M5.out hz5 (by omega) HKL.out HF.out (HBY.out.below BL5.out)).mono ?_; rintro e w6 ⟨rfl, hm6, hg6⟩; have M6 := Lib.hid hm6; have BL6 := Lib.hid (BL5.out.grown hg6 hz5 (fun y hy => by have h : b = y := Option.some.inj hy; omega)); have hz6 := BL6.out.size; have X6 := Lib.hid (X5.out.grown hg6 (fun e => hxne (Option.some.inj e).symm)); have x1'' : w6.cell? ⟨xb, 1, none⟩ = some (encStr key) := X6.out.cell 1; have G6 := Lib.hid (G5.out.keep (w' := w6) hg6.size (fun g off hB hlt => hg6.block g hlt (fun e => by have h : g = b := Option.some.inj e; have h2 := (Q5.out g off none hB).1; omega))); clear hm6 hg6)
                  | (go_at_call 18; refine (mGet w.heap.size p b S key _ M4.out HKL.out).mono ?_; rw [HE.out]; rintro e w5 ⟨B5, n5, rfl, hg5, _, hq5, hbe5⟩; have G5 := Lib.hid hg5; have Q5 := Lib.hid hq5; have X5 := Lib.hid (X4.out.below hbe5 hx4); have M5 := Lib.hid (M4.out.below hbe5); have BL5 := Lib.hid (BL4.out.trans (hbe5.mono BL4.out.size)); have hz5 := BL5.out.size; have hb4 := M4.out.lt; have x0' : w5.cell? ⟨xb, 0, none⟩ = some (.bool false) := X5.out.cell 0; have x1' : w5.cell? ⟨xb, 1, none⟩ = some (encStr key) := X5.out.cell 1; have x2'' : w5.cell? ⟨xb, 2, none⟩ = some (.slice D m d) := X5.out.cell 2; clear hg5 hq5 hbe5))
                go_roundw
                case rel => exact ⟨k + 1, putM S key data, h1, by omega, by go_num, Nat.le_trans (putM_len _ _ _) (by omega), M7.out, BL7.out⟩
                case measure => simp [intOf]; omega
        · have d2 : decide ((k : Int) < 40) = false := by simp; omega
          go_wp2_with fail
          go_meet
          exact ⟨S, by omega, M0.out, BL0.out⟩
      · have d1 : decide (k < n) = false := by simpa using h1
        go_wp2_with fail
        go_meet
        exact ⟨S, by omega, M0.out, BL0.out⟩
  case rest =>
    clear M1 BL1
    obtain ⟨S, hS40, hm, hbl⟩ := hcut
    obtain ⟨w8, rfl⟩ : ∃ w8 : World, w8 = wc := ⟨_, rfl⟩
    have M8 := Lib.hid hm
    have BL8 := Lib.hid hbl
    have hnd : (S.map Prod.fst).Nodup := by
      obtain ⟨D, _, hr⟩ := hm.map
      exact hr.nd
    have ND := Lib.hid hnd
    have HKL := Lib.hid (fun k (hk : hasM S k = true) => by
      obtain ⟨D, _, hr⟩ := hm.map
      obtain ⟨q, hq, he, hd⟩ := getM_mem hk
      have := (hr.wf q hq).2.1
      rw [he] at this
      exact this : ∀ k, hasM S k = true → k.length ≤ 16)
    have hsl := sortM_len S
    have HSL := Lib.hid hsl
    clear hm hbl hnd hsl
    go_wp2_with (go_at_call 14; refine (mKeys w.heap.size p b S _ M8.out (by omega)).mono ?_; rintro e w9 ⟨B, rfl, hst, hb9⟩; have ST := Lib.hid hst; have M9 := Lib.hid (M8.out.below hb9); have BL9 := Lib.hid (BL8.out.trans (hb9.mono BL8.out.size)); clear hst hb9)
    have hz9 := BL9.out.size
    generalize hl : S.length = L at *
    have HL := Lib.hid hl
    clear hl
    go_loopw [15] (fun i wx => ∃ k : Nat, k ≤ L ∧ i = .int .i64 k ∧ Below w9.heap.size w9 wx) (fun i _ => L - (intOf i).toNat)
    case atStart => exact ⟨0, Nat.zero_le _, rfl, Below.refl _ _⟩
    case round =>
      obtain ⟨k, hk, rfl, hbx⟩ := hrel
      obtain ⟨wo, rfl⟩ : ∃ wo : World, wo = wr := ⟨_, rfl⟩
      have BX := Lib.hid hbx
      have MX := Lib.hid (M9.out.below hbx)
      have hzx := hbx.size
      clear hbx
      by_cases hlt : k < L
      · have d1 : decide (k < L) = true := by simpa using hlt
        obtain ⟨key, hkey⟩ : ∃ x, (sortM S)[k]? = some x := ⟨_, List.getElem?_eq_getElem (by rw [HSL.out]; exact hlt)⟩
        obtain ⟨g, rfl, hg, hcs⟩ := ST.out.2.resolve_left (by omega)
        have hk0 : wo.cell? ⟨g, k, none⟩ = some (encStr key) := (BX.out.cell (p := ⟨g, k, none⟩) hg).trans (hcs k key hkey)
        have hh : hasM S key = true := sortM_mem.1 (List.mem_of_getElem? hkey)
        have hkl : key.length ≤ 16 := HKL.out key hh
        have HH := Lib.hid hh
        have HKY := Lib.hid hkey
        clear hh hkey
        go_wp2_with (go_at_call 18; refine (mGet w.heap.size p b S key _ MX.out (by simp only [maxLen]; omega)).mono ?_; rw [HH.out]; rintro e w10 ⟨B10, n10, rfl, _, _, _, hbe10⟩; have B10 := Lib.hid (BX.out.trans (hbe10.mono hzx)); clear hbe10)
        have kc : ∀ N, (w10.drewN N).cell? ⟨g, k, none⟩ = some (encStr key) := fun N => (B10.out.cell (p := ⟨g, k, none⟩) hg).trans (hcs k key HKY.out)
        by_cases hk1 : k = 0
        · subst hk1
          clear hcs
          go_quiet (fail)
          go_wp2_with fail
          go_roundw
          case rel => exact ⟨1, hlt, rfl, below_drewN B10.out _⟩
          case measure => simp [intOf]; omega
        · have d2 : decide ((0 : Int) < k) = true := by simp; omega
          have d2n : decide (0 < k) = true := by simp; omega
          obtain ⟨q, hq⟩ : ∃ q : Nat, k = q + 1 := ⟨k - 1, by omega⟩
          have hq1 : (k : Int) - 1 = (q : Int) := by omega
          have hqL : q < L := by omega
          obtain ⟨prev, hprev⟩ : ∃ x, (sortM S)[q]? = some x := ⟨_, List.getElem?_eq_getElem (by rw [HSL.out]; omega)⟩
          have kp : ∀ N, (w10.drewN N).cell? ⟨g, q, none⟩ = some (encStr prev) := fun N => (B10.out.cell (p := ⟨g, q, none⟩) hg).trans (hcs q prev hprev)
          have hw64 : IntKind.i64.wrap ((k : Int) - 1) = (q : Int) := by rw [hq1]; exact wrap_small (by omega)
          have hlts : prev < key := sortM_lt ND.out (by omega) hprev HKY.out
          have hbl : Op.bytesLess prev key = true := by rw [bytesLess_eq]; simpa using hlts
          have hbl2 : Op.bytesLess (ByteArray.mk prev.toArray).toList (ByteArray.mk key.toArray).toList = true := by rw [ByteArray.toList_mk, ByteArray.toList_mk]; exact hbl
          clear hcs hprev hlts hq
          go_quiet (fail)
          go_wp2_with fail
          go_roundw
          case rel => exact ⟨k + 1, hlt, by go_num, below_drewN B10.out _⟩
          case measure => simp [intOf]; omega
      · have d1 : decide (k < L) = false := by simpa using hlt
        go_wp2_with (go_at_call 20; refine (awake22 _).mono ?_; rintro e w11 ⟨rfl, hb11⟩; have BL11 := Lib.hid (BL9.out.trans ((BX.out.trans (hb11.mono hzx)).mono hz9)); clear hb11)
        go_ret
        exact ⟨rfl, BL11.out⟩
end Go.Proofs.Ytgkgieemdjbhpaa
