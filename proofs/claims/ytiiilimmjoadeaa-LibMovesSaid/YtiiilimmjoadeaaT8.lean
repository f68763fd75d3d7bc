/- All that is read of a library's cartridges, as one text. No condition beyond those that each theorem states. -/
import Derived.Test.YtiiilimmjoadeaaT4
namespace Go.Proofs.Ytiiilimmjoadeaa
open Go.RowKit

def recT (n : Nat) (C : CV) (p : Nat) : List UInt8 := [UInt8.ofNat n, UInt8.ofNat p, UInt8.ofNat (readM C.M C.lost p).2.toNat, UInt8.ofNat (readM C.M C.lost p).1.length] ++ (readM C.M C.lost p).1
def cartT (n : Nat) (C : CV) : Nat → List UInt8
  | 0 => []
  | k + 1 => cartT n C k ++ recT n C k
def textK (cs : List CV) (but : Int) : Nat → List UInt8
  | 0 => []
  | k + 1 => match cs[k]? with
    | none => textK cs but k
    | some C => if (k : Int) = but then textK cs but k else textK cs but k ++ cartT k C C.M.length
def textM (cs : List CV) (but : Int) : List UInt8 := textK cs but cs.length

theorem readM_small {M : Recs} {lost : Bool} {p : Int} (h : ∀ r ∈ M, r.1.length ≤ 256) : (readM M lost p).1.length ≤ 256 ∧ 0 ≤ (readM M lost p).2 ∧ (readM M lost p).2 ≤ 255 := by
  unfold readM
  split
  · simp
  · split
    · simp
    · split
      · simp
      · rename_i l rot hm
        have hl := h _ (List.mem_of_getElem? hm)
        split
        · simp
        · exact ⟨hl, by simp, by simp⟩
theorem cartT_len {n : Nat} {C : CV} (h : ∀ r ∈ C.M, r.1.length ≤ 256) : ∀ k, (cartT n C k).length ≤ k * 260 := by
  intro k
  induction k with
  | zero => simp [cartT]
  | succ k ih =>
    have := (readM_small (lost := C.lost) (p := (k : Int)) h).1
    simp only [cartT, recT, List.length_append, List.length_cons, List.length_nil]
    omega
theorem textK_len {cs : List CV} {but : Int} {B : Nat} (hB : 300000 ≤ B) (h : ∀ (i : Nat) (C : CV), cs[i]? = some C → (∀ r ∈ C.M, r.1.length ≤ 256) ∧ C.M.length ≤ 1024) : ∀ k, (textK cs but k).length ≤ k * B := by
  intro k
  induction k with
  | zero => simp [textK]
  | succ k ih =>
    rw [Nat.succ_mul]
    generalize k * B = m at *
    unfold textK
    cases hC : cs[k]? with
    | none => exact Nat.le_trans ih (Nat.le_add_right _ _)
    | some C =>
      obtain ⟨h1, h2⟩ := h k C hC
      have h3 : (cartT k C C.M.length).length ≤ B := Nat.le_trans (cartT_len (n := k) h1 C.M.length) (by omega)
      clear hB
      show (if (k : Int) = but then textK cs but k else textK cs but k ++ cartT k C C.M.length).length ≤ m + B
      generalize cartT k C C.M.length = z at *
      split
      · omega
      · rw [List.length_append]
        omega
theorem textK_set {cs : List CV} {c : Nat} {C' : CV} : ∀ k, textK (cs.set c C') (c : Int) k = textK cs (c : Int) k := by
  intro k
  induction k with
  | zero => rfl
  | succ k ih =>
    unfold textK
    by_cases hkc : c = k
    · subst hkc
      by_cases hl : c < cs.length
      · rw [List.getElem?_set_self hl, List.getElem?_eq_getElem hl]
        simp only [if_pos]
        exact ih
      · rw [List.getElem?_eq_none (by simpa using hl), List.getElem?_eq_none (by omega)]
        exact ih
    · rw [List.getElem?_set_ne hkc]
      cases cs[k]? with
      | none => exact ih
      | some C =>
        simp only [if_neg (show ¬ (k : Int) = (c : Int) by omega)]
        rw [ih]
theorem byteVals_append (a b : List UInt8) : byteVals (a ++ b) = byteVals a ++ byteVals b := by simp [byteVals]
theorem ofNat_val (n : Nat) : ((UInt8.ofNat n).toNat : Int) = ((n % 256 : Nat) : Int) := by simp
theorem four_more (zs : List UInt8) (a b c d : UInt8) : (zs ++ [a, b, c, d]).length = zs.length + 4 := by simp
/-- The row that is made. -/
def OutRow (w wx : World) (v : Value) (zs : List UInt8) : Prop := ∃ g cap, v = .slice (some ⟨g, 0, none⟩) zs.length cap ∧ wx.ownsRow w.heap.size 5 1 v zs.length (byteVals zs) ∧ Below w.heap.size w wx

theorem texts_frame {w w6 w7 wi : World} {v : Value} {n : Nat} {xs : List Value} {t : TypeId} {o : Obj} (hb : Below w.heap.size w w6) (ho : wi.ownsRow w.heap.size t 1 v n xs) (hg : (w6.alloc o).grownBy w7 v.ownBlock) : Below w.heap.size w w7 :=
  (hb.alloc hb.size o).grown hg (by rw [World.size_alloc]; have := hb.size; omega) (fun q hq => (ho.lt q hq).1)
/-- What was read is not the row that grows. -/
theorem texts_src {wi w6 w7 : World} {A : Option Addr} {c : Nat} {v : Value} {n base : Nat} {xs : List Value} {t : TypeId} {l : List UInt8} {o : Obj} (hy : BytesIn w6 A l.length l) (hr : ∀ g, (Value.slice A l.length c).ownBlock = some g → wi.heap.size ≤ g ∧ g < w6.heap.size) (ho : wi.ownsRow base t 1 v n xs) (hg : (w6.alloc o).grownBy w7 v.ownBlock) : BytesIn w7 A l.length l := by
  have hz := hg.size
  rw [World.size_alloc] at hz
  refine hy.keep (by omega) (fun b off hA hbs => ?_)
  refine (hg.block b (by rw [World.size_alloc]; omega) (fun e => ?_)).trans (Below.heap_alloc _ _ _ hbs)
  have h1 := (ho.lt b e.symm).2
  have h2 := (hr b (by rw [hA]; rfl)).1
  omega
set_option maxRecDepth 100000 in
set_option maxHeartbeats 4000000 in
theorem oTexts {F : Nat → Prop} {w : World} {lp : Nat} {L : LV} (h : LOwn F w lp L) (but : Int) :
    Calls Try.prog 41 #[.pointer (some ⟨lp, 0, none⟩), .int .i64 but] w fun e w' => e = .returned (.string ⟨(textM L.carts but).toArray⟩) ∧ Below w.heap.size w w' := by
  have H := Lib.hid h
  have hl32 : L.carts.length ≤ 32 := by
    obtain ⟨own, cv, dv, _, h⟩ := h
    exact h.few
  have hsh : ∀ (i : Nat) (C : CV), L.carts[i]? = some C → (∀ r ∈ C.M, r.1.length ≤ 256) ∧ C.M.length ≤ 1024 := fun i C hC => by
    have := oCartShort h hC
    exact ⟨this.1, by omega⟩
  have SH := Lib.hid hsh
  obtain ⟨i0, hi0, hz0, hz1, hz2⟩ := info_parts byte_info
  clear h hsh
  go_enter Try.func41, Try.ntmps41
  go_wp2_with fail
  go_loopw [5, 6] (fun v i wx => ∃ k : Nat, k ≤ L.carts.length ∧ i = .int .i64 k ∧ OutRow w wx v (textK L.carts but k)) (fun _ i _ => L.carts.length - (intOf i).toNat)
  case atStart => exact ⟨0, by omega, rfl, _, 0, rfl, own_made _ _ 1 rfl (Nat.le_refl _), (Below.refl _ _).alloc (Nat.le_refl _) _⟩
  case round =>
    obtain ⟨k, hk, rfl, g, cap, rfl, ho, hb⟩ := hrel
    obtain ⟨wo, rfl⟩ : ∃ wo : World, wo = wr := ⟨_, rfl⟩
    have HO := Lib.hid ho
    have HB := Lib.hid hb
    have HW := Lib.hid ((LOwn.owning _ _).below H.out hb)
    clear ho hb
    by_cases hlt : k < L.carts.length
    · have d1 : decide (k < L.carts.length) = true := by simpa using hlt
      obtain ⟨C, hC⟩ : ∃ C, L.carts[k]? = some C := ⟨_, List.getElem?_eq_getElem hlt⟩
      have HC := Lib.hid hC
      by_cases hbut : (k : Int) = but
      · have d2 : ((k : Int) == but) = true := by simpa using hbut
        have e1 : textK L.carts but (k + 1) = textK L.carts but k := by
          conv => lhs; unfold textK
          rw [hC]
          exact if_pos hbut
        have E1 := Lib.hid e1
        clear e1 hC hbut
        go_wp2_with (go_at_call 35; refine (oCarts HW.out).mono ?_; rintro e w2 ⟨rfl, rfl⟩)
        go_roundw
        case rel => exact ⟨k + 1, hlt, by go_num, by rw [E1.out]; exact ⟨g, cap, rfl, HO.out, HB.out⟩⟩
        case measure => simp [intOf]; omega
      · have d2 : ((k : Int) == but) = false := by simpa using hbut
        have e1 : textK L.carts but (k + 1) = textK L.carts but k ++ cartT k C C.M.length := by
          conv => lhs; unfold textK
          rw [hC]
          exact if_neg hbut
        have hcv : cartV L (k : Int) = .pointer (some ⟨C.p, 0, none⟩) := by
          unfold cartV
          rw [if_pos (by omega), Int.toNat_natCast, hC]
        have E1 := Lib.hid e1
        have CV := Lib.hid hcv
        have hsm := SH.out k C hC
        have hm1 := hsm.2
        have SM := Lib.hid hsm
        have TL := Lib.hid (textK_len (but := but) (Nat.le_refl 300000) SH.out k)
        clear e1 hC hbut hcv hsm
        go_wp2_with (go_at_call 35; refine (oCarts HW.out).mono ?_; rintro e w2 ⟨rfl, rfl⟩)
        go_loopw [5, 7] (fun v i wx => ∃ j : Nat, j ≤ C.M.length ∧ i = .int .i64 j ∧ OutRow w wx v (textK L.carts but k ++ cartT k C j)) (fun _ i _ => C.M.length - (intOf i).toNat)
        case atStart => exact ⟨0, by omega, rfl, g, cap, by simp [cartT], by simpa [cartT] using HO.out, HB.out⟩
        case round =>
          obtain ⟨j, hj, rfl, g1, cap1, rfl, ho, hb⟩ := hrel
          obtain ⟨wi, rfl⟩ : ∃ wi : World, wi = wr := ⟨_, rfl⟩
          have HO1 := Lib.hid ho
          have HB1 := Lib.hid hb
          have HW1 := Lib.hid ((LOwn.owning _ _).below H.out hb)
          have CL := Lib.hid (cartT_len (n := k) SM.out.1 j)
          have hzl : (textK L.carts but k ++ cartT k C j).length ≤ 10000000 := by
            have := TL.out
            have := CL.out
            rw [List.length_append]
            omega
          have e2 : textK L.carts but k ++ cartT k C (j + 1) = (textK L.carts but k ++ cartT k C j) ++ recT k C j := by simp [cartT]
          have E2 := Lib.hid e2
          clear ho hb e2
          generalize hzs : textK L.carts but k ++ cartT k C j = zs at *
          by_cases hlj : j < C.M.length
          · have d3 : decide (j < C.M.length) = true := by simpa using hlj
            have hr := readM_small (lost := C.lost) (p := (j : Int)) SM.out.1
            have e3 : recT k C j = [UInt8.ofNat k, UInt8.ofNat j, UInt8.ofNat (readM C.M C.lost j).2.toNat, UInt8.ofNat (readM C.M C.lost j).1.length] ++ (readM C.M C.lost j).1 := rfl
            generalize hrd : readM C.M C.lost j = rd at *
            have HRD := Lib.hid hrd
            obtain ⟨rl, re⟩ := rd
            simp only at hr e3
            have E3 := Lib.hid e3
            obtain ⟨hr1, hr2, hr3⟩ := hr
            obtain ⟨re', rfl⟩ := Int.eq_ofNat_of_zero_le hr2
            clear hrd e3 hzs
            go_upto_region 10 with (first
              | (go_at_call 34; refine (oCart HW1.out k).mono ?_; rintro e w4 ⟨rfl, rfl⟩; rw [CV.out])
              | (go_at_call 19; refine (oCartLen HW1.out HC.out).mono ?_; rintro e w4 ⟨rfl, rfl⟩)
              | (go_at_call 16; refine (oCartRead HW1.out HC.out j).mono ?_; rintro e w6 ⟨v, rfl, ho, hb6⟩; rw [HRD.out] at ho ⊢; have O1 := Lib.hid ho; have B6 := Lib.hid hb6; clear ho hb6))
            obtain ⟨A5, c5, rfl, hby, hA5⟩ := O1.out.bytesIn
            have e4 : [Value.int .u8 (k : Int), .int .u8 ((j : Int) % 256), .int .u8 (re' : Int), .int .u8 ((rl.length : Int) % 256)] = byteVals [UInt8.ofNat k, UInt8.ofNat j, UInt8.ofNat re', UInt8.ofNat rl.length] := by
              simp [byteVals]
              omega
            have A50 : A5 = none → rl.length = 0 := fun e => by
              rcases hby.2 with h | ⟨b, off, h, _⟩
              · exact h
              · rw [e] at h; cases h
            have E4 := Lib.hid e4
            have HY := Lib.hid hby
            have BB := Lib.hid (HB1.out.trans (B6.out.mono HB1.out.size))
            have hz6 := B6.out.size
            have hr256 : rl.length ≤ 256 := hr1
            clear e4 hby
            go_wp2_with (first
              | (at_builtin
                 refine wpList_append_live _ rfl (.tmp 36) (.tmp 46) 22 rfl w.heap.size 5 i0 _ 1 1 Try.underlying22 hi0 hz0 hz1 hz2 rfl (by omega) g1 zs.length cap1 (byteVals zs) rfl (by exact own_of_eq HO1.out (fun q hq => (Below.heap_alloc _ _ _ (Nat.lt_of_lt_of_le (HO1.out.lt q hq).2 hz6)).trans (B6.out.block q (HO1.out.lt q hq).2))) w6.heap.size 0 4 4 [.int .u8 (k : Int), .int .u8 ((j : Int) % 256), .int .u8 (re' : Int), .int .u8 ((rl.length : Int) % 256)] rfl rfl (by exact src_new _ _ _ _) (by intro u hu; simp only [List.mem_cons, List.not_mem_nil, or_false] at hu; rcases hu with rfl | rfl | rfl | rfl <;> rfl) (by simp only [maxLen]; omega) (by omega) (by simp only [World.size_alloc]; have := BB.out.size; omega) ?_
                 intro g2 cap2 w7 hown2 hgr2 hat2 hlt2
                 have HO2 := Lib.hid (show w7.ownsRow w.heap.size 5 1 (.slice (some ⟨g2, 0, none⟩) (zs.length + 4) cap2) (zs.length + 4) (byteVals (zs ++ [UInt8.ofNat k, UInt8.ofNat j, UInt8.ofNat re', UInt8.ofNat rl.length])) by rw [byteVals_append, ← E4.out]; exact hown2)
                 have B7 := Lib.hid (texts_frame BB.out HO1.out hgr2)
                 have HY7 := Lib.hid (texts_src HY.out O1.out.range HO1.out hgr2)
                 clear hown2 hgr2 hat2)
              | (at_builtin
                 refine wpList_append_form _ rfl (.tmp 47) (.tmp 48) 22 rfl w.heap.size 5 i0 _ 1 1 Try.underlying22 hi0 hz0 hz1 hz2 rfl (by omega) _ (zs.length + 4) _ rfl (by exact HO2.out) A5 rl.length c5 (byteVals rl) rfl (by rw [byteVals_length, Nat.mul_one]) (fun e => A50 e) (by exact HY7.out.src) (byteVals_one _) (by omega) (by simp only [maxLen]; omega) (by omega) (by have := B7.out.size; omega) ?_
                 intro g3 cap3 w8 hown3 hgr3 hat3 hlt3
                 have HO3 := Lib.hid hown3
                 have B8 := Lib.hid (B7.out.grown hgr3 (by have := B7.out.size; omega) (fun q hq => (HO2.out.lt q hq).1))
                 clear hown3 hgr3 hat3))
            go_roundw
            case rel => exact ⟨j + 1, hlj, by go_num, g3, cap3, by rw [E2.out, E3.out]; simp only [List.length_append, List.length_cons, List.length_nil]; rw [Nat.add_assoc], by
              rw [E2.out, E3.out, ← List.append_assoc, byteVals_append, List.length_append, four_more]
              exact HO3.out, B8.out⟩
            case measure => simp [intOf]; omega
          · have d3 : decide (j < C.M.length) = false := by simpa using hlj
            have hjm : j = C.M.length := by omega
            have ZS := Lib.hid hzs
            clear hzs
            go_wp2_with (first
              | (go_at_call 34; refine (oCart HW1.out k).mono ?_; rintro e w4 ⟨rfl, rfl⟩; rw [CV.out])
              | (go_at_call 19; refine (oCartLen HW1.out HC.out).mono ?_; rintro e w4 ⟨rfl, rfl⟩))
            go_roundw
            case rel => exact ⟨k + 1, hlt, by go_num, g1, cap1, by rw [E1.out, ← hjm, ZS.out], by rw [E1.out, ← hjm, ZS.out]; exact HO1.out, HB1.out⟩
            case measure => simp [intOf]; omega
    · have d1 : decide (k < L.carts.length) = false := by simpa using hlt
      have HKM := Lib.hid (show k = L.carts.length by omega)
      have hcv := run_string_of Try.underlying22 Try.underlying5 Try.underlying9 (c := cap) (RowAt.of_own HO.out).bytesIn (.inr ⟨_, _, rfl⟩)
      go_wp2_with (go_at_call 35; refine (oCarts HW.out).mono ?_; rintro e w2 ⟨rfl, rfl⟩)
      go_ret
      exact ⟨by rw [HKM.out]; rfl, HB.out⟩
end Go.Proofs.Ytiiilimmjoadeaa
