/- What a library's method Append does. No condition beyond those that each theorem states. -/
import Derived.Test.YtiiilimmjoadeaaL7
namespace Go.Proofs.Ytiiilimmjoadeaa
open Go.RowKit

section
variable {own : Nat → Nat} {w w' : World} {lp : Nat} {cv dv : Value} {L : LV}
theorem LCore.relab {own' : Nat → Nat} (h : LCore own w lp cv dv L) (he : ∀ k, k < w.heap.size → own' k = own k) : LCore own' w lp cv dv L :=
  ⟨h.blk, (he lp h.blk.size).trans h.lab, (OwnRow.owning _ _ _ _ _).mono _ _ _ h.rc (fun k hk hf => (he k hk).trans hf), (OwnRow.owning _ _ _ _ _).mono _ _ _ h.rd (fun k hk hf => (he k hk).trans hf), fun i C hC => (COwn.owning _ _ _ _).mono _ _ _ (h.cs i C hC) (fun k hk hf => (he k hk).trans hf), h.few, h.four⟩
theorem ptrs_set {cs : List CV} {i : Nat} {C C' : CV} (h : cs[i]? = some C) (hp : C'.p = C.p) : ptrs (cs.set i C') = ptrs cs := by
  unfold ptrs
  rw [List.map_set, hp]
  apply List.ext_getElem?
  intro j
  rw [List.getElem?_set]
  split
  · rename_i e
    subst e
    obtain ⟨hi, rfl⟩ := List.getElem?_eq_some_iff.1 h
    rw [List.getElem?_map, List.getElem?_eq_getElem hi]
    simp [hi]
  · rfl
/-- A call on one of the cartridges. -/
theorem LCore.cart_step {i : Nat} {C : CV} {F' : Nat → Prop} {M' : Recs} {lost' : Bool} (h : LCore own w lp cv dv L) (hC : L.carts[i]? = some C) (h' : COwn F' w' C.p M' C.most lost') (ht : Took (fun k => own k = i + 10) F' w w') :
    LCore (relabel own (i + 10) w.heap.size) w' lp cv dv ⟨L.carts.set i ⟨C.p, M', C.most, lost'⟩, L.drives, L.now⟩ := by
  refine ⟨h.blk.of_eq (ht.1.block lp h.blk.size (fun e => by have := h.lab; omega)), ?_, ?_, ?_, fun j D hD => ?_, by rw [List.length_set]; exact h.few, h.four⟩
  · unfold relabel; rw [if_pos h.blk.size]; exact h.lab
  · rw [List.length_set, ptrs_set (C' := ⟨C.p, M', C.most, lost'⟩) hC rfl]
    exact relabel_other (OwnRow.owning _ _ _ _ _) h.rc (by omega) ht.1
  · exact relabel_other (OwnRow.owning _ _ _ _ _) h.rd (by omega) ht.1
  · by_cases hij : i = j
    · subst hij
      have hi : i < L.carts.length := (List.getElem?_eq_some_iff.1 hC).1
      have e : D = ⟨C.p, M', C.most, lost'⟩ := by simp [hi] at hD; exact hD.symm
      subst e
      exact relabel_own (COwn.owning _ _ _ _) h' ht
    · rw [List.getElem?_set_ne hij] at hD
      exact relabel_other (COwn.owning _ _ _ _) (h.cs j D hD) (by omega) ht.1
theorem LStep.cart {i : Nat} {C : CV} {F' : Nat → Prop} {M' : Recs} {lost' : Bool} (h : LCore own w lp cv dv L) (hC : L.carts[i]? = some C) (h' : COwn F' w' C.p M' C.most lost') (ht : Took (fun k => own k = i + 10) F' w w') :
    LStep own w w' lp ⟨L.carts.set i ⟨C.p, M', C.most, lost'⟩, L.drives, L.now⟩ :=
  ⟨_, _, _, h.cart_step hC h' ht, fun k hk => by
    unfold relabel at hk
    split at hk
    · exact .inl hk
    · exact .inr (by omega), ht.1.mono (fun k hk => by omega)⟩
end

set_option maxRecDepth 100000 in
set_option maxHeartbeats 2000000 in
theorem lAppend (own : Nat → Nat) (w : World) (lp : Nat) (cv dv : Value) (L : LV) (n : Int) (A : Option Addr) (m c : Nat) (l : List UInt8) (h : LCore own w lp cv dv L) (hpos : ∀ d ∈ L.drives, 0 ≤ d.pos ∧ d.pos < 4611686018427387904) (hb : BytesIn w A m l) :
    Calls Try.prog 29 #[.pointer (some ⟨lp, 0, none⟩), .int .i64 n, .slice A m c] w fun e w' => e = .returned (.tuple #[.int .i64 (lappendM L n l).1.1, .int .i64 (lappendM L n l).1.2]) ∧ LStep own w w' lp (lappendM L n l).2 := by
  have H := Lib.hid h
  by_cases hc : isC L n = true
  · obtain ⟨i, C, rfl, hi, hC, hcv⟩ := isC_get hc
    have HCV := Lib.hid hcv
    rcases hw : withI L.drives i with _ | k
    · have HW := Lib.hid hw
      have e1 : lappendM L i l = ((0, 8), L) := by unfold lappendM; rw [if_pos hc, hw]
      rw [e1]
      clear e1 h hc hcv hC hw hpos hb
      go_enter Try.func29, Try.ntmps29
      go_wp2_with (first
        | (go_at_call 34; refine (lCart own w lp cv dv L i H.out).mono ?_; rintro e w1 ⟨rfl, rfl⟩; rw [HCV.out])
        | (go_at_call 51; refine (lWith own w lp cv dv L i H.out).mono ?_; rintro e w1 ⟨rfl, rfl⟩; rw [HW.out]; simp only [slotV]))
      go_quiet (fail)
      go_wp2_with fail
      go_ret2
      exact ⟨rfl, LStep.below H.out (below_drewN (Below.refl _ _) _)⟩
    · have HW := Lib.hid hw
      obtain ⟨D', hD', hDb, hDc, hkl⟩ := withI_get hw
      obtain ⟨g, cap, D, rfl, hD, hgl, hg1, hgs, fr, k0, k1, k2, k3⟩ := h.live hkl
      have hbd := hpos D (List.mem_of_getElem? hD)
      have e1 : lappendM L i l = if D.pos = C.M.length then
          (((appendM C.M C.most C.lost l).1, (appendM C.M C.most C.lost l).2.1), ⟨L.carts.set i ⟨C.p, (appendM C.M C.most C.lost l).2.2, C.most, C.lost⟩, if (appendM C.M C.most C.lost l).2.1 = 0 then L.drives.set k ⟨D.cart, D.pos + 1, D.last, D.broken⟩ else L.drives, L.now⟩)
          else ((0, 8), L) := by
        unfold lappendM; rw [if_pos hc, hw]; simp only [hD, Int.toNat_natCast, hC]
      rw [e1]
      rcases h.rc.form with ⟨_, h0⟩ | ⟨gc, capc, rfl, _, _, hgc1, hgcs⟩
      · omega
      have x1 : ∀ N, (w.drewN N).cell? ⟨lp, 0, none⟩ = some (.slice (some ⟨gc, 0, none⟩) L.carts.length capc) := fun N => h.blk.cell 0
      have x2 : ∀ N, (w.drewN N).cell? ⟨gc, i, none⟩ = some (.pointer (some ⟨C.p, 0, none⟩)) := fun N => h.cart_cell rfl hC
      have x3 : ∀ N, (w.drewN N).cell? ⟨g, k * 4 + 1, none⟩ = some (.int .i64 D.pos) := fun N => k1
      have CC := Lib.hid (fun N => (h.below (below_drewN (Below.refl w.heap.size w) N)).cs i C hC)
      by_cases hpp : D.pos = C.M.length
      · rw [if_pos hpp]
        have d1 : (D.pos != (C.M.length : Int)) = false := by simpa using hpp
        have HC := Lib.hid hC
        have HD := Lib.hid hD
        have HB := Lib.hid (fun N => hb.below (below_drewN (Below.refl w.heap.size w) N))
        generalize hr : appendM C.M C.most C.lost l = r
        have HR := Lib.hid hr
        rcases r with ⟨at_, er, M'⟩
        simp only
        by_cases hz : er = 0
        · subst hz
          rw [if_pos rfl]
          clear e1 h hc hcv hC hw hpos hD hD' hDb hDc hb hr hpp k0 k1 k2 k3
          go_enter Try.func29, Try.ntmps29
          go_wp2_with (first
            | (go_at_call 34; refine (lCart own w lp _ _ L i H.out).mono ?_; rintro e w1 ⟨rfl, rfl⟩; rw [HCV.out])
            | (go_at_call 51; refine (lWith own w lp _ _ L i H.out).mono ?_; rintro e w1 ⟨rfl, rfl⟩; rw [HW.out]; simp only [slotV]))
          go_quiet ((go_at_call 19; exact quiet_eq (cLen _ C.p C.M C.most C.lost _ (CC.out _))))
          go_wp2_with (
            (go_at_call 14
             refine (cAppend _ C.p C.M C.most C.lost A m c l _ (by exact CC.out _) (by exact HB.out _)).mono ?_
             rintro e w2 ⟨rfl, F', ho, ht⟩
             rw [HR.out] at ho ⊢
             have S2 := Lib.hid ((H.out.below (below_drewN (Below.refl w.heap.size w) _)).cart_step HC.out ho ht)
             have y1 : w2.cell? ⟨g, k * 4 + 1, none⟩ = some (.int .i64 D.pos) := S2.out.drive_cell rfl HD.out (q := 1) (by decide) rfl
             have y2 : ∀ j, w2.frozen? ⟨g, j, none⟩ = false := fun j => S2.out.rd.row.free j
             have HT := Lib.hid ht
             clear ho ht))
          go_ret2
          have fin := LCore.put1 (L := ⟨L.carts.set i ⟨C.p, M', C.most, C.lost⟩, L.drives, L.now⟩) (d' := ⟨D.cart, D.pos + 1, D.last, D.broken⟩) (u := .int .i64 (D.pos + 1)) S2.out HD.out hgl (q := 1) (by decide) rfl
          refine ⟨rfl, relabel own (i + 10) w.heap.size, _, _, fin, fun k hk => ?_, ?_⟩
          · unfold relabel at hk
            split at hk
            · exact .inl hk
            · exact .inr (by omega)
          · exact ((((Chg.refl _ w).drewN _).trans' (HT.out.1) (fun i _ h => by show own i ≠ 0; omega))).store (p := ⟨g, k * 4 + 1, none⟩) (.inl (by show own g ≠ 0; omega)) _
        · rw [if_neg hz]
          have d2 : (er == 0) = false := by simpa using hz
          clear e1 h hc hcv hC hw hpos hD hD' hDb hDc hb hr hpp k0 k1 k2 k3
          go_enter Try.func29, Try.ntmps29
          go_wp2_with (first
            | (go_at_call 34; refine (lCart own w lp _ _ L i H.out).mono ?_; rintro e w1 ⟨rfl, rfl⟩; rw [HCV.out])
            | (go_at_call 51; refine (lWith own w lp _ _ L i H.out).mono ?_; rintro e w1 ⟨rfl, rfl⟩; rw [HW.out]; simp only [slotV]))
          go_quiet ((go_at_call 19; exact quiet_eq (cLen _ C.p C.M C.most C.lost _ (CC.out _))))
          go_wp2_with (
            (go_at_call 14
             refine (cAppend _ C.p C.M C.most C.lost A m c l _ (by exact CC.out _) (by exact HB.out _)).mono ?_
             rintro e w2 ⟨rfl, F', ho, ht⟩
             rw [HR.out] at ho ⊢
             have S2 := Lib.hid (LStep.cart (H.out.below (below_drewN (Below.refl w.heap.size w) _)) HC.out ho ht)
             clear ho ht))
          go_ret2
          obtain ⟨o2, cv2, dv2, q1, q2, q3⟩ := S2.out
          exact ⟨rfl, o2, cv2, dv2, q1, q2, ((Chg.refl _ w).drewN _).trans q3⟩
      · rw [if_neg hpp]
        have d1 : (D.pos != (C.M.length : Int)) = true := by simpa using hpp
        clear e1 h hc hcv hC hw hpos hD hD' hDb hDc hb hpp k0 k1 k2 k3
        go_enter Try.func29, Try.ntmps29
        go_wp2_with (first
          | (go_at_call 34; refine (lCart own w lp _ _ L i H.out).mono ?_; rintro e w1 ⟨rfl, rfl⟩; rw [HCV.out])
          | (go_at_call 51; refine (lWith own w lp _ _ L i H.out).mono ?_; rintro e w1 ⟨rfl, rfl⟩; rw [HW.out]; simp only [slotV]))
        go_quiet ((go_at_call 19; exact quiet_eq (cLen _ C.p C.M C.most C.lost _ (CC.out _))))
        go_wp2_with fail
        go_ret2
        exact ⟨rfl, LStep.below H.out (below_drewN (Below.refl _ _) _)⟩
  · have hcf : isC L n = false := by simpa using hc
    have HCV := Lib.hid (cartV_no hcf)
    have e1 : lappendM L n l = ((0, 1), L) := by unfold lappendM; rw [if_neg hc]
    rw [e1]
    clear e1 h hc hcf hb hpos
    go_enter Try.func29, Try.ntmps29
    go_wp2_with (go_at_call 34; refine (lCart own w lp cv dv L n H.out).mono ?_; rintro e w1 ⟨rfl, rfl⟩; rw [HCV.out])
    go_ret2
    exact ⟨rfl, LStep.below H.out (Below.refl _ _)⟩
end Go.Proofs.Ytiiilimmjoadeaa
