/- What a library's methods Read and Append do. No condition beyond those that each theorem states. -/
import Derived.Test.YtiiilimmjoadeaaL6
namespace Go.Proofs.Ytiiilimmjoadeaa
open Go.RowKit

def lreadM (L : LV) (n pos : Int) : (List UInt8 × Int) × LV :=
  if isC L n = true then match withI L.drives n with
    | none => (([], 8), L)
    | some k => match L.drives[k]?, L.carts[n.toNat]? with
      | some d, some C => if d.pos = pos then (readM C.M C.lost pos, ⟨L.carts, L.drives.set k ⟨d.cart, d.pos + 1, d.last, d.broken⟩, L.now⟩) else (([], 8), L)
      | _, _ => (([], 8), L)
  else (([], 1), L)
def lappendM (L : LV) (n : Int) (l : List UInt8) : (Int × Int) × LV :=
  if isC L n = true then match withI L.drives n with
    | none => ((0, 8), L)
    | some k => match L.drives[k]?, L.carts[n.toNat]? with
      | some d, some C => if d.pos = C.M.length then
          (((appendM C.M C.most C.lost l).1, (appendM C.M C.most C.lost l).2.1), ⟨L.carts.set n.toNat ⟨C.p, (appendM C.M C.most C.lost l).2.2, C.most, C.lost⟩, if (appendM C.M C.most C.lost l).2.1 = 0 then L.drives.set k ⟨d.cart, d.pos + 1, d.last, d.broken⟩ else L.drives, L.now⟩)
        else ((0, 8), L)
      | _, _ => ((0, 8), L)
  else ((0, 1), L)

theorem OutB.of_size {w w1 w' : World} {v : Value} {l : List UInt8} (h : OutB w1 w' v l) (hs : w.heap.size ≤ w1.heap.size) : OutB w w' v l := by
  rcases h with h | ⟨g, cap, hv, h1, h2, h3, hr⟩
  · exact .inl h
  · exact .inr ⟨g, cap, hv, Nat.le_trans hs h1, h2, h3, hr⟩

set_option maxHeartbeats 2000000 in
theorem lRead (own : Nat → Nat) (w : World) (lp : Nat) (cv dv : Value) (L : LV) (n pos : Int) (h : LCore own w lp cv dv L) (hpos : ∀ d ∈ L.drives, 0 ≤ d.pos ∧ d.pos < 4611686018427387904) :
    Calls Try.prog 28 #[.pointer (some ⟨lp, 0, none⟩), .int .i64 n, .int .i64 pos] w fun e w' => ∃ v, e = .returned (.tuple #[v, .int .i64 (lreadM L n pos).1.2]) ∧ OutB w w' v (lreadM L n pos).1.1 ∧ LCore own w' lp cv dv (lreadM L n pos).2 ∧ Chg (fun k => own k ≠ 0) w w' := by
  have H := Lib.hid h
  by_cases hc : isC L n = true
  · obtain ⟨i, C, rfl, hi, hC, hcv⟩ := isC_get hc
    have HCV := Lib.hid hcv
    rcases hw : withI L.drives i with _ | k
    · have HW := Lib.hid hw
      have e1 : lreadM L i pos = (([], 8), L) := by unfold lreadM; rw [if_pos hc, hw]
      rw [e1]
      clear e1 h hc hcv hC hw hpos
      go_enter Try.func28, Try.ntmps28
      go_wp2_with (first
        | (go_at_call 34; refine (lCart own w lp cv dv L i H.out).mono ?_; rintro e w1 ⟨rfl, rfl⟩; rw [HCV.out])
        | (go_at_call 51; refine (lWith own w lp cv dv L i H.out).mono ?_; rintro e w1 ⟨rfl, rfl⟩; rw [HW.out]; simp only [slotV]))
      go_ret2
      exact ⟨_, rfl, .inl ⟨rfl, rfl⟩, H.out, Chg.refl _ _⟩
    · have HW := Lib.hid hw
      obtain ⟨D', hD', hDb, hDc, hkl⟩ := withI_get hw
      obtain ⟨g, cap, D, rfl, hD, hgl, hg1, hgs, fr, k0, k1, k2, k3⟩ := h.live hkl
      have hb := hpos D (List.mem_of_getElem? hD)
      have e1 : lreadM L i pos = if D.pos = pos then (readM C.M C.lost pos, ⟨L.carts, L.drives.set k ⟨D.cart, D.pos + 1, D.last, D.broken⟩, L.now⟩) else (([], 8), L) := by
        unfold lreadM; rw [if_pos hc, hw]; simp only [hD, Int.toNat_natCast, hC]
      rw [e1]
      by_cases hpp : D.pos = pos
      · rw [if_pos hpp]
        have s0 := h.put1 (d' := ⟨D.cart, D.pos + 1, D.last, D.broken⟩) hD hgl (q := 1) (u := .int .i64 (D.pos + 1)) (by decide) rfl
        have S0 := Lib.hid s0
        have CC := Lib.hid (s0.cs i C hC)
        have hch : Chg (fun k => own k ≠ 0) w (w.setCell ⟨g, k * 4 + 1, none⟩ (.int .i64 (D.pos + 1))) := (Chg.refl (fun k => own k ≠ 0) w).store (p := ⟨g, k * 4 + 1, none⟩) (.inl (by show own g ≠ 0; rw [hg1]; decide)) _
        have CH := Lib.hid hch
        rcases h.rc.form with ⟨_, h0⟩ | ⟨gc, capc, rfl, _, _, hgc1, hgcs⟩
        · omega
        have x1 : w.cell? ⟨lp, 0, none⟩ = some (.slice (some ⟨gc, 0, none⟩) L.carts.length capc) := h.blk.cell 0
        have x2 : w.cell? ⟨gc, i, none⟩ = some (.pointer (some ⟨C.p, 0, none⟩)) := h.cart_cell rfl hC
        have hgg : gc ≠ g := by
          obtain ⟨cs, hcs⟩ := own_blk h.rd.1 (g := g) rfl
          obtain ⟨cq, hcq⟩ := own_blk h.rc.1 (g := gc) rfl
          exact blk_ne hcq hcs (by decide)
        have d1 : (D.pos != pos) = false := by simpa using hpp
        clear e1 h hc hcv hC hw hpos s0 hch hD hD' hDb hDc hpp
        go_enter Try.func28, Try.ntmps28
        go_wp2_with (first
          | (go_at_call 34; refine (lCart own w lp _ _ L i H.out).mono ?_; rintro e w1 ⟨rfl, rfl⟩; rw [HCV.out])
          | (go_at_call 51; refine (lWith own w lp _ _ L i H.out).mono ?_; rintro e w1 ⟨rfl, rfl⟩; rw [HW.out]; simp only [slotV])
          | (go_at_call 16; refine (cRead _ C.p C.M C.most C.lost pos _ CC.out).mono ?_; rintro e w1 ⟨v, rfl, ho, hbl⟩))
        go_ret2
        exact ⟨_, rfl, ho.of_size CH.out.size, S0.out.below hbl, CH.out.trans (Chg.of_below _ hbl)⟩
      · rw [if_neg hpp]
        have d1 : (D.pos != pos) = true := by simpa using hpp
        clear e1 h hc hcv hC hw hpos hD hD' hDb hDc hpp
        go_enter Try.func28, Try.ntmps28
        go_wp2_with (first
          | (go_at_call 34; refine (lCart own w lp _ _ L i H.out).mono ?_; rintro e w1 ⟨rfl, rfl⟩; rw [HCV.out])
          | (go_at_call 51; refine (lWith own w lp _ _ L i H.out).mono ?_; rintro e w1 ⟨rfl, rfl⟩; rw [HW.out]; simp only [slotV]))
        go_ret2
        exact ⟨_, rfl, .inl ⟨rfl, rfl⟩, H.out, Chg.refl _ _⟩
  · have hcf : isC L n = false := by simpa using hc
    have HCV := Lib.hid (cartV_no hcf)
    have e1 : lreadM L n pos = (([], 1), L) := by unfold lreadM; rw [if_neg hc]
    rw [e1]
    clear e1 h hc hcf
    go_enter Try.func28, Try.ntmps28
    go_wp2_with (go_at_call 34; refine (lCart own w lp cv dv L n H.out).mono ?_; rintro e w1 ⟨rfl, rfl⟩; rw [HCV.out])
    go_ret2
    exact ⟨_, rfl, .inl ⟨rfl, rfl⟩, H.out, Chg.refl _ _⟩
end Go.Proofs.Ytiiilimmjoadeaa
