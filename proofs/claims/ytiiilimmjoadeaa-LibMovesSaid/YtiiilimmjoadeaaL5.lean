/- What a library's method Go does. No condition beyond those that each theorem states. -/
import Derived.Test.YtiiilimmjoadeaaL4
namespace Go.Proofs.Ytiiilimmjoadeaa
open Go.RowKit

def goM (L : LV) (n pos : Int) : Bool × Int × LV :=
  if isC L n = true ∧ 0 ≤ pos ∧ pos ≤ 1024 then
    match withI L.drives n with
    | none => match freeI L.drives with
      | none => (false, 11, L)
      | some k => (false, 0, ⟨L.carts, L.drives.set k ⟨n, 0, L.now + 1, false⟩, L.now + 1⟩)
    | some k => match L.drives[k]? with
      | none => (false, 1, L)
      | some d => (decide (d.pos = pos), 0, ⟨L.carts, L.drives.set k ⟨d.cart, pos, L.now + 1, d.broken⟩, L.now + 1⟩)
  else (false, 1, L)
theorem withI_get {ds : List DV} {n : Int} {k : Nat} (h : withI ds n = some k) : ∃ d, ds[k]? = some d ∧ d.broken = false ∧ d.cart = n ∧ k < ds.length := by
  unfold withI at h
  obtain ⟨hk, hp, _⟩ := List.findIdx?_eq_some_iff_getElem.1 h
  unfold hasD at hp
  simp only [Bool.and_eq_true, Bool.not_eq_true', beq_iff_eq] at hp
  exact ⟨_, List.getElem?_eq_getElem hk, hp.1, hp.2, hk⟩

set_option maxHeartbeats 2000000 in
theorem lGo (own : Nat → Nat) (w : World) (lp : Nat) (cv dv : Value) (L : LV) (n pos : Int) (h : LCore own w lp cv dv L) (hnow : 0 ≤ L.now ∧ L.now < 4611686018427387904) :
    Calls Try.prog 27 #[.pointer (some ⟨lp, 0, none⟩), .int .i64 n, .int .i64 pos] w fun e w' => e = .returned (.tuple #[.bool (goM L n pos).1, .int .i64 (goM L n pos).2.1]) ∧ LCore own w' lp cv dv (goM L n pos).2.2 ∧ Chg (fun k => own k = 1) w w' := by
  have H := Lib.hid h
  by_cases hc : isC L n = true
  · obtain ⟨i, C, rfl, hi, hC, hcv⟩ := isC_get hc
    by_cases hp0 : pos < 0
    · have e1 : goM L i pos = (false, 1, L) := by unfold goM; rw [if_neg (by omega)]
      rw [e1]
      have HCV := Lib.hid hcv
      clear e1 h hc hcv hC
      go_enter Try.func27, Try.ntmps27
      go_wp2_with (go_at_call 34; refine (lCart own w lp cv dv L i H.out).mono ?_; rintro e w1 ⟨rfl, rfl⟩; rw [HCV.out])
      go_ret2
      exact ⟨rfl, H.out, Chg.refl _ _⟩
    by_cases hp1 : 1024 < pos
    · have e1 : goM L i pos = (false, 1, L) := by unfold goM; rw [if_neg (by omega)]
      rw [e1]
      have HCV := Lib.hid hcv
      clear e1 h hc hcv hC
      go_enter Try.func27, Try.ntmps27
      go_wp2_with (go_at_call 34; refine (lCart own w lp cv dv L i H.out).mono ?_; rintro e w1 ⟨rfl, rfl⟩; rw [HCV.out])
      go_ret2
      exact ⟨rfl, H.out, Chg.refl _ _⟩
    have c2 : w.cell? ⟨lp, 2, none⟩ = some (.int .i64 L.now) := h.blk.cell 2
    have f2 : w.frozen? ⟨lp, 2, none⟩ = false := h.blk.free 2
    have HCV := Lib.hid hcv
    rcases hw : withI L.drives i with _ | k
    · have HW := Lib.hid hw
      rcases hf : freeI L.drives with _ | k
      · have HF := Lib.hid hf
        have e1 : goM L i pos = (false, 11, L) := by unfold goM; rw [if_pos ⟨hc, by omega, by omega⟩, hw, hf]
        rw [e1]
        clear e1 h hc hcv hC hw hf
        go_enter Try.func27, Try.ntmps27
        go_wp2_with (first
          | (go_at_call 34; refine (lCart own w lp cv dv L i H.out).mono ?_; rintro e w1 ⟨rfl, rfl⟩; rw [HCV.out])
          | (go_at_call 51; refine (lWith own w lp cv dv L i H.out).mono ?_; rintro e w1 ⟨rfl, rfl⟩; rw [HW.out]; simp only [slotV])
          | (go_at_call 52; refine (lFree own w lp cv dv L H.out).mono ?_; rintro e w1 ⟨rfl, nd, rfl⟩; rw [HF.out]; simp only [slotV]))
        go_ret2
        exact ⟨rfl, H.out.below (below_drewN (Below.refl _ _) _), (Chg.refl _ _).drewN _⟩
      · have HF := Lib.hid hf
        have hkl : k < L.drives.length := (freeK_lt hf).1
        rcases h.rd.form with ⟨_, h0⟩ | ⟨g, cap, rfl, _, _, hg1, hgs⟩
        · omega
        have fr : ∀ j, w.frozen? ⟨g, j, none⟩ = false := fun j => h.rd.row.free j
        have hgl : g ≠ lp := by
          obtain ⟨cs, hcs⟩ := own_blk h.rd.1 (g := g) rfl
          exact blk_ne hcs h.blk (by decide)
        obtain ⟨D, hD⟩ : ∃ D, L.drives[k]? = some D := ⟨_, List.getElem?_eq_getElem hkl⟩
        have k0 : w.cell? ⟨g, k * 4, none⟩ = some (.int .i64 D.cart) := h.drive_cell rfl hD (q := 0) (by decide) rfl
        have k1 : w.cell? ⟨g, k * 4 + 1, none⟩ = some (.int .i64 D.pos) := h.drive_cell rfl hD (q := 1) (by decide) rfl
        have k2 : w.cell? ⟨g, k * 4 + 2, none⟩ = some (.int .i64 D.last) := h.drive_cell rfl hD (q := 2) (by decide) rfl
        have k3 : w.cell? ⟨g, k * 4 + 3, none⟩ = some (.bool D.broken) := h.drive_cell rfl hD (q := 3) (by decide) rfl
        have fin : ∀ nd0, LCore own ((((((w.drewN nd0).setCell ⟨lp, 2, none⟩ (.int .i64 (L.now + 1))).setCell ⟨g, k * 4, none⟩ (.int .i64 i)).setCell ⟨g, k * 4 + 1, none⟩ (.int .i64 0)).setCell ⟨g, k * 4 + 2, none⟩ (.int .i64 (L.now + 1))).setCell ⟨g, k * 4 + 3, none⟩ (.bool false)) lp cv (.slice (some ⟨g, 0, none⟩) L.drives.length cap) ⟨L.carts, L.drives.set k ⟨i, 0, L.now + 1, false⟩, L.now + 1⟩ ∧ Chg (fun k => own k = 1) w ((((((w.drewN nd0).setCell ⟨lp, 2, none⟩ (.int .i64 (L.now + 1))).setCell ⟨g, k * 4, none⟩ (.int .i64 i)).setCell ⟨g, k * 4 + 1, none⟩ (.int .i64 0)).setCell ⟨g, k * 4 + 2, none⟩ (.int .i64 (L.now + 1))).setCell ⟨g, k * 4 + 3, none⟩ (.bool false)) := by
          intro nd0
          have hr : OwnRow (fun k => own k = 1) ((w.drewN nd0).setCell ⟨lp, 2, none⟩ (.int .i64 (L.now + 1))) 93 4 (.slice (some ⟨g, 0, none⟩) L.drives.length cap) L.drives.length (drvs L.drives) := ⟨own_of_eq h.rd.1 (fun q hq => Below.heap_setCell _ _ _ _ (by
            have e : g = q := Option.some.inj hq
            rw [← e]
            exact hgl)), h.rd.2⟩
          have hchg : ∀ S : Nat → Prop, S lp → S g → Chg S w ((((((w.drewN nd0).setCell ⟨lp, 2, none⟩ (.int .i64 (L.now + 1))).setCell ⟨g, k * 4, none⟩ (.int .i64 i)).setCell ⟨g, k * 4 + 1, none⟩ (.int .i64 0)).setCell ⟨g, k * 4 + 2, none⟩ (.int .i64 (L.now + 1))).setCell ⟨g, k * 4 + 3, none⟩ (.bool false)) := fun S h1 h2 =>
            ((((((Chg.refl S w).drewN nd0).store (p := ⟨lp, 2, none⟩) (.inl h1) _).store (p := ⟨g, k * 4, none⟩) (.inl h2) _).store (p := ⟨g, k * 4 + 1, none⟩) (.inl h2) _).store (p := ⟨g, k * 4 + 2, none⟩) (.inl h2) _).store (p := ⟨g, k * 4 + 3, none⟩) (.inl h2) _
          refine ⟨LCore.turn (S := fun k => k = lp ∨ k = g) h (fun _ h => h) ?_ ?_ (by simp) (hchg _ (.inl rfl) (.inr rfl)), hchg _ h.lab hg1⟩
          · exact ((((h.blk.drewN nd0).store 2 (.int .i64 (L.now + 1))).apart (p := ⟨g, k * 4, none⟩) (Ne.symm hgl) _).apart (p := ⟨g, k * 4 + 1, none⟩) (Ne.symm hgl) _).apart (p := ⟨g, k * 4 + 2, none⟩) (Ne.symm hgl) _ |>.apart (p := ⟨g, k * 4 + 3, none⟩) (Ne.symm hgl) _
          · rw [List.length_set]
            exact hr.setDrive hD i 0 (L.now + 1) false
        have FIN := Lib.hid fin
        clear fin
        have e1 : goM L i pos = (false, 0, ⟨L.carts, L.drives.set k ⟨i, 0, L.now + 1, false⟩, L.now + 1⟩) := by unfold goM; rw [if_pos ⟨hc, by omega, by omega⟩, hw, hf]
        rw [e1]
        clear e1 h hc hcv hC hw hf
        go_enter Try.func27, Try.ntmps27
        go_wp2_with (first
          | (go_at_call 34; refine (lCart own w lp cv _ L i H.out).mono ?_; rintro e w1 ⟨rfl, rfl⟩; rw [HCV.out])
          | (go_at_call 51; refine (lWith own w lp cv _ L i H.out).mono ?_; rintro e w1 ⟨rfl, rfl⟩; rw [HW.out]; simp only [slotV])
          | (go_at_call 52; refine (lFree own w lp cv _ L H.out).mono ?_; rintro e w1 ⟨rfl, nd, rfl⟩; rw [HF.out]; simp only [slotV]))
        go_ret2
        exact ⟨rfl, FIN.out _⟩
    · have HW := Lib.hid hw
      obtain ⟨D, hD, hDb, hDc, hkl⟩ := withI_get hw
      rcases h.rd.form with ⟨_, h0⟩ | ⟨g, cap, rfl, _, _, hg1, hgs⟩
      · omega
      have fr : ∀ j, w.frozen? ⟨g, j, none⟩ = false := fun j => h.rd.row.free j
      have hgl : g ≠ lp := by
        obtain ⟨cs, hcs⟩ := own_blk h.rd.1 (g := g) rfl
        exact blk_ne hcs h.blk (by decide)
      have k1 : w.cell? ⟨g, k * 4 + 1, none⟩ = some (.int .i64 D.pos) := h.drive_cell rfl hD (q := 1) (by decide) rfl
      have k2 : w.cell? ⟨g, k * 4 + 2, none⟩ = some (.int .i64 D.last) := h.drive_cell rfl hD (q := 2) (by decide) rfl
      have hr : OwnRow (fun k => own k = 1) (w.setCell ⟨lp, 2, none⟩ (.int .i64 (L.now + 1))) 93 4 (.slice (some ⟨g, 0, none⟩) L.drives.length cap) L.drives.length (drvs L.drives) := ⟨own_of_eq h.rd.1 (fun q hq => Below.heap_setCell _ _ _ _ (by
        have e : g = q := Option.some.inj hq
        rw [← e]
        exact hgl)), h.rd.2⟩
      have hr2 := hr.setPart (d' := ⟨D.cart, D.pos, L.now + 1, D.broken⟩) (q := 2) (u := .int .i64 (L.now + 1)) hD (by decide) rfl
      have e0 : goM L i pos = (decide (D.pos = pos), 0, ⟨L.carts, L.drives.set k ⟨D.cart, pos, L.now + 1, D.broken⟩, L.now + 1⟩) := by unfold goM; rw [if_pos ⟨hc, by omega, by omega⟩, hw]; simp only [hD]
      rw [e0]
      by_cases hpp : D.pos = pos
      · have fin : LCore own ((w.setCell ⟨lp, 2, none⟩ (.int .i64 (L.now + 1))).setCell ⟨g, k * 4 + 2, none⟩ (.int .i64 (L.now + 1))) lp cv (.slice (some ⟨g, 0, none⟩) L.drives.length cap) ⟨L.carts, L.drives.set k ⟨D.cart, pos, L.now + 1, D.broken⟩, L.now + 1⟩ ∧ Chg (fun k => own k = 1) w ((w.setCell ⟨lp, 2, none⟩ (.int .i64 (L.now + 1))).setCell ⟨g, k * 4 + 2, none⟩ (.int .i64 (L.now + 1))) := by
          have hchg : ∀ S : Nat → Prop, S lp → S g → Chg S w ((w.setCell ⟨lp, 2, none⟩ (.int .i64 (L.now + 1))).setCell ⟨g, k * 4 + 2, none⟩ (.int .i64 (L.now + 1))) := fun S h1 h2 =>
            ((Chg.refl S w).store (p := ⟨lp, 2, none⟩) (.inl h1) _).store (p := ⟨g, k * 4 + 2, none⟩) (.inl h2) _
          refine ⟨LCore.turn (S := fun k => k = lp ∨ k = g) h (fun _ h => h) ?_ ?_ (by simp) (hchg _ (.inl rfl) (.inr rfl)), hchg _ h.lab hg1⟩
          · exact (h.blk.store 2 (.int .i64 (L.now + 1))).apart (p := ⟨g, k * 4 + 2, none⟩) (Ne.symm hgl) _
          · rw [List.length_set, ← hpp]
            exact hr2
        have FIN := Lib.hid fin
        have d1 : (D.pos != pos) = false := by simpa using hpp
        have d2 : decide (D.pos = pos) = true := by simpa using hpp
        rw [d2]
        clear fin e0 h hc hcv hC hw hr hr2 hD hpp
        go_enter Try.func27, Try.ntmps27
        go_wp2_with (first
          | (go_at_call 34; refine (lCart own w lp cv _ L i H.out).mono ?_; rintro e w1 ⟨rfl, rfl⟩; rw [HCV.out])
          | (go_at_call 51; refine (lWith own w lp cv _ L i H.out).mono ?_; rintro e w1 ⟨rfl, rfl⟩; rw [HW.out]; simp only [slotV]))
        go_ret2
        exact ⟨rfl, FIN.out⟩
      · have hl2 : (L.drives.set k ⟨D.cart, D.pos, L.now + 1, D.broken⟩)[k]? = some ⟨D.cart, D.pos, L.now + 1, D.broken⟩ := by simp [hkl]
        have hr3 := hr2.setPart (d' := ⟨D.cart, pos, L.now + 1, D.broken⟩) (q := 1) (u := .int .i64 pos) hl2 (by decide) rfl
        rw [List.set_set] at hr3
        have fin : LCore own (((w.setCell ⟨lp, 2, none⟩ (.int .i64 (L.now + 1))).setCell ⟨g, k * 4 + 2, none⟩ (.int .i64 (L.now + 1))).setCell ⟨g, k * 4 + 1, none⟩ (.int .i64 pos)) lp cv (.slice (some ⟨g, 0, none⟩) L.drives.length cap) ⟨L.carts, L.drives.set k ⟨D.cart, pos, L.now + 1, D.broken⟩, L.now + 1⟩ ∧ Chg (fun k => own k = 1) w (((w.setCell ⟨lp, 2, none⟩ (.int .i64 (L.now + 1))).setCell ⟨g, k * 4 + 2, none⟩ (.int .i64 (L.now + 1))).setCell ⟨g, k * 4 + 1, none⟩ (.int .i64 pos)) := by
          have hchg : ∀ S : Nat → Prop, S lp → S g → Chg S w (((w.setCell ⟨lp, 2, none⟩ (.int .i64 (L.now + 1))).setCell ⟨g, k * 4 + 2, none⟩ (.int .i64 (L.now + 1))).setCell ⟨g, k * 4 + 1, none⟩ (.int .i64 pos)) := fun S h1 h2 =>
            (((Chg.refl S w).store (p := ⟨lp, 2, none⟩) (.inl h1) _).store (p := ⟨g, k * 4 + 2, none⟩) (.inl h2) _).store (p := ⟨g, k * 4 + 1, none⟩) (.inl h2) _
          refine ⟨LCore.turn (S := fun k => k = lp ∨ k = g) h (fun _ h => h) ?_ ?_ (by simp) (hchg _ (.inl rfl) (.inr rfl)), hchg _ h.lab hg1⟩
          · exact ((h.blk.store 2 (.int .i64 (L.now + 1))).apart (p := ⟨g, k * 4 + 2, none⟩) (Ne.symm hgl) _).apart (p := ⟨g, k * 4 + 1, none⟩) (Ne.symm hgl) _
          · rw [List.length_set]
            exact hr3
        have FIN := Lib.hid fin
        have d1 : (D.pos != pos) = true := by simpa using hpp
        have d2 : decide (D.pos = pos) = false := by simpa using hpp
        rw [d2]
        clear fin e0 h hc hcv hC hw hr hr2 hr3 hl2 hD hpp
        go_enter Try.func27, Try.ntmps27
        go_wp2_with (first
          | (go_at_call 34; refine (lCart own w lp cv _ L i H.out).mono ?_; rintro e w1 ⟨rfl, rfl⟩; rw [HCV.out])
          | (go_at_call 51; refine (lWith own w lp cv _ L i H.out).mono ?_; rintro e w1 ⟨rfl, rfl⟩; rw [HW.out]; simp only [slotV]))
        go_ret2
        exact ⟨rfl, FIN.out⟩
  · have hcf : isC L n = false := by simpa using hc
    have HCV := Lib.hid (cartV_no hcf)
    have e1 : goM L n pos = (false, 1, L) := by unfold goM; rw [if_neg (fun h => hc h.1)]
    rw [e1]
    clear e1 h hc hcf
    go_enter Try.func27, Try.ntmps27
    go_wp2_with (go_at_call 34; refine (lCart own w lp cv dv L n H.out).mono ?_; rintro e w1 ⟨rfl, rfl⟩; rw [HCV.out])
    go_ret2
    exact ⟨rfl, H.out, Chg.refl _ _⟩
end Go.Proofs.Ytiiilimmjoadeaa
