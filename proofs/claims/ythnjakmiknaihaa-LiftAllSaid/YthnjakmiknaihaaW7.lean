/- What the reference function Meets computes. No condition beyond those that each theorem states. -/
import Derived.Test.YthnjakmiknaihaaW6
namespace Go.Proofs.Ythnjakmiknaihaa
open Go.RowKit

theorem optI_none : optI none = -1 := rfl
theorem optI_some (j : Nat) : optI (some j) = j := rfl
theorem i_ret {a b : Int} (h : a = b) : Ending.returned (.int .i64 a) = .returned (.int .i64 b) := by rw [h]

theorem upn_yes {f : Nat → Ask} {hc hp : Int} {k : Nat} (h : ((f k).cart == hc) = true) (h1 : hp ≤ (f k).pos) : upB f hc hp k none = true := by simp only [upB, h, h1]; rfl
theorem upn_no {f : Nat → Ask} {hc hp : Int} {k : Nat} (h1 : ¬ hp ≤ (f k).pos) : upB f hc hp k none = false := by simp [upB, h1]
theorem upu_yes {f : Nat → Ask} {hc hp : Int} {k u : Nat} (h : ((f k).cart == hc) = true) (h1 : hp ≤ (f k).pos) (h2 : (f k).pos < (f u).pos) : upB f hc hp k (some u) = true := by simp only [upB, h, h1, h2]; rfl
theorem upu_no1 {f : Nat → Ask} {hc hp : Int} {k u : Nat} (h1 : ¬ hp ≤ (f k).pos) : upB f hc hp k (some u) = false := by simp [upB, h1]
theorem upu_no2 {f : Nat → Ask} {hc hp : Int} {k u : Nat} (h2 : (f u).pos ≤ (f k).pos) : upB f hc hp k (some u) = false := by simp [upB, Int.not_lt.2 h2]
theorem lown_yes {f : Nat → Ask} {hc : Int} {k : Nat} (h : ((f k).cart == hc) = true) : lowB f hc k none = true := h
theorem lowl_yes {f : Nat → Ask} {hc : Int} {k u : Nat} (h : ((f k).cart == hc) = true) (h2 : (f k).pos < (f u).pos) : lowB f hc k (some u) = true := by simp only [lowB, h, h2]; rfl
theorem lowl_no {f : Nat → Ask} {hc : Int} {k u : Nat} (h2 : (f u).pos ≤ (f k).pos) : lowB f hc k (some u) = false := by simp [lowB, Int.not_lt.2 h2]

set_option maxHeartbeats 4000000 in
theorem meets_any (b off n c : Nat) (f : Nat → Ask) (hc hp : Int) (w : World) (hm : n ≤ 1000000) (hb : b < w.heap.size) (hx : AsksAt w b off n f) :
    Calls Try.prog 16 #[.slice (some ⟨b, off, none⟩) n c, .agg #[.int .i64 hc, .int .i64 hp]] w fun e w' => e = .returned (.int .i64 (optI (alongTo f hc hp n))) ∧ Below w.heap.size w w' := by
  have hfin := Lib.hid (meets_along f hc hp n).1
  go_enter Try.func16, Try.ntmps16
  go_wp2
  go_loopw [5, 6, 7] (fun up low i wr => ∃ k : Nat, k ≤ n ∧ up = .int .i64 (optI (upTo f hc hp k)) ∧ low = .int .i64 (optI (lowTo f hc k)) ∧ i = .int .i64 k ∧ Below (w.heap.size + 1) (w.alloc (.cells #[.int .i64 hc, .int .i64 hp] 35)) wr) (fun _ _ i _ => n - (intOf i).toNat)
  case atStart => exact ⟨0, Nat.zero_le _, rfl, rfl, rfl, Below.refl _ _⟩
  case round =>
    obtain ⟨k, hk, rfl, rfl, rfl, hbel⟩ := hrel
    have hbelw : Below w.heap.size w wr := ((Below.refl _ _).alloc (Nat.le_refl _) _).trans (hbel.mono (by omega))
    obtain ⟨h0, h1, h2, h3, h4, h5⟩ := hx.below hbelw hb
    have e0 : wr.cell? ⟨w.heap.size, 0, none⟩ = some (.int .i64 hc) := (hbel.cell (p := ⟨w.heap.size, 0, none⟩) (by simp)).trans (by go_simp)
    have e1 : wr.cell? ⟨w.heap.size, 1, none⟩ = some (.int .i64 hp) := (hbel.cell (p := ⟨w.heap.size, 1, none⟩) (by simp)).trans (by go_simp)
    have hsz := hbel.size
    simp only [World.size_alloc] at hsz
    have HB := Lib.hid hbel
    have HW := Lib.hid hbelw
    clear hbel hbelw hx
    have hbw : b < wr.heap.size := by omega
    have hww : w.heap.size < wr.heap.size := by omega
    by_cases hlt : k < n
    · have hud : ∀ o, upTo f hc hp k = some o → o < k := fun o h => upTo_lt h
      have hld : ∀ o, lowTo f hc k = some o → o < k := fun o h => lowTo_lt h
      generalize hu : upTo f hc hp k = u at *
      have Hu := Lib.hid hu
      clear hu
      generalize hl : lowTo f hc k = l at *
      have Hl := Lib.hid hl
      clear hl
      by_cases hcart : ((f k).cart == hc) = true
      · have hcart' : ((f k).cart != hc) = false := by simpa using hcart
        rcases u with _ | u <;> rcases l with _ | l <;> by_cases hpp : hp ≤ (f k).pos
        all_goals
          first
          | have hpd : decide (hp ≤ (f k).pos) = true := by simpa using hpp
          | have hpd : decide (hp ≤ (f k).pos) = false := by simpa using hpp
          try have hun : u < n := by have := hud u rfl; omega
          try have hln : l < n := by have := hld l rfl; omega
          clear hud hld
          simp only [optI_none, optI_some]
          go_wp2
          go_quiet (fail)
          go_wp2
          all_goals go_quiet (fail)
          all_goals go_wp2
          all_goals go_quiet (fail)
          all_goals go_wp2
          all_goals
            go_roundw
            case rel =>
              refine ⟨k + 1, hlt, ?_, ?_, by go_num, below_drewN HB.out _⟩
              · first
                | simp only [upTo_yes Hu.out (upn_yes hcart (by omega)), optI_some]
                | simp only [upTo_no Hu.out (upn_no (by omega)), optI_none]
                | simp only [upTo_yes Hu.out (upu_yes hcart (by omega) (by omega)), optI_some]
                | simp only [upTo_no Hu.out (upu_no1 (by omega)), optI_some]
                | simp only [upTo_no Hu.out (upu_no2 (by omega)), optI_some]
              · first
                | simp only [lowTo_yes Hl.out (lown_yes hcart), optI_some]
                | simp only [lowTo_yes Hl.out (lowl_yes hcart (by omega)), optI_some]
                | simp only [lowTo_no Hl.out (lowl_no (by omega)), optI_some]
            case measure => simp [intOf]; omega
      · have hcart : ((f k).cart == hc) = false := by simpa using hcart
        have hcart' : ((f k).cart != hc) = true := by simpa using hcart
        have Hu' := Lib.hid (upTo_no Hu.out (show upB f hc hp k u = false by cases u <;> simp [upB, hcart]))
        have Hl' := Lib.hid (lowTo_no Hl.out (show lowB f hc k l = false by cases l <;> simp [lowB, hcart]))
        clear hud hld
        go_wp2
        go_quiet (fail)
        go_wp2
        go_roundw
        case rel => exact ⟨k + 1, hlt, by rw [Hu'.out], by rw [Hl'.out], by go_num, below_drewN HB.out _⟩
        case measure => simp [intOf]; omega
    · obtain rfl : k = n := by omega
      cases hu : upTo f hc hp k with
      | none =>
        have Hf := Lib.hid (show optI (lowTo f hc k) = optI (alongTo f hc hp k) by have := hfin.out; rw [hu] at this; rw [this])
        clear hfin hu
        simp only [optI_none]
        go_wp2
        go_ret
        exact ⟨i_ret Hf.out, HW.out⟩
      | some u =>
        have Hf := Lib.hid (show (u : Int) = optI (alongTo f hc hp k) by have := hfin.out; rw [hu] at this; rw [this]; rfl)
        clear hfin hu
        simp only [optI_some]
        go_wp2
        go_ret
        exact ⟨i_ret Hf.out, HW.out⟩
end Go.Proofs.Ythnjakmiknaihaa
