/- What lift.before and lift.along compute. No condition beyond those that each theorem states. -/
import Derived.Test.YthnjakmiknaihaaW2
namespace Go.Proofs.Ythnjakmiknaihaa
open Go.RowKit

def beforeB (a b f : Int) : Bool := if (decide (f ≤ a)) != (decide (f ≤ b)) then decide (f ≤ a) else decide (a < b)

set_option maxHeartbeats 400000 in
theorem before_any (a b f : Int) (w : World) :
    Calls Try.prog 17 #[.int .i64 a, .int .i64 b, .int .i64 f] w fun e w' => e = .returned (.bool (beforeB a b f)) ∧ w' = w := by
  go_enter Try.func17, Try.ntmps17
  go_wp2
  all_goals go_ret
  all_goals refine ⟨?_, rfl⟩
  · have h : ((decide (f ≤ a)) != (decide (f ≤ b))) = true := by assumption
    simp only [beforeB, h]; rfl
  · have h : ((decide (f ≤ a)) != (decide (f ≤ b))) = false := by assumption
    simp only [beforeB, h]; rfl

def optI : Option Nat → Int
  | none => -1
  | some j => j

def takesB (f : Nat → Ask) (hc hp : Int) (k : Nat) : Option Nat → Bool
  | none => (f k).cart == hc
  | some o => (f k).cart == hc && beforeB (f k).pos (f o).pos hp

def alongTo (f : Nat → Ask) (hc hp : Int) : Nat → Option Nat
  | 0 => none
  | k + 1 => if takesB f hc hp k (alongTo f hc hp k) then some k else alongTo f hc hp k

theorem alongTo_lt (f : Nat → Ask) (hc hp : Int) (k o : Nat) (h : alongTo f hc hp k = some o) : o < k := by
  induction k with
  | zero => simp [alongTo] at h
  | succ k ih =>
    unfold alongTo at h
    split at h
    · injection h; omega
    · have := ih h; omega

theorem alongTo_yes {f : Nat → Ask} {hc hp : Int} {k : Nat} {o} (ho : alongTo f hc hp k = o) (h : takesB f hc hp k o = true) : alongTo f hc hp (k + 1) = some k := by rw [alongTo, ho, if_pos h]
theorem alongTo_no {f : Nat → Ask} {hc hp : Int} {k : Nat} {o} (ho : alongTo f hc hp k = o) (h : takesB f hc hp k o = false) : alongTo f hc hp (k + 1) = o := by rw [alongTo, ho, if_neg (by simp [h])]

set_option maxHeartbeats 1000000 in
theorem along_any (b off n c : Nat) (f : Nat → Ask) (hc hp : Int) (w : World) (hm : n ≤ 1000000) (hb : b < w.heap.size) (hx : AsksAt w b off n f) :
    Calls Try.prog 13 #[.slice (some ⟨b, off, none⟩) n c, .agg #[.int .i64 hc, .int .i64 hp]] w fun e w' => e = .returned (.int .i64 (optI (alongTo f hc hp n))) ∧ Below w.heap.size w w' := by
  go_enter Try.func13, Try.ntmps13
  go_wp2
  go_loopw [5, 10] (fun best i wr => ∃ k : Nat, k ≤ n ∧ best = .int .i64 (optI (alongTo f hc hp k)) ∧ i = .int .i64 k ∧ Below (w.heap.size + 1) (w.alloc (.cells #[.int .i64 hc, .int .i64 hp] 35)) wr) (fun _ i _ => n - (intOf i).toNat)
  case atStart => exact ⟨0, Nat.zero_le _, rfl, rfl, Below.refl _ _⟩
  case round =>
    obtain ⟨k, hk, rfl, rfl, hbel⟩ := hrel
    have hbelw : Below w.heap.size w wr := ((Below.refl _ _).alloc (Nat.le_refl _) _).trans (hbel.mono (by omega))
    obtain ⟨h0, h1, h2, h3, h4, h5⟩ := hx.below hbelw hb
    have e0 : wr.cell? ⟨w.heap.size, 0, none⟩ = some (.int .i64 hc) := (hbel.cell (p := ⟨w.heap.size, 0, none⟩) (by simp)).trans (by go_simp)
    have e1 : wr.cell? ⟨w.heap.size, 1, none⟩ = some (.int .i64 hp) := (hbel.cell (p := ⟨w.heap.size, 1, none⟩) (by simp)).trans (by go_simp)
    have hsz := hbel.size
    simp only [World.size_alloc] at hsz
    have HB := Lib.hid hbel
    have HW := Lib.hid hbelw
    clear hbel hbelw hx
    have hbw : b < wr.heap.size := by omega
    have hww : w.heap.size < wr.heap.size := by omega
    by_cases hlt : k < n
    · have hbd := alongTo_lt f hc hp k
      generalize ho : alongTo f hc hp k = o at *
      have Ho := Lib.hid ho
      clear ho
      by_cases hcart : ((f k).cart == hc) = true
      · rcases o with _ | o
        · have Hn := Lib.hid (alongTo_yes Ho.out (show takesB f hc hp k none = true from hcart))
          unfold optI
          clear hbd
          go_wp2
          go_quiet (fail)
          go_wp2
          go_roundw
          case rel => exact ⟨k + 1, hlt, by rw [Hn.out]; first | done | rfl, by go_num, below_drewN (HB.out.alloc (by omega) _) _⟩
          case measure => simp [intOf]; omega
        · have hbd := hbd o rfl
          have hob : o < n := by omega
          cases hbf : beforeB (f k).pos (f o).pos hp
          · have Hn := Lib.hid (alongTo_no Ho.out (show takesB f hc hp k (some o) = false by simp [takesB, hbf]))
            have Hb := Lib.hid hbf
            clear hbf
            unfold optI
            dsimp only
            go_wp2
            go_quiet ((go_at_call 17; exact Calls.quiet_of_same ((before_any _ _ _ _).mono fun _ _ ⟨h1, h2⟩ => ⟨by rw [h1, Hb.out], h2⟩)))
            go_wp2
            go_roundw
            case rel => exact ⟨k + 1, hlt, by rw [Hn.out]; first | done | rfl, by go_num, below_drewN (HB.out.alloc (by omega) _) _⟩
            case measure => simp [intOf]; omega
          · have Hn := Lib.hid (alongTo_yes Ho.out (show takesB f hc hp k (some o) = true by rw [takesB, hbf, hcart]; rfl))
            have Hb := Lib.hid hbf
            clear hbf
            unfold optI
            dsimp only
            go_wp2
            go_quiet ((go_at_call 17; exact Calls.quiet_of_same ((before_any _ _ _ _).mono fun _ _ ⟨h1, h2⟩ => ⟨by rw [h1, Hb.out], h2⟩)))
            go_wp2
            go_roundw
            case rel => exact ⟨k + 1, hlt, by rw [Hn.out]; first | done | rfl, by go_num, below_drewN (HB.out.alloc (by omega) _) _⟩
            case measure => simp [intOf]; omega
      · have hcart : ((f k).cart == hc) = false := by simpa using hcart
        have Hn := Lib.hid (alongTo_no Ho.out (show takesB f hc hp k o = false by cases o <;> simp [takesB, hcart]))
        go_wp2
        go_quiet (fail)
        go_wp2
        go_roundw
        case rel => exact ⟨k + 1, hlt, by rw [Hn.out]; first | done | rfl, by go_num, below_drewN (HB.out.alloc (by omega) _) _⟩
        case measure => simp [intOf]; omega
    · obtain rfl : k = n := by omega
      go_wp2
      go_ret
      exact ⟨rfl, HW.out⟩
end Go.Proofs.Ythnjakmiknaihaa
