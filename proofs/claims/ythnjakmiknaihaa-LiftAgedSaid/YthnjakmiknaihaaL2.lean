/- The law LiftAged returns true on values. No condition beyond those that each theorem states. -/
import Derived.Test.YthnjakmiknaihaaL1
import Derived.Deep.RegionHeld3
namespace Go.Proofs.Ythnjakmiknaihaa
open Go.RowKit

/-- The place of the oldest of the first k; below 0: there is none. -/
def oldI (f : Nat → Ask) (k : Nat) : Int := if k = 0 then -1 else oldestTo f k
theorem oldI_zero (f : Nat → Ask) : oldI f 0 = -1 := rfl
theorem oldI_pos {f : Nat → Ask} {k : Nat} (h : 0 < k) : oldI f k = oldestTo f k := by unfold oldI; rw [if_neg (by omega)]
theorem oldI_one (f : Nat → Ask) : oldI f 1 = 0 := by rw [oldI_pos (by omega)]; simp [oldestTo]

theorem due_late {born now age : Int} (h0 : 0 ≤ born) (h1 : born ≤ 1099511627776) (ha : 0 ≤ age) (ha2 : age ≤ 65535) (hn : born + age ≤ now) (hn2 : now ≤ 4611686018427387904) : dueB born now age = true := by
  unfold dueB
  simp only [IntKind.wrap_u64, Bool.and_eq_true, decide_eq_true_eq]
  omega
theorem nextOf_alone (f : Nat → Ask) (n : Nat) (g : Nat → Hd) (now age : Int) : nextOf f n g 0 now age = oldestTo f n := by
  unfold nextOf
  split <;> rfl

set_option maxHeartbeats 1000000 in
theorem liftAged_walk (A B : Option Addr) (n c m d : Nat) (f : Nat → Ask) (g : Nat → Hd) (late age : Int) (w : World) (hnc : n ≤ c) (hcm : c ≤ 9223372036854775807) (hmd : m ≤ d) (hdm : d ≤ 9223372036854775807)
    (hA : InArg w A n fun b off => AsksAt w b off n f) (hB : InArg w B m fun b off => HeadsAt w b off m g) (hl0 : 0 ≤ late) (hl1 : late ≤ 65535) (ha0 : 0 ≤ age) (ha1 : age ≤ 65535) :
    Calls Try.prog 4 #[.slice A n c, .slice B m d, .int .u16 late, .int .u16 age] w fun e w' => e = .returned (.bool true) ∧ Below w.heap.size w w' := by
  rcases Nat.eq_zero_or_pos n with h0 | h0
  · subst h0
    go_enter Try.func4, Try.ntmps4
    go_wp2_with (first
      | (go_at_call 7; refine (few_any _ _ _ hA.form hnc hcm _).mono ?_; rintro e w1 ⟨rfl, rfl⟩; simp only [Nat.zero_min])
      | (go_at_call 11; refine (awake_any _).mono ?_; rintro e w1 ⟨rfl, hb1⟩))
    go_loopw [10, 11] (fun old i wr => old = .int .i64 (-1) ∧ i = .int .i64 0 ∧ wr = w) (fun _ i _ => 0)
    case atStart => exact ⟨rfl, rfl, rfl⟩
    case round =>
      obtain ⟨rfl, rfl, rfl⟩ := hrel
      go_wp2_with (first
        | (go_at_call 11; refine (awake_any _).mono ?_; rintro e w1 ⟨rfl, hb1⟩))
      go_ret
      exact ⟨rfl, hb1⟩
  · obtain ⟨b, off, rfl, hb, hx⟩ := hA.resolve_left (by omega)
    have hx' := hx.less (Nat.min_le_left n 60)
    have hB' := hB.heads (Nat.min_le_left m 20)
    have hmin : 0 < min n 60 := by omega
    have hle : min n 60 ≤ 1000000 := by omega
    have hle2 : min m 20 ≤ 1000000 := by omega
    have hol := oldestTo_lt f (min n 60) hmin
    generalize hp : min n 60 = p at *
    generalize hr : min m 20 = r at *
    have HP := Lib.hid hp
    have HR := Lib.hid hr
    clear hp hr
    go_enter Try.func4, Try.ntmps4
    go_wp2_with (first
      | (go_at_call 7; refine (few_any _ _ _ hA.form hnc hcm _).mono ?_; rintro e w1 ⟨rfl, rfl⟩; rw [HP.out]))
    go_loopw [10, 11] (fun old i wr => ∃ k : Nat, k ≤ p ∧ old = .int .i64 (oldI f k) ∧ i = .int .i64 k ∧ (∀ j, j < k → 0 ≤ (f j).born ∧ (f j).born ≤ 1099511627776) ∧ Below w.heap.size w wr) (fun _ i _ => p - (intOf i).toNat)
    case atStart => exact ⟨0, by omega, rfl, rfl, fun j hj => absurd hj (by omega), Below.refl _ _⟩
    case round =>
      obtain ⟨k, hk, rfl, rfl, hbo, hbel⟩ := hrel
      have hbw : b < wr.heap.size := Nat.lt_of_lt_of_le hb hbel.size
      have hsz := hbel.size
      obtain ⟨h0, h1, h2, h3, h4, h5⟩ := hx'.below hbel hb
      by_cases hlt : k < p
      · have HBO := Lib.hid hbo
        have HB := Lib.hid hbel
        clear hbel hbo hx hx' hB hB'
        by_cases hb1 : (f k).born < 0
        · have hd : decide ((f k).born < 0) = true := by simpa using hb1
          go_wp2_with (first
            | (go_at_call 11; refine (awake_any _).mono ?_; rintro e w1 ⟨rfl, hbx⟩))
          go_ret
          exact ⟨rfl, HB.out.trans (hbx.mono hsz)⟩
        · have hd : decide ((f k).born < 0) = false := by simpa using hb1
          by_cases hb2 : 1099511627776 < (f k).born
          · go_wp2_with (first
              | (go_at_call 11; refine (awake_any _).mono ?_; rintro e w1 ⟨rfl, hbx⟩))
            go_ret
            exact ⟨rfl, HB.out.trans (hbx.mono hsz)⟩
          · have HBO' : Hid (∀ j, j < k + 1 → 0 ≤ (f j).born ∧ (f j).born ≤ 1099511627776) := by
              intro j hj
              rcases Nat.lt_or_ge j k with h | h
              · exact HBO.out j h
              · obtain rfl : j = k := by omega
                omega
            rcases Nat.eq_zero_or_pos k with hk0 | hk0
            · have hk0' := Lib.hid hk0
              rw [show oldI f k = -1 by rw [hk0]; rfl]
              clear hk0
              go_wp2
              go_quiet (fail)
              go_wp2
              go_roundw
              case rel => exact ⟨k + 1, hlt, by rw [hk0'.out, oldI_one]; rfl, by go_num, HBO', below_drewN HB.out _⟩
              case measure => simp [intOf]; omega
            · rw [oldI_pos hk0]
              have hok := oldestTo_lt f k hk0
              have hop : oldestTo f k < p := by omega
              generalize ho : oldestTo f k = o at *
              have Ho := Lib.hid ho
              clear ho
              have hod : decide ((o : Int) < 0) = false := by simp
              go_wp2
              go_quiet (fail)
              go_wp2
              · go_roundw
                case rel => exact ⟨k + 1, hlt, by rw [oldI_pos (by omega), oldestTo_yes f k (by rw [Ho.out]; omega)], by go_num, HBO', below_drewN HB.out _⟩
                case measure => simp [intOf]; omega
              · go_roundw
                case rel => exact ⟨k + 1, hlt, by rw [oldI_pos (by omega), oldestTo_no f k (by rw [Ho.out]; omega), Ho.out], by go_num, HBO', below_drewN HB.out _⟩
                case measure => simp [intOf]; omega
      · obtain rfl : k = p := by omega
        obtain ⟨hb0, hb1⟩ := hbo _ hol
        rw [oldI_pos hmin]
        have Hd := Lib.hid (nextOf_due (f := f) (n := k) (g := g) (m := r) (now := (f (oldestTo f k)).born + age + late) (due_late hb0 hb1 ha0 ha1 (by omega) (by omega)))
        have Hn := Lib.hid (nextOf_alone f k g (f (oldestTo f k)).born age)
        have hold : oldestTo f k < k := hol
        have HX := Lib.hid (hx'.below hbel hb)
        have HH := Lib.hid (hB'.below hbel)
        have HBF := Lib.hid hB.form
        have HB := Lib.hid hbel
        clear hbel hx hx' hB hB' hbo
        generalize oldestTo f k = o at *
        go_wp2_with (first
          | (go_at_call 8; refine (some_any _ _ _ HBF.out hmd hdm _).mono ?_; rintro e w1 ⟨rfl, rfl⟩; rw [HR.out])
          | (go_at_call 11; refine (awake_any _).mono ?_; rintro e w1 ⟨rfl, hb1⟩))
        have s1 : IntKind.i64.wrap age = age := IntWalk.i64_in _ (by omega)
        have s2 : IntKind.i64.wrap late = late := IntWalk.i64_in _ (by omega)
        have s3 : IntKind.i64.wrap ((f o).born + age) = (f o).born + age := IntWalk.i64_in _ (by omega)
        have s4 : IntKind.i64.wrap ((f o).born + age + late) = (f o).born + age + late := IntWalk.i64_in _ (by omega)
        have hS : wr.cell? ⟨b, off + o * 6 + 5, none⟩ = some (.int .i64 (f o).born) := HX.out.2.2.2.2.2 o hold
        go_region_held3 (fun w' => w'.cell? ⟨b, off + o * 6 + 5, none⟩ = some (.int .i64 (f o).born)) (first | go_keep | exact (hb1.cell (p := ⟨b, off + o * 6 + 5, none⟩) (by exact hbw)).trans hS)
          (first
          | (go_at_call 8; refine (some_any _ _ _ HBF.out hmd hdm _).mono ?_; rintro e w1 ⟨rfl, rfl⟩; rw [HR.out])
          | (go_at_call 9; refine (next_any b off k c f B r d g ((f o).born + age + late) age _ hle hle2 hmin (by exact hbw) (by exact HX.out) (by exact HH.out)).mono ?_; rintro e w1 ⟨rfl, hb1⟩; rw [Hd.out]))
        have HX1 := Lib.hid ((show AsksAt wr.drew b off k f from HX.out).below hb1 hbw)
        have hz1 : wr.heap.size ≤ w1.heap.size := hb1.size
        have hbw1 : b < w1.heap.size := by omega
        have HB1 := Lib.hid (show Below w.heap.size w w1 from HB.out.drew.trans (hb1.mono hsz))
        clear hb1
        go_wp2_with (first
          | (go_at_call 9; refine (next_any b off k c f none 0 0 g (f o).born age _ hle (by omega) hmin (by exact hbw1) (by exact HX1.out) (.inl rfl)).mono ?_; rintro e w2 ⟨rfl, hb2⟩; rw [Hn.out])
          | (go_at_call 11; refine (awake_any _).mono ?_; rintro e w3 ⟨rfl, hb3⟩))
        go_ret
        exact ⟨rfl, (HB1.out.trans (hb2.mono HB1.out.size)).trans (hb3.mono (Nat.le_trans HB1.out.size hb2.size))⟩
end Go.Proofs.Ythnjakmiknaihaa
