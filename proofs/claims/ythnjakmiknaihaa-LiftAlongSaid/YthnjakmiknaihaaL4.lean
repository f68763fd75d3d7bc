/- The law LiftAlong returns true on values. No condition beyond those that each theorem states. -/
import Derived.Test.YthnjakmiknaihaaL3
import Derived.Test.YthnjakmiknaihaaK2
import Derived.Deep.RegionHeld3
namespace Go.Proofs.Ythnjakmiknaihaa
open Go.RowKit

theorem hd_info : (Try.prog.info? 35).map (fun i => (i.zero, i.size, i.bytes)) = some (some (.agg #[.int .i64 0, .int .i64 0]), 2, 16) := by kernel_rfl

theorem mineTo_le {f : Nat → Ask} {hc : Int} {k m : Nat} (h : mineTo f hc k = true) (hm : k ≤ m) : mineTo f hc m = true := by
  induction m with
  | zero => obtain rfl : k = 0 := by omega
            exact h
  | succ m ih =>
    rcases Nat.lt_or_ge m k with hlt | hge
    · obtain rfl : k = m + 1 := by omega
      exact h
    · simp [mineTo, ih hge]

theorem keepc {B : Nat} {w w' : World} {b o : Nat} {v : Value} (h : Below B w w') (hb : b < B) (hc : w.cell? ⟨b, o, none⟩ = some v) : w'.cell? ⟨b, o, none⟩ = some v := (h.cell (p := ⟨b, o, none⟩) hb).trans hc

/-- A list of heads as the source of an append. -/
theorem heads_src {w : World} {B : Option Addr} {r : Nat} {g : Nat → Hd} (h : InArg w B r fun b off => HeadsAt w b off r g) :
    ∃ news : List Value, news.length = r * 2 ∧ (B = none → r = 0) ∧ (∀ w' : World, Below w.heap.size w w' → SrcAt w' B r news) ∧ (∀ u ∈ news, u.oneCell' = true) ∧
      ∀ i, i < r → news[i * 2]? = some (.int .i64 (g i).cart) ∧ news[i * 2 + 1]? = some (.int .i64 (g i).pos) := by
  rcases h with rfl | ⟨b, off, rfl, hb, h0, h1⟩
  · exact ⟨[], rfl, fun _ => rfl, fun _ _ => .inl ⟨rfl, rfl⟩, by simp, fun i hi => absurd hi (by omega)⟩
  · have hall : ∀ j, j < r * 2 → ∃ u, w.cell? ⟨b, off + j, none⟩ = some u ∧ u.oneCell' = true := by
      intro j hj
      rcases Nat.mod_two_eq_zero_or_one j with hm | hm
      · exact ⟨_, by rw [show j = j / 2 * 2 by omega]; exact h0 (j / 2) (by omega), rfl⟩
      · exact ⟨_, by rw [show off + j = off + j / 2 * 2 + 1 by omega]; exact h1 (j / 2) (by omega), rfl⟩
    refine ⟨srcVals w b off (r * 2), srcVals_length _ _ _ _, (fun h => by cases h), fun w' hb' => ?_, srcVals_one hall, fun i hi => ⟨srcVals_get (by omega) (h0 i hi), srcVals_get (by omega) (by rw [← Nat.add_assoc]; exact h1 i hi)⟩⟩
    rcases srcVals_at (m := r) (fun j hj => (hall j hj).imp fun _ h => h.1) with h | ⟨b', off', h, hc⟩
    · exact .inl h
    · injection h with h
      injection h with h1 h2
      subst h1; subst h2
      exact .inr ⟨b, off, rfl, fun j u hu => (hb'.cell (p := ⟨b, off + j, none⟩) hb).trans (hc j u hu)⟩

theorem own_one (W : World) (x y : Int) : (W.alloc (.cells #[.int .i64 x, .int .i64 y] 35)).ownsRow 0 35 2 (.slice (some ⟨W.heap.size, 0, none⟩) 1 1) 1 [.int .i64 x, .int .i64 y] :=
  ⟨rfl, .inr ⟨_, 1, _, rfl, Nat.zero_le _, heap_alloc_new W _, Nat.le_refl _, by simp [maxLen], rfl, rfl⟩⟩

theorem heads_cons {w : World} {gb r cap : Nat} {hc hp : Int} {g : Nat → Hd} {news : List Value} (h : w.ownsRow 0 35 2 (.slice (some ⟨gb, 0, none⟩) (1 + r) cap) (1 + r) ([.int .i64 hc, .int .i64 hp] ++ news))
    (hn : ∀ i, i < r → news[i * 2]? = some (.int .i64 (g i).cart) ∧ news[i * 2 + 1]? = some (.int .i64 (g i).pos)) : HeadsAt w gb 0 (1 + r) (consHd ⟨hc, hp⟩ g) := by
  have hcell := h.cells (g := gb) rfl
  have hc' : ∀ j u, ([.int .i64 hc, .int .i64 hp] ++ news)[j]? = some u → w.cell? ⟨gb, 0 + j, none⟩ = some u := fun j u hu => by rw [← add_plain]; exact hcell j u hu
  refine ⟨fun i hi => hc' _ _ ?_, fun i hi => ?_⟩
  · rcases i with _ | i
    · rfl
    · rw [List.getElem?_append_right (by simp; omega)]
      simpa [consHd, show (i + 1) * 2 - 2 = i * 2 by omega] using (hn i (by omega)).1
  · rw [Nat.add_assoc]
    refine hc' _ _ ?_
    rcases i with _ | i
    · rfl
    · rw [List.getElem?_append_right (by simp; omega)]
      simpa [consHd, show (i + 1) * 2 + 1 - 2 = i * 2 + 1 by omega] using (hn i (by omega)).2

theorem best_cases {p x hp : Int} (h : beforeB p x hp = false) : (hp ≤ x ∧ hp ≤ p ∧ x ≤ p) ∨ (hp ≤ x ∧ p < hp) ∨ (x < hp ∧ p < hp ∧ x ≤ p) := by
  unfold beforeB at h
  by_cases h1 : hp ≤ p <;> by_cases h2 : hp ≤ x <;> simp [h1, h2] at h <;> omega

set_option maxRecDepth 100000 in
set_option maxHeartbeats 2000000 in
theorem liftAlong_walk (A B : Option Addr) (n c m d : Nat) (f : Nat → Ask) (g : Nat → Hd) (hc hp : Int) (w : World) (hnc : n ≤ c) (hcm : c ≤ 9223372036854775807) (hmd : m ≤ d) (hdm : d ≤ 9223372036854775807)
    (hA : InArg w A n fun b off => AsksAt w b off n f) (hB : InArg w B m fun b off => HeadsAt w b off m g) :
    Calls Try.prog 5 #[.slice A n c, .agg #[.int .i64 hc, .int .i64 hp], .slice B m d] w fun e w' => e = .returned (.bool true) ∧ Below w.heap.size w w' := by
  have hx : ∀ k, k < min n 60 → ∃ b off, A = some ⟨b, off, none⟩ ∧ b < w.heap.size ∧ AsksAt w b off (min n 60) f := fun k hk => by
    obtain ⟨b, off, h1, h2, h3⟩ := hA.resolve_left (by omega)
    exact ⟨b, off, h1, h2, h3.less (Nat.min_le_left n 60)⟩
  have hB' := hB.heads (Nat.min_le_left m 20)
  have hle : min n 60 ≤ 1000000 := by omega
  have hle2 : min m 20 ≤ 20 := by omega
  generalize hp' : min n 60 = p at *
  generalize hr' : min m 20 = r at *
  have HP := Lib.hid hp'
  have HR := Lib.hid hr'
  have HX := Lib.hid hx
  have HBF := Lib.hid hB.form
  have HAF := Lib.hid hA.form
  have HH := Lib.hid hB'
  clear hp' hr' hx hA hB hB'
  go_enter Try.func5, Try.ntmps5
  go_wp2_with (first
    | (go_at_call 7; refine (few_any _ _ _ HAF.out hnc hcm _).mono ?_; rintro e w1 ⟨rfl, rfl⟩; rw [HP.out]))
  go_loopw [8, 9] (fun mine i wr => ∃ k : Nat, k ≤ p ∧ mine = .bool (mineTo f hc k) ∧ i = .int .i64 k ∧ (∀ j, j < k → 0 ≤ (f j).born) ∧ Below (w.heap.size + 1) (w.alloc (.cells #[.int .i64 hc, .int .i64 hp] 35)) wr) (fun _ i _ => p - (intOf i).toNat)
  case atStart => exact ⟨0, by omega, rfl, rfl, fun j hj => absurd hj (by omega), Below.refl _ _⟩
  case round =>
    obtain ⟨k, hk, rfl, rfl, hbo, hbel⟩ := hrel
    have hbelw : Below w.heap.size w wr := ((Below.refl _ _).alloc (Nat.le_refl _) _).trans (hbel.mono (by omega))
    have e0 : wr.cell? ⟨w.heap.size, 0, none⟩ = some (.int .i64 hc) := (hbel.cell (p := ⟨w.heap.size, 0, none⟩) (by simp)).trans (by go_simp)
    have e1 : wr.cell? ⟨w.heap.size, 1, none⟩ = some (.int .i64 hp) := (hbel.cell (p := ⟨w.heap.size, 1, none⟩) (by simp)).trans (by go_simp)
    have hsz := hbel.size
    simp only [World.size_alloc] at hsz
    have HB := Lib.hid hbel
    have HW := Lib.hid hbelw
    have HBO := Lib.hid hbo
    clear hbel hbelw hbo
    have hww : w.heap.size < wr.heap.size := by omega
    by_cases hlt : k < p
    · obtain ⟨b, off, rfl, hb, hxx⟩ := HX.out k hlt
      obtain ⟨h0, h1, h2, h3, h4, h5⟩ := hxx.below HW.out hb
      clear hxx
      have hbw : b < wr.heap.size := by omega
      by_cases hb1 : (f k).born < 0
      · have hm : Hid True := trivial
        cases hmi : mineTo f hc k
        all_goals
          clear hmi
          go_wp2_with (fail)
          go_quiet (fail)
          go_wp2_with (first
            | (go_at_call 11; refine (awake_any _).mono ?_; rintro e w1 ⟨rfl, hbx⟩))
          go_ret
          exact ⟨rfl, (below_drewN HW.out _).trans (hbx.mono (by exact Nat.le_of_lt hww))⟩
      · have HBO' : Hid (∀ j, j < k + 1 → 0 ≤ (f j).born) := by
          intro j hj
          rcases Nat.lt_or_ge j k with h | h
          · exact HBO.out j h
          · obtain rfl : j = k := by omega
            omega
        cases hmi : mineTo f hc k
        · have HMI := Lib.hid hmi
          clear hmi
          go_wp2_with (fail)
          go_quiet (fail)
          go_wp2_with (fail)
          go_roundw
          case rel => exact ⟨k + 1, hlt, by rw [mineTo, HMI.out]; rfl, by go_num, HBO', below_drewN HB.out _⟩
          case measure => simp [intOf]; omega
        · have HMI := Lib.hid hmi
          clear hmi
          go_wp2_with (fail)
          go_quiet (fail)
          go_wp2_with (fail)
          go_roundw
          case rel => exact ⟨k + 1, hlt, by rw [mineTo, HMI.out]; rfl, by go_num, HBO', below_drewN HB.out _⟩
          case measure => simp [intOf]; omega
    · obtain rfl : k = p := by omega
      rcases along_best f hc hp k with ⟨ha, hmi⟩ | ⟨j, ha, hj, hmi, hcj, hbest⟩
      · rw [hmi]
        clear hmi
        go_wp2_with (first
          | (go_at_call 11; refine (awake_any _).mono ?_; rintro e w1 ⟨rfl, hbx⟩))
        go_ret
        exact ⟨rfl, HW.out.trans (hbx.mono (Nat.le_of_lt hww))⟩
      · rw [hmi]
        clear hmi
        obtain ⟨b, off, rfl, hb, hxx⟩ := HX.out j hj
        have hk0 : 0 < k := by omega
        have hxx0 : ∀ W', Below w.heap.size w W' → AsksAt W' b off k f := fun W' h => hxx.below h hb
        have HN := Lib.hid (nextOf_head (f := f) (n := k) (g := consHd ⟨hc, hp⟩ g) (m := 1 + r) (j := j) (HBO.out _ (oldestTo_lt f k hk0)) (by omega) ha)
        have HBEST := Lib.hid hbest
        have HCJ := Lib.hid hcj
        obtain ⟨news, n1, n2, n3, n4, n5⟩ := heads_src HH.out
        have N1 := Lib.hid n1
        have N2 := Lib.hid n2
        have N3 := Lib.hid n3
        have N4 := Lib.hid n4
        have N5 := Lib.hid n5
        obtain ⟨i0, hi0, hz0, hz1, hz2⟩ := info_parts hd_info
        clear ha hbest hcj hxx n1 n2 n3 n4 n5
        go_wp2_with fail
        go_region_held3 (fun w' => w'.cell? ⟨w.heap.size, 0, none⟩ = some (.int .i64 hc) ∧ w'.cell? ⟨w.heap.size, 1, none⟩ = some (.int .i64 hp)) (first | go_keep | exact K1 | exact K2)
          (first
          | (go_at_call 8; refine (some_any _ _ _ HBF.out hmd hdm _).mono ?_; rintro e w1 ⟨rfl, rfl⟩; rw [HR.out])
          | (refine step_append_form _ rfl (.tmp 47) (.tmp 49) 23 rfl 0 35 i0 _ 2 16 Try.underlying23 hi0 hz0 hz1 hz2 rfl (by omega) _ 1 _ rfl (by exact own_one _ hc hp) B r d news rfl N1.out N2.out (by exact N3.out _ (((HW.out.drew).alloc (by exact Nat.le_of_lt hww) _))) N4.out (by omega) (by simp only [maxLen]; omega) (by omega) (Nat.zero_le _) ?_
             intro gb cap w2 hown hgr hat hlt2
             go_must (have hbw2 : Below w.heap.size w w2 := ((HW.out.drew).alloc (by exact Nat.le_of_lt hww) _).grown hgr (by simp; omega) (fun q hq => by have e : wr.heap.size = q := Option.some.inj hq; omega))
             go_must (have K1 : w2.cell? ⟨w.heap.size, 0, none⟩ = some (.int .i64 hc) ∧ w2.cell? ⟨w.heap.size, 1, none⟩ = some (.int .i64 hp) := ⟨hgr.cell (a := ⟨w.heap.size, 0, none⟩) (by go_simp) (fun e => by have e' : w.heap.size = wr.heap.size := Option.some.inj e; omega), hgr.cell (a := ⟨w.heap.size, 1, none⟩) (by go_simp) (fun e => by have e' : w.heap.size = wr.heap.size := Option.some.inj e; omega)⟩)
             go_must (have hle3 : wr.heap.size + 1 ≤ w2.heap.size := by have := hgr.size; simpa using this)
             clear hgr)
          | (go_at_call 9
             refine (next_any b off k c f _ (1 + r) cap (consHd ⟨hc, hp⟩ g) 0 1 _ hle (by omega) hk0 (by have := hbw2.size; omega) (by exact (hxx0 _ hbw2)) (.inr ⟨gb, 0, rfl, hlt2, heads_cons hown N5.out⟩)).mono ?_
             rintro e w3 ⟨rfl, hb3⟩
             rw [HN.out]
             have K2 : w3.cell? ⟨w.heap.size, 0, none⟩ = some (.int .i64 hc) ∧ w3.cell? ⟨w.heap.size, 1, none⟩ = some (.int .i64 hp) := ⟨keepc hb3 (by omega) K1.1, keepc hb3 (by omega) K1.2⟩
             have hbw3 : Below w.heap.size w w3 := hbw2.trans (hb3.mono hbw2.size)
             have hle4 : wr.heap.size + 1 ≤ w3.heap.size := Nat.le_trans hle3 hb3.size))
        all_goals
          have hcb : ((f j).cart != hc) = false := by simp [HCJ.out]
          have hj1 : decide ((j : Int) < 0) = false := by simp
          have hj2 : decide (k ≤ j) = false := by simp; omega
          have HW3 := Lib.hid hbw3
          obtain ⟨h0, h1, h2, h3, h4, h5⟩ := hxx0 _ hbw3
          obtain ⟨k0, k1⟩ := K2
          clear hbw3 hbw2 K1 hown hat hlt2 hle3 hb3 e0 e1
          have hz3 : w.heap.size < w3.heap.size := by omega
          have hb3 : b < w3.heap.size := by omega
          go_wp2_with (fail)
          go_quiet (fail)
          go_wp2_with (fail)
          clear h0 h1 h2 h3 h4 h5
          go_loopw [13, 14] (fun i _ wr2 => ∃ q : Nat, q ≤ k ∧ i = .int .i64 q ∧ Below w3.heap.size w3 wr2) (fun i _ _ => k - (intOf i).toNat)
          case atStart => exact ⟨0, by omega, rfl, below_drewN (Below.refl _ _) _⟩
          case round =>
            obtain ⟨q, hq, rfl, hbel⟩ := hrel
            have hbw4 : Below w.heap.size w wr := HW3.out.trans (hbel.mono (by omega))
            have g0 := keepc hbel hz3 k0
            have g1 := keepc hbel hz3 k1
            obtain ⟨h0, h1, h2, h3, h4, h5⟩ := hxx0 _ hbw4
            have HB4 := Lib.hid hbel
            have HW4 := Lib.hid hbw4
            clear hbel hbw4 k0 k1
            by_cases hlq : q < k
            · by_cases hcq : (f q).cart = hc
              · have hcq' : ((f q).cart == hc) = true := by simpa using hcq
                rcases best_cases (HBEST.out q hlq hcq) with ⟨t1, t2, t3⟩ | ⟨t1, t2⟩ | ⟨t1, t2, t3⟩
                · have u1 : decide (hp ≤ (f j).pos) = true := by simpa using t1
                  have u2 : decide (hp ≤ (f q).pos) = true := by simpa using t2
                  have u3 : decide ((f q).pos < (f j).pos) = false := by simp; omega
                  have u4 : decide ((f j).pos < hp) = false := by simp; omega
                  clear hcq t1 t2 t3
                  go_wp2_with (fail)
                  go_quiet (fail)
                  go_wp2_with (fail)
                  go_roundw
                  case rel => exact ⟨q + 1, hlq, by go_num, below_drewN HB4.out _⟩
                  case measure => simp [intOf]; omega
                · have u1 : decide (hp ≤ (f j).pos) = true := by simpa using t1
                  have u2 : decide (hp ≤ (f q).pos) = false := by simp; omega
                  have u4 : decide ((f j).pos < hp) = false := by simp; omega
                  clear hcq t1 t2
                  go_wp2_with (fail)
                  go_quiet (fail)
                  go_wp2_with (fail)
                  go_roundw
                  case rel => exact ⟨q + 1, hlq, by go_num, below_drewN HB4.out _⟩
                  case measure => simp [intOf]; omega
                · have u1 : decide (hp ≤ (f j).pos) = false := by simp; omega
                  have u2 : decide (hp ≤ (f q).pos) = false := by simp; omega
                  have u3 : decide ((f q).pos < (f j).pos) = false := by simp; omega
                  have u4 : decide ((f j).pos < hp) = true := by simpa using t1
                  clear hcq t1 t2 t3
                  go_wp2_with (fail)
                  go_quiet (fail)
                  go_wp2_with (fail)
                  go_roundw
                  case rel => exact ⟨q + 1, hlq, by go_num, below_drewN HB4.out _⟩
                  case measure => simp [intOf]; omega
              · have hcq' : ((f q).cart == hc) = false := by simpa using hcq
                clear hcq
                go_wp2_with (fail)
                go_quiet (fail)
                go_wp2_with (fail)
                go_roundw
                case rel => exact ⟨q + 1, hlq, by go_num, below_drewN HB4.out _⟩
                case measure => simp [intOf]; omega
            · obtain rfl : q = k := by omega
              go_wp2_with (first
                | (go_at_call 11; refine (awake_any _).mono ?_; rintro e w5 ⟨rfl, hbx⟩))
              go_ret
              exact ⟨rfl, HW4.out.trans (hbx.mono HW4.out.size)⟩
end Go.Proofs.Ythnjakmiknaihaa
