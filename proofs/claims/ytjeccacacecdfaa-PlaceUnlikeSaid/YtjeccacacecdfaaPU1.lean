/- The room of a cartridge by the first time it stands in a list with any; what the law PlaceUnlike asks of a choice. No condition beyond those that each theorem states. -/
import Derived.Test.YtjeccacacecdfaaPM1
import Derived.Deep.QuietTactic
namespace Go.Proofs.Ytjeccacacecdfaa
open Go.RowKit Go.Shelf Go.Maps

theorem int_val {a b : Int} (h : a = b) : Ending.returned (.int .i64 a) = .returned (.int .i64 b) := by rw [h]
def isF (c : Int) (f : Int × Int) : Bool := f.1 == c && decide (0 < f.2)
def roomF (l : List (Int × Int)) (c : Int) : Int := ((l.find? (isF c)).map Prod.snd).getD 0
theorem find_at {l : List (Int × Int)} {p : Int × Int → Bool} {k : Nat} {f : Int × Int} (hl : l[k]? = some f) (hp : p f = true) (hno : ∀ (j : Nat) (u : Int × Int), j < k → l[j]? = some u → p u = false) : l.find? p = some f := by
  obtain ⟨hk, hf⟩ := List.getElem?_eq_some_iff.1 hl
  rw [List.find?_eq_some_iff_getElem]
  refine ⟨hp, k, hk, hf, fun j hj => ?_⟩
  rw [hno j _ hj (List.getElem?_eq_getElem (by omega))]
  rfl
theorem roomF_at {l : List (Int × Int)} {c : Int} {k : Nat} {f : Int × Int} (hl : l[k]? = some f) (hp : isF c f = true) (hno : ∀ (j : Nat) (u : Int × Int), j < k → l[j]? = some u → isF c u = false) : roomF l c = f.2 := by
  unfold roomF
  rw [find_at hl hp hno]
  rfl
theorem roomF_none {l : List (Int × Int)} {c : Int} (hno : ∀ (j : Nat) (u : Int × Int), l[j]? = some u → isF c u = false) : roomF l c = 0 := by
  unfold roomF
  have h : l.find? (isF c) = none := by
    rw [List.find?_eq_none]
    intro x hx
    obtain ⟨j, hj⟩ := List.mem_iff_getElem?.1 hx
    rw [hno j x hj]
    simp
  rw [h]
  rfl
theorem find_or (but : List Int) (l : List (Int × Int)) (c : Int) (hc : inL but c = false) : ∀ k, (metK l but k).find? (fun p => p.1 == c) = (l.take k).find? (isF c) := by
  intro k
  induction k with
  | zero => rfl
  | succ k ih =>
    unfold metK
    rw [List.take_add_one]
    cases hf : l[k]? with
    | none => simpa using ih
    | some f =>
      simp only [Option.toList_some]
      rw [List.find?_append, ← ih]
      unfold metS
      by_cases hfc : f.1 = c
      · subst hfc
        by_cases hr : 0 < f.2
        · have e1 : isF f.1 f = true := by unfold isF; simp [hr]
          cases hh : hasE (metK l but k) f.1 with
          | true =>
            have : ∃ x, (metK l but k).find? (fun p => p.1 == f.1) = some x := by
              cases hx : (metK l but k).find? (fun p => p.1 == f.1) with
              | some x => exact ⟨x, rfl⟩
              | none =>
                rw [List.find?_eq_none] at hx
                unfold hasE at hh
                rw [List.any_eq_true] at hh
                obtain ⟨y, hy, hye⟩ := hh
                exact absurd hye (hx y hy)
            obtain ⟨x, hx⟩ := this
            simp [hx]
          | false =>
            have hx : (metK l but k).find? (fun p => p.1 == f.1) = none := by
              rw [List.find?_eq_none]
              intro y hy hye
              unfold hasE at hh
              rw [List.any_eq_false] at hh
              exact hh y hy hye
            rw [if_pos (by simp [hr, hc]), List.find?_append, hx]
            simp [List.find?, e1]
        · have e1 : isF f.1 f = false := by unfold isF; simp [hr]
          rw [if_neg (by simp [hr])]
          simp [List.find?, e1]
      · have e1 : isF c f = false := by unfold isF; simp [hfc]
        have e2 : (f.1 == c) = false := by simpa using hfc
        have e3 : ([f].find? (isF c)) = none := by simp [List.find?, e1]
        rw [e3, Option.or_none]
        split
        · rw [List.find?_append]
          simp [List.find?, e2]
        · rfl
theorem metM_room {but : List Int} {l : List (Int × Int)} {c : Int} (hc : inL but c = false) : valE (metM l but) c = roomF l c := by
  unfold valE roomF metM
  rw [find_or but l c hc, List.take_length]
theorem metK_out (but : List Int) (l : List (Int × Int)) : ∀ k, ∀ p ∈ metK l but k, inL but p.1 = false ∧ 0 < p.2 := by
  intro k
  induction k with
  | zero => intro p hp; simp [metK] at hp
  | succ k ih =>
    unfold metK
    split
    · exact ih
    · rename_i f hf
      unfold metS
      split
      · rename_i hc
        intro p hp
        rcases List.mem_append.1 hp with hp | hp
        · exact ih p hp
        · have e : p = f := by simpa using hp
          subst e
          simp only [Bool.and_eq_true, decide_eq_true_eq, Bool.not_eq_true'] at hc
          exact ⟨hc.2.2, hc.1⟩
      · exact ih
theorem valE_in {E : List (Int × Int)} (h : (E.map Prod.fst).Nodup) {p : Int × Int} (hp : p ∈ E) : valE E p.1 = p.2 := by
  induction E with
  | nil => cases hp
  | cons x E ih =>
    rw [List.map_cons, List.nodup_cons] at h
    unfold valE
    by_cases hx : x.1 = p.1
    · rcases List.mem_cons.1 hp with rfl | hp
      · simp
      · exact absurd (by rw [hx]; exact List.mem_map_of_mem hp) h.1
    · rcases List.mem_cons.1 hp with rfl | hp
      · exact absurd rfl hx
      · rw [List.find?_cons_of_neg (by simpa using hx)]
        exact ih h.2 hp
/-- What the law asks of the chosen. -/
structure Unlike (l : List (Int × Int)) (but S : List Int) : Prop where
  some_ : ∀ (i : Nat) (s : Int), S[i]? = some s → roomF l s ≠ 0
  out : ∀ (i k : Nat) (s b : Int), S[i]? = some s → but[k]? = some b → b ≠ s
  apart : ∀ (k i : Nat) (r s : Int), k < i → S[k]? = some r → S[i]? = some s → r ≠ s ∧ ¬ roomF l r < roomF l s
  rest : ∀ (q j : Nat) (t : Int) (f : Int × Int), S[q]? = some t → l[j]? = some f → 0 < f.2 → f.2 = roomF l f.1 → (∀ (k : Nat) (b : Int), but[k]? = some b → b ≠ f.1) → (∀ (k : Nat) (s : Int), k ≤ q → S[k]? = some s → s ≠ f.1) → ¬ roomF l t < f.2
theorem unlike_law {l : List (Int × Int)} {but S : List Int} (h : Ranked (metM l but) S) : Unlike l but S := by
  have hnE : ((metM l but).map Prod.fst).Nodup := metK_apart _ _ _
  have hn : S.Nodup := (h.perm.nodup_iff).2 hnE
  have key : ∀ (i : Nat) (s : Int), S[i]? = some s → ∃ p ∈ metM l but, p.1 = s ∧ inL but s = false ∧ 0 < p.2 := fun i s hs => by
    have h1 : s ∈ (metM l but).map Prod.fst := h.perm.subset (List.mem_of_getElem? hs)
    obtain ⟨p, hp, rfl⟩ := List.mem_map.1 h1
    exact ⟨p, hp, rfl, metK_out but l _ p hp⟩
  have pw : ∀ (k i : Nat) (r s : Int), k < i → S[k]? = some r → S[i]? = some s → r ≠ s ∧ valE (metM l but) s ≤ valE (metM l but) r := fun k i r s hki hr hs => by
    obtain ⟨hk, rfl⟩ := List.getElem?_eq_some_iff.1 hr
    obtain ⟨hi, rfl⟩ := List.getElem?_eq_some_iff.1 hs
    refine ⟨?_, ?_⟩
    · rw [List.nodup_iff_pairwise_ne, List.pairwise_iff_getElem] at hn
      exact hn k i hk hi hki
    · have := (List.pairwise_iff_getElem.1 h.sorted) k i hk hi hki
      unfold ltE at this
      simp only [Bool.or_eq_true, Bool.and_eq_true, decide_eq_true_eq, beq_iff_eq] at this
      omega
  refine ⟨fun i s hs => ?_, fun i k s b hs hb => ?_, fun k i r s hki hr hs => ?_, fun q j t f ht hf h0 h1 h2 h3 => ?_⟩
  · obtain ⟨p, hp, rfl, ho, h0⟩ := key i s hs
    rw [← metM_room ho, valE_in hnE hp]
    omega
  · obtain ⟨p, hp, rfl, ho, h0⟩ := key i s hs
    rintro rfl
    unfold inL at ho
    rw [decide_eq_false_iff_not] at ho
    exact ho (List.mem_of_getElem? hb)
  · obtain ⟨h1, h2⟩ := pw k i r s hki hr hs
    obtain ⟨_, _, _, ho, _⟩ := key k r hr
    obtain ⟨_, _, _, ho', _⟩ := key i s hs
    rw [metM_room ho, metM_room ho'] at h2
    exact ⟨h1, by omega⟩
  · have ho : inL but f.1 = false := by
      unfold inL
      rw [decide_eq_false_iff_not]
      intro hm
      obtain ⟨k, hk⟩ := List.mem_iff_getElem?.1 hm
      exact h2 k _ hk rfl
    have hfE : f.1 ∈ (metM l but).map Prod.fst := by
      have h4 := metM_room (l := l) ho
      cases hh : hasE (metM l but) f.1 with
      | true => exact hasE_mem.1 hh
      | false =>
        have hx : (metM l but).find? (fun p => p.1 == f.1) = none := by
          rw [List.find?_eq_none]
          intro y hy hye
          unfold hasE at hh
          rw [List.any_eq_false] at hh
          exact hh y hy hye
        unfold valE at h4
        rw [hx] at h4
        have h5 : (0 : Int) = roomF l f.1 := h4
        omega
    obtain ⟨i, hi⟩ := List.mem_iff_getElem?.1 (h.perm.symm.subset hfE)
    have hqi : q < i := by
      rcases Nat.lt_or_ge q i with h | h
      · exact h
      · exact absurd rfl (h3 i _ h hi)
    obtain ⟨_, h5⟩ := pw q i t f.1 hqi ht hi
    obtain ⟨_, _, _, ho', _⟩ := key q t ht
    rw [metM_room ho, metM_room ho'] at h5
    omega

set_option maxHeartbeats 2000000 in
theorem room (A : Option Addr) (n c : Nat) (l : List (Int × Int)) (x : Int) (w : World) (h : FreesIn w A n l) (hn : n ≤ 1000000) :
    Calls Try.prog 12 #[.slice A n c, .int .i64 x] w fun e w' => e = .returned (.int .i64 (roomF l x)) ∧ w = w' := by
  obtain ⟨hl, hA, hwf⟩ := h
  have HL := Lib.hid hl
  have HWF := Lib.hid hwf
  clear hl hwf
  go_enter Try.func12, Try.ntmps12
  go_wp2_with fail
  go_loop [5] (fun i => ∃ k : Nat, k ≤ n ∧ i = .int .i64 k ∧ ∀ (j : Nat) (u : Int × Int), j < k → l[j]? = some u → isF x u = false) (fun i => n - (intOf i).toNat)
  case atStart => exact ⟨0, by omega, rfl, fun j u hj => by omega⟩
  case round =>
    obtain ⟨k, hk, rfl, hno⟩ := hrel
    have HNO := Lib.hid hno
    clear hno
    by_cases hlt : k < n
    · obtain ⟨b, off, rfl, hb, hc⟩ := hA.resolve_left (by omega)
      obtain ⟨⟨fc, fr⟩, hu⟩ : ∃ u, l[k]? = some u := ⟨_, List.getElem?_eq_getElem (by rw [HL.out]; exact hlt)⟩
      have k0 := (hc k fc fr hu).1
      have k1 := (hc k fc fr hu).2
      have HU := Lib.hid hu
      have d1 : decide (k < n) = true := by simpa using hlt
      clear hc hu
      by_cases hux : fc = x
      · subst hux
        by_cases hr : 0 < fr
        · have e1 : roomF l fc = fr := roomF_at HU.out (by unfold isF; simp [hr]) HNO.out
          have E1 := Lib.hid e1
          have d2 : decide (0 < fr) = true := by simpa using hr
          clear e1
          go_wp2_with fail
          go_ret
          exact ⟨int_val E1.out.symm, rfl⟩
        · have d2 : decide (0 < fr) = false := by simpa using hr
          go_wp2_with fail
          go_round
          case rel => exact ⟨k + 1, hlt, by go_num, fun j v hj hv => by
            by_cases hjk : j = k
            · subst hjk
              rw [HU.out] at hv
              cases hv
              unfold isF
              simp [hr]
            · exact HNO.out j v (by omega) hv⟩
          case measure => simp [intOf]; omega
      · have d2 : (fc == x) = false := by simpa using hux
        go_wp2_with fail
        go_round
        case rel => exact ⟨k + 1, hlt, by go_num, fun j v hj hv => by
          by_cases hjk : j = k
          · subst hjk
            rw [HU.out] at hv
            cases hv
            unfold isF
            simp [hux]
          · exact HNO.out j v (by omega) hv⟩
        case measure => simp [intOf]; omega
    · have d1 : decide (k < n) = false := by simpa using hlt
      have e1 : roomF l x = 0 := roomF_none fun j u hu => HNO.out j u (by have := (List.getElem?_eq_some_iff.1 hu).1; have := HL.out; omega) hu
      have E1 := Lib.hid e1
      clear e1
      go_wp2_with fail
      go_ret
      exact ⟨int_val E1.out.symm, rfl⟩
end Go.Proofs.Ytjeccacacecdfaa
