/- Whether two lists are one; the first sixty; the fixed fact awake of the laws on choices. No condition beyond those that each theorem states. -/
import Derived.Test.YtjeccacacecdfaaPL3
import Derived.BigQuiet
namespace Go.Proofs.Ytjeccacacecdfaa
open Go.RowKit Go.Shelf Go.Maps

theorem Ranked.one {E : List (Int × Int)} {S T : List Int} (h : Ranked E S) (k : Ranked E T) : S = T := by
  refine (h.perm.trans k.perm.symm).eq_of_pairwise (fun a b _ _ h1 h2 => ?_) h.sorted k.sorted
  have := ltE_trans E h1 h2
  rw [ltE_irrefl] at this
  cases this
theorem RowAt.ints {w : World} {g : Nat} {l : List Int} (h : RowAt w g 3 (intVs l)) : IntsIn w (some ⟨g, 0, none⟩) l.length l :=
  ⟨rfl, .inr ⟨g, 0, rfl, h.size, fun i u hu => by rw [Nat.zero_add]; exact h.cell (by simp [intVs, hu])⟩⟩
theorem IntsIn.nil (w : World) (A : Option Addr) : IntsIn w A 0 [] := ⟨rfl, .inl rfl⟩
theorem ints_lit (w : World) (l : List Int) : IntsIn (w.alloc (.cells (intVs l).toArray 3)) (some ⟨w.heap.size, 0, none⟩) l.length l :=
  ⟨rfl, .inr ⟨_, 0, rfl, by simp, fun i u hu => by
    rw [Nat.zero_add, (Blk.made w 3 (intVs l).toArray).cell i]
    simp [intVs, hu]⟩⟩

theorem bool_val {a b : Bool} (h : a = b) : Ending.returned (.bool a) = .returned (.bool b) := by rw [h]
theorem eq_of_all {la lb : List Int} (hl : la.length = lb.length) (h : ∀ (i : Nat) (a b : Int), i < la.length → la[i]? = some a → lb[i]? = some b → a = b) : la = lb := by
  apply List.ext_getElem hl
  intro i h1 h2
  exact h i _ _ h1 (List.getElem?_eq_getElem h1) (List.getElem?_eq_getElem h2)
set_option maxHeartbeats 1000000 in
theorem same (A B : Option Addr) (n c m d : Nat) (la lb : List Int) (w : World) (ha : IntsIn w A n la) (hb : IntsIn w B m lb) (hn : n ≤ 1000000) (hm : m ≤ 9223372036854775807) :
    Calls Try.prog 11 #[.slice A n c, .slice B m d] w fun e w' => e = .returned (.bool (decide (la = lb))) ∧ Below w.heap.size w w' := by
  have HA := Lib.hid ha
  have HB := Lib.hid hb
  have hla := ha.1
  have hlb := hb.1
  clear ha hb
  by_cases hnm : n = m
  · subst hnm
    have HLA := Lib.hid hla
    have HLB := Lib.hid hlb
    clear hla hlb
    go_enter Try.func11, Try.ntmps11
    go_wp2_with fail
    go_loopw [5] (fun i wx => ∃ k N : Nat, k ≤ n ∧ i = .int .i64 k ∧ wx = w.drewN N ∧ ∀ (j : Nat) (a b : Int), j < k → la[j]? = some a → lb[j]? = some b → a = b) (fun i _ => n - (intOf i).toNat)
    case atStart => exact ⟨0, 0, by omega, rfl, rfl, fun j a b hj => by omega⟩
    case round =>
      obtain ⟨k, N, hk, rfl, rfl, hall⟩ := hrel
      have HALL := Lib.hid hall
      clear hall
      by_cases hlt : k < n
      · have d1 : decide (k < n) = true := by simpa using hlt
        obtain ⟨a, hka⟩ : ∃ a, la[k]? = some a := ⟨_, List.getElem?_eq_getElem (by rw [HLA.out]; exact hlt)⟩
        obtain ⟨b, hkb⟩ : ∃ b, lb[k]? = some b := ⟨_, List.getElem?_eq_getElem (by rw [HLB.out]; exact hlt)⟩
        obtain ⟨ab, ao, rfl, _, hca⟩ := HA.out.2.resolve_left (by omega)
        obtain ⟨bb, bo, rfl, _, hcb⟩ := HB.out.2.resolve_left (by omega)
        have ca : ∀ N, (w.drewN N).cell? ⟨ab, ao + k, none⟩ = some (.int .i64 a) := fun N => hca k a hka
        have cb : ∀ N, (w.drewN N).cell? ⟨bb, bo + k, none⟩ = some (.int .i64 b) := fun N => hcb k b hkb
        have KA := Lib.hid hka
        have KB := Lib.hid hkb
        clear hca hcb hka hkb
        by_cases hab : a = b
        · have d2 : (a != b) = false := by simpa using hab
          have HAB := Lib.hid hab
          clear hab
          go_wp2_with fail
          go_quiet (fail)
          go_wp2_with fail
          go_roundw
          case rel => exact ⟨k + 1, _, hlt, by go_num, rfl, fun j x y hj hx hy => by
            by_cases hjk : j = k
            · subst hjk
              rw [KA.out] at hx
              rw [KB.out] at hy
              cases hx
              cases hy
              exact HAB.out
            · exact HALL.out j x y (by omega) hx hy⟩
          case measure => simp [intOf]; omega
        · have d2 : (a != b) = true := by simpa using hab
          have e1 : decide (la = lb) = false := by
            rw [decide_eq_false_iff_not]
            intro e
            have h1 := KA.out
            rw [e, KB.out] at h1
            cases h1
            exact hab rfl
          have E1 := Lib.hid e1
          clear hab e1
          go_wp2_with fail
          go_quiet (fail)
          go_wp2_with fail
          go_ret
          exact ⟨bool_val (by rw [E1.out]), below_drewN (below_drewN (Below.refl _ _) _) _⟩
      · have d1 : decide (k < n) = false := by simpa using hlt
        have e1 : decide (la = lb) = true := by
          rw [decide_eq_true_eq]
          exact eq_of_all (HLA.out.trans HLB.out.symm) (fun i a b hi hx hy => HALL.out i a b (by rw [HLA.out] at hi; omega) hx hy)
        have E1 := Lib.hid e1
        clear e1
        go_wp2_with fail
        go_ret
        exact ⟨bool_val (by rw [E1.out]), below_drewN (Below.refl _ _) _⟩
  · have e1 : decide (la = lb) = false := by
      rw [decide_eq_false_iff_not]
      intro e
      rw [e] at hla
      omega
    have d1 : (((n : Nat) : Int) != (m : Int)) = true := by simp; omega
    have E1 := Lib.hid e1
    clear e1 hla hlb
    go_enter Try.func11, Try.ntmps11
    go_wp2_with fail
    go_ret
    exact ⟨bool_val (by rw [E1.out]), Below.refl _ _⟩

set_option maxHeartbeats 400000 in
theorem few (A : Option Addr) (n c : Nat) (w : World) (hn : n ≤ c) (hc : c ≤ 9223372036854775807) : Calls Try.prog 7 #[.slice A n c] w fun e w' => e = .returned (.slice A (min n 60) c) ∧ w = w' := by
  by_cases h : 60 < n
  · have d : decide ((60 : Int) < n) = true := by simp; omega
    rw [show min n 60 = 60 by omega]
    go_enter Try.func7, Try.ntmps7
    go_wp2
    go_ret
    exact ⟨rfl, rfl⟩
  · have d : decide ((60 : Int) < n) = false := by simp; omega
    rw [show min n 60 = n by omega]
    go_enter Try.func7, Try.ntmps7
    go_wp2
    go_ret
    exact ⟨rfl, rfl⟩
theorem FreesIn.take {w : World} {A : Option Addr} {n : Nat} {fs : List (Int × Int)} (h : FreesIn w A n fs) (k : Nat) : FreesIn w A (min n k) (fs.take k) := by
  refine ⟨by rw [List.length_take, h.1, Nat.min_comm], ?_, fun p hp => h.2.2 p (List.mem_of_mem_take hp)⟩
  rcases h.2.1 with h0 | ⟨b, off, h1, h2, h3⟩
  · exact .inl (by omega)
  · exact .inr ⟨b, off, h1, h2, fun i c r hi => h3 i c r (by
      rw [List.getElem?_take] at hi
      split at hi
      · exact hi
      · cases hi)⟩
theorem IntsIn.take {w : World} {A : Option Addr} {n : Nat} {l : List Int} (h : IntsIn w A n l) (k : Nat) : IntsIn w A (min n k) (l.take k) := by
  refine ⟨by rw [List.length_take, h.1, Nat.min_comm], ?_⟩
  rcases h.2 with h0 | ⟨b, off, h1, h2, h3⟩
  · exact .inl (by omega)
  · exact .inr ⟨b, off, h1, h2, fun i u hi => h3 i u (by
      rw [List.getElem?_take] at hi
      split at hi
      · exact hi
      · cases hi)⟩
end Go.Proofs.Ytjeccacacecdfaa
