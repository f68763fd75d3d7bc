/- What the map of a choice holds; whether a number is in a list; the clip of a list. No condition beyond those that each theorem states. -/
import Derived.Test.YtjeccacacecdfaaPL1
import Derived.IntWalk
import Derived.Outline
namespace Go.Proofs.Ytjeccacacecdfaa
open Go.RowKit Go.Shelf Go.Maps

theorem hasE_snoc (E : List (Int × Int)) (c r x : Int) : hasE (E ++ [(c, r)]) x = (hasE E x || c == x) := by simp [hasE]
theorem valE_same {E : List (Int × Int)} {c r : Int} (h : hasE E c = false) : valE (E ++ [(c, r)]) c = r := by
  unfold valE
  have h2 : (E.find? fun p => p.1 == c) = none := by
    rw [List.find?_eq_none]
    intro p hp hpc
    unfold hasE at h
    rw [List.any_eq_false] at h
    exact h p hp hpc
  rw [List.find?_append, h2]
  simp
theorem valE_other {E : List (Int × Int)} {c r x : Int} (h : x ≠ c) : valE (E ++ [(c, r)]) x = valE E x := by
  unfold valE
  rw [List.find?_append]
  cases E.find? fun p => p.1 == x with
  | some y => rfl
  | none => simp [List.find?, show (c == x) = false by simpa using fun e => h e.symm]
theorem hasE_mem {E : List (Int × Int)} {c : Int} : hasE E c = true ↔ c ∈ E.map Prod.fst := by
  simp [hasE]
theorem key_ne {x c : Int} (h : x ≠ c) : (Lit.int .i64 x) ≠ .int .i64 c := fun e => h (by injection e)
theorem Rep.nil : Rep (.map []) [] := ⟨fun x _ => rfl, fun x _ => rfl, rfl, by simp, by simp⟩
theorem Rep.put {D : DataW Unit} {E : List (Int × Int)} {c r : Int} (h : Rep D E) (ht : Tidy D) (hc : wfI c) (hr : wfI r) (hn : hasE E c = false) : Rep (D.put (.int .i64 c) (.lit (.int .i64 r))) (E ++ [(c, r)]) := by
  refine ⟨fun x hx => ?_, fun x hx => ?_, ?_, ?_, fun p hp => ?_⟩
  · by_cases hxc : x = c
    · subst hxc
      rw [has_put_same (k := .int .i64 x) ht.isMap trivial, hasE_snoc]
      simp
    · rw [has_put_other (key_ne hxc), h.has x hx, hasE_snoc, show (c == x) = false by simpa using fun e => hxc e.symm, Bool.or_false]
  · by_cases hxc : x = c
    · subst hxc
      rw [atKey_put_same (k := .int .i64 x) ht.isMap trivial, valE_same hn]
    · rw [atKey_put_other (key_ne hxc), h.val x hx, valE_other hxc]
  · rw [size_put ht, h.has c hc, hn, h.size]
    simp
  · rw [List.map_append, List.nodup_append]
    refine ⟨h.apart, by simp, fun a ha b hb => ?_⟩
    have hb : b = c := by simpa using hb
    subst hb
    intro e
    subst e
    rw [hasE_mem.2 ha] at hn
    cases hn
  · rcases List.mem_append.1 hp with hp | hp
    · exact h.wf p hp
    · have e : p = (c, r) := by simpa using hp
      subst e
      exact ⟨hc, hr⟩

/-- Where a list of numbers that came in lies. -/
def IntsIn (w : World) (A : Option Addr) (n : Nat) (l : List Int) : Prop := l.length = n ∧ (n = 0 ∨ ∃ b off, A = some ⟨b, off, none⟩ ∧ b < w.heap.size ∧ ∀ i u, l[i]? = some u → w.cell? ⟨b, off + i, none⟩ = some (.int .i64 u))
theorem IntsIn.below {w w' : World} {A : Option Addr} {n : Nat} {l : List Int} (h : IntsIn w A n l) (hb : Below w.heap.size w w') : IntsIn w' A n l :=
  ⟨h.1, h.2.imp id fun ⟨b, off, h1, h2, h3⟩ => ⟨b, off, h1, Nat.lt_of_lt_of_le h2 hb.size, fun i u hu => (hb.cell (p := ⟨b, off + i, none⟩) h2).trans (h3 i u hu)⟩⟩

def inL (l : List Int) (x : Int) : Bool := decide (x ∈ l)
def IdxOk (i : Int) (b : Bool) : Prop := decide (0 ≤ i) = b
set_option maxHeartbeats 1000000 in
theorem contains (A : Option Addr) (n c : Nat) (l : List Int) (x : Int) (w : World) (h : IntsIn w A n l) (hn : n ≤ 9223372036854775807) :
    Calls Try.prog 13 #[.slice A n c, .int .i64 x] w fun e w' => e = .returned (.bool (inL l x)) ∧ w = w' := by
  obtain ⟨hl, hA⟩ := h
  have key : Calls Try.prog 20 #[.slice A n c, .int .i64 x] w fun e w' => (∃ i : Int, e = .returned (.int .i64 i) ∧ IdxOk i (inL l x)) ∧ w = w' := by
    have HL := Lib.hid hl
    go_enter Try.func20, Try.ntmps20
    go_wp2_with fail
    go_loop [8] (fun i => ∃ k : Nat, k ≤ n ∧ i = .int .i64 k ∧ ∀ (j : Nat) (u : Int), j < k → l[j]? = some u → u ≠ x) (fun i => n - (intOf i).toNat)
    case atStart => exact ⟨0, by omega, rfl, fun j u hj => by omega⟩
    case round =>
      obtain ⟨k, hk, rfl, hno⟩ := hrel
      have HNO := Lib.hid hno
      clear hno
      by_cases hlt : k < n
      · obtain ⟨b, off, rfl, hb, hc⟩ := hA.resolve_left (by omega)
        obtain ⟨u, hu⟩ : ∃ u, l[k]? = some u := ⟨_, List.getElem?_eq_getElem (by omega)⟩
        have k0 := hc k u hu
        have HU := Lib.hid hu
        have d1 : decide (k < n) = true := by simpa using hlt
        clear hc hu hl
        by_cases hux : x = u
        · subst hux
          go_wp2_with fail
          go_ret
          exact ⟨⟨_, rfl, by unfold IdxOk inL; simpa using List.mem_of_getElem? HU.out⟩, rfl⟩
        · have d2 : (x == u) = false := by simpa using hux
          go_wp2_with fail
          go_round
          case rel => exact ⟨k + 1, hlt, by go_num, fun j v hj hv => by
            by_cases hjk : j = k
            · subst hjk
              rw [HU.out] at hv
              cases hv
              exact fun e => hux e.symm
            · exact HNO.out j v (by omega) hv⟩
          case measure => simp [intOf]; omega
      · have d1 : decide (k < n) = false := by simpa using hlt
        have hkn : inL l x = false := by
          unfold inL
          rw [decide_eq_false_iff_not]
          intro hx
          obtain ⟨j, hj⟩ := List.mem_iff_getElem?.1 hx
          exact absurd rfl (HNO.out j x (by have := (List.getElem?_eq_some_iff.1 hj).1; omega) hj)
        have HK := Lib.hid hkn
        clear hl hkn
        go_wp2_with fail
        go_ret
        exact ⟨⟨_, rfl, by rw [HK.out]; unfold IdxOk; simp⟩, rfl⟩
  have KEY := Lib.hid key
  clear key hA hl
  generalize inL l x = r at *
  go_enter Try.func13, Try.ntmps13
  go_wp2_with (go_at_call 20; refine KEY.out.mono ?_; rintro e w1 ⟨⟨i, rfl, hi⟩, rfl⟩)
  go_ret
  exact ⟨by unfold IdxOk at hi; rw [← hi]; rfl, rfl⟩

set_option maxHeartbeats 400000 in
theorem clip (g n c : Nat) (w : World) (hn : n ≤ c) : Calls Try.prog 18 #[.slice (some ⟨g, 0, none⟩) n c] w fun e w' => e = .returned (.slice (some ⟨g, 0, none⟩) n n) ∧ w = w' := by
  go_enter Try.func18, Try.ntmps18
  go_wp2
  go_ret
  exact ⟨rfl, rfl⟩
end Go.Proofs.Ytjeccacacecdfaa
