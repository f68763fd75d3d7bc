/- Is a key had; small methods of a catalog. No condition beyond those that each theorem states. -/
import Derived.Test.YtmkccblcmiflfaaKC2
namespace Go.Proofs.Ytmkccblcmiflfaa
open Go.RowKit Go.Maps Go.WideMaps

def hasC (C : CV) (k : Str) : Bool := hasL C.entries k || hasL C.staged k
theorem hasL_map {κ β γ : Type} [DecidableEq κ] (f : β → γ) (L : List (κ × β)) (k : κ) : hasL (L.map fun q => (q.1, f q.2)) k = hasL L k := by simp [hasL, List.any_map, Function.comp_def]
theorem hasL_ents {ER : List EntR} {E : List (Str × EntV)} (h : ER.map (fun r => (r.key, r.e)) = E) (k : Str) : hasL (entVals ER) k = hasL E k := by
  subst h
  simp [hasL, entVals, List.any_map, Function.comp_def]
def isEnt (v : Value) : Prop := ∃ k a b s A n c, v = .agg #[encStr k, .int .i64 a, .int .i64 b, encStr s, .slice A n c]
theorem getE_form (ER : List EntR) (k : Str) : isEnt (getL zeroEnt (entVals ER) k) := by
  cases h : hasL (entVals ER) k with
  | false => rw [getL_no _ h]; exact ⟨[], 0, 0, [], none, 0, 0, rfl⟩
  | true =>
    have := getL_mem zeroEnt h
    obtain ⟨r, _, e⟩ := List.mem_map.1 this
    injection e with _ e
    rw [← e]
    exact ⟨_, _, _, _, _, _, _, rfl⟩
section
variable {F : Nat → Prop} {w : World} {p N : Nat} {C : CV} {sv tv : Value} {SR : List BlobR} {ER : List EntR} {be bb br : Nat}
theorem CatR.lookE (h : CatR F w p N C sv tv SR ER be bb br) {k : Str} (hk : k.length ≤ maxLen) :
    (Instr.lookup 55 (.map (some be)) (encStr k) true).run Try.prog w = .ok (.tuple #[getL zeroEnt (entVals ER) k, .bool (hasL C.entries k)]) w := by
  have := h.ents.look (t := 55) (e := 46) Try.underlying55 (zeroE w) (k := k) hk
  rw [hasL_ents h.entr] at this
  exact this
theorem CatR.lookG (h : CatR F w p N C sv tv SR ER be bb br) {k : Str} (hk : k.length ≤ maxLen) :
    (Instr.lookup 56 (.map (some bb)) (encStr k) true).run Try.prog w = .ok (.tuple #[getL (.int .i64 0) (begunVals C.begun) k, .bool (hasL C.begun k)]) w := by
  have := h.begs.look (t := 56) (e := 3) Try.underlying56 (zeroI w) (k := k) hk
  rw [show hasL (begunVals C.begun) k = hasL C.begun k from hasL_map _ _ _] at this
  exact this
end
theorem cHas_nil (k : Value) (w : World) : Calls Try.prog 19 #[.pointer none, k] w fun e w' => e = .returned (.bool false) ∧ w = w' := by
  go_enter Try.func19, Try.ntmps19
  go_wp2
  go_ret
  exact ⟨rfl, rfl⟩
section
set_option maxHeartbeats 1000000
theorem cHas (F : Nat → Prop) (p N : Nat) (C : CV) (key : Str) (w : World) (h : CatAt F w p N C) (hk : key.length ≤ maxLen) :
    Calls Try.prog 19 #[.pointer (some ⟨p, 0, none⟩), encStr key] w fun e w' => e = .returned (.bool (hasC C key)) ∧ Below w.heap.size w w' := by
  have H := Lib.hid h
  obtain ⟨sv, tv, SR, ER, be, bb, br, hr⟩ := h
  have c1 : w.cell? ⟨p, 1, none⟩ = some (.map (some be)) := hr.blk.cell 1
  have hlk := hr.lookE hk
  obtain ⟨k', a, b, s, A, n, c, hv⟩ := getE_form ER key
  rw [hv] at hlk
  clear hv hr
  cases hE : hasL C.entries key with
  | true =>
    rw [hE] at hlk
    have HE := Lib.hid hE
    clear hE
    go_enter Try.func19, Try.ntmps19
    go_wp2_with fail
    go_ret
    exact ⟨ret_b (by unfold hasC; rw [HE.out]; rfl), (Below.refl _ w).alloc (Nat.le_refl _) _⟩
  | false =>
    rw [hE] at hlk
    have HE := Lib.hid hE
    have hi := idxP_ge (isKey key) C.staged
    cases hS : hasL C.staged key with
    | true =>
      have hw0 : 0 ≤ waitsC C key := by
        rcases Int.lt_or_le (waitsC C key) 0 with h | h
        · rw [(waitsC_neg C key).1 h] at hS; cases hS
        · exact h
      have d1 : decide (0 ≤ waitsC C key) = true := by simpa using hw0
      have HS := Lib.hid hS
      clear hE hS hw0 hi
      go_enter Try.func19, Try.ntmps19
      go_wp2_with (go_at_call 23; refine (cWaits F p N C key _ (by exact H.out.below ((Below.refl _ _).alloc (Nat.le_refl _) _))).mono ?_; rintro e w1 ⟨rfl, hb1⟩; have B1 := Lib.hid (((Below.refl _ w).alloc (Nat.le_refl _) _).trans (hb1.mono (by simp))); clear hb1)
      go_ret
      exact ⟨ret_b (by unfold hasC; rw [HS.out, Bool.or_true]), B1.out⟩
    | false =>
      have hw0 : waitsC C key < 0 := (waitsC_neg C key).2 hS
      have d1 : decide (0 ≤ waitsC C key) = false := by simpa using hw0
      have HS := Lib.hid hS
      clear hE hS hw0 hi
      go_enter Try.func19, Try.ntmps19
      go_wp2_with (go_at_call 23; refine (cWaits F p N C key _ (by exact H.out.below ((Below.refl _ _).alloc (Nat.le_refl _) _))).mono ?_; rintro e w1 ⟨rfl, hb1⟩; have B1 := Lib.hid (((Below.refl _ w).alloc (Nat.le_refl _) _).trans (hb1.mono (by simp))); clear hb1)
      go_ret
      exact ⟨ret_b (by unfold hasC; rw [HS.out, HE.out]; rfl), B1.out⟩
def laterB (C : CV) (gen : Int) : Bool := decide (C.gen < gen ∧ gen ≤ 1099511627776)
theorem cLater (F : Nat → Prop) (p N : Nat) (C : CV) (gen : Int) (w : World) (h : CatAt F w p N C) :
    Calls Try.prog 52 #[.pointer (some ⟨p, 0, none⟩), .int .i64 gen] w fun e w' => e = .returned (.bool (laterB C gen)) ∧ w = w' := by
  obtain ⟨sv, tv, SR, ER, be, bb, br, hr⟩ := h
  have c5 : w.cell? ⟨p, 5, none⟩ = some (.int .i64 C.gen) := hr.blk.cell 5
  clear hr
  by_cases h1 : C.gen < gen
  · have d1 : decide (C.gen < gen) = true := by simpa using h1
    by_cases h2 : gen ≤ 1099511627776
    · have d2 : decide (gen ≤ 1099511627776) = true := by simpa using h2
      have H := Lib.hid (And.intro h1 h2)
      clear h1 h2
      go_enter Try.func52, Try.ntmps52
      go_wp2_with fail
      go_ret
      exact ⟨ret_b (show true = laterB C gen from (decide_eq_true H.out).symm), rfl⟩
    · have d2 : decide (gen ≤ 1099511627776) = false := by simpa using h2
      have H := Lib.hid h2
      clear h1 h2
      go_enter Try.func52, Try.ntmps52
      go_wp2_with fail
      go_ret
      exact ⟨ret_b (show false = laterB C gen from (decide_eq_false (fun h => by have := H.out; omega)).symm), rfl⟩
  · have d1 : decide (C.gen < gen) = false := by simpa using h1
    have H := Lib.hid h1
    clear h1
    go_enter Try.func52, Try.ntmps52
    go_wp2_with fail
    go_ret
    exact ⟨ret_b (show false = laterB C gen from (decide_eq_false (fun h => by have := H.out; omega)).symm), rfl⟩
def groupsI (n : Int) : Int := max 1 ((n + 127) / 128)
theorem cGroups (n : Int) (w : World) (h0 : 0 ≤ n) (h1 : n ≤ 512) :
    Calls Try.prog 49 #[.int .i64 n] w fun e w' => e = .returned (.int .i64 (groupsI n)) ∧ w = w' := by
  go_enter Try.func49, Try.ntmps49
  go_wp2_with fail
  all_goals
    go_ret
    refine ⟨ret_i ?_, rfl⟩
    unfold groupsI
    omega
theorem cGen (F : Nat → Prop) (p N : Nat) (C : CV) (w : World) (h : CatAt F w p N C) :
    Calls Try.prog 8 #[.pointer (some ⟨p, 0, none⟩)] w fun e w' => e = .returned (.int .i64 C.gen) ∧ w = w' := by
  obtain ⟨sv, tv, SR, ER, be, bb, br, hr⟩ := h
  have c5 : w.cell? ⟨p, 5, none⟩ = some (.int .i64 C.gen) := hr.blk.cell 5
  clear hr
  go_enter Try.func8, Try.ntmps8
  go_wp2_with fail
  go_ret
  exact ⟨rfl, rfl⟩
end
end Go.Proofs.Ytmkccblcmiflfaa
