/- What the methods of the document's cartridge do that change nothing. No condition beyond those that each theorem states. -/
import Derived.Test.YtiiilimmjoadeaaS1
import Derived.Test.YtiiilimmjoadeaaCc3
namespace Go.Proofs.Ytiiilimmjoadeaa
open Go.RowKit

/-- The document's cartridge, in blocks of its own. -/
def ROwn (F : Nat → Prop) (w : World) (p : Nat) (M : Recs) (most : Int) (gone : Bool) : Prop :=
  ∃ rv bv, OwnBlk F w p 47 #[rv, bv, .int .i64 most, .bool gone] ∧ OwnRow F w 9 1 rv M.length (strs M) ∧ OwnRow F w 4 1 bv M.length (rotVals M) ∧ 0 ≤ most ∧ most ≤ 1024 ∧ (M.length : Int) ≤ most
theorem ROwn.owning (p : Nat) (M : Recs) (most : Int) (gone : Bool) : Owning fun F w => ROwn F w p M most gone where
  mono := fun F G w ⟨rv, bv, h1, h2, h3, h4⟩ hs => ⟨rv, bv, (OwnBlk.owning _ _ _).mono F G w h1 hs, (OwnRow.owning _ _ _ _ _).mono F G w h2 hs, (OwnRow.owning _ _ _ _ _).mono F G w h3 hs, h4⟩
  keep := fun F w w' ⟨rv, bv, h1, h2, h3, h4⟩ hz hk => ⟨rv, bv, (OwnBlk.owning _ _ _).keep F w w' h1 hz hk, (OwnRow.owning _ _ _ _ _).keep F w w' h2 hz hk, (OwnRow.owning _ _ _ _ _).keep F w w' h3 hz hk, h4⟩

def isM (M : Recs) (gone : Bool) (pos : Int) : Bool := !gone && (decide (0 ≤ pos) && decide (pos < M.length))

set_option maxHeartbeats 1000000 in
theorem refNew (m : Int) (w : World) : Calls Try.prog 21 #[.int .i64 m] w fun e w' => ∃ p, e = .returned (.pointer (some ⟨p, 0, none⟩)) ∧ w.heap.size ≤ p ∧ ROwn (fun k => w.heap.size ≤ k) w' p [] (max 0 (min m 1024)) false ∧ Below w.heap.size w w' := by
  have fin : ∀ k : Int, k = max 0 (min m 1024) → ROwn (fun k => w.heap.size ≤ k) (w.alloc (.cells #[.slice none 0 0, .slice none 0 0, .int .i64 k, .bool false] 47)) w.heap.size [] (max 0 (min m 1024)) false := fun k hk => by
    subst hk
    exact ⟨_, _, ⟨Blk.made _ _ _, Nat.le_refl _⟩, OwnRow.nil _ _ _ _, OwnRow.nil _ _ _ _, by omega, by omega, by show ((0 : Nat) : Int) ≤ _; omega⟩
  have HF := Lib.hid fin
  clear fin
  by_cases h0 : m < 0
  · go_enter Try.func21, Try.ntmps21
    go_wp2
    go_ret
    exact ⟨_, rfl, Nat.le_refl _, HF.out _ (by omega), (Below.refl _ _).alloc (Nat.le_refl _) _⟩
  · by_cases h1 : 1024 < m
    all_goals
      go_enter Try.func21, Try.ntmps21
      go_wp2
      go_ret
      exact ⟨_, rfl, Nat.le_refl _, HF.out _ (by omega), (Below.refl _ _).alloc (Nat.le_refl _) _⟩

theorem bool_ret {a b : Bool} (h : a = b) : Ending.returned (.bool a) = .returned (.bool b) := by rw [h]

set_option maxHeartbeats 1000000 in
theorem refIs (F : Nat → Prop) (p : Nat) (M : Recs) (most : Int) (gone : Bool) (pos : Int) (w : World) (h : ROwn F w p M most gone) :
    Calls Try.prog 50 #[.pointer (some ⟨p, 0, none⟩), .int .i64 pos] w fun e w' => e = .returned (.bool (isM M gone pos)) ∧ w = w' := by
  obtain ⟨rv, bv, ⟨hb, hp⟩, hr, hq, hl⟩ := h
  have c0 : w.cell? ⟨p, 0, none⟩ = some rv := hb.cell 0
  have c3 : w.cell? ⟨p, 3, none⟩ = some (.bool gone) := hb.cell 3
  have hfm := hr.form
  clear hb hr hq hl hp
  unfold isM
  cases gone with
  | true =>
    go_enter Try.func50, Try.ntmps50
    go_wp2
    go_ret
    exact ⟨rfl, rfl⟩
  | false =>
    rcases hfm with ⟨rfl, h0⟩ | ⟨g, cap, rfl, _, _, _, _⟩
    · have H0 := Lib.hid h0
      clear h0
      by_cases hpos : 0 ≤ pos
      · have d2 : decide (pos < 0) = false := by simpa using hpos
        have d3 : decide (pos < (M.length : Int)) = false := by rw [H0.out]; simpa using hpos
        rw [d3]
        clear d3
        go_enter Try.func50, Try.ntmps50
        go_wp2
        go_ret
        exact ⟨bool_ret (by simp), rfl⟩
      · have d1 : decide (0 ≤ pos) = false := by simpa using hpos
        rw [d1]
        go_enter Try.func50, Try.ntmps50
        go_wp2
        go_ret
        exact ⟨rfl, rfl⟩
    · by_cases hpos : 0 ≤ pos
      · by_cases hlt : pos < M.length
        · have d1 : decide (0 ≤ pos) = true := by simpa using hpos
          have d2 : decide (pos < (M.length : Int)) = true := by simpa using hlt
          go_enter Try.func50, Try.ntmps50
          go_wp2
          go_ret
          exact ⟨bool_ret (by simp_all), rfl⟩
        · have d1 : decide (0 ≤ pos) = true := by simpa using hpos
          have d2 : decide (pos < (M.length : Int)) = false := by simpa using hlt
          go_enter Try.func50, Try.ntmps50
          go_wp2
          go_ret
          exact ⟨bool_ret (by simp_all), rfl⟩
      · have d1 : decide (0 ≤ pos) = false := by simpa using hpos
        rw [d1]
        go_enter Try.func50, Try.ntmps50
        go_wp2
        go_ret
        exact ⟨rfl, rfl⟩

theorem str_ret {a b : ByteArray} {c d : Int} (h : a = b) (h2 : c = d) : Ending.returned (.tuple #[.string a, .int .i64 c]) = .returned (.tuple #[.string b, .int .i64 d]) := by rw [h, h2]

set_option maxHeartbeats 1000000 in
theorem refRead (F : Nat → Prop) (p : Nat) (M : Recs) (most : Int) (gone : Bool) (pos : Int) (w : World) (h : ROwn F w p M most gone) :
    Calls Try.prog 24 #[.pointer (some ⟨p, 0, none⟩), .int .i64 pos] w fun e w' => e = .returned (.tuple #[.string ⟨(readM M gone pos).1.toArray⟩, .int .i64 (readM M gone pos).2]) ∧ w = w' := by
  have H := Lib.hid h
  obtain ⟨rv, bv, ⟨hb, hp⟩, hr, hq, hl⟩ := h
  have c0 : w.cell? ⟨p, 0, none⟩ = some rv := hb.cell 0
  have c1 : w.cell? ⟨p, 1, none⟩ = some bv := hb.cell 1
  have c3 : w.cell? ⟨p, 3, none⟩ = some (.bool gone) := hb.cell 3
  have HR := Lib.hid hr
  have HQ := Lib.hid hq
  clear hb hr hq hl hp
  cases gone with
  | true =>
    clear H HR HQ
    go_enter Try.func24, Try.ntmps24
    go_wp2
    go_ret2
    exact ⟨rfl, rfl⟩
  | false =>
    by_cases hpos : 0 ≤ pos ∧ pos < M.length
    · obtain ⟨i, rfl⟩ := Int.eq_ofNat_of_zero_le hpos.1
      have hi : i < M.length := by omega
      obtain ⟨l, r, hm⟩ : ∃ l r, M[i]? = some (l, r) := ⟨_, _, List.getElem?_eq_getElem hi⟩
      have e1 : readM M false (i : Int) = if r then ([], 10) else (l, 0) := by
        unfold readM
        rw [if_neg (by simp), if_neg (by omega), Int.toNat_natCast, hm]
      have e2 : isM M false (i : Int) = true := by unfold isM; simpa using hi
      rw [e1]
      have E2 := Lib.hid e2
      rcases HR.out.form with ⟨_, h0⟩ | ⟨g, cap, rfl, _, _, _, _⟩
      · omega
      rcases HQ.out.form with ⟨_, h0⟩ | ⟨g', cap', rfl, _, _, _, _⟩
      · omega
      have k0 : w.cell? ⟨g, i, none⟩ = some (.string ⟨l.toArray⟩) := HR.out.row.cell (strs_get hm)
      have k1 : w.cell? ⟨g', i, none⟩ = some (.bool r) := HQ.out.row.cell (rotVals_get hm)
      clear e1 e2 hm hpos
      cases r with
      | true =>
        go_enter Try.func24, Try.ntmps24
        go_wp2_with (go_at_call 50; refine (refIs F p M most false i _ H.out).mono ?_; rintro e w1 ⟨rfl, rfl⟩; rw [E2.out])
        go_ret2
        exact ⟨rfl, rfl⟩
      | false =>
        go_enter Try.func24, Try.ntmps24
        go_wp2_with (go_at_call 50; refine (refIs F p M most false i _ H.out).mono ?_; rintro e w1 ⟨rfl, rfl⟩; rw [E2.out])
        go_ret2
        exact ⟨rfl, rfl⟩
    · have e1 : readM M false pos = ([], 5) := by
        unfold readM
        rw [if_neg (by simp)]
        by_cases hneg : pos < 0
        · rw [if_pos hneg]
        · rw [if_neg hneg, List.getElem?_eq_none (by omega)]
      have e2 : isM M false pos = false := by unfold isM; simpa using hpos
      have E2 := Lib.hid e2
      rw [e1]
      clear e1 e2 HR HQ hpos
      go_enter Try.func24, Try.ntmps24
      go_wp2_with (go_at_call 50; refine (refIs F p M most false pos _ H.out).mono ?_; rintro e w1 ⟨rfl, rfl⟩; rw [E2.out])
      go_ret2
      exact ⟨rfl, rfl⟩

set_option maxHeartbeats 1000000 in
theorem refRoom (F : Nat → Prop) (p : Nat) (M : Recs) (most : Int) (gone : Bool) (w : World) (h : ROwn F w p M most gone) :
    Calls Try.prog 49 #[.pointer (some ⟨p, 0, none⟩)] w fun e w' => e = .returned (.int .i64 (if gone then 0 else most - M.length)) ∧ ∃ n, w' = w.drewN n := by
  obtain ⟨rv, bv, ⟨hb, hp⟩, hr, hq, hl, hl2, hl3⟩ := h
  have c0 : w.cell? ⟨p, 0, none⟩ = some rv := hb.cell 0
  have c2 : w.cell? ⟨p, 2, none⟩ = some (.int .i64 most) := hb.cell 2
  have c3 : w.cell? ⟨p, 3, none⟩ = some (.bool gone) := hb.cell 3
  have hfm := hr.form
  clear hb hr hq hp
  cases gone with
  | true =>
    go_enter Try.func49, Try.ntmps49
    go_wp2
    go_ret
    exact ⟨rfl, 0, rfl⟩
  | false =>
    rcases hfm with ⟨rfl, h0⟩ | ⟨g, cap, rfl, _, _, _, _⟩
    · have H0 := Lib.hid h0
      clear h0
      go_enter Try.func49, Try.ntmps49
      go_wp2
      go_quiet (fail)
      go_wp2
      go_ret
      exact ⟨int_ret (by rw [H0.out]; simp), _, rfl⟩
    · go_enter Try.func49, Try.ntmps49
      go_wp2
      go_quiet (fail)
      go_wp2
      go_ret
      exact ⟨int_ret (by first | rfl | (simp only [wrap64, IntKind.wrap_i64]; omega) | omega), _, rfl⟩
end Go.Proofs.Ytiiilimmjoadeaa
