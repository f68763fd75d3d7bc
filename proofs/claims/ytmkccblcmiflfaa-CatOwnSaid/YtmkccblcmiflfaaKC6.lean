/- A note that a blob's tomb is to be told, or was told. No condition beyond those that each theorem states. -/
import Derived.Test.YtmkccblcmiflfaaKC5
import Derived.Test.YtmkccblcmiflfaaKD
namespace Go.Proofs.Ytmkccblcmiflfaa
open Go.RowKit Go.Maps Go.WideMaps

def isTomb (k : Str) (g : Int) (q : Str × Int) : Bool := decide (q.1 = k) && decide (q.2 = g)
def tombAgg (q : Str × Int) : Value := .agg #[.int .i64 6, encStr q.1, .int .i64 q.2, .int .i64 0, .slice none 0 0, encStr [], .int .i64 1, .slice none 0 0]
theorem tombVals_get {L : List (Str × Int)} {i : Nat} {q : Str × Int} (h : L[i]? = some q) {j : Nat} {u : Value} (hu : (#[.int .i64 6, encStr q.1, .int .i64 q.2, .int .i64 0, .slice none 0 0, encStr [], .int .i64 1, .slice none 0 0] : Array Value)[j]? = some u) : (tombVals L)[i * 8 + j]? = some u := by
  induction L generalizing i with
  | nil => simp at h
  | cons x L ih =>
    have hl : (tombVals (x :: L)) = [.int .i64 6, encStr x.1, .int .i64 x.2, .int .i64 0, .slice none 0 0, encStr [], .int .i64 1, .slice none 0 0] ++ tombVals L := rfl
    have hj : j < 8 := by
      have := (Array.getElem?_eq_some_iff.1 hu).1
      simpa using this
    rw [hl]
    cases i with
    | zero =>
      have e : x = q := by simpa using h
      subst e
      rw [List.getElem?_append_left (by simp; omega), Nat.zero_mul, Nat.zero_add]
      simpa using hu
    | succ i =>
      have := ih (i := i) (by simpa using h)
      rw [List.getElem?_append_right (by simp; omega), show (i + 1) * 8 + j - [.int .i64 6, encStr x.1, .int .i64 x.2, .int .i64 0, .slice none 0 0, encStr [], .int .i64 1, Value.slice none 0 0].length = i * 8 + j by simp; omega]
      exact this
theorem tombVals_snoc (L : List (Str × Int)) (q : Str × Int) : tombVals (L ++ [q]) = tombVals L ++ [.int .i64 6, encStr q.1, .int .i64 q.2, .int .i64 0, .slice none 0 0, encStr [], .int .i64 1, .slice none 0 0] := by simp [tombVals]
theorem tombVals_one (L : List (Str × Int)) : ∀ u ∈ tombVals L, u.oneCell' = true := by
  intro u hu
  obtain ⟨q, _, hu⟩ := List.mem_flatMap.1 hu
  simp only [List.mem_cons, List.not_mem_nil, or_false] at hu
  rcases hu with rfl | rfl | rfl | rfl | rfl | rfl | rfl | rfl <;> rfl
theorem tombVals_cut (L : List (Str × Int)) (i : Nat) (hi : i < L.length) : cutRow 8 i (tombVals L) = tombVals (L.eraseIdx i) := by
  induction L generalizing i with
  | nil => simp at hi
  | cons x L ih =>
    have hl : (tombVals (x :: L)) = [.int .i64 6, encStr x.1, .int .i64 x.2, .int .i64 0, .slice none 0 0, encStr [], .int .i64 1, .slice none 0 0] ++ tombVals L := rfl
    cases i with
    | zero =>
      unfold cutRow
      rw [hl, List.eraseIdx_cons_zero]
      rfl
    | succ i =>
      have := ih i (by simpa using hi)
      unfold cutRow at this ⊢
      rw [hl, List.eraseIdx_cons_succ, show (i + 1) * 8 = 8 + i * 8 by omega, show (i + 1 + 1) * 8 = 8 + (i + 1) * 8 by omega]
      have e1 : ∀ (P T : List Value) (n : Nat), P.length = 8 → (P ++ T).take (8 + n) = P ++ T.take n := fun P T n hP => by rw [List.take_append, hP, List.take_of_length_le (by omega)]; congr 1; congr 1; omega
      have e2 : ∀ (P T : List Value) (n : Nat), P.length = 8 → (P ++ T).drop (8 + n) = T.drop n := fun P T n hP => by rw [List.drop_append, hP, List.drop_eq_nil_of_le (by omega), List.nil_append]; congr 1; omega
      rw [e1 _ _ _ rfl, e2 _ _ _ rfl, List.append_assoc, this]
      rfl
section
set_option maxHeartbeats 1000000
theorem tomb1_any (q : Str × Int) (k : Str) (g : Int) (nb : Nat) (w : World) (h1 : w.cell? ⟨nb, 1, none⟩ = some (encStr k)) (h2 : w.cell? ⟨nb, 2, none⟩ = some (.int .i64 g)) :
    Calls Try.prog 54 #[tombAgg q, .pointer (some ⟨nb, 0, none⟩)] w fun e w' => e = .returned (.bool (isTomb k g q)) ∧ Below w.heap.size w w' := by
  have hnb := World.block_lt_of_cell? w _ h1
  have hne : w.heap.size ≠ nb := Nat.ne_of_gt hnb
  have hb : Below w.heap.size w (w.alloc (.cells #[.int .i64 6, encStr q.1, .int .i64 q.2, .int .i64 0, .slice none 0 0, encStr [], .int .i64 1, .slice none 0 0] 26)) := (Below.refl _ w).alloc (Nat.le_refl _) _
  have k1 := (hb.cell (p := ⟨nb, 1, none⟩) hnb).trans h1
  have k2 := (hb.cell (p := ⟨nb, 2, none⟩) hnb).trans h2
  have HB := Lib.hid hb
  clear hb
  unfold tombAgg
  by_cases hk : q.1 = k
  · by_cases hg : q.2 = g
    · have HE := Lib.hid (show isTomb k g q = true by unfold isTomb; rw [hk, hg]; simp)
      subst hk
      subst hg
      go_enter Try.func54, Try.ntmps54
      go_wp2
      go_ret
      exact ⟨ret_b HE.out.symm, HB.out⟩
    · have HE := Lib.hid (show isTomb k g q = false by unfold isTomb; rw [decide_eq_false hg, Bool.and_false])
      subst hk
      have e1 : (q.2 == g) = false := by simpa using hg
      clear hg
      go_enter Try.func54, Try.ntmps54
      go_wp2
      go_ret
      exact ⟨ret_b HE.out.symm, HB.out⟩
  · have HE := Lib.hid (show isTomb k g q = false by unfold isTomb; rw [decide_eq_false hk, Bool.false_and])
    have e1 : (q.1 == k) = false := by simpa using hk
    clear hk
    go_enter Try.func54, Try.ntmps54
    go_wp2
    go_ret
    exact ⟨ret_b HE.out.symm, HB.out⟩
theorem ixNote (F : Nat → Prop) (v : Value) (n : Nat) (L : List (Str × Int)) (key : Str) (gen : Int) (nb : Nat) (w : World) (h : OwnRow F w 26 8 v n (tombVals L)) (hn : L.length = n) (hk : w.cell? ⟨nb, 1, none⟩ = some (encStr key)) (hg2 : w.cell? ⟨nb, 2, none⟩ = some (.int .i64 gen)) :
    Calls Try.prog 53 #[v, .func (.func 54) #[] #[.pointer (some ⟨nb, 0, none⟩)]] w fun e w' => e = .returned (.int .i64 (idxP (isTomb key gen) L)) ∧ Below w.heap.size w w' := by
  have hkb := World.block_lt_of_cell? w _ hk
  rcases h.form with ⟨rfl, rfl⟩ | ⟨g, cap, rfl, hnc, hcm, hF, hg⟩
  · have hs : L = [] := List.eq_nil_of_length_eq_zero hn
    subst hs
    go_enter Try.func53, Try.ntmps53
    go_wp2_with fail
    go_loopw [5, 8] (fun _ i wx => i = .int .i64 0 ∧ wx = w) (fun _ _ _ => 0)
    case atStart => exact ⟨rfl, rfl⟩
    case round =>
      obtain ⟨rfl, rfl⟩ := hrel
      go_wp2_with fail
      go_ret
      exact ⟨rfl, Below.refl _ _⟩
  · have HR := Lib.hid h.row
    have HN := Lib.hid hn
    have hn63 : n ≤ 9223372036854775807 := by simp only [maxLen] at hcm; omega
    have HK := Lib.hid (And.intro hk hg2)
    clear hk hg2 h
    go_enter Try.func53, Try.ntmps53
    go_wp2_with fail
    go_loopw [5, 8] (fun _ i wx => ∃ k : Nat, k ≤ n ∧ i = .int .i64 k ∧ (∀ (j : Nat) r, j < k → L[j]? = some r → isTomb key gen r = false) ∧ Below w.heap.size w wx) (fun _ i _ => n - (intOf i).toNat)
    case atStart => exact ⟨0, Nat.zero_le _, rfl, fun j r hj => by omega, Below.refl _ _⟩
    case round =>
      obtain ⟨k, hkn, rfl, hlo, hbl⟩ := hrel
      obtain ⟨wo, rfl⟩ : ∃ wo : World, wo = wr := ⟨_, rfl⟩
      have LO := Lib.hid hlo
      have BL := Lib.hid hbl
      have hz := hbl.size
      clear hlo
      by_cases hlt : k < n
      · have d1 : decide (k < n) = true := by simpa using hlt
        obtain ⟨r, hr⟩ : ∃ r, L[k]? = some r := ⟨_, List.getElem?_eq_getElem (by rw [HN.out]; exact hlt)⟩
        have kk : ∀ (j : Nat) u, (#[.int .i64 6, encStr r.1, .int .i64 r.2, .int .i64 0, .slice none 0 0, encStr [], .int .i64 1, .slice none 0 0] : Array Value)[j]? = some u → wo.cell? ⟨g, k * 8 + j, none⟩ = some u := fun j u hu => (hbl.cell (p := ⟨g, k * 8 + j, none⟩) hg).trans (HR.out.cell (tombVals_get hr hu))
        have c0 : wo.cell? ⟨g, k * 8, none⟩ = some (.int .i64 6) := kk 0 _ rfl
        have c1 : wo.cell? ⟨g, k * 8 + 1, none⟩ = some (encStr r.1) := kk 1 _ rfl
        have c2 : wo.cell? ⟨g, k * 8 + 2, none⟩ = some (.int .i64 r.2) := kk 2 _ rfl
        have c3 : wo.cell? ⟨g, k * 8 + 3, none⟩ = some (.int .i64 0) := kk 3 _ rfl
        have c4 : wo.cell? ⟨g, k * 8 + 4, none⟩ = some (.slice none 0 0) := kk 4 _ rfl
        have c5 : wo.cell? ⟨g, k * 8 + 5, none⟩ = some (encStr []) := kk 5 _ rfl
        have c6 : wo.cell? ⟨g, k * 8 + 6, none⟩ = some (.int .i64 1) := kk 6 _ rfl
        have c7 : wo.cell? ⟨g, k * 8 + 7, none⟩ = some (.slice none 0 0) := kk 7 _ rfl
        have K1 := Lib.hid ((hbl.cell (p := ⟨nb, 1, none⟩) hkb).trans HK.out.1)
        have K2 := Lib.hid ((hbl.cell (p := ⟨nb, 2, none⟩) hkb).trans HK.out.2)
        have HRR := Lib.hid hr
        clear hr hbl kk
        cases hd : isTomb key gen r with
        | true =>
          have HD := Lib.hid hd
          clear hd
          go_wp2_with (go_at_call 54; refine (tomb1_any r key gen nb _ K1.out K2.out).mono ?_; rw [HD.out]; rintro e w1 ⟨rfl, hb1⟩; have B1 := Lib.hid (BL.out.trans (hb1.mono hz)); clear hb1)
          go_ret
          exact ⟨ret_i (idxP_at HRR.out HD.out LO.out).symm, B1.out⟩
        | false =>
          have HD := Lib.hid hd
          clear hd
          go_wp2_with (go_at_call 54; refine (tomb1_any r key gen nb _ K1.out K2.out).mono ?_; rw [HD.out]; rintro e w1 ⟨rfl, hb1⟩; have B1 := Lib.hid (BL.out.trans (hb1.mono hz)); clear hb1)
          go_roundw
          case rel => exact ⟨k + 1, hlt, by go_num, fun j r' hj hr' => by
            by_cases hjk : j = k
            · subst hjk
              rw [HRR.out] at hr'
              cases hr'
              exact HD.out
            · exact LO.out j r' (by omega) hr', B1.out⟩
          case measure => simp [intOf]; omega
      · have d1 : decide (k < n) = false := by simpa using hlt
        have HE := Lib.hid (show idxP (isTomb key gen) L = -1 from idxP_none fun j y hy => LO.out j y (by have := (List.getElem?_eq_some_iff.1 hy).1; rw [HN.out] at this; omega) hy)
        clear hbl
        go_wp2_with fail
        go_ret
        exact ⟨ret_i HE.out.symm, BL.out⟩
end
end Go.Proofs.Ytmkccblcmiflfaa
