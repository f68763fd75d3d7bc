/- Where a blob waits in a catalog; is a key had. No condition beyond those that each theorem states. -/
import Derived.Test.YtmkccblcmiflfaaKC1
import Derived.Deep.QuietTactic
import Derived.BigQuiet
import Derived.Deep.RegionHeld3
import Derived.Deep.DeepCutAuto
import Derived.Deep.CutBlock
import Derived.WalkSpells
import Derived.WalkLawsBesides
namespace Go.Proofs.Ytmkccblcmiflfaa
open Go.RowKit Go.Maps Go.WideMaps

section
variable {α : Type}
def idxP (p : α → Bool) : List α → Int
  | [] => -1
  | x :: l => if p x then 0 else if idxP p l < 0 then -1 else idxP p l + 1
theorem idxP_ge (p : α → Bool) : ∀ l, -1 ≤ idxP p l ∧ idxP p l < l.length
  | [] => by simp [idxP]
  | x :: l => by
    have := idxP_ge p l
    simp only [idxP, List.length_cons]
    split
    · omega
    · split <;> omega
/-- The first place at which p holds, from what is known of the places. -/
theorem idxP_at {p : α → Bool} : ∀ {l : List α} {i : Nat} {x : α}, l[i]? = some x → p x = true → (∀ (j : Nat) y, j < i → l[j]? = some y → p y = false) → idxP p l = i
  | [], _, _, h, _, _ => by simp at h
  | y :: l, 0, x, h, hp, _ => by
    have e : y = x := by simpa using h
    subst e
    simp [idxP, hp]
  | y :: l, i + 1, x, h, hp, hlo => by
    have h0 := hlo 0 y (by omega) rfl
    have ih := idxP_at (l := l) (i := i) (by simpa using h) hp (fun j z hj hz => hlo (j + 1) z (by omega) (by simpa using hz))
    simp only [idxP, h0, ih]
    simp
    omega
theorem idxP_none {p : α → Bool} : ∀ {l : List α}, (∀ (j : Nat) y, l[j]? = some y → p y = false) → idxP p l = -1
  | [], _ => rfl
  | y :: l, h => by
    have h0 := h 0 y rfl
    have ih := idxP_none (l := l) (fun j z hz => h (j + 1) z (by simpa using hz))
    simp [idxP, h0, ih]
theorem idxP_neg {p : α → Bool} : ∀ {l : List α}, idxP p l < 0 ↔ l.any p = false
  | [] => by simp [idxP]
  | y :: l => by
    have ih := idxP_neg (p := p) (l := l)
    simp only [idxP, List.any_cons, Bool.or_eq_false_iff]
    by_cases hy : p y = true
    · simp [hy]
    · have hy : p y = false := by simpa using hy
      rw [if_neg (by rw [hy]; simp)]
      by_cases hn : idxP p l < 0
      · rw [if_pos hn]; exact ⟨fun _ => ⟨hy, ih.1 hn⟩, fun _ => by omega⟩
      · rw [if_neg hn]; exact ⟨fun h => by omega, fun h => absurd (ih.2 h.2) hn⟩
end
def isKey {β : Type} (k : Str) (q : Str × β) : Bool := decide (q.1 = k)
def waitsC (C : CV) (k : Str) : Int := idxP (isKey k) C.staged
theorem hasL_any {β : Type} (L : List (Str × β)) (k : Str) : hasL L k = L.any (isKey k) := rfl
theorem waitsC_neg (C : CV) (k : Str) : waitsC C k < 0 ↔ hasL C.staged k = false := idxP_neg
theorem ret_i {a b : Int} (h : a = b) : Ending.returned (.int .i64 a) = .returned (.int .i64 b) := by rw [h]
theorem ret_b {a b : Bool} (h : a = b) : Ending.returned (.bool a) = .returned (.bool b) := by rw [h]
theorem waits1_any (k key : Str) (A : Option Addr) (n c kb : Nat) (w : World) (hk : w.cell? ⟨kb, 0, none⟩ = some (encStr key)) :
    Calls Try.prog 45 #[.agg #[encStr k, .slice A n c], .pointer (some ⟨kb, 0, none⟩)] w fun e w' => e = .returned (.bool (decide (k = key))) ∧ Below w.heap.size w w' := by
  have hkb := World.block_lt_of_cell? w _ hk
  have hne : w.heap.size ≠ kb := Nat.ne_of_gt hkb
  have h1 : (w.alloc (.cells #[encStr k, .slice A n c] 61)).cell? ⟨kb, 0, none⟩ = some (encStr key) := (((Below.refl _ w).alloc (Nat.le_refl _) _).cell (p := ⟨kb, 0, none⟩) hkb).trans hk
  by_cases hkk : k = key
  · subst hkk
    go_enter Try.func45, Try.ntmps45
    go_wp2
    go_ret
    exact ⟨ret_b (by simp), (Below.refl _ w).alloc (Nat.le_refl _) _⟩
  · have e1 : (k == key) = false := by simpa using hkk
    have HKK := Lib.hid hkk
    clear hkk
    go_enter Try.func45, Try.ntmps45
    go_wp2
    go_ret
    exact ⟨ret_b (by rw [decide_eq_false HKK.out]), (Below.refl _ w).alloc (Nat.le_refl _) _⟩
theorem blobVals_get {SR : List BlobR} {i : Nat} {r : BlobR} (h : SR[i]? = some r) : (blobVals SR)[i * 2]? = some (encStr r.key) ∧ (blobVals SR)[i * 2 + 1]? = some (.slice r.A r.n r.c) := by
  induction SR generalizing i with
  | nil => simp at h
  | cons x SR ih =>
    cases i with
    | zero =>
      have e : x = r := by simpa using h
      subst e
      exact ⟨rfl, rfl⟩
    | succ i =>
      have := ih (i := i) (by simpa using h)
      rw [show (i + 1) * 2 = i * 2 + 1 + 1 by omega]
      simp only [blobVals, List.flatMap_cons, List.cons_append, List.nil_append, List.getElem?_cons_succ]
      exact this
section
set_option maxHeartbeats 1000000
theorem ixBlob (F : Nat → Prop) (v : Value) (n : Nat) (SR : List BlobR) (key : Str) (kb : Nat) (w : World) (h : OwnRow F w 61 2 v n (blobVals SR)) (hn : SR.length = n) (hk : w.cell? ⟨kb, 0, none⟩ = some (encStr key)) :
    Calls Try.prog 44 #[v, .func (.func 45) #[] #[.pointer (some ⟨kb, 0, none⟩)]] w fun e w' => e = .returned (.int .i64 (idxP (fun r => decide (r.key = key)) SR)) ∧ Below w.heap.size w w' := by
  have hkb := World.block_lt_of_cell? w _ hk
  rcases h.form with ⟨rfl, rfl⟩ | ⟨g, cap, rfl, hnc, hcm, hF, hg⟩
  · have hs : SR = [] := List.eq_nil_of_length_eq_zero hn
    subst hs
    go_enter Try.func44, Try.ntmps44
    go_wp2_with fail
    go_loopw [5, 8] (fun _ i wx => i = .int .i64 0 ∧ wx = w) (fun _ _ _ => 0)
    case atStart => exact ⟨rfl, rfl⟩
    case round =>
      obtain ⟨rfl, rfl⟩ := hrel
      go_wp2_with fail
      go_ret
      exact ⟨rfl, Below.refl _ _⟩
  · have HR := Lib.hid h.row
    have HN := Lib.hid hn
    have hn63 : n ≤ 9223372036854775807 := by simp only [maxLen] at hcm; omega
    have HK := Lib.hid hk
    clear hk h
    go_enter Try.func44, Try.ntmps44
    go_wp2_with fail
    go_loopw [5, 8] (fun _ i wx => ∃ k : Nat, k ≤ n ∧ i = .int .i64 k ∧ (∀ (j : Nat) r, j < k → SR[j]? = some r → decide (r.key = key) = false) ∧ Below w.heap.size w wx) (fun _ i _ => n - (intOf i).toNat)
    case atStart => exact ⟨0, Nat.zero_le _, rfl, fun j r hj => by omega, Below.refl _ _⟩
    case round =>
      obtain ⟨k, hkn, rfl, hlo, hbl⟩ := hrel
      obtain ⟨wo, rfl⟩ : ∃ wo : World, wo = wr := ⟨_, rfl⟩
      have LO := Lib.hid hlo
      have BL := Lib.hid hbl
      have hz := hbl.size
      clear hlo
      by_cases hlt : k < n
      · have d1 : decide (k < n) = true := by simpa using hlt
        obtain ⟨r, hr⟩ : ∃ r, SR[k]? = some r := ⟨_, List.getElem?_eq_getElem (by rw [HN.out]; exact hlt)⟩
        have k0 : wo.cell? ⟨g, k * 2, none⟩ = some (encStr r.key) := (hbl.cell (p := ⟨g, k * 2, none⟩) hg).trans (HR.out.cell (blobVals_get hr).1)
        have k1 : wo.cell? ⟨g, k * 2 + 1, none⟩ = some (.slice r.A r.n r.c) := (hbl.cell (p := ⟨g, k * 2 + 1, none⟩) hg).trans (HR.out.cell (blobVals_get hr).2)
        have KK := Lib.hid ((hbl.cell (p := ⟨kb, 0, none⟩) hkb).trans HK.out)
        have HRR := Lib.hid hr
        clear hr hbl
        cases hd : decide (r.key = key) with
        | true =>
          have HD := Lib.hid hd
          clear hd
          go_wp2_with (go_at_call 45; refine (waits1_any r.key key r.A r.n r.c kb _ KK.out).mono ?_; rw [HD.out]; rintro e w1 ⟨rfl, hb1⟩; have B1 := Lib.hid (BL.out.trans (hb1.mono hz)); clear hb1)
          go_ret
          exact ⟨ret_i (idxP_at HRR.out HD.out LO.out).symm, B1.out⟩
        | false =>
          have HD := Lib.hid hd
          clear hd
          go_wp2_with (go_at_call 45; refine (waits1_any r.key key r.A r.n r.c kb _ KK.out).mono ?_; rw [HD.out]; rintro e w1 ⟨rfl, hb1⟩; have B1 := Lib.hid (BL.out.trans (hb1.mono hz)); clear hb1)
          go_roundw
          case rel => exact ⟨k + 1, hlt, by go_num, fun j r' hj hr' => by
            by_cases hjk : j = k
            · subst hjk
              rw [HRR.out] at hr'
              cases hr'
              exact HD.out
            · exact LO.out j r' (by omega) hr', B1.out⟩
          case measure => simp [intOf]; omega
      · have d1 : decide (k < n) = false := by simpa using hlt
        have HE := Lib.hid (show idxP (fun r => decide (r.key = key)) SR = -1 from idxP_none fun j y hy => LO.out j y (by have := (List.getElem?_eq_some_iff.1 hy).1; rw [HN.out] at this; omega) hy)
        clear hbl
        go_wp2_with fail
        go_ret
        exact ⟨ret_i HE.out.symm, BL.out⟩
theorem idxP_map {α β : Type} (f : α → β) (p : β → Bool) : ∀ l : List α, idxP p (l.map f) = idxP (fun x => p (f x)) l
  | [] => rfl
  | x :: l => by simp only [List.map_cons, idxP, idxP_map f p l]
theorem cWaits (F : Nat → Prop) (p N : Nat) (C : CV) (key : Str) (w : World) (h : CatAt F w p N C) :
    Calls Try.prog 23 #[.pointer (some ⟨p, 0, none⟩), encStr key] w fun e w' => e = .returned (.int .i64 (waitsC C key)) ∧ Below w.heap.size w w' := by
  obtain ⟨sv, tv, SR, ER, be, bb, br, hr⟩ := h
  obtain ⟨w1, hw1⟩ : ∃ w1, w1 = w.alloc (.cells #[encStr key] 9) := ⟨_, rfl⟩
  have hb1 : Below w.heap.size w w1 := by rw [hw1]; exact (Below.refl _ _).alloc (Nat.le_refl _) _
  have hr1 := hr.below hb1
  have hk1 : w1.cell? ⟨w.heap.size, 0, none⟩ = some (encStr key) := by rw [hw1]; exact (Blk.made w _ _).cell 0
  have c0 : w1.cell? ⟨p, 0, none⟩ = some sv := hr1.blk.cell 0
  have hsr : SR.length = C.staged.length := by rw [← hr.stgs, List.length_map]
  have hix := ixBlob F sv _ SR key w.heap.size w1 hr1.stg hsr hk1
  have HX := Lib.hid hix
  have HS := Lib.hid hr.stgs
  have HB1 := Lib.hid hb1
  have hv : (∃ B n c, sv = .slice B n c) := by
    rcases hr.stg.form with ⟨h, _⟩ | ⟨g, cap, h, _⟩
    · exact ⟨_, _, _, h⟩
    · exact ⟨_, _, _, h⟩
  obtain ⟨B, n, c, rfl⟩ := hv
  clear hix hr hr1 hsr hb1 hk1
  go_enter Try.func23, Try.ntmps23
  go_upto_region 1 with fail
  rw [← hw1]
  clear hw1
  go_wp2_with (go_at_call 44; refine HX.out.mono ?_; rintro e w2 ⟨rfl, hb2⟩)
  go_ret
  refine ⟨ret_i ?_, HB1.out.trans (hb2.mono HB1.out.size)⟩
  unfold waitsC
  rw [← HS.out, idxP_map]
  rfl
end
end Go.Proofs.Ytmkccblcmiflfaa
