/- The law's comparison of two lists of texts, and of what two catalogs tell. No condition beyond those that each theorem states. -/
import Derived.Test.YtmkccblcmiflfaaGreatKC28
import Derived.Test.YtmkccblcmiflfaaGreatKP3
import Derived.Test.YtmkccblcmiflfaaGreatKP5
namespace Go.Proofs.YtmkccblcmiflfaaGreat
open Go.RowKit Go.Maps Go.WideMaps

structure StrsRd (w : World) (A : Option Addr) (n : Nat) (L : List Str) : Prop where
  len : L.length = n
  row : SrcAt w A n (strVals L)
  max : n ≤ maxLen
theorem StrsRd.below {w w' : World} {A : Option Addr} {n : Nat} {L : List Str} (h : StrsRd w A n L) (hb : Below w.heap.size w w') : StrsRd w' A n L := ⟨h.len, h.row.below hb, h.max⟩
theorem OutAt.strs {w0 w : World} {v : Value} {n : Nat} {L : List Str} (h : OutAt w0 w 9 v n (strVals L)) (hn : L.length = n) (hm : n ≤ maxLen) : ∃ A, v = .slice A n n ∧ StrsRd w A n L := by
  rcases h with ⟨rfl, h0, hx⟩ | ⟨g, rfl, h1, h2⟩
  · exact ⟨none, by rw [h0], hn, .inl ⟨h0, hx⟩, hm⟩
  · exact ⟨_, rfl, hn, OneRow.src h2, hm⟩
theorem strVals_get {L : List Str} {j : Nat} {x : Str} (h : L[j]? = some x) : (strVals L)[j]? = some (encStr x) := by
  unfold strVals
  rw [List.getElem?_map, h]
  rfl
section
set_option maxHeartbeats 4000000
set_option maxRecDepth 16000
theorem sameS (A : Option Addr) (n c : Nat) (L : List Str) (A' : Option Addr) (n' c' : Nat) (L' : List Str) (w : World) (h : StrsRd w A n L) (h' : StrsRd w A' n' L') :
    Calls Tryz.prog 42 #[.slice A n c, .slice A' n' c'] w fun e w' => e = .returned (.bool (decide (L = L'))) ∧ Below w.heap.size w w' := by
  have H := Lib.hid h
  have H' := Lib.hid h'
  have h63 : n ≤ 9223372036854775807 := by have := h.max; simpa [maxLen] using this
  clear h h'
  by_cases hn : n = n'
  case neg =>
    have r := decide_eq_false (fun e : L = L' => hn (by rw [← H.out.len, ← H'.out.len, e]))
    have e1 : ((n : Int) != (n' : Int)) = true := by simp; omega
    clear hn
    go_enter Tryz.func42, Tryz.ntmps42
    go_wp2_with fail
    go_ret
    exact ⟨ret_b r.symm, Below.refl _ _⟩
  subst hn
  go_enter Tryz.func42, Tryz.ntmps42
  go_wp2_with fail
  go_loopw [5] (fun i wx => ∃ j : Nat, i = .int .i64 j ∧ j ≤ n ∧ L.take j = L'.take j ∧ Below w.heap.size w wx) (fun i _ => n - (intOf i).toNat)
  case atStart => exact ⟨0, rfl, Nat.zero_le _, rfl, Below.refl _ _⟩
  case round =>
    obtain ⟨j, rfl, hj, heq, hbl⟩ := hrel
    have BL := Lib.hid hbl
    have HEQ := Lib.hid heq
    by_cases hlt : j < n
    · have d1 : decide (j < n) = true := by simpa using hlt
      obtain ⟨x, hx⟩ : ∃ x, L[j]? = some x := ⟨_, List.getElem?_eq_getElem (by rw [H.out.len]; exact hlt)⟩
      obtain ⟨y, hy⟩ : ∃ y, L'[j]? = some y := ⟨_, List.getElem?_eq_getElem (by rw [H'.out.len]; exact hlt)⟩
      obtain ⟨b, off, rfl, hc⟩ : ∃ b off, A = some ⟨b, off, none⟩ ∧ ∀ j u, (strVals L)[j]? = some u → wr.cell? ⟨b, off + j, none⟩ = some u := by
        rcases H.out.row.below hbl with ⟨h0, _⟩ | ⟨b, off, h1, h2⟩
        · omega
        · exact ⟨b, off, h1, h2⟩
      obtain ⟨b', off', rfl, hc'⟩ : ∃ b off, A' = some ⟨b, off, none⟩ ∧ ∀ j u, (strVals L')[j]? = some u → wr.cell? ⟨b, off + j, none⟩ = some u := by
        rcases H'.out.row.below hbl with ⟨h0, _⟩ | ⟨b, off, h1, h2⟩
        · omega
        · exact ⟨b, off, h1, h2⟩
      have x0 : wr.cell? ⟨b, off + j, none⟩ = some (encStr x) := hc _ _ (strVals_get hx)
      have y0 : wr.cell? ⟨b', off' + j, none⟩ = some (encStr y) := hc' _ _ (strVals_get hy)
      have HX := Lib.hid hx
      have HY := Lib.hid hy
      clear hx hy hbl hc hc' heq
      by_cases n1 : x = y
      case neg =>
        have f1 : (x == y) = false := by simpa using n1
        have r := decide_eq_false (fun e : L = L' => n1 (by have h := HX.out; rw [e, HY.out] at h; injection h with h; exact h.symm))
        clear n1
        go_wp2_with fail
        go_quiet (fail)
        go_wp2_with fail
        go_ret
        exact ⟨ret_b r.symm, below_drewN BL.out _⟩
      have f1 : (x == y) = true := by simpa using n1
      have HE1 := Lib.hid n1
      clear n1
      go_wp2_with fail
      go_quiet (fail)
      go_wp2_with fail
      go_roundw
      case rel => exact ⟨j + 1, by go_num, hlt, by rw [List.take_add_one, List.take_add_one, HX.out, HY.out, HEQ.out, HE1.out], below_drewN BL.out _⟩
      case measure => simp [intOf]; omega
    · have d1 : decide (j < n) = false := by simpa using hlt
      obtain rfl : j = n := by omega
      have q := decide_eq_true (show L = L' by
        have h8 := HEQ.out
        rwa [List.take_of_length_le (by rw [H.out.len]; exact Nat.le_refl _), List.take_of_length_le (by rw [H'.out.len]; exact Nat.le_refl _)] at h8)
      go_wp2_with fail
      go_ret
      exact ⟨by first | rfl | exact ret_b q.symm, BL.out⟩
theorem cViews (F G : Nat → Prop) (p q N M : Nat) (C D : CV) (w : World) (hc : CatAt F w p N C) (hd : CatAt G w q M D) (hN : N ≤ 100000) (hM : M ≤ 100000) (he : Eqv C D) :
    Calls Tryz.prog 11 #[.pointer (some ⟨p, 0, none⟩), .pointer (some ⟨q, 0, none⟩)] w fun e w' => e = .returned (.bool true) ∧ Below w.heap.size w w' := by
  have HC := Lib.hid hc
  have HD := Lib.hid hd
  have fc := hc.facts
  have fd := hd.facts
  have EN := Lib.hid (notesC_eqv he fc.2.1 fd.2.1 fc.2.2.2.1 fd.2.2.2.1)
  have EK := Lib.hid (keysC_eqv he fc.2.1 fd.2.1)
  have ES := Lib.hid he.st
  obtain ⟨kn, hkn⟩ : ∃ kn, (keysC C).length = kn := ⟨_, rfl⟩
  obtain ⟨sn, hsn⟩ : ∃ sn, C.staged.length = sn := ⟨_, rfl⟩
  have hkm : kn ≤ maxLen := by
    rw [← hkn]
    unfold keysC
    rw [sortS_len, List.length_append, List.length_map, List.length_map]
    have h1 := fc.1.staged
    have h2 := fc.2.2.2.2.1
    simp only [maxLen]
    omega
  have hsm : sn ≤ maxLen := by
    have h1 := fc.1.staged
    simp only [maxLen]
    omega
  have KN := Lib.hid hkn
  have SN := Lib.hid hsn
  have KL := Lib.hid hkm
  have SL := Lib.hid hsm
  clear hkn hsn hkm hsm
  clear hc hd fc fd he
  go_enter Tryz.func11, Tryz.ntmps11
  go_wp2_with fail
  refine (cNotes F p N C _ HC.out hN).mono ?_
  rintro e w1 ⟨NB, rfl, ⟨nc, hst⟩, hb1⟩
  obtain ⟨NP, hNP, hheld⟩ := hst.held
  have P1 := Lib.hid hNP
  have R1 := Lib.hid (hheld w1 (fun _ _ _ => rfl))
  have B1 := Lib.hid hb1
  clear hst hNP hheld hb1
  go_wp2_with fail
  refine (cNotes G q M D _ (HD.out.below B1.out) hM).mono ?_
  rw [EN.out]
  rintro e w2 ⟨NB2, rfl, ⟨nc2, hst⟩, hb2⟩
  obtain ⟨NP2, hNP, hheld⟩ := hst.held
  have R2 := Lib.hid (hheld w2 (fun _ _ _ => rfl))
  have R12 := Lib.hid (R1.out.below hb2)
  have B2 := Lib.hid (B1.out.trans (hb2.mono B1.out.size))
  have q1 := decide_eq_true (show NP.map (·.v) = NP2.map (·.v) by rw [P1.out, hNP])
  clear hst hNP hheld hb2
  generalize (notesC C).length = ln at *
  go_wp2_with fail
  refine (alike12 NB ln ln NP NB2 ln ln NP2 _ R12.out R2.out).mono ?_
  rw [q1]
  rintro e w3 ⟨rfl, hb3⟩
  have B3 := Lib.hid (B2.out.trans (hb3.mono B2.out.size))
  clear hb3
  go_wp2_with fail
  refine (cKeys F p N C _ (HC.out.below B3.out) hN).mono ?_
  rintro e w4 ⟨kv, rfl, hok, hb4⟩
  rw [KN.out] at hok
  obtain ⟨KA, rfl, hkr⟩ := hok.strs KN.out KL.out
  have K4 := Lib.hid hkr
  have B4 := Lib.hid (B3.out.trans (hb4.mono B3.out.size))
  clear hok hkr hb4
  go_wp2_with fail
  refine (cKeys G q M D _ (HD.out.below B4.out) hM).mono ?_
  rw [EK.out]
  rintro e w5 ⟨kv, rfl, hok, hb5⟩
  rw [KN.out] at hok
  obtain ⟨KA2, rfl, hkr⟩ := hok.strs KN.out KL.out
  have K5 := Lib.hid hkr
  have K45 := Lib.hid (K4.out.below hb5)
  have B5 := Lib.hid (B4.out.trans (hb5.mono B4.out.size))
  clear hok hkr hb5
  go_wp2_with fail
  refine (sameS KA kn kn (keysC C) KA2 kn kn (keysC C) _ K45.out K5.out).mono ?_
  rw [decide_eq_true (show keysC C = keysC C from rfl)]
  rintro e w6 ⟨rfl, hb6⟩
  have B6 := Lib.hid (B5.out.trans (hb6.mono B5.out.size))
  clear hb6
  go_wp2_with fail
  refine (cStaged F p N C _ (HC.out.below B6.out) hN).mono ?_
  rintro e w7 ⟨sv, rfl, hos, hb7⟩
  rw [SN.out] at hos
  obtain ⟨SA, rfl, hsr⟩ := hos.strs (by rw [List.length_map]; exact SN.out) SL.out
  have S7 := Lib.hid hsr
  have B7 := Lib.hid (B6.out.trans (hb7.mono B6.out.size))
  clear hos hsr hb7
  go_wp2_with fail
  refine (cStaged G q M D _ (HD.out.below B7.out) hM).mono ?_
  rw [ES.out]
  rintro e w8 ⟨sv, rfl, hos, hb8⟩
  rw [SN.out] at hos
  obtain ⟨SA2, rfl, hsr⟩ := hos.strs (by rw [List.length_map]; exact SN.out) SL.out
  have S8 := Lib.hid hsr
  have S78 := Lib.hid (S7.out.below hb8)
  have B8 := Lib.hid (B7.out.trans (hb8.mono B7.out.size))
  clear hos hsr hb8
  go_wp2_with fail
  refine (sameS SA sn sn (C.staged.map Prod.fst) SA2 sn sn (C.staged.map Prod.fst) _ S78.out S8.out).mono ?_
  rw [decide_eq_true (show C.staged.map Prod.fst = C.staged.map Prod.fst from rfl)]
  rintro e w9 ⟨rfl, hb9⟩
  have B9 := Lib.hid (B8.out.trans (hb9.mono B8.out.size))
  clear hb9
  go_wp2_with fail
  go_ret
  exact ⟨rfl, B9.out⟩
end
end Go.Proofs.YtmkccblcmiflfaaGreat
