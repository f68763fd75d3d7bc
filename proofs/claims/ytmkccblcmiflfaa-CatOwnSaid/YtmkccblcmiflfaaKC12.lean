/- What a catalog tells: what waits, its bytes, tombs. No condition beyond those that each theorem states. -/
import Derived.Test.YtmkccblcmiflfaaKC8
namespace Go.Proofs.Ytmkccblcmiflfaa
open Go.RowKit Go.Maps Go.WideMaps

/-- A slice that a call hands out: nil, or a row from a new block's beginning on, clipped. -/
def OutAt (w0 w : World) (t : TypeId) (v : Value) (n : Nat) (xs : List Value) : Prop :=
  (v = .slice none 0 0 ∧ n = 0 ∧ xs = []) ∨ ∃ g, v = .slice (some ⟨g, 0, none⟩) n n ∧ w0.heap.size ≤ g ∧ RowAt w g t xs
theorem OutAt.below {w0 w w' : World} {t : TypeId} {v : Value} {n : Nat} {xs : List Value} (h : OutAt w0 w t v n xs) (hb : Below w.heap.size w w') : OutAt w0 w' t v n xs :=
  h.imp id fun ⟨g, h1, h2, h3⟩ => ⟨g, h1, h2, h3.of_eq (hb.block g h3.size)⟩
theorem OutAt.old {w0 w1 w : World} {t : TypeId} {v : Value} {n : Nat} {xs : List Value} (h : OutAt w1 w t v n xs) (hz : w0.heap.size ≤ w1.heap.size) : OutAt w0 w t v n xs :=
  h.imp id fun ⟨g, h1, h2, h3⟩ => ⟨g, h1, Nat.le_trans hz h2, h3⟩
theorem OutAt.of_own {w0 w : World} {t : TypeId} {size n c : Nat} {B : Option Addr} {xs : List Value} (h : w.ownsRow w0.heap.size t size (.slice B n c) n xs) : OutAt w0 w t (.slice B n n) n xs := by
  have hl := h.1
  rcases h.2 with ⟨e, h0⟩ | ⟨g, cap, cur, e, h1, _⟩
  · cases e
    exact .inl ⟨rfl, rfl, List.eq_nil_of_length_eq_zero (by rw [hl]; simp)⟩
  · cases e
    exact .inr ⟨g, rfl, h1, RowAt.of_own h⟩
theorem own_form {w : World} {base : Nat} {t : TypeId} {size n : Nat} {v : Value} {xs : List Value} (h : w.ownsRow base t size v n xs) : ∃ B c, v = .slice B n c ∧ n ≤ c ∧ c ≤ maxLen ∧ ((B = none ∧ n = 0 ∧ c = 0) ∨ ∃ g, B = some ⟨g, 0, none⟩) := by
  rcases h.2 with ⟨e, h0⟩ | ⟨g, cap, cur, e, _, _, h3, h4, _⟩
  · subst h0
    exact ⟨none, 0, e, Nat.le_refl _, Nat.zero_le _, .inl ⟨rfl, rfl, rfl⟩⟩
  · exact ⟨_, cap, e, h3, h4, .inr ⟨g, rfl⟩⟩
theorem str_info : (Try.prog.info? 9).map (fun i => (i.zero, i.size, i.bytes)) = some (some (.string ⟨#[]⟩), 1, 16) := by kernel_rfl
theorem noteC_info : (Try.prog.info? 26).map (fun i => (i.zero, i.size, i.bytes)) = some (some (.agg #[.int .i64 0, .string ⟨#[]⟩, .int .i64 0, .int .i64 0, .slice none 0 0, .string ⟨#[]⟩, .int .i64 0, .slice none 0 0]), 8, 112) := by kernel_rfl
def strVals (l : List Str) : List Value := l.map encStr
theorem src_new1 (W : World) (t : TypeId) (cs : Array Value) (g : Nat) (hg : g = W.heap.size) : SrcAt (W.alloc (.cells cs t)) (some ⟨g, 0, none⟩) cs.size cs.toList := by
  subst hg
  refine .inr ⟨_, 0, rfl, fun j u hu => ?_⟩
  rw [Nat.zero_add, (Blk.made W t cs).cell]
  simpa using hu
section
set_option maxHeartbeats 1000000
theorem clip_str (B : Option Addr) (n c : Nat) (w : World) (hn : n ≤ c) (hc : c ≤ maxLen) (hB : (B = none ∧ n = 0 ∧ c = 0) ∨ ∃ g, B = some ⟨g, 0, none⟩) :
    Calls Try.prog 39 #[.slice B n c] w fun e w' => e = .returned (.slice B n n) ∧ w = w' := by
  have hc63 : c ≤ 9223372036854775807 := by simp only [maxLen] at hc; exact hc
  clear hc
  rcases hB with ⟨rfl, rfl, rfl⟩ | ⟨g, rfl⟩
  · go_enter Try.func39, Try.ntmps39
    go_wp2
    go_ret
    exact ⟨rfl, rfl⟩
  · go_enter Try.func39, Try.ntmps39
    go_wp2
    go_ret
    exact ⟨rfl, rfl⟩
theorem clip_note (B : Option Addr) (n c : Nat) (w : World) (hn : n ≤ c) (hc : c ≤ maxLen) (hB : (B = none ∧ n = 0 ∧ c = 0) ∨ ∃ g, B = some ⟨g, 0, none⟩) :
    Calls Try.prog 26 #[.slice B n c] w fun e w' => e = .returned (.slice B n n) ∧ w = w' := by
  have hc63 : c ≤ 9223372036854775807 := by simp only [maxLen] at hc; exact hc
  clear hc
  rcases hB with ⟨rfl, rfl, rfl⟩ | ⟨g, rfl⟩
  · go_enter Try.func26, Try.ntmps26
    go_wp2
    go_ret
    exact ⟨rfl, rfl⟩
  · go_enter Try.func26, Try.ntmps26
    go_wp2
    go_ret
    exact ⟨rfl, rfl⟩
theorem clip_ent (B : Option Addr) (n c : Nat) (w : World) (hn : n ≤ c) (hc : c ≤ maxLen) (hB : (B = none ∧ n = 0 ∧ c = 0) ∨ ∃ g, B = some ⟨g, 0, none⟩) :
    Calls Try.prog 37 #[.slice B n c] w fun e w' => e = .returned (.slice B n n) ∧ w = w' := by
  have hc63 : c ≤ 9223372036854775807 := by simp only [maxLen] at hc; exact hc
  clear hc
  rcases hB with ⟨rfl, rfl, rfl⟩ | ⟨g, rfl⟩
  · go_enter Try.func37, Try.ntmps37
    go_wp2
    go_ret
    exact ⟨rfl, rfl⟩
  · go_enter Try.func37, Try.ntmps37
    go_wp2
    go_ret
    exact ⟨rfl, rfl⟩
theorem clip_place (B : Option Addr) (n c : Nat) (w : World) (hn : n ≤ c) (hc : c ≤ maxLen) (hB : (B = none ∧ n = 0 ∧ c = 0) ∨ ∃ g, B = some ⟨g, 0, none⟩) :
    Calls Try.prog 58 #[.slice B n c] w fun e w' => e = .returned (.slice B n n) ∧ w = w' := by
  have hc63 : c ≤ 9223372036854775807 := by simp only [maxLen] at hc; exact hc
  clear hc
  rcases hB with ⟨rfl, rfl, rfl⟩ | ⟨g, rfl⟩
  · go_enter Try.func58, Try.ntmps58
    go_wp2
    go_ret
    exact ⟨rfl, rfl⟩
  · go_enter Try.func58, Try.ntmps58
    go_wp2
    go_ret
    exact ⟨rfl, rfl⟩
theorem nclone (A : Option Addr) (n c : Nat) (L : List (Str × Int)) (w : World) (hf : Form A n c) (hm : n ≤ 1000000) (hl : L.length = n) (h : SrcAt w A n (tombVals L)) :
    Calls Try.prog 40 #[.slice A n c] w fun e w' => ∃ B k, e = .returned (.slice B n k) ∧ w'.ownsRow w.heap.size 26 8 (.slice B n k) n (tombVals L) ∧ Below w.heap.size w w' := by
  have h1 : ∀ w, _ := fun w => Lib.run_eql_slice_nil (P := Try.prog) w 22 26 A n c 0 0 Try.underlying22
  have H := Lib.hid h
  have HL := Lib.hid hl
  obtain ⟨i0, hi0, hz0, hz1, hz2⟩ := info_parts noteC_info
  have htl : (tombVals L).length = n * 8 := by
    rw [← hl]
    clear h hl H HL
    induction L with
    | nil => rfl
    | cons x L ih => simp only [tombVals, List.flatMap_cons, List.length_append, List.length_cons, List.length_nil] at *; omega
  have HTL := Lib.hid htl
  clear h hl htl
  cases A with
  | none =>
    obtain ⟨rfl, rfl⟩ := hf.2.2 rfl
    go_enter Try.func40, Try.ntmps40
    go_wp2
    go_ret
    have e : L = [] := List.eq_nil_of_length_eq_zero HL.out
    subst e
    exact ⟨none, 0, rfl, World.ownsRow_nil _ _ _ _, Below.refl _ _⟩
  | some a =>
    go_enter Try.func40, Try.ntmps40
    go_wp2_with (
      (at_builtin
       refine wpList_append_src _ rfl (.tmp 5) (.tmp 6) 22 rfl w.heap.size 26 i0 _ 8 112 Try.underlying22 hi0 hz0 hz1 hz2 rfl (by omega) _ 0 [] rfl (by exact own_made _ _ 8 rfl (Nat.le_refl _)) (some a) n c (tombVals L) rfl HTL.out (fun e => by cases e) (by exact H.out.below ((Below.refl _ _).alloc (Nat.le_refl _) _)) (tombVals_one L) (by simp only [maxLen]; omega) (by omega) (by simp) ?_
       intro v w1 hown hgr hat))
    go_ret
    have hb1 : Below w.heap.size w w1 := ((Below.refl _ _).alloc (Nat.le_refl _) _).grown hgr (by simp) (fun q hq => by have h : w.heap.size = q := Option.some.inj hq; omega)
    rcases hown.2 with ⟨rfl, h0⟩ | ⟨g, cap, cur, rfl, h2⟩
    · have hn0 : n = 0 := by omega
      subst hn0
      exact ⟨none, 0, rfl, by have h := hown; rw [List.nil_append] at h; exact h, hb1⟩
    · refine ⟨some ⟨g, 0, none⟩, cap, by simp, ?_, hb1⟩
      have h := hown
      rw [List.nil_append] at h
      rwa [Nat.zero_add] at h
theorem orow_src {F : Nat → Prop} {w : World} {t : TypeId} {size n : Nat} {B : Option Addr} {c : Nat} {xs : List Value} (h : OwnRow F w t size (.slice B n c) n xs) : SrcAt w B n xs ∧ Form B n c := by
  rcases h.1.2 with ⟨e, h0⟩ | ⟨g, cap, cur, e, _, _, h3, h4, _⟩
  · cases e
    exact ⟨.inl ⟨rfl, List.eq_nil_of_length_eq_zero (by rw [h.1.1]; simp)⟩, Nat.le_refl _, Nat.zero_le _, fun _ => ⟨rfl, rfl⟩⟩
  · cases e
    exact ⟨.inr ⟨g, 0, rfl, fun j u hu => by rw [Nat.zero_add]; exact h.row.cell hu⟩, h3, h4, fun e => by cases e⟩
theorem cTombs_nil (w : World) : Calls Try.prog 18 #[.pointer none] w fun e w' => e = .returned (.slice none 0 0) ∧ w = w' := by
  go_enter Try.func18, Try.ntmps18
  go_wp2
  go_ret
  exact ⟨rfl, rfl⟩
theorem cTombs (F : Nat → Prop) (p N : Nat) (C : CV) (w : World) (h : CatAt F w p N C) (hN : N ≤ 100000) :
    Calls Try.prog 18 #[.pointer (some ⟨p, 0, none⟩)] w fun e w' => ∃ v, e = .returned v ∧ OutAt w w' 26 v C.tombs.length (tombVals C.tombs) ∧ Below w.heap.size w w' := by
  obtain ⟨sv, tv, SR, ER, be, bb, br, hr⟩ := h
  have hlt : C.tombs.length ≤ 1000000 := by have := hr.wf.tombs; omega
  obtain ⟨B, c, rfl, hnc, hcm, hB⟩ := own_form hr.tmb.1
  have c3 : w.cell? ⟨p, 3, none⟩ = some (.slice B C.tombs.length c) := hr.blk.cell 3
  have S := Lib.hid (orow_src hr.tmb)
  clear hr
  go_enter Try.func18, Try.ntmps18
  go_wp2_with (first
    | (go_at_call 40; refine (nclone B _ c C.tombs _ S.out.2 hlt rfl S.out.1).mono ?_; rintro e w1 ⟨B1, k1, rfl, ho1, hb1⟩; have O1 := Lib.hid ho1; have HB1 := Lib.hid hb1; obtain ⟨B1', c1', e1, hn1, hc1, hB1⟩ := own_form ho1; cases e1; clear ho1 hb1)
    | (go_at_call 26; refine (clip_note B1 _ k1 _ hn1 hc1 hB1).mono ?_; rintro e w2 ⟨rfl, rfl⟩))
  go_ret
  exact ⟨_, rfl, OutAt.of_own O1.out, HB1.out⟩
theorem cStaged_nil (w : World) : Calls Try.prog 20 #[.pointer none] w fun e w' => e = .returned (.slice none 0 0) ∧ w = w' := by
  go_enter Try.func20, Try.ntmps20
  go_wp2
  go_ret
  exact ⟨rfl, rfl⟩
theorem cStaged (F : Nat → Prop) (p N : Nat) (C : CV) (w : World) (h : CatAt F w p N C) (hN : N ≤ 100000) :
    Calls Try.prog 20 #[.pointer (some ⟨p, 0, none⟩)] w fun e w' => ∃ v, e = .returned v ∧ OutAt w w' 9 v C.staged.length (strVals (C.staged.map Prod.fst)) ∧ Below w.heap.size w w' := by
  obtain ⟨sv, tv, SR, ER, be, bb, br, hr⟩ := h
  have hlt : C.staged.length ≤ 1000000 := by have := hr.wf.staged; omega
  have hsr : SR.length = C.staged.length := by rw [← hr.stgs, List.length_map]
  have hkeys : C.staged.map Prod.fst = SR.map (·.key) := by rw [← hr.stgs, List.map_map]; rfl
  obtain ⟨B, c, rfl, hnc, hcm, hB⟩ := own_form hr.stg.1
  have c0 : w.cell? ⟨p, 0, none⟩ = some (.slice B C.staged.length c) := hr.blk.cell 0
  have ST := Lib.hid hr.stg
  obtain ⟨i0, hi0, hz0, hz1, hz2⟩ := info_parts str_info
  rw [hkeys]
  have HSR := Lib.hid hsr
  generalize C.staged.length = n at *
  have hn63 : n ≤ 9223372036854775807 := by omega
  clear hr hkeys hsr
  go_enter Try.func20, Try.ntmps20
  go_wp2_with fail
  go_loopw [3, 13] (fun v i wx => ∃ j : Nat, i = .int .i64 j ∧ j ≤ n ∧ wx.ownsRow w.heap.size 9 1 v j (strVals ((SR.take j).map (·.key))) ∧ Below w.heap.size w wx) (fun _ i _ => n - (intOf i).toNat)
  case atStart => exact ⟨0, rfl, Nat.zero_le _, World.ownsRow_nil _ _ _ _, Below.refl _ _⟩
  case round =>
    obtain ⟨j, rfl, hj, hown, hbl⟩ := hrel
    obtain ⟨wo, rfl⟩ : ∃ wo : World, wo = wr := ⟨_, rfl⟩
    have OW := Lib.hid hown
    have BL := Lib.hid hbl
    have hz := hbl.size
    obtain ⟨A1, k1, rfl, hn1, hc1, hA1⟩ := own_form hown
    by_cases hlt2 : j < n
    · have d1 : decide (j < n) = true := by simpa using hlt2
      obtain ⟨r, hr⟩ : ∃ r, SR[j]? = some r := ⟨_, List.getElem?_eq_getElem (by rw [HSR.out]; exact hlt2)⟩
      obtain ⟨g, rfl⟩ : ∃ g, B = some ⟨g, 0, none⟩ := by
        rcases hB with ⟨_, h, _⟩ | h
        · omega
        · exact h
      have hg : g < w.heap.size := (ST.out.1.lt g rfl).2
      have k0 : wo.cell? ⟨g, j * 2, none⟩ = some (encStr r.key) := (hbl.cell (p := ⟨g, j * 2, none⟩) hg).trans (ST.out.row.cell (blobVals_get hr).1)
      have k2 : wo.cell? ⟨g, j * 2 + 1, none⟩ = some (.slice r.A r.n r.c) := (hbl.cell (p := ⟨g, j * 2 + 1, none⟩) hg).trans (ST.out.row.cell (blobVals_get hr).2)
      have HT := Lib.hid (show strVals ((SR.take (j + 1)).map (·.key)) = strVals ((SR.take j).map (·.key)) ++ [encStr r.key] by rw [List.take_add_one, hr, Option.toList_some, List.map_append]; unfold strVals; rw [List.map_append]; rfl)
      clear hown hbl hr
      go_wp2_with (
        (at_builtin
         refine wpList_append_src _ rfl (.tmp 17) (.tmp 20) 50 rfl w.heap.size 9 i0 _ 1 16 Try.underlying50 hi0 hz0 hz1 hz2 rfl (by omega) _ j _ rfl (by exact (OW.out.alloc _).alloc _) (some ⟨wo.heap.size + 1, 0, none⟩) 1 1 [encStr r.key] rfl rfl (fun e => by cases e) (by exact src_new1 _ _ _ _ (by simp)) (by intro u hu; simp only [List.mem_cons, List.not_mem_nil, or_false] at hu; rcases hu with rfl; rfl) (by simp only [maxLen]; omega) (by omega) (by simp; omega) ?_
         intro v' w1 hown1 hgr1 hat1
         have OW1 := Lib.hid hown1
         have HB1 := Lib.hid ((((BL.out.alloc hz _).alloc (by simp; omega) _).grown hgr1 (by simp; omega) (fun q hq => (OW.out.lt q hq).1)))
         clear hown1 hgr1 hat1))
      go_roundw
      case rel => exact ⟨j + 1, by go_num, hlt2, by rw [HT.out]; exact OW1.out, HB1.out⟩
      case measure => simp [intOf]; omega
    · have d1 : decide (j < n) = false := by simpa using hlt2
      obtain rfl : j = n := by omega
      clear hown hbl
      go_wp2_with (go_at_call 39; refine (clip_str A1 _ k1 _ hn1 hc1 hA1).mono ?_; rintro e w2 ⟨rfl, rfl⟩)
      go_ret
      refine ⟨_, rfl, ?_, BL.out⟩
      have h := OutAt.of_own OW.out
      rwa [List.take_of_length_le (by rw [HSR.out]; exact Nat.le_refl _)] at h
end
end Go.Proofs.Ytmkccblcmiflfaa
