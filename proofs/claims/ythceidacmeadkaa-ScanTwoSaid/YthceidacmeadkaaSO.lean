/- Of two copies of a key the better one is taken: the walk. No condition beyond those that each theorem states. -/
import Derived.Test.YthceidacmeadkaaSN
import Derived.Test.YthceidacmeadkaaSL
namespace Go.Proofs.Ythceidacmeadkaa
open Go.RowKit Go.Maps Go.WideMaps Go.Sort
attribute [local go_sem] Oper.semAt_some

theorem foundVals_app (P Q : List FoundP) : foundVals (P ++ Q) = foundVals P ++ foundVals Q := by simp [foundVals]
theorem src_drop {w : World} {g c d : Nat} {P : List FoundP} (h : w.ownsRow c 39 12 (.slice (some ⟨g, 0, none⟩) P.length d) P.length (foundVals P)) (k : Nat) : SrcAt w (some ⟨g, k * 12, none⟩) (P.drop k).length (foundVals (P.drop k)) := by
  refine .inr ⟨g, k * 12, rfl, fun j u hu => own_cell h ?_⟩
  rw [show foundVals (P.drop k) = (foundVals P).drop (k * 12) from flat_drop (vals := fun p : FoundP => (foundCells p).toList) (k := 12) (fun _ => rfl) P k] at hu
  rw [List.getElem?_drop] at hu
  exact hu
theorem two_best {g1 g2 da db : Nat} {P L : List FoundP} (hP : P.map strip = L) (h : Two g1 g2 da db L) (hlt : g1 < g2) (h2 : g2 ≤ 1000) (ha : da ≤ 2) (hb : db ≤ 2) (N : Nat) (hN : P.length = N) (hN2 : N ≤ 1000000) (W : World) (A : Option Addr) (c : Nat) (hS : SrcAt W A N (foundVals P)) :
    Calls Try.prog 10 #[.slice A N c] W fun e w' => ∃ B e1, e = .returned (.tuple #[.slice B 1 1, .int .i64 (g2 : Int)]) ∧ e1.b = (if da < db then bX g1 else bX g2) ∧ SrcAt w' B 1 (entVals [e1]) ∧ Below W.heap.size W w' := by
  subst hN
  have hok := h.ok (by omega) h2
  refine (sBestL A c P W hS hN2).mono ?_
  rintro e w2 ⟨B, es, rfl, _, hr⟩
  obtain ⟨e1, rfl, he1⟩ := one_of (best_known hP hok hr.best (h.best hlt h2 ha hb))
  rw [most_known hP hok, h.most hlt hb]
  exact ⟨B, e1, rfl, he1, hr.row, hr.base⟩
set_option maxHeartbeats 8000000 in
set_option maxRecDepth 100000 in
theorem two_walk (a b m n : Nat) (ha : a < 256) (hb : b < 256) (hm : m < 65536) (hn : n < 65536) (turned : Bool) (w : World) :
    Calls Try.prog 8 #[.int .u8 (a : Int), .int .u8 (b : Int), .int .u16 (m : Int), .int .u16 (n : Int), .bool turned] w fun e w' => e = .returned (.bool true) ∧ Below w.heap.size w w' := by
  obtain ⟨i0, hi0, hz0, hz1, hz2⟩ := info_parts found_info
  have CO := Lib.hid (show ∀ (g st : Nat), st ≤ 1000 → ∀ W, Calls Try.prog 17 #[.string ⟨#[107]⟩, .int .i64 (g : Int), .int .i64 0, .int .i64 (st : Int)] W fun e w' => ∃ (v : Value) (P : List FoundP), e = .returned v ∧ P.map strip = (List.range (1 * 10)).map (shF [107] g 0 1 st) ∧ w'.ownsRow W.heap.size 39 12 v P.length (foundVals P) ∧ Below W.heap.size W w' from fun g st hst W => (sCopyOf [107] (g : Int) 0 st (by omega) hst W).mono fun e w' ⟨v, P, q, h1, h2, h3, h4, h5⟩ => ⟨v, P, h1, by
    obtain rfl : q = 1 := by unfold groupsV at h2; omega
    rw [h3], h4, h5⟩)
  obtain ⟨g1, hg1⟩ : ∃ g : Nat, 3 + a % 20 = g := ⟨_, rfl⟩
  obtain ⟨g2, hg2⟩ : ∃ g : Nat, 30 + b % 20 = g := ⟨_, rfl⟩
  obtain ⟨da, hda⟩ : ∃ g : Nat, m % 3 = g := ⟨_, rfl⟩
  obtain ⟨db, hdb⟩ : ∃ g : Nat, n % 3 = g := ⟨_, rfl⟩
  have p1 : (3 : Int) + (a : Int) % 20 = (g1 : Int) := by omega
  have p2 : (30 : Int) + (b : Int) % 20 = (g2 : Int) := by omega
  have p3 : (m : Int) % 3 = (da : Int) := by omega
  have p4 : (n : Int) % 3 = (db : Int) := by omega
  have hlt : g1 < g2 := by omega
  have hg50 : g2 ≤ 1000 := by omega
  have ha2 : da ≤ 2 := by omega
  have hb2 : db ≤ 2 := by omega
  have CX := Lib.hid (show ∀ W, Calls Try.prog 17 #[.string ⟨#[107]⟩, .int .i64 (g1 : Int), .int .i64 0, .int .i64 5] W fun e w' => ∃ (v : Value) (P : List FoundP), e = .returned v ∧ P.map strip = (List.range (1 * 10)).map (shF [107] g1 0 1 5) ∧ w'.ownsRow W.heap.size 39 12 v P.length (foundVals P) ∧ Below W.heap.size W w' from fun W => CO.out g1 5 (by decide) W)
  have CY := Lib.hid (show ∀ W, Calls Try.prog 17 #[.string ⟨#[107]⟩, .int .i64 (g2 : Int), .int .i64 0, .int .i64 6] W fun e w' => ∃ (v : Value) (P : List FoundP), e = .returned v ∧ P.map strip = (List.range (1 * 10)).map (shF [107] g2 0 1 6) ∧ w'.ownsRow W.heap.size 39 12 v P.length (foundVals P) ∧ Below W.heap.size W w' from fun W => CO.out g2 6 (by decide) W)
  clear CO
  clear hg1 hg2 hda hdb
  go_enter Try.func8, Try.ntmps8
  go_upto_region 2 with (first
      | (go_at_call 17; (with_reducible refine (CX.out _).mono ?_; rintro e w1 ⟨v, X, rfl, hP, ho, hb⟩; have hl : X.length = 10 := (by have h := congrArg List.length hP; simpa using h); obtain ⟨B0, kX, rfl, hnX, hmX, hB0, _, hsh⟩ := own_srcv ho (fun h => by rw [List.eq_nil_of_length_eq_zero h]; simp [foundVals]); obtain ⟨gX, rfl, hgX0, hgX1⟩ : ∃ g, B0 = some ⟨g, 0, none⟩ ∧ w.heap.size ≤ g ∧ g < w1.heap.size := (by rcases hsh with h | h; exact absurd (hB0 h) (by rw [hl]; decide); exact h); rw [hl] at hnX ⊢; have HLX := Lib.hid hl; have HPX := Lib.hid hP; have OWX := Lib.hid ho; have BX := Lib.hid hb; clear hP ho hb hB0 hsh hl))
      | (go_at_call 17; (with_reducible refine (CY.out _).mono ?_; rintro e w2 ⟨v, Y, rfl, hP, ho, hb⟩; have hl : Y.length = 10 := (by have h := congrArg List.length hP; simpa using h); obtain ⟨B0, kY, rfl, hnY, hmY, hB0, _, hsh⟩ := own_srcv ho (fun h => by rw [List.eq_nil_of_length_eq_zero h]; simp [foundVals]); obtain ⟨gY, rfl, hgY0, hgY1⟩ : ∃ g, B0 = some ⟨g, 0, none⟩ ∧ w1.heap.size ≤ g ∧ g < w2.heap.size := (by rcases hsh with h | h; exact absurd (hB0 h) (by rw [hl]; decide); exact h); rw [hl] at hnY ⊢; have HLY := Lib.hid hl; have HPY := Lib.hid hP; have OWY := Lib.hid ho; have BY := Lib.hid hb; clear hP ho hb hB0 hsh hl))
      | fail)
  have q1 : (0 : Int) ≤ (da : Int) := by omega
  have q2 : (0 : Int) ≤ (db : Int) := by omega
  have q3 : (da : Int) ≤ 10 := by omega
  have q4 : (db : Int) ≤ 10 := by omega
  have q5 : (da : Int) ≤ (kX : Int) := by omega
  have q6 : (db : Int) ≤ (kY : Int) := by omega
  go_quiet (fail)
  go_upto_region 3 with fail
  obtain ⟨w3, hw3⟩ : ∃ z, w2.drewN nq = z := ⟨_, rfl⟩
  have B23 := Lib.hid (show Below w2.heap.size w2 w3 by rw [← hw3]; exact below_drewN (Below.refl _ _) _)
  rw [hw3]
  clear hw3
  have HDX := Lib.hid (show (X.drop da).length = 10 - da by rw [List.length_drop, HLX.out])
  have HDY := Lib.hid (show (Y.drop db).length = 10 - db by rw [List.length_drop, HLY.out])
  have hwz : w.heap.size ≤ w1.heap.size := BX.out.size
  have hwz2 : w1.heap.size ≤ w2.heap.size := BY.out.size
  have SX3 := Lib.hid (show SrcAt w3 (some ⟨gX, da * 12, none⟩) (10 - da) (foundVals (X.drop da)) from src_below (src_below (by have h := src_drop (by rw [HLX.out]; exact (HLX.out ▸ OWX.out)) da; rw [HDX.out] at h; exact h) BY.out) B23.out)
  have SY3 := Lib.hid (show SrcAt w3 (some ⟨gY, db * 12, none⟩) (10 - db) (foundVals (Y.drop db)) from src_below (by have h := src_drop (by rw [HLY.out]; exact (HLY.out ▸ OWY.out)) db; rw [HDY.out] at h; exact h) B23.out)
  have BW3 := Lib.hid (show Below w.heap.size w w3 from BX.out.trans ((BY.out.trans (B23.out.mono hwz2)).mono hwz))
  have MX := Lib.hid (show (X.drop da).map strip = cX g1 5 da by rw [List.map_drop, HPX.out]; exact drop_copy g1 5 da ha2)
  have MY := Lib.hid (show (Y.drop db).map strip = cX g2 6 db by rw [List.map_drop, HPY.out]; exact drop_copy g2 6 db hb2)
  have PXY := Lib.hid (fun (W : World) (A : Option Addr) (c : Nat) hS => two_best (P := X.drop da ++ Y.drop db) (show _ = cX g1 5 da ++ cX g2 6 db by rw [List.map_append, MX.out, MY.out]) (.inl rfl) hlt hg50 ha2 hb2 (10 - da + (10 - db)) (by rw [List.length_append, HDX.out, HDY.out]) (by omega) W A c hS)
  have PYX := Lib.hid (fun (W : World) (A : Option Addr) (c : Nat) hS => two_best (P := Y.drop db ++ X.drop da) (show _ = cX g2 6 db ++ cX g1 5 da by rw [List.map_append, MX.out, MY.out]) (.inr rfl) hlt hg50 ha2 hb2 (10 - db + (10 - da)) (by rw [List.length_append, HDX.out, HDY.out]) (by omega) W A c hS)
  have hw3z : w.heap.size ≤ w3.heap.size := BW3.out.size
  clear CX CY BX BY B23 OWX OWY
  go_upto_region 4 with (first
      | (at_builtin
         refine wpList_append_src _ rfl (.tmp 37) (.tmp 38) 22 rfl w3.heap.size 39 i0 _ 12 128 Try.underlying22 hi0 hz0 hz1 hz2 rfl (by omega) _ 0 [] rfl (by exact own_made w3 _ 12 rfl (Nat.le_refl _)) (some ⟨gX, da * 12, none⟩) (10 - da) _ (foundVals (X.drop da)) rfl (by rw [foundVals_len, HDX.out]) (fun e => by cases e) (by exact src_below SX3.out ((Below.refl _ w3).alloc (Nat.le_refl _) _)) (found_one _) (by simp only [maxLen]; omega) (by omega) (by simp) ?_
         intro va wa3 hown hgr hat
         rw [List.nil_append] at hown
         have OA3 := Lib.hid hown
         have BA3 := Lib.hid (show Below w3.heap.size w3 wa3 from ((Below.refl _ w3).alloc (Nat.le_refl _) _).grown hgr (by simp) (fun q hq => Nat.le_of_eq (Option.some.inj hq)))
         clear hown hgr hat)
      | (at_builtin
         refine wpList_append_src _ rfl (.tmp 39) (.tmp 40) 22 rfl w3.heap.size 39 i0 _ 12 128 Try.underlying22 hi0 hz0 hz1 hz2 rfl (by omega) _ _ _ rfl (by exact OA3.out) (some ⟨gY, db * 12, none⟩) (10 - db) _ (foundVals (Y.drop db)) rfl (by rw [foundVals_len, HDY.out]) (fun e => by cases e) (by exact src_below SY3.out BA3.out) (found_one _) (by simp only [maxLen]; omega) (by omega) (by exact BA3.out.size) ?_
         intro vb wb3 hown hgr hat
         rw [← foundVals_app] at hown
         obtain ⟨D3, d3, rfl, hnd3, hcd3, _, hsq, _⟩ := own_srcv hown (fun h => by have h1 := HDX.out; have h2 := HDY.out; omega)
         rw [Nat.zero_add] at hsq
         have SQ3 := Lib.hid hsq
         have BB3 := Lib.hid (BA3.out.grown hgr (BA3.out.size) (fun q hq => (OA3.out.lt q hq).1))
         clear hown hgr hat hsq)
      | fail)
  have BF3 := Lib.hid (show Below w.heap.size w wb3 from BW3.out.trans (BB3.out.mono hw3z))
  cases turned with
  | false =>
    go_upto_region 7 with (go_at_call 10; (refine (PXY.out _ _ _ SQ3.out).mono ?_; rintro e w5 ⟨B, e1, rfl, he1, hs5, hb5⟩; have BW5 := Lib.hid (show Below w.heap.size w w5 from BF3.out.trans (hb5.mono BF3.out.size)); have HE := Lib.hid he1; have R5 := Lib.hid hs5; clear he1 hs5 hb5))
    obtain ⟨b1, o1, hB1, hc1⟩ := src_some R5.out (by decide)
    subst hB1
    by_cases hd : da < db
    · have f1 : decide (10 - db < 10 - da) = true := decide_eq_true (by omega)
      have f2 : decide (((10 - db : Nat) : Int) < ((10 - da : Nat) : Int)) = true := decide_eq_true (by omega)
      have x1 : w5.cell? ⟨b1, o1 + 1, none⟩ = some (.int .i64 (g1 : Int)) := hc1 1 _ (by have h := HE.out; rw [if_pos hd] at h; rw [show entVals [e1] = entCells e1 from rfl]; unfold entCells; rw [h]; rfl)
      have hbz := World.block_lt_of_cell? _ _ x1
      clear hd
      go_wp2_with (go_at_call 12; (refine (sAwake _).mono ?_; rintro e w6 ⟨rfl, hb6⟩; have x6 : w6.cell? ⟨b1, o1 + 1, none⟩ = some (.int .i64 (g1 : Int)) := keepc hb6 hbz x1; have BW6 := Lib.hid (show Below w.heap.size w w6 from BW5.out.trans (hb6.mono BW5.out.size)); clear hb6))
      go_ret
      exact ⟨rfl, BW6.out⟩
    · have f1 : decide (10 - db < 10 - da) = false := decide_eq_false (by omega)
      have f2 : decide (((10 - db : Nat) : Int) < ((10 - da : Nat) : Int)) = false := decide_eq_false (by omega)
      have x1 : w5.cell? ⟨b1, o1 + 1, none⟩ = some (.int .i64 (g2 : Int)) := hc1 1 _ (by have h := HE.out; rw [if_neg hd] at h; rw [show entVals [e1] = entCells e1 from rfl]; unfold entCells; rw [h]; rfl)
      have hbz := World.block_lt_of_cell? _ _ x1
      clear hd
      go_wp2_with (go_at_call 12; (refine (sAwake _).mono ?_; rintro e w6 ⟨rfl, hb6⟩; have x6 : w6.cell? ⟨b1, o1 + 1, none⟩ = some (.int .i64 (g2 : Int)) := keepc hb6 hbz x1; have BW6 := Lib.hid (show Below w.heap.size w w6 from BW5.out.trans (hb6.mono BW5.out.size)); clear hb6))
      go_ret
      exact ⟨rfl, BW6.out⟩
  | true =>
    have SX4 := Lib.hid (src_below SX3.out BB3.out)
    have SY4 := Lib.hid (src_below SY3.out BB3.out)
    go_upto_region 6 with (first
        | (at_builtin
           refine wpList_append_src _ rfl (.tmp 43) (.tmp 44) 22 rfl wb3.heap.size 39 i0 _ 12 128 Try.underlying22 hi0 hz0 hz1 hz2 rfl (by omega) _ 0 [] rfl (by exact own_made wb3 _ 12 rfl (Nat.le_refl _)) (some ⟨gY, db * 12, none⟩) (10 - db) _ (foundVals (Y.drop db)) rfl (by rw [foundVals_len, HDY.out]) (fun e => by cases e) (by exact src_below SY4.out ((Below.refl _ wb3).alloc (Nat.le_refl _) _)) (found_one _) (by simp only [maxLen]; omega) (by omega) (by simp) ?_
           intro va wa4 hown hgr hat
           rw [List.nil_append] at hown
           have OA4 := Lib.hid hown
           have BA4 := Lib.hid (show Below wb3.heap.size wb3 wa4 from ((Below.refl _ wb3).alloc (Nat.le_refl _) _).grown hgr (by simp) (fun q hq => Nat.le_of_eq (Option.some.inj hq)))
           clear hown hgr hat)
        | (at_builtin
           refine wpList_append_src _ rfl (.tmp 45) (.tmp 46) 22 rfl wb3.heap.size 39 i0 _ 12 128 Try.underlying22 hi0 hz0 hz1 hz2 rfl (by omega) _ _ _ rfl (by exact OA4.out) (some ⟨gX, da * 12, none⟩) (10 - da) _ (foundVals (X.drop da)) rfl (by rw [foundVals_len, HDX.out]) (fun e => by cases e) (by exact src_below SX4.out BA4.out) (found_one _) (by simp only [maxLen]; omega) (by omega) (by exact BA4.out.size) ?_
           intro vb wb4 hown hgr hat
           rw [← foundVals_app] at hown
           obtain ⟨D4, d4, rfl, hnd4, hcd4, _, hsq, _⟩ := own_srcv hown (fun h => by have h1 := HDY.out; have h2 := HDX.out; omega)
           rw [Nat.zero_add] at hsq
           have SQ4 := Lib.hid hsq
           have BB4 := Lib.hid (BA4.out.grown hgr (BA4.out.size) (fun q hq => (OA4.out.lt q hq).1))
           clear hown hgr hat hsq)
        | fail)
    have BF4 := Lib.hid (show Below w.heap.size w wb4 from BF3.out.trans (BB4.out.mono BF3.out.size))
    go_upto_region 7 with (go_at_call 10; (refine (PYX.out _ _ _ SQ4.out).mono ?_; rintro e w5 ⟨B, e1, rfl, he1, hs5, hb5⟩; have BW5 := Lib.hid (show Below w.heap.size w w5 from BF4.out.trans (hb5.mono BF4.out.size)); have HE := Lib.hid he1; have R5 := Lib.hid hs5; clear he1 hs5 hb5))
    obtain ⟨b1, o1, hB1, hc1⟩ := src_some R5.out (by decide)
    subst hB1
    by_cases hd : da < db
    · have f1 : decide (10 - db < 10 - da) = true := decide_eq_true (by omega)
      have f2 : decide (((10 - db : Nat) : Int) < ((10 - da : Nat) : Int)) = true := decide_eq_true (by omega)
      have x1 : w5.cell? ⟨b1, o1 + 1, none⟩ = some (.int .i64 (g1 : Int)) := hc1 1 _ (by have h := HE.out; rw [if_pos hd] at h; rw [show entVals [e1] = entCells e1 from rfl]; unfold entCells; rw [h]; rfl)
      have hbz := World.block_lt_of_cell? _ _ x1
      clear hd
      go_wp2_with (go_at_call 12; (refine (sAwake _).mono ?_; rintro e w6 ⟨rfl, hb6⟩; have x6 : w6.cell? ⟨b1, o1 + 1, none⟩ = some (.int .i64 (g1 : Int)) := keepc hb6 hbz x1; have BW6 := Lib.hid (show Below w.heap.size w w6 from BW5.out.trans (hb6.mono BW5.out.size)); clear hb6))
      go_ret
      exact ⟨rfl, BW6.out⟩
    · have f1 : decide (10 - db < 10 - da) = false := decide_eq_false (by omega)
      have f2 : decide (((10 - db : Nat) : Int) < ((10 - da : Nat) : Int)) = false := decide_eq_false (by omega)
      have x1 : w5.cell? ⟨b1, o1 + 1, none⟩ = some (.int .i64 (g2 : Int)) := hc1 1 _ (by have h := HE.out; rw [if_neg hd] at h; rw [show entVals [e1] = entCells e1 from rfl]; unfold entCells; rw [h]; rfl)
      have hbz := World.block_lt_of_cell? _ _ x1
      clear hd
      go_wp2_with (go_at_call 12; (refine (sAwake _).mono ?_; rintro e w6 ⟨rfl, hb6⟩; have x6 : w6.cell? ⟨b1, o1 + 1, none⟩ = some (.int .i64 (g2 : Int)) := keepc hb6 hbz x1; have BW6 := Lib.hid (show Below w.heap.size w w6 from BW5.out.trans (hb6.mono BW5.out.size)); clear hb6))
      go_ret
      exact ⟨rfl, BW6.out⟩
end Go.Proofs.Ythceidacmeadkaa
