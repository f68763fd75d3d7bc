/- The fixed fact of the laws of scanning. No condition beyond those that each theorem states. -/
import Derived.Test.YthceidacmeadkaaSK
namespace Go.Proofs.Ythceidacmeadkaa
open Go.RowKit Go.Maps Go.WideMaps Go.Sort
attribute [local go_sem] Oper.semAt_some

theorem one_of {α β : Type} {f : α → β} {l : List α} {b : β} (h : l.map f = [b]) : ∃ e, l = [e] ∧ f e = b := by
  match l, h with
  | [e], h => exact ⟨e, rfl, by simpa using h⟩
theorem none_of {α β : Type} {f : α → β} {l : List α} (h : l.map f = []) : l = [] := List.map_eq_nil_iff.1 h
theorem src_below {w w' : World} {A : Option Addr} {n : Nat} {xs : List Value} (h : SrcAt w A n xs) (hb : Below w.heap.size w w') : SrcAt w' A n xs := by
  rcases h with h | ⟨b, off, h1, h2⟩
  · exact .inl h
  · refine .inr ⟨b, off, h1, fun j u hu => ?_⟩
    have hc := h2 j u hu
    exact keepc hb (World.block_lt_of_cell? _ _ hc) hc
theorem src_take {w : World} {A : Option Addr} {P : List FoundP} {k : Nat} (hk : k ≤ P.length) (h : SrcAt w A P.length (foundVals P)) : SrcAt w A (P.take k).length (foundVals (P.take k)) := by
  rcases h with ⟨h0, h1⟩ | ⟨b, off, h1, h2⟩
  · left
    have : P = [] := List.eq_nil_of_length_eq_zero h0
    subst this
    simp [foundVals]
  · refine .inr ⟨b, off, h1, fun j u hu => h2 j u ?_⟩
    have e : foundVals (P.take k) = (foundVals P).take (k * 12) := flat_take (vals := fun p : FoundP => (foundCells p).toList) (k := 12) (fun _ => rfl) P k
    rw [e, List.getElem?_take] at hu
    split at hu
    · exact hu
    · cases hu
theorem src_some {w : World} {A : Option Addr} {n : Nat} {xs : List Value} (h : SrcAt w A n xs) (hn : n ≠ 0) : ∃ b off, A = some ⟨b, off, none⟩ ∧ ∀ j u, xs[j]? = some u → w.cell? ⟨b, off + j, none⟩ = some u := by
  rcases h with ⟨h0, _⟩ | h
  · exact absurd h0 hn
  · exact h
theorem found_one (P : List FoundP) : ∀ u ∈ foundVals P, u.oneCell' = true := by
  intro u hu
  obtain ⟨p, _, hp⟩ := List.mem_flatMap.1 hu
  exact foundCells_one p u hp
set_option maxHeartbeats 8000000 in
set_option maxRecDepth 100000 in
theorem sAwake (w : World) : Calls Try.prog 12 #[] w fun e w' => e = .returned (.bool true) ∧ Below w.heap.size w w' := by
  obtain ⟨i0, hi0, hz0, hz1, hz2⟩ := info_parts found_info
  have CO := Lib.hid (show ∀ W, Calls Try.prog 17 #[.string ⟨#[97]⟩, .int .i64 3, .int .i64 0, .int .i64 0] W fun e w' => ∃ (v : Value) (P : List FoundP), e = .returned v ∧ P.map strip = lA ∧ w'.ownsRow W.heap.size 39 12 v P.length (foundVals P) ∧ Below W.heap.size W w' from fun W => (sCopyOf [97] 3 0 0 (by omega) (by omega) W).mono fun e w' ⟨v, P, q, h1, h2, h3, h4, h5⟩ => ⟨v, P, h1, by
    obtain rfl : q = 1 := by unfold groupsV at h2; omega
    rw [h3, ← copy_all]
    rfl, h4, h5⟩)
  have TM := Lib.hid (show ∀ g W, Calls Try.prog 16 #[.string ⟨#[97]⟩, .int .i64 g] W fun e w' => e = .returned (.agg (foundCells (tombP [97] g))) ∧ Below W.heap.size W w' from fun g W => sTomb [97] g W)
  go_enter Try.func12, Try.ntmps12
  go_upto_region 2 with (go_at_call 17; (refine (CO.out _).mono ?_; rintro e w1 ⟨v, P, rfl, hP, ho, hb⟩; obtain ⟨B0, c0, rfl, hn0, hc0, hB0, hs0, hsh⟩ := own_srcv ho (fun h => by rw [List.eq_nil_of_length_eq_zero h]; rfl); have hP10 : P.length = 10 := (by have h := congrArg List.length hP; rw [List.length_map] at h; exact h); rw [hP10] at hs0 ho hn0 hB0 ⊢; obtain ⟨g0, rfl, hg0, hg1⟩ : ∃ g, B0 = some ⟨g, 0, none⟩ ∧ w.heap.size ≤ g ∧ g < w1.heap.size := (by rcases hsh with h | h; exact absurd (hB0 h) (by decide); exact h); have S0 := Lib.hid hs0; have HP := Lib.hid hP; have B1 := Lib.hid hb; have HP10 := Lib.hid hP10; clear hP ho hb hs0 hB0 hP10 hsh))
  have S0a := Lib.hid (show SrcAt w1 (some ⟨g0, 0, none⟩) P.length (foundVals P) by rw [HP10.out]; exact S0.out)
  have SB1 := Lib.hid (show Calls Try.prog 10 #[.slice (some ⟨g0, 0, none⟩) 10 c0] w1 fun e w' => ∃ B e1, e = .returned (.tuple #[.slice B 1 1, .int .i64 3]) ∧ e1.b = blobOf [97] 3 0 1 ∧ BestR (P.filter okF) w1 w' B [e1] from by
    have h := sBestL (some ⟨g0, 0, none⟩) c0 P w1 S0a.out (by rw [HP10.out]; omega)
    rw [HP10.out] at h
    refine h.mono ?_
    rintro e w2 ⟨B, es, rfl, _, hr⟩
    have hk := best_known HP.out okA hr.best bestA1
    rw [most_known HP.out okA, mostA1]
    obtain ⟨e1, rfl, he1⟩ := one_of hk
    exact ⟨B, e1, rfl, he1, hr⟩)
  go_upto_region 3 with (go_at_call 10; (refine (SB1.out).mono ?_; rintro e w2 ⟨B1a, e1, rfl, he1, hr⟩; have R1 := Lib.hid hr; have HE1 := Lib.hid he1; have hz2w : w1.heap.size ≤ w2.heap.size := hr.base.size; clear hr he1))
  have S2 := Lib.hid (src_below S0.out (R1.out.base))
  clear SB1
  have ST2 := Lib.hid (show ∀ (W : World) (A : Option Addr) (c : Nat), SrcAt W A 11 (foundVals (P ++ [tombP [97] 2])) → Calls Try.prog 10 #[.slice A 11 c] W fun e w' => ∃ B es, e = .returned (.tuple #[.slice B 1 1, .int .i64 3]) ∧ es.map CopyE.b = [blobOf [97] 3 0 1] ∧ BestR ((P ++ [tombP [97] 2]).filter okF) W w' B es from fun W A c hS => by
    have hl : (P ++ [tombP [97] 2]).length = 11 := by rw [List.length_append, HP10.out]; rfl
    have hm : (P ++ [tombP [97] 2]).map strip = lA ++ [tombP [97] 2] := by rw [List.map_append, HP.out]; rfl
    have h := sBestL A c (P ++ [tombP [97] 2]) W (by rw [hl]; exact hS) (by rw [hl]; omega)
    rw [hl] at h
    refine h.mono ?_
    rintro e w2 ⟨B, es, rfl, _, hr⟩
    have hk := best_known hm (okAT 2 (.inl rfl)) hr.best bestA2
    rw [most_known hm (okAT 2 (.inl rfl)), mostA2]
    have hes : es.length = 1 := by have h := congrArg List.length hk; simpa using h
    exact ⟨B, es, by rw [hes], hk, hr⟩)
  go_upto_region 4 with (first
      | (go_at_call 16; refine (TM.out 2 _).mono ?_; rintro e wt2 ⟨rfl, hb⟩; have OT2 := Lib.hid (own_of_eq OW2.out (fun g1 hg1 => hb.block g1 (OW2.out.lt g1 hg1).2)); have BT2 := Lib.hid (show Below w2.heap.size w2 wt2 from BA2.out.trans (hb.mono (BA2.out.size))); clear hb)
      | (go_at_call 10; refine (ST2.out _ _ _ SQ2.out).mono ?_; rintro e w3 ⟨B2, es2, rfl, hk2, hr2⟩; have HK2 := Lib.hid hk2; have BB2 := Lib.hid (show Below w2.heap.size w2 w3 from BQ2.out.trans (hr2.base.mono BQ2.out.size)); clear hk2 hr2)
      | (at_builtin; (
         refine wpList_append_src _ rfl (.tmp 17) (.tmp 18) 22 rfl w2.heap.size 39 i0 _ 12 128 Try.underlying22 hi0 hz0 hz1 hz2 rfl (by omega) _ 0 [] rfl (by exact own_made w2 _ 12 rfl (Nat.le_refl _)) (some ⟨g0, 0, none⟩) 10 c0 (foundVals P) rfl (by rw [foundVals_len, HP10.out]) (fun e => by cases e) (by exact src_below S2.out ((Below.refl _ w2).alloc (Nat.le_refl _) _)) (found_one P) (by simp only [maxLen]; omega) (by omega) (by simp) ?_
         intro v2 wa2 hown hgr hat
         rw [List.nil_append] at hown
         have OW2 := Lib.hid hown
         have BA2 := Lib.hid (show Below w2.heap.size w2 wa2 from ((Below.refl _ w2).alloc (Nat.le_refl _) _).grown hgr (by simp) (fun q hq => Nat.le_of_eq (Option.some.inj hq)))
         clear hown hgr hat))
      | (at_builtin; (
         refine wpList_append_src _ rfl (.tmp 19) (.tmp 21) 22 rfl w2.heap.size 39 i0 _ 12 128 Try.underlying22 hi0 hz0 hz1 hz2 rfl (by omega) _ _ _ rfl (by exact OT2.out.alloc _) (some ⟨wt2.heap.size, 0, none⟩) 1 1 ((foundCells (tombP [97] 2)).toList) rfl rfl (fun e => by cases e) (by exact src_new _ _ _ _) (foundCells_one _) (by simp only [maxLen]; omega) (by omega) (by have := BT2.out.size; simp; omega) ?_
         intro v2q wq2 hown hgr hat
         rw [← foundVals_snoc] at hown
         obtain ⟨D2, d2, rfl, _, _, _, hsq, _⟩ := own_srcv hown (fun h => by cases h)
         have SQ2 := Lib.hid hsq
         have BQ2 := Lib.hid ((BT2.out.alloc (BT2.out.size) (.cells ((foundCells (tombP [97] 2)).toList).toArray 39)).grown hgr (by have := BT2.out.size; simp; omega) (fun q hq => (OT2.out.lt q hq).1))
         clear hown hgr hat hsq))
      | fail)
  have S3 := Lib.hid (src_below S2.out BB2.out)
  clear ST2
  have ST3 := Lib.hid (show ∀ (W : World) (A : Option Addr) (c : Nat), SrcAt W A 11 (foundVals (P ++ [tombP [97] 3])) → Calls Try.prog 10 #[.slice A 11 c] W fun e w' => ∃ B es, e = .returned (.tuple #[.slice B 0 0, .int .i64 3]) ∧ es.map CopyE.b = [] ∧ BestR ((P ++ [tombP [97] 3]).filter okF) W w' B es from fun W A c hS => by
    have hl : (P ++ [tombP [97] 3]).length = 11 := by rw [List.length_append, HP10.out]; rfl
    have hm : (P ++ [tombP [97] 3]).map strip = lA ++ [tombP [97] 3] := by rw [List.map_append, HP.out]; rfl
    have h := sBestL A c (P ++ [tombP [97] 3]) W (by rw [hl]; exact hS) (by rw [hl]; omega)
    rw [hl] at h
    refine h.mono ?_
    rintro e w2 ⟨B, es, rfl, _, hr⟩
    have hk := best_known hm (okAT 3 (.inr rfl)) hr.best bestA3
    rw [most_known hm (okAT 3 (.inr rfl)), mostA3]
    have hes : es.length = 0 := by have h := congrArg List.length hk; simpa using h
    exact ⟨B, es, by rw [hes], hk, hr⟩)
  go_upto_region 5 with (first
      | (go_at_call 16; refine (TM.out 3 _).mono ?_; rintro e wt3 ⟨rfl, hb⟩; have OT3 := Lib.hid (own_of_eq OW3.out (fun g1 hg1 => hb.block g1 (OW3.out.lt g1 hg1).2)); have BT3 := Lib.hid (show Below w3.heap.size w3 wt3 from BA3.out.trans (hb.mono (BA3.out.size))); clear hb)
      | (go_at_call 10; refine (ST3.out _ _ _ SQ3.out).mono ?_; rintro e w4 ⟨B3, es3, rfl, hk3, hr3⟩; have HK3 := Lib.hid hk3; have BB3 := Lib.hid (show Below w3.heap.size w3 w4 from BQ3.out.trans (hr3.base.mono BQ3.out.size)); clear hk3 hr3)
      | (at_builtin; (
         refine wpList_append_src _ rfl (.tmp 27) (.tmp 28) 22 rfl w3.heap.size 39 i0 _ 12 128 Try.underlying22 hi0 hz0 hz1 hz2 rfl (by omega) _ 0 [] rfl (by exact own_made w3 _ 12 rfl (Nat.le_refl _)) (some ⟨g0, 0, none⟩) 10 c0 (foundVals P) rfl (by rw [foundVals_len, HP10.out]) (fun e => by cases e) (by exact src_below S3.out ((Below.refl _ w3).alloc (Nat.le_refl _) _)) (found_one P) (by simp only [maxLen]; omega) (by omega) (by simp) ?_
         intro v3 wa3 hown hgr hat
         rw [List.nil_append] at hown
         have OW3 := Lib.hid hown
         have BA3 := Lib.hid (show Below w3.heap.size w3 wa3 from ((Below.refl _ w3).alloc (Nat.le_refl _) _).grown hgr (by simp) (fun q hq => Nat.le_of_eq (Option.some.inj hq)))
         clear hown hgr hat))
      | (at_builtin; (
         refine wpList_append_src _ rfl (.tmp 29) (.tmp 31) 22 rfl w3.heap.size 39 i0 _ 12 128 Try.underlying22 hi0 hz0 hz1 hz2 rfl (by omega) _ _ _ rfl (by exact OT3.out.alloc _) (some ⟨wt3.heap.size, 0, none⟩) 1 1 ((foundCells (tombP [97] 3)).toList) rfl rfl (fun e => by cases e) (by exact src_new _ _ _ _) (foundCells_one _) (by simp only [maxLen]; omega) (by omega) (by have := BT3.out.size; simp; omega) ?_
         intro v3q wq3 hown hgr hat
         rw [← foundVals_snoc] at hown
         obtain ⟨D3, d3, rfl, _, _, _, hsq, _⟩ := own_srcv hown (fun h => by cases h)
         have SQ3 := Lib.hid hsq
         have BQ3 := Lib.hid ((BT3.out.alloc (BT3.out.size) (.cells ((foundCells (tombP [97] 3)).toList).toArray 39)).grown hgr (by have := BT3.out.size; simp; omega) (fun q hq => (OT3.out.lt q hq).1))
         clear hown hgr hat hsq))
      | fail)
  have S4 := Lib.hid (src_below S3.out BB3.out)
  clear ST3
  have ST4 := Lib.hid (show Calls Try.prog 10 #[.slice (some ⟨g0, 0, none⟩) 7 c0] w4 fun e w' => ∃ B m, e = .returned (.tuple #[.slice B 0 0, .int .i64 m]) ∧ Below w4.heap.size w4 w' from by
    have hl : (P.take 7).length = 7 := by rw [List.length_take, HP10.out]; rfl
    have hm : (P.take 7).map strip = lA.take 7 := by rw [List.map_take, HP.out]
    have h := sBestL (some ⟨g0, 0, none⟩) c0 (P.take 7) w4 (src_take (by rw [HP10.out]; omega) (by rw [HP10.out]; exact S4.out)) (by rw [hl]; omega)
    rw [hl] at h
    refine h.mono ?_
    rintro e w2 ⟨B, es, rfl, _, hr⟩
    have hk := none_of (best_known hm okA7 hr.best bestA4)
    subst hk
    exact ⟨B, _, rfl, hr.base⟩)
  go_upto_region 6 with (go_at_call 10; (refine (ST4.out).mono ?_; rintro e w5 ⟨B4, m4, rfl, hb5⟩; have B5 := Lib.hid hb5; clear hb5))
  have BA12 := Lib.hid (show Below w.heap.size w w2 from B1.out.trans (R1.out.base.mono B1.out.size))
  have BA25 := Lib.hid (show Below w2.heap.size w2 w5 from BB2.out.trans ((BB3.out.trans (B5.out.mono BB3.out.size)).mono BB2.out.size))
  have BA05 := Lib.hid (BA12.out.trans (BA25.out.mono BA12.out.size))
  obtain ⟨b1, o1, hB1a, hc1⟩ := src_some (src_below R1.out.row BA25.out) (by simp)
  subst hB1a
  have hob : e1.b = blobOf [97] 3 0 1 := HE1.out
  have x0 : w5.cell? ⟨b1, o1 + 0, none⟩ = some (.string ⟨#[97]⟩) := hc1 0 _ (by rw [show entVals [e1] = entCells e1 from rfl]; unfold entCells; rw [hob]; rfl)
  have x1 : w5.cell? ⟨b1, o1 + 1, none⟩ = some (.int .i64 3) := hc1 1 _ (by rw [show entVals [e1] = entCells e1 from rfl]; unfold entCells; rw [hob]; rfl)
  have x4 : w5.cell? ⟨b1, o1 + 4, none⟩ = some (.slice (some ⟨e1.g, 0, none⟩) 10 10) := hc1 4 _ (by rw [show entVals [e1] = entCells e1 from rfl]; unfold entCells; rw [hob]; rfl)
  rw [Nat.add_zero] at x0
  clear hob hc1
  go_wp2_with fail
  go_ret
  exact ⟨rfl, BA05.out⟩
end Go.Proofs.Ythceidacmeadkaa
