/- What was found already, found once more behind, changes nothing; nor does what may not be: the walk. No condition beyond those that each theorem states. -/
import Derived.Test.YthceidacmeadkaaSU
import Derived.Deep.DeepCutAuto
import Derived.Deep.CutBlock
namespace Go.Proofs.Ythceidacmeadkaa
open Go.RowKit Go.Maps Go.WideMaps Go.Sort
attribute [local go_sem] Oper.semAt_some

theorem foundVals_app (P Q : List FoundP) : foundVals (P ++ Q) = foundVals P ++ foundVals Q := by simp [foundVals]
theorem best_rd {L : List FoundP} {w w' : World} {B : Option Addr} {es : List CopyE} (hok : ∀ p ∈ L, okF p = true) (h : BestR L w w' B es) (hn : es.length ≤ 1000000) : EntsRd w' B es.length (es.map (entP L)) := by
  refine ents_rd h (fun e he => ?_) (by simp only [maxLen]; omega)
  obtain ⟨p, hp, hk, hb⟩ := ((h.best.mem e.b).1 (List.mem_map_of_mem he)).1.1
  have := (shard_facts (hok p hp) hk).2.1
  rw [hb] at this
  simp only [maxLen]
  omega
/-- What scan.Best gives of a list whose records that count are known. -/
theorem best_as {P L' L : List FoundP} {bs : List BlobV} {m : Int} (hP : P.filter okF = L') (hb : BestV L' bs) (hm : mostV L' = m) (hp : ∀ b, placesOf L' b = placesOf L b) (hok : ∀ p ∈ L', okF p = true) (N : Nat) (hN : P.length = N) (hN2 : N ≤ 1000000) (W : World) (A : Option Addr) (c : Nat) (hS : SrcAt W A N (foundVals P)) :
    Calls Try.prog 10 #[.slice A N c] W fun e w' => ∃ B EP, e = .returned (.tuple #[.slice B EP.length EP.length, .int .i64 m]) ∧ EntsRd w' B EP.length EP ∧ EP.map entK = bs.map (fun b => (b.key, (⟨b.gen, b.size, b.sum, placesOf L b⟩ : EntV))) ∧ Below W.heap.size W w' := by
  subst hN
  refine (sBestL A c P W hS hN2).mono ?_
  rintro e w' ⟨B, es, rfl, hl, hr⟩
  rw [hP] at hr ⊢
  have he : es.map CopyE.b = bs := hr.best.same hb
  refine ⟨B, es.map (entP L'), by rw [hm, List.length_map], by rw [List.length_map]; exact best_rd hok hr (by omega), ?_, hr.base⟩
  rw [List.map_map, ← he, List.map_map]
  refine List.map_congr_left fun e _ => ?_
  simp only [Function.comp, entK, entP, hp]
theorem grown_e {w W wa : World} {row : Option Nat} (h : Below w.heap.size w W) (hg : W.grownBy wa row) (hr : ∀ q, row = some q → w.heap.size ≤ q) : Below w.heap.size w wa := h.grown hg h.size hr
theorem blk_e2 {w wa : World} {row : Option Nat} {t : TypeId} {cs : Array Value} {o : Obj} (hg : ((w.alloc o).alloc (.cells cs t)).drew.grownBy wa row) (hr : row = some w.heap.size) : Blk wa (w.heap.size + 1) t cs := Blk.grown (w := ((w.alloc o).alloc (.cells cs t)).drew) (Blk.made' _ _ _ (World.size_alloc _ _).symm) hg (by rw [hr]; exact fun e => by have := Option.some.inj e; omega)
theorem blk_e3 {w wa : World} {row : Option Nat} {t : TypeId} {cs : Array Value} {o : Obj} (hg : ((w.alloc (.cells cs t)).alloc o).drew.grownBy wa row) (hr : row = some (w.heap.size + 1)) : Blk wa w.heap.size t cs := Blk.grown (w := ((w.alloc (.cells cs t)).alloc o).drew) ((Blk.made _ _ _).alloc _) hg (by rw [hr]; exact fun e => by have := Option.some.inj e; omega)
theorem src_blk {w : World} {g m : Nat} {t : TypeId} {cs : List Value} (h : Blk w g t cs.toArray) : SrcAt w (some ⟨g, 0, none⟩) m cs := .inr ⟨g, 0, rfl, fun j u hu => by rw [Nat.zero_add]; exact (h.cell j).trans (by rw [List.getElem?_toArray]; exact hu)⟩
theorem below_al (w : World) (o : Obj) : Below w.heap.size w (w.alloc o) := (Below.refl _ w).alloc (Nat.le_refl _) _
theorem own_le0 {w : World} {g : Nat} (h : w.heap.size ≤ g) : ∀ q, (Value.slice (some ⟨g, 0, none⟩) 0 0).ownBlock = some q → w.heap.size ≤ q := fun _ hq => Nat.le_trans h (Nat.le_of_eq (Option.some.inj hq))
theorem own_e1 (w : World) {base : Nat} (t : TypeId) (size : Nat) (h : base ≤ w.heap.size) : ((w.alloc (.cells #[] t)).drew).ownsRow base t size (.slice (some ⟨w.heap.size, 0, none⟩) 0 0) 0 [] := own_made w t size rfl h
theorem own_e2 (w : World) {base : Nat} (t : TypeId) (size : Nat) (o : Obj) (h : base ≤ w.heap.size) : (((w.alloc (.cells #[] t)).alloc o).drew).ownsRow base t size (.slice (some ⟨w.heap.size, 0, none⟩) 0 0) 0 [] := (own_made w t size rfl h).alloc o
theorem own_e3 (w : World) {base : Nat} (t : TypeId) (size : Nat) (o : Obj) (h : base ≤ w.heap.size) : (((w.alloc o).alloc (.cells #[] t)).drew).ownsRow base t size (.slice (some ⟨w.heap.size + 1, 0, none⟩) 0 0) 0 [] := own_made (w.alloc o) t size (World.size_alloc _ _).symm (Nat.le_succ_of_le h)
set_option maxHeartbeats 8000000 in
set_option maxRecDepth 100000 in
theorem more_walk (A : Option Addr) (n c : Nat) (G : Nat → FoundP) (r : RecV) (RA : Option Addr) (rc : Nat) (w : World) (hnc : n ≤ c) (hcm : c ≤ maxLen) (hin : FoundsIn w A n G) :
    Calls Try.prog 5 #[.slice A n c, recV r RA rc] w fun e w' => e = .returned (.bool true) ∧ Below w.heap.size w w' := by
  obtain ⟨i0, hi0, hz0, hz1, hz2⟩ := info_parts found_info
  obtain ⟨P0, hP0, hS0⟩ := founds_list hin
  have hAf : n = 0 ∨ ∃ b off, A = some ⟨b, off, none⟩ := by
    rcases hin with h | ⟨b, off, h, _⟩
    · exact .inl h
    · exact .inr ⟨b, off, h⟩
  have FW := Lib.hid (fun W => sFew A n c hnc hcm W hAf)
  obtain ⟨n2, hn2⟩ : ∃ z, min n 60 = z := ⟨_, rfl⟩
  obtain ⟨P, hP⟩ : ∃ P, P0.take n2 = P := ⟨_, rfl⟩
  have hPl : P.length = n2 := by rw [← hP, List.length_take]; omega
  have S0 := Lib.hid (show SrcAt w A n2 (foundVals P) by have h := src_take (P := P0) (k := n2) (by omega) (hP0.symm ▸ hS0); rw [hP, hPl] at h; exact h)
  have HPL := Lib.hid hPl
  have hAf2 := Lib.hid (show A = none → n2 = 0 from fun h => by rcases hAf with h0 | ⟨b, off, hb⟩; omega; rw [h] at hb; cases hb)
  have hn60 : n2 ≤ 60 := by omega
  have hn2c : n2 ≤ c := by omega
  obtain ⟨L, hL⟩ : ∃ L, P.filter okF = L := ⟨_, rfl⟩
  have hok : ∀ p ∈ L, okF p = true := fun p hp => by rw [← hL] at hp; exact (List.mem_filter.1 hp).2
  have HOK := Lib.hid hok
  have HL := Lib.hid hL
  have HAF := Lib.hid hAf
  clear hP0 hS0 hP hPl hL hok hAf hin
  obtain ⟨w1, hw1⟩ : ∃ z, w.alloc (.cells (recCells r RA rc) 37) = z := ⟨_, rfl⟩
  have X1 := Lib.hid (show Blk w1 w.heap.size 37 (recCells r RA rc) by rw [← hw1]; exact Blk.made _ _ _)
  have B1 := Lib.hid (show Below w.heap.size w w1 by rw [← hw1]; exact (Below.refl _ w).alloc (Nat.le_refl _) _)
  have hz1w : w.heap.size < w1.heap.size := X1.out.size
  unfold recV
  simp only [recCells] at hw1 ⊢
  go_enter Try.func5, Try.ntmps5
  go_upto_region 1 with fail
  clear hw1
  go_upto_region 2 with (go_at_call 9; (refine (FW.out _).mono ?_; rintro e w2 ⟨rfl, rfl⟩))
  obtain ⟨n1, hn1⟩ : ∃ z, min n 130 = z := ⟨_, rfl⟩
  rw [hn1]
  have hn12 : min n1 60 = n2 := by omega
  have hn1c : n1 ≤ c := by omega
  have hn1n : n1 ≤ n := by omega
  clear hn1 hn2
  go_upto_if 17 with fail
  go_cut [5] from 18 (fun lv wx => lv = .slice A n2 c ∧ Below w1.heap.size w1 wx)
  case first =>
    by_cases h60 : 60 < n1
    · have f1 : decide (60 < n1) = true := decide_eq_true h60
      have f2 : decide ((60 : Int) < (n1 : Int)) = true := decide_eq_true (by omega)
      have f3 : (60 : Int) ≤ (c : Int) := by omega
      have e60 : n2 = 60 := by omega
      have HE60 := Lib.hid e60
      obtain ⟨b, off, rfl⟩ : ∃ b off, A = some ⟨b, off, none⟩ := by
        rcases HAF.out with h | h
        · omega
        · exact h
      clear e60
      go_wp2_with fail
      go_meet
      exact ⟨by rw [HE60.out], Below.refl _ _⟩
    · have f1 : decide (60 < n1) = false := decide_eq_false h60
      have f2 : decide ((60 : Int) < (n1 : Int)) = false := decide_eq_false (by omega)
      have HE60 := Lib.hid (show n1 = n2 by omega)
      go_wp2_with fail
      go_meet
      exact ⟨by rw [HE60.out], Below.refl _ _⟩
  case rest =>
    obtain ⟨rfl, hbc⟩ := hcut
    obtain ⟨w2, rfl⟩ : ∃ w2 : World, w2 = wc := ⟨_, rfl⟩
    have B2 := Lib.hid (show Below w.heap.size w w2 from B1.out.trans (hbc.mono B1.out.size))
    have S2 := Lib.hid (src_below S0.out (B2.out))
    have X2 := Lib.hid (X1.out.below hbc X1.out.size)
    have hy2 : w1.heap.size ≤ w2.heap.size := hbc.size
    clear hbc S0 X1
    have SB := Lib.hid (show Calls Try.prog 10 #[.slice A n2 c] w2 fun e w' => ∃ B EP bs, e = .returned (.tuple #[.slice B EP.length EP.length, .int .i64 (mostV L)]) ∧ BestV L bs ∧ EntsRd w' B EP.length EP ∧ EP.map entK = bs.map (fun b => (b.key, (⟨b.gen, b.size, b.sum, placesOf L b⟩ : EntV))) ∧ Below w2.heap.size w2 w' from by
      have h := sBestL A c P w2 (by rw [HPL.out]; exact S2.out) (by rw [HPL.out]; omega)
      rw [HPL.out, HL.out] at h
      refine h.mono ?_
      rintro e w' ⟨B, es, rfl, hl, hr⟩
      exact ⟨B, es.map (entP L), es.map CopyE.b, by rw [List.length_map], hr.best, by rw [List.length_map]; exact best_rd HOK.out hr (by omega), by rw [List.map_map, List.map_map]; rfl, hr.base⟩)
    go_upto_region 5 with (go_at_call 10; (refine (SB.out).mono ?_; rintro e w3 ⟨Ba, EA, bs, rfl, hbs, hrd, hek, hb⟩; have BS := Lib.hid hbs; have RA3 := Lib.hid hrd; have EK := Lib.hid hek; have B3 := Lib.hid (show Below w.heap.size w w3 from B2.out.trans (hb.mono B2.out.size)); have S3 := Lib.hid (src_below S2.out hb); have X3 := Lib.hid (X2.out.below hb X2.out.size); have hz3 : w2.heap.size ≤ w3.heap.size := hb.size; clear hbs hrd hek hb))
    clear SB S2 X2
    have ST := Lib.hid (fun (W : World) (D : Option Addr) (d : Nat) hS => best_as (P := P ++ P) (L' := L ++ L) (L := L) (bs := bs) (m := mostV L) (by rw [List.filter_append, HL.out]) (best_twice HOK.out BS.out) (most_twice L) (places_twice L) (fun p hp => HOK.out p (by simpa using hp)) (n2 + n2) (by rw [List.length_append, HPL.out]) (by omega) W D d hS)
    have hz3w : w.heap.size ≤ w3.heap.size := B3.out.size
    go_upto_region 6 with (first
        | (at_builtin; (
           refine wpList_append_src _ rfl (.tmp 25) (.tmp 26) 22 rfl w3.heap.size 39 i0 _ 12 128 Try.underlying22 hi0 hz0 hz1 hz2 rfl (by omega) _ 0 [] rfl (by exact own_made w3 _ 12 rfl (Nat.le_refl _)) A n2 c (foundVals P) rfl (by rw [foundVals_len, HPL.out]) hAf2.out (by exact src_below S3.out ((Below.refl _ w3).alloc (Nat.le_refl _) _)) (found_one P) (by simp only [maxLen]; omega) (by omega) (by simp) ?_
           intro va wa hown hgr hat
           rw [List.nil_append] at hown
           have OA := Lib.hid hown
           have BA := Lib.hid (show Below w3.heap.size w3 wa from ((Below.refl _ w3).alloc (Nat.le_refl _) _).grown hgr (by simp) (fun q hq => Nat.le_of_eq (Option.some.inj hq)))
           clear hown hgr hat))
        | (at_builtin; (
           refine wpList_append_src _ rfl (.tmp 27) (.tmp 28) 22 rfl w3.heap.size 39 i0 _ 12 128 Try.underlying22 hi0 hz0 hz1 hz2 rfl (by omega) _ _ _ rfl (by exact OA.out) A n2 c (foundVals P) rfl (by rw [foundVals_len, HPL.out]) hAf2.out (by exact src_below S3.out BA.out) (found_one P) (by simp only [maxLen]; omega) (by omega) (by exact BA.out.size) ?_
           intro vb wb hown hgr hat
           rw [← foundVals_app, Nat.zero_add] at hown
           obtain ⟨D, d, rfl, _, _, _, hsq, _⟩ := own_srcv hown (fun h => by rw [List.eq_nil_of_length_eq_zero (show (P ++ P).length = 0 by rw [List.length_append, HPL.out]; exact h)]; rfl)
           have SQ := Lib.hid hsq
           have BB := Lib.hid (BA.out.grown hgr (BA.out.size) (fun q hq => (OA.out.lt q hq).1))
           clear hown hgr hat hsq))
        | fail)
    go_upto_region 7 with (go_at_call 10; (refine (ST.out _ _ _ SQ.out).mono ?_; rintro e w5 ⟨Bb, EB, rfl, hrd, hek, hb⟩; have B35 := Lib.hid (show Below w3.heap.size w3 w5 from BB.out.trans (hb.mono BB.out.size)); have RB5 := Lib.hid hrd; have EKB := Lib.hid hek; clear hrd hek hb))
    have B5 := Lib.hid (B3.out.trans (B35.out.mono hz3w))
    have RA5 := Lib.hid (RA3.out.below B35.out)
    have X5 := Lib.hid (X3.out.below B35.out X3.out.size)
    have S5 := Lib.hid (src_below S3.out B35.out)
    have hz5 : w3.heap.size ≤ w5.heap.size := B35.out.size
    clear ST S3 X3 OA BA BB SQ
    have AL := Lib.hid (show Calls Try.prog 13 #[.slice Ba EA.length EA.length, .slice Bb EB.length EB.length] w5 fun e w' => e = .returned (.bool true) ∧ Below w5.heap.size w5 w' from (alike10 Ba EA.length EA.length EA Bb EB.length EB.length EB w5 RA5.out RB5.out).mono fun e w' ⟨h1, h2⟩ => ⟨by rw [h1, EK.out, EKB.out]; simp, h2⟩)
    go_upto_region 9 with (go_at_call 13; (refine (AL.out).mono ?_; rintro e w6 ⟨rfl, hb6⟩; have B56 := Lib.hid hb6; have hz6 : w5.heap.size ≤ w6.heap.size := hb6.size; clear hb6))
    have B6 := Lib.hid (B5.out.trans (B56.out.mono B5.out.size))
    have X6 := Lib.hid (X5.out.below B56.out X5.out.size)
    have S6 := Lib.hid (src_below S5.out B56.out)
    have RA6 := Lib.hid (RA5.out.below B56.out)
    clear AL S5 X5 RA5 RB5
    have x0 : w6.cell? ⟨w.heap.size, 0, none⟩ = some (.int .i64 r.kind) := X6.out.cell 0
    have x1 : w6.cell? ⟨w.heap.size, 1, none⟩ = some (.int .i64 r.cart) := X6.out.cell 1
    have x2 : w6.cell? ⟨w.heap.size, 2, none⟩ = some (strV r.key) := X6.out.cell 2
    have x3 : w6.cell? ⟨w.heap.size, 3, none⟩ = some (.int .i64 r.gen) := X6.out.cell 3
    have x4 : w6.cell? ⟨w.heap.size, 4, none⟩ = some (.int .i64 r.group) := X6.out.cell 4
    have x5 : w6.cell? ⟨w.heap.size, 5, none⟩ = some (.int .i64 r.groups) := X6.out.cell 5
    have x6 : w6.cell? ⟨w.heap.size, 6, none⟩ = some (.int .i64 r.index) := X6.out.cell 6
    have x7 : w6.cell? ⟨w.heap.size, 7, none⟩ = some (.int .i64 r.size) := X6.out.cell 7
    have x8 : w6.cell? ⟨w.heap.size, 8, none⟩ = some (strV r.sum) := X6.out.cell 8
    have x9 : w6.cell? ⟨w.heap.size, 9, none⟩ = some (.slice RA r.data.length rc) := X6.out.cell 9
    have GD := Lib.hid (fun W => sGood r RA rc W)
    obtain ⟨gv, hgv⟩ : ∃ z, goodV r = z := ⟨_, rfl⟩
    rw [hgv] at GD
    have HGV := Lib.hid hgv
    clear hgv
    have hzX := X6.out.size
    cases gv with
    | true =>
      go_upto_region 10 with (go_at_call 14; (refine (GD.out _).mono ?_; rintro e w7 ⟨rfl, hb7⟩; have B67 := Lib.hid hb7; clear hb7))
      have B7 := Lib.hid (B6.out.trans (B67.out.mono B6.out.size))
      go_wp2_with (go_at_call 12; (refine (sAwake _).mono ?_; rintro e w8 ⟨rfl, hb8⟩; have B8 := Lib.hid (show Below w.heap.size w w8 from B7.out.trans (hb8.mono B7.out.size)); clear hb8))
      go_ret
      exact ⟨rfl, B8.out⟩
    | false =>
      go_upto_region 11 with (go_at_call 14; (refine (GD.out _).mono ?_; rintro e w7 ⟨rfl, hb7⟩; have B67 := Lib.hid hb7; clear hb7))
      have S7 := Lib.hid (src_below S6.out B67.out)
      have hz7 : w6.heap.size ≤ w7.heap.size := B67.out.size
      have RA7 := Lib.hid (RA6.out.below B67.out)
      have B7 := Lib.hid (B6.out.trans (B67.out.mono B6.out.size))
      clear S6 RA6
      have y0 : w7.cell? ⟨w.heap.size, 0, none⟩ = some (.int .i64 r.kind) := keepc B67.out hzX x0
      have y1 : w7.cell? ⟨w.heap.size, 1, none⟩ = some (.int .i64 r.cart) := keepc B67.out hzX x1
      have y2 : w7.cell? ⟨w.heap.size, 2, none⟩ = some (strV r.key) := keepc B67.out hzX x2
      have y3 : w7.cell? ⟨w.heap.size, 3, none⟩ = some (.int .i64 r.gen) := keepc B67.out hzX x3
      have y4 : w7.cell? ⟨w.heap.size, 4, none⟩ = some (.int .i64 r.group) := keepc B67.out hzX x4
      have y5 : w7.cell? ⟨w.heap.size, 5, none⟩ = some (.int .i64 r.groups) := keepc B67.out hzX x5
      have y6 : w7.cell? ⟨w.heap.size, 6, none⟩ = some (.int .i64 r.index) := keepc B67.out hzX x6
      have y7 : w7.cell? ⟨w.heap.size, 7, none⟩ = some (.int .i64 r.size) := keepc B67.out hzX x7
      have y8 : w7.cell? ⟨w.heap.size, 8, none⟩ = some (strV r.sum) := keepc B67.out hzX x8
      have y9 : w7.cell? ⟨w.heap.size, 9, none⟩ = some (.slice RA r.data.length rc) := keepc B67.out hzX x9
      clear x0 x1 x2 x3 x4 x5 x6 x7 x8 x9
      have hzX7 : w.heap.size < w7.heap.size := by omega
      have KS := Lib.hid (show ∀ w', Below w7.heap.size w7 w' → (w'.cell? ⟨w.heap.size, 0, none⟩ = some (.int .i64 r.kind) ∧ w'.cell? ⟨w.heap.size, 1, none⟩ = some (.int .i64 r.cart) ∧ w'.cell? ⟨w.heap.size, 2, none⟩ = some (strV r.key) ∧ w'.cell? ⟨w.heap.size, 3, none⟩ = some (.int .i64 r.gen) ∧ w'.cell? ⟨w.heap.size, 4, none⟩ = some (.int .i64 r.group) ∧ w'.cell? ⟨w.heap.size, 5, none⟩ = some (.int .i64 r.groups) ∧ w'.cell? ⟨w.heap.size, 6, none⟩ = some (.int .i64 r.index) ∧ w'.cell? ⟨w.heap.size, 7, none⟩ = some (.int .i64 r.size) ∧ w'.cell? ⟨w.heap.size, 8, none⟩ = some (strV r.sum) ∧ w'.cell? ⟨w.heap.size, 9, none⟩ = some (.slice RA r.data.length rc)) from fun w' h => ⟨keepc h hzX7 y0, keepc h hzX7 y1, keepc h hzX7 y2, keepc h hzX7 y3, keepc h hzX7 y4, keepc h hzX7 y5, keepc h hzX7 y6, keepc h hzX7 y7, keepc h hzX7 y8, keepc h hzX7 y9⟩)
      obtain ⟨odd, hodd⟩ : ∃ z : FoundP, z = ⟨0, 0, r, RA, rc⟩ := ⟨_, rfl⟩
      have HO := Lib.hid hodd
      have hob : okF odd = false := by rw [hodd]; unfold okF; rw [HGV.out]; simp
      have OB := Lib.hid hob
      clear hob hodd
      have ST3 := Lib.hid (fun (W : World) (D : Option Addr) (d : Nat) hS => best_as (P := P ++ [odd]) (L' := L) (L := L) (bs := bs) (m := mostV L) (by rw [List.filter_append, HL.out, List.filter_cons, OB.out]; simp) BS.out rfl (fun _ => rfl) HOK.out (n2 + 1) (by rw [List.length_append, HPL.out]; rfl) (by omega) W D d hS)
      refine wp_region_held_drew (S := (fun w' => w'.cell? ⟨w.heap.size, 0, none⟩ = some (.int .i64 r.kind) ∧ w'.cell? ⟨w.heap.size, 1, none⟩ = some (.int .i64 r.cart) ∧ w'.cell? ⟨w.heap.size, 2, none⟩ = some (strV r.key) ∧ w'.cell? ⟨w.heap.size, 3, none⟩ = some (.int .i64 r.gen) ∧ w'.cell? ⟨w.heap.size, 4, none⟩ = some (.int .i64 r.group) ∧ w'.cell? ⟨w.heap.size, 5, none⟩ = some (.int .i64 r.groups) ∧ w'.cell? ⟨w.heap.size, 6, none⟩ = some (.int .i64 r.index) ∧ w'.cell? ⟨w.heap.size, 7, none⟩ = some (.int .i64 r.size) ∧ w'.cell? ⟨w.heap.size, 8, none⟩ = some (strV r.sum) ∧ w'.cell? ⟨w.heap.size, 9, none⟩ = some (.slice RA r.data.length rc))) (by kernel_rfl) ⟨y0, y1, y2, y3, y4, y5, y6, y7, y8, y9⟩ (fun hHeld => ?_)
      refine wpAnyH_take (i := 1) (v := ?vV11n11) (take_list rfl) (by kernel_rfl) (by kernel_rfl) (by kernel_rfl) (fun _ _ _ h => h) (Or.inl ⟨by rfl, ?hyV11n11⟩) (by assumption) ?restV11n11
      case hyV11n11 => (intro w hSw; (try dsimp only at hSw); go_simp <;> with_reducible rfl)
      try simp only [Act.put, List.setIfInBounds_toArray, List.set_cons_zero, List.set_cons_succ]
      refine wpAnyH_take (i := 3) (v := ?vV11n13) (take_list rfl) (by kernel_rfl) (by kernel_rfl) (by kernel_rfl) (fun _ _ _ h => h) (Or.inl ⟨by rfl, ?hyV11n13⟩) (by assumption) ?restV11n13
      case hyV11n13 => (intro w hSw; (try dsimp only at hSw); go_simp <;> with_reducible rfl)
      try simp only [Act.put, List.setIfInBounds_toArray, List.set_cons_zero, List.set_cons_succ]
      refine wpAnyH_take (i := 4) (v := ?vV11n14) (take_list rfl) (by kernel_rfl) (by kernel_rfl) (by kernel_rfl) (fun _ _ _ h => h) (Or.inl ⟨by rfl, ?hyV11n14⟩) (by assumption) ?restV11n14
      case hyV11n14 => (intro w hSw; (try dsimp only at hSw); go_simp <;> with_reducible rfl)
      try simp only [Act.put, List.setIfInBounds_toArray, List.set_cons_zero, List.set_cons_succ]
      refine wpAnyH_ready (rs := [0, 5]) (by kernel_rfl) (by simp) ?_
      refine AllReadyH.cons rfl (fun K hK => ?_) (AllReadyH.cons rfl (fun K hK => ?_) AllReadyH.nil)
      · go_simp
        clear hHeld
        refine hK.out _ _ (KS.out _ (by first | with_reducible exact below_ad w7 _ | with_reducible exact below_aad w7 _ _ | with_reducible exact BA.out | with_reducible exact below_then BA.out (below_al wa _))) (fun hHeld => ?_)
        clear hK K
        refine wpAnyH_ready (rs := [2, 5]) (by kernel_rfl) (by simp) ?_
        refine AllReadyH.cons rfl (fun K hK => ?_) (AllReadyH.cons rfl (fun K hK => ?_) AllReadyH.nil)
        · first | (refine step_append_src _ rfl (.tmp 48) (.tmp 49) 22 rfl w7.heap.size 39 i0 _ 12 128 Try.underlying22 hi0 hz0 hz1 hz2 rfl (by omega) (.slice (some ⟨w7.heap.size, 0, none⟩) 0 0) 0 [] rfl (by with_reducible exact own_e1 w7 39 12 (Nat.le_refl _)) A n2 c (foundVals P) rfl (by rw [foundVals_len, HPL.out]) hAf2.out (by with_reducible exact src_below S7.out (below_ad w7 _)) (found_one P) (by simp only [maxLen]; omega) (by omega) (by first | (simp; done) | (simp; omega)) ?_; intro va wa hown hgr hat; rw [List.nil_append] at hown; have OA := Lib.hid hown; have BA := Lib.hid (show Below w7.heap.size w7 wa from grown_e (below_ad w7 _) hgr (own_le0 (by omega))); clear hown hgr hat) | (refine step_append_src _ rfl (.tmp 48) (.tmp 49) 22 rfl w7.heap.size 39 i0 _ 12 128 Try.underlying22 hi0 hz0 hz1 hz2 rfl (by omega) (.slice (some ⟨w7.heap.size, 0, none⟩) 0 0) 0 [] rfl (by with_reducible exact own_e2 w7 39 12 _ (Nat.le_refl _)) A n2 c (foundVals P) rfl (by rw [foundVals_len, HPL.out]) hAf2.out (by with_reducible exact src_below S7.out (below_aad w7 _ _)) (found_one P) (by simp only [maxLen]; omega) (by omega) (by first | (simp; done) | (simp; omega)) ?_; intro va wa hown hgr hat; rw [List.nil_append] at hown; have OA := Lib.hid hown; have BA := Lib.hid (show Below w7.heap.size w7 wa from grown_e (below_aad w7 _ _) hgr (own_le0 (by omega))); have RB : Blk wa (w7.heap.size + 1) 39 #[.int .i64 0, .int .i64 0, .int .i64 r.kind, .int .i64 r.cart, strV r.key, .int .i64 r.gen, .int .i64 r.group, .int .i64 r.groups, .int .i64 r.index, .int .i64 r.size, strV r.sum, .slice RA r.data.length rc] := blk_e2 hgr rfl; clear hown hgr hat) | (refine step_append_src _ rfl (.tmp 48) (.tmp 49) 22 rfl w7.heap.size 39 i0 _ 12 128 Try.underlying22 hi0 hz0 hz1 hz2 rfl (by omega) (.slice (some ⟨w7.heap.size + 1, 0, none⟩) 0 0) 0 [] rfl (by with_reducible exact own_e3 w7 39 12 _ (Nat.le_refl _)) A n2 c (foundVals P) rfl (by rw [foundVals_len, HPL.out]) hAf2.out (by with_reducible exact src_below S7.out (below_aad w7 _ _)) (found_one P) (by simp only [maxLen]; omega) (by omega) (by first | (simp; done) | (simp; omega)) ?_; intro va wa hown hgr hat; rw [List.nil_append] at hown; have OA := Lib.hid hown; have BA := Lib.hid (show Below w7.heap.size w7 wa from grown_e (below_aad w7 _ _) hgr (own_le0 (by omega))); have RB : Blk wa w7.heap.size 39 #[.int .i64 0, .int .i64 0, .int .i64 r.kind, .int .i64 r.cart, strV r.key, .int .i64 r.gen, .int .i64 r.group, .int .i64 r.groups, .int .i64 r.index, .int .i64 r.size, strV r.sum, .slice RA r.data.length rc] := blk_e3 hgr rfl; clear hown hgr hat)
          clear hHeld
          refine hK.out _ _ (KS.out _ (by first | with_reducible exact below_ad w7 _ | with_reducible exact below_aad w7 _ _ | with_reducible exact BA.out | with_reducible exact below_then BA.out (below_al wa _))) (fun hHeld => ?_)
          clear hK K
          refine wpAnyH_ready (rs := [5]) (by kernel_rfl) (by simp) ?_
          refine AllReadyH.cons rfl (fun K hK => ?_) AllReadyH.nil
          go_simp
          clear hHeld
          refine hK.out _ _ (KS.out _ (by first | with_reducible exact below_ad w7 _ | with_reducible exact below_aad w7 _ _ | with_reducible exact BA.out | with_reducible exact below_then BA.out (below_al wa _))) (fun hHeld => ?_)
          clear hK K
          refine wpAnyH_ready (rs := [6]) (by kernel_rfl) (by simp) ?_
          refine AllReadyH.cons rfl (fun K hK => ?_) AllReadyH.nil
          first | (refine step_append_src _ rfl (.tmp 50) (.tmp 53) 22 rfl w7.heap.size 39 i0 _ 12 128 Try.underlying22 hi0 hz0 hz1 hz2 rfl (by omega) va (0 + n2) (foundVals P) rfl (by with_reducible exact OA.out.alloc _) (some ⟨wa.heap.size, 0, none⟩) 1 1 [.int .i64 0, .int .i64 0, .int .i64 r.kind, .int .i64 r.cart, strV r.key, .int .i64 r.gen, .int .i64 r.group, .int .i64 r.groups, .int .i64 r.index, .int .i64 r.size, strV r.sum, .slice RA r.data.length rc] rfl rfl (fun e => by cases e) (by exact src_new _ _ _ _) (by rw [show [.int .i64 0, .int .i64 0, .int .i64 r.kind, .int .i64 r.cart, strV r.key, .int .i64 r.gen, .int .i64 r.group, .int .i64 r.groups, .int .i64 r.index, .int .i64 r.size, strV r.sum, .slice RA r.data.length rc] = (foundCells ⟨0, 0, r, RA, rc⟩).toList from rfl]; exact foundCells_one _) (by simp only [maxLen]; omega) (by omega) (by have := BA.out.size; simp; omega) ?_; intro vb wq hown hgr hat; have BQ := Lib.hid (show Below w7.heap.size w7 wq from grown_e (below_then BA.out (below_al wa _)) hgr (fun q hq => (OA.out.lt q hq).1)); rw [show foundVals P ++ [.int .i64 0, .int .i64 0, .int .i64 r.kind, .int .i64 r.cart, strV r.key, .int .i64 r.gen, .int .i64 r.group, .int .i64 r.groups, .int .i64 r.index, .int .i64 r.size, strV r.sum, .slice RA r.data.length rc] = foundVals (P ++ [odd]) from by rw [HO.out, foundVals_app]; rfl, Nat.zero_add] at hown; obtain ⟨D, d, rfl, _, _, _, hsq, _⟩ := own_srcv hown (fun h => by cases h); have SQ := Lib.hid hsq; clear hown hgr hat hsq) | (refine step_append_src _ rfl (.tmp 50) (.tmp 53) 22 rfl w7.heap.size 39 i0 _ 12 128 Try.underlying22 hi0 hz0 hz1 hz2 rfl (by omega) va (0 + n2) (foundVals P) rfl (by with_reducible exact OA.out) (some ⟨w7.heap.size + 1, 0, none⟩) 1 1 [.int .i64 0, .int .i64 0, .int .i64 r.kind, .int .i64 r.cart, strV r.key, .int .i64 r.gen, .int .i64 r.group, .int .i64 r.groups, .int .i64 r.index, .int .i64 r.size, strV r.sum, .slice RA r.data.length rc] rfl rfl (fun e => by cases e) (by exact src_blk RB) (by rw [show [.int .i64 0, .int .i64 0, .int .i64 r.kind, .int .i64 r.cart, strV r.key, .int .i64 r.gen, .int .i64 r.group, .int .i64 r.groups, .int .i64 r.index, .int .i64 r.size, strV r.sum, .slice RA r.data.length rc] = (foundCells ⟨0, 0, r, RA, rc⟩).toList from rfl]; exact foundCells_one _) (by simp only [maxLen]; omega) (by omega) BA.out.size ?_; intro vb wq hown hgr hat; have BQ := Lib.hid (show Below w7.heap.size w7 wq from grown_e (BA.out) hgr (fun q hq => (OA.out.lt q hq).1)); rw [show foundVals P ++ [.int .i64 0, .int .i64 0, .int .i64 r.kind, .int .i64 r.cart, strV r.key, .int .i64 r.gen, .int .i64 r.group, .int .i64 r.groups, .int .i64 r.index, .int .i64 r.size, strV r.sum, .slice RA r.data.length rc] = foundVals (P ++ [odd]) from by rw [HO.out, foundVals_app]; rfl, Nat.zero_add] at hown; obtain ⟨D, d, rfl, _, _, _, hsq, _⟩ := own_srcv hown (fun h => by cases h); have SQ := Lib.hid hsq; clear hown hgr hat hsq) | (refine step_append_src _ rfl (.tmp 50) (.tmp 53) 22 rfl w7.heap.size 39 i0 _ 12 128 Try.underlying22 hi0 hz0 hz1 hz2 rfl (by omega) va (0 + n2) (foundVals P) rfl (by with_reducible exact OA.out) (some ⟨w7.heap.size, 0, none⟩) 1 1 [.int .i64 0, .int .i64 0, .int .i64 r.kind, .int .i64 r.cart, strV r.key, .int .i64 r.gen, .int .i64 r.group, .int .i64 r.groups, .int .i64 r.index, .int .i64 r.size, strV r.sum, .slice RA r.data.length rc] rfl rfl (fun e => by cases e) (by exact src_blk RB) (by rw [show [.int .i64 0, .int .i64 0, .int .i64 r.kind, .int .i64 r.cart, strV r.key, .int .i64 r.gen, .int .i64 r.group, .int .i64 r.groups, .int .i64 r.index, .int .i64 r.size, strV r.sum, .slice RA r.data.length rc] = (foundCells ⟨0, 0, r, RA, rc⟩).toList from rfl]; exact foundCells_one _) (by simp only [maxLen]; omega) (by omega) BA.out.size ?_; intro vb wq hown hgr hat; have BQ := Lib.hid (show Below w7.heap.size w7 wq from grown_e (BA.out) hgr (fun q hq => (OA.out.lt q hq).1)); rw [show foundVals P ++ [.int .i64 0, .int .i64 0, .int .i64 r.kind, .int .i64 r.cart, strV r.key, .int .i64 r.gen, .int .i64 r.group, .int .i64 r.groups, .int .i64 r.index, .int .i64 r.size, strV r.sum, .slice RA r.data.length rc] = foundVals (P ++ [odd]) from by rw [HO.out, foundVals_app]; rfl, Nat.zero_add] at hown; obtain ⟨D, d, rfl, _, _, _, hsq, _⟩ := own_srcv hown (fun h => by cases h); have SQ := Lib.hid hsq; clear hown hgr hat hsq)
          clear hHeld
          refine hK.out _ _ (KS.out _ BQ.out) (fun hHeld => ?_)
          clear hK K
          refine wpAnyH_ready (rs := [7]) (by kernel_rfl) (by simp) ?_
          refine AllReadyH.cons rfl (fun K hK => ?_) AllReadyH.nil
          go_simp
          go_wp2_with (go_at_call 10; refine (ST3.out _ _ _ SQ.out).mono ?_; rintro e w9 ⟨Bc, EC, rfl, hrd, hek, hb⟩; have BR := Lib.hid (show Below w7.heap.size w7 w9 from BQ.out.trans (hb.mono BQ.out.size)); have RC9 := Lib.hid hrd; have EKC := Lib.hid hek; clear hrd hek hb)
          clear hHeld
          refine hK.out _ _ (KS.out _ BR.out) (fun hHeld => ?_)
          clear hK K
          refine wpAnyH_take (i := 8) (v := ?vV11n1b0b28) (take_list rfl) (by kernel_rfl) (by kernel_rfl) (by kernel_rfl) (fun _ _ _ h => h) (Or.inl ⟨by rfl, ?hyV11n1b0b28⟩) (by assumption) ?restV11n1b0b28
          case hyV11n1b0b28 => (intro w hSw; (try dsimp only at hSw); go_simp <;> with_reducible rfl)
          try simp only [Act.put, List.setIfInBounds_toArray, List.set_cons_zero, List.set_cons_succ]
          refine wpAnyH_take (i := 9) (v := ?vV11n1b0b29) (take_list rfl) (by kernel_rfl) (by kernel_rfl) (by kernel_rfl) (fun _ _ _ h => h) (Or.inl ⟨by rfl, ?hyV11n1b0b29⟩) (by assumption) ?restV11n1b0b29
          case hyV11n1b0b29 => (intro w hSw; (try dsimp only at hSw); go_simp <;> with_reducible rfl)
          try simp only [Act.put, List.setIfInBounds_toArray, List.set_cons_zero, List.set_cons_succ]
          refine wpAnyH_take (i := 10) (v := ?vV11n1b0b210) (take_list rfl) (by kernel_rfl) (by kernel_rfl) (by kernel_rfl) (fun _ _ _ h => h) (Or.inl ⟨by rfl, ?hyV11n1b0b210⟩) (by assumption) ?restV11n1b0b210
          case hyV11n1b0b210 => (intro w hSw; (try dsimp only at hSw); go_simp <;> with_reducible rfl)
          try simp only [Act.put, List.setIfInBounds_toArray, List.set_cons_zero, List.set_cons_succ]
          refine wpAnyH_take (i := 11) (v := ?vV11n1b0b211) (take_list rfl) (by kernel_rfl) (by kernel_rfl) (by kernel_rfl) (fun _ _ _ h => h) (Or.inl ⟨by rfl, ?hyV11n1b0b211⟩) (by assumption) ?restV11n1b0b211
          case hyV11n1b0b211 => (intro w hSw; (try dsimp only at hSw); go_simp <;> with_reducible rfl)
          try simp only [Act.put, List.setIfInBounds_toArray, List.set_cons_zero, List.set_cons_succ]
          refine wpAnyH_take (i := 12) (v := ?vV11n1b0b212) (take_list rfl) (by kernel_rfl) (by kernel_rfl) (by kernel_rfl) (fun _ _ _ h => h) (Or.inl ⟨by rfl, ?hyV11n1b0b212⟩) (by assumption) ?restV11n1b0b212
          case hyV11n1b0b212 => (intro w hSw; (try dsimp only at hSw); go_simp <;> with_reducible rfl)
          try simp only [Act.put, List.setIfInBounds_toArray, List.set_cons_zero, List.set_cons_succ]
          refine wpAnyH_done (by kernel_rfl) ?_ _
          clear hHeld KS
          have RA9 := Lib.hid (RA7.out.below BR.out)
          have B9 := Lib.hid (B7.out.trans (BR.out.mono B7.out.size))
          have AL2 := Lib.hid (show ∀ W, Below w9.heap.size w9 W → Calls Try.prog 13 #[.slice Ba EA.length EA.length, .slice Bc EC.length EC.length] W fun e w' => e = .returned (.bool true) ∧ Below W.heap.size W w' from fun W hW => (alike10 Ba EA.length EA.length EA Bc EC.length EC.length EC W (RA9.out.below hW) (RC9.out.below hW)).mono fun e w' ⟨h1, h2⟩ => ⟨by rw [h1, EK.out, EKC.out]; simp, h2⟩)
          go_wp2_with (first
              | (go_at_call 12; refine (sAwake _).mono ?_; rintro e wA ⟨rfl, hbA⟩; have B10 := Lib.hid hbA; clear hbA)
              | (go_at_call 13; refine (AL2.out _ B10.out).mono ?_; rintro e wB ⟨rfl, hbB⟩; have B11 := Lib.hid (show Below w.heap.size w wB from B9.out.trans ((B10.out.trans (hbB.mono B10.out.size)).mono B9.out.size)); clear hbB)
              | fail)
          go_ret
          exact ⟨rfl, B11.out⟩
        · go_simp
          clear hHeld
          refine hK.out _ _ (KS.out _ (by first | with_reducible exact below_ad w7 _ | with_reducible exact below_aad w7 _ _ | with_reducible exact BA.out | with_reducible exact below_then BA.out (below_al wa _))) (fun hHeld => ?_)
          clear hK K
          refine wpAnyH_ready (rs := [2]) (by kernel_rfl) (by simp) ?_
          refine AllReadyH.cons rfl (fun K hK => ?_) AllReadyH.nil
          first | (refine step_append_src _ rfl (.tmp 48) (.tmp 49) 22 rfl w7.heap.size 39 i0 _ 12 128 Try.underlying22 hi0 hz0 hz1 hz2 rfl (by omega) (.slice (some ⟨w7.heap.size, 0, none⟩) 0 0) 0 [] rfl (by with_reducible exact own_e1 w7 39 12 (Nat.le_refl _)) A n2 c (foundVals P) rfl (by rw [foundVals_len, HPL.out]) hAf2.out (by with_reducible exact src_below S7.out (below_ad w7 _)) (found_one P) (by simp only [maxLen]; omega) (by omega) (by first | (simp; done) | (simp; omega)) ?_; intro va wa hown hgr hat; rw [List.nil_append] at hown; have OA := Lib.hid hown; have BA := Lib.hid (show Below w7.heap.size w7 wa from grown_e (below_ad w7 _) hgr (own_le0 (by omega))); clear hown hgr hat) | (refine step_append_src _ rfl (.tmp 48) (.tmp 49) 22 rfl w7.heap.size 39 i0 _ 12 128 Try.underlying22 hi0 hz0 hz1 hz2 rfl (by omega) (.slice (some ⟨w7.heap.size, 0, none⟩) 0 0) 0 [] rfl (by with_reducible exact own_e2 w7 39 12 _ (Nat.le_refl _)) A n2 c (foundVals P) rfl (by rw [foundVals_len, HPL.out]) hAf2.out (by with_reducible exact src_below S7.out (below_aad w7 _ _)) (found_one P) (by simp only [maxLen]; omega) (by omega) (by first | (simp; done) | (simp; omega)) ?_; intro va wa hown hgr hat; rw [List.nil_append] at hown; have OA := Lib.hid hown; have BA := Lib.hid (show Below w7.heap.size w7 wa from grown_e (below_aad w7 _ _) hgr (own_le0 (by omega))); have RB : Blk wa (w7.heap.size + 1) 39 #[.int .i64 0, .int .i64 0, .int .i64 r.kind, .int .i64 r.cart, strV r.key, .int .i64 r.gen, .int .i64 r.group, .int .i64 r.groups, .int .i64 r.index, .int .i64 r.size, strV r.sum, .slice RA r.data.length rc] := blk_e2 hgr rfl; clear hown hgr hat) | (refine step_append_src _ rfl (.tmp 48) (.tmp 49) 22 rfl w7.heap.size 39 i0 _ 12 128 Try.underlying22 hi0 hz0 hz1 hz2 rfl (by omega) (.slice (some ⟨w7.heap.size + 1, 0, none⟩) 0 0) 0 [] rfl (by with_reducible exact own_e3 w7 39 12 _ (Nat.le_refl _)) A n2 c (foundVals P) rfl (by rw [foundVals_len, HPL.out]) hAf2.out (by with_reducible exact src_below S7.out (below_aad w7 _ _)) (found_one P) (by simp only [maxLen]; omega) (by omega) (by first | (simp; done) | (simp; omega)) ?_; intro va wa hown hgr hat; rw [List.nil_append] at hown; have OA := Lib.hid hown; have BA := Lib.hid (show Below w7.heap.size w7 wa from grown_e (below_aad w7 _ _) hgr (own_le0 (by omega))); have RB : Blk wa w7.heap.size 39 #[.int .i64 0, .int .i64 0, .int .i64 r.kind, .int .i64 r.cart, strV r.key, .int .i64 r.gen, .int .i64 r.group, .int .i64 r.groups, .int .i64 r.index, .int .i64 r.size, strV r.sum, .slice RA r.data.length rc] := blk_e3 hgr rfl; clear hown hgr hat)
          clear hHeld
          refine hK.out _ _ (KS.out _ (by first | with_reducible exact below_ad w7 _ | with_reducible exact below_aad w7 _ _ | with_reducible exact BA.out | with_reducible exact below_then BA.out (below_al wa _))) (fun hHeld => ?_)
          clear hK K
          refine wpAnyH_ready (rs := [6]) (by kernel_rfl) (by simp) ?_
          refine AllReadyH.cons rfl (fun K hK => ?_) AllReadyH.nil
          first | (refine step_append_src _ rfl (.tmp 50) (.tmp 53) 22 rfl w7.heap.size 39 i0 _ 12 128 Try.underlying22 hi0 hz0 hz1 hz2 rfl (by omega) va (0 + n2) (foundVals P) rfl (by with_reducible exact OA.out.alloc _) (some ⟨wa.heap.size, 0, none⟩) 1 1 [.int .i64 0, .int .i64 0, .int .i64 r.kind, .int .i64 r.cart, strV r.key, .int .i64 r.gen, .int .i64 r.group, .int .i64 r.groups, .int .i64 r.index, .int .i64 r.size, strV r.sum, .slice RA r.data.length rc] rfl rfl (fun e => by cases e) (by exact src_new _ _ _ _) (by rw [show [.int .i64 0, .int .i64 0, .int .i64 r.kind, .int .i64 r.cart, strV r.key, .int .i64 r.gen, .int .i64 r.group, .int .i64 r.groups, .int .i64 r.index, .int .i64 r.size, strV r.sum, .slice RA r.data.length rc] = (foundCells ⟨0, 0, r, RA, rc⟩).toList from rfl]; exact foundCells_one _) (by simp only [maxLen]; omega) (by omega) (by have := BA.out.size; simp; omega) ?_; intro vb wq hown hgr hat; have BQ := Lib.hid (show Below w7.heap.size w7 wq from grown_e (below_then BA.out (below_al wa _)) hgr (fun q hq => (OA.out.lt q hq).1)); rw [show foundVals P ++ [.int .i64 0, .int .i64 0, .int .i64 r.kind, .int .i64 r.cart, strV r.key, .int .i64 r.gen, .int .i64 r.group, .int .i64 r.groups, .int .i64 r.index, .int .i64 r.size, strV r.sum, .slice RA r.data.length rc] = foundVals (P ++ [odd]) from by rw [HO.out, foundVals_app]; rfl, Nat.zero_add] at hown; obtain ⟨D, d, rfl, _, _, _, hsq, _⟩ := own_srcv hown (fun h => by cases h); have SQ := Lib.hid hsq; clear hown hgr hat hsq) | (refine step_append_src _ rfl (.tmp 50) (.tmp 53) 22 rfl w7.heap.size 39 i0 _ 12 128 Try.underlying22 hi0 hz0 hz1 hz2 rfl (by omega) va (0 + n2) (foundVals P) rfl (by with_reducible exact OA.out) (some ⟨w7.heap.size + 1, 0, none⟩) 1 1 [.int .i64 0, .int .i64 0, .int .i64 r.kind, .int .i64 r.cart, strV r.key, .int .i64 r.gen, .int .i64 r.group, .int .i64 r.groups, .int .i64 r.index, .int .i64 r.size, strV r.sum, .slice RA r.data.length rc] rfl rfl (fun e => by cases e) (by exact src_blk RB) (by rw [show [.int .i64 0, .int .i64 0, .int .i64 r.kind, .int .i64 r.cart, strV r.key, .int .i64 r.gen, .int .i64 r.group, .int .i64 r.groups, .int .i64 r.index, .int .i64 r.size, strV r.sum, .slice RA r.data.length rc] = (foundCells ⟨0, 0, r, RA, rc⟩).toList from rfl]; exact foundCells_one _) (by simp only [maxLen]; omega) (by omega) BA.out.size ?_; intro vb wq hown hgr hat; have BQ := Lib.hid (show Below w7.heap.size w7 wq from grown_e (BA.out) hgr (fun q hq => (OA.out.lt q hq).1)); rw [show foundVals P ++ [.int .i64 0, .int .i64 0, .int .i64 r.kind, .int .i64 r.cart, strV r.key, .int .i64 r.gen, .int .i64 r.group, .int .i64 r.groups, .int .i64 r.index, .int .i64 r.size, strV r.sum, .slice RA r.data.length rc] = foundVals (P ++ [odd]) from by rw [HO.out, foundVals_app]; rfl, Nat.zero_add] at hown; obtain ⟨D, d, rfl, _, _, _, hsq, _⟩ := own_srcv hown (fun h => by cases h); have SQ := Lib.hid hsq; clear hown hgr hat hsq) | (refine step_append_src _ rfl (.tmp 50) (.tmp 53) 22 rfl w7.heap.size 39 i0 _ 12 128 Try.underlying22 hi0 hz0 hz1 hz2 rfl (by omega) va (0 + n2) (foundVals P) rfl (by with_reducible exact OA.out) (some ⟨w7.heap.size, 0, none⟩) 1 1 [.int .i64 0, .int .i64 0, .int .i64 r.kind, .int .i64 r.cart, strV r.key, .int .i64 r.gen, .int .i64 r.group, .int .i64 r.groups, .int .i64 r.index, .int .i64 r.size, strV r.sum, .slice RA r.data.length rc] rfl rfl (fun e => by cases e) (by exact src_blk RB) (by rw [show [.int .i64 0, .int .i64 0, .int .i64 r.kind, .int .i64 r.cart, strV r.key, .int .i64 r.gen, .int .i64 r.group, .int .i64 r.groups, .int .i64 r.index, .int .i64 r.size, strV r.sum, .slice RA r.data.length rc] = (foundCells ⟨0, 0, r, RA, rc⟩).toList from rfl]; exact foundCells_one _) (by simp only [maxLen]; omega) (by omega) BA.out.size ?_; intro vb wq hown hgr hat; have BQ := Lib.hid (show Below w7.heap.size w7 wq from grown_e (BA.out) hgr (fun q hq => (OA.out.lt q hq).1)); rw [show foundVals P ++ [.int .i64 0, .int .i64 0, .int .i64 r.kind, .int .i64 r.cart, strV r.key, .int .i64 r.gen, .int .i64 r.group, .int .i64 r.groups, .int .i64 r.index, .int .i64 r.size, strV r.sum, .slice RA r.data.length rc] = foundVals (P ++ [odd]) from by rw [HO.out, foundVals_app]; rfl, Nat.zero_add] at hown; obtain ⟨D, d, rfl, _, _, _, hsq, _⟩ := own_srcv hown (fun h => by cases h); have SQ := Lib.hid hsq; clear hown hgr hat hsq)
          clear hHeld
          refine hK.out _ _ (KS.out _ BQ.out) (fun hHeld => ?_)
          clear hK K
          refine wpAnyH_ready (rs := [7]) (by kernel_rfl) (by simp) ?_
          refine AllReadyH.cons rfl (fun K hK => ?_) AllReadyH.nil
          go_simp
          go_wp2_with (go_at_call 10; refine (ST3.out _ _ _ SQ.out).mono ?_; rintro e w9 ⟨Bc, EC, rfl, hrd, hek, hb⟩; have BR := Lib.hid (show Below w7.heap.size w7 w9 from BQ.out.trans (hb.mono BQ.out.size)); have RC9 := Lib.hid hrd; have EKC := Lib.hid hek; clear hrd hek hb)
          clear hHeld
          refine hK.out _ _ (KS.out _ BR.out) (fun hHeld => ?_)
          clear hK K
          refine wpAnyH_take (i := 8) (v := ?vV11n1b0b58) (take_list rfl) (by kernel_rfl) (by kernel_rfl) (by kernel_rfl) (fun _ _ _ h => h) (Or.inl ⟨by rfl, ?hyV11n1b0b58⟩) (by assumption) ?restV11n1b0b58
          case hyV11n1b0b58 => (intro w hSw; (try dsimp only at hSw); go_simp <;> with_reducible rfl)
          try simp only [Act.put, List.setIfInBounds_toArray, List.set_cons_zero, List.set_cons_succ]
          refine wpAnyH_take (i := 9) (v := ?vV11n1b0b59) (take_list rfl) (by kernel_rfl) (by kernel_rfl) (by kernel_rfl) (fun _ _ _ h => h) (Or.inl ⟨by rfl, ?hyV11n1b0b59⟩) (by assumption) ?restV11n1b0b59
          case hyV11n1b0b59 => (intro w hSw; (try dsimp only at hSw); go_simp <;> with_reducible rfl)
          try simp only [Act.put, List.setIfInBounds_toArray, List.set_cons_zero, List.set_cons_succ]
          refine wpAnyH_take (i := 10) (v := ?vV11n1b0b510) (take_list rfl) (by kernel_rfl) (by kernel_rfl) (by kernel_rfl) (fun _ _ _ h => h) (Or.inl ⟨by rfl, ?hyV11n1b0b510⟩) (by assumption) ?restV11n1b0b510
          case hyV11n1b0b510 => (intro w hSw; (try dsimp only at hSw); go_simp <;> with_reducible rfl)
          try simp only [Act.put, List.setIfInBounds_toArray, List.set_cons_zero, List.set_cons_succ]
          refine wpAnyH_take (i := 11) (v := ?vV11n1b0b511) (take_list rfl) (by kernel_rfl) (by kernel_rfl) (by kernel_rfl) (fun _ _ _ h => h) (Or.inl ⟨by rfl, ?hyV11n1b0b511⟩) (by assumption) ?restV11n1b0b511
          case hyV11n1b0b511 => (intro w hSw; (try dsimp only at hSw); go_simp <;> with_reducible rfl)
          try simp only [Act.put, List.setIfInBounds_toArray, List.set_cons_zero, List.set_cons_succ]
          refine wpAnyH_take (i := 12) (v := ?vV11n1b0b512) (take_list rfl) (by kernel_rfl) (by kernel_rfl) (by kernel_rfl) (fun _ _ _ h => h) (Or.inl ⟨by rfl, ?hyV11n1b0b512⟩) (by assumption) ?restV11n1b0b512
          case hyV11n1b0b512 => (intro w hSw; (try dsimp only at hSw); go_simp <;> with_reducible rfl)
          try simp only [Act.put, List.setIfInBounds_toArray, List.set_cons_zero, List.set_cons_succ]
          refine wpAnyH_done (by kernel_rfl) ?_ _
          clear hHeld KS
          have RA9 := Lib.hid (RA7.out.below BR.out)
          have B9 := Lib.hid (B7.out.trans (BR.out.mono B7.out.size))
          have AL2 := Lib.hid (show ∀ W, Below w9.heap.size w9 W → Calls Try.prog 13 #[.slice Ba EA.length EA.length, .slice Bc EC.length EC.length] W fun e w' => e = .returned (.bool true) ∧ Below W.heap.size W w' from fun W hW => (alike10 Ba EA.length EA.length EA Bc EC.length EC.length EC W (RA9.out.below hW) (RC9.out.below hW)).mono fun e w' ⟨h1, h2⟩ => ⟨by rw [h1, EK.out, EKC.out]; simp, h2⟩)
          go_wp2_with (first
              | (go_at_call 12; refine (sAwake _).mono ?_; rintro e wA ⟨rfl, hbA⟩; have B10 := Lib.hid hbA; clear hbA)
              | (go_at_call 13; refine (AL2.out _ B10.out).mono ?_; rintro e wB ⟨rfl, hbB⟩; have B11 := Lib.hid (show Below w.heap.size w wB from B9.out.trans ((B10.out.trans (hbB.mono B10.out.size)).mono B9.out.size)); clear hbB)
              | fail)
          go_ret
          exact ⟨rfl, B11.out⟩
      · go_simp
        clear hHeld
        refine hK.out _ _ (KS.out _ (by first | with_reducible exact below_ad w7 _ | with_reducible exact below_aad w7 _ _ | with_reducible exact BA.out | with_reducible exact below_then BA.out (below_al wa _))) (fun hHeld => ?_)
        clear hK K
        refine wpAnyH_ready (rs := [0]) (by kernel_rfl) (by simp) ?_
        refine AllReadyH.cons rfl (fun K hK => ?_) AllReadyH.nil
        go_simp
        clear hHeld
        refine hK.out _ _ (KS.out _ (by first | with_reducible exact below_ad w7 _ | with_reducible exact below_aad w7 _ _ | with_reducible exact BA.out | with_reducible exact below_then BA.out (below_al wa _))) (fun hHeld => ?_)
        clear hK K
        refine wpAnyH_ready (rs := [2]) (by kernel_rfl) (by simp) ?_
        refine AllReadyH.cons rfl (fun K hK => ?_) AllReadyH.nil
        first | (refine step_append_src _ rfl (.tmp 48) (.tmp 49) 22 rfl w7.heap.size 39 i0 _ 12 128 Try.underlying22 hi0 hz0 hz1 hz2 rfl (by omega) (.slice (some ⟨w7.heap.size, 0, none⟩) 0 0) 0 [] rfl (by with_reducible exact own_e1 w7 39 12 (Nat.le_refl _)) A n2 c (foundVals P) rfl (by rw [foundVals_len, HPL.out]) hAf2.out (by with_reducible exact src_below S7.out (below_ad w7 _)) (found_one P) (by simp only [maxLen]; omega) (by omega) (by first | (simp; done) | (simp; omega)) ?_; intro va wa hown hgr hat; rw [List.nil_append] at hown; have OA := Lib.hid hown; have BA := Lib.hid (show Below w7.heap.size w7 wa from grown_e (below_ad w7 _) hgr (own_le0 (by omega))); clear hown hgr hat) | (refine step_append_src _ rfl (.tmp 48) (.tmp 49) 22 rfl w7.heap.size 39 i0 _ 12 128 Try.underlying22 hi0 hz0 hz1 hz2 rfl (by omega) (.slice (some ⟨w7.heap.size, 0, none⟩) 0 0) 0 [] rfl (by with_reducible exact own_e2 w7 39 12 _ (Nat.le_refl _)) A n2 c (foundVals P) rfl (by rw [foundVals_len, HPL.out]) hAf2.out (by with_reducible exact src_below S7.out (below_aad w7 _ _)) (found_one P) (by simp only [maxLen]; omega) (by omega) (by first | (simp; done) | (simp; omega)) ?_; intro va wa hown hgr hat; rw [List.nil_append] at hown; have OA := Lib.hid hown; have BA := Lib.hid (show Below w7.heap.size w7 wa from grown_e (below_aad w7 _ _) hgr (own_le0 (by omega))); have RB : Blk wa (w7.heap.size + 1) 39 #[.int .i64 0, .int .i64 0, .int .i64 r.kind, .int .i64 r.cart, strV r.key, .int .i64 r.gen, .int .i64 r.group, .int .i64 r.groups, .int .i64 r.index, .int .i64 r.size, strV r.sum, .slice RA r.data.length rc] := blk_e2 hgr rfl; clear hown hgr hat) | (refine step_append_src _ rfl (.tmp 48) (.tmp 49) 22 rfl w7.heap.size 39 i0 _ 12 128 Try.underlying22 hi0 hz0 hz1 hz2 rfl (by omega) (.slice (some ⟨w7.heap.size + 1, 0, none⟩) 0 0) 0 [] rfl (by with_reducible exact own_e3 w7 39 12 _ (Nat.le_refl _)) A n2 c (foundVals P) rfl (by rw [foundVals_len, HPL.out]) hAf2.out (by with_reducible exact src_below S7.out (below_aad w7 _ _)) (found_one P) (by simp only [maxLen]; omega) (by omega) (by first | (simp; done) | (simp; omega)) ?_; intro va wa hown hgr hat; rw [List.nil_append] at hown; have OA := Lib.hid hown; have BA := Lib.hid (show Below w7.heap.size w7 wa from grown_e (below_aad w7 _ _) hgr (own_le0 (by omega))); have RB : Blk wa w7.heap.size 39 #[.int .i64 0, .int .i64 0, .int .i64 r.kind, .int .i64 r.cart, strV r.key, .int .i64 r.gen, .int .i64 r.group, .int .i64 r.groups, .int .i64 r.index, .int .i64 r.size, strV r.sum, .slice RA r.data.length rc] := blk_e3 hgr rfl; clear hown hgr hat)
        clear hHeld
        refine hK.out _ _ (KS.out _ (by first | with_reducible exact below_ad w7 _ | with_reducible exact below_aad w7 _ _ | with_reducible exact BA.out | with_reducible exact below_then BA.out (below_al wa _))) (fun hHeld => ?_)
        clear hK K
        refine wpAnyH_ready (rs := [6]) (by kernel_rfl) (by simp) ?_
        refine AllReadyH.cons rfl (fun K hK => ?_) AllReadyH.nil
        first | (refine step_append_src _ rfl (.tmp 50) (.tmp 53) 22 rfl w7.heap.size 39 i0 _ 12 128 Try.underlying22 hi0 hz0 hz1 hz2 rfl (by omega) va (0 + n2) (foundVals P) rfl (by with_reducible exact OA.out.alloc _) (some ⟨wa.heap.size, 0, none⟩) 1 1 [.int .i64 0, .int .i64 0, .int .i64 r.kind, .int .i64 r.cart, strV r.key, .int .i64 r.gen, .int .i64 r.group, .int .i64 r.groups, .int .i64 r.index, .int .i64 r.size, strV r.sum, .slice RA r.data.length rc] rfl rfl (fun e => by cases e) (by exact src_new _ _ _ _) (by rw [show [.int .i64 0, .int .i64 0, .int .i64 r.kind, .int .i64 r.cart, strV r.key, .int .i64 r.gen, .int .i64 r.group, .int .i64 r.groups, .int .i64 r.index, .int .i64 r.size, strV r.sum, .slice RA r.data.length rc] = (foundCells ⟨0, 0, r, RA, rc⟩).toList from rfl]; exact foundCells_one _) (by simp only [maxLen]; omega) (by omega) (by have := BA.out.size; simp; omega) ?_; intro vb wq hown hgr hat; have BQ := Lib.hid (show Below w7.heap.size w7 wq from grown_e (below_then BA.out (below_al wa _)) hgr (fun q hq => (OA.out.lt q hq).1)); rw [show foundVals P ++ [.int .i64 0, .int .i64 0, .int .i64 r.kind, .int .i64 r.cart, strV r.key, .int .i64 r.gen, .int .i64 r.group, .int .i64 r.groups, .int .i64 r.index, .int .i64 r.size, strV r.sum, .slice RA r.data.length rc] = foundVals (P ++ [odd]) from by rw [HO.out, foundVals_app]; rfl, Nat.zero_add] at hown; obtain ⟨D, d, rfl, _, _, _, hsq, _⟩ := own_srcv hown (fun h => by cases h); have SQ := Lib.hid hsq; clear hown hgr hat hsq) | (refine step_append_src _ rfl (.tmp 50) (.tmp 53) 22 rfl w7.heap.size 39 i0 _ 12 128 Try.underlying22 hi0 hz0 hz1 hz2 rfl (by omega) va (0 + n2) (foundVals P) rfl (by with_reducible exact OA.out) (some ⟨w7.heap.size + 1, 0, none⟩) 1 1 [.int .i64 0, .int .i64 0, .int .i64 r.kind, .int .i64 r.cart, strV r.key, .int .i64 r.gen, .int .i64 r.group, .int .i64 r.groups, .int .i64 r.index, .int .i64 r.size, strV r.sum, .slice RA r.data.length rc] rfl rfl (fun e => by cases e) (by exact src_blk RB) (by rw [show [.int .i64 0, .int .i64 0, .int .i64 r.kind, .int .i64 r.cart, strV r.key, .int .i64 r.gen, .int .i64 r.group, .int .i64 r.groups, .int .i64 r.index, .int .i64 r.size, strV r.sum, .slice RA r.data.length rc] = (foundCells ⟨0, 0, r, RA, rc⟩).toList from rfl]; exact foundCells_one _) (by simp only [maxLen]; omega) (by omega) BA.out.size ?_; intro vb wq hown hgr hat; have BQ := Lib.hid (show Below w7.heap.size w7 wq from grown_e (BA.out) hgr (fun q hq => (OA.out.lt q hq).1)); rw [show foundVals P ++ [.int .i64 0, .int .i64 0, .int .i64 r.kind, .int .i64 r.cart, strV r.key, .int .i64 r.gen, .int .i64 r.group, .int .i64 r.groups, .int .i64 r.index, .int .i64 r.size, strV r.sum, .slice RA r.data.length rc] = foundVals (P ++ [odd]) from by rw [HO.out, foundVals_app]; rfl, Nat.zero_add] at hown; obtain ⟨D, d, rfl, _, _, _, hsq, _⟩ := own_srcv hown (fun h => by cases h); have SQ := Lib.hid hsq; clear hown hgr hat hsq) | (refine step_append_src _ rfl (.tmp 50) (.tmp 53) 22 rfl w7.heap.size 39 i0 _ 12 128 Try.underlying22 hi0 hz0 hz1 hz2 rfl (by omega) va (0 + n2) (foundVals P) rfl (by with_reducible exact OA.out) (some ⟨w7.heap.size, 0, none⟩) 1 1 [.int .i64 0, .int .i64 0, .int .i64 r.kind, .int .i64 r.cart, strV r.key, .int .i64 r.gen, .int .i64 r.group, .int .i64 r.groups, .int .i64 r.index, .int .i64 r.size, strV r.sum, .slice RA r.data.length rc] rfl rfl (fun e => by cases e) (by exact src_blk RB) (by rw [show [.int .i64 0, .int .i64 0, .int .i64 r.kind, .int .i64 r.cart, strV r.key, .int .i64 r.gen, .int .i64 r.group, .int .i64 r.groups, .int .i64 r.index, .int .i64 r.size, strV r.sum, .slice RA r.data.length rc] = (foundCells ⟨0, 0, r, RA, rc⟩).toList from rfl]; exact foundCells_one _) (by simp only [maxLen]; omega) (by omega) BA.out.size ?_; intro vb wq hown hgr hat; have BQ := Lib.hid (show Below w7.heap.size w7 wq from grown_e (BA.out) hgr (fun q hq => (OA.out.lt q hq).1)); rw [show foundVals P ++ [.int .i64 0, .int .i64 0, .int .i64 r.kind, .int .i64 r.cart, strV r.key, .int .i64 r.gen, .int .i64 r.group, .int .i64 r.groups, .int .i64 r.index, .int .i64 r.size, strV r.sum, .slice RA r.data.length rc] = foundVals (P ++ [odd]) from by rw [HO.out, foundVals_app]; rfl, Nat.zero_add] at hown; obtain ⟨D, d, rfl, _, _, _, hsq, _⟩ := own_srcv hown (fun h => by cases h); have SQ := Lib.hid hsq; clear hown hgr hat hsq)
        clear hHeld
        refine hK.out _ _ (KS.out _ BQ.out) (fun hHeld => ?_)
        clear hK K
        refine wpAnyH_ready (rs := [7]) (by kernel_rfl) (by simp) ?_
        refine AllReadyH.cons rfl (fun K hK => ?_) AllReadyH.nil
        go_simp
        go_wp2_with (go_at_call 10; refine (ST3.out _ _ _ SQ.out).mono ?_; rintro e w9 ⟨Bc, EC, rfl, hrd, hek, hb⟩; have BR := Lib.hid (show Below w7.heap.size w7 w9 from BQ.out.trans (hb.mono BQ.out.size)); have RC9 := Lib.hid hrd; have EKC := Lib.hid hek; clear hrd hek hb)
        clear hHeld
        refine hK.out _ _ (KS.out _ BR.out) (fun hHeld => ?_)
        clear hK K
        refine wpAnyH_take (i := 8) (v := ?vV11n1b58) (take_list rfl) (by kernel_rfl) (by kernel_rfl) (by kernel_rfl) (fun _ _ _ h => h) (Or.inl ⟨by rfl, ?hyV11n1b58⟩) (by assumption) ?restV11n1b58
        case hyV11n1b58 => (intro w hSw; (try dsimp only at hSw); go_simp <;> with_reducible rfl)
        try simp only [Act.put, List.setIfInBounds_toArray, List.set_cons_zero, List.set_cons_succ]
        refine wpAnyH_take (i := 9) (v := ?vV11n1b59) (take_list rfl) (by kernel_rfl) (by kernel_rfl) (by kernel_rfl) (fun _ _ _ h => h) (Or.inl ⟨by rfl, ?hyV11n1b59⟩) (by assumption) ?restV11n1b59
        case hyV11n1b59 => (intro w hSw; (try dsimp only at hSw); go_simp <;> with_reducible rfl)
        try simp only [Act.put, List.setIfInBounds_toArray, List.set_cons_zero, List.set_cons_succ]
        refine wpAnyH_take (i := 10) (v := ?vV11n1b510) (take_list rfl) (by kernel_rfl) (by kernel_rfl) (by kernel_rfl) (fun _ _ _ h => h) (Or.inl ⟨by rfl, ?hyV11n1b510⟩) (by assumption) ?restV11n1b510
        case hyV11n1b510 => (intro w hSw; (try dsimp only at hSw); go_simp <;> with_reducible rfl)
        try simp only [Act.put, List.setIfInBounds_toArray, List.set_cons_zero, List.set_cons_succ]
        refine wpAnyH_take (i := 11) (v := ?vV11n1b511) (take_list rfl) (by kernel_rfl) (by kernel_rfl) (by kernel_rfl) (fun _ _ _ h => h) (Or.inl ⟨by rfl, ?hyV11n1b511⟩) (by assumption) ?restV11n1b511
        case hyV11n1b511 => (intro w hSw; (try dsimp only at hSw); go_simp <;> with_reducible rfl)
        try simp only [Act.put, List.setIfInBounds_toArray, List.set_cons_zero, List.set_cons_succ]
        refine wpAnyH_take (i := 12) (v := ?vV11n1b512) (take_list rfl) (by kernel_rfl) (by kernel_rfl) (by kernel_rfl) (fun _ _ _ h => h) (Or.inl ⟨by rfl, ?hyV11n1b512⟩) (by assumption) ?restV11n1b512
        case hyV11n1b512 => (intro w hSw; (try dsimp only at hSw); go_simp <;> with_reducible rfl)
        try simp only [Act.put, List.setIfInBounds_toArray, List.set_cons_zero, List.set_cons_succ]
        refine wpAnyH_done (by kernel_rfl) ?_ _
        clear hHeld KS
        have RA9 := Lib.hid (RA7.out.below BR.out)
        have B9 := Lib.hid (B7.out.trans (BR.out.mono B7.out.size))
        have AL2 := Lib.hid (show ∀ W, Below w9.heap.size w9 W → Calls Try.prog 13 #[.slice Ba EA.length EA.length, .slice Bc EC.length EC.length] W fun e w' => e = .returned (.bool true) ∧ Below W.heap.size W w' from fun W hW => (alike10 Ba EA.length EA.length EA Bc EC.length EC.length EC W (RA9.out.below hW) (RC9.out.below hW)).mono fun e w' ⟨h1, h2⟩ => ⟨by rw [h1, EK.out, EKC.out]; simp, h2⟩)
        go_wp2_with (first
            | (go_at_call 12; refine (sAwake _).mono ?_; rintro e wA ⟨rfl, hbA⟩; have B10 := Lib.hid hbA; clear hbA)
            | (go_at_call 13; refine (AL2.out _ B10.out).mono ?_; rintro e wB ⟨rfl, hbB⟩; have B11 := Lib.hid (show Below w.heap.size w wB from B9.out.trans ((B10.out.trans (hbB.mono B10.out.size)).mono B9.out.size)); clear hbB)
            | fail)
        go_ret
        exact ⟨rfl, B11.out⟩
end Go.Proofs.Ythceidacmeadkaa
