/- Texts joined: KC8, KC12, KC13, KC14, KC15, KC16, KC17, KC18, KC19, KC20, KC21, KC22, KC23, KC24. No condition beyond those that each theorem states. -/
import Derived.Test.YtmkccblcmiflfaaGreatPK1
import Derived.Test.YtmkccblcmiflfaaGreatPK0
import Derived.Maps.RangeWalk
import Derived.Shelf.SlSortCmp.WholeK
import Derived.Shelf.SlSortCmp.NoneTotal
import Derived.Shelf.SlicesG.Cmp
import Derived.Shelf.Lay
import Derived.Ground.SlsfProg
import Derived.Ground.SlgcProg
import Derived.Shelf.SlIter.Nil
import Derived.Shelf.SortM.Plain
import Derived.Shelf.SortM.SortNone
import Derived.Ground.GgzProg
import Derived.Ground.SlgmProg
import Derived.ArgAppend
import Derived.Shelf.SlIterI.Nil
namespace Go.Proofs.YtmkccblcmiflfaaGreat
open Go.RowKit Go.Maps Go.WideMaps

section
set_option maxHeartbeats 1000000
theorem cWaits0 (F : Nat → Prop) (p n : Nat) (sv : Value) (SR : List BlobR) (key : Str) (w : World) (c0 : w.cell? ⟨p, 0, none⟩ = some sv) (h : OwnRow F w 70 2 sv n (blobVals SR)) (hn : SR.length = n) :
    Calls Tryz.prog 32 #[.pointer (some ⟨p, 0, none⟩), encStr key] w fun e w' => e = .returned (.int .i64 (idxP (fun r => decide (r.key = key)) SR)) ∧ Below w.heap.size w w' := by
  obtain ⟨w1, hw1⟩ : ∃ w1, w1 = w.alloc (.cells #[encStr key] 9) := ⟨_, rfl⟩
  have hb1 : Below w.heap.size w w1 := by rw [hw1]; exact (Below.refl _ _).alloc (Nat.le_refl _) _
  have h1 : OwnRow F w1 70 2 sv n (blobVals SR) := (OwnRow.owning ..).below h hb1
  have hk1 : w1.cell? ⟨w.heap.size, 0, none⟩ = some (encStr key) := by rw [hw1]; exact (Blk.made w _ _).cell 0
  have hp : p < w.heap.size := World.block_lt_of_cell? w _ c0
  have c1 : w1.cell? ⟨p, 0, none⟩ = some sv := (hb1.cell (p := ⟨p, 0, none⟩) hp).trans c0
  have HX := Lib.hid (ixBlob F sv n SR key w.heap.size w1 h1 hn hk1)
  have HB1 := Lib.hid hb1
  have hv : (∃ B n c, sv = .slice B n c) := by
    rcases h.form with ⟨h, _⟩ | ⟨g, cap, h, _⟩
    · exact ⟨_, _, _, h⟩
    · exact ⟨_, _, _, h⟩
  obtain ⟨B, n', c, rfl⟩ := hv
  clear h h1 hb1 hk1 c0
  go_enter Tryz.func32, Tryz.ntmps32
  go_upto_region 1 with fail
  rw [← hw1]
  clear hw1
  go_wp2_with (go_at_call 65; refine HX.out.mono ?_; rintro e w2 ⟨rfl, hb2⟩)
  go_ret
  exact ⟨rfl, HB1.out.trans (hb2.mono HB1.out.size)⟩
theorem placeC_info : (Tryz.prog.info? 95).map (fun i => (i.zero, i.size, i.bytes)) = some (some (.agg #[.int .i64 0, .int .i64 0]), 2, 16) := by kernel_rfl
theorem placeVals_one (l : Pls) : ∀ u ∈ placeVals l, u.oneCell' = true := by
  intro u hu
  obtain ⟨q, _, hu⟩ := List.mem_flatMap.1 hu
  simp only [List.mem_cons, List.not_mem_nil, or_false] at hu
  rcases hu with rfl | rfl <;> rfl
theorem SrcAt.below {w w' : World} {A : Option Addr} {n : Nat} {xs : List Value} (h : SrcAt w A n xs) (hb : Below w.heap.size w w') : SrcAt w' A n xs := by
  rcases h with h | ⟨b, off, h1, h3⟩
  · exact .inl h
  · exact .inr ⟨b, off, h1, fun j u hu => (hb.cell (p := ⟨b, off + j, none⟩) (World.block_lt_of_cell? w _ (h3 j u hu))).trans (h3 j u hu)⟩
theorem pclone (A : Option Addr) (n c : Nat) (l : Pls) (w : World) (hf : Form A n c) (hm : n ≤ 1000000) (h : PlacesIn w A n l) :
    Calls Tryz.prog 72 #[.slice A n c] w fun e w' => ∃ B k, e = .returned (.slice B n k) ∧ w'.ownsRow w.heap.size 95 2 (.slice B n k) n (placeVals l) ∧ Below w.heap.size w w' := by
  have h1 : ∀ w, _ := fun w => Lib.run_eql_slice_nil (P := Tryz.prog) w 30 95 A n c 0 0 Tryz.underlying30
  have H := Lib.hid h
  obtain ⟨i0, hi0, hz0, hz1, hz2⟩ := info_parts placeC_info
  clear h
  cases A with
  | none =>
    obtain ⟨rfl, rfl⟩ := hf.2.2 rfl
    go_enter Tryz.func72, Tryz.ntmps72
    go_wp2
    go_ret
    have e : l = [] := List.eq_nil_of_length_eq_zero H.out.1
    subst e
    exact ⟨none, 0, rfl, World.ownsRow_nil _ _ _ _, Below.refl _ _⟩
  | some a =>
    go_enter Tryz.func72, Tryz.ntmps72
    go_wp2_with (
      (at_builtin
       refine wpList_append_src _ rfl (.tmp 5) (.tmp 6) 30 rfl w.heap.size 95 i0 _ 2 16 Tryz.underlying30 hi0 hz0 hz1 hz2 rfl (by omega) _ 0 [] rfl (by exact own_made _ _ 2 rfl (Nat.le_refl _)) (some a) n c (placeVals l) rfl (by rw [placeVals_len, H.out.1]) (fun e => by cases e) (by exact H.out.2.below ((Below.refl _ _).alloc (Nat.le_refl _) _)) (placeVals_one l) (by simp only [maxLen]; omega) (by omega) (by simp) ?_
       intro v w1 hown hgr hat))
    go_ret
    have hb1 : Below w.heap.size w w1 := ((Below.refl _ _).alloc (Nat.le_refl _) _).grown hgr (by simp) (fun q hq => by have h : w.heap.size = q := Option.some.inj hq; omega)
    rcases hown.2 with ⟨rfl, h0⟩ | ⟨g, cap, cur, rfl, h2⟩
    · have hn0 : n = 0 := by omega
      subst hn0
      exact ⟨none, 0, rfl, by have h := hown; rw [List.nil_append] at h; exact h, hb1⟩
    · refine ⟨some ⟨g, 0, none⟩, cap, by simp, ?_, hb1⟩
      have h := hown
      rw [List.nil_append] at h
      rwa [Nat.zero_add] at h
end
end Go.Proofs.YtmkccblcmiflfaaGreat

namespace Go.Proofs.YtmkccblcmiflfaaGreat
open Go.RowKit Go.Maps Go.WideMaps

/-- A slice that a call hands out: nil, or a row from a new block's beginning on, clipped. -/
def OutAt (w0 w : World) (t : TypeId) (v : Value) (n : Nat) (xs : List Value) : Prop :=
  (v = .slice none 0 0 ∧ n = 0 ∧ xs = []) ∨ ∃ g, v = .slice (some ⟨g, 0, none⟩) n n ∧ w0.heap.size ≤ g ∧ RowAt w g t xs
theorem OutAt.below {w0 w w' : World} {t : TypeId} {v : Value} {n : Nat} {xs : List Value} (h : OutAt w0 w t v n xs) (hb : Below w.heap.size w w') : OutAt w0 w' t v n xs :=
  h.imp id fun ⟨g, h1, h2, h3⟩ => ⟨g, h1, h2, h3.of_eq (hb.block g h3.size)⟩
theorem OutAt.old {w0 w1 w : World} {t : TypeId} {v : Value} {n : Nat} {xs : List Value} (h : OutAt w1 w t v n xs) (hz : w0.heap.size ≤ w1.heap.size) : OutAt w0 w t v n xs :=
  h.imp id fun ⟨g, h1, h2, h3⟩ => ⟨g, h1, Nat.le_trans hz h2, h3⟩
theorem OutAt.of_own {w0 w : World} {t : TypeId} {size n c : Nat} {B : Option Addr} {xs : List Value} (h : w.ownsRow w0.heap.size t size (.slice B n c) n xs) : OutAt w0 w t (.slice B n n) n xs := by
  have hl := h.1
  rcases h.2 with ⟨e, h0⟩ | ⟨g, cap, cur, e, h1, _⟩
  · cases e
    exact .inl ⟨rfl, rfl, List.eq_nil_of_length_eq_zero (by rw [hl]; simp)⟩
  · cases e
    exact .inr ⟨g, rfl, h1, RowAt.of_own h⟩
theorem own_form {w : World} {base : Nat} {t : TypeId} {size n : Nat} {v : Value} {xs : List Value} (h : w.ownsRow base t size v n xs) : ∃ B c, v = .slice B n c ∧ n ≤ c ∧ c ≤ maxLen ∧ ((B = none ∧ n = 0 ∧ c = 0) ∨ ∃ g, B = some ⟨g, 0, none⟩) := by
  rcases h.2 with ⟨e, h0⟩ | ⟨g, cap, cur, e, _, _, h3, h4, _⟩
  · subst h0
    exact ⟨none, 0, e, Nat.le_refl _, Nat.zero_le _, .inl ⟨rfl, rfl, rfl⟩⟩
  · exact ⟨_, cap, e, h3, h4, .inr ⟨g, rfl⟩⟩
theorem str_info : (Tryz.prog.info? 9).map (fun i => (i.zero, i.size, i.bytes)) = some (some (.string ⟨#[]⟩), 1, 16) := by kernel_rfl
theorem noteC_info : (Tryz.prog.info? 32).map (fun i => (i.zero, i.size, i.bytes)) = some (some (.agg #[.int .i64 0, .string ⟨#[]⟩, .int .i64 0, .int .i64 0, .slice none 0 0, .string ⟨#[]⟩, .int .i64 0, .slice none 0 0]), 8, 112) := by kernel_rfl
def strVals (l : List Str) : List Value := l.map encStr
theorem src_new1 (W : World) (t : TypeId) (cs : Array Value) (g : Nat) (hg : g = W.heap.size) : SrcAt (W.alloc (.cells cs t)) (some ⟨g, 0, none⟩) cs.size cs.toList := by
  subst hg
  refine .inr ⟨_, 0, rfl, fun j u hu => ?_⟩
  rw [Nat.zero_add, (Blk.made W t cs).cell]
  simpa using hu
section
set_option maxHeartbeats 1000000
theorem clip_str (B : Option Addr) (n c : Nat) (w : World) (hn : n ≤ c) (hc : c ≤ maxLen) (hB : (B = none ∧ n = 0 ∧ c = 0) ∨ ∃ g, B = some ⟨g, 0, none⟩) :
    Calls Tryz.prog 44 #[.slice B n c] w fun e w' => e = .returned (.slice B n n) ∧ w = w' := by
  have hc63 : c ≤ 9223372036854775807 := by simp only [maxLen] at hc; exact hc
  clear hc
  rcases hB with ⟨rfl, rfl, rfl⟩ | ⟨g, rfl⟩
  · go_enter Tryz.func44, Tryz.ntmps44
    go_wp2
    go_ret
    exact ⟨rfl, rfl⟩
  · go_enter Tryz.func44, Tryz.ntmps44
    go_wp2
    go_ret
    exact ⟨rfl, rfl⟩
theorem clip_note (B : Option Addr) (n c : Nat) (w : World) (hn : n ≤ c) (hc : c ≤ maxLen) (hB : (B = none ∧ n = 0 ∧ c = 0) ∨ ∃ g, B = some ⟨g, 0, none⟩) :
    Calls Tryz.prog 35 #[.slice B n c] w fun e w' => e = .returned (.slice B n n) ∧ w = w' := by
  have hc63 : c ≤ 9223372036854775807 := by simp only [maxLen] at hc; exact hc
  clear hc
  rcases hB with ⟨rfl, rfl, rfl⟩ | ⟨g, rfl⟩
  · go_enter Tryz.func35, Tryz.ntmps35
    go_wp2
    go_ret
    exact ⟨rfl, rfl⟩
  · go_enter Tryz.func35, Tryz.ntmps35
    go_wp2
    go_ret
    exact ⟨rfl, rfl⟩
theorem clip_ent (B : Option Addr) (n c : Nat) (w : World) (hn : n ≤ c) (hc : c ≤ maxLen) (hB : (B = none ∧ n = 0 ∧ c = 0) ∨ ∃ g, B = some ⟨g, 0, none⟩) :
    Calls Tryz.prog 48 #[.slice B n c] w fun e w' => e = .returned (.slice B n n) ∧ w = w' := by
  have hc63 : c ≤ 9223372036854775807 := by simp only [maxLen] at hc; exact hc
  clear hc
  rcases hB with ⟨rfl, rfl, rfl⟩ | ⟨g, rfl⟩
  · go_enter Tryz.func48, Tryz.ntmps48
    go_wp2
    go_ret
    exact ⟨rfl, rfl⟩
  · go_enter Tryz.func48, Tryz.ntmps48
    go_wp2
    go_ret
    exact ⟨rfl, rfl⟩
theorem clip_place (B : Option Addr) (n c : Nat) (w : World) (hn : n ≤ c) (hc : c ≤ maxLen) (hB : (B = none ∧ n = 0 ∧ c = 0) ∨ ∃ g, B = some ⟨g, 0, none⟩) :
    Calls Tryz.prog 82 #[.slice B n c] w fun e w' => e = .returned (.slice B n n) ∧ w = w' := by
  have hc63 : c ≤ 9223372036854775807 := by simp only [maxLen] at hc; exact hc
  clear hc
  rcases hB with ⟨rfl, rfl, rfl⟩ | ⟨g, rfl⟩
  · go_enter Tryz.func82, Tryz.ntmps82
    go_wp2
    go_ret
    exact ⟨rfl, rfl⟩
  · go_enter Tryz.func82, Tryz.ntmps82
    go_wp2
    go_ret
    exact ⟨rfl, rfl⟩
theorem nclone (A : Option Addr) (n c : Nat) (L : List (Str × Int)) (w : World) (hf : Form A n c) (hm : n ≤ 1000000) (hl : L.length = n) (h : SrcAt w A n (tombVals L)) :
    Calls Tryz.prog 50 #[.slice A n c] w fun e w' => ∃ B k, e = .returned (.slice B n k) ∧ w'.ownsRow w.heap.size 32 8 (.slice B n k) n (tombVals L) ∧ Below w.heap.size w w' := by
  have h1 : ∀ w, _ := fun w => Lib.run_eql_slice_nil (P := Tryz.prog) w 22 32 A n c 0 0 Tryz.underlying22
  have H := Lib.hid h
  have HL := Lib.hid hl
  obtain ⟨i0, hi0, hz0, hz1, hz2⟩ := info_parts noteC_info
  have htl : (tombVals L).length = n * 8 := by
    rw [← hl]
    clear h hl H HL
    induction L with
    | nil => rfl
    | cons x L ih => simp only [tombVals, List.flatMap_cons, List.length_append, List.length_cons, List.length_nil] at *; omega
  have HTL := Lib.hid htl
  clear h hl htl
  cases A with
  | none =>
    obtain ⟨rfl, rfl⟩ := hf.2.2 rfl
    go_enter Tryz.func50, Tryz.ntmps50
    go_wp2
    go_ret
    have e : L = [] := List.eq_nil_of_length_eq_zero HL.out
    subst e
    exact ⟨none, 0, rfl, World.ownsRow_nil _ _ _ _, Below.refl _ _⟩
  | some a =>
    go_enter Tryz.func50, Tryz.ntmps50
    go_wp2_with (
      (at_builtin
       refine wpList_append_src _ rfl (.tmp 5) (.tmp 6) 22 rfl w.heap.size 32 i0 _ 8 112 Tryz.underlying22 hi0 hz0 hz1 hz2 rfl (by omega) _ 0 [] rfl (by exact own_made _ _ 8 rfl (Nat.le_refl _)) (some a) n c (tombVals L) rfl HTL.out (fun e => by cases e) (by exact H.out.below ((Below.refl _ _).alloc (Nat.le_refl _) _)) (tombVals_one L) (by simp only [maxLen]; omega) (by omega) (by simp) ?_
       intro v w1 hown hgr hat))
    go_ret
    have hb1 : Below w.heap.size w w1 := ((Below.refl _ _).alloc (Nat.le_refl _) _).grown hgr (by simp) (fun q hq => by have h : w.heap.size = q := Option.some.inj hq; omega)
    rcases hown.2 with ⟨rfl, h0⟩ | ⟨g, cap, cur, rfl, h2⟩
    · have hn0 : n = 0 := by omega
      subst hn0
      exact ⟨none, 0, rfl, by have h := hown; rw [List.nil_append] at h; exact h, hb1⟩
    · refine ⟨some ⟨g, 0, none⟩, cap, by simp, ?_, hb1⟩
      have h := hown
      rw [List.nil_append] at h
      rwa [Nat.zero_add] at h
theorem orow_src {F : Nat → Prop} {w : World} {t : TypeId} {size n : Nat} {B : Option Addr} {c : Nat} {xs : List Value} (h : OwnRow F w t size (.slice B n c) n xs) : SrcAt w B n xs ∧ Form B n c := by
  rcases h.1.2 with ⟨e, h0⟩ | ⟨g, cap, cur, e, _, _, h3, h4, _⟩
  · cases e
    exact ⟨.inl ⟨rfl, List.eq_nil_of_length_eq_zero (by rw [h.1.1]; simp)⟩, Nat.le_refl _, Nat.zero_le _, fun _ => ⟨rfl, rfl⟩⟩
  · cases e
    exact ⟨.inr ⟨g, 0, rfl, fun j u hu => by rw [Nat.zero_add]; exact h.row.cell hu⟩, h3, h4, fun e => by cases e⟩
theorem cTombs (F : Nat → Prop) (p N : Nat) (C : CV) (w : World) (h : CatAt F w p N C) (hN : N ≤ 100000) :
    Calls Tryz.prog 21 #[.pointer (some ⟨p, 0, none⟩)] w fun e w' => ∃ v, e = .returned v ∧ OutAt w w' 32 v C.tombs.length (tombVals C.tombs) ∧ Below w.heap.size w w' := by
  obtain ⟨sv, tv, SR, ER, be, bb, br, hr⟩ := h
  have hlt : C.tombs.length ≤ 1000000 := by have := hr.wf.tombs; omega
  obtain ⟨B, c, rfl, hnc, hcm, hB⟩ := own_form hr.tmb.1
  have c3 : w.cell? ⟨p, 3, none⟩ = some (.slice B C.tombs.length c) := hr.blk.cell 3
  have S := Lib.hid (orow_src hr.tmb)
  clear hr
  go_enter Tryz.func21, Tryz.ntmps21
  go_wp2_with (first
    | (go_at_call 50; refine (nclone B _ c C.tombs _ S.out.2 hlt rfl S.out.1).mono ?_; rintro e w1 ⟨B1, k1, rfl, ho1, hb1⟩; have O1 := Lib.hid ho1; have HB1 := Lib.hid hb1; obtain ⟨B1', c1', e1, hn1, hc1, hB1⟩ := own_form ho1; cases e1; clear ho1 hb1)
    | (go_at_call 35; refine (clip_note B1 _ k1 _ hn1 hc1 hB1).mono ?_; rintro e w2 ⟨rfl, rfl⟩))
  go_ret
  exact ⟨_, rfl, OutAt.of_own O1.out, HB1.out⟩
theorem cStaged (F : Nat → Prop) (p N : Nat) (C : CV) (w : World) (h : CatAt F w p N C) (hN : N ≤ 100000) :
    Calls Tryz.prog 14 #[.pointer (some ⟨p, 0, none⟩)] w fun e w' => ∃ v, e = .returned v ∧ OutAt w w' 9 v C.staged.length (strVals (C.staged.map Prod.fst)) ∧ Below w.heap.size w w' := by
  obtain ⟨sv, tv, SR, ER, be, bb, br, hr⟩ := h
  have hlt : C.staged.length ≤ 1000000 := by have := hr.wf.staged; omega
  have hsr : SR.length = C.staged.length := by rw [← hr.stgs, List.length_map]
  have hkeys : C.staged.map Prod.fst = SR.map (·.key) := by rw [← hr.stgs, List.map_map]; rfl
  obtain ⟨B, c, rfl, hnc, hcm, hB⟩ := own_form hr.stg.1
  have c0 : w.cell? ⟨p, 0, none⟩ = some (.slice B C.staged.length c) := hr.blk.cell 0
  have ST := Lib.hid hr.stg
  obtain ⟨i0, hi0, hz0, hz1, hz2⟩ := info_parts str_info
  rw [hkeys]
  have HSR := Lib.hid hsr
  generalize C.staged.length = n at *
  have hn63 : n ≤ 9223372036854775807 := by omega
  clear hr hkeys hsr
  go_enter Tryz.func14, Tryz.ntmps14
  go_wp2_with fail
  go_loopw [3, 13] (fun v i wx => ∃ j : Nat, i = .int .i64 j ∧ j ≤ n ∧ wx.ownsRow w.heap.size 9 1 v j (strVals ((SR.take j).map (·.key))) ∧ Below w.heap.size w wx) (fun _ i _ => n - (intOf i).toNat)
  case atStart => exact ⟨0, rfl, Nat.zero_le _, World.ownsRow_nil _ _ _ _, Below.refl _ _⟩
  case round =>
    obtain ⟨j, rfl, hj, hown, hbl⟩ := hrel
    obtain ⟨wo, rfl⟩ : ∃ wo : World, wo = wr := ⟨_, rfl⟩
    have OW := Lib.hid hown
    have BL := Lib.hid hbl
    have hz := hbl.size
    obtain ⟨A1, k1, rfl, hn1, hc1, hA1⟩ := own_form hown
    by_cases hlt2 : j < n
    · have d1 : decide (j < n) = true := by simpa using hlt2
      obtain ⟨r, hr⟩ : ∃ r, SR[j]? = some r := ⟨_, List.getElem?_eq_getElem (by rw [HSR.out]; exact hlt2)⟩
      obtain ⟨g, rfl⟩ : ∃ g, B = some ⟨g, 0, none⟩ := by
        rcases hB with ⟨_, h, _⟩ | h
        · omega
        · exact h
      have hg : g < w.heap.size := (ST.out.1.lt g rfl).2
      have k0 : wo.cell? ⟨g, j * 2, none⟩ = some (encStr r.key) := (hbl.cell (p := ⟨g, j * 2, none⟩) hg).trans (ST.out.row.cell (blobVals_get hr).1)
      have k2 : wo.cell? ⟨g, j * 2 + 1, none⟩ = some (.slice r.A r.n r.c) := (hbl.cell (p := ⟨g, j * 2 + 1, none⟩) hg).trans (ST.out.row.cell (blobVals_get hr).2)
      have HT := Lib.hid (show strVals ((SR.take (j + 1)).map (·.key)) = strVals ((SR.take j).map (·.key)) ++ [encStr r.key] by rw [List.take_add_one, hr, Option.toList_some, List.map_append]; unfold strVals; rw [List.map_append]; rfl)
      clear hown hbl hr
      go_wp2_with (
        (at_builtin
         refine wpList_append_src _ rfl (.tmp 17) (.tmp 20) 36 rfl w.heap.size 9 i0 _ 1 16 Tryz.underlying36 hi0 hz0 hz1 hz2 rfl (by omega) _ j _ rfl (by exact (OW.out.alloc _).alloc _) (some ⟨wo.heap.size + 1, 0, none⟩) 1 1 [encStr r.key] rfl rfl (fun e => by cases e) (by exact src_new1 _ _ _ _ (by simp)) (by intro u hu; simp only [List.mem_cons, List.not_mem_nil, or_false] at hu; rcases hu with rfl; rfl) (by simp only [maxLen]; omega) (by omega) (by simp; omega) ?_
         intro v' w1 hown1 hgr1 hat1
         have OW1 := Lib.hid hown1
         have HB1 := Lib.hid ((((BL.out.alloc hz _).alloc (by simp; omega) _).grown hgr1 (by simp; omega) (fun q hq => (OW.out.lt q hq).1)))
         clear hown1 hgr1 hat1))
      go_roundw
      case rel => exact ⟨j + 1, by go_num, hlt2, by rw [HT.out]; exact OW1.out, HB1.out⟩
      case measure => simp [intOf]; omega
    · have d1 : decide (j < n) = false := by simpa using hlt2
      obtain rfl : j = n := by omega
      clear hown hbl
      go_wp2_with (go_at_call 44; refine (clip_str A1 _ k1 _ hn1 hc1 hA1).mono ?_; rintro e w2 ⟨rfl, rfl⟩)
      go_ret
      refine ⟨_, rfl, ?_, BL.out⟩
      have h := OutAt.of_own OW.out
      rwa [List.take_of_length_le (by rw [HSR.out]; exact Nat.le_refl _)] at h
end
end Go.Proofs.YtmkccblcmiflfaaGreat

namespace Go.Proofs.YtmkccblcmiflfaaGreat
open Go.RowKit Go.Maps Go.WideMaps

def genCells (q : Str × Int) : List Value := [.int .i64 4, encStr q.1, .int .i64 q.2, .int .i64 0, .slice none 0 0, encStr [], .int .i64 0, .slice none 0 0]
def genVals (l : List (Str × Int)) : List Value := l.flatMap genCells
theorem genVals_snoc (L : List (Str × Int)) (q : Str × Int) : genVals (L ++ [q]) = genVals L ++ genCells q := by simp [genVals]
/-- What has been met of a map's entries. -/
structure Met (L M : List (Str × Int)) (left : Lit → Bool) : Prop where
  nd : (M.map Prod.fst).Nodup
  met : ∀ q ∈ M, q ∈ L ∧ left (.string q.1) = false
  all : ∀ q ∈ L, left (.string q.1) = true ∨ q ∈ M
  has : ∀ k, left (.string k) = true → hasL L k = true
theorem Met.start {L : List (Str × Int)} {left : Lit → Bool} (h : ∀ k, left (.string k) = hasL L k) : Met L [] left :=
  ⟨by simp, by simp, fun q hq => .inl (by rw [h]; exact hasL_mem.2 (List.mem_map.2 ⟨q, hq, rfl⟩)), fun k hk => by rw [← h]; exact hk⟩
theorem sameKey_str (a b : Str) : (Lit.string a).sameKey (.string b) = decide (a = b) := by
  by_cases h : a = b
  · subst h
    rw [decide_eq_true rfl]
    exact WideAt.sameKey_self (show WideAt.IsKeyLit (.string a) from trivial)
  · rw [decide_eq_false h]
    exact sameKey_ne (fun e => h (by injection e))
theorem Met.step {L M : List (Str × Int)} {left : Lit → Bool} (hL : (L.map Prod.fst).Nodup) (h : Met L M left) {k : Str} {g : Int} (hq : (k, g) ∈ L) (hl : left (.string k) = true) : Met L (M ++ [(k, g)]) (fun z => left z && !z.sameKey (.string k)) := by
  refine ⟨?_, fun q hq' => ?_, fun q hq' => ?_, fun k' hk' => h.has k' (by simp only [Bool.and_eq_true] at hk'; exact hk'.1)⟩
  · rw [List.map_append, List.nodup_append]
    refine ⟨h.nd, by simp, fun a ha b hb e => ?_⟩
    have hb : b = k := by simpa using hb
    subst hb
    subst e
    obtain ⟨q, hqm, rfl⟩ := List.mem_map.1 ha
    rw [(h.met q hqm).2] at hl
    cases hl
  · rcases List.mem_append.1 hq' with hq' | hq'
    · exact ⟨(h.met q hq').1, by rw [(h.met q hq').2]; rfl⟩
    · have e : q = (k, g) := by simpa using hq'
      subst e
      exact ⟨hq, by rw [sameKey_str]; simp⟩
  · rcases h.all q hq' with h1 | h1
    · by_cases hk : q.1 = k
      · right
        have e1 := getL_at (z := (0 : Int)) hL (k := q.1) (v := q.2) hq'
        have e2 := getL_at (z := (0 : Int)) hL (k := k) (v := g) hq
        rw [hk] at e1
        have : q = (k, g) := Prod.ext hk (e1.symm.trans e2)
        rw [this]
        simp
      · left
        rw [h1, sameKey_str]
        simp [hk]
    · exact .inr (List.mem_append_left _ h1)
theorem Met.perm {L M : List (Str × Int)} {left : Lit → Bool} (hL : (L.map Prod.fst).Nodup) (h : Met L M left) (h0 : ∀ kl, left kl = false) : M.Perm L := by
  have nd : ∀ {X : List (Str × Int)}, (X.map Prod.fst).Nodup → X.Nodup := fun {X} hX => by
    unfold List.Nodup at *
    rw [List.pairwise_map] at hX
    exact hX.imp fun h e => h (by rw [e])
  refine (List.perm_ext_iff_of_nodup (nd h.nd) (nd hL)).2 fun q => ⟨fun hq => (h.met q hq).1, fun hq => ?_⟩
  rcases h.all q hq with h1 | h1
  · rw [h0] at h1; cases h1
  · exact h1
theorem encStr_inj {a b : Str} (h : encStr a = encStr b) : b = a := by
  unfold encStr at h
  injection h with h
  injection h with h
  have := congrArg Array.toList h
  simpa using this.symm
theorem anyE_pair {c : Value} {a : DataW Value} {b : List MemPlace} (h : anyE c = some (a, b)) : a = .held c := by
  simp only [anyE, Option.some.injEq, Prod.mk.injEq] at h
  exact h.1.symm
theorem begun_at {L : List (Str × Int)} {x : Str} (h : hasL L x = true) : ∃ g, (x, g) ∈ L ∧ getL (.int .i64 0) (begunVals L) x = .int .i64 g := by
  have h' : hasL (begunVals L) x = true := (hasL_map (fun g : Int => Value.int .i64 g) L x).trans h
  obtain ⟨q, hq, hqe⟩ := List.mem_map.1 (getL_mem (.int .i64 0) h')
  obtain ⟨k, g⟩ := q
  injection hqe with h1 h2
  subst h1
  exact ⟨g, hq, h2.symm⟩
theorem genCells_one (q : Str × Int) : ∀ u ∈ genCells q, u.oneCell' = true := by
  intro u hu
  simp only [genCells, List.mem_cons, List.not_mem_nil, or_false] at hu
  rcases hu with rfl | rfl | rfl | rfl | rfl | rfl | rfl | rfl <;> rfl
section
set_option maxHeartbeats 4000000
set_option maxRecDepth 8000
/-- The loop of gens, up to the sort: what was begun, in some order. -/
theorem cGens0 (F : Nat → Prop) (p N : Nat) (C : CV) (w : World) (h : CatAt F w p N C) (hN : N ≤ 100000) (Post : Ending → World → Prop)
    (hsort : ∀ (v : Value) (n : Nat) (M : List (Str × Int)) (w1 : World), M.Perm C.begun → M.length = n → n ≤ N → w1.ownsRow (w.heap.size + 1) 32 8 v n (genVals M) → Below w.heap.size w w1 →
      Calls Tryz.prog 62 #[v, .func (.func 63) #[] #[]] w1 fun e w2 => e = .returned (.tuple #[]) ∧ Post (.returned v) w2) :
    Calls Tryz.prog 31 #[.pointer (some ⟨p, 0, none⟩)] w Post := by
  obtain ⟨sv, tv, SR, ER, be, bb, br, hr⟩ := h
  have c2 : w.cell? ⟨p, 2, none⟩ = some (.map (some bb)) := hr.blk.cell 2
  obtain ⟨⟨D, hown, hhas, hat0⟩, hnd⟩ := hr.begs
  have HH := Lib.hid hhas
  have HAT := Lib.hid hat0
  have hnd' : (C.begun.map Prod.fst).Nodup := by
    have h := hnd
    unfold begunVals at h
    rw [List.map_map] at h
    exact h
  have HND := Lib.hid hnd'
  have HBL := Lib.hid (show ∀ k, hasL (begunVals C.begun) k = hasL C.begun k from fun k => hasL_map _ _ _)
  have hbblt := hr.begs.lt
  have hsz : Maps.size D ≤ N := hown.size_le
  have OW := Lib.hid hown
  obtain ⟨i0, hi0, hz0, hz1, hz2⟩ := info_parts noteC_info
  have HS := Lib.hid hsort
  clear hr hown hhas hat0 hnd hnd' hsort
  go_enter Tryz.func31, Tryz.ntmps31
  go_wp2_with (first
    | (at_range; refine wpList_range_own _ rfl _ 64 rfl 9 3 skey.law Tryz.underlying64 _ bb N _ rfl OW.out ?_; intro w0 hrg0 hg0 hs0)
    | fail)
  go_frame
  go_loopw [3] (fun v wr => ∃ (left : Lit → Bool) (cnt n : Nat) (M : List (Str × Int)), wr.ranges Tryz.prog 9 anyE bb w.heap.size N D left cnt ∧ Met C.begun M left ∧ M.length = n ∧ n + cnt ≤ Maps.size D ∧ wr.ownsRow (w.heap.size + 1) 32 8 v n (genVals M) ∧ Below w.heap.size w wr)
    (fun _ wr => wr.rangeLeft bb w.heap.size)
  case atStart => exact ⟨_, _, 0, [], hrg0, Met.start (fun k => (HH.out k).trans (HBL.out k)), rfl, by omega, World.ownsRow_nil _ _ _ _, ⟨hg0.os, hg0.tape, hg0.output, hg0.size, fun k hk => hg0.block k hk (by simp)⟩⟩
  case round =>
    obtain ⟨left, cnt, n, M, hrg, hmet, hMn, hcnt, hrow, hbl⟩ := hrel
    obtain ⟨wo, rfl⟩ : ∃ wo : World, wo = wr := ⟨_, rfl⟩
    have MT := Lib.hid hmet
    have HMN := Lib.hid hMn
    have RW := Lib.hid hrow
    have BL := Lib.hid hbl
    have hzo := hbl.size
    have hzr := hrg.lt
    have HRG := Lib.hid hrg
    obtain ⟨A1, k1, rfl, hn1, hc1, hA1⟩ := own_form hrow
    clear hmet hMn hrow hbl
    go_wp2_with (first
      | (at_next; refine wpList_next_ranges (α := Str) (β := Value) _ rfl _ rfl 9 skey.law anyE encStr id (fun key kl hk => by obtain ⟨x, hx, _⟩ := Maps.keyOf_str Tryz.underlying9 hk; exact ⟨x, hx⟩) (fun v y _ => ⟨v, rfl⟩) bb w.heap.size N D _ _ rfl HRG.out ?_ ?_)
      | fail)
    · intro _ hl0
      clear hrg
      go_wp2_with (go_at_call 62; refine (HS.out _ _ M _ (Met.perm HND.out MT.out hl0) HMN.out (by omega) RW.out BL.out).mono ?_; rintro e w2 ⟨rfl, hp⟩)
      exact hp
    · intro x c kl ya yb w1 cnt1 hkx hlx hc hat hrg1 hlt hg1 hs1 hen
      have hkl : kl = .string x := by
        obtain ⟨x', hx1, hx2, _⟩ := Maps.keyOf_str Tryz.underlying9 hkx
        rw [hx2, encStr_inj hx1]
      subst hkl
      have hy : ya = .held c := anyE_pair hc
      have hcv : c = getL (.int .i64 0) (begunVals C.begun) x := by
        have h1 := hat (.held (.int .i64 0))
        rw [hy] at h1
        have h2 := HAT.out x
        have h3 := h1.symm.trans h2
        injection h3
      have hhx := MT.out.has x hlx
      obtain ⟨g, hq, hge⟩ := begun_at hhx
      rw [hge] at hcv
      subst hcv
      have MT1 := Lib.hid (MT.out.step HND.out hq hlx)
      have RW1 := Lib.hid (own_of_eq RW.out (w' := w1) (fun g' hg' => hg1.block g' (RW.out.lt g' hg').2 (fun e => by have := (RW.out.lt g' hg').1; have e := Option.some.inj e; omega)))
      have RG1 := Lib.hid hrg1
      have BL1 := Lib.hid (BL.out.grown hg1 hzo (fun g' hg' => by have := Option.some.inj hg'; omega))
      have hz1' : w.heap.size + 1 ≤ w1.heap.size := by omega
      clear hat hc hy hhx hq hge hrg hrg1 hg1 hkx hs1
      go_wp2_with (
        (at_builtin
         refine wpList_append_src _ rfl (.tmp 16) (.tmp 20) 22 rfl (w.heap.size + 1) 32 i0 _ 8 112 Tryz.underlying22 hi0 hz0 hz1 hz2 rfl (by omega) _ _ _ rfl (by exact RW1.out.alloc _) (some ⟨w1.heap.size, 0, none⟩) 1 1 (genCells (x, g)) rfl rfl (fun e => by cases e) (by exact src_new _ _ _ _) (genCells_one _) (by simp only [maxLen]; omega) (by omega) (by simp; omega) ?_
         intro v' w2 hown2 hgr2 hat2
         have OW2 := Lib.hid hown2
         have RG2 := Lib.hid ((RG1.out.alloc _).kept hgr2 (fun e => by have := (RW1.out.lt _ e.symm).1; omega) (fun e => by have := (RW1.out.lt _ e.symm).1; omega))
         have HB2 := Lib.hid (((BL1.out.alloc (by omega) _).grown hgr2 (by simp; omega) (fun q hq => by have := (RW1.out.lt q hq).1; omega)))
         clear hown2 hgr2 hat2))
      go_roundw
      case rel => exact ⟨_, cnt1, n + 1, M ++ [(x, g)], RG2.out, MT1.out, by rw [List.length_append, HMN.out]; rfl, by omega, by rw [genVals_snoc]; exact OW2.out, HB2.out⟩
      case measure => rw [RG2.out.left_eq, HRG.out.left_eq]; exact hlt
end
end Go.Proofs.YtmkccblcmiflfaaGreat

namespace Go.Proofs.YtmkccblcmiflfaaGreat
open Go.RowKit Go.Maps Go.WideMaps Go.Shelf Go.Sort

def sortN_ren : Go.Shelf.Ren := ⟨fun | 6 => 62 | 15 => 79 | 14 => 83 | 28 => 96 | 29 => 97 | 20 => 99 | 21 => 100 | 22 => 101 | 23 => 102 | 24 => 103 | 25 => 104 | 26 => 105 | 27 => 106 | 46 => 122 | 47 => 117 | 48 => 118 | 49 => 123 | 50 => 124 | 57 => 129 | n => n, fun | 22 => 22 | 24 => 32 | 25 => 99 | 3 => 3 | 39 => 112 | 0 => 0 | 53 => 125 | 55 => 127 | 4 => 4 | 46 => 118 | 45 => 117 | 50 => 105 | 5 => 5 | 9 => 9 | 66 => 140 | 70 => 144 | 76 => 150 | 77 => 151 | n => n, fun | n => n⟩
theorem sortN : Go.Proofs.SlLaysF0.n6 Tryz.prog sortN_ren := {
  mixed := by kernel_rfl
  f6 := ⟨Tryz.f62.name, by decide, Tryz.func62.trans (congrArg some (by kernel_rfl))⟩
  f14 := ⟨Tryz.f83.name, by decide, Tryz.func83.trans (congrArg some (by kernel_rfl))⟩
  f15 := Tryz.func79.trans (congrArg some (by kernel_rfl))
  f20 := ⟨Tryz.f99.name, by decide, Tryz.func99.trans (congrArg some (by kernel_rfl))⟩
  f21 := ⟨Tryz.f100.name, by decide, Tryz.func100.trans (congrArg some (by kernel_rfl))⟩
  f22 := ⟨Tryz.f101.name, by decide, Tryz.func101.trans (congrArg some (by kernel_rfl))⟩
  f23 := ⟨Tryz.f102.name, by decide, Tryz.func102.trans (congrArg some (by kernel_rfl))⟩
  f24 := ⟨Tryz.f103.name, by decide, Tryz.func103.trans (congrArg some (by kernel_rfl))⟩
  f25 := ⟨Tryz.f104.name, by decide, Tryz.func104.trans (congrArg some (by kernel_rfl))⟩
  f26 := ⟨Tryz.f105.name, by decide, Tryz.func105.trans (congrArg some (by kernel_rfl))⟩
  f27 := ⟨Tryz.f106.name, by decide, Tryz.func106.trans (congrArg some (by kernel_rfl))⟩
  f28 := Tryz.func96.trans (congrArg some (by kernel_rfl))
  f29 := Tryz.func97.trans (congrArg some (by kernel_rfl))
  f46 := ⟨Tryz.f122.name, by decide, Tryz.func122.trans (congrArg some (by kernel_rfl))⟩
  f47 := Tryz.func117.trans (congrArg some (by kernel_rfl))
  f48 := Tryz.func118.trans (congrArg some (by kernel_rfl))
  f49 := ⟨Tryz.f123.name, by decide, Tryz.func123.trans (congrArg some (by kernel_rfl))⟩
  f50 := ⟨Tryz.f124.name, by decide, Tryz.func124.trans (congrArg some (by kernel_rfl))⟩
  f57 := ⟨Tryz.f129.name, by decide, Tryz.func129.trans (congrArg some (by kernel_rfl))⟩
  t0 := Tryz.underlying0
  a0 := Tryz.isAgg0
  z0 := Tryz.sizeOf0
  v0 := Tryz.zeroValue0
  t3 := Tryz.underlying3
  a3 := Tryz.isAgg3
  z3 := Tryz.sizeOf3
  v3 := Tryz.zeroValue3
  t4 := Tryz.underlying4
  a4 := Tryz.isAgg4
  z4 := Tryz.sizeOf4
  v4 := Tryz.zeroValue4
  t5 := Tryz.underlying5
  a5 := Tryz.isAgg5
  z5 := Tryz.sizeOf5
  v5 := Tryz.zeroValue5
  t9 := Tryz.underlying9
  a9 := Tryz.isAgg9
  z9 := Tryz.sizeOf9
  v9 := Tryz.zeroValue9
  t22 := Tryz.underlying22
  a22 := Tryz.isAgg22
  z22 := Tryz.sizeOf22
  v22 := Tryz.zeroValue22
  t25 := Tryz.underlying99
  a25 := Tryz.isAgg99
  z25 := Tryz.sizeOf99
  v25 := Tryz.zeroValue99
  t39 := Tryz.underlying112
  a39 := Tryz.isAgg112
  z39 := Tryz.sizeOf112
  v39 := Tryz.zeroValue112
  t45 := Tryz.underlying117
  a45 := Tryz.isAgg117
  z45 := Tryz.sizeOf117
  v45 := Tryz.zeroValue117
  t46 := Tryz.underlying118
  a46 := Tryz.isAgg118
  z46 := Tryz.sizeOf118
  v46 := Tryz.zeroValue118
  t50 := Tryz.underlying105
  a50 := Tryz.isAgg105
  z50 := Tryz.sizeOf105
  v50 := Tryz.zeroValue105
  t53 := Tryz.underlying125
  a53 := Tryz.isAgg125
  z53 := Tryz.sizeOf125
  v53 := Tryz.zeroValue125
  t55 := Tryz.underlying127
  a55 := Tryz.isAgg127
  z55 := Tryz.sizeOf127
  v55 := Tryz.zeroValue127
  t66 := Tryz.underlying140
  a66 := Tryz.isAgg140
  z66 := Tryz.sizeOf140
  v66 := Tryz.zeroValue140
  t70 := Tryz.underlying144
  a70 := Tryz.isAgg144
  z70 := Tryz.sizeOf144
  v70 := Tryz.zeroValue144
  t76 := Tryz.underlying150
  a76 := Tryz.isAgg150
  z76 := Tryz.sizeOf150
  v76 := Tryz.zeroValue150
  t77 := Tryz.underlying151
  a77 := Tryz.isAgg151
  z77 := Tryz.sizeOf151
  v77 := Tryz.zeroValue151 }
def cmpN_ren : Go.Shelf.Ren := ⟨fun | 5 => 64 | 7 => 84 | n => n, fun | 22 => 3 | 3 => 3 | 4 => 4 | n => n, fun | n => n⟩
theorem cmpN : Go.Proofs.SlLaysC2.n5 Tryz.prog cmpN_ren := {
  mixed := by kernel_rfl
  f5 := ⟨Tryz.f64.name, by decide, Tryz.func64.trans (congrArg some (by kernel_rfl))⟩
  f7 := ⟨Tryz.f84.name, by decide, Tryz.func84.trans (congrArg some (by kernel_rfl))⟩
  t3 := Tryz.underlying3
  a3 := Tryz.isAgg3
  z3 := Tryz.sizeOf3
  v3 := Tryz.zeroValue3
  t4 := Tryz.underlying4
  a4 := Tryz.isAgg4
  z4 := Tryz.sizeOf4
  v4 := Tryz.zeroValue4
  t22 := Tryz.underlying3
  a22 := Tryz.isAgg3
  z22 := Tryz.sizeOf3
  v22 := Tryz.zeroValue3 }
def cfN (x y : Str × Int) : Int := Lib.compareInt x.2 y.2
theorem ltN (x y : Str × Int) : ltOf cfN x y = decide (x.2 < y.2) := by
  unfold ltOf cfN Lib.compareInt
  by_cases h1 : x.2 < y.2
  · simp [h1]
  · by_cases h2 : y.2 < x.2 <;> simp [h1, h2]
theorem swoN : SWO (ltOf cfN) where
  irrefl x := by rw [ltN]; simp
  trans x y z h1 h2 := by rw [ltN] at *; simp at *; omega
  ntrans x y z h1 h2 := by rw [ltN] at *; simp at *; omega
set_option maxHeartbeats 1000000 in
theorem gens1_any (x y : Str × Int) (W : World) : Calls Tryz.prog 63 #[.agg (genCells x).toArray, .agg (genCells y).toArray] W fun e w' => e = .returned (.int .i64 (cfN x y)) ∧ ∃ q os', w' = grow (W.drewN q) os' := by
  have hcon := fun W' => AnyG.cmp_Compare_int cmpN x.2 y.2 W'
  change ∀ W', Calls Tryz.prog 64 _ _ _ at hcon
  unfold cfN
  generalize Lib.compareInt x.2 y.2 = r at hcon ⊢
  change Calls Tryz.prog 63 #[.agg #[.int .i64 4, encStr x.1, .int .i64 x.2, .int .i64 0, .slice none 0 0, encStr [], .int .i64 0, .slice none 0 0], .agg #[.int .i64 4, encStr y.1, .int .i64 y.2, .int .i64 0, .slice none 0 0, encStr [], .int .i64 0, .slice none 0 0]] W _
  go_enter Tryz.func63, Tryz.ntmps63
  go_wp2_with (go_at_call 64; refine (hcon _).mono ?_; rintro e w' ⟨rfl, rfl⟩)
  go_ret
  exact ⟨rfl, 0, _, by rw [alloc_eq_grow, alloc_eq_grow, grow_grow]; rfl⟩
theorem cmpLaysN (blk off size : Nat) (w : World) : CmpLays Tryz.prog 63 #[] genCells 8 cfN blk off size w := fun _ _ _ _ x y => gens1_any x y _
theorem sortWorldK_grown (w : World) (g m : Nat) (d : Array (Str × Int)) (os : Array Obj) : w.grownBy (sortWorldK genCells 8 w g 0 m d os) (some g) := by
  refine ⟨rfl, rfl, rfl, by simp [sortWorldK, Sort.grow, putRowK, Sort.putRow, Sort.mapBlock, Sort.ahead], fun k hk hne => ?_⟩
  have hkg : g ≠ k := fun e => hne (by rw [e])
  simp only [sortWorldK, Sort.grow, putRowK, Sort.putRow, Sort.mapBlock, Sort.ahead]
  rw [Array.getElem?_append_left (by simpa using hk), Array.getElem?_modify, if_neg hkg]
theorem genVals_len (L : List (Str × Int)) : (genVals L).length = L.length * 8 := by
  induction L with
  | nil => rfl
  | cons x L ih =>
    have : (genVals (x :: L)) = genCells x ++ genVals L := rfl
    rw [this, List.length_append, ih, List.length_cons]
    show 8 + L.length * 8 = _
    omega
theorem genVals_at {L : List (Str × Int)} {t : Nat} (h : t < L.length * 8) : (genVals L)[t]? = some ((genCells L.toArray[t / 8]!)[t % 8]!) := by
  induction L generalizing t with
  | nil => simp at h
  | cons x L ih =>
    have hl : (genVals (x :: L)) = genCells x ++ genVals L := rfl
    rw [hl]
    by_cases ht : t < 8
    · rw [List.getElem?_append_left (by show t < 8; exact ht), show t / 8 = 0 by omega, show t % 8 = t by omega]
      have e : (x :: L).toArray[0]! = x := by simp
      rw [e, getElem!_pos _ t (by show t < 8; exact ht), List.getElem?_eq_getElem (by show t < 8; exact ht)]
    · have h' : t - 8 < L.length * 8 := by simp only [List.length_cons] at h; omega
      rw [List.getElem?_append_right (by show 8 ≤ t; omega), show t - (genCells x).length = t - 8 from rfl, ih h']
      have e1 : t / 8 = (t - 8) / 8 + 1 := by omega
      have e2 : t % 8 = (t - 8) % 8 := by omega
      rw [e1, e2]
      have hlt : (t - 8) / 8 < L.length := by omega
      congr 2
      rw [getElem!_pos _ _ (by simpa using hlt), getElem!_pos _ _ (by simpa using hlt)]
      simp
theorem holds_gen {w : World} {g : Nat} {L : List (Str × Int)} (h : RowAt w g 32 (genVals L)) : HoldsK genCells 8 w g 0 L.toArray := by
  intro j hj
  rw [size_flatK] at hj
  have hj' : j < L.length * 8 := by simpa using hj
  refine ⟨?_, h.free _⟩
  rw [Nat.zero_add, get_flatK _ _ _ _ hj]
  exact h.cell (genVals_at hj')
theorem row_gen {w : World} {g : Nat} {cs : Array Value} {L : List (Str × Int)} (hb : Blk w g 32 cs) (h : HoldsK genCells 8 w g 0 L.toArray) : RowAt w g 32 (genVals L) := by
  refine ⟨cs, hb, ?_⟩
  have hc : ∀ t, t < L.length * 8 → cs[t]? = (genVals L)[t]? := fun t ht => by
    have h1 := (h t (by rw [size_flatK]; simpa using ht)).1
    rw [Nat.zero_add, hb.cell, get_flatK _ _ _ _ (by simpa using ht)] at h1
    rw [genVals_at ht]
    exact h1
  apply List.ext_getElem?
  intro t
  rw [List.getElem?_take]
  by_cases ht : t < L.length * 8
  · rw [if_pos (by rw [genVals_len]; exact ht), ← hc t ht]
    simp
  · rw [if_neg (by rw [genVals_len]; exact ht), List.getElem?_eq_none (by rw [genVals_len]; omega)]
theorem sorted_one {M L : List (Str × Int)} (hp : M.Perm L) (hs : M.Pairwise fun a b => a.2 ≤ b.2) (hL : L.Pairwise fun a b => a.2 < b.2) : M = L := by
  refine List.Perm.eq_of_pairwise (le := fun a b : Str × Int => a.2 ≤ b.2) (fun a b ha hb h1 h2 => ?_) hs (hL.imp fun h => Int.le_of_lt h) hp
  have ha' := hp.subset ha
  rw [List.pairwise_iff_getElem] at hL
  obtain ⟨i, hi, rfl⟩ := List.getElem_of_mem ha'
  obtain ⟨j, hj, rfl⟩ := List.getElem_of_mem hb
  rcases Nat.lt_trichotomy i j with h | h | h
  · have := hL i j hi hj h; omega
  · subst h; rfl
  · have := hL j i hj hi h; omega
end Go.Proofs.YtmkccblcmiflfaaGreat

namespace Go.Proofs.YtmkccblcmiflfaaGreat
open Go.RowKit Go.Maps Go.WideMaps Go.Shelf Go.Sort

theorem genCells_one' (x : Str × Int) : ∀ v ∈ genCells x, v.oneCell' = true := genCells_one x
theorem sortN_agg (w : World) : (isAgg 32).run Tryz.prog w = .ok true w := Tryz.isAgg32 w
theorem sortN_size (w : World) : (Go.sizeOf 32).run Tryz.prog w = .ok 8 w := Tryz.sizeOf32 w
theorem sortWorldK_blk2 {w : World} {g m : Nat} {d : Array (Str × Int)} {os : Array Obj} {t : TypeId} {cs : Array Value} (h : Blk w g t cs) : ∃ cs', Blk (sortWorldK genCells 8 w g 0 m d os) g t cs' ∧ cs'.size = cs.size := by
  unfold Blk at h
  refine ⟨putCells id 0 (flatK genCells 8 d) cs, ?_, by simp [putCells]⟩
  unfold Blk sortWorldK Sort.grow putRowK Sort.putRow Sort.mapBlock Sort.ahead
  have hlt := (Array.getElem?_eq_some_iff.1 h).1
  rw [Array.getElem?_append_left (by simpa using hlt), Array.getElem?_modify, if_pos rfl, h]
  rfl
set_option maxHeartbeats 1000000 in
theorem sortGens (L M : List (Str × Int)) (hL : L.Pairwise fun a b => a.2 < b.2) (hp : M.Perm L) (hl : M.length ≤ 1000000) (base : Nat) (v : Value) (w : World) (ho : w.ownsRow base 32 8 v M.length (genVals M)) :
    Calls Tryz.prog 62 #[v, .func (.func 63) #[] #[]] w fun e w' => e = .returned (.tuple #[]) ∧ w'.ownsRow base 32 8 v L.length (genVals L) ∧ w.grownBy w' v.ownBlock := by
  have hlen : M.length = L.length := hp.length_eq
  rcases ho.2 with ⟨rfl, h0⟩ | ⟨g, cap, cur, rfl, hb, hheap, h1, h2, h3, h4⟩
  · have eM : M = [] := List.eq_nil_of_length_eq_zero h0
    subst eM
    have eL : L = [] := List.eq_nil_of_length_eq_zero (by rw [← hlen]; rfl)
    subst eL
    refine (AnyF.slices_SortFunc_none sortN none 0 (.func (.func 63) #[] #[]) w).mono ?_
    rintro e w' ⟨rfl, rfl⟩
    exact ⟨rfl, World.ownsRow_nil _ _ _ _, World.grownBy.refl _ _⟩
  · have hrow : RowAt w g 32 (genVals M) := ⟨cur, hheap, by rw [genVals_len]; exact h4⟩
    have eg : ∀ args w, (callFunc 63 args).run Tryz.prog w = .ok (.enter 63 args) w := enters_of Tryz.func63 (by kernel_rfl) rfl
    have hS := AnyQ.slices_SortFunc sortN 8 sortN_agg sortN_size genCells (fun _ => rfl) genCells_one' cfN swoN 63 #[] g 0 cap M.toArray w eg (cmpLaysN g 0 _ w) (holds_gen hrow) hrow.size (by simp; omega)
    refine Calls.mono hS fun e w' ⟨he, d', n, os, hperm, hsort, hw⟩ => ?_
    have hsz : M.toArray.size = M.length := by simp
    have hds : d'.size = M.length := hperm.1.trans hsz
    have hp1 : d'.toList.Perm M := by
      have h := hperm.2.2
      rw [hsz] at h
      have e1 : d'.extract 0 M.length = d' := by rw [← hds]; simp
      have e2 : M.toArray.extract 0 M.length = M.toArray := by simp
      rw [e1, e2] at h
      simpa using h
    have hsd : d'.toList.Pairwise fun a b => a.2 ≤ b.2 := by
      rw [List.pairwise_iff_getElem]
      intro i j hi hj hij
      simp only [Array.length_toList] at hi hj
      have h1 := hsort i j (Nat.zero_le _) hij (by rw [hsz]; omega)
      rw [ltN, getElem!_pos d' j hj, getElem!_pos d' i hi] at h1
      simp only [Array.getElem_toList]
      simp only [decide_eq_false_iff_not] at h1
      omega
    have hd : d'.toList = L := sorted_one (hp1.trans hp) hsd hL
    have hd' : d' = L.toArray := by rw [← hd]
    subst hd'
    obtain ⟨cs', hb', hcs⟩ := sortWorldK_blk2 (g := g) (m := n) (d := L.toArray) (os := os) (t := 32) (cs := cur) (w := w) hheap
    have hH' : HoldsK genCells 8 (sortWorldK genCells 8 w g 0 n L.toArray os) g 0 L.toArray := holdsK_sortWorldK genCells 8 w g 0 n M.toArray L.toArray os hrow.size (holds_gen hrow) hds
    obtain ⟨cs2, hb2, ht⟩ := row_gen hb' hH'
    have e2 : cs2 = cs' := by
      have := hb2.symm.trans hb'
      injection this with this
      injection this
    subst e2
    rw [genVals_len] at ht
    subst hw
    refine ⟨he, ⟨genVals_len L, .inr ⟨g, cap, cs2, by simp [hlen], hb, hb2, by omega, h2, by omega, ht⟩⟩, sortWorldK_grown w g n _ os⟩
set_option maxHeartbeats 1000000 in
theorem cGens (F : Nat → Prop) (p N : Nat) (C : CV) (w : World) (h : CatAt F w p N C) (hN : N ≤ 100000) :
    Calls Tryz.prog 31 #[.pointer (some ⟨p, 0, none⟩)] w fun e w' => ∃ v, e = .returned v ∧ w'.ownsRow (w.heap.size + 1) 32 8 v C.begun.length (genVals C.begun) ∧ Below w.heap.size w w' := by
  have hb : C.begun.Pairwise fun a b => a.2 < b.2 := by
    obtain ⟨sv, tv, SR, ER, be, bb, br, hr⟩ := h
    exact hr.wf.gens
  refine cGens0 F p N C w h hN _ fun v n M w1 hp hn hnN ho hbl => ?_
  subst hn
  refine (sortGens C.begun M hb hp (by omega) _ v w1 ho).mono ?_
  rintro e w2 ⟨rfl, ho2, hg⟩
  refine ⟨rfl, v, rfl, ho2, hbl.grown hg hbl.size fun q hq => ?_⟩
  have := (ho.lt q hq).1
  omega
end Go.Proofs.YtmkccblcmiflfaaGreat

namespace Go.Proofs.YtmkccblcmiflfaaGreat
open Go.RowKit Go.Maps Go.WideMaps

theorem idxP_get {α : Type} {p : α → Bool} : ∀ {l : List α} {i : Nat}, idxP p l = (i : Int) → ∃ x, l[i]? = some x ∧ p x = true
  | [], i, h => by simp [idxP] at h
  | y :: l, i, h => by
    by_cases hy : p y = true
    · simp only [idxP, hy, if_true] at h
      obtain rfl : i = 0 := by omega
      exact ⟨y, rfl, hy⟩
    · by_cases hn : idxP p l < 0
      · simp only [idxP, hy, hn, if_true, Bool.false_eq_true, if_false] at h; omega
      · simp only [idxP, hy, hn, Bool.false_eq_true, if_false] at h
        obtain ⟨j, hj⟩ := Int.eq_ofNat_of_zero_le (show 0 ≤ idxP p l by omega)
        obtain ⟨x, h1, h2⟩ := idxP_get hj
        obtain rfl : i = j + 1 := by omega
        exact ⟨x, by simpa using h1, h2⟩
section
set_option maxHeartbeats 2000000
/-- What is told of a blob's bytes. -/
def DataTold (C : CV) (key : Str) (w w' : World) (e : Ending) : Prop :=
  (hasL C.staged key = false ∧ e = .returned (.tuple #[.slice none 0 0, .bool false])) ∨
  ∃ (d : Str) (v : Value), (∃ i : Nat, waitsC C key = (i : Int) ∧ C.staged[i]? = some (key, d)) ∧ d.length ≤ 512 ∧ e = .returned (.tuple #[v, .bool true]) ∧ OutAt w w' 5 v d.length (byteVals d)
theorem cData (F : Nat → Prop) (p N : Nat) (C : CV) (key : Str) (w : World) (h : CatAt F w p N C) :
    Calls Tryz.prog 16 #[.pointer (some ⟨p, 0, none⟩), encStr key] w fun e w' => DataTold C key w w' e ∧ Below w.heap.size w w' := by
  have H := Lib.hid h
  obtain ⟨sv, tv, SR, ER, be, bb, br, hr⟩ := h
  rcases Int.lt_or_le (waitsC C key) 0 with hw0 | hw0
  · have d1 : decide (waitsC C key < 0) = true := by simpa using hw0
    have HS := Lib.hid ((waitsC_neg C key).1 hw0)
    have hi := idxP_ge (isKey key) C.staged
    clear hw0 hr
    go_enter Tryz.func16, Tryz.ntmps16
    go_wp2_with (go_at_call 32; refine (cWaits F p N C key _ (by exact H.out)).mono ?_; rintro e w1 ⟨rfl, hb1⟩; have B1 := Lib.hid hb1; clear hb1)
    go_ret2
    exact ⟨.inl ⟨HS.out, rfl⟩, B1.out⟩
  · obtain ⟨i, hi⟩ := Int.eq_ofNat_of_zero_le hw0
    obtain ⟨q, hq, hk⟩ := idxP_get hi
    obtain ⟨qk, d⟩ := q
    have hk' : qk = key := by simpa [isKey] using hk
    subst hk'
    have hst := hr.stgs
    have hq' := hq
    rw [← hst, List.getElem?_map] at hq'
    obtain ⟨r, hr1, hr2⟩ := Option.map_eq_some_iff.1 hq'
    obtain ⟨rk, A, n, c, rd⟩ := r
    injection hr2 with e1 e2
    simp only at e1 e2
    subst e1 e2
    have hBO : Bys w 0 A n c rd := (hr.blobs _ (List.mem_of_getElem? hr1)).1
    have hd := (hr.wf.keys _ (List.mem_of_getElem? hq)).2.2
    have hn : rd.length = n := hBO.len
    have hlt : i < C.staged.length := (List.getElem?_eq_some_iff.1 hq).1
    obtain ⟨B, c0, rfl, hnc, hcm, hB⟩ := own_form hr.stg.1
    obtain ⟨g, rfl⟩ : ∃ g, B = some ⟨g, 0, none⟩ := by
      rcases hB with ⟨_, h, _⟩ | h
      · omega
      · exact h
    have ld0 : w.cell? ⟨p, 0, none⟩ = some (.slice (some ⟨g, 0, none⟩) C.staged.length c0) := hr.blk.cell 0
    have ld1 : w.cell? ⟨g, i * 2 + 1, none⟩ = some (.slice A n c) := hr.stg.row.cell (blobVals_get hr1).2
    have hp := hr.blk.size
    have hg : g < w.heap.size := (hr.stg.1.lt g rfl).2
    have d1 : decide (waitsC C rk < 0) = false := by simpa using hw0
    have HI := Lib.hid (show ∃ i : Nat, waitsC C rk = (i : Int) ∧ C.staged[i]? = some (rk, rd) from ⟨i, hi, hq⟩)
    have HB := Lib.hid hBO
    have hi' : waitsC C rk = (i : Int) := hi
    have HN := Lib.hid hn
    have HD := Lib.hid hd
    have hn512 : n ≤ 512 := by simp only at hd; omega
    clear hq hq' hst hr1 hr hBO hi hd hn hk
    rw [hi'] at d1
    generalize C.staged.length = sn at *
    go_enter Tryz.func16, Tryz.ntmps16
    go_wp2_with (first
      | (go_at_call 32; refine (cWaits F p N C rk _ (by exact H.out)).mono ?_; rintro e w1 ⟨rfl, hb1⟩; have B1 := Lib.hid hb1; rw [hi']; have ld0 := (hb1.cell (p := ⟨p, 0, none⟩) hp).trans ld0; have ld1 := (hb1.cell (p := ⟨g, i * 2 + 1, none⟩) hg).trans ld1; have hz1 := hb1.size; clear hb1)
      | (go_at_call 30; refine (bclone A n c rd _ HB.out.form (by omega) (BytesIn.keep HB.out.bytes (by simpa using B1.out.size) (fun b off _ hb => B1.out.block b hb))).mono ?_; rintro e w2 ⟨B2, k2, rfl, ho2, hb2⟩; have O2 := Lib.hid ho2; have B2' := Lib.hid (B1.out.trans (hb2.mono hz1)); clear ho2 hb2)
      | (go_at_call 49; refine (bclip _ B2 n k2 rd _ O2.out).mono ?_; rintro e w3 ⟨rfl, rfl⟩))
    go_ret2
    exact ⟨.inr ⟨rd, _, HI.out, HD.out, rfl, by rw [HN.out]; exact (OutAt.of_own O2.out).old hz1⟩, B2'.out⟩
end
end Go.Proofs.YtmkccblcmiflfaaGreat

namespace Go.Proofs.YtmkccblcmiflfaaGreat
open Go.RowKit Go.Maps Go.WideMaps

/-- An entry that a call hands out. -/
def EntOut (w0 w : World) (k : Str) (e : EntV) (v : Value) : Prop :=
  ∃ B, v = .agg #[encStr k, .int .i64 e.gen, .int .i64 e.size, encStr e.sum, .slice B e.places.length e.places.length] ∧ OutAt w0 w 95 (.slice B e.places.length e.places.length) e.places.length (placeVals e.places)
def zeroV : EntV := ⟨0, 0, [], []⟩
section
set_option maxHeartbeats 2000000
set_option maxRecDepth 8000
theorem cCopied (k : Str) (e : EntV) (A : Option Addr) (n c : Nat) (w : World) (hf : Form A n c) (hm : n ≤ 1000000) (hp : PlacesIn w A n e.places) :
    Calls Tryz.prog 47 #[.agg #[encStr k, .int .i64 e.gen, .int .i64 e.size, encStr e.sum, .slice A n c]] w fun en w' => ∃ v, en = .returned v ∧ EntOut w w' k e v ∧ Below w.heap.size w w' := by
  have HP := Lib.hid hp
  have HF := Lib.hid hf
  clear hp hf
  go_enter Tryz.func47, Tryz.ntmps47
  go_wp2_with (first
    | (go_at_call 72; refine (pclone A n c e.places _ HF.out hm (by exact ⟨HP.out.1, (HP.out.2.below ((Below.refl _ _).alloc (Nat.le_refl _) _)).below ((Below.refl _ _).alloc (Nat.le_refl _) _)⟩)).mono ?_; rintro en w1 ⟨B1, k1, rfl, ho1, hb1⟩; have BE := Lib.hid (show Blk w1 w.heap.size 43 #[encStr k, .int .i64 e.gen, .int .i64 e.size, encStr e.sum, .slice A n c] from Blk.below (Blk.alloc (heap_alloc_new w _) _) hb1 (by simp; omega)); have k0 : w1.cell? ⟨w.heap.size, 0, none⟩ = some (encStr k) := BE.out.cell 0; have k1' : w1.cell? ⟨w.heap.size, 1, none⟩ = some (.int .i64 e.gen) := BE.out.cell 1; have k2' : w1.cell? ⟨w.heap.size, 2, none⟩ = some (.int .i64 e.size) := BE.out.cell 2; have k3' : w1.cell? ⟨w.heap.size, 3, none⟩ = some (encStr e.sum) := BE.out.cell 3; have k4' : w1.cell? ⟨w.heap.size, 4, none⟩ = some (.slice A n c) := BE.out.cell 4; have f4 : w1.frozen? ⟨w.heap.size, 4, none⟩ = false := BE.out.free 4; have BR := Lib.hid (show Blk w1 (w.heap.size + 1) 43 #[.string ⟨#[]⟩, .int .i64 0, .int .i64 0, .string ⟨#[]⟩, .slice none 0 0] from by have h := Blk.below (heap_alloc_new (w.alloc (.cells #[encStr k, .int .i64 e.gen, .int .i64 e.size, encStr e.sum, .slice A n c] 43)) (.cells #[.string ⟨#[]⟩, .int .i64 0, .int .i64 0, .string ⟨#[]⟩, .slice none 0 0] 43)) hb1 (by simp); rw [World.size_alloc] at h; exact h); have m0 : w1.cell? ⟨w.heap.size + 1, 0, none⟩ = some (.string ⟨#[]⟩) := BR.out.cell 0; have mf0 : w1.frozen? ⟨w.heap.size + 1, 0, none⟩ = false := BR.out.free 0; have m1 : w1.cell? ⟨w.heap.size + 1, 1, none⟩ = some (.int .i64 0) := BR.out.cell 1; have mf1 : w1.frozen? ⟨w.heap.size + 1, 1, none⟩ = false := BR.out.free 1; have m2 : w1.cell? ⟨w.heap.size + 1, 2, none⟩ = some (.int .i64 0) := BR.out.cell 2; have mf2 : w1.frozen? ⟨w.heap.size + 1, 2, none⟩ = false := BR.out.free 2; have m3 : w1.cell? ⟨w.heap.size + 1, 3, none⟩ = some (.string ⟨#[]⟩) := BR.out.cell 3; have mf3 : w1.frozen? ⟨w.heap.size + 1, 3, none⟩ = false := BR.out.free 3; have m4 : w1.cell? ⟨w.heap.size + 1, 4, none⟩ = some (.slice none 0 0) := BR.out.cell 4; have mf4 : w1.frozen? ⟨w.heap.size + 1, 4, none⟩ = false := BR.out.free 4; have O1 := Lib.hid ho1; have HB1 := Lib.hid hb1; obtain ⟨B1', c1', e1, hn1, hc1, hB1⟩ := own_form ho1; cases e1; clear ho1 hb1)
    | (go_at_call 82; refine (clip_place B1 _ k1 _ hn1 hc1 hB1).mono ?_; rintro en w2 ⟨rfl, rfl⟩))
  clear k0 k1' k2' k3' k4' f4 m0 mf0 m1 mf1 m2 mf2 m3 mf3 m4 mf4 BE
  obtain ⟨w3, hw3⟩ : ∃ w3 : World, w3 = ((((((w1.setCell ⟨w.heap.size, 4, none⟩ (.slice B1 n n)).setCell ⟨w.heap.size + 1, 0, none⟩ (encStr k)).setCell ⟨w.heap.size + 1, 1, none⟩ (.int .i64 e.gen)).setCell ⟨w.heap.size + 1, 2, none⟩ (.int .i64 e.size)).setCell ⟨w.heap.size + 1, 3, none⟩ (encStr e.sum)).setCell ⟨w.heap.size + 1, 4, none⟩ (.slice B1 n n)) := ⟨_, rfl⟩
  have hchg : Chg (fun q => q = w.heap.size ∨ q = w.heap.size + 1) w1 w3 := by
    rw [hw3]
    exact ((((((Chg.refl _ w1).store (.inl (.inl rfl)) _).store (.inl (.inr rfl)) _).store (.inl (.inr rfl)) _).store (.inl (.inr rfl)) _).store (.inl (.inr rfl)) _).store (.inl (.inr rfl)) _
  have hblk : Blk w3 (w.heap.size + 1) 43 #[encStr k, .int .i64 e.gen, .int .i64 e.size, encStr e.sum, .slice B1 n n] := by
    rw [hw3]
    exact (((((BR.out.apart (p := ⟨w.heap.size, 4, none⟩) (by simp) _).store 0 _).store 1 _).store 2 _).store 3 _).store 4 _
  have hz1 : w.heap.size + 2 ≤ w1.heap.size := by have := HB1.out.size; simpa using this
  have hbl1 : Below w.heap.size w w1 := (((Below.refl _ w).alloc (Nat.le_refl _) _).alloc (by simp) _).trans (HB1.out.mono (by simp; omega))
  have hbl : Below w.heap.size w w3 := hbl1.trans (hchg.below (by omega) (fun i hi => by omega))
  have hn : e.places.length = n := HP.out.1
  have hout : OutAt w w3 95 (.slice B1 n n) n (placeVals e.places) := by
    rcases OutAt.of_own (w0 := ((w.alloc _).alloc _)) O1.out with h | ⟨g, h1, h2, h3⟩
    · exact .inl h
    · have h2' : w.heap.size + 2 ≤ g := by simpa using h2
      exact .inr ⟨g, h1, by omega, h3.of_eq (hchg.block g h3.size (by omega))⟩
  clear O1 HB1 BR hchg hbl1
  change bodyPost _ _ _ _ _ ((((((w1.setCell ⟨w.heap.size, 4, none⟩ (.slice B1 n n)).setCell ⟨w.heap.size + 1, 0, none⟩ (encStr k)).setCell ⟨w.heap.size + 1, 1, none⟩ (.int .i64 e.gen)).setCell ⟨w.heap.size + 1, 2, none⟩ (.int .i64 e.size)).setCell ⟨w.heap.size + 1, 3, none⟩ (encStr e.sum)).setCell ⟨w.heap.size + 1, 4, none⟩ (.slice B1 n n))
  rw [← hw3]
  clear hw3
  refine bodyPost_ret (results_cell_row rfl _ w3 (w.heap.size + 1) 43 _ (0, 0) _ rfl hblk Tryz.underlying43 rfl (by kernel_rfl)) rfl ?_
  refine ⟨_, rfl, ⟨B1, ?_, ?_⟩, hbl⟩
  · rw [hn]
  · rw [hn]; exact hout
/-- What is told of an entry. -/
def entC (C : CV) (key : Str) : EntV := getL zeroV C.entries key
def EntTold (C : CV) (key : Str) (w w' : World) (e : Ending) : Prop :=
  ∃ v, e = .returned (.tuple #[v, .bool (hasL C.entries key)]) ∧ EntOut w w' (if hasL C.entries key then key else []) (entC C key) v
theorem getR {ER : List EntR} {E : List (Str × EntV)} (h : ER.map (fun r => (r.key, r.e)) = E) (key : Str) (hh : hasL E key = true) :
    ∃ r ∈ ER, r.key = key ∧ r.e = getL zeroV E key ∧ getL zeroEnt (entVals ER) key = entVal r := by
  subst h
  induction ER with
  | nil => cases hh
  | cons r ER ih =>
    by_cases hk : r.key = key
    · exact ⟨r, by simp, hk, by simp [getL, hk], by simp [getL, entVals, hk]⟩
    · have hh' : hasL (ER.map fun r => (r.key, r.e)) key = true := by simpa [hasL, hk] using hh
      obtain ⟨r', h1, h2, h3, h4⟩ := ih hh'
      refine ⟨r', by simp [h1], h2, ?_, ?_⟩
      · rw [h3]; simp [getL, hk]
      · rw [← h4]; simp [getL, entVals, hk]
theorem cEntry (F : Nat → Prop) (p N : Nat) (C : CV) (key : Str) (w : World) (h : CatAt F w p N C) (hk : key.length ≤ maxLen) :
    Calls Tryz.prog 17 #[.pointer (some ⟨p, 0, none⟩), encStr key] w fun e w' => EntTold C key w w' e ∧ Below w.heap.size w w' := by
  obtain ⟨sv, tv, SR, ER, be, bb, br, hr⟩ := h
  have c1 : w.cell? ⟨p, 1, none⟩ = some (.map (some be)) := hr.blk.cell 1
  have hpz : p < w.heap.size := hr.blk.size
  obtain ⟨W0, hW0⟩ : ∃ W0 : World, W0 = w.alloc (.cells #[.string ⟨#[]⟩, .int .i64 0, .int .i64 0, .string ⟨#[]⟩, .slice none 0 0] 43) := ⟨_, rfl⟩
  have hlk := (hr.below (w' := W0) (by rw [hW0]; exact (Below.refl _ w).alloc (Nat.le_refl _) _)).lookE hk
  rw [hW0] at hlk
  obtain ⟨k, ev, A, n, c, hg, hkk, hev, hf, hm, hp⟩ : ∃ k ev A n c, getL zeroEnt (entVals ER) key = .agg #[encStr k, .int .i64 ev.gen, .int .i64 ev.size, encStr ev.sum, .slice A n c] ∧ k = (if hasL C.entries key then key else []) ∧ ev = entC C key ∧ Form A n c ∧ n ≤ 1000000 ∧ PlacesIn w A n ev.places := by
    cases hE : hasL C.entries key with
    | false =>
      refine ⟨[], zeroV, none, 0, 0, ?_, by simp, ?_, ⟨Nat.le_refl _, Nat.zero_le _, fun _ => ⟨rfl, rfl⟩⟩, Nat.zero_le _, rfl, .inl ⟨rfl, rfl⟩⟩
      · rw [getL_no _ (by rw [hasL_ents hr.entr]; exact hE)]; rfl
      · exact (getL_no _ hE).symm
    | true =>
      obtain ⟨r, h1, h2, h3, h4⟩ := getR hr.entr key hE
      have hok := orow_src (hr.entb r h1)
      have hw := hr.wf.ents (r.key, r.e) (by rw [← hr.entr]; exact List.mem_map.2 ⟨r, h1, rfl⟩)
      have hlen : r.e.places.length = r.n := by
        have := (hr.entb r h1).1.1
        rw [placeVals_len] at this
        omega
      refine ⟨r.key, r.e, r.A, r.n, r.c, h4, by simp [h2], h3, hok.2, ?_, hlen, hok.1⟩
      have h7 := hw.2.2.2.2.2.2.1
      have h6 := hw.2.2.2.2.2.1
      simp only at h7 h6
      omega
  rw [hg] at hlk
  have HP := Lib.hid hp
  have HF := Lib.hid hf
  have HK := Lib.hid hkk
  have HE := Lib.hid hev
  clear hr hg hp hf hkk hev
  generalize hgb : hasL C.entries key = hb at hlk
  have HGB := Lib.hid hgb
  clear hgb
  go_enter Tryz.func17, Tryz.ntmps17
  go_wp2_with (go_at_call 47; refine (cCopied k ev A n c _ HF.out hm (by exact ⟨HP.out.1, (HP.out.2.below ((Below.refl _ _).alloc (Nat.le_refl _) _)).below ((Below.refl _ _).alloc (Nat.le_refl _) _)⟩)).mono ?_; rintro en w1 ⟨v, rfl, ⟨B1, rfl, ho1⟩, hb1⟩; have BR := Lib.hid (show Blk w1 w.heap.size 43 #[.string ⟨#[]⟩, .int .i64 0, .int .i64 0, .string ⟨#[]⟩, .slice none 0 0] from Blk.below (Blk.alloc (heap_alloc_new w _) _) hb1 (by simp; omega)); have m0 : w1.cell? ⟨w.heap.size, 0, none⟩ = some (.string ⟨#[]⟩) := BR.out.cell 0; have mf0 : w1.frozen? ⟨w.heap.size, 0, none⟩ = false := BR.out.free 0; have m1 : w1.cell? ⟨w.heap.size, 1, none⟩ = some (.int .i64 0) := BR.out.cell 1; have mf1 : w1.frozen? ⟨w.heap.size, 1, none⟩ = false := BR.out.free 1; have m2 : w1.cell? ⟨w.heap.size, 2, none⟩ = some (.int .i64 0) := BR.out.cell 2; have mf2 : w1.frozen? ⟨w.heap.size, 2, none⟩ = false := BR.out.free 2; have m3 : w1.cell? ⟨w.heap.size, 3, none⟩ = some (.string ⟨#[]⟩) := BR.out.cell 3; have mf3 : w1.frozen? ⟨w.heap.size, 3, none⟩ = false := BR.out.free 3; have m4 : w1.cell? ⟨w.heap.size, 4, none⟩ = some (.slice none 0 0) := BR.out.cell 4; have mf4 : w1.frozen? ⟨w.heap.size, 4, none⟩ = false := BR.out.free 4; have O1 := Lib.hid ho1; have HB1 := Lib.hid hb1; clear ho1 hb1)
  clear m0 mf0 m1 mf1 m2 mf2 m3 mf3 m4 mf4
  obtain ⟨w3, hw3⟩ : ∃ w3 : World, w3 = ((((w1.setCell ⟨w.heap.size, 0, none⟩ (encStr k)).setCell ⟨w.heap.size, 1, none⟩ (.int .i64 ev.gen)).setCell ⟨w.heap.size, 2, none⟩ (.int .i64 ev.size)).setCell ⟨w.heap.size, 3, none⟩ (encStr ev.sum)).setCell ⟨w.heap.size, 4, none⟩ (.slice B1 ev.places.length ev.places.length) := ⟨_, rfl⟩
  have hchg : Chg (fun q => q = w.heap.size) w1 w3 := by
    rw [hw3]
    exact (((((Chg.refl (fun q => q = w.heap.size) w1).store (p := ⟨w.heap.size, 0, none⟩) (.inl rfl) _).store (.inl rfl) _).store (.inl rfl) _).store (.inl rfl) _).store (.inl rfl) _
  have hblk : Blk w3 w.heap.size 43 #[encStr k, .int .i64 ev.gen, .int .i64 ev.size, encStr ev.sum, .slice B1 ev.places.length ev.places.length] := by
    rw [hw3]
    exact ((((BR.out.store 0 _).store 1 _).store 2 _).store 3 _).store 4 _
  have hz1 : w.heap.size + 2 ≤ w1.heap.size := by have := HB1.out.size; simpa using this
  have hbl1 : Below w.heap.size w w1 := (((Below.refl _ w).alloc (Nat.le_refl _) _).alloc (by simp) _).trans (HB1.out.mono (by simp; omega))
  have hbl : Below w.heap.size w w3 := hbl1.trans (hchg.below (by omega) (fun i hi => by omega))
  have hout : OutAt w w3 95 (.slice B1 ev.places.length ev.places.length) ev.places.length (placeVals ev.places) := by
    rcases O1.out with h | ⟨g, h1, h2, h3⟩
    · exact .inl h
    · have h2' : w.heap.size + 2 ≤ g := by simpa using h2
      exact .inr ⟨g, h1, by omega, h3.of_eq (hchg.block g h3.size (by omega))⟩
  clear O1 HB1 BR hchg hbl1
  change bodyPost _ _ _ _ _ (((((w1.setCell ⟨w.heap.size, 0, none⟩ (encStr k)).setCell ⟨w.heap.size, 1, none⟩ (.int .i64 ev.gen)).setCell ⟨w.heap.size, 2, none⟩ (.int .i64 ev.size)).setCell ⟨w.heap.size, 3, none⟩ (encStr ev.sum)).setCell ⟨w.heap.size, 4, none⟩ (.slice B1 ev.places.length ev.places.length))
  rw [← hw3]
  have q0 : w3.cell? ⟨w.heap.size, 0, none⟩ = some (encStr k) := hblk.cell 0
  have q1 : w3.cell? ⟨w.heap.size, 1, none⟩ = some (.int .i64 ev.gen) := hblk.cell 1
  have q2 : w3.cell? ⟨w.heap.size, 2, none⟩ = some (.int .i64 ev.size) := hblk.cell 2
  have q3 : w3.cell? ⟨w.heap.size, 3, none⟩ = some (encStr ev.sum) := hblk.cell 3
  have q4 : w3.cell? ⟨w.heap.size, 4, none⟩ = some (.slice B1 ev.places.length ev.places.length) := hblk.cell 4
  clear hw3
  refine bodyPost_ret (v := .tuple #[.agg #[encStr k, .int .i64 ev.gen, .int .i64 ev.size, encStr ev.sum, .slice B1 ev.places.length ev.places.length], .bool hb]) ?_ rfl ⟨⟨_, by rw [HGB.out], ?_⟩, hbl⟩
  · rw [results_cell_tmp rfl]
    go_simp
  · rw [← HK.out, ← HE.out]
    exact ⟨B1, rfl, hout⟩
end
end Go.Proofs.YtmkccblcmiflfaaGreat

namespace Go.Proofs.YtmkccblcmiflfaaGreat
open Go.RowKit Go.Maps Go.WideMaps Go.Sort Go.Shelf

def keysE_ren : Go.Shelf.Ren := ⟨fun | 7 => 46 | 10 => 81 | n => n, fun | 23 => 63 | 26 => 9 | 3 => 43 | 28 => 83 | 0 => 0 | 27 => 82 | 33 => 46 | 4 => 4 | n => n, fun | n => n⟩
theorem keysE : Go.Proofs.SlLaysZ.n7 Tryz.prog keysE_ren := {
  mixed := by kernel_rfl
  f7 := ⟨Tryz.f46.name, by decide, Tryz.func46.trans (congrArg some (by kernel_rfl))⟩
  f10 := ⟨Tryz.f81.name, by decide, Tryz.func81.trans (congrArg some (by kernel_rfl))⟩
  t0 := Tryz.underlying0
  a0 := Tryz.isAgg0
  z0 := Tryz.sizeOf0
  v0 := Tryz.zeroValue0
  t4 := Tryz.underlying4
  a4 := Tryz.isAgg4
  z4 := Tryz.sizeOf4
  v4 := Tryz.zeroValue4
  t23 := Tryz.underlying63
  a23 := Tryz.isAgg63
  z23 := Tryz.sizeOf63
  v23 := Tryz.zeroValue63
  t26 := Tryz.underlying9
  a26 := Tryz.isAgg9
  z26 := Tryz.sizeOf9
  v26 := Tryz.zeroValue9
  t27 := Tryz.underlying82
  a27 := Tryz.isAgg82
  z27 := Tryz.sizeOf82
  v27 := Tryz.zeroValue82
  t28 := Tryz.underlying83
  a28 := Tryz.isAgg83
  z28 := Tryz.sizeOf83
  v28 := Tryz.zeroValue83
  t33 := Tryz.underlying46
  a33 := Tryz.isAgg46
  z33 := Tryz.sizeOf46
  v33 := Tryz.zeroValue46 }
def sortedE_ren : Go.Shelf.Ren := ⟨fun | 6 => 45 | 8 => 80 | 9 => 43 | 11 => 98 | 13 => 79 | 12 => 78 | 23 => 96 | 24 => 97 | 14 => 87 | 15 => 88 | 16 => 89 | 17 => 90 | 18 => 91 | 19 => 92 | 20 => 93 | 21 => 94 | 22 => 95 | 25 => 116 | 26 => 117 | 27 => 118 | 28 => 119 | 29 => 120 | 30 => 121 | 31 => 128 | n => n, fun | 26 => 9 | 28 => 83 | 24 => 36 | 0 => 0 | 3 => 3 | 37 => 112 | 48 => 125 | 50 => 127 | 4 => 4 | 40 => 118 | 39 => 117 | 45 => 105 | 5 => 5 | 9 => 9 | 51 => 140 | 55 => 144 | 57 => 150 | 58 => 151 | 33 => 46 | n => n, fun | n => n⟩
theorem sortedE : Go.Proofs.SlLaysZ.n6 Tryz.prog sortedE_ren := {
  mixed := by kernel_rfl
  f6 := ⟨Tryz.f45.name, by decide, Tryz.func45.trans (congrArg some (by kernel_rfl))⟩
  f8 := ⟨Tryz.f80.name, by decide, Tryz.func80.trans (congrArg some (by kernel_rfl))⟩
  f11 := ⟨Tryz.f98.name, by decide, Tryz.func98.trans (congrArg some (by kernel_rfl))⟩
  t0 := Tryz.underlying0
  a0 := Tryz.isAgg0
  z0 := Tryz.sizeOf0
  v0 := Tryz.zeroValue0
  t24 := Tryz.underlying36
  a24 := Tryz.isAgg36
  z24 := Tryz.sizeOf36
  v24 := Tryz.zeroValue36
  t26 := Tryz.underlying9
  a26 := Tryz.isAgg9
  z26 := Tryz.sizeOf9
  v26 := Tryz.zeroValue9
  t28 := Tryz.underlying83
  a28 := Tryz.isAgg83
  z28 := Tryz.sizeOf83
  v28 := Tryz.zeroValue83
  i26 := by kernel_rfl }
def sortE_ren : Go.Shelf.Ren := ⟨fun | 6 => 43 | 8 => 79 | 9 => 78 | 19 => 96 | 20 => 97 | 21 => 87 | 22 => 88 | 23 => 89 | 24 => 90 | 25 => 91 | 26 => 92 | 27 => 93 | 28 => 94 | 29 => 95 | 36 => 116 | 31 => 117 | 32 => 118 | 37 => 119 | 38 => 120 | 39 => 121 | 41 => 128 | n => n, fun | 27 => 36 | 29 => 9 | 3 => 3 | 32 => 112 | 26 => 36 | 0 => 0 | 44 => 125 | 46 => 127 | 4 => 4 | 36 => 118 | 35 => 117 | 41 => 105 | 5 => 5 | 9 => 9 | 53 => 140 | 57 => 144 | 63 => 150 | 64 => 151 | n => n, fun | n => n⟩
theorem sortE : Go.Proofs.SlLaysM.n6 Tryz.prog sortE_ren := {
  mixed := by kernel_rfl
  f6 := ⟨Tryz.f43.name, by decide, Tryz.func43.trans (congrArg some (by kernel_rfl))⟩
  f8 := Tryz.func79.trans (congrArg some (by kernel_rfl))
  f9 := ⟨Tryz.f78.name, by decide, Tryz.func78.trans (congrArg some (by kernel_rfl))⟩
  f19 := Tryz.func96.trans (congrArg some (by kernel_rfl))
  f20 := Tryz.func97.trans (congrArg some (by kernel_rfl))
  f21 := ⟨Tryz.f87.name, by decide, Tryz.func87.trans (congrArg some (by kernel_rfl))⟩
  f22 := ⟨Tryz.f88.name, by decide, Tryz.func88.trans (congrArg some (by kernel_rfl))⟩
  f23 := ⟨Tryz.f89.name, by decide, Tryz.func89.trans (congrArg some (by kernel_rfl))⟩
  f24 := ⟨Tryz.f90.name, by decide, Tryz.func90.trans (congrArg some (by kernel_rfl))⟩
  f25 := ⟨Tryz.f91.name, by decide, Tryz.func91.trans (congrArg some (by kernel_rfl))⟩
  f26 := ⟨Tryz.f92.name, by decide, Tryz.func92.trans (congrArg some (by kernel_rfl))⟩
  f27 := ⟨Tryz.f93.name, by decide, Tryz.func93.trans (congrArg some (by kernel_rfl))⟩
  f28 := ⟨Tryz.f94.name, by decide, Tryz.func94.trans (congrArg some (by kernel_rfl))⟩
  f29 := ⟨Tryz.f95.name, by decide, Tryz.func95.trans (congrArg some (by kernel_rfl))⟩
  f31 := Tryz.func117.trans (congrArg some (by kernel_rfl))
  f32 := Tryz.func118.trans (congrArg some (by kernel_rfl))
  f36 := ⟨Tryz.f116.name, by decide, Tryz.func116.trans (congrArg some (by kernel_rfl))⟩
  f37 := ⟨Tryz.f119.name, by decide, Tryz.func119.trans (congrArg some (by kernel_rfl))⟩
  f38 := ⟨Tryz.f120.name, by decide, Tryz.func120.trans (congrArg some (by kernel_rfl))⟩
  f39 := ⟨Tryz.f121.name, by decide, Tryz.func121.trans (congrArg some (by kernel_rfl))⟩
  f41 := ⟨Tryz.f128.name, by decide, Tryz.func128.trans (congrArg some (by kernel_rfl))⟩
  t0 := Tryz.underlying0
  a0 := Tryz.isAgg0
  z0 := Tryz.sizeOf0
  v0 := Tryz.zeroValue0
  t3 := Tryz.underlying3
  a3 := Tryz.isAgg3
  z3 := Tryz.sizeOf3
  v3 := Tryz.zeroValue3
  t4 := Tryz.underlying4
  a4 := Tryz.isAgg4
  z4 := Tryz.sizeOf4
  v4 := Tryz.zeroValue4
  t5 := Tryz.underlying5
  a5 := Tryz.isAgg5
  z5 := Tryz.sizeOf5
  v5 := Tryz.zeroValue5
  t9 := Tryz.underlying9
  a9 := Tryz.isAgg9
  z9 := Tryz.sizeOf9
  v9 := Tryz.zeroValue9
  t26 := Tryz.underlying36
  a26 := Tryz.isAgg36
  z26 := Tryz.sizeOf36
  v26 := Tryz.zeroValue36
  t27 := Tryz.underlying36
  a27 := Tryz.isAgg36
  z27 := Tryz.sizeOf36
  v27 := Tryz.zeroValue36
  t29 := Tryz.underlying9
  a29 := Tryz.isAgg9
  z29 := Tryz.sizeOf9
  v29 := Tryz.zeroValue9
  t32 := Tryz.underlying112
  a32 := Tryz.isAgg112
  z32 := Tryz.sizeOf112
  v32 := Tryz.zeroValue112
  t35 := Tryz.underlying117
  a35 := Tryz.isAgg117
  z35 := Tryz.sizeOf117
  v35 := Tryz.zeroValue117
  t36 := Tryz.underlying118
  a36 := Tryz.isAgg118
  z36 := Tryz.sizeOf118
  v36 := Tryz.zeroValue118
  t41 := Tryz.underlying105
  a41 := Tryz.isAgg105
  z41 := Tryz.sizeOf105
  v41 := Tryz.zeroValue105
  t44 := Tryz.underlying125
  a44 := Tryz.isAgg125
  z44 := Tryz.sizeOf125
  v44 := Tryz.zeroValue125
  t46 := Tryz.underlying127
  a46 := Tryz.isAgg127
  z46 := Tryz.sizeOf127
  v46 := Tryz.zeroValue127
  t53 := Tryz.underlying140
  a53 := Tryz.isAgg140
  z53 := Tryz.sizeOf140
  v53 := Tryz.zeroValue140
  t57 := Tryz.underlying144
  a57 := Tryz.isAgg144
  z57 := Tryz.sizeOf144
  v57 := Tryz.zeroValue144
  t63 := Tryz.underlying150
  a63 := Tryz.isAgg150
  z63 := Tryz.sizeOf150
  v63 := Tryz.zeroValue150
  t64 := Tryz.underlying151
  a64 := Tryz.isAgg151
  z64 := Tryz.sizeOf151
  v64 := Tryz.zeroValue151 }
theorem sortsE (m : Nat) : AnyZ.SortsIn Tryz.prog sortedE_ren Fence.wide m :=
  ⟨fun blk off cap ss W hH hblk hsz => callsIn_wide.2 (AnyM.slices_Sort_string sortE blk off cap ss W hH hblk hsz),
   fun p cap W => callsIn_wide.2 (AnyM.slices_Sort_string_none sortE p cap W)⟩
theorem own_le {w : World} {base base' size n : Nat} {t : TypeId} {v : Value} {xs : List Value} (h : w.ownsRow base t size v n xs) (hb : base' ≤ base) : w.ownsRow base' t size v n xs :=
  ⟨h.1, h.2.imp id fun ⟨g, cap, cur, h1, h2, h3⟩ => ⟨g, cap, cur, h1, Nat.le_trans hb h2, h3⟩⟩
def sortS (l : List Str) : List Str := l.mergeSort leB
theorem sortS_len (l : List Str) : (sortS l).length = l.length := by simp [sortS]
theorem MapAt.perm {z : Value} {w : World} {b N : Nat} {L : List (Str × Value)} (h : MapAt skey z w b N L) : ∃ D, w.ownsMap Tryz.prog 9 anyE b N D ∧ (L.map Prod.fst).Perm (strKeys D) := by
  obtain ⟨⟨D, h1, h2, h3⟩, h4⟩ := h
  refine ⟨D, h1, ?_⟩
  obtain ⟨es, hD, hpw, _⟩ := h1.entries skey.law
  obtain ⟨es', hD', hko⟩ := h1.keysOf
  obtain rfl : es = es' := by rw [hD] at hD'; simpa using hD'
  subst hD
  exact perm_strKeys hpw (fun q hq => by obtain ⟨v, hv⟩ := hko q hq; obtain ⟨x, _, hx, _⟩ := Maps.keyOf_str Tryz.underlying9 hv; exact ⟨x, hx⟩) h4 (fun x => by rw [← hasL_mem, ← h2 x]; rfl)
theorem cKeysE (b : Nat) (W : World) : Calls Tryz.prog 46 #[.map (some b)] W fun e w' => e = .returned (.func (.func 81) #[] #[.pointer (some ⟨W.heap.size, 0, none⟩)]) ∧ w' = W.alloc (.cells #[.map (some b)] 63) :=
  (callsIn_wide (n := 5)).1 (AnyZ.keys_in keysE Fence.wide 5 trivial rfl (some b) W)
set_option maxHeartbeats 1000000 in
theorem cSortedE (z : Value) (b N : Nat) (L : List (Str × Value)) (W : World) (h : MapAt skey z W b N L) (hN : N ≤ 1000000) :
    Calls Tryz.prog 45 #[.func (.func 81) #[] #[.pointer (some ⟨W.heap.size, 0, none⟩)]] (W.alloc (.cells #[.map (some b)] 63)) fun e w' =>
      ∃ B c, e = .returned (.slice B L.length c) ∧ w'.ownsRow W.heap.size 9 1 (.slice B L.length c) L.length (strVals (sortS (L.map Prod.fst))) ∧ Below W.heap.size W w' := by
  obtain ⟨D, hown, hperm⟩ := h.perm
  have hsz : Maps.size D ≤ 1000000 := Nat.le_trans hown.size_le hN
  have hbl := hown.lt
  have hseq : SeqGives Fence.wide 2 Tryz.prog 81 #[.pointer (some ⟨W.heap.size, 0, none⟩)] encStr (fun ss => ss.Perm (strKeys D)) (Maps.size D) (W.alloc (.cells #[.map (some b)] 63)) :=
    AnyZ.keys_gives (ρ := keysE_ren) { keysE with } Fence.wide _ trivial rfl (by omega) W.heap.size b N D _ (by simp) (by simp) (by
      obtain ⟨es, clock, hb, Ft, hs, hD⟩ := hown
      exact ⟨es, clock, (Below.heap_alloc _ _ b hbl).trans hb, Ft, hs, hD⟩)
  have cS := AnyZ.sorted_in sortedE Fence.wide 5 trivial trivial trivial trivial rfl (by omega) (sortsE _) (enters_of Tryz.func43 (by kernel_rfl) rfl) 81 #[.pointer (some ⟨W.heap.size, 0, none⟩)] trivial (enters_of Tryz.func81 (by kernel_rfl) rfl) _ _ (by simp only [maxLen]; omega) (by omega) _ hseq
  refine (callsIn_wide.1 cS).mono ?_
  rintro e w' ⟨v, ss, rfl, hS, hrow, _, hb⟩
  have hss : ss.mergeSort (fun x y => decide (x ≤ y)) = sortS (L.map Prod.fst) := mergeSort_of_perm (hS.trans hperm.symm)
  have hsl : ss.length = L.length := by
    have h1 := (hS.trans hperm.symm).length_eq
    rwa [List.length_map] at h1
  rw [hss, hsl] at hrow
  have hrow' : w'.ownsRow W.heap.size 9 1 v L.length (strVals (sortS (L.map Prod.fst))) := own_le hrow (by simp)
  obtain ⟨B, c, rfl, _⟩ := own_form hrow'
  exact ⟨B, c, rfl, hrow', ((Below.refl _ W).alloc (Nat.le_refl _) _).trans (hb.mono (by simp))⟩
end Go.Proofs.YtmkccblcmiflfaaGreat

namespace Go.Proofs.YtmkccblcmiflfaaGreat
open Go.RowKit Go.Maps Go.WideMaps

theorem entC_info : (Tryz.prog.info? 43).map (fun i => (i.zero, i.size, i.bytes)) = some (some (.agg #[.string ⟨#[]⟩, .int .i64 0, .int .i64 0, .string ⟨#[]⟩, .slice none 0 0]), 5, 72) := by kernel_rfl
/-- An entry that is handed out, where its places lie. -/
structure EntP where
  key : Str
  e : EntV
  B : Option Addr
def EntP.cells (r : EntP) : List Value := [encStr r.key, .int .i64 r.e.gen, .int .i64 r.e.size, encStr r.e.sum, .slice r.B r.e.places.length r.e.places.length]
def entPVals (l : List EntP) : List Value := l.flatMap EntP.cells
theorem entPVals_snoc (l : List EntP) (r : EntP) : entPVals (l ++ [r]) = entPVals l ++ r.cells := by simp [entPVals]
theorem entP_one (r : EntP) : ∀ u ∈ r.cells, u.oneCell' = true := by
  intro u hu
  simp only [EntP.cells, List.mem_cons, List.not_mem_nil, or_false] at hu
  rcases hu with rfl | rfl | rfl | rfl | rfl <;> rfl
def EntPOk (w0 w : World) (r : EntP) : Prop := OutAt w0 w 95 (.slice r.B r.e.places.length r.e.places.length) r.e.places.length (placeVals r.e.places)
theorem EntPOk.below {w0 w w' : World} {r : EntP} (h : EntPOk w0 w r) (hb : Below w.heap.size w w') : EntPOk w0 w' r := OutAt.below h hb
/-- The entries as they are told: by key. -/
def entsC (C : CV) : List (Str × EntV) := (sortS (C.entries.map Prod.fst)).map fun k => (k, entC C k)
structure EntsOut (w0 w : World) (v : Value) (E : List (Str × EntV)) (PL : List EntP) : Prop where
  out : OutAt w0 w 43 v E.length (entPVals PL)
  is : PL.map (fun r => (r.key, r.e)) = E
  ok : ∀ r ∈ PL, EntPOk w0 w r
theorem EntPOk.old {w0 w1 w : World} {r : EntP} (h : EntPOk w1 w r) (hz : w0.heap.size ≤ w1.heap.size) : EntPOk w0 w r := OutAt.old h hz
theorem EntPOk.grown {w0 w w' : World} {r : EntP} {row : Option Nat} (h : EntPOk w0 w r) (hg : w.grownBy w' row) (hr : ∀ g, row = some g → ∃ cs, w.heap[g]? = some (.cells cs 43 (0, 0))) : EntPOk w0 w' r := by
  rcases h with h | ⟨g, h1, h2, h3⟩
  · exact .inl h
  · refine .inr ⟨g, h1, h2, h3.of_eq (hg.block g h3.size (fun e => ?_))⟩
    obtain ⟨cs, hc⟩ := hr g e.symm
    obtain ⟨cs', hc', _⟩ := h3
    rw [hc] at hc'
    injection hc' with hc'
    injection hc' with _ ht _
    exact absurd ht (by decide)
theorem own_kind {w : World} {base : Nat} {t : TypeId} {size n : Nat} {v : Value} {xs : List Value} (h : w.ownsRow base t size v n xs) (g : Nat) (hg : v.ownBlock = some g) : ∃ cs, w.heap[g]? = some (.cells cs t (0, 0)) := by
  rcases h.2 with ⟨rfl, _⟩ | ⟨g', cap, cur, rfl, _, h3, _⟩
  · cases hg
  · have e : g' = g := Option.some.inj hg
    subst e
    exact ⟨cur, h3⟩
theorem CatR.entAt {F : Nat → Prop} {w : World} {p N : Nat} {C : CV} {sv tv : Value} {SR : List BlobR} {ER : List EntR} {be bb br : Nat} (hr : CatR F w p N C sv tv SR ER be bb br) {key : Str} (hh : hasL C.entries key = true) :
    ∃ r : EntR, r.key = key ∧ r.e = entC C key ∧ Form r.A r.n r.c ∧ r.n ≤ 1000000 ∧ PlacesIn w r.A r.n r.e.places ∧ (Instr.lookup 63 (.map (some be)) (encStr key) false).run Tryz.prog w = .ok (.agg #[encStr r.key, .int .i64 r.e.gen, .int .i64 r.e.size, encStr r.e.sum, .slice r.A r.n r.c]) w := by
  obtain ⟨r, h1, h2, h3, h4⟩ := getR hr.entr key hh
  have hok := orow_src (hr.entb r h1)
  have hw := hr.wf.ents (r.key, r.e) (by rw [← hr.entr]; exact List.mem_map.2 ⟨r, h1, rfl⟩)
  have hlen : r.e.places.length = r.n := by
    have := (hr.entb r h1).1.1
    rw [placeVals_len] at this
    omega
  have hkl : key.length ≤ maxLen := by
    have := hw.2.1
    simp only [h2] at this
    simp only [maxLen]
    omega
  have hl := hr.ents.look1 Tryz.underlying63 (zeroE w) (k := key) hkl
  rw [h4] at hl
  refine ⟨r, h2, h3, hok.2, ?_, ⟨hlen, hok.1⟩, hl⟩
  have h7 := hw.2.2.2.2.2.2.1
  have h6 := hw.2.2.2.2.2.1
  simp only at h7 h6
  omega
theorem MapAt.len {z : Value} {w : World} {b N : Nat} {L : List (Str × Value)} (h : MapAt skey z w b N L) : L.length ≤ N := by
  obtain ⟨D, hown, hperm⟩ := h.perm
  have h1 := hperm.length_eq
  rw [List.length_map] at h1
  have h2 := hown.size_le
  have h3 : (strKeys D).length ≤ Maps.size D := by
    cases D with
    | map es => simp [strKeys, Maps.size]
    | _ => exact Nat.zero_le _
  omega
section
set_option maxHeartbeats 4000000
set_option maxRecDepth 8000
theorem cEntries (F : Nat → Prop) (p N : Nat) (C : CV) (w : World) (h : CatAt F w p N C) (hN : N ≤ 100000) :
    Calls Tryz.prog 15 #[.pointer (some ⟨p, 0, none⟩)] w fun e w' => ∃ v PL, e = .returned v ∧ EntsOut w w' v (entsC C) PL ∧ Below w.heap.size w w' := by
  have H := Lib.hid h
  obtain ⟨sv, tv, SR, ER, be, bb, br, hr⟩ := h
  have c1 : w.cell? ⟨p, 1, none⟩ = some (.map (some be)) := hr.blk.cell 1
  have hpz : p < w.heap.size := hr.blk.size
  have hkeys : (entVals ER).map Prod.fst = C.entries.map Prod.fst := by
    rw [← hr.entr, entVals, List.map_map, List.map_map]; rfl
  have hlen : (entVals ER).length = C.entries.length := by
    have := congrArg List.length hkeys
    simpa using this
  have hso := cSortedE zeroEnt be N (entVals ER) w hr.ents (by omega)
  rw [hlen, hkeys] at hso
  have SO := Lib.hid hso
  have HKY := Lib.hid hkeys
  have HLN := Lib.hid hlen
  have HR := Lib.hid hr
  obtain ⟨i0, hi0, hz0, hz1, hz2⟩ := info_parts entC_info
  have hN2 : C.entries.length ≤ N := by rw [← hlen]; exact hr.ents.len
  clear hr hkeys hlen hso
  go_enter Tryz.func15, Tryz.ntmps15
  go_wp2_with (first
    | (go_at_call 46; refine (cKeysE be _).mono ?_; rintro e w1 ⟨rfl, rfl⟩)
    | (go_at_call 45; refine SO.out.mono ?_; rintro e w1 ⟨B, c, rfl, hrow, hb1⟩; have RW := Lib.hid hrow; have B1 := Lib.hid hb1; obtain ⟨B', c', e1, hn1, hc1, hB1⟩ := own_form hrow; cases e1; clear hrow hb1))
  have hsl : (sortS (C.entries.map Prod.fst)).length = C.entries.length := by rw [sortS_len, List.length_map]
  have hmem : ∀ key, key ∈ sortS (C.entries.map Prod.fst) → hasL C.entries key = true := fun key hk => hasL_mem.2 ((List.mergeSort_perm _ _).mem_iff.1 hk)
  have SL := Lib.hid hsl
  have MEM := Lib.hid hmem
  have hz1' := B1.out.size
  generalize C.entries.length = n at *
  clear hsl hmem SO H
  go_loopw [3, 15] (fun v i wx => ∃ (j : Nat) (PL : List EntP), i = .int .i64 j ∧ j ≤ n ∧ PL.length = j ∧ PL.map (fun r => (r.key, r.e)) = (entsC C).take j ∧ wx.ownsRow w1.heap.size 43 5 v j (entPVals PL) ∧ (∀ r ∈ PL, EntPOk w1 wx r) ∧ Below w1.heap.size w1 wx) (fun _ i _ => n - (intOf i).toNat)
  case atStart => exact ⟨0, [], rfl, Nat.zero_le _, rfl, rfl, World.ownsRow_nil _ _ _ _, (fun _ h => by cases h), Below.refl _ _⟩
  case round =>
    obtain ⟨j, PL, rfl, hj, hPL, hmap, hown, hok, hbl⟩ := hrel
    obtain ⟨wo, rfl⟩ : ∃ wo : World, wo = wr := ⟨_, rfl⟩
    have OW := Lib.hid hown
    have BL := Lib.hid hbl
    have OKL := Lib.hid hok
    have MP := Lib.hid hmap
    have PLN := Lib.hid hPL
    have hz := hbl.size
    obtain ⟨A1, k1, rfl, hn1', hc1', hA1⟩ := own_form hown
    by_cases hlt2 : j < n
    · have d1 : decide (j < n) = true := by simpa using hlt2
      obtain ⟨key, hkey⟩ : ∃ key, (sortS (C.entries.map Prod.fst))[j]? = some key := ⟨_, List.getElem?_eq_getElem (by rw [SL.out]; exact hlt2)⟩
      obtain ⟨g, rfl⟩ : ∃ g, B = some ⟨g, 0, none⟩ := by
        rcases hB1 with ⟨_, h, _⟩ | h
        · omega
        · exact h
      have hg : g < w1.heap.size := (RW.out.lt g rfl).2
      have BW := Lib.hid (B1.out.trans (hbl.mono hz1'))
      have kc : wo.cell? ⟨g, j, none⟩ = some (encStr key) := (hbl.cell (p := ⟨g, j, none⟩) hg).trans ((RowAt.of_own RW.out).cell (by unfold strVals; rw [List.getElem?_map, hkey]; rfl))
      have kp : wo.cell? ⟨p, 1, none⟩ = some (.map (some be)) := (BW.out.cell (p := ⟨p, 1, none⟩) hpz).trans c1
      obtain ⟨r, hr1, hr2, hr3, hr4, hr5, hlk⟩ := (HR.out.below BW.out).entAt (MEM.out key (List.mem_of_getElem? hkey))
      have HF := Lib.hid hr3
      have HPL := Lib.hid hr5
      have HT := Lib.hid (show (entsC C).take (j + 1) = (entsC C).take j ++ [(r.key, r.e)] by
        rw [List.take_add_one]
        congr 1
        unfold entsC
        rw [List.getElem?_map, hkey, hr1, hr2]
        rfl)
      clear hown hbl hok hmap hPL hkey hr1 hr2 hr3 hr5
      go_wp2_with (first
        | (go_at_call 47; refine (cCopied r.key r.e r.A r.n r.c _ HF.out hr4 (by exact HPL.out)).mono ?_; rintro en w2 ⟨v, rfl, ⟨B2, rfl, ho2⟩, hb2⟩; have O2 := Lib.hid ho2; have BL2 := Lib.hid (BL.out.trans (hb2.mono hz)); have OW2 := Lib.hid (own_of_eq OW.out (fun q hq => hb2.block q (OW.out.lt q hq).2)); have OK2 := Lib.hid (fun r hr => (OKL.out r hr).below hb2); have hz2' := hb2.size; clear ho2 hb2)
        | (at_builtin
           refine wpList_append_src _ rfl (.tmp 19) (.tmp 27) 38 rfl w1.heap.size 43 i0 _ 5 72 Tryz.underlying38 hi0 hz0 hz1 hz2 rfl (by omega) _ j _ rfl (by exact OW2.out.alloc _) (some ⟨w2.heap.size, 0, none⟩) 1 1 (EntP.cells ⟨r.key, r.e, B2⟩) rfl rfl (fun e => by cases e) (by exact src_new _ _ _ _) (entP_one _) (by simp only [maxLen]; omega) (by omega) (by simp; omega) ?_
           intro v' w3 hown3 hgr3 hat3
           have OW3 := Lib.hid hown3
           have HB3 := Lib.hid ((BL2.out.alloc (by omega) _).grown hgr3 (by simp; omega) (fun q hq => (OW2.out.lt q hq).1))
           have OK3 := Lib.hid (fun r hr => (EntPOk.below (OK2.out r hr) ((Below.refl _ w2).alloc (Nat.le_refl _) _)).grown hgr3 (fun g hg => own_kind (OW2.out.alloc _) g hg))
           have EP3 := Lib.hid (show EntPOk w1 w3 ⟨r.key, r.e, B2⟩ from (EntPOk.below (w := w2) (OutAt.old O2.out hz) ((Below.refl _ w2).alloc (Nat.le_refl _) _)).grown hgr3 (fun g hg => own_kind (OW2.out.alloc _) g hg))
           clear hown3 hgr3 hat3))
      go_roundw
      case rel => exact ⟨j + 1, PL ++ [⟨r.key, r.e, B2⟩], by go_num, hlt2, by rw [List.length_append, PLN.out]; rfl, by rw [List.map_append, MP.out, HT.out]; rfl, by rw [entPVals_snoc]; exact OW3.out, fun q hq => by
        rcases List.mem_append.1 hq with hq | hq
        · exact OK3.out q hq
        · have e : q = ⟨r.key, r.e, B2⟩ := by simpa using hq
          subst e
          exact EP3.out, HB3.out⟩
      case measure => simp [intOf]; omega
    · have d1 : decide (j < n) = false := by simpa using hlt2
      obtain rfl : j = n := by omega
      clear hown hbl hok hmap hPL
      go_wp2_with (go_at_call 48; refine (clip_ent A1 _ k1 _ hn1' hc1' hA1).mono ?_; rintro e w2 ⟨rfl, rfl⟩)
      go_ret
      have hE : (entsC C).length = j := by unfold entsC; rw [List.length_map, SL.out]
      have hMP := MP.out
      rw [List.take_of_length_le (by rw [hE]; exact Nat.le_refl _)] at hMP
      exact ⟨_, PL, rfl, ⟨by rw [hE]; exact (OutAt.of_own OW.out).old hz1', hMP, fun r hr => (OKL.out r hr).old hz1'⟩, B1.out.trans (BL.out.mono hz1')⟩
end
end Go.Proofs.YtmkccblcmiflfaaGreat

namespace Go.Proofs.YtmkccblcmiflfaaGreat
open Go.RowKit Go.Maps Go.WideMaps Go.Sort Go.Shelf

/-- A row to append to: one that a call has handed out, clipped, or one of the walk's own. -/
def StAt (w0 : World) (lo : Nat) (w : World) (t : TypeId) (size : Nat) (v : Value) (n : Nat) (xs : List Value) : Prop :=
  (xs.length = n * size ∧ OutAt w0 w t v n xs) ∨ w.ownsRow lo t size v n xs
theorem StAt.below {w0 w w' : World} {lo : Nat} {t : TypeId} {size n : Nat} {v : Value} {xs : List Value} (h : StAt w0 lo w t size v n xs) (hb : Below w.heap.size w w') : StAt w0 lo w' t size v n xs :=
  h.imp (fun h => ⟨h.1, h.2.below hb⟩) (fun h => own_of_eq h (fun g hg => hb.block g (h.lt g hg).2))
theorem StAt.out {w0 w : World} {lo : Nat} (hlo : w0.heap.size ≤ lo) {t : TypeId} {size n : Nat} {v : Value} {xs : List Value} (h : StAt w0 lo w t size v n xs) : ∃ B c, v = .slice B n c ∧ n ≤ c ∧ c ≤ max maxLen n ∧ ((B = none ∧ n = 0 ∧ c = 0 ∧ xs = []) ∨ ∃ g, B = some ⟨g, 0, none⟩ ∧ w0.heap.size ≤ g ∧ RowAt w g t xs) := by
  rcases h with ⟨_, ⟨rfl, rfl, rfl⟩ | ⟨g, rfl, h1, h2⟩⟩ | h
  · exact ⟨none, 0, rfl, Nat.le_refl _, by omega, .inl ⟨rfl, rfl, rfl, rfl⟩⟩
  · exact ⟨_, _, rfl, Nat.le_refl _, by omega, .inr ⟨g, rfl, h1, h2⟩⟩
  · have hl := h.1
    rcases h.2 with ⟨rfl, rfl⟩ | ⟨g, cap, cur, rfl, h1, h2, h3, h4, h5, h6⟩
    · exact ⟨none, 0, rfl, Nat.le_refl _, by omega, .inl ⟨rfl, rfl, rfl, List.eq_nil_of_length_eq_zero (by simpa using hl)⟩⟩
    · exact ⟨_, cap, rfl, h3, by omega, .inr ⟨g, rfl, Nat.le_trans hlo h1, RowAt.of_own h⟩⟩
theorem wpList_append_st {P : Program} (w0 : World) (lo : Nat) (w : World) {ops : Array Oper} {rest : List Oper} {o : Oper} {a : Act} {Q : Exit → Act → World → Prop} (hgd : o.guard = none) (s x : Operand) (t : TypeId)
    (ho : o.op = .call { callee := .builtin .append, args := #[s, x], argTypes := #[t, t] })
    (e : TypeId) (i : TypeInfo) (z : Value) (size bytes : Nat) (ht : P.underlying t = some (.slice e)) (hi : P.info? e = some i) (hz : i.zero = some z)
    (hsize : i.size = size) (hby : i.bytes = bytes) (hzs : z.cells.size = size) (hsz : 0 < size)
    (v : Value) (n : Nat) (xs : List Value) (hs : a.eval s = v) (hst : StAt w0 lo w e size v n xs)
    (ad : Addr) (m c : Nat) (news : List Value) (hx : a.eval x = .slice (some ad) m c) (hl : news.length = m * size) (hm : 0 < m) (hr : SrcAt w (some ad) m news) (h1 : ∀ u ∈ news, u.oneCell' = true)
    (h63 : n + m ≤ maxLen) (hbytes : (n + m) * bytes ≤ 140737488355328) (hbase : lo ≤ w.heap.size)
    (h : ∀ v' w', w'.ownsRow lo e size v' (n + m) (xs ++ news) → Below lo w w' → wpList P ops Q rest (a.put o.dst v') w') : wpList P ops Q (o :: rest) a w := by
  rcases hst with ⟨hxl, hout⟩ | hown
  · have hform : ∃ ao, v = .slice ao n n ∧ (ao = none → n = 0 ∧ n = 0) ∧ ∀ b, ao = some b → ∀ j u, xs[j]? = some u → w.cell? (b.add j) = some u := by
      rcases hout with ⟨rfl, rfl, rfl⟩ | ⟨g, rfl, _, hrow⟩
      · exact ⟨none, rfl, fun _ => ⟨rfl, rfl⟩, fun b hb => by cases hb⟩
      · refine ⟨some ⟨g, 0, none⟩, rfl, (fun e => by cases e), fun b hb j u hu => ?_⟩
        injection hb with hb
        subst hb
        rw [add_plain]
        simpa using hrow.cell hu
    obtain ⟨ao, rfl, hnone, hcells⟩ := hform
    have hcn : ∀ j u, news[j]? = some u → w.cell? (ad.add j) = some u := by
      intro j u hu
      rcases hr with ⟨h0, _⟩ | ⟨b, off, h, hc⟩
      · omega
      · injection h with h
        subst h
        rw [add_plain]
        exact hc j u hu
    refine wpList_append_grows w hgd s x t ho e i z size bytes ht hi hz hsize hby hzs hsz ao n n xs hs hnone hxl hcells ad m c news hx hl hcn h1 (by omega) h63 hbytes fun v' w' ho' hg' => ?_
    exact h v' w' (own_le ho' hbase) ⟨hg'.os, hg'.tape, hg'.output, hg'.size, fun k hk => hg'.block k (by omega) (by simp)⟩
  · refine wpList_append_src w hgd s x t ho lo e i z size bytes ht hi hz hsize hby hzs hsz v n xs hs hown (some ad) m c news hx hl (fun e => by cases e) hr h1 h63 hbytes hbase fun v' w' ho' hg' _ => ?_
    exact h v' w' ho' ⟨hg'.os, hg'.tape, hg'.output, hg'.size, fun k hk => hg'.block k (by omega) (fun e => by have := (hown.lt k e.symm).1; omega)⟩
theorem take_putStr (cur : Array Value) (ts : List Str) (h : ts.length ≤ cur.size) : (putCells encStr 0 ts.toArray cur).toList.take ts.length = strVals ts := by
  apply List.ext_getElem?
  intro j
  unfold strVals
  by_cases hj : j < ts.length
  · rw [List.getElem?_take_of_lt hj, Array.getElem?_toList]
    simp [putCells, hj, show j < cur.size by omega]
  · rw [List.getElem?_take_eq_none (by omega), List.getElem?_eq_none (by simp; omega)]
set_option maxHeartbeats 1000000 in
theorem sortStr (g cap : Nat) (l : List Str) (w : World) (hrow : RowAt w g 9 (strVals l)) (hl : l.length ≤ 1000000) :
    Calls Tryz.prog 43 #[.slice (some ⟨g, 0, none⟩) l.length cap] w fun e w' => e = .returned (.tuple #[]) ∧ RowAt w' g 9 (strVals (sortS l)) ∧ w.grownBy w' (some g) := by
  obtain ⟨cs, hb, htk⟩ := hrow
  have hvl : (strVals l).length = l.length := by simp [strVals]
  have hcs : l.length ≤ cs.size := by
    have h := congrArg List.length htk
    rw [List.length_take, hvl] at h
    simp only [Array.length_toList] at h
    omega
  have hH : Holds encStr w g 0 l.toArray := fun j hj => by
    have hj' : j < l.length := by simpa using hj
    refine ⟨?_, RowAt.free ⟨cs, hb, htk⟩ _⟩
    have h := RowAt.cell (i := j) (u := encStr l[j]) ⟨cs, hb, htk⟩ (by simp [strVals, List.getElem?_eq_getElem hj'])
    simpa [hj'] using h
  refine (AnyM.slices_Sort_string sortE g 0 cap l w hH (Array.getElem?_eq_some_iff.1 hb).1 (by omega)).mono ?_
  rintro e w' ⟨rfl, n, os, rfl⟩
  have hlt := (Array.getElem?_eq_some_iff.1 hb).1
  refine ⟨rfl, ⟨putCells encStr 0 (sortS l).toArray cs, ?_, ?_⟩, ⟨rfl, rfl, rfl, by simp [Sort.grow, Sort.putRow, Sort.mapBlock, Sort.ahead], fun k hk hne => ?_⟩⟩
  · unfold Sort.grow Sort.putRow Sort.mapBlock Sort.ahead
    rw [Array.getElem?_append_left (by simpa using hlt), Array.getElem?_modify, if_pos rfl, hb]
    rfl
  · have h := take_putStr cs (sortS l) (by rw [sortS_len]; exact hcs)
    have e : (strVals (sortS l)).length = (sortS l).length := by simp [strVals]
    rw [e]
    exact h
  · have hkg : g ≠ k := fun e => hne (by rw [e])
    simp only [Sort.grow, Sort.putRow, Sort.mapBlock, Sort.ahead]
    rw [Array.getElem?_append_left (by simpa using hk), Array.getElem?_modify, if_neg hkg]
end Go.Proofs.YtmkccblcmiflfaaGreat

namespace Go.Proofs.YtmkccblcmiflfaaGreat
open Go.RowKit Go.Maps Go.WideMaps Go.Sort Go.Shelf

theorem entPVals_get {PL : List EntP} {j : Nat} {r : EntP} (h : PL[j]? = some r) (t : Nat) (ht : t < 5) : (entPVals PL)[j * 5 + t]? = r.cells[t]? := by
  induction PL generalizing j with
  | nil => simp at h
  | cons x PL ih =>
    have hc : entPVals (x :: PL) = x.cells ++ entPVals PL := rfl
    rw [hc]
    cases j with
    | zero =>
      obtain rfl : x = r := by simpa using h
      rw [List.getElem?_append_left (by show 0 * 5 + t < 5; omega)]
      congr 1
      omega
    | succ j =>
      rw [List.getElem?_append_right (by show 5 ≤ _; omega), show (j + 1) * 5 + t - x.cells.length = j * 5 + t by show (j + 1) * 5 + t - 5 = _; omega]
      exact ih (by simpa using h)
theorem OutAt.form {w0 w : World} {t : TypeId} {v : Value} {n : Nat} {xs : List Value} (h : OutAt w0 w t v n xs) : ∃ B, v = .slice B n n ∧ ((B = none ∧ n = 0) ∨ ∃ g, B = some ⟨g, 0, none⟩ ∧ w0.heap.size ≤ g ∧ RowAt w g t xs) := by
  rcases h with ⟨rfl, rfl, _⟩ | ⟨g, rfl, h1, h2⟩
  · exact ⟨none, rfl, .inl ⟨rfl, rfl⟩⟩
  · exact ⟨_, rfl, .inr ⟨g, rfl, h1, h2⟩⟩
def keysC (C : CV) : List Str := sortS (C.staged.map Prod.fst ++ C.entries.map Prod.fst)
theorem keysC_eq (C : CV) : sortS (C.staged.map Prod.fst ++ sortS (C.entries.map Prod.fst)) = keysC C := mergeSort_of_perm ((List.mergeSort_perm _ _).append_left _)
theorem no_wait {N : Nat} {C : CV} (hw : CWf N C) {key : Str} (h : hasL C.entries key = true) : waitsC C key < 0 := by
  rw [waitsC_neg]
  cases hs : hasL C.staged key with
  | false => rfl
  | true =>
    obtain ⟨q, hq, hk⟩ := List.mem_map.1 (hasL_mem.1 hs)
    have := hw.apart q hq
    rw [hk, h] at this
    cases this
section
set_option maxHeartbeats 4000000
set_option maxRecDepth 8000
theorem cKeys (F : Nat → Prop) (p N : Nat) (C : CV) (w : World) (h : CatAt F w p N C) (hN : N ≤ 100000) :
    Calls Tryz.prog 13 #[.pointer (some ⟨p, 0, none⟩)] w fun e w' => ∃ v, e = .returned v ∧ OutAt w w' 9 v (keysC C).length (strVals (keysC C)) ∧ Below w.heap.size w w' := by
  have H := Lib.hid h
  obtain ⟨hwf, hen, hsn⟩ : CWf N C ∧ C.entries.length ≤ N ∧ C.staged.length ≤ N := by
    obtain ⟨sv, tv, SR, ER, be, bb, br, hr⟩ := h
    refine ⟨hr.wf, ?_, hr.wf.staged⟩
    have h1 := hr.ents.len
    have h2 : (entVals ER).length = C.entries.length := by rw [← hr.entr, entVals, List.length_map, List.length_map]
    omega
  have hlE : (entsC C).length = C.entries.length := by unfold entsC; rw [List.length_map, sortS_len, List.length_map]
  have WF := Lib.hid hwf
  obtain ⟨i0, hi0, hz0, hz1, hz2⟩ := info_parts str_info
  have LE := Lib.hid hlE
  have HSN := Lib.hid hsn
  clear h hwf hlE hsn
  go_enter Tryz.func13, Tryz.ntmps13
  go_wp2_with (first
    | (go_at_call 14; refine (cStaged F p N C _ H.out hN).mono ?_; rintro e w1 ⟨v1, rfl, ho1, hb1⟩; have O1 := Lib.hid ho1; have B1 := Lib.hid hb1; clear ho1 hb1)
    | (go_at_call 15; refine (cEntries F p N C _ (H.out.below B1.out) hN).mono ?_; rintro e w2 ⟨v2, PL, rfl, ho2, hb2⟩; obtain ⟨A2, hv2, hA2⟩ := ho2.out.form; rw [LE.out] at hv2 hA2; subst hv2; have O2 := Lib.hid ho2; have B2 := Lib.hid (B1.out.trans (hb2.mono B1.out.size)); have O1' := Lib.hid (O1.out.below hb2); clear hb2 ho2)
    | fail)
  have SLN := Lib.hid (show (sortS (C.entries.map Prod.fst)).length = C.entries.length by rw [sortS_len, List.length_map])
  have HPL := Lib.hid (show PL.map (fun r => r.key) = sortS (C.entries.map Prod.fst) by
    have h := congrArg (List.map Prod.fst) O2.out.is
    rw [List.map_map] at h
    rw [show (fun r : EntP => r.key) = Prod.fst ∘ fun r => (r.key, r.e) from rfl, h]
    unfold entsC
    rw [List.map_map]
    exact List.map_id _)
  have HMEM := Lib.hid (show ∀ key, key ∈ sortS (C.entries.map Prod.fst) → hasL C.entries key = true from fun key hk => hasL_mem.2 ((List.mergeSort_perm _ _).mem_iff.1 hk))
  have STL := Lib.hid (show (strVals (C.staged.map Prod.fst)).length = C.staged.length * 1 by simp [strVals])
  have hzz := B2.out.size
  have hmn : C.staged.length ≤ 100000 := Nat.le_trans HSN.out hN
  have hpl : PL.length = C.entries.length := by rw [← SLN.out, ← HPL.out, List.length_map]
  have HPN := Lib.hid hpl
  have KQ := Lib.hid (keysC_eq C)
  have KL := Lib.hid (show (keysC C).length = C.staged.length + C.entries.length by unfold keysC; rw [sortS_len, List.length_append, List.length_map, List.length_map])
  clear hpl
  generalize C.entries.length = n at *
  generalize C.staged.length = m at *
  go_loopw [3, 11] (fun v i wx => ∃ (j : Nat), i = .int .i64 j ∧ j ≤ n ∧ StAt w w2.heap.size wx 9 1 v (m + j) (strVals (C.staged.map Prod.fst) ++ strVals ((PL.take j).map (fun r => r.key))) ∧ Below w2.heap.size w2 wx) (fun _ i _ => n - (intOf i).toNat)
  case atStart => exact ⟨0, rfl, Nat.zero_le _, .inl ⟨by rw [List.length_append, STL.out]; simp [strVals], by simpa [strVals] using O1'.out⟩, Below.refl _ _⟩
  case round =>
    obtain ⟨j, rfl, hj, hst, hbl⟩ := hrel
    obtain ⟨wo, rfl⟩ : ∃ wo : World, wo = wr := ⟨_, rfl⟩
    have ST := Lib.hid hst
    have BL := Lib.hid hbl
    have hz := hbl.size
    by_cases hlt2 : j < n
    · have d1 : decide (j < n) = true := by simpa using hlt2
      obtain ⟨r, hr⟩ : ∃ r, PL[j]? = some r := ⟨_, List.getElem?_eq_getElem (by rw [HPN.out]; exact hlt2)⟩
      obtain ⟨g, rfl, hgr⟩ : ∃ g, A2 = some ⟨g, 0, none⟩ ∧ RowAt w2 g 43 (entPVals PL) := by
        rcases hA2 with ⟨_, h⟩ | ⟨g, h1, _, h3⟩
        · omega
        · exact ⟨g, h1, h3⟩
      have hg : g < w2.heap.size := hgr.size
      have k0 : wo.cell? ⟨g, j * 5, none⟩ = some (encStr r.key) := (hbl.cell (p := ⟨g, j * 5, none⟩) hg).trans (hgr.cell (entPVals_get hr 0 (by omega)))
      have k1 : wo.cell? ⟨g, j * 5 + 1, none⟩ = some (.int .i64 r.e.gen) := (hbl.cell (p := ⟨g, j * 5 + 1, none⟩) hg).trans (hgr.cell (entPVals_get hr 1 (by omega)))
      have k2 : wo.cell? ⟨g, j * 5 + 2, none⟩ = some (.int .i64 r.e.size) := (hbl.cell (p := ⟨g, j * 5 + 2, none⟩) hg).trans (hgr.cell (entPVals_get hr 2 (by omega)))
      have k3 : wo.cell? ⟨g, j * 5 + 3, none⟩ = some (encStr r.e.sum) := (hbl.cell (p := ⟨g, j * 5 + 3, none⟩) hg).trans (hgr.cell (entPVals_get hr 3 (by omega)))
      have k4 : wo.cell? ⟨g, j * 5 + 4, none⟩ = some (.slice r.B r.e.places.length r.e.places.length) := (hbl.cell (p := ⟨g, j * 5 + 4, none⟩) hg).trans (hgr.cell (entPVals_get hr 4 (by omega)))
      have hwt : waitsC C r.key < 0 := no_wait WF.out (HMEM.out _ (by rw [← HPL.out]; exact List.mem_map.2 ⟨r, List.mem_of_getElem? hr, rfl⟩))
      have d2 : decide (waitsC C r.key < 0) = true := by simpa using hwt
      have HT := Lib.hid (show strVals ((PL.take (j + 1)).map (fun r => r.key)) = strVals ((PL.take j).map (fun r => r.key)) ++ [encStr r.key] by rw [List.take_add_one, hr, Option.toList_some, List.map_append]; unfold strVals; rw [List.map_append]; rfl)
      have BW := Lib.hid (B2.out.trans (hbl.mono hzz))
      have hzw := BW.out.size
      have hix := idxP_ge (isKey r.key) C.staged
      clear hst hbl hr hgr hwt
      go_wp2_with (first
        | (go_at_call 32; refine (cWaits F p N C r.key _ (by exact (H.out.below BW.out).below ((Below.refl _ _).alloc (Nat.le_refl _) _))).mono ?_; rintro e w3 ⟨rfl, hb3⟩; have lk : w3.cell? ⟨wo.heap.size, 0, none⟩ = some (encStr r.key) := (hb3.cell (p := ⟨wo.heap.size, 0, none⟩) (by simp)).trans (by simp); have B3 := Lib.hid (((Below.refl _ wo).alloc (Nat.le_refl _) _).trans (hb3.mono (by simp))); have hz3 := B3.out.size; have ST3 := Lib.hid (ST.out.below B3.out); clear hb3)
        | (at_builtin
           refine wpList_append_st w w2.heap.size _ rfl (.tmp 20) (.tmp 23) 36 rfl 9 i0 _ 1 16 Tryz.underlying36 hi0 hz0 hz1 hz2 rfl (by omega) _ (m + j) _ rfl (by exact ST3.out.below ((Below.refl _ _).alloc (Nat.le_refl _) _)) ⟨w3.heap.size, 0, none⟩ 1 1 [encStr r.key] rfl rfl (by omega) (by exact src_new1 _ _ _ _ rfl) (by intro u hu; simp only [List.mem_cons, List.not_mem_nil, or_false] at hu; rcases hu with rfl; rfl) (by simp only [maxLen]; omega) (by omega) (by simp; omega) ?_
           intro v' w4 hown4 hb4
           have OW4 := Lib.hid hown4
           have HB4 := Lib.hid hb4
           clear hown4 hb4))
      go_roundw
      case rel => exact ⟨j + 1, by go_num, hlt2, .inr (by rw [HT.out, ← List.append_assoc]; exact OW4.out), ((BL.out.trans (B3.out.mono hz)).alloc (by omega) _).trans HB4.out⟩
      case measure => simp [intOf]; omega
    · have d1 : decide (j < n) = false := by simpa using hlt2
      obtain rfl : j = n := by omega
      have BW := Lib.hid (B2.out.trans (hbl.mono hzz))
      have hst' := hst
      rw [List.take_of_length_le (by rw [HPN.out]; exact Nat.le_refl _), HPL.out] at hst'
      have hval : strVals (C.staged.map Prod.fst) ++ strVals (sortS (C.entries.map Prod.fst)) = strVals (C.staged.map Prod.fst ++ sortS (C.entries.map Prod.fst)) := by unfold strVals; rw [List.map_append]
      rw [hval] at hst'
      have hll : (C.staged.map Prod.fst ++ sortS (C.entries.map Prod.fst)).length = m + j := by rw [List.length_append, SLN.out, List.length_map]; have := STL.out; simp only [strVals, List.length_map] at this; omega
      obtain ⟨B, c, rfl, hc1, hc2, hB⟩ := hst'.out hzz
      clear hst hbl hval hst'
      rcases hB with ⟨rfl, h0, rfl, hnil⟩ | ⟨g, rfl, hg1, hg2⟩
      · have hS := fun W => AnyM.slices_Sort_string_none sortE none 0 W
        change ∀ W, Calls Tryz.prog 43 _ _ _ at hS
        obtain ⟨rfl, rfl⟩ : m = 0 ∧ j = 0 := by omega
        go_wp2_with (first
          | (go_at_call 43; refine (hS _).mono ?_; rintro e w4 ⟨rfl, rfl⟩)
          | (go_at_call 44; refine (clip_str none 0 0 _ (Nat.le_refl _) (Nat.zero_le _) (.inl ⟨rfl, rfl, rfl⟩)).mono ?_; rintro e w5 ⟨rfl, rfl⟩))
        go_ret
        exact ⟨_, rfl, .inl ⟨rfl, KL.out, by rw [List.eq_nil_of_length_eq_zero KL.out]; rfl⟩, BW.out⟩
      · have hSo := sortStr g c (C.staged.map Prod.fst ++ sortS (C.entries.map Prod.fst)) wo hg2 (by omega)
        rw [hll, KQ.out] at hSo
        have SO := Lib.hid hSo
        have hcm : c ≤ maxLen := by simp only [maxLen] at *; omega
        have hzw := BW.out.size
        clear hSo hll hc2
        go_wp2_with (first
          | (go_at_call 43; refine SO.out.mono ?_; rintro e w4 ⟨rfl, hr4, hg4⟩; have R4 := Lib.hid hr4; have B4 := Lib.hid (BW.out.grown hg4 hzw (fun q hq => by have e := Option.some.inj hq; omega)); clear hr4 hg4)
          | (go_at_call 44; refine (clip_str (some ⟨g, 0, none⟩) (m + j) c _ hc1 hcm (.inr ⟨g, rfl⟩)).mono ?_; rintro e w5 ⟨rfl, rfl⟩))
        go_ret
        exact ⟨_, rfl, .inr ⟨g, by rw [KL.out]; rfl, hg1, R4.out⟩, B4.out⟩
end
end Go.Proofs.YtmkccblcmiflfaaGreat

namespace Go.Proofs.YtmkccblcmiflfaaGreat
open Go.RowKit Go.Maps Go.WideMaps Go.Sort Go.Shelf

def keysR_ren : Go.Shelf.Ren := ⟨fun | 7 => 34 | 10 => 69 | n => n, fun | 23 => 65 | 26 => 3 | 3 => 76 | 28 => 74 | 0 => 0 | 27 => 73 | 33 => 61 | 4 => 4 | n => n, fun | n => n⟩
theorem keysR : Go.Proofs.SlLaysZI.n7 Tryz.prog keysR_ren := {
  mixed := by kernel_rfl
  f7 := ⟨Tryz.f34.name, by decide, Tryz.func34.trans (congrArg some (by kernel_rfl))⟩
  f10 := ⟨Tryz.f69.name, by decide, Tryz.func69.trans (congrArg some (by kernel_rfl))⟩
  t0 := Tryz.underlying0
  a0 := Tryz.isAgg0
  z0 := Tryz.sizeOf0
  v0 := Tryz.zeroValue0
  t4 := Tryz.underlying4
  a4 := Tryz.isAgg4
  z4 := Tryz.sizeOf4
  v4 := Tryz.zeroValue4
  t23 := Tryz.underlying65
  a23 := Tryz.isAgg65
  z23 := Tryz.sizeOf65
  v23 := Tryz.zeroValue65
  t26 := Tryz.underlying3
  a26 := Tryz.isAgg3
  z26 := Tryz.sizeOf3
  v26 := Tryz.zeroValue3
  t27 := Tryz.underlying73
  a27 := Tryz.isAgg73
  z27 := Tryz.sizeOf73
  v27 := Tryz.zeroValue73
  t28 := Tryz.underlying74
  a28 := Tryz.isAgg74
  z28 := Tryz.sizeOf74
  v28 := Tryz.zeroValue74
  t33 := Tryz.underlying61
  a33 := Tryz.isAgg61
  z33 := Tryz.sizeOf61
  v33 := Tryz.zeroValue61 }
def sortedR_ren : Go.Shelf.Ren := ⟨fun | 6 => 33 | 8 => 67 | 9 => 68 | 11 => 85 | 13 => 79 | 12 => 86 | 23 => 96 | 24 => 97 | 14 => 107 | 15 => 108 | 16 => 109 | 17 => 110 | 18 => 111 | 19 => 112 | 20 => 113 | 21 => 114 | 22 => 115 | 25 => 125 | 26 => 117 | 27 => 118 | 28 => 126 | 29 => 127 | 30 => 84 | 31 => 130 | n => n, fun | 26 => 3 | 28 => 74 | 24 => 53 | 0 => 0 | 3 => 3 | 37 => 112 | 48 => 125 | 50 => 127 | 4 => 4 | 40 => 118 | 39 => 117 | 45 => 105 | 5 => 5 | 9 => 9 | 51 => 140 | 55 => 144 | 57 => 150 | 58 => 151 | 33 => 61 | n => n, fun | n => n⟩
theorem sortedR : Go.Proofs.SlLaysZI.n6 Tryz.prog sortedR_ren := {
  mixed := by kernel_rfl
  f6 := ⟨Tryz.f33.name, by decide, Tryz.func33.trans (congrArg some (by kernel_rfl))⟩
  f8 := ⟨Tryz.f67.name, by decide, Tryz.func67.trans (congrArg some (by kernel_rfl))⟩
  f11 := ⟨Tryz.f85.name, by decide, Tryz.func85.trans (congrArg some (by kernel_rfl))⟩
  t0 := Tryz.underlying0
  a0 := Tryz.isAgg0
  z0 := Tryz.sizeOf0
  v0 := Tryz.zeroValue0
  t24 := Tryz.underlying53
  a24 := Tryz.isAgg53
  z24 := Tryz.sizeOf53
  v24 := Tryz.zeroValue53
  t26 := Tryz.underlying3
  a26 := Tryz.isAgg3
  z26 := Tryz.sizeOf3
  v26 := Tryz.zeroValue3
  t28 := Tryz.underlying74
  a28 := Tryz.isAgg74
  z28 := Tryz.sizeOf74
  v28 := Tryz.zeroValue74
  i26 := by kernel_rfl }
def sortR_ren : Go.Shelf.Ren := ⟨fun | 5 => 68 | 8 => 79 | 7 => 86 | 19 => 96 | 20 => 97 | 10 => 107 | 11 => 108 | 12 => 109 | 13 => 110 | 14 => 111 | 15 => 112 | 16 => 113 | 17 => 114 | 18 => 115 | 30 => 125 | 31 => 117 | 32 => 118 | 33 => 126 | 34 => 127 | 35 => 84 | 40 => 130 | n => n, fun | 23 => 53 | 25 => 3 | 3 => 3 | 32 => 112 | 22 => 53 | 0 => 0 | 44 => 125 | 46 => 127 | 4 => 4 | 36 => 118 | 35 => 117 | 41 => 105 | 5 => 5 | 9 => 9 | 53 => 140 | 57 => 144 | 63 => 150 | 64 => 151 | n => n, fun | n => n⟩
theorem sortR : Go.Proofs.SlLaysM.n5 Tryz.prog sortR_ren := {
  mixed := by kernel_rfl
  f5 := ⟨Tryz.f68.name, by decide, Tryz.func68.trans (congrArg some (by kernel_rfl))⟩
  f7 := ⟨Tryz.f86.name, by decide, Tryz.func86.trans (congrArg some (by kernel_rfl))⟩
  f8 := Tryz.func79.trans (congrArg some (by kernel_rfl))
  f10 := ⟨Tryz.f107.name, by decide, Tryz.func107.trans (congrArg some (by kernel_rfl))⟩
  f11 := ⟨Tryz.f108.name, by decide, Tryz.func108.trans (congrArg some (by kernel_rfl))⟩
  f12 := ⟨Tryz.f109.name, by decide, Tryz.func109.trans (congrArg some (by kernel_rfl))⟩
  f13 := ⟨Tryz.f110.name, by decide, Tryz.func110.trans (congrArg some (by kernel_rfl))⟩
  f14 := ⟨Tryz.f111.name, by decide, Tryz.func111.trans (congrArg some (by kernel_rfl))⟩
  f15 := ⟨Tryz.f112.name, by decide, Tryz.func112.trans (congrArg some (by kernel_rfl))⟩
  f16 := ⟨Tryz.f113.name, by decide, Tryz.func113.trans (congrArg some (by kernel_rfl))⟩
  f17 := ⟨Tryz.f114.name, by decide, Tryz.func114.trans (congrArg some (by kernel_rfl))⟩
  f18 := ⟨Tryz.f115.name, by decide, Tryz.func115.trans (congrArg some (by kernel_rfl))⟩
  f19 := Tryz.func96.trans (congrArg some (by kernel_rfl))
  f20 := Tryz.func97.trans (congrArg some (by kernel_rfl))
  f30 := ⟨Tryz.f125.name, by decide, Tryz.func125.trans (congrArg some (by kernel_rfl))⟩
  f31 := Tryz.func117.trans (congrArg some (by kernel_rfl))
  f32 := Tryz.func118.trans (congrArg some (by kernel_rfl))
  f33 := ⟨Tryz.f126.name, by decide, Tryz.func126.trans (congrArg some (by kernel_rfl))⟩
  f34 := ⟨Tryz.f127.name, by decide, Tryz.func127.trans (congrArg some (by kernel_rfl))⟩
  f35 := ⟨Tryz.f84.name, by decide, Tryz.func84.trans (congrArg some (by kernel_rfl))⟩
  f40 := ⟨Tryz.f130.name, by decide, Tryz.func130.trans (congrArg some (by kernel_rfl))⟩
  t0 := Tryz.underlying0
  a0 := Tryz.isAgg0
  z0 := Tryz.sizeOf0
  v0 := Tryz.zeroValue0
  t3 := Tryz.underlying3
  a3 := Tryz.isAgg3
  z3 := Tryz.sizeOf3
  v3 := Tryz.zeroValue3
  t4 := Tryz.underlying4
  a4 := Tryz.isAgg4
  z4 := Tryz.sizeOf4
  v4 := Tryz.zeroValue4
  t5 := Tryz.underlying5
  a5 := Tryz.isAgg5
  z5 := Tryz.sizeOf5
  v5 := Tryz.zeroValue5
  t9 := Tryz.underlying9
  a9 := Tryz.isAgg9
  z9 := Tryz.sizeOf9
  v9 := Tryz.zeroValue9
  t22 := Tryz.underlying53
  a22 := Tryz.isAgg53
  z22 := Tryz.sizeOf53
  v22 := Tryz.zeroValue53
  t23 := Tryz.underlying53
  a23 := Tryz.isAgg53
  z23 := Tryz.sizeOf53
  v23 := Tryz.zeroValue53
  t25 := Tryz.underlying3
  a25 := Tryz.isAgg3
  z25 := Tryz.sizeOf3
  v25 := Tryz.zeroValue3
  t32 := Tryz.underlying112
  a32 := Tryz.isAgg112
  z32 := Tryz.sizeOf112
  v32 := Tryz.zeroValue112
  t35 := Tryz.underlying117
  a35 := Tryz.isAgg117
  z35 := Tryz.sizeOf117
  v35 := Tryz.zeroValue117
  t36 := Tryz.underlying118
  a36 := Tryz.isAgg118
  z36 := Tryz.sizeOf118
  v36 := Tryz.zeroValue118
  t41 := Tryz.underlying105
  a41 := Tryz.isAgg105
  z41 := Tryz.sizeOf105
  v41 := Tryz.zeroValue105
  t44 := Tryz.underlying125
  a44 := Tryz.isAgg125
  z44 := Tryz.sizeOf125
  v44 := Tryz.zeroValue125
  t46 := Tryz.underlying127
  a46 := Tryz.isAgg127
  z46 := Tryz.sizeOf127
  v46 := Tryz.zeroValue127
  t53 := Tryz.underlying140
  a53 := Tryz.isAgg140
  z53 := Tryz.sizeOf140
  v53 := Tryz.zeroValue140
  t57 := Tryz.underlying144
  a57 := Tryz.isAgg144
  z57 := Tryz.sizeOf144
  v57 := Tryz.zeroValue144
  t63 := Tryz.underlying150
  a63 := Tryz.isAgg150
  z63 := Tryz.sizeOf150
  v63 := Tryz.zeroValue150
  t64 := Tryz.underlying151
  a64 := Tryz.isAgg151
  z64 := Tryz.sizeOf151
  v64 := Tryz.zeroValue151 }
theorem sortsR (m : Nat) : AnyZI.SortsIn Tryz.prog sortedR_ren Fence.wide m :=
  ⟨fun blk off cap ss W hH hblk hsz => callsIn_wide.2 (AnyM.slices_Sort_int sortR blk off cap ss W hH hblk hsz),
   fun p cap W => callsIn_wide.2 (AnyM.slices_Sort_int_none sortR p cap W)⟩
def sortI (l : List Int) : List Int := l.mergeSort leI
def intVals (l : List Int) : List Value := l.map (.int .i64)
theorem sortI_len (l : List Int) : (sortI l).length = l.length := by simp [sortI]
theorem MapAt.permI {z : Value} {w : World} {b N : Nat} {L : List (Int × Value)} (h : MapAt ikey z w b N L) : ∃ D, w.ownsMap Tryz.prog 3 anyE b N D ∧ (L.map Prod.fst).Perm (intKeys D) := by
  obtain ⟨⟨D, h1, h2, h3⟩, h4⟩ := h
  refine ⟨D, h1, ?_⟩
  obtain ⟨es, hD, hpw, _⟩ := h1.entries ikey.law
  obtain ⟨es', hD', hko⟩ := h1.keysOf
  obtain rfl : es = es' := by rw [hD] at hD'; simpa using hD'
  subst hD
  exact perm_intKeys hpw (fun q hq => by obtain ⟨v, hv⟩ := hko q hq; obtain ⟨x, _, hx, _⟩ := Maps.keyOf_i64 Tryz.underlying3 hv; exact ⟨x, hx⟩) h4 (fun x => by rw [← hasL_mem, ← h2 x]; rfl)
theorem cKeysR (b : Nat) (W : World) : Calls Tryz.prog 34 #[.map (some b)] W fun e w' => e = .returned (.func (.func 69) #[] #[.pointer (some ⟨W.heap.size, 0, none⟩)]) ∧ w' = W.alloc (.cells #[.map (some b)] 65) :=
  (callsIn_wide (n := 5)).1 (AnyZI.keys_in keysR Fence.wide 5 trivial rfl (some b) W)
set_option maxHeartbeats 1000000 in
theorem cSortedR (z : Value) (b N : Nat) (L : List (Int × Value)) (W : World) (h : MapAt ikey z W b N L) (hN : N ≤ 1000000) :
    Calls Tryz.prog 33 #[.func (.func 69) #[] #[.pointer (some ⟨W.heap.size, 0, none⟩)]] (W.alloc (.cells #[.map (some b)] 65)) fun e w' =>
      ∃ B c, e = .returned (.slice B L.length c) ∧ w'.ownsRow W.heap.size 3 1 (.slice B L.length c) L.length (intVals (sortI (L.map Prod.fst))) ∧ Below W.heap.size W w' := by
  obtain ⟨D, hown, hperm⟩ := h.permI
  have hsz : Maps.size D ≤ 1000000 := Nat.le_trans hown.size_le hN
  have hbl := hown.lt
  have hseq : SeqGives Fence.wide 2 Tryz.prog 69 #[.pointer (some ⟨W.heap.size, 0, none⟩)] encZ (fun ss => ss.Perm (intKeys D)) (Maps.size D) (W.alloc (.cells #[.map (some b)] 65)) :=
    AnyZI.keys_gives (ρ := keysR_ren) { keysR with } Fence.wide _ trivial rfl (by omega) W.heap.size b N D _ (by simp) (by simp) (by
      obtain ⟨es, clock, hb, Ft, hs, hD⟩ := hown
      exact ⟨es, clock, (Below.heap_alloc _ _ b hbl).trans hb, Ft, hs, hD⟩)
  have cS := AnyZI.sorted_in sortedR Fence.wide 5 trivial trivial trivial trivial rfl (by omega) (sortsR _) (enters_of Tryz.func68 (by kernel_rfl) rfl) 69 #[.pointer (some ⟨W.heap.size, 0, none⟩)] trivial (enters_of Tryz.func69 (by kernel_rfl) rfl) _ _ (by simp only [maxLen]; omega) (by omega) _ hseq
  refine (callsIn_wide.1 cS).mono ?_
  rintro e w' ⟨v, ss, rfl, hS, hrow, _, hb⟩
  have hss : ss.mergeSort (fun x y => decide (x ≤ y)) = sortI (L.map Prod.fst) := mergeSort_of_perm_i (hS.trans hperm.symm)
  have hsl : ss.length = L.length := by
    have h1 := (hS.trans hperm.symm).length_eq
    rwa [List.length_map] at h1
  rw [hss, hsl] at hrow
  have hrow' : w'.ownsRow W.heap.size 3 1 v L.length (intVals (sortI (L.map Prod.fst))) := own_le hrow (by simp)
  obtain ⟨B, c, rfl, _⟩ := own_form hrow'
  exact ⟨B, c, rfl, hrow', ((Below.refl _ W).alloc (Nat.le_refl _) _).trans (hb.mono (by simp))⟩
end Go.Proofs.YtmkccblcmiflfaaGreat

namespace Go.Proofs.YtmkccblcmiflfaaGreat
open Go.RowKit Go.Maps Go.WideMaps

/-- A part of something that is handed out: nil, or a row from a new block's beginning on. -/
def PartAt (w0 w : World) (t : TypeId) (A : Option Addr) (n c : Nat) (xs : List Value) : Prop :=
  (A = none ∧ n = 0 ∧ c = 0 ∧ xs = []) ∨ ∃ g, A = some ⟨g, 0, none⟩ ∧ w0.heap.size ≤ g ∧ RowAt w g t xs ∧ n ≤ c ∧ c ≤ maxLen
section
variable {w0 w w' : World} {t : TypeId} {A : Option Addr} {n c : Nat} {xs : List Value}
theorem PartAt.nil (w0 w : World) (t : TypeId) : PartAt w0 w t none 0 0 [] := .inl ⟨rfl, rfl, rfl, rfl⟩
theorem PartAt.below (h : PartAt w0 w t A n c xs) (hb : Below w.heap.size w w') : PartAt w0 w' t A n c xs :=
  h.imp id fun ⟨g, h1, h2, h3, h4⟩ => ⟨g, h1, h2, h3.of_eq (hb.block g h3.size), h4⟩
theorem PartAt.of_own (h : w.ownsRow w0.heap.size t 1 (.slice A n c) n xs) : PartAt w0 w t A n c xs := by
  have hl := h.1
  rcases h.2 with ⟨e, h0⟩ | ⟨g, cap, cur, e, h1, h2, h3, h4, _⟩
  · cases e
    exact .inl ⟨rfl, rfl, rfl, List.eq_nil_of_length_eq_zero (by simpa using hl)⟩
  · cases e
    exact .inr ⟨g, rfl, h1, RowAt.of_own h, h3, h4⟩
theorem PartAt.of_out (h : OutAt w0 w t (.slice A n n) n xs) (hn : n ≤ maxLen) : PartAt w0 w t A n n xs := by
  rcases h with ⟨e, rfl, hx⟩ | ⟨g, e, h1, h2⟩
  · cases e
    exact .inl ⟨rfl, rfl, rfl, hx⟩
  · cases e
    exact .inr ⟨g, rfl, h1, h2, Nat.le_refl _, hn⟩
theorem PartAt.old {w1 : World} (h : PartAt w1 w t A n c xs) (hz : w0.heap.size ≤ w1.heap.size) : PartAt w0 w t A n c xs :=
  h.imp id fun ⟨g, h1, h2, h3⟩ => ⟨g, h1, Nat.le_trans hz h2, h3⟩
theorem PartAt.grown {row : Option Nat} {t' : TypeId} (h : PartAt w0 w t A n c xs) (hg : w.grownBy w' row) (hr : ∀ g, row = some g → ∃ cs, w.heap[g]? = some (.cells cs t' (0, 0))) (hne : t' ≠ t) : PartAt w0 w' t A n c xs := by
  rcases h with h | ⟨g, h1, h2, h3, h4⟩
  · exact .inl h
  · refine .inr ⟨g, h1, h2, h3.of_eq (hg.block g h3.size (fun e => ?_)), h4⟩
    obtain ⟨cs, hc⟩ := hr g e.symm
    obtain ⟨cs', hc', _⟩ := h3
    rw [hc] at hc'
    injection hc' with hc'
    injection hc' with _ ht _
    exact hne ht
end
/-- A note that is handed out, where its bytes and places lie. -/
structure NoteP where
  v : NoteV
  D : Option Addr
  dc : Nat
  Q : Option Addr
  qc : Nat
def NoteP.cells (r : NoteP) : List Value := [.int .i64 r.v.kind, encStr r.v.key, .int .i64 r.v.gen, .int .i64 r.v.cart, .slice r.D r.v.data.length r.dc, encStr r.v.sum, .int .i64 r.v.size, .slice r.Q r.v.places.length r.qc]
def notePVals (l : List NoteP) : List Value := l.flatMap NoteP.cells
theorem notePVals_app (l m : List NoteP) : notePVals (l ++ m) = notePVals l ++ notePVals m := by simp [notePVals]
theorem notePVals_one1 (r : NoteP) : notePVals [r] = r.cells := by simp [notePVals]
theorem notePVals_len (l : List NoteP) : (notePVals l).length = l.length * 8 := by
  induction l with
  | nil => rfl
  | cons x l ih =>
    show (x.cells ++ notePVals l).length = _
    rw [List.length_append, ih, List.length_cons]
    show 8 + l.length * 8 = _
    omega
theorem noteP_one (r : NoteP) : ∀ u ∈ r.cells, u.oneCell' = true := by
  intro u hu
  simp only [NoteP.cells, List.mem_cons, List.not_mem_nil, or_false] at hu
  rcases hu with rfl | rfl | rfl | rfl | rfl | rfl | rfl | rfl <;> rfl
structure NotePOk (w0 w : World) (r : NoteP) : Prop where
  data : PartAt w0 w 5 r.D r.v.data.length r.dc (byteVals r.v.data)
  places : PartAt w0 w 95 r.Q r.v.places.length r.qc (placeVals r.v.places)
theorem NotePOk.below {w0 w w' : World} {r : NoteP} (h : NotePOk w0 w r) (hb : Below w.heap.size w w') : NotePOk w0 w' r := ⟨h.data.below hb, h.places.below hb⟩
theorem NotePOk.grown {w0 w w' : World} {r : NoteP} {row : Option Nat} (h : NotePOk w0 w r) (hg : w.grownBy w' row) (hr : ∀ g, row = some g → ∃ cs, w.heap[g]? = some (.cells cs 32 (0, 0))) : NotePOk w0 w' r :=
  ⟨h.data.grown hg hr (by decide), h.places.grown hg hr (by decide)⟩
/-- Notes collected so far. -/
def NSt (w0 w : World) (v : Value) (L : List NoteV) : Prop :=
  ∃ NP : List NoteP, NP.map (·.v) = L ∧ w.ownsRow w0.heap.size 32 8 v L.length (notePVals NP) ∧ (∀ r ∈ NP, NotePOk w0 w r) ∧ Below w0.heap.size w0 w
theorem NSt.start (w : World) : NSt w w (.slice none 0 0) [] := ⟨[], rfl, World.ownsRow_nil _ _ _ _, (fun _ h => by cases h), Below.refl _ _⟩
theorem NSt.below {w0 w w' : World} {v : Value} {L : List NoteV} (h : NSt w0 w v L) (hb : Below w.heap.size w w') : NSt w0 w' v L := by
  obtain ⟨NP, h1, h2, h3, h4⟩ := h
  exact ⟨NP, h1, own_of_eq h2 (fun g hg => hb.block g (h2.lt g hg).2), fun r hr => (h3 r hr).below hb, h4.trans (hb.mono h4.size)⟩
theorem NSt.bel {w0 w : World} {v : Value} {L : List NoteV} (h : NSt w0 w v L) : Below w0.heap.size w0 w := by
  obtain ⟨NP, h1, h2, h3, h4⟩ := h
  exact h4
theorem NSt.form {w0 w : World} {v : Value} {L : List NoteV} (h : NSt w0 w v L) : ∃ B c, v = .slice B L.length c ∧ L.length ≤ c ∧ c ≤ maxLen ∧ ((B = none ∧ L.length = 0 ∧ c = 0) ∨ ∃ g, B = some ⟨g, 0, none⟩) := by
  obtain ⟨NP, h1, h2, h3, h4⟩ := h
  exact own_form h2
/-- Append notes, whose cells lie somewhere. -/
theorem wpList_append_n (w0 W : World) {ops : Array Oper} {rest : List Oper} {o : Oper} {a : Act} {Q : Exit → Act → World → Prop} (hgd : o.guard = none) (s x : Operand)
    (ho : o.op = .call { callee := .builtin .append, args := #[s, x], argTypes := #[22, 22] })
    (v : Value) (L : List NoteV) (hs : a.eval s = v) (hst : NSt w0 W v L)
    (A : Option Addr) (m c : Nat) (NN : List NoteP) (hm : NN.length = m) (hA : A = none → m = 0) (hx : a.eval x = .slice A m c) (hr : SrcAt W A m (notePVals NN)) (hok : ∀ r ∈ NN, NotePOk w0 W r)
    (hL : L.length + m ≤ 1000000)
    (h : ∀ v' w', NSt w0 w' v' (L ++ NN.map (·.v)) → W.heap.size ≤ w'.heap.size → (∀ g, g < W.heap.size → v.ownBlock ≠ some g → w'.heap[g]? = W.heap[g]?) → (v'.ownBlock = v.ownBlock ∨ v'.ownBlock = some W.heap.size) → wpList Tryz.prog ops Q rest (a.put o.dst v') w') : wpList Tryz.prog ops Q (o :: rest) a W := by
  obtain ⟨i0, hi0, hz0, hz1, hz2⟩ := info_parts noteC_info
  obtain ⟨NP, h1, h2, h3, h4⟩ := hst
  refine wpList_append_src W hgd s x 22 ho w0.heap.size 32 i0 _ 8 112 Tryz.underlying22 hi0 hz0 hz1 hz2 rfl (by omega) v L.length (notePVals NP) hs h2 A m c (notePVals NN) hx (by rw [notePVals_len, hm]) hA hr (fun u hu => by
    obtain ⟨r, _, hu⟩ := List.mem_flatMap.1 hu
    exact noteP_one r u hu) (by simp only [maxLen]; omega) (by omega) h4.size fun v' w' ho' hg' hat' => ?_
  refine h v' w' ⟨NP ++ NN, by rw [List.map_append, h1], by rw [notePVals_app, List.length_append, List.length_map, hm]; exact ho', fun r hr => ?_, h4.grown hg' h4.size (fun q hq => (h2.lt q hq).1)⟩ hg'.size (fun g hg hne => hg'.block g hg (fun e => hne e.symm)) hat'
  have hk : ∀ g, v.ownBlock = some g → ∃ cs, W.heap[g]? = some (.cells cs 32 (0, 0)) := fun g hg => own_kind h2 g hg
  rcases List.mem_append.1 hr with hr | hr
  · exact (h3 r hr).grown hg' hk
  · exact (hok r hr).grown hg' hk
end Go.Proofs.YtmkccblcmiflfaaGreat

namespace Go.Proofs.YtmkccblcmiflfaaGreat
open Go.RowKit Go.Maps Go.WideMaps

def putN (q : Str × Str) : NoteV := ⟨1, q.1, 0, 0, q.2, [], 0, []⟩
def genN (q : Str × Int) : NoteV := ⟨4, q.1, q.2, 0, [], [], 0, []⟩
def placedN (q : Str × EntV) : NoteV := ⟨2, q.1, q.2.gen, 0, [], q.2.sum, q.2.size, q.2.places⟩
def tombN (q : Str × Int) : NoteV := ⟨6, q.1, q.2, 0, [], [], 1, []⟩
def retireN (n : Int) : NoteV := ⟨5, [], 0, n, [], [], 0, []⟩
def waiting (C : CV) (q : Str × Int) : Bool := decide (0 ≤ waitsC C q.1)
def lastG (l : List (Str × Int)) : Int := (l.getLast?.map Prod.snd).getD 0
def gensC (C : CV) : List (Str × Int) := C.begun.filter (waiting C)
def notesC (C : CV) : List NoteV :=
  C.staged.map putN ++ (gensC C).map genN ++ (if lastG (gensC C) < C.gen then [genN ([], C.gen)] else []) ++ (entsC C).map placedN ++ C.tombs.map tombN ++ (sortI C.retired).map retireN
theorem NSt.own_lt {w0 w : World} {v : Value} {L : List NoteV} (h : NSt w0 w v L) {g : Nat} (hg : v.ownBlock = some g) : g < w.heap.size := by
  obtain ⟨NP, h1, h2, h3, h4⟩ := h
  exact (h2.lt g hg).2
theorem step_append_n (w0 W : World) {ops : Array Oper} {o : Oper} {a : Act} {K : Act → World → Prop} {Q : Exit → Act → World → Prop} {E : Prop} (hgd : o.guard = none) (s x : Operand)
    (ho : o.op = .call { callee := .builtin .append, args := #[s, x], argTypes := #[22, 22] })
    (v : Value) (L : List NoteV) (hs : a.eval s = v) (hst : NSt w0 W v L)
    (A : Option Addr) (m c : Nat) (NN : List NoteP) (hm : NN.length = m) (hA : A = none → m = 0) (hx : a.eval x = .slice A m c) (hr : SrcAt W A m (notePVals NN)) (hok : ∀ r ∈ NN, NotePOk w0 W r)
    (hL : L.length + m ≤ 1000000)
    (h : ∀ v' w', NSt w0 w' v' (L ++ NN.map (·.v)) → W.heap.size ≤ w'.heap.size → (∀ g, g < W.heap.size → v.ownBlock ≠ some g → w'.heap[g]? = W.heap[g]?) → (v'.ownBlock = v.ownBlock ∨ v'.ownBlock = some W.heap.size) → K (a.put o.dst v') w') :
    if Region.wanted o (yielded ops a.tmps) = true then Oper.wp Tryz.prog o a W K Q else E := by
  obtain ⟨i0, hi0, hz0, hz1, hz2⟩ := info_parts noteC_info
  obtain ⟨NP, h1, h2, h3, h4⟩ := hst
  refine step_append_src W hgd s x 22 ho w0.heap.size 32 i0 _ 8 112 Tryz.underlying22 hi0 hz0 hz1 hz2 rfl (by omega) v L.length (notePVals NP) hs h2 A m c (notePVals NN) hx (by rw [notePVals_len, hm]) hA hr (fun u hu => by
    obtain ⟨r, _, hu⟩ := List.mem_flatMap.1 hu
    exact noteP_one r u hu) (by simp only [maxLen]; omega) (by omega) h4.size fun v' w' ho' hg' hat' => ?_
  refine h v' w' ⟨NP ++ NN, by rw [List.map_append, h1], by rw [notePVals_app, List.length_append, List.length_map, hm]; exact ho', fun r hr => ?_, h4.grown hg' h4.size (fun q hq => (h2.lt q hq).1)⟩ hg'.size (fun g hg hne => hg'.block g hg (fun e => hne e.symm)) hat'
  have hk : ∀ g, v.ownBlock = some g → ∃ cs, W.heap[g]? = some (.cells cs 32 (0, 0)) := fun g hg => own_kind h2 g hg
  rcases List.mem_append.1 hr with hr | hr
  · exact (h3 r hr).grown hg' hk
  · exact (hok r hr).grown hg' hk
theorem genVals_get {L : List (Str × Int)} {j : Nat} {x : Str × Int} (h : L[j]? = some x) (t : Nat) (ht : t < 8) : (genVals L)[j * 8 + t]? = (genCells x)[t]? := by
  induction L generalizing j with
  | nil => simp at h
  | cons y L ih =>
    have hc : genVals (y :: L) = genCells y ++ genVals L := rfl
    rw [hc]
    cases j with
    | zero =>
      obtain rfl : y = x := by simpa using h
      rw [List.getElem?_append_left (by show 0 * 8 + t < 8; omega)]
      congr 1
      omega
    | succ j =>
      rw [List.getElem?_append_right (by show 8 ≤ _; omega), show (j + 1) * 8 + t - (genCells y).length = j * 8 + t by show (j + 1) * 8 + t - 8 = _; omega]
      exact ih (by simpa using h)
theorem take_wait {C : CV} {q : Nat} {x : Str × Int} (hx : C.begun[q]? = some x) :
    (waiting C x = true → (C.begun.take (q + 1)).filter (waiting C) = (C.begun.take q).filter (waiting C) ++ [x]) ∧ (waiting C x = false → (C.begun.take (q + 1)).filter (waiting C) = (C.begun.take q).filter (waiting C)) := by
  rw [List.take_add_one, hx, Option.toList_some, List.filter_append]
  exact ⟨fun h => by simp [h], fun h => by simp [h]⟩
theorem lastG_snoc (l : List (Str × Int)) (x : Str × Int) : lastG (l ++ [x]) = x.2 := by simp [lastG]
/-- A row that a loop runs along while notes are collected: it stays. -/
def Stays (w1 : World) (B : Option Addr) (w : World) (v : Value) : Prop := ∀ g, B = some ⟨g, 0, none⟩ → w.heap[g]? = w1.heap[g]? ∧ v.ownBlock ≠ some g ∧ g < w.heap.size
theorem Stays.below {w1 w w' : World} {B : Option Addr} {v : Value} (h : Stays w1 B w v) (hb : Below w.heap.size w w') : Stays w1 B w' v := fun g hg =>
  have ⟨h1, h2, h3⟩ := h g hg
  ⟨(hb.block g h3).trans h1, h2, Nat.lt_of_lt_of_le h3 hb.size⟩
theorem Stays.step {w1 w w' : World} {B : Option Addr} {v v' : Value} (h : Stays w1 B w v) (hz : w.heap.size ≤ w'.heap.size) (hk : ∀ g, g < w.heap.size → v.ownBlock ≠ some g → w'.heap[g]? = w.heap[g]?) (hat : v'.ownBlock = v.ownBlock ∨ v'.ownBlock = some w.heap.size) : Stays w1 B w' v' := fun g hg => by
  obtain ⟨h1, h2, h3⟩ := h g hg
  refine ⟨(hk g h3 h2).trans h1, fun e => ?_, by omega⟩
  rcases hat with hat | hat
  · exact h2 (hat ▸ e)
  · rw [hat] at e
    have := Option.some.inj e
    omega
theorem RowAt.past {w0 W w' : World} {v : Value} {L : List NoteV} {g : Nat} {t : TypeId} {xs : List Value} (h : RowAt W g t xs) (hst : NSt w0 W v L) (hk : ∀ g, g < W.heap.size → v.ownBlock ≠ some g → w'.heap[g]? = W.heap[g]?) (ht : 32 ≠ t) : RowAt w' g t xs :=
  h.of_eq (hk g h.size (fun e => by
    obtain ⟨NP, _, h2, _⟩ := hst
    obtain ⟨cs, hc⟩ := own_kind h2 g e
    obtain ⟨cs', hc', _⟩ := h
    rw [hc] at hc'
    injection hc' with hc'
    injection hc' with _ ht' _
    exact ht ht'))
theorem RowAt.below' {w w' : World} {g : Nat} {t : TypeId} {xs : List Value} (h : RowAt w g t xs) (hb : Below w.heap.size w w') : RowAt w' g t xs := h.of_eq (hb.block g h.size)
theorem EntPOk.past {w0 w1 W w' : World} {v : Value} {L : List NoteV} {r : EntP} (h : EntPOk w1 W r) (hst : NSt w0 W v L) (hk : ∀ g, g < W.heap.size → v.ownBlock ≠ some g → w'.heap[g]? = W.heap[g]?) : EntPOk w1 w' r :=
  h.imp id fun ⟨g, h1, h2, h3⟩ => ⟨g, h1, h2, h3.past hst hk (by decide)⟩
def placedP (r : EntP) : NoteP := ⟨placedN (r.key, r.e), none, 0, r.B, r.e.places.length⟩
theorem placedP_ok {w0 w : World} {r : EntP} (h : EntPOk w0 w r) (hl : r.e.places.length ≤ maxLen) : NotePOk w0 w (placedP r) := ⟨PartAt.nil _ _ _, PartAt.of_out h hl⟩
def tombP (q : Str × Int) : NoteP := ⟨tombN q, none, 0, none, 0⟩
theorem tombP_vals (L : List (Str × Int)) : notePVals (L.map tombP) = tombVals L := by
  induction L with
  | nil => rfl
  | cons x L ih =>
    show (tombP x).cells ++ notePVals (L.map tombP) = _ ++ tombVals L
    rw [ih]
    rfl
theorem MapAt.lenI {z : Value} {w : World} {b N : Nat} {L : List (Int × Value)} (h : MapAt ikey z w b N L) : L.length ≤ N := by
  obtain ⟨D, hown, hperm⟩ := h.permI
  have h1 := hperm.length_eq
  rw [List.length_map] at h1
  have h2 := hown.size_le
  have h3 : (intKeys D).length ≤ Maps.size D := by
    cases D with
    | map es => simp [intKeys, Maps.size]
    | _ => exact Nat.zero_le _
  omega
theorem src_new1' (W : World) (t : TypeId) (cs : Array Value) (g : Nat) (hg : g = W.heap.size) : SrcAt (W.alloc (.cells cs t)) (some ⟨g, 0, none⟩) 1 cs.toList := by
  subst hg
  refine .inr ⟨_, 0, rfl, fun j u hu => ?_⟩
  rw [Nat.zero_add, (Blk.made W t cs).cell]
  simpa using hu
def placedL (PL : List EntP) : List NoteV := PL.map fun r => placedN (r.key, r.e)
theorem placedL_take {PL : List EntP} {q : Nat} {r : EntP} (h : PL[q]? = some r) : placedL (PL.take (q + 1)) = placedL (PL.take q) ++ [placedN (r.key, r.e)] := by
  rw [List.take_add_one, h, Option.toList_some]; unfold placedL; rw [List.map_append]; rfl
theorem retire_take {L : List Int} {q : Nat} {x : Int} (h : L[q]? = some x) : (L.take (q + 1)).map retireN = (L.take q).map retireN ++ [retireN x] := by
  rw [List.take_add_one, h, Option.toList_some, List.map_append]; rfl
section
set_option maxHeartbeats 8000000
set_option maxRecDepth 16000
theorem cNotes (F : Nat → Prop) (p N : Nat) (C : CV) (w : World) (h : CatAt F w p N C) (hN : N ≤ 100000) :
    Calls Tryz.prog 9 #[.pointer (some ⟨p, 0, none⟩)] w fun e w' => ∃ B, e = .returned (.slice B (notesC C).length (notesC C).length) ∧ (∃ c, NSt w w' (.slice B (notesC C).length c) (notesC C)) ∧ Below w.heap.size w w' := by
  have H := Lib.hid h
  obtain ⟨sv, tv, SR, ER, be, bb, br, hr⟩ := h
  have hpz : p < w.heap.size := hr.blk.size
  obtain ⟨SB, sc, rfl, hsc1, hsc2, hSB⟩ := own_form hr.stg.1
  have c0 : w.cell? ⟨p, 0, none⟩ = some (.slice SB C.staged.length sc) := hr.blk.cell 0
  have hsn : C.staged.length ≤ N := hr.wf.staged
  have HR := Lib.hid hr
  have STG := Lib.hid hr.stg
  have hbn : C.begun.length ≤ N := by have := hr.begs.len; simpa [begunVals] using this
  have hsr : SR.length = C.staged.length := by rw [← hr.stgs, List.length_map]
  have HSR := Lib.hid hsr
  clear hr hsr
  generalize hgn : C.staged.length = n at *
  have HNS := Lib.hid hgn
  clear hgn
  go_enter Tryz.func9, Tryz.ntmps9
  go_wp2_with fail
  go_loopw [3, 20] (fun v i wx => ∃ j : Nat, i = .int .i64 j ∧ j ≤ n ∧ NSt w wx v ((C.staged.take j).map putN)) (fun _ i _ => n - (intOf i).toNat)
  case atStart => exact ⟨0, rfl, Nat.zero_le _, NSt.start w⟩
  case round =>
    obtain ⟨j, rfl, hj, hst⟩ := hrel
    obtain ⟨wo, rfl⟩ : ∃ wo : World, wo = wr := ⟨_, rfl⟩
    have ST := Lib.hid hst
    have hbl := hst.bel
    have BL := Lib.hid hbl
    have hz := hbl.size
    have hlj : ((C.staged.take j).map putN).length = j := by rw [List.length_map, List.length_take, HNS.out]; omega
    have HLJ := Lib.hid hlj
    have hfm := hst.form
    rw [hlj] at hfm
    obtain ⟨A1, k1, rfl, hn1, hc1, hA1⟩ := hfm
    clear hlj
    by_cases hlt2 : j < n
    · have d1 : decide (j < n) = true := by simpa using hlt2
      obtain ⟨r, hr⟩ : ∃ r, SR[j]? = some r := ⟨_, List.getElem?_eq_getElem (by rw [HSR.out]; exact hlt2)⟩
      obtain ⟨g, rfl⟩ : ∃ g, SB = some ⟨g, 0, none⟩ := by
        rcases hSB with ⟨_, h, _⟩ | h
        · omega
        · exact h
      have hg : g < w.heap.size := (STG.out.1.lt g rfl).2
      have k0 : wo.cell? ⟨g, j * 2, none⟩ = some (encStr r.key) := (hbl.cell (p := ⟨g, j * 2, none⟩) hg).trans (STG.out.row.cell (blobVals_get hr).1)
      have k2 : wo.cell? ⟨g, j * 2 + 1, none⟩ = some (.slice r.A r.n r.c) := (hbl.cell (p := ⟨g, j * 2 + 1, none⟩) hg).trans (STG.out.row.cell (blobVals_get hr).2)
      have hBO : Bys wo 0 r.A r.n r.c r.data := ((OwnRow.owning ..).below (HR.out.blobs r (List.mem_of_getElem? hr)) hbl).1
      have hq : C.staged[j]? = some (r.key, r.data) := by rw [← HR.out.stgs, List.getElem?_map, hr]; rfl
      have hd := (HR.out.wf.keys _ (List.mem_of_getElem? hq)).2.2
      have hdn : r.data.length = r.n := hBO.len
      have hn512 : r.n ≤ 512 := by simp only at hd; omega
      have HDN := Lib.hid hdn
      have HB := Lib.hid hBO
      have HT := Lib.hid (show (C.staged.take (j + 1)).map putN = (C.staged.take j).map putN ++ [putN (r.key, r.data)] by rw [List.take_add_one, hq, Option.toList_some, List.map_append]; rfl)
      clear hst hbl hr hBO hq hd hdn
      go_upto_region 7 with fail
      obtain ⟨wa, hwa⟩ : ∃ wa, wa = wo.alloc (.cells #[encStr r.key, .slice r.A r.n r.c] 70) := ⟨_, rfl⟩
      change Code.wp _ _ _ _ (wo.alloc (.cells #[encStr r.key, .slice r.A r.n r.c] 70))
      rw [← hwa]
      have BNA := Lib.hid (show Blk wa wo.heap.size 70 #[encStr r.key, .slice r.A r.n r.c] by rw [hwa]; exact heap_alloc_new wo _)
      have BA := Lib.hid (show Below wo.heap.size wo wa by rw [hwa]; exact (Below.refl _ _).alloc (Nat.le_refl _) _)
      have hza := BA.out.size
      have hna : wo.heap.size < wa.heap.size := BNA.out.size
      have x0 : wa.cell? ⟨wo.heap.size, 0, none⟩ = some (encStr r.key) := BNA.out.cell 0
      have x1 : wa.cell? ⟨wo.heap.size, 1, none⟩ = some (.slice r.A r.n r.c) := BNA.out.cell 1
      clear hwa k0 k2
      refine wp_region_held_drew (S := (fun w' => w'.cell? ⟨wo.heap.size, 0, none⟩ = some (encStr r.key) ∧ w'.cell? ⟨wo.heap.size, 1, none⟩ = some (.slice r.A r.n r.c))) (by kernel_rfl) ⟨x0, x1⟩ (fun hHeld => ?_)
      refine tk (i := 0) (v := ?vNnn10) rfl ?hyNnn10 ?restNnn10
      case hyNnn10 => (intro w hSw; (try dsimp only at hSw); go_simp <;> with_reducible rfl)
      try simp only [Act.put, pt1, pt2, pt3]
      refine tk (i := 1) (v := ?vNnn11) rfl ?hyNnn11 ?restNnn11
      case hyNnn11 => (intro w hSw; (try dsimp only at hSw); go_simp <;> with_reducible rfl)
      try simp only [Act.put, pt1, pt2, pt3]
      refine tk (i := 2) (v := ?vNnn12) rfl ?hyNnn12 ?restNnn12
      case hyNnn12 => (intro w hSw; (try dsimp only at hSw); go_simp <;> with_reducible rfl)
      try simp only [Act.put, pt1, pt2, pt3]
      refine tk (i := 3) (v := ?vNnn13) rfl ?hyNnn13 ?restNnn13
      case hyNnn13 => (intro w hSw; (try dsimp only at hSw); go_simp <;> with_reducible rfl)
      try simp only [Act.put, pt1, pt2, pt3]
      refine tk (i := 4) (v := ?vNnn14) rfl ?hyNnn14 ?restNnn14
      case hyNnn14 => (intro w hSw; (try dsimp only at hSw); go_simp <;> with_reducible rfl)
      try simp only [Act.put, pt1, pt2, pt3]
      refine wpAnyH_ready (rs := [5]) (by kernel_rfl) (by simp) ?_
      refine AllReadyH.cons rfl (fun K hK => ?_) AllReadyH.nil
      go_simp
      go_wp2_with (go_at_call 30; refine (bclone r.A r.n r.c r.data _ HB.out.form (by omega) (by exact BytesIn.keep HB.out.bytes hza (fun b off _ hb => BA.out.block b hb))).mono ?_; rintro e w2 ⟨B2, k2', rfl, ho2, hb2⟩; have O2 := Lib.hid (show w2.ownsRow wa.heap.size 5 1 (.slice B2 r.n k2') r.n (byteVals r.data) from ho2); have B2' := Lib.hid (show Below wa.heap.size wa w2 from ⟨hb2.os, hb2.tape, hb2.output, hb2.size, hb2.block⟩); have BN2 := Lib.hid (BNA.out.below B2'.out hna); have y0 : w2.cell? ⟨wo.heap.size, 0, none⟩ = some (encStr r.key) := BN2.out.cell 0; have y1 : w2.cell? ⟨wo.heap.size, 1, none⟩ = some (.slice r.A r.n r.c) := BN2.out.cell 1; have hz2 := B2'.out.size; clear ho2 hb2)
      clear hHeld
      refine hK.out _ _ ⟨y0, y1⟩ (fun hHeld => ?_)
      clear hK K
      refine tk (i := 6) (v := ?vNnn16) rfl ?hyNnn16 ?restNnn16
      case hyNnn16 => (intro w hSw; (try dsimp only at hSw); go_simp <;> with_reducible rfl)
      try simp only [Act.put, pt1, pt2, pt3]
      refine wpAnyH_ready (rs := [7]) (by kernel_rfl) (by simp) ?_
      refine AllReadyH.cons rfl (fun K hK => ?_) AllReadyH.nil
      go_simp
      clear hHeld
      refine hK.out _ _ (by (try dsimp only); go_keep) (fun hHeld => ?_)
      clear hK K
      refine wpAnyH_ready (rs := [8]) (by kernel_rfl) (by simp) ?_
      refine AllReadyH.cons rfl (fun K hK => ?_) AllReadyH.nil
      refine step_append_n w _ rfl (.tmp 24) (.tmp 31) rfl _ ((C.staged.take j).map putN) rfl (by exact (ST.out.below (BA.out.trans (B2'.out.mono hza))).below ((Below.refl _ _).alloc (Nat.le_refl _) _)) (some ⟨w2.heap.size, 0, none⟩) 1 1 [⟨putN (r.key, r.data), B2, k2', none, 0⟩] rfl (fun e => by cases e) (by show Value.slice _ 1 1 = _; rfl) (by rw [notePVals_one1]; show SrcAt _ _ _ [.int .i64 1, encStr r.key, .int .i64 0, .int .i64 0, .slice B2 r.data.length k2', encStr [], .int .i64 0, .slice none 0 0]; rw [HDN.out]; exact src_new _ _ _ _) (fun r' hr' => by have e : r' = ⟨putN (r.key, r.data), B2, k2', none, 0⟩ := by { simpa using hr' }; subst e; exact NotePOk.below (w := w2) ⟨by { rw [show (putN (r.key, r.data)).data = r.data from rfl, HDN.out]; exact (PartAt.of_own O2.out).old (by omega) }, PartAt.nil _ _ _⟩ ((Below.refl _ w2).alloc (Nat.le_refl _) _)) (by rw [HLJ.out]; omega) ?_; intro v' w3 hst3 hz3 hk3 _; have ST3 := Lib.hid hst3; have hb3 : w3.heap[wo.heap.size]? = w2.heap[wo.heap.size]? := (hk3 wo.heap.size (by simp; omega) (fun e => by have := ST.out.own_lt e; omega)).trans (Below.heap_alloc _ _ _ (by omega)); have z0 : w3.cell? ⟨wo.heap.size, 0, none⟩ = some (encStr r.key) := (World.cell?_of_block (a := ⟨wo.heap.size, 0, none⟩) hb3).trans y0; have z1 : w3.cell? ⟨wo.heap.size, 1, none⟩ = some (.slice r.A r.n r.c) := (World.cell?_of_block (a := ⟨wo.heap.size, 1, none⟩) hb3).trans y1; clear hst3 hk3 hb3
      clear hHeld
      refine hK.out _ _ ⟨z0, z1⟩ (fun hHeld => ?_)
      clear hK K
      refine tk (i := 9) (v := ?vNnn19) rfl ?hyNnn19 ?restNnn19
      case hyNnn19 => (intro w hSw; (try dsimp only at hSw); go_simp <;> with_reducible rfl)
      refine wpAnyH_done (by kernel_rfl) ?_ _
      go_wp2_with fail
      go_roundw
      case rel => exact ⟨j + 1, by go_num, hlt2, by rw [HT.out]; exact ST3.out⟩
      case measure => simp [intOf]; omega
    · have d1 : decide (j < n) = false := by simpa using hlt2
      obtain rfl : j = n := by omega
      have hst2 := hst
      rw [List.take_of_length_le (by rw [HNS.out]; exact Nat.le_refl _)] at hst2
      have HS2 := Lib.hid hst2
      have HL2 := Lib.hid (show (C.staged.map putN).length = j by rw [List.length_map, HNS.out])
      have HCAT := Lib.hid (H.out.below hbl)
      clear hst hbl hst2 HLJ ST
      go_wp2_with (first
        | (go_at_call 31; refine (cGens F p N C _ HCAT.out hN).mono ?_; rintro e wg ⟨v2, rfl, ho2, hb2⟩; have OG := Lib.hid ho2; have BG := Lib.hid hb2; obtain ⟨GB, gc, rfl, hgc1, hgc2, hGB⟩ := own_form ho2; clear ho2 hb2)
        | fail)
      have HSG := Lib.hid (HS2.out.below BG.out)
      have hbl2 := HSG.out.bel
      have BL2 := Lib.hid hbl2
      have GST := Lib.hid (show Stays wg GB wg (.slice A1 j k1) from fun g hg => by
        subst hg
        have h1 := OG.out.lt g rfl
        refine ⟨rfl, fun e => ?_, h1.2⟩
        have h2 := HS2.out.own_lt e
        omega)
      generalize hgm : C.begun.length = m at *
      have HMS := Lib.hid hgm
      clear hgm hbl2 HS2
      go_loopw [3, 6, 37] (fun v la i wx => ∃ q : Nat, i = .int .i64 q ∧ q ≤ m ∧ la = .int .i64 (lastG ((C.begun.take q).filter (waiting C))) ∧ NSt w wx v (C.staged.map putN ++ ((C.begun.take q).filter (waiting C)).map genN) ∧ Stays wg GB wx v) (fun _ _ i _ => m - (intOf i).toNat)
      case atStart => exact ⟨0, rfl, Nat.zero_le _, rfl, by simpa using HSG.out, GST.out⟩
      case round =>
        obtain ⟨q, rfl, hq, rfl, hst, hblg⟩ := hrel
        obtain ⟨wq, rfl⟩ : ∃ wq : World, wq = wr := ⟨_, rfl⟩
        by_cases hlt3 : q < m
        · have d2 : decide (q < m) = true := by simpa using hlt3
          obtain ⟨⟨key, gg⟩, hx⟩ : ∃ x, C.begun[q]? = some x := ⟨_, List.getElem?_eq_getElem (by rw [HMS.out]; exact hlt3)⟩
          obtain ⟨g, rfl⟩ : ∃ g, GB = some ⟨g, 0, none⟩ := by
            rcases hGB with ⟨_, h, _⟩ | h
            · omega
            · exact h
          have hg : g < wg.heap.size := (OG.out.lt g rfl).2
          have k0 : wq.cell? ⟨g, q * 8, none⟩ = some (.int .i64 4) := (World.cell?_of_block (a := ⟨g, q * 8, none⟩) (hblg g rfl).1).trans ((RowAt.of_own OG.out).cell (genVals_get hx 0 (by omega)))
          have k1 : wq.cell? ⟨g, q * 8 + 1, none⟩ = some (encStr key) := (World.cell?_of_block (a := ⟨g, q * 8 + 1, none⟩) (hblg g rfl).1).trans ((RowAt.of_own OG.out).cell (genVals_get hx 1 (by omega)))
          have k2 : wq.cell? ⟨g, q * 8 + 2, none⟩ = some (.int .i64 gg) := (World.cell?_of_block (a := ⟨g, q * 8 + 2, none⟩) (hblg g rfl).1).trans ((RowAt.of_own OG.out).cell (genVals_get hx 2 (by omega)))
          have k3 : wq.cell? ⟨g, q * 8 + 3, none⟩ = some (.int .i64 0) := (World.cell?_of_block (a := ⟨g, q * 8 + 3, none⟩) (hblg g rfl).1).trans ((RowAt.of_own OG.out).cell (genVals_get hx 3 (by omega)))
          have k4 : wq.cell? ⟨g, q * 8 + 4, none⟩ = some (.slice none 0 0) := (World.cell?_of_block (a := ⟨g, q * 8 + 4, none⟩) (hblg g rfl).1).trans ((RowAt.of_own OG.out).cell (genVals_get hx 4 (by omega)))
          have k5 : wq.cell? ⟨g, q * 8 + 5, none⟩ = some (encStr []) := (World.cell?_of_block (a := ⟨g, q * 8 + 5, none⟩) (hblg g rfl).1).trans ((RowAt.of_own OG.out).cell (genVals_get hx 5 (by omega)))
          have k6 : wq.cell? ⟨g, q * 8 + 6, none⟩ = some (.int .i64 0) := (World.cell?_of_block (a := ⟨g, q * 8 + 6, none⟩) (hblg g rfl).1).trans ((RowAt.of_own OG.out).cell (genVals_get hx 6 (by omega)))
          have k7 : wq.cell? ⟨g, q * 8 + 7, none⟩ = some (.slice none 0 0) := (World.cell?_of_block (a := ⟨g, q * 8 + 7, none⟩) (hblg g rfl).1).trans ((RowAt.of_own OG.out).cell (genVals_get hx 7 (by omega)))
          have hfm := hst.form
          generalize (C.staged.map putN ++ ((C.begun.take q).filter (waiting C)).map genN).length = nl at hfm
          obtain ⟨A2, kq, rfl, hnl1, hnl2, hA2⟩ := hfm
          have STQ := Lib.hid hst
          have BLQ := Lib.hid hblg
          have HX := Lib.hid hx
          have HCQ := Lib.hid (H.out.below hst.bel)
          have hix := idxP_ge (isKey key) C.staged
          have hlq : (C.staged.map putN ++ ((C.begun.take q).filter (waiting C)).map genN).length ≤ j + m := by
            rw [List.length_append, HL2.out, List.length_map]
            have := List.length_filter_le (waiting C) (C.begun.take q)
            rw [List.length_take] at this
            omega
          clear hst hblg hx
          by_cases hw : 0 ≤ waitsC C key
          · have d3 : decide (0 ≤ waitsC C key) = true := by simpa using hw
            have HW := Lib.hid (show waiting C (key, gg) = true from d3)
            go_upto_region 14 with (go_at_call 32; refine (cWaits F p N C key _ (by exact HCQ.out.below ((Below.refl _ _).alloc (Nat.le_refl _) _))).mono ?_; rintro e w3 ⟨rfl, hb3⟩; have B3 := Lib.hid (show Below wq.heap.size wq w3 from ((Below.refl _ wq).alloc (Nat.le_refl _) _).trans (hb3.mono (by simp))); have BN3 := Lib.hid (show Blk w3 wq.heap.size 32 (genCells (key, gg)).toArray from Blk.below (heap_alloc_new wq _) hb3 (by simp)); clear hb3)
            have hz3 := B3.out.size
            have l0 : w3.cell? ⟨wq.heap.size, 0, none⟩ = some (.int .i64 4) := BN3.out.cell 0
            have l1 : w3.cell? ⟨wq.heap.size, 1, none⟩ = some (encStr key) := BN3.out.cell 1
            have l2 : w3.cell? ⟨wq.heap.size, 2, none⟩ = some (.int .i64 gg) := BN3.out.cell 2
            have l3 : w3.cell? ⟨wq.heap.size, 3, none⟩ = some (.int .i64 0) := BN3.out.cell 3
            have l4 : w3.cell? ⟨wq.heap.size, 4, none⟩ = some (.slice none 0 0) := BN3.out.cell 4
            have l5 : w3.cell? ⟨wq.heap.size, 5, none⟩ = some (encStr []) := BN3.out.cell 5
            have l6 : w3.cell? ⟨wq.heap.size, 6, none⟩ = some (.int .i64 0) := BN3.out.cell 6
            have l7 : w3.cell? ⟨wq.heap.size, 7, none⟩ = some (.slice none 0 0) := BN3.out.cell 7
            have hn3 : wq.heap.size < w3.heap.size := BN3.out.size
            clear k0 k1 k2 k3 k4 k5 k6 k7
            go_wp2_with (
              (at_builtin
               refine wpList_append_n w _ rfl (.tmp 46) (.tmp 48) rfl _ (C.staged.map putN ++ ((C.begun.take q).filter (waiting C)).map genN) rfl (by exact (STQ.out.below B3.out).below ((Below.refl _ _).alloc (Nat.le_refl _) _)) (some ⟨w3.heap.size, 0, none⟩) 1 1 [⟨genN (key, gg), none, 0, none, 0⟩] rfl (fun e => by cases e) (by show Value.slice _ 1 1 = _; rfl) (by rw [notePVals_one1]; show SrcAt _ _ _ [.int .i64 4, encStr key, .int .i64 gg, .int .i64 0, .slice none 0 0, encStr [], .int .i64 0, .slice none 0 0]; exact src_new _ _ _ _) (fun r' hr' => by
                 have e : r' = ⟨genN (key, gg), none, 0, none, 0⟩ := by simpa using hr'
                 subst e
                 exact ⟨PartAt.nil _ _ _, PartAt.nil _ _ _⟩) (by omega) ?_
               intro v' w4 hst4 hz4 hk4 hat4
               have ST4 := Lib.hid hst4
               have SY4 := Lib.hid (((BLQ.out.below B3.out).below ((Below.refl _ _).alloc (Nat.le_refl _) _)).step hz4 hk4 hat4)
               have hb4 : w4.heap[wq.heap.size]? = w3.heap[wq.heap.size]? := (hk4 wq.heap.size (by simp; omega) (fun e => by have := STQ.out.own_lt e; omega)).trans (Below.heap_alloc _ _ _ (by omega))
               have z2 : w4.cell? ⟨wq.heap.size, 2, none⟩ = some (.int .i64 gg) := (World.cell?_of_block (a := ⟨wq.heap.size, 2, none⟩) hb4).trans l2
               clear hst4 hk4 hat4 hb4))
            go_roundw
            case rel => exact ⟨q + 1, by go_num, hlt3, by rw [(take_wait HX.out).1 HW.out, lastG_snoc], by rw [(take_wait HX.out).1 HW.out, List.map_append, ← List.append_assoc]; exact ST4.out, SY4.out⟩
            case measure => simp [intOf]; omega
          · have d3 : decide (0 ≤ waitsC C key) = false := by simpa using hw
            have HW := Lib.hid (show waiting C (key, gg) = false from d3)
            go_upto_region 16 with (go_at_call 32; refine (cWaits F p N C key _ (by exact HCQ.out.below ((Below.refl _ _).alloc (Nat.le_refl _) _))).mono ?_; rintro e w3 ⟨rfl, hb3⟩; have B3 := Lib.hid (show Below wq.heap.size wq w3 from ((Below.refl _ wq).alloc (Nat.le_refl _) _).trans (hb3.mono (by simp))); clear hb3)
            go_wp2_with fail
            go_roundw
            case rel => exact ⟨q + 1, by go_num, hlt3, by rw [(take_wait HX.out).2 HW.out], by rw [(take_wait HX.out).2 HW.out]; exact STQ.out.below B3.out, BLQ.out.below B3.out⟩
            case measure => simp [intOf]; omega
        · have d2 : decide (q < m) = false := by simpa using hlt3
          obtain rfl : q = m := by omega
          have hst2 := hst
          have hfull : (C.begun.take q).filter (waiting C) = gensC C := by rw [List.take_of_length_le (by rw [HMS.out]; exact Nat.le_refl _)]; rfl
          rw [hfull] at hst2
          have hlg : (gensC C).length ≤ q := by have := List.length_filter_le (waiting C) C.begun; rw [HMS.out] at this; exact this
          have hfm := hst2.form
          generalize hgl : (C.staged.map putN ++ (gensC C).map genN).length = nl at hfm
          obtain ⟨A2, kq, rfl, hnl1, hnl2, hA2⟩ := hfm
          have hnl : nl ≤ j + q := by rw [← hgl, List.length_append, HL2.out, List.length_map]; omega
          have HGL := Lib.hid hgl
          have STQ := Lib.hid hst2
          have hblq := hst2.bel
          have c5 : wq.cell? ⟨p, 5, none⟩ = some (.int .i64 C.gen) := (hblq.cell (p := ⟨p, 5, none⟩) hpz).trans (HR.out.blk.cell 5)
          have HBQ := Lib.hid hblq
          rw [hfull] at *
          clear hst hst2 hblg hblq hgl hfull
          by_cases hl5 : lastG (gensC C) < C.gen
          · have d5 : decide (lastG (gensC C) < C.gen) = true := by simpa using hl5
            go_upto_region 19 with (
              (at_builtin
               refine wpList_append_n w _ rfl (.tmp 59) (.tmp 65) rfl _ (C.staged.map putN ++ (gensC C).map genN) rfl (by exact STQ.out.below ((Below.refl _ _).alloc (Nat.le_refl _) _)) (some ⟨wq.heap.size, 0, none⟩) 1 1 [⟨genN ([], C.gen), none, 0, none, 0⟩] rfl (fun e => by cases e) (by show Value.slice _ 1 1 = _; rfl) (by rw [notePVals_one1]; show SrcAt _ _ _ [.int .i64 4, encStr [], .int .i64 C.gen, .int .i64 0, .slice none 0 0, encStr [], .int .i64 0, .slice none 0 0]; exact src_new _ _ _ _) (fun r' hr' => by
                 have e : r' = ⟨genN ([], C.gen), none, 0, none, 0⟩ := by simpa using hr'
                 subst e
                 exact ⟨PartAt.nil _ _ _, PartAt.nil _ _ _⟩) (by rw [HGL.out]; omega) ?_
               intro v' w4 hst4 hz4 hk4 hat4
               have ST4 := Lib.hid (show NSt w w4 v' (C.staged.map putN ++ (gensC C).map genN ++ [genN ([], C.gen)]) from hst4)
               clear hst4 hk4 hat4))
            generalize hX : C.staged.map putN ++ (gensC C).map genN ++ [genN ([], C.gen)] = X at *
            have HXE := Lib.hid (show X = C.staged.map putN ++ (gensC C).map genN ++ (if lastG (gensC C) < C.gen then [genN ([], C.gen)] else []) by rw [if_pos hl5]; exact hX.symm)
            have hfm4 := ST4.out.form
            have hXl : X.length ≤ j + q + 1 := by rw [← hX, List.length_append, HGL.out]; simp; omega
            generalize hnx : X.length = nx at *
            have HNX := Lib.hid hnx
            obtain ⟨A4, k4, rfl, hnx1, hnx2, hA4⟩ := hfm4
            have SX := Lib.hid ST4.out
            clear hX hnx d5 hl5 ST4
            have hpw4 : w4.cell? ⟨p, 3, none⟩ = w.cell? ⟨p, 3, none⟩ := SX.out.bel.cell (p := ⟨p, 3, none⟩) hpz
            clear hpw4
            go_wp2_with (first
              | (go_at_call 15; refine (cEntries F p N C _ (by exact H.out.below SX.out.bel) hN).mono ?_; rintro e we ⟨ve, PL, rfl, ho2, hb2⟩; obtain ⟨E2, hv2, hE2⟩ := ho2.out.form; subst hv2; have O2 := Lib.hid ho2; have B2 := Lib.hid hb2; clear hb2 ho2)
              | fail)
            have hlE : (entsC C).length = C.entries.length := by unfold entsC; rw [List.length_map, sortS_len, List.length_map]
            have hen : (entsC C).length ≤ N := by
              rw [hlE]
              have h1 := HR.out.ents.len
              have h2 : (entVals ER).length = C.entries.length := by rw [← HR.out.entr, entVals, List.length_map, List.length_map]
              omega
            have hpl : PL.length = (entsC C).length := by rw [← O2.out.is, List.length_map]
            have HPX := Lib.hid (show placedL PL = (entsC C).map placedN by rw [← O2.out.is, List.map_map]; rfl)
            have SE := Lib.hid (SX.out.below B2.out)
            have hzx := SX.out.bel.size
            have RE := Lib.hid (show ∀ g, E2 = some ⟨g, 0, none⟩ → RowAt we g 43 (entPVals PL) from fun g hg => by
              rcases hE2 with ⟨h, _⟩ | ⟨g', h1, _, h3⟩
              · rw [h] at hg; cases hg
              · rw [h1] at hg; cases hg; exact h3)
            have PE := Lib.hid (show ∀ r ∈ PL, EntPOk w we r from fun r hr => (O2.out.ok r hr).old hzx)
            have hE3 : E2 = none ∧ (entsC C).length = 0 ∨ ∃ g, E2 = some ⟨g, 0, none⟩ := hE2.imp id (fun ⟨g, h, _⟩ => ⟨g, h⟩)
            have HPN := Lib.hid hpl
            have PMX := Lib.hid (show ∀ r ∈ PL, r.e.places.length ≤ maxLen from fun r hr => by
              have h1 : (r.key, r.e) ∈ entsC C := by rw [← O2.out.is]; exact List.mem_map.2 ⟨r, hr, rfl⟩
              unfold entsC at h1
              obtain ⟨k, hk, he⟩ := List.mem_map.1 h1
              injection he with he1 he2
              have hh : hasL C.entries k = true := hasL_mem.2 ((List.mergeSort_perm _ _).mem_iff.1 hk)
              have hm := HR.out.wf.ents _ (getL_mem zeroV hh)
              have h7 := hm.2.2.2.2.2.2.1
              have h6 := hm.2.2.2.2.2.1
              rw [← he2]
              show (getL zeroV C.entries k).places.length ≤ maxLen
              simp only [maxLen] at *
              omega)
            clear hlE hpl hE2 O2
            generalize hne : (entsC C).length = ne at *
            clear hne
            go_loopw [3, 70] (fun v i wx => ∃ y : Nat, i = .int .i64 y ∧ y ≤ ne ∧ NSt w wx v (X ++ placedL (PL.take y)) ∧ (∀ g, E2 = some ⟨g, 0, none⟩ → RowAt wx g 43 (entPVals PL)) ∧ (∀ r ∈ PL, EntPOk w wx r)) (fun _ i _ => ne - (intOf i).toNat)
            case atStart => exact ⟨0, rfl, Nat.zero_le _, by simpa [placedL] using SE.out, RE.out, PE.out⟩
            case round =>
              obtain ⟨y, rfl, hy, hst, hre, hpe⟩ := hrel
              obtain ⟨wy, rfl⟩ : ∃ wy : World, wy = wr := ⟨_, rfl⟩
              have hfm := hst.form
              have hly : (X ++ placedL (PL.take y)).length ≤ j + q + 1 + y := by
                rw [List.length_append, HNX.out]
                unfold placedL
                rw [List.length_map, List.length_take]
                omega
              have STY := Lib.hid hst
              have REY := Lib.hid hre
              have PEY := Lib.hid hpe
              have hzy := hst.bel.size
              generalize hny : (X ++ placedL (PL.take y)).length = ny at *
              have HNY := Lib.hid hny
              obtain ⟨A5, k5, rfl, hny1, hny2, hA5⟩ := hfm
              by_cases hlt4 : y < ne
              · have d6 : decide (y < ne) = true := by simpa using hlt4
                obtain ⟨r, hr⟩ : ∃ r, PL[y]? = some r := ⟨_, List.getElem?_eq_getElem (by rw [HPN.out]; exact hlt4)⟩
                obtain ⟨g, rfl⟩ : ∃ g, E2 = some ⟨g, 0, none⟩ := by
                  rcases hE3 with ⟨_, h⟩ | h
                  · omega
                  · exact h
                have hgr := hre g rfl
                have hg : g < wy.heap.size := hgr.size
                have k0 : wy.cell? ⟨g, y * 5, none⟩ = some (encStr r.key) := hgr.cell (entPVals_get hr 0 (by omega))
                have k1 : wy.cell? ⟨g, y * 5 + 1, none⟩ = some (.int .i64 r.e.gen) := hgr.cell (entPVals_get hr 1 (by omega))
                have k2 : wy.cell? ⟨g, y * 5 + 2, none⟩ = some (.int .i64 r.e.size) := hgr.cell (entPVals_get hr 2 (by omega))
                have k3 : wy.cell? ⟨g, y * 5 + 3, none⟩ = some (encStr r.e.sum) := hgr.cell (entPVals_get hr 3 (by omega))
                have k4 : wy.cell? ⟨g, y * 5 + 4, none⟩ = some (.slice r.B r.e.places.length r.e.places.length) := hgr.cell (entPVals_get hr 4 (by omega))
                have HTY := Lib.hid (placedL_take hr)
                have HRM := Lib.hid (List.mem_of_getElem? hr)
                clear hst hre hpe hgr hr hny
                go_wp2_with (
                  (at_builtin
                   refine wpList_append_n w _ rfl (.tmp 74) (.tmp 86) rfl _ (X ++ placedL (PL.take y)) rfl (by exact (STY.out.below ((Below.refl _ _).alloc (Nat.le_refl _) _)).below ((Below.refl _ _).alloc (Nat.le_refl _) _)) (some ⟨wy.heap.size + 1, 0, none⟩) 1 1 [placedP r] rfl (fun e => by cases e) (by show Value.slice _ 1 1 = _; simp) (by rw [notePVals_one1]; show SrcAt _ _ _ [.int .i64 2, encStr r.key, .int .i64 r.e.gen, .int .i64 0, .slice none 0 0, encStr r.e.sum, .int .i64 r.e.size, .slice r.B r.e.places.length r.e.places.length]; exact src_new1' _ _ _ _ (by simp)) (fun r' hr' => by
                     have e : r' = placedP r := by simpa using hr'
                     subst e
                     exact placedP_ok (((PEY.out r HRM.out).below ((Below.refl _ _).alloc (Nat.le_refl _) _)).below ((Below.refl _ _).alloc (Nat.le_refl _) _)) (PMX.out r HRM.out)) (by rw [HNY.out]; omega) ?_
                   intro v' w5 hst5 hz5 hk5 hat5
                   have SB5 := Lib.hid ((STY.out.below ((Below.refl _ _).alloc (Nat.le_refl _) (.cells #[encStr r.key, .int .i64 r.e.gen, .int .i64 r.e.size, encStr r.e.sum, .slice r.B r.e.places.length r.e.places.length] 43))).below ((Below.refl _ _).alloc (Nat.le_refl _) (.cells (placedP r).cells.toArray 32)))
                   have ST5 := Lib.hid hst5
                   have RE5 := Lib.hid (show ∀ g', some (⟨g, 0, none⟩ : Addr) = some ⟨g', 0, none⟩ → RowAt w5 g' 43 (entPVals PL) from fun g' hg' => (((REY.out g' hg').below' ((Below.refl _ _).alloc (Nat.le_refl _) _)).below' ((Below.refl _ _).alloc (Nat.le_refl _) _)).past SB5.out hk5 (by decide))
                   have PE5 := Lib.hid (show ∀ r ∈ PL, EntPOk w w5 r from fun r hr => (((PEY.out r hr).below ((Below.refl _ _).alloc (Nat.le_refl _) _)).below ((Below.refl _ _).alloc (Nat.le_refl _) _)).past SB5.out hk5)
                   clear hst5 hk5 hat5 SB5))
                go_roundw
                case rel => exact ⟨y + 1, by go_num, hlt4, by rw [HTY.out, ← List.append_assoc]; exact ST5.out, RE5.out, PE5.out⟩
                case measure => simp [intOf]; omega
              · have d6 : decide (y < ne) = false := by simpa using hlt4
                obtain rfl : y = ne := by omega
                clear hst hre hpe hny
                have hfull2 : placedL (PL.take y) = (entsC C).map placedN := by rw [List.take_of_length_le (by rw [HPN.out]; exact Nat.le_refl _), HPX.out]
                have ST6 := Lib.hid (show NSt w wy (.slice A5 ny k5) (X ++ (entsC C).map placedN) by rw [← hfull2]; exact STY.out)
                have HN6 := Lib.hid (show (X ++ (entsC C).map placedN).length = ny by rw [← hfull2]; exact HNY.out)
                clear hfull2 STY HNY REY PEY HPX HPN PMX
                have B6 := Lib.hid ST6.out.bel
                have C6 := Lib.hid (HR.out.below B6.out)
                have x3 : wy.cell? ⟨p, 3, none⟩ = some tv := C6.out.blk.cell 3
                have hpy : p < wy.heap.size := C6.out.blk.size
                obtain ⟨TB, tc, rfl, htc1, htc2, hTB⟩ := own_form C6.out.tmb.1
                have S6 := Lib.hid (orow_src C6.out.tmb)
                have hnt : C.tombs.length ≤ N := C6.out.wf.tombs
                generalize hnl6 : C.tombs.length = nt at *
                have HNT := Lib.hid hnl6
                clear hnl6
                go_upto_region 25 with (
                  (at_builtin
                   refine wpList_append_n w _ rfl (.tmp 89) (.tmp 93) rfl _ (X ++ (entsC C).map placedN) rfl (by exact ST6.out) TB nt tc (C.tombs.map tombP) (by rw [List.length_map, HNT.out]) (fun e => by rcases hTB with ⟨_, h, _⟩ | ⟨g, h⟩; exact h; rw [h] at e; cases e) (by show Value.slice _ _ _ = _; rfl) (by rw [tombP_vals]; exact S6.out.1) (fun r' hr' => by
                     obtain ⟨q, _, rfl⟩ := List.mem_map.1 hr'
                     exact ⟨PartAt.nil _ _ _, PartAt.nil _ _ _⟩) (by rw [HN6.out]; omega) ?_
                   intro v' w7 hst7 hz7 hk7 hat7
                   have ST7 := Lib.hid (show NSt w w7 v' (X ++ (entsC C).map placedN ++ C.tombs.map tombN) by rw [List.map_map] at hst7; exact hst7)
                   clear hst7 hk7 hat7))
                have hfm7 := ST7.out.form
                have hl7 : (X ++ (entsC C).map placedN ++ C.tombs.map tombN).length ≤ ny + nt := by rw [List.length_append, HN6.out, List.length_map, HNT.out]; exact Nat.le_refl _
                generalize hn7 : (X ++ (entsC C).map placedN ++ C.tombs.map tombN).length = n7 at *
                have HN7 := Lib.hid hn7
                obtain ⟨A7, k7, rfl, hn71, hn72, hA7⟩ := hfm7
                clear hn7
                have C7 := Lib.hid (HR.out.below ST7.out.bel)
                have x4 : w7.cell? ⟨p, 4, none⟩ = some (.map (some br)) := C7.out.blk.cell 4
                have hpy7 : p < w7.heap.size := C7.out.blk.size
                have hkeys : (retVals C.retired).map Prod.fst = C.retired := by unfold retVals; rw [List.map_map]; exact List.map_id _
                have hlen : (retVals C.retired).length = C.retired.length := by unfold retVals; rw [List.length_map]
                have hnr : C.retired.length ≤ N := by rw [← hlen]; exact C7.out.rets.lenI
                have hso := cSortedR (.agg #[]) br N (retVals C.retired) w7 C7.out.rets (by omega)
                rw [hlen, hkeys] at hso
                have SO := Lib.hid hso
                have HSI := Lib.hid (sortI_len C.retired)
                have STX := Lib.hid ST7.out
                clear hkeys hlen hso
                generalize C.retired.length = nr at *
                go_wp2_with (first
                  | (go_at_call 34; refine (cKeysR br _).mono ?_; rintro e w8 ⟨rfl, rfl⟩)
                  | (go_at_call 33; refine SO.out.mono ?_; rintro e w9 ⟨RB, rc, rfl, hrow, hb9⟩; have RW9 := Lib.hid hrow; have B9 := Lib.hid hb9; obtain ⟨RB', rc', e1, hrn1, hrc1, hRB⟩ := own_form hrow; cases e1; clear hrow hb9))
                have ST9 := Lib.hid (STX.out.below B9.out)
                have RR9 := Lib.hid (show ∀ g, RB = some ⟨g, 0, none⟩ → RowAt w9 g 3 (intVals (sortI C.retired)) from fun g hg => by
                  subst hg
                  exact RowAt.of_own RW9.out)
                clear SO STX
                go_loopw [3, 102] (fun v i wx => ∃ y : Nat, i = .int .i64 y ∧ y ≤ nr ∧ NSt w wx v (X ++ (entsC C).map placedN ++ C.tombs.map tombN ++ ((sortI C.retired).take y).map retireN) ∧ (∀ g, RB = some ⟨g, 0, none⟩ → RowAt wx g 3 (intVals (sortI C.retired)))) (fun _ i _ => nr - (intOf i).toNat)
                case atStart => exact ⟨0, rfl, Nat.zero_le _, by rw [List.take_zero, List.map_nil, List.append_nil]; exact ST9.out, RR9.out⟩
                case round =>
                  obtain ⟨z, rfl, hzr, hst, hre⟩ := hrel
                  obtain ⟨wz, rfl⟩ : ∃ wz : World, wz = wr := ⟨_, rfl⟩
                  have hfm := hst.form
                  have hlz : (X ++ (entsC C).map placedN ++ C.tombs.map tombN ++ ((sortI C.retired).take z).map retireN).length ≤ n7 + z := by
                    rw [List.length_append, HN7.out, List.length_map, List.length_take]
                    omega
                  have STZ := Lib.hid hst
                  have REZ := Lib.hid hre
                  generalize hnz : (X ++ (entsC C).map placedN ++ C.tombs.map tombN ++ ((sortI C.retired).take z).map retireN).length = nz at *
                  have HNZ := Lib.hid hnz
                  obtain ⟨A8, k8, rfl, hnz1, hnz2, hA8⟩ := hfm
                  by_cases hlt5 : z < nr
                  · have d7 : decide (z < nr) = true := by simpa using hlt5
                    obtain ⟨r, hr⟩ : ∃ r, (sortI C.retired)[z]? = some r := ⟨_, List.getElem?_eq_getElem (by rw [HSI.out]; exact hlt5)⟩
                    obtain ⟨g, rfl⟩ : ∃ g, RB = some ⟨g, 0, none⟩ := by
                      rcases hRB with ⟨_, h, _⟩ | h
                      · omega
                      · exact h
                    have hgr := hre g rfl
                    have k0 : wz.cell? ⟨g, z, none⟩ = some (.int .i64 r) := hgr.cell (by unfold intVals; rw [List.getElem?_map, hr]; rfl)
                    have HTZ := Lib.hid (retire_take hr)
                    clear hst hre hgr hr hnz
                    go_wp2_with (
                      (at_builtin
                       refine wpList_append_n w _ rfl (.tmp 106) (.tmp 109) rfl _ (X ++ (entsC C).map placedN ++ C.tombs.map tombN ++ ((sortI C.retired).take z).map retireN) rfl (by exact STZ.out.below ((Below.refl _ _).alloc (Nat.le_refl _) _)) (some ⟨wz.heap.size, 0, none⟩) 1 1 [⟨retireN r, none, 0, none, 0⟩] rfl (fun e => by cases e) (by show Value.slice _ 1 1 = _; rfl) (by rw [notePVals_one1]; show SrcAt _ _ _ [.int .i64 5, encStr [], .int .i64 0, .int .i64 r, .slice none 0 0, encStr [], .int .i64 0, .slice none 0 0]; exact src_new _ _ _ _) (fun r' hr' => by
                         have e : r' = ⟨retireN r, none, 0, none, 0⟩ := by simpa using hr'
                         subst e
                         exact ⟨PartAt.nil _ _ _, PartAt.nil _ _ _⟩) (by rw [HNZ.out]; omega) ?_
                       intro v' w10 hst10 hz10 hk10 hat10
                       have ST10 := Lib.hid hst10
                       have RE10 := Lib.hid (show ∀ g', some (⟨g, 0, none⟩ : Addr) = some ⟨g', 0, none⟩ → RowAt w10 g' 3 (intVals (sortI C.retired)) from fun g' hg' => ((REZ.out g' hg').below' ((Below.refl _ _).alloc (Nat.le_refl _) _)).past (STZ.out.below ((Below.refl _ _).alloc (Nat.le_refl _) (.cells #[.int .i64 5, encStr [], .int .i64 0, .int .i64 r, .slice none 0 0, encStr [], .int .i64 0, .slice none 0 0] 32))) hk10 (by decide))
                       clear hst10 hk10 hat10))
                    go_roundw
                    case rel => exact ⟨z + 1, by go_num, hlt5, by rw [HTZ.out, ← List.append_assoc]; exact ST10.out, RE10.out⟩
                    case measure => simp [intOf]; omega
                  · have d7 : decide (z < nr) = false := by simpa using hlt5
                    obtain rfl : z = nr := by omega
                    clear hst hre
                    have hnote : X ++ (entsC C).map placedN ++ C.tombs.map tombN ++ ((sortI C.retired).take z).map retireN = notesC C := by
                      rw [List.take_of_length_le (by rw [HSI.out]; exact Nat.le_refl _)]
                      unfold notesC
                      rw [HXE.out]
                    have hstf := STZ.out
                    rw [hnote] at hnz hstf
                    have HNF := Lib.hid hnz
                    have STF := Lib.hid hstf
                    clear hnote hnz hstf
                    go_wp2_with (go_at_call 35; refine (clip_note A8 _ k8 _ hnz1 hnz2 hA8).mono ?_; rintro e w11 ⟨rfl, rfl⟩)
                    go_ret
                    refine ⟨A8, by rw [HNF.out]; rfl, ⟨k8, ?_⟩, STF.out.bel⟩
                    rw [HNF.out]
                    exact STF.out
          · have d5 : decide (lastG (gensC C) < C.gen) = false := by simpa using hl5
            go_upto_region 19 with fail
            generalize hX : C.staged.map putN ++ (gensC C).map genN = X at *
            have HXE := Lib.hid (show X = C.staged.map putN ++ (gensC C).map genN ++ (if lastG (gensC C) < C.gen then [genN ([], C.gen)] else []) by rw [if_neg hl5, List.append_nil]; exact hX.symm)
            have HNX := Lib.hid HGL.out
            have hXl : X.length ≤ j + q + 1 := by rw [HGL.out]; omega
            obtain ⟨w4, rfl⟩ : ∃ x : World, x = wq := ⟨_, rfl⟩
            obtain ⟨A4, rfl⟩ : ∃ x : Option Addr, x = A2 := ⟨_, rfl⟩
            obtain ⟨k4, rfl⟩ : ∃ x : Nat, x = kq := ⟨_, rfl⟩
            obtain ⟨nx, rfl⟩ : ∃ x : Nat, x = nl := ⟨_, rfl⟩
            have SX := Lib.hid STQ.out
            rw [HNX.out] at hXl
            clear hX d5 hl5
            have hpw4 : w4.cell? ⟨p, 3, none⟩ = w.cell? ⟨p, 3, none⟩ := SX.out.bel.cell (p := ⟨p, 3, none⟩) hpz
            clear hpw4
            go_wp2_with (first
              | (go_at_call 15; refine (cEntries F p N C _ (by exact H.out.below SX.out.bel) hN).mono ?_; rintro e we ⟨ve, PL, rfl, ho2, hb2⟩; obtain ⟨E2, hv2, hE2⟩ := ho2.out.form; subst hv2; have O2 := Lib.hid ho2; have B2 := Lib.hid hb2; clear hb2 ho2)
              | fail)
            have hlE : (entsC C).length = C.entries.length := by unfold entsC; rw [List.length_map, sortS_len, List.length_map]
            have hen : (entsC C).length ≤ N := by
              rw [hlE]
              have h1 := HR.out.ents.len
              have h2 : (entVals ER).length = C.entries.length := by rw [← HR.out.entr, entVals, List.length_map, List.length_map]
              omega
            have hpl : PL.length = (entsC C).length := by rw [← O2.out.is, List.length_map]
            have HPX := Lib.hid (show placedL PL = (entsC C).map placedN by rw [← O2.out.is, List.map_map]; rfl)
            have SE := Lib.hid (SX.out.below B2.out)
            have hzx := SX.out.bel.size
            have RE := Lib.hid (show ∀ g, E2 = some ⟨g, 0, none⟩ → RowAt we g 43 (entPVals PL) from fun g hg => by
              rcases hE2 with ⟨h, _⟩ | ⟨g', h1, _, h3⟩
              · rw [h] at hg; cases hg
              · rw [h1] at hg; cases hg; exact h3)
            have PE := Lib.hid (show ∀ r ∈ PL, EntPOk w we r from fun r hr => (O2.out.ok r hr).old hzx)
            have hE3 : E2 = none ∧ (entsC C).length = 0 ∨ ∃ g, E2 = some ⟨g, 0, none⟩ := hE2.imp id (fun ⟨g, h, _⟩ => ⟨g, h⟩)
            have HPN := Lib.hid hpl
            have PMX := Lib.hid (show ∀ r ∈ PL, r.e.places.length ≤ maxLen from fun r hr => by
              have h1 : (r.key, r.e) ∈ entsC C := by rw [← O2.out.is]; exact List.mem_map.2 ⟨r, hr, rfl⟩
              unfold entsC at h1
              obtain ⟨k, hk, he⟩ := List.mem_map.1 h1
              injection he with he1 he2
              have hh : hasL C.entries k = true := hasL_mem.2 ((List.mergeSort_perm _ _).mem_iff.1 hk)
              have hm := HR.out.wf.ents _ (getL_mem zeroV hh)
              have h7 := hm.2.2.2.2.2.2.1
              have h6 := hm.2.2.2.2.2.1
              rw [← he2]
              show (getL zeroV C.entries k).places.length ≤ maxLen
              simp only [maxLen] at *
              omega)
            clear hlE hpl hE2 O2
            generalize hne : (entsC C).length = ne at *
            clear hne
            go_loopw [3, 70] (fun v i wx => ∃ y : Nat, i = .int .i64 y ∧ y ≤ ne ∧ NSt w wx v (X ++ placedL (PL.take y)) ∧ (∀ g, E2 = some ⟨g, 0, none⟩ → RowAt wx g 43 (entPVals PL)) ∧ (∀ r ∈ PL, EntPOk w wx r)) (fun _ i _ => ne - (intOf i).toNat)
            case atStart => exact ⟨0, rfl, Nat.zero_le _, by simpa [placedL] using SE.out, RE.out, PE.out⟩
            case round =>
              obtain ⟨y, rfl, hy, hst, hre, hpe⟩ := hrel
              obtain ⟨wy, rfl⟩ : ∃ wy : World, wy = wr := ⟨_, rfl⟩
              have hfm := hst.form
              have hly : (X ++ placedL (PL.take y)).length ≤ j + q + 1 + y := by
                rw [List.length_append, HNX.out]
                unfold placedL
                rw [List.length_map, List.length_take]
                omega
              have STY := Lib.hid hst
              have REY := Lib.hid hre
              have PEY := Lib.hid hpe
              have hzy := hst.bel.size
              generalize hny : (X ++ placedL (PL.take y)).length = ny at *
              have HNY := Lib.hid hny
              obtain ⟨A5, k5, rfl, hny1, hny2, hA5⟩ := hfm
              by_cases hlt4 : y < ne
              · have d6 : decide (y < ne) = true := by simpa using hlt4
                obtain ⟨r, hr⟩ : ∃ r, PL[y]? = some r := ⟨_, List.getElem?_eq_getElem (by rw [HPN.out]; exact hlt4)⟩
                obtain ⟨g, rfl⟩ : ∃ g, E2 = some ⟨g, 0, none⟩ := by
                  rcases hE3 with ⟨_, h⟩ | h
                  · omega
                  · exact h
                have hgr := hre g rfl
                have hg : g < wy.heap.size := hgr.size
                have k0 : wy.cell? ⟨g, y * 5, none⟩ = some (encStr r.key) := hgr.cell (entPVals_get hr 0 (by omega))
                have k1 : wy.cell? ⟨g, y * 5 + 1, none⟩ = some (.int .i64 r.e.gen) := hgr.cell (entPVals_get hr 1 (by omega))
                have k2 : wy.cell? ⟨g, y * 5 + 2, none⟩ = some (.int .i64 r.e.size) := hgr.cell (entPVals_get hr 2 (by omega))
                have k3 : wy.cell? ⟨g, y * 5 + 3, none⟩ = some (encStr r.e.sum) := hgr.cell (entPVals_get hr 3 (by omega))
                have k4 : wy.cell? ⟨g, y * 5 + 4, none⟩ = some (.slice r.B r.e.places.length r.e.places.length) := hgr.cell (entPVals_get hr 4 (by omega))
                have HTY := Lib.hid (placedL_take hr)
                have HRM := Lib.hid (List.mem_of_getElem? hr)
                clear hst hre hpe hgr hr hny
                go_wp2_with (
                  (at_builtin
                   refine wpList_append_n w _ rfl (.tmp 74) (.tmp 86) rfl _ (X ++ placedL (PL.take y)) rfl (by exact (STY.out.below ((Below.refl _ _).alloc (Nat.le_refl _) _)).below ((Below.refl _ _).alloc (Nat.le_refl _) _)) (some ⟨wy.heap.size + 1, 0, none⟩) 1 1 [placedP r] rfl (fun e => by cases e) (by show Value.slice _ 1 1 = _; simp) (by rw [notePVals_one1]; show SrcAt _ _ _ [.int .i64 2, encStr r.key, .int .i64 r.e.gen, .int .i64 0, .slice none 0 0, encStr r.e.sum, .int .i64 r.e.size, .slice r.B r.e.places.length r.e.places.length]; exact src_new1' _ _ _ _ (by simp)) (fun r' hr' => by
                     have e : r' = placedP r := by simpa using hr'
                     subst e
                     exact placedP_ok (((PEY.out r HRM.out).below ((Below.refl _ _).alloc (Nat.le_refl _) _)).below ((Below.refl _ _).alloc (Nat.le_refl _) _)) (PMX.out r HRM.out)) (by rw [HNY.out]; omega) ?_
                   intro v' w5 hst5 hz5 hk5 hat5
                   have SB5 := Lib.hid ((STY.out.below ((Below.refl _ _).alloc (Nat.le_refl _) (.cells #[encStr r.key, .int .i64 r.e.gen, .int .i64 r.e.size, encStr r.e.sum, .slice r.B r.e.places.length r.e.places.length] 43))).below ((Below.refl _ _).alloc (Nat.le_refl _) (.cells (placedP r).cells.toArray 32)))
                   have ST5 := Lib.hid hst5
                   have RE5 := Lib.hid (show ∀ g', some (⟨g, 0, none⟩ : Addr) = some ⟨g', 0, none⟩ → RowAt w5 g' 43 (entPVals PL) from fun g' hg' => (((REY.out g' hg').below' ((Below.refl _ _).alloc (Nat.le_refl _) _)).below' ((Below.refl _ _).alloc (Nat.le_refl _) _)).past SB5.out hk5 (by decide))
                   have PE5 := Lib.hid (show ∀ r ∈ PL, EntPOk w w5 r from fun r hr => (((PEY.out r hr).below ((Below.refl _ _).alloc (Nat.le_refl _) _)).below ((Below.refl _ _).alloc (Nat.le_refl _) _)).past SB5.out hk5)
                   clear hst5 hk5 hat5 SB5))
                go_roundw
                case rel => exact ⟨y + 1, by go_num, hlt4, by rw [HTY.out, ← List.append_assoc]; exact ST5.out, RE5.out, PE5.out⟩
                case measure => simp [intOf]; omega
              · have d6 : decide (y < ne) = false := by simpa using hlt4
                obtain rfl : y = ne := by omega
                clear hst hre hpe hny
                have hfull2 : placedL (PL.take y) = (entsC C).map placedN := by rw [List.take_of_length_le (by rw [HPN.out]; exact Nat.le_refl _), HPX.out]
                have ST6 := Lib.hid (show NSt w wy (.slice A5 ny k5) (X ++ (entsC C).map placedN) by rw [← hfull2]; exact STY.out)
                have HN6 := Lib.hid (show (X ++ (entsC C).map placedN).length = ny by rw [← hfull2]; exact HNY.out)
                clear hfull2 STY HNY REY PEY HPX HPN PMX
                have B6 := Lib.hid ST6.out.bel
                have C6 := Lib.hid (HR.out.below B6.out)
                have x3 : wy.cell? ⟨p, 3, none⟩ = some tv := C6.out.blk.cell 3
                have hpy : p < wy.heap.size := C6.out.blk.size
                obtain ⟨TB, tc, rfl, htc1, htc2, hTB⟩ := own_form C6.out.tmb.1
                have S6 := Lib.hid (orow_src C6.out.tmb)
                have hnt : C.tombs.length ≤ N := C6.out.wf.tombs
                generalize hnl6 : C.tombs.length = nt at *
                have HNT := Lib.hid hnl6
                clear hnl6
                go_upto_region 25 with (
                  (at_builtin
                   refine wpList_append_n w _ rfl (.tmp 89) (.tmp 93) rfl _ (X ++ (entsC C).map placedN) rfl (by exact ST6.out) TB nt tc (C.tombs.map tombP) (by rw [List.length_map, HNT.out]) (fun e => by rcases hTB with ⟨_, h, _⟩ | ⟨g, h⟩; exact h; rw [h] at e; cases e) (by show Value.slice _ _ _ = _; rfl) (by rw [tombP_vals]; exact S6.out.1) (fun r' hr' => by
                     obtain ⟨q, _, rfl⟩ := List.mem_map.1 hr'
                     exact ⟨PartAt.nil _ _ _, PartAt.nil _ _ _⟩) (by rw [HN6.out]; omega) ?_
                   intro v' w7 hst7 hz7 hk7 hat7
                   have ST7 := Lib.hid (show NSt w w7 v' (X ++ (entsC C).map placedN ++ C.tombs.map tombN) by rw [List.map_map] at hst7; exact hst7)
                   clear hst7 hk7 hat7))
                have hfm7 := ST7.out.form
                have hl7 : (X ++ (entsC C).map placedN ++ C.tombs.map tombN).length ≤ ny + nt := by rw [List.length_append, HN6.out, List.length_map, HNT.out]; exact Nat.le_refl _
                generalize hn7 : (X ++ (entsC C).map placedN ++ C.tombs.map tombN).length = n7 at *
                have HN7 := Lib.hid hn7
                obtain ⟨A7, k7, rfl, hn71, hn72, hA7⟩ := hfm7
                clear hn7
                have C7 := Lib.hid (HR.out.below ST7.out.bel)
                have x4 : w7.cell? ⟨p, 4, none⟩ = some (.map (some br)) := C7.out.blk.cell 4
                have hpy7 : p < w7.heap.size := C7.out.blk.size
                have hkeys : (retVals C.retired).map Prod.fst = C.retired := by unfold retVals; rw [List.map_map]; exact List.map_id _
                have hlen : (retVals C.retired).length = C.retired.length := by unfold retVals; rw [List.length_map]
                have hnr : C.retired.length ≤ N := by rw [← hlen]; exact C7.out.rets.lenI
                have hso := cSortedR (.agg #[]) br N (retVals C.retired) w7 C7.out.rets (by omega)
                rw [hlen, hkeys] at hso
                have SO := Lib.hid hso
                have HSI := Lib.hid (sortI_len C.retired)
                have STX := Lib.hid ST7.out
                clear hkeys hlen hso
                generalize C.retired.length = nr at *
                go_wp2_with (first
                  | (go_at_call 34; refine (cKeysR br _).mono ?_; rintro e w8 ⟨rfl, rfl⟩)
                  | (go_at_call 33; refine SO.out.mono ?_; rintro e w9 ⟨RB, rc, rfl, hrow, hb9⟩; have RW9 := Lib.hid hrow; have B9 := Lib.hid hb9; obtain ⟨RB', rc', e1, hrn1, hrc1, hRB⟩ := own_form hrow; cases e1; clear hrow hb9))
                have ST9 := Lib.hid (STX.out.below B9.out)
                have RR9 := Lib.hid (show ∀ g, RB = some ⟨g, 0, none⟩ → RowAt w9 g 3 (intVals (sortI C.retired)) from fun g hg => by
                  subst hg
                  exact RowAt.of_own RW9.out)
                clear SO STX
                go_loopw [3, 102] (fun v i wx => ∃ y : Nat, i = .int .i64 y ∧ y ≤ nr ∧ NSt w wx v (X ++ (entsC C).map placedN ++ C.tombs.map tombN ++ ((sortI C.retired).take y).map retireN) ∧ (∀ g, RB = some ⟨g, 0, none⟩ → RowAt wx g 3 (intVals (sortI C.retired)))) (fun _ i _ => nr - (intOf i).toNat)
                case atStart => exact ⟨0, rfl, Nat.zero_le _, by rw [List.take_zero, List.map_nil, List.append_nil]; exact ST9.out, RR9.out⟩
                case round =>
                  obtain ⟨z, rfl, hzr, hst, hre⟩ := hrel
                  obtain ⟨wz, rfl⟩ : ∃ wz : World, wz = wr := ⟨_, rfl⟩
                  have hfm := hst.form
                  have hlz : (X ++ (entsC C).map placedN ++ C.tombs.map tombN ++ ((sortI C.retired).take z).map retireN).length ≤ n7 + z := by
                    rw [List.length_append, HN7.out, List.length_map, List.length_take]
                    omega
                  have STZ := Lib.hid hst
                  have REZ := Lib.hid hre
                  generalize hnz : (X ++ (entsC C).map placedN ++ C.tombs.map tombN ++ ((sortI C.retired).take z).map retireN).length = nz at *
                  have HNZ := Lib.hid hnz
                  obtain ⟨A8, k8, rfl, hnz1, hnz2, hA8⟩ := hfm
                  by_cases hlt5 : z < nr
                  · have d7 : decide (z < nr) = true := by simpa using hlt5
                    obtain ⟨r, hr⟩ : ∃ r, (sortI C.retired)[z]? = some r := ⟨_, List.getElem?_eq_getElem (by rw [HSI.out]; exact hlt5)⟩
                    obtain ⟨g, rfl⟩ : ∃ g, RB = some ⟨g, 0, none⟩ := by
                      rcases hRB with ⟨_, h, _⟩ | h
                      · omega
                      · exact h
                    have hgr := hre g rfl
                    have k0 : wz.cell? ⟨g, z, none⟩ = some (.int .i64 r) := hgr.cell (by unfold intVals; rw [List.getElem?_map, hr]; rfl)
                    have HTZ := Lib.hid (retire_take hr)
                    clear hst hre hgr hr hnz
                    go_wp2_with (
                      (at_builtin
                       refine wpList_append_n w _ rfl (.tmp 106) (.tmp 109) rfl _ (X ++ (entsC C).map placedN ++ C.tombs.map tombN ++ ((sortI C.retired).take z).map retireN) rfl (by exact STZ.out.below ((Below.refl _ _).alloc (Nat.le_refl _) _)) (some ⟨wz.heap.size, 0, none⟩) 1 1 [⟨retireN r, none, 0, none, 0⟩] rfl (fun e => by cases e) (by show Value.slice _ 1 1 = _; rfl) (by rw [notePVals_one1]; show SrcAt _ _ _ [.int .i64 5, encStr [], .int .i64 0, .int .i64 r, .slice none 0 0, encStr [], .int .i64 0, .slice none 0 0]; exact src_new _ _ _ _) (fun r' hr' => by
                         have e : r' = ⟨retireN r, none, 0, none, 0⟩ := by simpa using hr'
                         subst e
                         exact ⟨PartAt.nil _ _ _, PartAt.nil _ _ _⟩) (by rw [HNZ.out]; omega) ?_
                       intro v' w10 hst10 hz10 hk10 hat10
                       have ST10 := Lib.hid hst10
                       have RE10 := Lib.hid (show ∀ g', some (⟨g, 0, none⟩ : Addr) = some ⟨g', 0, none⟩ → RowAt w10 g' 3 (intVals (sortI C.retired)) from fun g' hg' => ((REZ.out g' hg').below' ((Below.refl _ _).alloc (Nat.le_refl _) _)).past (STZ.out.below ((Below.refl _ _).alloc (Nat.le_refl _) (.cells #[.int .i64 5, encStr [], .int .i64 0, .int .i64 r, .slice none 0 0, encStr [], .int .i64 0, .slice none 0 0] 32))) hk10 (by decide))
                       clear hst10 hk10 hat10))
                    go_roundw
                    case rel => exact ⟨z + 1, by go_num, hlt5, by rw [HTZ.out, ← List.append_assoc]; exact ST10.out, RE10.out⟩
                    case measure => simp [intOf]; omega
                  · have d7 : decide (z < nr) = false := by simpa using hlt5
                    obtain rfl : z = nr := by omega
                    clear hst hre
                    have hnote : X ++ (entsC C).map placedN ++ C.tombs.map tombN ++ ((sortI C.retired).take z).map retireN = notesC C := by
                      rw [List.take_of_length_le (by rw [HSI.out]; exact Nat.le_refl _)]
                      unfold notesC
                      rw [HXE.out]
                    have hstf := STZ.out
                    rw [hnote] at hnz hstf
                    have HNF := Lib.hid hnz
                    have STF := Lib.hid hstf
                    clear hnote hnz hstf
                    go_wp2_with (go_at_call 35; refine (clip_note A8 _ k8 _ hnz1 hnz2 hA8).mono ?_; rintro e w11 ⟨rfl, rfl⟩)
                    go_ret
                    refine ⟨A8, by rw [HNF.out]; rfl, ⟨k8, ?_⟩, STF.out.bel⟩
                    rw [HNF.out]
                    exact STF.out
end
end Go.Proofs.YtmkccblcmiflfaaGreat
