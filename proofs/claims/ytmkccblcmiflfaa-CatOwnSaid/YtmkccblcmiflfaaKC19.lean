/- All the entries, by key. No condition beyond those that each theorem states. -/
import Derived.Test.YtmkccblcmiflfaaKC18
namespace Go.Proofs.Ytmkccblcmiflfaa
open Go.RowKit Go.Maps Go.WideMaps

theorem entC_info : (Try.prog.info? 46).map (fun i => (i.zero, i.size, i.bytes)) = some (some (.agg #[.string ⟨#[]⟩, .int .i64 0, .int .i64 0, .string ⟨#[]⟩, .slice none 0 0]), 5, 72) := by kernel_rfl
/-- An entry that is handed out, where its places lie. -/
structure EntP where
  key : Str
  e : EntV
  B : Option Addr
def EntP.cells (r : EntP) : List Value := [encStr r.key, .int .i64 r.e.gen, .int .i64 r.e.size, encStr r.e.sum, .slice r.B r.e.places.length r.e.places.length]
def entPVals (l : List EntP) : List Value := l.flatMap EntP.cells
theorem entPVals_snoc (l : List EntP) (r : EntP) : entPVals (l ++ [r]) = entPVals l ++ r.cells := by simp [entPVals]
theorem entP_one (r : EntP) : ∀ u ∈ r.cells, u.oneCell' = true := by
  intro u hu
  simp only [EntP.cells, List.mem_cons, List.not_mem_nil, or_false] at hu
  rcases hu with rfl | rfl | rfl | rfl | rfl <;> rfl
def EntPOk (w0 w : World) (r : EntP) : Prop := OutAt w0 w 40 (.slice r.B r.e.places.length r.e.places.length) r.e.places.length (placeVals r.e.places)
theorem EntPOk.below {w0 w w' : World} {r : EntP} (h : EntPOk w0 w r) (hb : Below w.heap.size w w') : EntPOk w0 w' r := OutAt.below h hb
/-- The entries as they are told: by key. -/
def entsC (C : CV) : List (Str × EntV) := (sortS (C.entries.map Prod.fst)).map fun k => (k, entC C k)
structure EntsOut (w0 w : World) (v : Value) (E : List (Str × EntV)) (PL : List EntP) : Prop where
  out : OutAt w0 w 46 v E.length (entPVals PL)
  is : PL.map (fun r => (r.key, r.e)) = E
  ok : ∀ r ∈ PL, EntPOk w0 w r
theorem cEntries_nil (w : World) : Calls Try.prog 15 #[.pointer none] w fun e w' => e = .returned (.slice none 0 0) ∧ w = w' := by
  go_enter Try.func15, Try.ntmps15
  go_wp2
  go_ret
  exact ⟨rfl, rfl⟩
theorem EntPOk.old {w0 w1 w : World} {r : EntP} (h : EntPOk w1 w r) (hz : w0.heap.size ≤ w1.heap.size) : EntPOk w0 w r := OutAt.old h hz
theorem EntPOk.grown {w0 w w' : World} {r : EntP} {row : Option Nat} (h : EntPOk w0 w r) (hg : w.grownBy w' row) (hr : ∀ g, row = some g → ∃ cs, w.heap[g]? = some (.cells cs 46 (0, 0))) : EntPOk w0 w' r := by
  rcases h with h | ⟨g, h1, h2, h3⟩
  · exact .inl h
  · refine .inr ⟨g, h1, h2, h3.of_eq (hg.block g h3.size (fun e => ?_))⟩
    obtain ⟨cs, hc⟩ := hr g e.symm
    obtain ⟨cs', hc', _⟩ := h3
    rw [hc] at hc'
    injection hc' with hc'
    injection hc' with _ ht _
    exact absurd ht (by decide)
theorem own_kind {w : World} {base : Nat} {t : TypeId} {size n : Nat} {v : Value} {xs : List Value} (h : w.ownsRow base t size v n xs) (g : Nat) (hg : v.ownBlock = some g) : ∃ cs, w.heap[g]? = some (.cells cs t (0, 0)) := by
  rcases h.2 with ⟨rfl, _⟩ | ⟨g', cap, cur, rfl, _, h3, _⟩
  · cases hg
  · have e : g' = g := Option.some.inj hg
    subst e
    exact ⟨cur, h3⟩
theorem CatR.entAt {F : Nat → Prop} {w : World} {p N : Nat} {C : CV} {sv tv : Value} {SR : List BlobR} {ER : List EntR} {be bb br : Nat} (hr : CatR F w p N C sv tv SR ER be bb br) {key : Str} (hh : hasL C.entries key = true) :
    ∃ r : EntR, r.key = key ∧ r.e = entC C key ∧ Form r.A r.n r.c ∧ r.n ≤ 1000000 ∧ PlacesIn w r.A r.n r.e.places ∧ (Instr.lookup 55 (.map (some be)) (encStr key) false).run Try.prog w = .ok (.agg #[encStr r.key, .int .i64 r.e.gen, .int .i64 r.e.size, encStr r.e.sum, .slice r.A r.n r.c]) w := by
  obtain ⟨r, h1, h2, h3, h4⟩ := getR hr.entr key hh
  have hok := orow_src (hr.entb r h1)
  have hw := hr.wf.ents (r.key, r.e) (by rw [← hr.entr]; exact List.mem_map.2 ⟨r, h1, rfl⟩)
  have hlen : r.e.places.length = r.n := by
    have := (hr.entb r h1).1.1
    rw [placeVals_len] at this
    omega
  have hkl : key.length ≤ maxLen := by
    have := hw.2.1
    simp only [h2] at this
    simp only [maxLen]
    omega
  have hl := hr.ents.look1 Try.underlying55 (zeroE w) (k := key) hkl
  rw [h4] at hl
  refine ⟨r, h2, h3, hok.2, ?_, ⟨hlen, hok.1⟩, hl⟩
  have h7 := hw.2.2.2.2.2.2.1
  have h6 := hw.2.2.2.2.2.1
  simp only at h7 h6
  omega
theorem MapAt.len {z : Value} {w : World} {b N : Nat} {L : List (Str × Value)} (h : MapAt skey z w b N L) : L.length ≤ N := by
  obtain ⟨D, hown, hperm⟩ := h.perm
  have h1 := hperm.length_eq
  rw [List.length_map] at h1
  have h2 := hown.size_le
  have h3 : (strKeys D).length ≤ Maps.size D := by
    cases D with
    | map es => simp [strKeys, Maps.size]
    | _ => exact Nat.zero_le _
  omega
section
set_option maxHeartbeats 4000000
set_option maxRecDepth 8000
theorem cEntries (F : Nat → Prop) (p N : Nat) (C : CV) (w : World) (h : CatAt F w p N C) (hN : N ≤ 100000) :
    Calls Try.prog 15 #[.pointer (some ⟨p, 0, none⟩)] w fun e w' => ∃ v PL, e = .returned v ∧ EntsOut w w' v (entsC C) PL ∧ Below w.heap.size w w' := by
  have H := Lib.hid h
  obtain ⟨sv, tv, SR, ER, be, bb, br, hr⟩ := h
  have c1 : w.cell? ⟨p, 1, none⟩ = some (.map (some be)) := hr.blk.cell 1
  have hpz : p < w.heap.size := hr.blk.size
  have hkeys : (entVals ER).map Prod.fst = C.entries.map Prod.fst := by
    rw [← hr.entr, entVals, List.map_map, List.map_map]; rfl
  have hlen : (entVals ER).length = C.entries.length := by
    have := congrArg List.length hkeys
    simpa using this
  have hso := cSortedE zeroEnt be N (entVals ER) w hr.ents (by omega)
  rw [hlen, hkeys] at hso
  have SO := Lib.hid hso
  have HKY := Lib.hid hkeys
  have HLN := Lib.hid hlen
  have HR := Lib.hid hr
  obtain ⟨i0, hi0, hz0, hz1, hz2⟩ := info_parts entC_info
  have hN2 : C.entries.length ≤ N := by rw [← hlen]; exact hr.ents.len
  clear hr hkeys hlen hso
  go_enter Try.func15, Try.ntmps15
  go_wp2_with (first
    | (go_at_call 35; refine (cKeysE be _).mono ?_; rintro e w1 ⟨rfl, rfl⟩)
    | (go_at_call 34; refine SO.out.mono ?_; rintro e w1 ⟨B, c, rfl, hrow, hb1⟩; have RW := Lib.hid hrow; have B1 := Lib.hid hb1; obtain ⟨B', c', e1, hn1, hc1, hB1⟩ := own_form hrow; cases e1; clear hrow hb1))
  have hsl : (sortS (C.entries.map Prod.fst)).length = C.entries.length := by rw [sortS_len, List.length_map]
  have hmem : ∀ key, key ∈ sortS (C.entries.map Prod.fst) → hasL C.entries key = true := fun key hk => hasL_mem.2 ((List.mergeSort_perm _ _).mem_iff.1 hk)
  have SL := Lib.hid hsl
  have MEM := Lib.hid hmem
  have hz1' := B1.out.size
  generalize C.entries.length = n at *
  clear hsl hmem SO H
  go_loopw [3, 15] (fun v i wx => ∃ (j : Nat) (PL : List EntP), i = .int .i64 j ∧ j ≤ n ∧ PL.length = j ∧ PL.map (fun r => (r.key, r.e)) = (entsC C).take j ∧ wx.ownsRow w1.heap.size 46 5 v j (entPVals PL) ∧ (∀ r ∈ PL, EntPOk w1 wx r) ∧ Below w1.heap.size w1 wx) (fun _ i _ => n - (intOf i).toNat)
  case atStart => exact ⟨0, [], rfl, Nat.zero_le _, rfl, rfl, World.ownsRow_nil _ _ _ _, (fun _ h => by cases h), Below.refl _ _⟩
  case round =>
    obtain ⟨j, PL, rfl, hj, hPL, hmap, hown, hok, hbl⟩ := hrel
    obtain ⟨wo, rfl⟩ : ∃ wo : World, wo = wr := ⟨_, rfl⟩
    have OW := Lib.hid hown
    have BL := Lib.hid hbl
    have OKL := Lib.hid hok
    have MP := Lib.hid hmap
    have PLN := Lib.hid hPL
    have hz := hbl.size
    obtain ⟨A1, k1, rfl, hn1', hc1', hA1⟩ := own_form hown
    by_cases hlt2 : j < n
    · have d1 : decide (j < n) = true := by simpa using hlt2
      obtain ⟨key, hkey⟩ : ∃ key, (sortS (C.entries.map Prod.fst))[j]? = some key := ⟨_, List.getElem?_eq_getElem (by rw [SL.out]; exact hlt2)⟩
      obtain ⟨g, rfl⟩ : ∃ g, B = some ⟨g, 0, none⟩ := by
        rcases hB1 with ⟨_, h, _⟩ | h
        · omega
        · exact h
      have hg : g < w1.heap.size := (RW.out.lt g rfl).2
      have BW := Lib.hid (B1.out.trans (hbl.mono hz1'))
      have kc : wo.cell? ⟨g, j, none⟩ = some (encStr key) := (hbl.cell (p := ⟨g, j, none⟩) hg).trans ((RowAt.of_own RW.out).cell (by unfold strVals; rw [List.getElem?_map, hkey]; rfl))
      have kp : wo.cell? ⟨p, 1, none⟩ = some (.map (some be)) := (BW.out.cell (p := ⟨p, 1, none⟩) hpz).trans c1
      obtain ⟨r, hr1, hr2, hr3, hr4, hr5, hlk⟩ := (HR.out.below BW.out).entAt (MEM.out key (List.mem_of_getElem? hkey))
      have HF := Lib.hid hr3
      have HPL := Lib.hid hr5
      have HT := Lib.hid (show (entsC C).take (j + 1) = (entsC C).take j ++ [(r.key, r.e)] by
        rw [List.take_add_one]
        congr 1
        unfold entsC
        rw [List.getElem?_map, hkey, hr1, hr2]
        rfl)
      clear hown hbl hok hmap hPL hkey hr1 hr2 hr3 hr5
      go_wp2_with (first
        | (go_at_call 36; refine (cCopied r.key r.e r.A r.n r.c _ HF.out hr4 (by exact HPL.out)).mono ?_; rintro en w2 ⟨v, rfl, ⟨B2, rfl, ho2⟩, hb2⟩; have O2 := Lib.hid ho2; have BL2 := Lib.hid (BL.out.trans (hb2.mono hz)); have OW2 := Lib.hid (own_of_eq OW.out (fun q hq => hb2.block q (OW.out.lt q hq).2)); have OK2 := Lib.hid (fun r hr => (OKL.out r hr).below hb2); have hz2' := hb2.size; clear ho2 hb2)
        | (at_builtin
           refine wpList_append_src _ rfl (.tmp 19) (.tmp 27) 43 rfl w1.heap.size 46 i0 _ 5 72 Try.underlying43 hi0 hz0 hz1 hz2 rfl (by omega) _ j _ rfl (by exact OW2.out.alloc _) (some ⟨w2.heap.size, 0, none⟩) 1 1 (EntP.cells ⟨r.key, r.e, B2⟩) rfl rfl (fun e => by cases e) (by exact src_new _ _ _ _) (entP_one _) (by simp only [maxLen]; omega) (by omega) (by simp; omega) ?_
           intro v' w3 hown3 hgr3 hat3
           have OW3 := Lib.hid hown3
           have HB3 := Lib.hid ((BL2.out.alloc (by omega) _).grown hgr3 (by simp; omega) (fun q hq => (OW2.out.lt q hq).1))
           have OK3 := Lib.hid (fun r hr => (EntPOk.below (OK2.out r hr) ((Below.refl _ w2).alloc (Nat.le_refl _) _)).grown hgr3 (fun g hg => own_kind (OW2.out.alloc _) g hg))
           have EP3 := Lib.hid (show EntPOk w1 w3 ⟨r.key, r.e, B2⟩ from (EntPOk.below (w := w2) (OutAt.old O2.out hz) ((Below.refl _ w2).alloc (Nat.le_refl _) _)).grown hgr3 (fun g hg => own_kind (OW2.out.alloc _) g hg))
           clear hown3 hgr3 hat3))
      go_roundw
      case rel => exact ⟨j + 1, PL ++ [⟨r.key, r.e, B2⟩], by go_num, hlt2, by rw [List.length_append, PLN.out]; rfl, by rw [List.map_append, MP.out, HT.out]; rfl, by rw [entPVals_snoc]; exact OW3.out, fun q hq => by
        rcases List.mem_append.1 hq with hq | hq
        · exact OK3.out q hq
        · have e : q = ⟨r.key, r.e, B2⟩ := by simpa using hq
          subst e
          exact EP3.out, HB3.out⟩
      case measure => simp [intOf]; omega
    · have d1 : decide (j < n) = false := by simpa using hlt2
      obtain rfl : j = n := by omega
      clear hown hbl hok hmap hPL
      go_wp2_with (go_at_call 37; refine (clip_ent A1 _ k1 _ hn1' hc1' hA1).mono ?_; rintro e w2 ⟨rfl, rfl⟩)
      go_ret
      have hE : (entsC C).length = j := by unfold entsC; rw [List.length_map, SL.out]
      have hMP := MP.out
      rw [List.take_of_length_le (by rw [hE]; exact Nat.le_refl _)] at hMP
      exact ⟨_, PL, rfl, ⟨by rw [hE]; exact (OutAt.of_own OW.out).old hz1', hMP, fun r hr => (OKL.out r hr).old hz1'⟩, B1.out.trans (BL.out.mono hz1')⟩
end
end Go.Proofs.Ytmkccblcmiflfaa
