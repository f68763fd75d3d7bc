/- Texts joined: KR22. No condition beyond those that each theorem states. -/
import Derived.Test.YtmkccblcmiflfaaGreatPK6
import Derived.Test.YtmkccblcmiflfaaGreatPK10
import Derived.Test.YtmkccblcmiflfaaGreatPK11
import Derived.Test.YtmkccblcmiflfaaGreatPK0
namespace Go.Proofs.YtmkccblcmiflfaaGreat
open Go.RowKit Go.Maps Go.WideMaps

theorem told_data {N : Nat} {C : CV} {x : Str × Str} {w w' : World} {e : Ending} (hw : CWf N C) (hx : x ∈ C.staged) (h : DataTold C x.1 w w' e) : ∃ B, e = .returned (.tuple #[.slice B x.2.length x.2.length, .bool true]) ∧ BytesIn w' B x.2.length x.2 := by
  rcases h with ⟨h0, _⟩ | ⟨d, v, ⟨i, _, hi⟩, _, rfl, ho⟩
  · rw [hasL_mem.2 (List.mem_map.2 ⟨x, hx, rfl⟩)] at h0
    cases h0
  · have hm := List.mem_of_getElem? hi
    have h1 := getL_at [] hw.nds (k := x.1) (v := d) hm
    have h2 := getL_at [] hw.nds (k := x.1) (v := x.2) hx
    obtain rfl : d = x.2 := h1.symm.trans h2
    have hb : ∃ B, v = .slice B x.2.length x.2.length ∧ BytesIn w' B x.2.length x.2 := by
      rcases ho with ⟨rfl, h0, _⟩ | ⟨g, rfl, _, h2⟩
      · have e : x.2 = [] := List.eq_nil_of_length_eq_zero h0
        rw [e]
        exact ⟨none, rfl, BytesIn.empty _ _⟩
      · exact ⟨_, rfl, h2.bytesIn⟩
    obtain ⟨B, rfl, hb⟩ := hb
    exact ⟨B, rfl, hb⟩
theorem told_nodata {C : CV} {k : Str} {w w' : World} {e : Ending} (hn : hasL C.staged k = false) (h : DataTold C k w w' e) : e = .returned (.tuple #[.slice none 0 0, .bool false]) := by
  rcases h with ⟨_, rfl⟩ | ⟨d, v, ⟨i, _, hi⟩, _⟩
  · rfl
  · rw [hasL_mem.2 (List.mem_map.2 ⟨_, List.mem_of_getElem? hi, rfl⟩)] at hn
    cases hn
theorem out_places {w0 w : World} {B : Option Addr} {l : Pls} (h : OutAt w0 w 95 (.slice B l.length l.length) l.length (placeVals l)) : PlacesIn w B l.length l := by
  refine ⟨rfl, ?_⟩
  rcases h with ⟨e, h0, hx⟩ | ⟨g, e, _, h2⟩
  · exact .inl ⟨h0, hx⟩
  · cases e
    exact OneRow.src h2
theorem own_strs {w : World} {base n c : Nat} {B : Option Addr} {L : List Str} (h : w.ownsRow base 9 1 (.slice B n c) n (strVals L)) (hl : L.length = n) : StrsRd w B n L := by
  obtain ⟨B', c', e, h1, h2, h3⟩ := own_form h
  cases e
  refine ⟨hl, ?_, Nat.le_trans h1 h2⟩
  rcases h3 with ⟨rfl, h0, _⟩ | ⟨g, rfl⟩
  · refine .inl ⟨h0, ?_⟩
    have e : L = [] := List.eq_nil_of_length_eq_zero (by rw [hl, h0])
    rw [e]
    rfl
  · exact OneRow.src (RowAt.of_own h)
theorem own_slice {w : World} {base n : Nat} {v : Value} {L : List Str} (h : w.ownsRow base 9 1 v n (strVals L)) : ∃ B c, v = .slice B n c := by
  obtain ⟨B, c, e, _⟩ := own_form h
  exact ⟨B, c, e⟩
theorem ents_rd {w0 w : World} {v : Value} {E : List (Str × EntV)} {PL : List EntP} {n : Nat} (h : EntsOut w0 w v E PL) (hn : E.length = n) (hm : n ≤ maxLen) (hp : ∀ q ∈ E, q.2.places.length ≤ maxLen) : ∃ A, v = .slice A n n ∧ EntsRd w A n PL := by
  have hl : PL.length = n := by rw [← hn, ← h.is, List.length_map]
  have hok : ∀ r ∈ PL, EntRd w r.e r.B r.e.places.length := fun r hr => ⟨out_places (h.ok r hr), hp (r.key, r.e) (by rw [← h.is]; exact List.mem_map.2 ⟨r, hr, rfl⟩)⟩
  have ho := h.out
  rw [hn] at ho
  rcases ho with ⟨rfl, h0, hx⟩ | ⟨g, rfl, _, h2⟩
  · exact ⟨none, by rw [h0], hl, .inl ⟨h0, hx⟩, hok, hm⟩
  · exact ⟨_, rfl, hl, OneRow.src h2, hok, hm⟩
theorem tombs_rd {w0 w : World} {v : Value} {L : List (Str × Int)} {n : Nat} (h : OutAt w0 w 32 v n (tombVals L)) (hn : L.length = n) (hm : n ≤ maxLen) : ∃ A, v = .slice A n n ∧ NotesRd w A n (L.map tombP) := by
  have hl : (L.map tombP).length = n := by rw [List.length_map, hn]
  have hok : ∀ r ∈ L.map tombP, NoteRd w r.v r.D r.v.data.length r.Q r.v.places.length := fun r hr => by
    obtain ⟨q, _, rfl⟩ := List.mem_map.1 hr
    exact ⟨BytesIn.empty _ _, ⟨rfl, .inl ⟨rfl, rfl⟩⟩, Nat.zero_le _⟩
  rcases h with ⟨rfl, h0, hx⟩ | ⟨g, rfl, _, h2⟩
  · exact ⟨none, by rw [h0], hl, .inl ⟨h0, by rw [tombP_vals, hx]⟩, hok, hm⟩
  · exact ⟨_, rfl, hl, by rw [tombP_vals]; exact OneRow.src h2, hok, hm⟩
theorem NtR.made' {w wx : World} (hb : Below w.heap.size w wx) : NtR w (wx.alloc (.cells #[] 32)) (.slice (some ⟨wx.heap.size, 0, none⟩) 0 0) [] := ⟨[], rfl, own_made wx _ 8 rfl hb.size, (fun _ h => by cases h), hb.trans ((Below.refl _ _).alloc hb.size _)⟩
section
set_option maxHeartbeats 16000000
set_option maxRecDepth 100000
theorem cAlike (F G : Nat → Prop) (p q N M : Nat) (C R : CV) (w : World) (hc : CatAt F w p N C) (hr0 : RefAt G w q M R) (hN : N ≤ 1000) (hM : M ≤ 1000) (rel : RelR C R) :
    Calls Tryz.prog 24 #[.pointer (some ⟨p, 0, none⟩), .pointer (some ⟨q, 0, none⟩)] w fun e w' => e = .returned (.bool true) ∧ Below w.heap.size w w' := by
  obtain ⟨i0, hi0, hz0, hz1, hz2⟩ := info_parts str_info
  have HC := Lib.hid hc
  have HR := Lib.hid hr0
  have WF := Lib.hid hc.facts
  have REL := Lib.hid rel
  obtain ⟨sw, sh, sb, st, sr, ER, hr⟩ := hr0
  obtain ⟨WB, wc, rfl, _, _, hWB⟩ := own_form hr.wait.1
  have hqz : q < w.heap.size := hr.blk.size
  have c0 : w.cell? ⟨q, 0, none⟩ = some (.slice WB R.staged.length wc) := hr.blk.cell 0
  have hlens := hr.lens
  have HW := Lib.hid (show ∀ (j : Nat) x, R.staged[j]? = some x → ∃ g, WB = some ⟨g, 0, none⟩ ∧ g < w.heap.size ∧ w.cell? ⟨g, j * 2, none⟩ = some (encStr x.1) ∧ w.cell? ⟨g, j * 2 + 1, none⟩ = some (encStr x.2) from fun j x hx => by
    have hlt : j < R.staged.length := (List.getElem?_eq_some_iff.1 hx).1
    rcases hWB with ⟨_, h0, _⟩ | ⟨g, rfl⟩
    · omega
    · exact ⟨g, rfl, (hr.wait.1.lt g rfl).2, hr.wait.row.cell (wait_get hx).1, hr.wait.row.cell (wait_get hx).2⟩)
  obtain ⟨EB0, ec, rfl, _, _, hEB⟩ := own_form hr.here.1
  obtain ⟨TB, tc, rfl, _, _, hTB⟩ := own_form hr.tmb.1
  have c1 : w.cell? ⟨q, 1, none⟩ = some (.slice EB0 R.entries.length ec) := hr.blk.cell 1
  have c3 : w.cell? ⟨q, 3, none⟩ = some (.slice TB R.tombs.length tc) := hr.blk.cell 3
  have c5 : w.cell? ⟨q, 5, none⟩ = some (.int .i64 R.gen) := hr.blk.cell 5
  have HT := Lib.hid (show ∀ (j : Nat) x, R.tombs[j]? = some x → ∃ g, TB = some ⟨g, 0, none⟩ ∧ g < w.heap.size ∧ w.cell? ⟨g, j * 2, none⟩ = some (encStr x.1) ∧ w.cell? ⟨g, j * 2 + 1, none⟩ = some (.int .i64 x.2) from fun j x hx => by
    have hlt : j < R.tombs.length := (List.getElem?_eq_some_iff.1 hx).1
    rcases hTB with ⟨_, h0, _⟩ | ⟨g, rfl⟩
    · omega
    · exact ⟨g, rfl, (hr.tmb.1.lt g rfl).2, hr.tmb.row.cell (mark_get hx).1, hr.tmb.row.cell (mark_get hx).2⟩)
  have HE := Lib.hid (show ∀ (j : Nat) x, R.entries[j]? = some x → ∃ g A n c, EB0 = some ⟨g, 0, none⟩ ∧ g < w.heap.size ∧ (w.cell? ⟨g, j * 5, none⟩ = some (encStr x.1) ∧ w.cell? ⟨g, j * 5 + 1, none⟩ = some (.int .i64 x.2.gen) ∧ w.cell? ⟨g, j * 5 + 2, none⟩ = some (.int .i64 x.2.size) ∧ w.cell? ⟨g, j * 5 + 3, none⟩ = some (encStr x.2.sum) ∧ w.cell? ⟨g, j * 5 + 4, none⟩ = some (.slice A n c)) ∧ EntRd w x.2 A n from fun j x hx => by
    have hlt : j < R.entries.length := (List.getElem?_eq_some_iff.1 hx).1
    rcases hEB with ⟨_, h0, _⟩ | ⟨g, rfl⟩
    · omega
    · have hx2 := hx
      rw [← hr.ents, List.getElem?_map] at hx2
      obtain ⟨r, hr1, hr2⟩ := Option.map_eq_some_iff.1 hx2
      obtain rfl : (r.key, r.e) = x := hr2
      have hp := hr.pls r (List.mem_of_getElem? hr1)
      have hsrc := orow_src hp
      have hn : r.e.places.length = r.n := by
        have h1 := hp.1.1
        rw [placeVals_len] at h1
        omega
      refine ⟨g, r.A, r.n, r.c, rfl, (hr.here.1.lt g rfl).2, ⟨?_, hr.here.row.cell (ent5_get hr1 1 (by omega)), hr.here.row.cell (ent5_get hr1 2 (by omega)), hr.here.row.cell (ent5_get hr1 3 (by omega)), hr.here.row.cell (ent5_get hr1 4 (by omega))⟩, ⟨⟨hn, hsrc.1⟩, ?_⟩⟩
      · have h1 := hr.here.row.cell (ent5_get hr1 0 (by omega))
        simpa using h1
      · obtain ⟨A', c', e1, h2, h3, _⟩ := own_form hp.1
        cases e1
        omega)
  have HERM := Lib.hid (show ER.map entKR = R.entries from hr.ents)
  have HERD := Lib.hid (show EntsRdR w EB0 R.entries.length ER from ⟨by have h := congrArg List.length hr.ents; rw [List.length_map] at h; exact h, (orow_src hr.here).1, fun r hr1 => by
    have hp := hr.pls r hr1
    have hn : r.e.places.length = r.n := by
      have h1 := hp.1.1
      rw [placeVals_len] at h1
      omega
    refine ⟨⟨hn, (orow_src hp).1⟩, ?_⟩
    obtain ⟨A', c', e1, h2, h3, _⟩ := own_form hp.1
    cases e1
    omega, by simp only [maxLen]; omega⟩)
  have hn0 : R.staged.length ≤ 1000 := by omega
  have hn1 : R.entries.length ≤ 1000 := by omega
  have hn3 : R.tombs.length ≤ 1000 := by omega
  clear hc rel hr hWB hEB hTB hlens
  generalize hl1 : R.entries.length = n1 at *
  generalize hl3 : R.tombs.length = n3 at *
  have L1 := Lib.hid hl1
  have L3 := Lib.hid hl3
  clear hl1 hl3
  generalize hl0 : R.staged.length = n0 at *
  have L0 := Lib.hid hl0
  clear hl0
  go_enter Tryz.func24, Tryz.ntmps24
  go_wp2_with fail
  go_loopw [5, 6] (fun v i wx => ∃ j : Nat, i = .int .i64 j ∧ j ≤ n0 ∧ wx.ownsRow w.heap.size 9 1 v j (strVals ((R.staged.take j).map Prod.fst)) ∧ Below w.heap.size w wx) (fun _ i _ => n0 - (intOf i).toNat)
  case atStart => exact ⟨0, rfl, Nat.zero_le _, by exact own_made w _ 1 rfl (Nat.le_refl _), (Below.refl _ _).alloc (Nat.le_refl _) _⟩
  case round =>
    obtain ⟨j, rfl, hj, hown, hbl⟩ := hrel
    obtain ⟨wo, rfl⟩ : ∃ wo : World, wo = wr := ⟨_, rfl⟩
    have OW := Lib.hid hown
    have BL := Lib.hid hbl
    have hz := hbl.size
    obtain ⟨A1, k1, rfl, hn1, hc1, hA1⟩ := own_form hown
    have u0 : wo.cell? ⟨q, 0, none⟩ = some (.slice WB n0 wc) := (hbl.cell (p := ⟨q, 0, none⟩) hqz).trans c0
    have hqo : q < wo.heap.size := Nat.lt_of_lt_of_le hqz hz
    by_cases hlt : j < n0
    · have d1 : decide (j < n0) = true := by simpa using hlt
      obtain ⟨x, hx⟩ : ∃ x, R.staged[j]? = some x := ⟨_, List.getElem?_eq_getElem (by rw [L0.out]; exact hlt)⟩
      obtain ⟨g, rfl, hg, k0, k2⟩ := HW.out j x hx
      have u1 : wo.cell? ⟨g, j * 2, none⟩ = some (encStr x.1) := (hbl.cell (p := ⟨g, j * 2, none⟩) hg).trans k0
      have hgo : g < wo.heap.size := Nat.lt_of_lt_of_le hg hz
      have HT := Lib.hid (show strVals ((R.staged.take (j + 1)).map Prod.fst) = strVals ((R.staged.take j).map Prod.fst) ++ [encStr x.1] by rw [List.take_add_one, hx, Option.toList_some, List.map_append, strVals_app]; rfl)
      have hxm : x ∈ C.staged := by rw [← REL.out.st]; exact List.mem_of_getElem? hx
      have HXM := Lib.hid hxm
      have HKM := Lib.hid (show x.1.length ≤ maxLen by have := (WF.out.1.keys x hxm).2.1; simp only [maxLen]; omega)
      have HHS := Lib.hid (show hasC C x.1 = true by unfold hasC; rw [hasL_mem.2 (List.mem_map.2 ⟨x, hxm, rfl⟩)]; simp)
      have HNE := Lib.hid (show hasL C.entries x.1 = false from WF.out.1.apart x hxm)
      have K2 := Lib.hid k2
      have K0 := Lib.hid k0
      clear hown hbl hx hxm k0 k2
      go_wp2_with (
        (at_builtin
         refine wpList_append_src _ rfl (.tmp 29) (.tmp 38) 36 rfl w.heap.size 9 i0 _ 1 16 Tryz.underlying36 hi0 hz0 hz1 hz2 rfl (by omega) _ j _ rfl (by exact OW.out.alloc _) (some ⟨wo.heap.size, 0, none⟩) 1 1 [encStr x.1] rfl rfl (fun e => by cases e) (by exact src_new _ _ _ _) (by intro u hu; simp only [List.mem_cons, List.not_mem_nil, or_false] at hu; subst hu; rfl) (by simp only [maxLen]; omega) (by omega) (by simp; omega) ?_
         intro v' w1 hown1 hgr1 hat1
         obtain ⟨A2, k2, rfl, _, _, _⟩ := own_form hown1
         have OW1 := Lib.hid hown1
         have HB1 := Lib.hid (((BL.out.alloc hz _).grown hgr1 (by simp; omega) (fun q hq => (OW.out.lt q hq).1)))
         have v0 : w1.cell? ⟨q, 0, none⟩ = some (.slice (some ⟨g, 0, none⟩) n0 wc) := (HB1.out.cell (p := ⟨q, 0, none⟩) hqz).trans c0
         have v1 : w1.cell? ⟨g, j * 2, none⟩ = some (encStr x.1) := (HB1.out.cell (p := ⟨g, j * 2, none⟩) hg).trans K0.out
         clear hown1 hgr1 hat1))
      refine (cData F p N C x.1 _ (HC.out.below HB1.out)).mono ?_
      rintro e w3 ⟨hdt, hb3⟩
      obtain ⟨DA, rfl, hdb⟩ := told_data WF.out.1 HXM.out hdt
      have DB3 := Lib.hid hdb
      have B3 := Lib.hid (HB1.out.trans (hb3.mono HB1.out.size))
      have OW3 := Lib.hid (own_of_eq OW1.out (fun g hg => hb3.block g (OW1.out.lt g hg).2))
      have t0 : w3.cell? ⟨q, 0, none⟩ = some (.slice (some ⟨g, 0, none⟩) n0 wc) := (B3.out.cell (p := ⟨q, 0, none⟩) hqz).trans c0
      have t1 : w3.cell? ⟨g, j * 2, none⟩ = some (encStr x.1) := (B3.out.cell (p := ⟨g, j * 2, none⟩) hg).trans K0.out
      clear hdt hb3 hdb u0 u1 v0 v1
      go_wp2_with fail
      refine (cEntry F p N C x.1 _ (HC.out.below B3.out) HKM.out).mono ?_
      rintro e w4 ⟨⟨ev, rfl, EB, rfl, hob⟩, hb4⟩
      rw [HNE.out]
      have B4 := Lib.hid (B3.out.trans (hb4.mono B3.out.size))
      have OW4 := Lib.hid (own_of_eq OW3.out (fun g hg => hb4.block g (OW3.out.lt g hg).2))
      have DB4 := Lib.hid (DB3.out.below hb4)
      clear hob hb4 t0 t1
      generalize (if false = true then x.1 else []) = ek
      generalize entC C x.1 = ee
      go_upto_region 8 with fail
      obtain ⟨w5, hw5⟩ : ∃ w5, w5 = w4.alloc (.cells #[encStr ek, .int .i64 ee.gen, .int .i64 ee.size, encStr ee.sum, .slice EB ee.places.length ee.places.length] 43) := ⟨_, rfl⟩
      have hb5 : Below w4.heap.size w4 w5 := by rw [hw5]; exact (Below.refl _ _).alloc (Nat.le_refl _) _
      change Code.wp _ _ _ _ (w4.alloc (.cells #[encStr ek, .int .i64 ee.gen, .int .i64 ee.size, encStr ee.sum, .slice EB ee.places.length ee.places.length] 43))
      rw [← hw5]
      have BL5 := Lib.hid (B4.out.trans (hb5.mono B4.out.size))
      have OW5 := Lib.hid (own_of_eq OW4.out (fun g hg => hb5.block g (OW4.out.lt g hg).2))
      have DB5 := Lib.hid (DB4.out.below hb5)
      have CAd := Lib.hid (show CatAt F w5.drew p N C from (HC.out.below BL5.out).below ⟨rfl, rfl, rfl, Nat.le_refl _, fun _ _ => rfl⟩)
      have hz5 := BL5.out.size
      have hq5 : q < w5.heap.size := Nat.lt_of_lt_of_le hqz hz5
      have hg5 : g < w5.heap.size := Nat.lt_of_lt_of_le hg hz5
      have x0 : w5.cell? ⟨q, 0, none⟩ = some (.slice (some ⟨g, 0, none⟩) n0 wc) := (BL5.out.cell (p := ⟨q, 0, none⟩) hqz).trans c0
      have x1 : w5.cell? ⟨g, j * 2, none⟩ = some (encStr x.1) := (BL5.out.cell (p := ⟨g, j * 2, none⟩) hg).trans K0.out
      have x2 : w5.cell? ⟨g, j * 2 + 1, none⟩ = some (encStr x.2) := (BL5.out.cell (p := ⟨g, j * 2 + 1, none⟩) hg).trans K2.out
      have x3 : (convert 29 9 (.slice DA x.2.length x.2.length)).run Tryz.prog w5.drew = .ok (encStr x.2) w5.drew := arg_string (DB5.out.below ⟨rfl, rfl, rfl, Nat.le_refl _, fun _ _ => rfl⟩)
      clear hw5 hb5
      refine wp_region_held_drew (S := (fun w' => w'.cell? ⟨q, 0, none⟩ = some (.slice (some ⟨g, 0, none⟩) n0 wc) ∧ w'.cell? ⟨g, j * 2, none⟩ = some (encStr x.1) ∧ w'.cell? ⟨g, j * 2 + 1, none⟩ = some (encStr x.2) ∧ (convert 29 9 (.slice DA x.2.length x.2.length)).run Tryz.prog w' = .ok (encStr x.2) w')) (by kernel_rfl) ⟨x0, x1, x2, x3⟩ (fun hHeld => ?_)
      refine tk (i := 0) (v := ?vA8n10) rfl ?hyA8n10 ?restA8n10
      case hyA8n10 => (intro w hSw; (try dsimp only at hSw); go_simp <;> with_reducible rfl)
      try simp only [Act.put, pt1, pt2, pt3]
      refine tk (i := 1) (v := ?vA8n11) rfl ?hyA8n11 ?restA8n11
      case hyA8n11 => (intro w hSw; (try dsimp only at hSw); go_simp <;> with_reducible rfl)
      try simp only [Act.put, pt1, pt2, pt3]
      refine tk (i := 2) (v := ?vA8n12) rfl ?hyA8n12 ?restA8n12
      case hyA8n12 => (intro w hSw; (try dsimp only at hSw); go_simp <;> with_reducible rfl)
      try simp only [Act.put, pt1, pt2, pt3]
      refine tk (i := 3) (v := ?vA8n13) rfl ?hyA8n13 ?restA8n13
      case hyA8n13 => (intro w hSw; (try dsimp only at hSw); go_simp <;> with_reducible rfl)
      try simp only [Act.put, pt1, pt2, pt3]
      refine tk (i := 4) (v := ?vA8n14) rfl ?hyA8n14 ?restA8n14
      case hyA8n14 => (intro w hSw; (try dsimp only at hSw); go_simp <;> with_reducible rfl)
      try simp only [Act.put, pt1, pt2, pt3]
      refine tk (i := 5) (v := ?vA8n15) rfl ?hyA8n15 ?restA8n15
      case hyA8n15 => (intro w hSw; (try dsimp only at hSw); go_simp <;> with_reducible rfl)
      try simp only [Act.put, pt1, pt2, pt3]
      refine tk (i := 6) (v := ?vA8n16) rfl ?hyA8n16 ?restA8n16
      case hyA8n16 => (intro w hSw; (try dsimp only at hSw); go_simp <;> with_reducible rfl)
      try simp only [Act.put, pt1, pt2, pt3]
      refine tk (i := 7) (v := ?vA8n17) rfl ?hyA8n17 ?restA8n17
      case hyA8n17 => (intro w hSw; (try dsimp only at hSw); go_simp <;> with_reducible rfl)
      try simp only [Act.put, pt1, pt2, pt3]
      refine tk (i := 8) (v := ?vA8n18) rfl ?hyA8n18 ?restA8n18
      case hyA8n18 => (intro w hSw; (try dsimp only at hSw); go_simp <;> with_reducible rfl)
      try simp only [Act.put, pt1, pt2, pt3]
      refine tk (i := 9) (v := ?vA8n19) rfl ?hyA8n19 ?restA8n19
      case hyA8n19 => (intro w hSw; (try dsimp only at hSw); go_simp <;> with_reducible rfl)
      try simp only [Act.put, pt1, pt2, pt3]
      refine tk (i := 10) (v := ?vA8n110) rfl ?hyA8n110 ?restA8n110
      case hyA8n110 => (intro w hSw; (try dsimp only at hSw); go_simp <;> with_reducible rfl)
      try simp only [Act.put, pt1, pt2, pt3]
      refine tk (i := 11) (v := ?vA8n111) rfl ?hyA8n111 ?restA8n111
      case hyA8n111 => (intro w hSw; (try dsimp only at hSw); go_simp <;> with_reducible rfl)
      try simp only [Act.put, pt1, pt2, pt3]
      refine tk (i := 12) (v := ?vA8n112) rfl ?hyA8n112 ?restA8n112
      case hyA8n112 => (intro w hSw; (try dsimp only at hSw); go_simp <;> with_reducible rfl)
      try simp only [Act.put, pt1, pt2, pt3]
      refine tk (i := 13) (v := ?vA8n113) rfl ?hyA8n113 ?restA8n113
      case hyA8n113 => (intro w hSw; (try dsimp only at hSw); go_simp <;> with_reducible rfl)
      try simp only [Act.put, pt1, pt2, pt3]
      refine tk (i := 14) (v := ?vA8n114) rfl ?hyA8n114 ?restA8n114
      case hyA8n114 => (intro w hSw; (try dsimp only at hSw); go_simp <;> with_reducible rfl)
      try simp only [Act.put, pt1, pt2, pt3]
      refine tk (i := 15) (v := ?vA8n115) rfl ?hyA8n115 ?restA8n115
      case hyA8n115 => (intro w hSw; (try dsimp only at hSw); go_simp <;> with_reducible rfl)
      try simp only [Act.put, pt1, pt2, pt3]
      refine tk (i := 16) (v := ?vA8n116) rfl ?hyA8n116 ?restA8n116
      case hyA8n116 => (intro w hSw; (try dsimp only at hSw); go_simp <;> with_reducible rfl)
      try simp only [Act.put, pt1, pt2, pt3]
      refine tk (i := 17) (v := ?vA8n117) rfl ?hyA8n117 ?restA8n117
      case hyA8n117 => (intro w hSw; (try dsimp only at hSw); go_simp <;> with_reducible rfl)
      try simp only [Act.put, pt1, pt2, pt3]
      refine tk (i := 18) (v := ?vA8n118) rfl ?hyA8n118 ?restA8n118
      case hyA8n118 => (intro w hSw; (try dsimp only at hSw); go_simp <;> with_reducible rfl)
      try simp only [Act.put, pt1, pt2, pt3]
      refine tk (i := 19) (v := ?vA8n119) rfl ?hyA8n119 ?restA8n119
      case hyA8n119 => (intro w hSw; (try dsimp only at hSw); go_simp <;> with_reducible rfl)
      try simp only [Act.put, pt1, pt2, pt3]
      refine tk (i := 20) (v := ?vA8n120) rfl ?hyA8n120 ?restA8n120
      case hyA8n120 => (intro w hSw; (try dsimp only at hSw); go_simp <;> with_reducible rfl)
      try simp only [Act.put, pt1, pt2, pt3]
      refine tk (i := 21) (v := ?vA8n121) rfl ?hyA8n121 ?restA8n121
      case hyA8n121 => (intro w hSw; (try dsimp only at hSw); go_simp <;> with_reducible rfl)
      try simp only [Act.put, pt1, pt2, pt3]
      refine tk (i := 22) (v := ?vA8n122) rfl ?hyA8n122 ?restA8n122
      case hyA8n122 => (intro w hSw; (try dsimp only at hSw); go_simp <;> with_reducible rfl)
      try simp only [Act.put, pt1, pt2, pt3]
      refine tk (i := 23) (v := ?vA8n123) rfl ?hyA8n123 ?restA8n123
      case hyA8n123 => (intro w hSw; (try dsimp only at hSw); go_simp <;> with_reducible rfl)
      try simp only [Act.put, pt1, pt2, pt3]
      refine tk (i := 24) (v := ?vA8n124) rfl ?hyA8n124 ?restA8n124
      case hyA8n124 => (intro w hSw; (try dsimp only at hSw); go_simp <;> with_reducible rfl)
      try simp only [Act.put, pt1, pt2, pt3]
      refine tk (i := 25) (v := ?vA8n125) rfl ?hyA8n125 ?restA8n125
      case hyA8n125 => (intro w hSw; (try dsimp only at hSw); go_simp <;> with_reducible rfl)
      try simp only [Act.put, pt1, pt2, pt3]
      refine tk (i := 26) (v := ?vA8n126) rfl ?hyA8n126 ?restA8n126
      case hyA8n126 => (intro w hSw; (try dsimp only at hSw); go_simp <;> with_reducible rfl)
      try simp only [Act.put, pt1, pt2, pt3]
      refine tk (i := 27) (v := ?vA8n127) rfl ?hyA8n127 ?restA8n127
      case hyA8n127 => (intro w hSw; (try dsimp only at hSw); go_simp <;> with_reducible rfl)
      try simp only [Act.put, pt1, pt2, pt3]
      refine wpAnyH_ready (rs := [28]) (by kernel_rfl) (by simp) ?_
      refine AllReadyH.cons rfl (fun K hK => ?_) AllReadyH.nil
      go_simp
      go_wp2_with (go_at_call 18; refine (cHas F p N C x.1 _ (by exact CAd.out) HKM.out).mono ?_; rw [HHS.out]; rintro e w7 ⟨rfl, hb7⟩; have B7 := Lib.hid (show Below w5.heap.size w5 w7 from below_of_drew hb7); have y0 : w7.cell? ⟨q, 0, none⟩ = some (.slice (some ⟨g, 0, none⟩) n0 wc) := (B7.out.cell (p := ⟨q, 0, none⟩) hq5).trans x0; have y1 : w7.cell? ⟨g, j * 2, none⟩ = some (encStr x.1) := (B7.out.cell (p := ⟨g, j * 2, none⟩) hg5).trans x1; have y2 : w7.cell? ⟨g, j * 2 + 1, none⟩ = some (encStr x.2) := (B7.out.cell (p := ⟨g, j * 2 + 1, none⟩) hg5).trans x2; have y3 : (convert 29 9 (.slice DA x.2.length x.2.length)).run Tryz.prog w7 = .ok (encStr x.2) w7 := arg_string (DB5.out.below B7.out); clear hb7)
      clear hHeld
      refine hK.out _ _ ⟨y0, y1, y2, y3⟩ (fun hHeld => ?_)
      clear hK K
      refine tk (i := 29) (v := ?vA8n129) rfl ?hyA8n129 ?restA8n129
      case hyA8n129 => (intro w hSw; (try dsimp only at hSw); go_simp <;> with_reducible rfl)
      try simp only [Act.put, pt1, pt2, pt3]
      refine tk (i := 30) (v := ?vA8n130) rfl ?hyA8n130 ?restA8n130
      case hyA8n130 => (intro w hSw; (try dsimp only at hSw); go_simp <;> with_reducible rfl)
      try simp only [Act.put, pt1, pt2, pt3]
      refine wpAnyH_done (by kernel_rfl) ?_ _
      go_wp2_with fail
      go_roundw
      case rel => exact ⟨j + 1, by go_num, hlt, by rw [HT.out]; exact own_of_eq OW5.out (fun g hg => B7.out.block g (OW5.out.lt g hg).2), BL5.out.trans (B7.out.mono hz5)⟩
      case measure => simp [intOf]; omega
    · have d1 : decide (j < n0) = false := by simpa using hlt
      obtain rfl : j = n0 := by omega
      have OW0 := Lib.hid (show wo.ownsRow w.heap.size 9 1 (.slice A1 j k1) j (strVals (R.staged.map Prod.fst)) by
        have h := OW.out
        rwa [List.take_of_length_le (by rw [L0.out]; exact Nat.le_refl _)] at h)
      clear hown hbl OW hj hlt
      go_wp2_with fail
      go_loopw [11] (fun i wx => ∃ y : Nat, i = .int .i64 y ∧ y ≤ n1 ∧ wx.ownsRow w.heap.size 9 1 (.slice A1 j k1) j (strVals (R.staged.map Prod.fst)) ∧ Below w.heap.size w wx) (fun i _ => n1 - (intOf i).toNat)
      case atStart => exact ⟨0, rfl, Nat.zero_le _, OW0.out, BL.out⟩
      case round =>
        clear OW0 BL u0 hqo
        obtain ⟨y, rfl, hy, hown, hbl⟩ := hrel
        obtain ⟨wy, rfl⟩ : ∃ wy : World, wy = wr := ⟨_, rfl⟩
        have OW := Lib.hid hown
        have BL := Lib.hid hbl
        have hz := hbl.size
        have u1 : wy.cell? ⟨q, 1, none⟩ = some (.slice EB0 n1 ec) := (hbl.cell (p := ⟨q, 1, none⟩) hqz).trans c1
        by_cases hlt : y < n1
        · have d1 : decide (y < n1) = true := by simpa using hlt
          obtain ⟨x, hx⟩ : ∃ x, R.entries[y]? = some x := ⟨_, List.getElem?_eq_getElem (by rw [L1.out]; exact hlt)⟩
          obtain ⟨g, PA, pn, pc, rfl, hg, hcl, hrd⟩ := HE.out y x hx
          have CL := Lib.hid hcl
          have RD := Lib.hid hrd
          have u2 : wy.cell? ⟨g, y * 5, none⟩ = some (encStr x.1) := (hbl.cell (p := ⟨g, y * 5, none⟩) hg).trans hcl.1
          have hxm : x ∈ C.entries := (entsC_mem_iff WF.out.2.1 x).1 (by rw [← REL.out.en]; exact List.mem_of_getElem? hx)
          have HXM := Lib.hid hxm
          have HKM := Lib.hid (show x.1.length ≤ maxLen by have := (WF.out.1.ents x hxm).2.1; simp only [maxLen]; omega)
          have HEH := Lib.hid (show hasL C.entries x.1 = true from hasL_mem.2 (List.mem_map.2 ⟨x, hxm, rfl⟩))
          have HHS := Lib.hid (show hasC C x.1 = true by unfold hasC; rw [HEH.out]; simp)
          have HEC := Lib.hid (show entC C x.1 = x.2 from getL_at zeroV WF.out.2.1 hxm)
          have HSN := Lib.hid (show hasL C.staged x.1 = false by
            cases hh : hasL C.staged x.1 with
            | false => rfl
            | true =>
              obtain ⟨z, hz1, hz2⟩ := List.mem_map.1 (hasL_mem.1 hh)
              have h1 := WF.out.1.apart z hz1
              rw [hz2, HEH.out] at h1
              cases h1)
          clear hown hbl hx hcl hrd hxm
          go_wp2_with fail
          refine (cEntry F p N C x.1 _ (HC.out.below BL.out) HKM.out).mono ?_
          rintro e w3 ⟨⟨ev, rfl, EB, rfl, hob⟩, hb3⟩
          rw [HEH.out, HEC.out] at *
          rw [if_pos rfl]
          have PE := Lib.hid (out_places hob)
          have B3 := Lib.hid (BL.out.trans (hb3.mono hz))
          have OW3 := Lib.hid (own_of_eq OW.out (fun g hg => hb3.block g (OW.out.lt g hg).2))
          clear hob hb3 u1 u2
          go_upto_region 14 with fail
          obtain ⟨w4, hw4⟩ : ∃ w4, w4 = w3.alloc (.cells #[encStr x.1, .int .i64 x.2.gen, .int .i64 x.2.size, encStr x.2.sum, .slice EB x.2.places.length x.2.places.length] 43) := ⟨_, rfl⟩
          have hb4 : Below w3.heap.size w3 w4 := by rw [hw4]; exact (Below.refl _ _).alloc (Nat.le_refl _) _
          have BE4 := Lib.hid (show Blk w4 w3.heap.size 43 #[encStr x.1, .int .i64 x.2.gen, .int .i64 x.2.size, encStr x.2.sum, .slice EB x.2.places.length x.2.places.length] by rw [hw4]; exact Blk.made w3 _ _)
          change Code.wp _ _ _ _ (w3.alloc (.cells #[encStr x.1, .int .i64 x.2.gen, .int .i64 x.2.size, encStr x.2.sum, .slice EB x.2.places.length x.2.places.length] 43))
          rw [← hw4]
          have B4 := Lib.hid (B3.out.trans (hb4.mono B3.out.size))
          have OW4 := Lib.hid (own_of_eq OW3.out (fun g hg => hb4.block g (OW3.out.lt g hg).2))
          have PE4 := Lib.hid (PE.out.below hb4)
          have t0 : w4.cell? ⟨q, 1, none⟩ = some (.slice (some ⟨g, 0, none⟩) n1 ec) := (B4.out.cell (p := ⟨q, 1, none⟩) hqz).trans c1
          have t1 : w4.cell? ⟨g, y * 5, none⟩ = some (encStr x.1) := (B4.out.cell (p := ⟨g, y * 5, none⟩) hg).trans CL.out.1
          have he4 : w3.heap.size < w4.heap.size := BE4.out.size
          clear hw4 hb4
          go_wp2_with fail
          refine (cData F p N C x.1 _ (HC.out.below B4.out)).mono ?_
          rintro e w5 ⟨hdt, hb5⟩
          obtain rfl := told_nodata HSN.out hdt
          have BL5 := Lib.hid (B4.out.trans (hb5.mono B4.out.size))
          have OW5 := Lib.hid (own_of_eq OW4.out (fun g hg => hb5.block g (OW4.out.lt g hg).2))
          have BE5 := Lib.hid (BE4.out.below hb5 he4)
          have CA5 := Lib.hid (HC.out.below BL5.out)
          have ER1 := Lib.hid (show EntRd w5.drew x.2 EB x.2.places.length from ⟨(PE4.out.below hb5).below ⟨rfl, rfl, rfl, Nat.le_refl _, fun _ _ => rfl⟩, by have h1 := (WF.out.1.ents x HXM.out).2.2.2.2.2.2.1; have h2 := (WF.out.1.ents x HXM.out).2.2.2.2.2.1; simp only [maxLen] at *; omega⟩)
          have ER2 := Lib.hid (show EntRd w5.drew x.2 PA pn from (RD.out.below BL5.out).below ⟨rfl, rfl, rfl, Nat.le_refl _, fun _ _ => rfl⟩)
          have hz5 := BL5.out.size
          have hqX : q < w5.heap.size := Nat.lt_of_lt_of_le hqz hz5
          have hgX : g < w5.heap.size := Nat.lt_of_lt_of_le hg hz5
          have heX : w3.heap.size < w5.heap.size := Nat.lt_of_lt_of_le he4 hb5.size
          have m0 : w5.cell? ⟨q, 1, none⟩ = some (.slice (some ⟨g, 0, none⟩) n1 ec) := (BL5.out.cell (p := ⟨q, 1, none⟩) hqz).trans c1
          have m1 : w5.cell? ⟨g, y * 5, none⟩ = some (encStr x.1) := (BL5.out.cell (p := ⟨g, y * 5, none⟩) hg).trans CL.out.1
          have m2 : w5.cell? ⟨g, y * 5 + 1, none⟩ = some (.int .i64 x.2.gen) := (BL5.out.cell (p := ⟨g, y * 5 + 1, none⟩) hg).trans CL.out.2.1
          have m3 : w5.cell? ⟨g, y * 5 + 2, none⟩ = some (.int .i64 x.2.size) := (BL5.out.cell (p := ⟨g, y * 5 + 2, none⟩) hg).trans CL.out.2.2.1
          have m4 : w5.cell? ⟨g, y * 5 + 3, none⟩ = some (encStr x.2.sum) := (BL5.out.cell (p := ⟨g, y * 5 + 3, none⟩) hg).trans CL.out.2.2.2.1
          have m5 : w5.cell? ⟨g, y * 5 + 4, none⟩ = some (.slice PA pn pc) := (BL5.out.cell (p := ⟨g, y * 5 + 4, none⟩) hg).trans CL.out.2.2.2.2
          have m6 : w5.cell? ⟨w3.heap.size, 0, none⟩ = some (encStr x.1) := BE5.out.cell 0
          have m7 : w5.cell? ⟨w3.heap.size, 1, none⟩ = some (.int .i64 x.2.gen) := BE5.out.cell 1
          have m8 : w5.cell? ⟨w3.heap.size, 2, none⟩ = some (.int .i64 x.2.size) := BE5.out.cell 2
          have m9 : w5.cell? ⟨w3.heap.size, 3, none⟩ = some (encStr x.2.sum) := BE5.out.cell 3
          have m10 : w5.cell? ⟨w3.heap.size, 4, none⟩ = some (.slice EB x.2.places.length x.2.places.length) := BE5.out.cell 4
          clear hdt hb5 t0 t1
          go_upto_region 15 with fail
          refine wp_region_held_drew (S := (fun w' => w'.cell? ⟨q, 1, none⟩ = some (.slice (some ⟨g, 0, none⟩) n1 ec) ∧ w'.cell? ⟨g, y * 5, none⟩ = some (encStr x.1) ∧ w'.cell? ⟨g, y * 5 + 1, none⟩ = some (.int .i64 x.2.gen) ∧ w'.cell? ⟨g, y * 5 + 2, none⟩ = some (.int .i64 x.2.size) ∧ w'.cell? ⟨g, y * 5 + 3, none⟩ = some (encStr x.2.sum) ∧ w'.cell? ⟨g, y * 5 + 4, none⟩ = some (.slice PA pn pc) ∧ w'.cell? ⟨w3.heap.size, 0, none⟩ = some (encStr x.1) ∧ w'.cell? ⟨w3.heap.size, 1, none⟩ = some (.int .i64 x.2.gen) ∧ w'.cell? ⟨w3.heap.size, 2, none⟩ = some (.int .i64 x.2.size) ∧ w'.cell? ⟨w3.heap.size, 3, none⟩ = some (encStr x.2.sum) ∧ w'.cell? ⟨w3.heap.size, 4, none⟩ = some (.slice EB x.2.places.length x.2.places.length))) (by kernel_rfl) ⟨m0, m1, m2, m3, m4, m5, m6, m7, m8, m9, m10⟩ (fun hHeld => ?_)
          refine tk (i := 0) (v := ?vA15n20) rfl ?hyA15n20 ?restA15n20
          case hyA15n20 => (intro w hSw; (try dsimp only at hSw); go_simp <;> with_reducible rfl)
          try simp only [Act.put, pt1, pt2, pt3]
          refine tk (i := 1) (v := ?vA15n21) rfl ?hyA15n21 ?restA15n21
          case hyA15n21 => (intro w hSw; (try dsimp only at hSw); go_simp <;> with_reducible rfl)
          try simp only [Act.put, pt1, pt2, pt3]
          refine tk (i := 2) (v := ?vA15n22) rfl ?hyA15n22 ?restA15n22
          case hyA15n22 => (intro w hSw; (try dsimp only at hSw); go_simp <;> with_reducible rfl)
          try simp only [Act.put, pt1, pt2, pt3]
          refine tk (i := 3) (v := ?vA15n23) rfl ?hyA15n23 ?restA15n23
          case hyA15n23 => (intro w hSw; (try dsimp only at hSw); go_simp <;> with_reducible rfl)
          try simp only [Act.put, pt1, pt2, pt3]
          refine tk (i := 4) (v := ?vA15n24) rfl ?hyA15n24 ?restA15n24
          case hyA15n24 => (intro w hSw; (try dsimp only at hSw); go_simp <;> with_reducible rfl)
          try simp only [Act.put, pt1, pt2, pt3]
          refine tk (i := 5) (v := ?vA15n25) rfl ?hyA15n25 ?restA15n25
          case hyA15n25 => (intro w hSw; (try dsimp only at hSw); go_simp <;> with_reducible rfl)
          try simp only [Act.put, pt1, pt2, pt3]
          refine tk (i := 6) (v := ?vA15n26) rfl ?hyA15n26 ?restA15n26
          case hyA15n26 => (intro w hSw; (try dsimp only at hSw); go_simp <;> with_reducible rfl)
          try simp only [Act.put, pt1, pt2, pt3]
          refine tk (i := 7) (v := ?vA15n27) rfl ?hyA15n27 ?restA15n27
          case hyA15n27 => (intro w hSw; (try dsimp only at hSw); go_simp <;> with_reducible rfl)
          try simp only [Act.put, pt1, pt2, pt3]
          refine tk (i := 8) (v := ?vA15n28) rfl ?hyA15n28 ?restA15n28
          case hyA15n28 => (intro w hSw; (try dsimp only at hSw); go_simp <;> with_reducible rfl)
          try simp only [Act.put, pt1, pt2, pt3]
          refine tk (i := 9) (v := ?vA15n29) rfl ?hyA15n29 ?restA15n29
          case hyA15n29 => (intro w hSw; (try dsimp only at hSw); go_simp <;> with_reducible rfl)
          try simp only [Act.put, pt1, pt2, pt3]
          refine tk (i := 10) (v := ?vA15n210) rfl ?hyA15n210 ?restA15n210
          case hyA15n210 => (intro w hSw; (try dsimp only at hSw); go_simp <;> with_reducible rfl)
          try simp only [Act.put, pt1, pt2, pt3]
          refine wpAnyH_ready (rs := [11]) (by kernel_rfl) (by simp) ?_
          refine AllReadyH.cons rfl (fun K hK => ?_) AllReadyH.nil
          go_simp
          go_wp2_with (go_at_call 28; refine (same10 x.1 x.2 EB x.2.places.length x.2.places.length x.1 x.2 PA pn pc _ (by exact ER1.out) (by exact ER2.out)).mono ?_; rw [decide_eq_true (show ((x.1, x.2) : Str × EntV) = (x.1, x.2) from rfl)]; rintro e w7 ⟨rfl, hb7⟩; have B7 := Lib.hid (show Below w5.heap.size w5 w7 from below_of_drew hb7); have ya0 : w7.cell? ⟨q, 1, none⟩ = some (.slice (some ⟨g, 0, none⟩) n1 ec) := (B7.out.cell (p := ⟨q, 1, none⟩) hqX).trans m0; have ya1 : w7.cell? ⟨g, y * 5, none⟩ = some (encStr x.1) := (B7.out.cell (p := ⟨g, y * 5, none⟩) hgX).trans m1; have ya2 : w7.cell? ⟨g, y * 5 + 1, none⟩ = some (.int .i64 x.2.gen) := (B7.out.cell (p := ⟨g, y * 5 + 1, none⟩) hgX).trans m2; have ya3 : w7.cell? ⟨g, y * 5 + 2, none⟩ = some (.int .i64 x.2.size) := (B7.out.cell (p := ⟨g, y * 5 + 2, none⟩) hgX).trans m3; have ya4 : w7.cell? ⟨g, y * 5 + 3, none⟩ = some (encStr x.2.sum) := (B7.out.cell (p := ⟨g, y * 5 + 3, none⟩) hgX).trans m4; have ya5 : w7.cell? ⟨g, y * 5 + 4, none⟩ = some (.slice PA pn pc) := (B7.out.cell (p := ⟨g, y * 5 + 4, none⟩) hgX).trans m5; have ya6 : w7.cell? ⟨w3.heap.size, 0, none⟩ = some (encStr x.1) := (B7.out.cell (p := ⟨w3.heap.size, 0, none⟩) heX).trans m6; have ya7 : w7.cell? ⟨w3.heap.size, 1, none⟩ = some (.int .i64 x.2.gen) := (B7.out.cell (p := ⟨w3.heap.size, 1, none⟩) heX).trans m7; have ya8 : w7.cell? ⟨w3.heap.size, 2, none⟩ = some (.int .i64 x.2.size) := (B7.out.cell (p := ⟨w3.heap.size, 2, none⟩) heX).trans m8; have ya9 : w7.cell? ⟨w3.heap.size, 3, none⟩ = some (encStr x.2.sum) := (B7.out.cell (p := ⟨w3.heap.size, 3, none⟩) heX).trans m9; have ya10 : w7.cell? ⟨w3.heap.size, 4, none⟩ = some (.slice EB x.2.places.length x.2.places.length) := (B7.out.cell (p := ⟨w3.heap.size, 4, none⟩) heX).trans m10; clear hb7)
          clear hHeld
          refine hK.out _ _ ⟨ya0, ya1, ya2, ya3, ya4, ya5, ya6, ya7, ya8, ya9, ya10⟩ (fun hHeld => ?_)
          clear hK K
          refine tk (i := 12) (v := ?vA15n212) rfl ?hyA15n212 ?restA15n212
          case hyA15n212 => (intro w hSw; (try dsimp only at hSw); go_simp <;> with_reducible rfl)
          try simp only [Act.put, pt1, pt2, pt3]
          refine tk (i := 13) (v := ?vA15n213) rfl ?hyA15n213 ?restA15n213
          case hyA15n213 => (intro w hSw; (try dsimp only at hSw); go_simp <;> with_reducible rfl)
          try simp only [Act.put, pt1, pt2, pt3]
          refine tk (i := 14) (v := ?vA15n214) rfl ?hyA15n214 ?restA15n214
          case hyA15n214 => (intro w hSw; (try dsimp only at hSw); go_simp <;> with_reducible rfl)
          try simp only [Act.put, pt1, pt2, pt3]
          refine tk (i := 15) (v := ?vA15n215) rfl ?hyA15n215 ?restA15n215
          case hyA15n215 => (intro w hSw; (try dsimp only at hSw); go_simp <;> with_reducible rfl)
          try simp only [Act.put, pt1, pt2, pt3]
          refine tk (i := 16) (v := ?vA15n216) rfl ?hyA15n216 ?restA15n216
          case hyA15n216 => (intro w hSw; (try dsimp only at hSw); go_simp <;> with_reducible rfl)
          try simp only [Act.put, pt1, pt2, pt3]
          refine tk (i := 17) (v := ?vA15n217) rfl ?hyA15n217 ?restA15n217
          case hyA15n217 => (intro w hSw; (try dsimp only at hSw); go_simp <;> with_reducible rfl)
          try simp only [Act.put, pt1, pt2, pt3]
          refine tk (i := 18) (v := ?vA15n218) rfl ?hyA15n218 ?restA15n218
          case hyA15n218 => (intro w hSw; (try dsimp only at hSw); go_simp <;> with_reducible rfl)
          try simp only [Act.put, pt1, pt2, pt3]
          refine tk (i := 19) (v := ?vA15n219) rfl ?hyA15n219 ?restA15n219
          case hyA15n219 => (intro w hSw; (try dsimp only at hSw); go_simp <;> with_reducible rfl)
          try simp only [Act.put, pt1, pt2, pt3]
          refine tk (i := 20) (v := ?vA15n220) rfl ?hyA15n220 ?restA15n220
          case hyA15n220 => (intro w hSw; (try dsimp only at hSw); go_simp <;> with_reducible rfl)
          try simp only [Act.put, pt1, pt2, pt3]
          refine tk (i := 21) (v := ?vA15n221) rfl ?hyA15n221 ?restA15n221
          case hyA15n221 => (intro w hSw; (try dsimp only at hSw); go_simp <;> with_reducible rfl)
          try simp only [Act.put, pt1, pt2, pt3]
          refine tk (i := 22) (v := ?vA15n222) rfl ?hyA15n222 ?restA15n222
          case hyA15n222 => (intro w hSw; (try dsimp only at hSw); go_simp <;> with_reducible rfl)
          try simp only [Act.put, pt1, pt2, pt3]
          refine tk (i := 23) (v := ?vA15n223) rfl ?hyA15n223 ?restA15n223
          case hyA15n223 => (intro w hSw; (try dsimp only at hSw); go_simp <;> with_reducible rfl)
          try simp only [Act.put, pt1, pt2, pt3]
          refine tk (i := 24) (v := ?vA15n224) rfl ?hyA15n224 ?restA15n224
          case hyA15n224 => (intro w hSw; (try dsimp only at hSw); go_simp <;> with_reducible rfl)
          try simp only [Act.put, pt1, pt2, pt3]
          refine tk (i := 25) (v := ?vA15n225) rfl ?hyA15n225 ?restA15n225
          case hyA15n225 => (intro w hSw; (try dsimp only at hSw); go_simp <;> with_reducible rfl)
          try simp only [Act.put, pt1, pt2, pt3]
          refine tk (i := 26) (v := ?vA15n226) rfl ?hyA15n226 ?restA15n226
          case hyA15n226 => (intro w hSw; (try dsimp only at hSw); go_simp <;> with_reducible rfl)
          try simp only [Act.put, pt1, pt2, pt3]
          refine wpAnyH_ready (rs := [27]) (by kernel_rfl) (by simp) ?_
          refine AllReadyH.cons rfl (fun K hK => ?_) AllReadyH.nil
          go_simp
          go_wp2_with (go_at_call 18; refine (cHas F p N C x.1 _ (by exact CA5.out.below B7.out) HKM.out).mono ?_; rw [HHS.out]; rintro e w8 ⟨rfl, hb8⟩; have B8 := Lib.hid (show Below w5.heap.size w5 w8 from B7.out.trans (hb8.mono B7.out.size)); have za0 : w8.cell? ⟨q, 1, none⟩ = some (.slice (some ⟨g, 0, none⟩) n1 ec) := (B8.out.cell (p := ⟨q, 1, none⟩) hqX).trans m0; have za1 : w8.cell? ⟨g, y * 5, none⟩ = some (encStr x.1) := (B8.out.cell (p := ⟨g, y * 5, none⟩) hgX).trans m1; have za2 : w8.cell? ⟨g, y * 5 + 1, none⟩ = some (.int .i64 x.2.gen) := (B8.out.cell (p := ⟨g, y * 5 + 1, none⟩) hgX).trans m2; have za3 : w8.cell? ⟨g, y * 5 + 2, none⟩ = some (.int .i64 x.2.size) := (B8.out.cell (p := ⟨g, y * 5 + 2, none⟩) hgX).trans m3; have za4 : w8.cell? ⟨g, y * 5 + 3, none⟩ = some (encStr x.2.sum) := (B8.out.cell (p := ⟨g, y * 5 + 3, none⟩) hgX).trans m4; have za5 : w8.cell? ⟨g, y * 5 + 4, none⟩ = some (.slice PA pn pc) := (B8.out.cell (p := ⟨g, y * 5 + 4, none⟩) hgX).trans m5; have za6 : w8.cell? ⟨w3.heap.size, 0, none⟩ = some (encStr x.1) := (B8.out.cell (p := ⟨w3.heap.size, 0, none⟩) heX).trans m6; have za7 : w8.cell? ⟨w3.heap.size, 1, none⟩ = some (.int .i64 x.2.gen) := (B8.out.cell (p := ⟨w3.heap.size, 1, none⟩) heX).trans m7; have za8 : w8.cell? ⟨w3.heap.size, 2, none⟩ = some (.int .i64 x.2.size) := (B8.out.cell (p := ⟨w3.heap.size, 2, none⟩) heX).trans m8; have za9 : w8.cell? ⟨w3.heap.size, 3, none⟩ = some (encStr x.2.sum) := (B8.out.cell (p := ⟨w3.heap.size, 3, none⟩) heX).trans m9; have za10 : w8.cell? ⟨w3.heap.size, 4, none⟩ = some (.slice EB x.2.places.length x.2.places.length) := (B8.out.cell (p := ⟨w3.heap.size, 4, none⟩) heX).trans m10; clear hb8)
          clear hHeld
          refine hK.out _ _ ⟨za0, za1, za2, za3, za4, za5, za6, za7, za8, za9, za10⟩ (fun hHeld => ?_)
          clear hK K
          refine tk (i := 28) (v := ?vA15n228) rfl ?hyA15n228 ?restA15n228
          case hyA15n228 => (intro w hSw; (try dsimp only at hSw); go_simp <;> with_reducible rfl)
          try simp only [Act.put, pt1, pt2, pt3]
          refine tk (i := 29) (v := ?vA15n229) rfl ?hyA15n229 ?restA15n229
          case hyA15n229 => (intro w hSw; (try dsimp only at hSw); go_simp <;> with_reducible rfl)
          try simp only [Act.put, pt1, pt2, pt3]
          refine wpAnyH_done (by kernel_rfl) ?_ _
          go_wp2_with fail
          go_roundw
          case rel => exact ⟨y + 1, by go_num, hlt, own_of_eq OW5.out (fun g hg => B8.out.block g (OW5.out.lt g hg).2), BL5.out.trans (B8.out.mono hz5)⟩
          case measure => simp [intOf]; omega
        · have d1 : decide (y < n1) = false := by simpa using hlt
          obtain rfl : y = n1 := by omega
          clear hown hbl hlt hy
          go_wp2_with fail
          go_loopw [16] (fun i wx => ∃ k : Nat, i = .int .i64 ((k : Int) - 1) ∧ k ≤ 34 ∧ wx.ownsRow w.heap.size 9 1 (.slice A1 j k1) j (strVals (R.staged.map Prod.fst)) ∧ Below w.heap.size w wx) (fun i _ => (33 - intOf i).toNat)
          case atStart => exact ⟨0, rfl, by omega, OW.out, BL.out⟩
          case round =>
            clear OW BL
            obtain ⟨k, rfl, hk, hown, hbl⟩ := hrel
            obtain ⟨wk, rfl⟩ : ∃ wk : World, wk = wr := ⟨_, rfl⟩
            have OW := Lib.hid hown
            have BL := Lib.hid hbl
            have hz := hbl.size
            clear hown hbl
            obtain ⟨m, hm⟩ : ∃ m : Int, m = (k : Int) - 1 := ⟨_, rfl⟩
            have HM := Lib.hid hm
            rw [← hm]
            by_cases hlt : k < 34
            · have d1 : decide (m < 33) = true := by simp; omega
              have hw1 : IntKind.i64.wrap (m + 1) = m + 1 := wrap_in (by omega) (by omega)
              have hwf : (Lit.int .i64 m).wf = true := by simp [Lit.wf, IntKind.min, IntKind.max, IntKind.signed, IntKind.bits]; omega
              have HWF := Lib.hid hwf
              have hm1 : -1 ≤ m := by omega
              have hm2 : m < 33 := by omega
              have hdd : decide (m ∈ R.retired) = decide (m ∈ C.retired) := by rw [Bool.eq_iff_iff, decide_eq_true_eq, decide_eq_true_eq]; exact REL.out.rt m
              have HDD := Lib.hid hdd
              clear hm hwf hdd
              go_wp2_with fail
              refine (cRetired F p N C m HWF.out _ (HC.out.below BL.out)).mono ?_
              rintro e w3 ⟨rfl, hb3⟩
              have B3 := Lib.hid (BL.out.trans (hb3.mono hz))
              have OW3 := Lib.hid (own_of_eq OW.out (fun g hg => hb3.block g (OW.out.lt g hg).2))
              clear hb3
              go_wp2_with fail
              refine (rOut G q M R m _ (HR.out.below B3.out) (by omega)).mono ?_
              rintro e w3' ⟨rfl, rfl⟩
              rw [HDD.out]
              generalize decide (m ∈ C.retired) = b
              have hbb : (b != b) = false := by simp
              go_wp2_with fail
              go_roundw
              case rel => exact ⟨k + 1, by rw [HM.out]; congr 1; omega, by omega, OW3.out, B3.out⟩
              case measure => simp [intOf]; omega
            · have d1 : decide (m < 33) = false := by simp; omega
              clear hm
              go_wp2_with fail
              go_loopw [17, 18] (fun v i wx => ∃ z : Nat, i = .int .i64 z ∧ z ≤ n3 ∧ NtR w wx v ((R.tombs.take z).map tombN) ∧ wx.ownsRow w.heap.size 9 1 (.slice A1 j k1) j (strVals (R.staged.map Prod.fst))) (fun _ i _ => n3 - (intOf i).toNat)
              case atStart => exact ⟨0, rfl, Nat.zero_le _, NtR.made' BL.out, OW.out.alloc _⟩
              case round =>
                clear OW BL d1 hz
                obtain ⟨z, rfl, hzn, hst, hown⟩ := hrel
                obtain ⟨wz, rfl⟩ : ∃ wz : World, wz = wr := ⟨_, rfl⟩
                have ST := Lib.hid hst
                have OW := Lib.hid hown
                have hbl := hst.bel
                have BL := Lib.hid hbl
                have hz := hbl.size
                have hlz : ((R.tombs.take z).map tombN).length = z := by rw [List.length_map, List.length_take, L3.out]; omega
                have HLZ := Lib.hid hlz
                have hfm := hst.form
                rw [hlz] at hfm
                obtain ⟨A5, k5, rfl, hna, hca, _⟩ := hfm
                have e3 : wz.cell? ⟨q, 3, none⟩ = some (.slice TB n3 tc) := (hbl.cell (p := ⟨q, 3, none⟩) hqz).trans c3
                have hpz : q < wz.heap.size := Nat.lt_of_lt_of_le hqz hz
                by_cases hlt : z < n3
                · have d2 : decide (z < n3) = true := by simpa using hlt
                  obtain ⟨x, hx⟩ : ∃ x, R.tombs[z]? = some x := ⟨_, List.getElem?_eq_getElem (by rw [L3.out]; exact hlt)⟩
                  obtain ⟨g, rfl, hg, k0, k1'⟩ := HT.out z x hx
                  have q0 : wz.cell? ⟨g, z * 2, none⟩ = some (encStr x.1) := (hbl.cell (p := ⟨g, z * 2, none⟩) hg).trans k0
                  have q1 : wz.cell? ⟨g, z * 2 + 1, none⟩ = some (.int .i64 x.2) := (hbl.cell (p := ⟨g, z * 2 + 1, none⟩) hg).trans k1'
                  have hgz : g < wz.heap.size := Nat.lt_of_lt_of_le hg hz
                  have HTX := Lib.hid (map_take (f := tombN) hx)
                  clear hx hst hbl k0 k1' hlz hown
                  go_upto_region 26 with fail
                  go_region_law (
                    (refine step_append_m w _ rfl (.tmp 183) (.tmp 201) rfl _ ((R.tombs.take z).map tombN) rfl (by exact ST.out.below (below_a1 wz _)) (some ⟨wz.heap.size, 0, none⟩) ⟨tombN x, none, 0, none, 0⟩ rfl (fun e => by cases e) (by show SrcAt _ _ _ [.int .i64 6, encStr x.1, .int .i64 x.2, .int .i64 0, .slice none 0 0, encStr [], .int .i64 1, .slice none 0 0]; exact src_new _ _ _ _) ⟨PartM.nil _ _ _, PartM.nil _ _ _, Nat.zero_le _⟩ (by rw [HLZ.out]; omega) ?_
                     intro v' w4 hst4 hk4
                     have ST4 := Lib.hid hst4
                     have OW4 := Lib.hid (own_of_eq OW.out (fun g hg => by
                       obtain ⟨cs, hb⟩ := own_blk OW.out hg
                       exact (hk4 g 9 cs (by decide) (hb.alloc _)).trans (Below.heap_alloc _ _ _ (OW.out.lt g hg).2)))
                     clear hst4 hk4))
                  all_goals
                    go_wp2_with fail
                    go_roundw
                    case rel => exact ⟨z + 1, by go_num, hlt, by rw [HTX.out]; exact ST4.out, OW4.out⟩
                    case measure => simp [intOf]; omega
                · have d2 : decide (z < n3) = false := by simpa using hlt
                  obtain rfl : z = n3 := by omega
                  have SN := Lib.hid (show NtR w wz (.slice A5 z k5) (R.tombs.map tombN) by
                    have h := ST.out
                    rwa [List.take_of_length_le (by rw [L3.out]; exact Nat.le_refl _)] at h)
                  clear hst hbl hlz hown ST HLZ
                  have BLZ := Lib.hid BL.out
                  have CAZ := Lib.hid (HC.out.below BL.out)
                  have RAZ := Lib.hid (HR.out.below BL.out)
                  have B0 := Lib.hid (show Below wz.heap.size wz wz.drew from below_of_drewR (Below.refl _ _))
                  have hqz3 : q < wz.heap.size := hpz
                  have s1 : wz.cell? ⟨q, 1, none⟩ = some (.slice EB0 y ec) := (BL.out.cell (p := ⟨q, 1, none⟩) hqz).trans c1
                  have s5 : wz.cell? ⟨q, 5, none⟩ = some (.int .i64 R.gen) := (BL.out.cell (p := ⟨q, 5, none⟩) hqz).trans c5
                  have hN5 : N ≤ 100000 := by omega
                  have hM5 : M ≤ 10000 := by omega
                  have hM6 : M ≤ 100000 := by omega
                  have HSN2 := Lib.hid (show C.staged.length = j by rw [← REL.out.st]; exact L0.out)
                  have HSN3 := Lib.hid (show (C.staged.map Prod.fst).length = j by rw [List.length_map, HSN2.out])
                  have HSN4 := Lib.hid (show j ≤ maxLen by simp only [maxLen]; omega)
                  have OWS := Lib.hid (own_strs OW.out (by rw [List.length_map]; exact L0.out))
                  have HSS := Lib.hid (decide_eq_true (show C.staged.map Prod.fst = R.staged.map Prod.fst by rw [REL.out.st]))
                  obtain ⟨kn, hkn⟩ : ∃ kn, (keysC C).length = kn := ⟨_, rfl⟩
                  have HKN := Lib.hid hkn
                  have HKL := Lib.hid (show kn ≤ maxLen by
                    rw [← hkn]
                    unfold keysC
                    rw [sortS_len, List.length_append, List.length_map, List.length_map]
                    have h1 := WF.out.1.staged
                    have h2 := WF.out.2.2.2.2.1
                    simp only [maxLen]
                    omega)
                  have hse : SortedE R.entries := by rw [REL.out.en]; exact entsC_sorted WF.out.2.1
                  have HKR := Lib.hid (show rkeysC R = keysC C from (rkeysC_eq hse).trans (rel_keys REL.out))
                  have HEN := Lib.hid (show (entsC C).length = y by rw [← REL.out.en]; exact L1.out)
                  have HEM := Lib.hid (show y ≤ maxLen by simp only [maxLen]; omega)
                  have hpb : ∀ q ∈ C.entries, q.2.places.length ≤ 1000 := fun q hq => by
                    have h1 := (WF.out.1.ents q hq).2.2.2.2.2.2.1
                    have h2 := (WF.out.1.ents q hq).2.2.2.2.2.1
                    omega
                  have HEP := Lib.hid (show ∀ q ∈ entsC C, q.2.places.length ≤ maxLen from fun q hq => by have := hpb q (entsC_mem hq).1; simp only [maxLen]; omega)
                  have HEE := Lib.hid (show entsC C = ER.map entKR by rw [HERM.out, REL.out.en])
                  have ERZ := Lib.hid (show EntsRdR wz EB0 y ER from HERD.out.below BL.out)
                  have HTN := Lib.hid (show C.tombs.length = z by rw [← REL.out.tb]; exact L3.out)
                  have HTM := Lib.hid (show z ≤ maxLen by simp only [maxLen]; omega)
                  have hsn := SN.out
                  have htl : (R.tombs.map tombN).length = z := by rw [List.length_map]; exact L3.out
                  obtain ⟨NP2, hnp2, hnr2⟩ : ∃ NP : List NoteP, NP.map (·.v) = R.tombs.map tombN ∧ NotesRd wz A5 z NP := by
                    have h := hsn
                    rw [← htl] at h
                    obtain ⟨NP, h1, h2⟩ := h.held
                    rw [htl] at h2
                    exact ⟨NP, h1, h2⟩
                  have NPZ := Lib.hid hnr2
                  have HTT := Lib.hid (decide_eq_true (show (C.tombs.map tombP).map (·.v) = NP2.map (·.v) by rw [hnp2, List.map_map, REL.out.tb]; rfl))
                  have HGN := Lib.hid (show C.gen = R.gen from REL.out.gn.symm)
                  have hge : (R.gen == R.gen) = true := by simp
                  have HUS := Lib.hid (show usedC C = rusedC R from (rel_used REL.out WF.out.1.nds).symm)
                  have HDS := Lib.hid (show ∀ q ∈ R.staged, q.2.length ≤ 512 from fun q hq => (WF.out.1.keys q (by rw [← REL.out.st]; exact hq)).2.2)
                  have HDP := Lib.hid (show ∀ q ∈ R.entries, q.2.places.length ≤ 1000 from fun q hq => by rw [REL.out.en] at hq; exact hpb q (entsC_mem hq).1)
                  have HNR := Lib.hid (show notesR R = notesC C from (notesR_eq hse (fun n hn => by have h := WF.out.1.carts n ((REL.out.rt n).1 hn); omega) REL.out.nd).trans (rel_notes REL.out WF.out.2.2.2.1 WF.out.2.1))
                  obtain ⟨ln, hln⟩ : ∃ ln, (notesC C).length = ln := ⟨_, rfl⟩
                  have HLN := Lib.hid hln
                  have hue : (((rusedC R : Nat) : Int) == ((rusedC R : Nat) : Int)) = true := by simp
                  clear hse hpb hsn htl hnp2 hnr2 hkn hln hna hca
                  go_upto_region 27 with fail
                  refine wp_region_held_drew (S := (fun w' => w'.cell? ⟨q, 1, none⟩ = some (.slice EB0 y ec) ∧ w'.cell? ⟨q, 5, none⟩ = some (.int .i64 R.gen))) (by kernel_rfl) ⟨s1, s5⟩ (fun hHeld => ?_)
                  refine tk (i := 0) (v := ?vA27n30) rfl ?hyA27n30 ?restA27n30
                  case hyA27n30 => (intro w hSw; (try dsimp only at hSw); go_simp <;> with_reducible rfl)
                  try simp only [Act.put, pt1, pt2, pt3]
                  refine tk (i := 2) (v := ?vA27n32) rfl ?hyA27n32 ?restA27n32
                  case hyA27n32 => (intro w hSw; (try dsimp only at hSw); go_simp <;> with_reducible rfl)
                  try simp only [Act.put, pt1, pt2, pt3]
                  refine wpAnyH_ready (rs := [1]) (by kernel_rfl) (by simp) ?_
                  refine AllReadyH.cons rfl (fun K hK => ?_) AllReadyH.nil
                  go_simp
                  go_wp2_with (go_at_call 14; refine (cStaged F p N C _ (by exact CAZ.out.below B0.out) hN5).mono ?_; rw [HSN2.out]; rintro e wa ⟨sv, rfl, hos, hb⟩; obtain ⟨SA, rfl, hsr⟩ := hos.strs HSN3.out HSN4.out; have S1 := Lib.hid hsr; (first | (have B1 := Lib.hid (show Below wz.heap.size wz wa from below_of_drew hb))); have s101 : wa.cell? ⟨q, 1, none⟩ = some (.slice EB0 y ec) := (B1.out.cell (p := ⟨q, 1, none⟩) hqz3).trans s1; have t101 : wa.cell? ⟨q, 5, none⟩ = some (.int .i64 R.gen) := (B1.out.cell (p := ⟨q, 5, none⟩) hqz3).trans s5; clear hos hsr hb)
                  clear hHeld
                  refine hK.out _ _ ⟨s101, t101⟩ (fun hHeld => ?_)
                  clear hK K
                  refine wpAnyH_ready (rs := [3]) (by kernel_rfl) (by simp) ?_
                  refine AllReadyH.cons rfl (fun K hK => ?_) AllReadyH.nil
                  go_simp
                  go_wp2_with (go_at_call 42; refine (sameS SA j j (C.staged.map Prod.fst) A1 j k1 (R.staged.map Prod.fst) _ (by exact S1.out) (by exact OWS.out.below B1.out)).mono ?_; rw [HSS.out]; rintro e wb ⟨rfl, hb⟩; (first | (have B3 := Lib.hid (show Below wz.heap.size wz wb from B1.out.trans (hb.mono B1.out.size)))); have s103 : wb.cell? ⟨q, 1, none⟩ = some (.slice EB0 y ec) := (B3.out.cell (p := ⟨q, 1, none⟩) hqz3).trans s1; have t103 : wb.cell? ⟨q, 5, none⟩ = some (.int .i64 R.gen) := (B3.out.cell (p := ⟨q, 5, none⟩) hqz3).trans s5; clear hb)
                  clear hHeld
                  refine hK.out _ _ ⟨s103, t103⟩ (fun hHeld => ?_)
                  clear hK K
                  refine tk (i := 4) (v := ?vA27n34) rfl ?hyA27n34 ?restA27n34
                  case hyA27n34 => (intro w hSw; (try dsimp only at hSw); go_simp <;> with_reducible rfl)
                  try simp only [Act.put, pt1, pt2, pt3]
                  refine tk (i := 5) (v := ?vA27n35) rfl ?hyA27n35 ?restA27n35
                  case hyA27n35 => (intro w hSw; (try dsimp only at hSw); go_simp <;> with_reducible rfl)
                  try simp only [Act.put, pt1, pt2, pt3]
                  refine tk (i := 7) (v := ?vA27n37) rfl ?hyA27n37 ?restA27n37
                  case hyA27n37 => (intro w hSw; (try dsimp only at hSw); go_simp <;> with_reducible rfl)
                  try simp only [Act.put, pt1, pt2, pt3]
                  refine wpAnyH_ready (rs := [6]) (by kernel_rfl) (by simp) ?_
                  refine AllReadyH.cons rfl (fun K hK => ?_) AllReadyH.nil
                  go_simp
                  go_wp2_with (go_at_call 13; refine (cKeys F p N C _ (by first | exact CAZ.out.below B8.out | exact CAZ.out.below B3.out) hN5).mono ?_; rw [HKN.out]; rintro e wd ⟨kv, rfl, hok, hb⟩; obtain ⟨KA, rfl, hkr⟩ := hok.strs HKN.out HKL.out; have K6 := Lib.hid hkr; (first | (have K8x := Lib.hid (K8.out.below hb)) | skip); (first | (have B6 := Lib.hid (show Below wz.heap.size wz wd from B8.out.trans (hb.mono B8.out.size))) | (have B6 := Lib.hid (show Below wz.heap.size wz wd from B3.out.trans (hb.mono B3.out.size)))); have s106 : wd.cell? ⟨q, 1, none⟩ = some (.slice EB0 y ec) := (B6.out.cell (p := ⟨q, 1, none⟩) hqz3).trans s1; have t106 : wd.cell? ⟨q, 5, none⟩ = some (.int .i64 R.gen) := (B6.out.cell (p := ⟨q, 5, none⟩) hqz3).trans s5; clear hok hkr hb)
                  clear hHeld
                  refine hK.out _ _ ⟨s106, t106⟩ (fun hHeld => ?_)
                  clear hK K
                  refine wpAnyH_ready (rs := [8]) (by kernel_rfl) (by simp) ?_
                  refine AllReadyH.cons rfl (fun K hK => ?_) AllReadyH.nil
                  go_simp
                  go_wp2_with (go_at_call 58; refine (rKeys G q M R _ (by first | exact RAZ.out.below B6.out | exact RAZ.out.below B3.out) hM5).mono ?_; rw [HKR.out, HKN.out]; rintro e we ⟨kv2, rfl, hok, hb⟩; obtain ⟨KB, kc, rfl⟩ := own_slice hok; have K8 := Lib.hid (own_strs hok HKN.out); (first | (have K6x := Lib.hid (K6.out.below hb)) | skip); (first | (have B8 := Lib.hid (show Below wz.heap.size wz we from B6.out.trans (hb.mono B6.out.size))) | (have B8 := Lib.hid (show Below wz.heap.size wz we from B3.out.trans (hb.mono B3.out.size)))); have s108 : we.cell? ⟨q, 1, none⟩ = some (.slice EB0 y ec) := (B8.out.cell (p := ⟨q, 1, none⟩) hqz3).trans s1; have t108 : we.cell? ⟨q, 5, none⟩ = some (.int .i64 R.gen) := (B8.out.cell (p := ⟨q, 5, none⟩) hqz3).trans s5; clear hok hb)
                  clear hHeld
                  refine hK.out _ _ ⟨s108, t108⟩ (fun hHeld => ?_)
                  clear hK K
                  refine wpAnyH_ready (rs := [9]) (by kernel_rfl) (by simp) ?_
                  refine AllReadyH.cons rfl (fun K hK => ?_) AllReadyH.nil
                  go_simp
                  go_wp2_with (go_at_call 42; refine (sameS KA kn kn (keysC C) KB kn kc (keysC C) _ (by first | exact K6x.out | exact K6.out) (by first | exact K8x.out | exact K8.out)).mono ?_; rw [decide_eq_true (show keysC C = keysC C from rfl)]; rintro e wf ⟨rfl, hb⟩; first | ((first | (have B9 := Lib.hid (show Below wz.heap.size wz wf from B8.out.trans (hb.mono B8.out.size)))); have s109 : wf.cell? ⟨q, 1, none⟩ = some (.slice EB0 y ec) := (B9.out.cell (p := ⟨q, 1, none⟩) hqz3).trans s1; have t109 : wf.cell? ⟨q, 5, none⟩ = some (.int .i64 R.gen) := (B9.out.cell (p := ⟨q, 5, none⟩) hqz3).trans s5) | ((first | (have B9 := Lib.hid (show Below wz.heap.size wz wf from B6.out.trans (hb.mono B6.out.size)))); have s109 : wf.cell? ⟨q, 1, none⟩ = some (.slice EB0 y ec) := (B9.out.cell (p := ⟨q, 1, none⟩) hqz3).trans s1; have t109 : wf.cell? ⟨q, 5, none⟩ = some (.int .i64 R.gen) := (B9.out.cell (p := ⟨q, 5, none⟩) hqz3).trans s5); clear hb)
                  clear hHeld
                  refine hK.out _ _ ⟨s109, t109⟩ (fun hHeld => ?_)
                  clear hK K
                  refine tk (i := 10) (v := ?vA27n310) rfl ?hyA27n310 ?restA27n310
                  case hyA27n310 => (intro w hSw; (try dsimp only at hSw); go_simp <;> with_reducible rfl)
                  try simp only [Act.put, pt1, pt2, pt3]
                  refine tk (i := 11) (v := ?vA27n311) rfl ?hyA27n311 ?restA27n311
                  case hyA27n311 => (intro w hSw; (try dsimp only at hSw); go_simp <;> with_reducible rfl)
                  try simp only [Act.put, pt1, pt2, pt3]
                  refine tk (i := 12) (v := ?vA27n312) rfl ?hyA27n312 ?restA27n312
                  case hyA27n312 => (intro w hSw; (try dsimp only at hSw); go_simp <;> with_reducible rfl)
                  try simp only [Act.put, pt1, pt2, pt3]
                  refine tk (i := 14) (v := ?vA27n314) rfl ?hyA27n314 ?restA27n314
                  case hyA27n314 => (intro w hSw; (try dsimp only at hSw); go_simp <;> with_reducible rfl)
                  try simp only [Act.put, pt1, pt2, pt3]
                  refine tk (i := 15) (v := ?vA27n315) rfl ?hyA27n315 ?restA27n315
                  case hyA27n315 => (intro w hSw; (try dsimp only at hSw); go_simp <;> with_reducible rfl)
                  try simp only [Act.put, pt1, pt2, pt3]
                  refine tk (i := 16) (v := ?vA27n316) rfl ?hyA27n316 ?restA27n316
                  case hyA27n316 => (intro w hSw; (try dsimp only at hSw); go_simp <;> with_reducible rfl)
                  try simp only [Act.put, pt1, pt2, pt3]
                  refine tk (i := 17) (v := ?vA27n317) rfl ?hyA27n317 ?restA27n317
                  case hyA27n317 => (intro w hSw; (try dsimp only at hSw); go_simp <;> with_reducible rfl)
                  try simp only [Act.put, pt1, pt2, pt3]
                  refine wpAnyH_ready (rs := [13]) (by kernel_rfl) (by simp) ?_
                  refine AllReadyH.cons rfl (fun K hK => ?_) AllReadyH.nil
                  go_simp
                  go_wp2_with (go_at_call 15; refine (cEntries F p N C _ (by exact CAZ.out.below B9.out) hN5).mono ?_; rintro e wg ⟨ev, PL, rfl, heo, hb⟩; obtain ⟨EA, rfl, her⟩ := ents_rd heo HEN.out HEM.out HEP.out; have E13 := Lib.hid her; have HPE := Lib.hid heo.is; (first | (have B13 := Lib.hid (show Below wz.heap.size wz wg from B9.out.trans (hb.mono B9.out.size)))); have s113 : wg.cell? ⟨q, 1, none⟩ = some (.slice EB0 y ec) := (B13.out.cell (p := ⟨q, 1, none⟩) hqz3).trans s1; have t113 : wg.cell? ⟨q, 5, none⟩ = some (.int .i64 R.gen) := (B13.out.cell (p := ⟨q, 5, none⟩) hqz3).trans s5; clear heo her hb)
                  clear hHeld
                  refine hK.out _ _ ⟨s113, t113⟩ (fun hHeld => ?_)
                  clear hK K
                  refine wpAnyH_ready (rs := [18]) (by kernel_rfl) (by simp) ?_
                  refine AllReadyH.cons rfl (fun K hK => ?_) AllReadyH.nil
                  go_simp
                  go_wp2_with (go_at_call 59; refine (alike10r EA y y PL EB0 y ec ER _ (by exact E13.out) (by exact ERZ.out.below B13.out)).mono ?_; rw [decide_eq_true (show PL.map entK = ER.map entKR from HPE.out.trans HEE.out)]; rintro e wh ⟨rfl, hb⟩; (first | (have B18 := Lib.hid (show Below wz.heap.size wz wh from B13.out.trans (hb.mono B13.out.size)))); have s118 : wh.cell? ⟨q, 1, none⟩ = some (.slice EB0 y ec) := (B18.out.cell (p := ⟨q, 1, none⟩) hqz3).trans s1; have t118 : wh.cell? ⟨q, 5, none⟩ = some (.int .i64 R.gen) := (B18.out.cell (p := ⟨q, 5, none⟩) hqz3).trans s5; clear hb)
                  clear hHeld
                  refine hK.out _ _ ⟨s118, t118⟩ (fun hHeld => ?_)
                  clear hK K
                  refine tk (i := 19) (v := ?vA27n319) rfl ?hyA27n319 ?restA27n319
                  case hyA27n319 => (intro w hSw; (try dsimp only at hSw); go_simp <;> with_reducible rfl)
                  try simp only [Act.put, pt1, pt2, pt3]
                  refine tk (i := 20) (v := ?vA27n320) rfl ?hyA27n320 ?restA27n320
                  case hyA27n320 => (intro w hSw; (try dsimp only at hSw); go_simp <;> with_reducible rfl)
                  try simp only [Act.put, pt1, pt2, pt3]
                  refine tk (i := 21) (v := ?vA27n321) rfl ?hyA27n321 ?restA27n321
                  case hyA27n321 => (intro w hSw; (try dsimp only at hSw); go_simp <;> with_reducible rfl)
                  try simp only [Act.put, pt1, pt2, pt3]
                  refine tk (i := 23) (v := ?vA27n323) rfl ?hyA27n323 ?restA27n323
                  case hyA27n323 => (intro w hSw; (try dsimp only at hSw); go_simp <;> with_reducible rfl)
                  try simp only [Act.put, pt1, pt2, pt3]
                  refine wpAnyH_ready (rs := [22]) (by kernel_rfl) (by simp) ?_
                  refine AllReadyH.cons rfl (fun K hK => ?_) AllReadyH.nil
                  go_simp
                  go_wp2_with (go_at_call 21; refine (cTombs F p N C _ (by exact CAZ.out.below B18.out) hN5).mono ?_; rw [HTN.out]; rintro e wi ⟨tv, rfl, hto, hb⟩; obtain ⟨TA, rfl, htr⟩ := tombs_rd hto HTN.out HTM.out; have T22 := Lib.hid htr; (first | (have B22 := Lib.hid (show Below wz.heap.size wz wi from B18.out.trans (hb.mono B18.out.size)))); have s122 : wi.cell? ⟨q, 1, none⟩ = some (.slice EB0 y ec) := (B22.out.cell (p := ⟨q, 1, none⟩) hqz3).trans s1; have t122 : wi.cell? ⟨q, 5, none⟩ = some (.int .i64 R.gen) := (B22.out.cell (p := ⟨q, 5, none⟩) hqz3).trans s5; clear hto htr hb)
                  clear hHeld
                  refine hK.out _ _ ⟨s122, t122⟩ (fun hHeld => ?_)
                  clear hK K
                  refine wpAnyH_ready (rs := [24]) (by kernel_rfl) (by simp) ?_
                  refine AllReadyH.cons rfl (fun K hK => ?_) AllReadyH.nil
                  go_simp
                  go_wp2_with (go_at_call 41; refine (alike12 TA z z (C.tombs.map tombP) A5 z k5 NP2 _ (by exact T22.out) (by exact NPZ.out.below B22.out)).mono ?_; rw [HTT.out]; rintro e wj ⟨rfl, hb⟩; (first | (have B24 := Lib.hid (show Below wz.heap.size wz wj from B22.out.trans (hb.mono B22.out.size)))); have s124 : wj.cell? ⟨q, 1, none⟩ = some (.slice EB0 y ec) := (B24.out.cell (p := ⟨q, 1, none⟩) hqz3).trans s1; have t124 : wj.cell? ⟨q, 5, none⟩ = some (.int .i64 R.gen) := (B24.out.cell (p := ⟨q, 5, none⟩) hqz3).trans s5; clear hb)
                  clear hHeld
                  refine hK.out _ _ ⟨s124, t124⟩ (fun hHeld => ?_)
                  clear hK K
                  refine tk (i := 25) (v := ?vA27n325) rfl ?hyA27n325 ?restA27n325
                  case hyA27n325 => (intro w hSw; (try dsimp only at hSw); go_simp <;> with_reducible rfl)
                  try simp only [Act.put, pt1, pt2, pt3]
                  refine tk (i := 26) (v := ?vA27n326) rfl ?hyA27n326 ?restA27n326
                  case hyA27n326 => (intro w hSw; (try dsimp only at hSw); go_simp <;> with_reducible rfl)
                  try simp only [Act.put, pt1, pt2, pt3]
                  refine tk (i := 27) (v := ?vA27n327) rfl ?hyA27n327 ?restA27n327
                  case hyA27n327 => (intro w hSw; (try dsimp only at hSw); go_simp <;> with_reducible rfl)
                  try simp only [Act.put, pt1, pt2, pt3]
                  refine tk (i := 29) (v := ?vA27n329) rfl ?hyA27n329 ?restA27n329
                  case hyA27n329 => (intro w hSw; (try dsimp only at hSw); go_simp <;> with_reducible rfl)
                  try simp only [Act.put, pt1, pt2, pt3]
                  refine tk (i := 30) (v := ?vA27n330) rfl ?hyA27n330 ?restA27n330
                  case hyA27n330 => (intro w hSw; (try dsimp only at hSw); go_simp <;> with_reducible rfl)
                  try simp only [Act.put, pt1, pt2, pt3]
                  refine tk (i := 31) (v := ?vA27n331) rfl ?hyA27n331 ?restA27n331
                  case hyA27n331 => (intro w hSw; (try dsimp only at hSw); go_simp <;> with_reducible rfl)
                  try simp only [Act.put, pt1, pt2, pt3]
                  refine tk (i := 32) (v := ?vA27n332) rfl ?hyA27n332 ?restA27n332
                  case hyA27n332 => (intro w hSw; (try dsimp only at hSw); go_simp <;> with_reducible rfl)
                  try simp only [Act.put, pt1, pt2, pt3]
                  refine wpAnyH_ready (rs := [28]) (by kernel_rfl) (by simp) ?_
                  refine AllReadyH.cons rfl (fun K hK => ?_) AllReadyH.nil
                  go_simp
                  go_wp2_with (go_at_call 19; refine (cGen F p N C _ (by exact CAZ.out.below B24.out)).mono ?_; rw [HGN.out]; rintro e wj' ⟨rfl, rfl⟩)
                  refine hK.out _ _ hHeld (fun hHeld => ?_)
                  clear hK K
                  refine tk (i := 33) (v := ?vA27n333) rfl ?hyA27n333 ?restA27n333
                  case hyA27n333 => (intro w hSw; (try dsimp only at hSw); go_simp <;> with_reducible rfl)
                  try simp only [Act.put, pt1, pt2, pt3]
                  refine tk (i := 34) (v := ?vA27n334) rfl ?hyA27n334 ?restA27n334
                  case hyA27n334 => (intro w hSw; (try dsimp only at hSw); go_simp <;> with_reducible rfl)
                  try simp only [Act.put, pt1, pt2, pt3]
                  refine tk (i := 35) (v := ?vA27n335) rfl ?hyA27n335 ?restA27n335
                  case hyA27n335 => (intro w hSw; (try dsimp only at hSw); go_simp <;> with_reducible rfl)
                  try simp only [Act.put, pt1, pt2, pt3]
                  refine tk (i := 36) (v := ?vA27n336) rfl ?hyA27n336 ?restA27n336
                  case hyA27n336 => (intro w hSw; (try dsimp only at hSw); go_simp <;> with_reducible rfl)
                  try simp only [Act.put, pt1, pt2, pt3]
                  refine tk (i := 38) (v := ?vA27n338) rfl ?hyA27n338 ?restA27n338
                  case hyA27n338 => (intro w hSw; (try dsimp only at hSw); go_simp <;> with_reducible rfl)
                  try simp only [Act.put, pt1, pt2, pt3]
                  refine wpAnyH_ready (rs := [37]) (by kernel_rfl) (by simp) ?_
                  refine AllReadyH.cons rfl (fun K hK => ?_) AllReadyH.nil
                  go_simp
                  go_wp2_with (go_at_call 22; refine (cUsed F p N C _ (by exact CAZ.out.below B24.out) hN5).mono ?_; rw [HUS.out]; rintro e wk ⟨rfl, hb⟩; (first | (have B37 := Lib.hid (show Below wz.heap.size wz wk from B24.out.trans (hb.mono B24.out.size)))); have s137 : wk.cell? ⟨q, 1, none⟩ = some (.slice EB0 y ec) := (B37.out.cell (p := ⟨q, 1, none⟩) hqz3).trans s1; have t137 : wk.cell? ⟨q, 5, none⟩ = some (.int .i64 R.gen) := (B37.out.cell (p := ⟨q, 5, none⟩) hqz3).trans s5; clear hb)
                  clear hHeld
                  refine hK.out _ _ ⟨s137, t137⟩ (fun hHeld => ?_)
                  clear hK K
                  refine wpAnyH_ready (rs := [39]) (by kernel_rfl) (by simp) ?_
                  refine AllReadyH.cons rfl (fun K hK => ?_) AllReadyH.nil
                  go_simp
                  go_wp2_with (go_at_call 60; refine (rUsed G q M R _ (by first | exact RAZ.out.below B37.out | exact RAZ.out.below B24.out) hM6 HDS.out).mono ?_; rintro e wl' ⟨rfl, rfl⟩)
                  refine hK.out _ _ hHeld (fun hHeld => ?_)
                  clear hK K
                  refine tk (i := 40) (v := ?vA27n340) rfl ?hyA27n340 ?restA27n340
                  case hyA27n340 => (intro w hSw; (try dsimp only at hSw); go_simp <;> with_reducible rfl)
                  try simp only [Act.put, pt1, pt2, pt3]
                  refine tk (i := 41) (v := ?vA27n341) rfl ?hyA27n341 ?restA27n341
                  case hyA27n341 => (intro w hSw; (try dsimp only at hSw); go_simp <;> with_reducible rfl)
                  try simp only [Act.put, pt1, pt2, pt3]
                  refine tk (i := 42) (v := ?vA27n342) rfl ?hyA27n342 ?restA27n342
                  case hyA27n342 => (intro w hSw; (try dsimp only at hSw); go_simp <;> with_reducible rfl)
                  try simp only [Act.put, pt1, pt2, pt3]
                  refine tk (i := 43) (v := ?vA27n343) rfl ?hyA27n343 ?restA27n343
                  case hyA27n343 => (intro w hSw; (try dsimp only at hSw); go_simp <;> with_reducible rfl)
                  try simp only [Act.put, pt1, pt2, pt3]
                  refine tk (i := 45) (v := ?vA27n345) rfl ?hyA27n345 ?restA27n345
                  case hyA27n345 => (intro w hSw; (try dsimp only at hSw); go_simp <;> with_reducible rfl)
                  try simp only [Act.put, pt1, pt2, pt3]
                  refine wpAnyH_ready (rs := [44]) (by kernel_rfl) (by simp) ?_
                  refine AllReadyH.cons rfl (fun K hK => ?_) AllReadyH.nil
                  go_simp
                  go_wp2_with (go_at_call 9; refine (cNotes F p N C _ (by first | exact CAZ.out.below B46.out | exact CAZ.out.below B37.out) hN5).mono ?_; rw [HLN.out]; rintro e wm ⟨NB, rfl, ⟨nc, hst⟩, hb⟩; have hst1 := hst; rw [← HLN.out] at hst1; obtain ⟨NPC, hNP, hheld⟩ := hst1.held; have P44 := Lib.hid hNP; have hhl := hheld wm (fun _ _ _ => rfl); rw [HLN.out] at hhl; have N44 := Lib.hid hhl; (first | (have N46x := Lib.hid (N46.out.below hb)) | skip); (first | (have B44 := Lib.hid (show Below wz.heap.size wz wm from B46.out.trans (hb.mono B46.out.size))) | (have B44 := Lib.hid (show Below wz.heap.size wz wm from B37.out.trans (hb.mono B37.out.size)))); have s144 : wm.cell? ⟨q, 1, none⟩ = some (.slice EB0 y ec) := (B44.out.cell (p := ⟨q, 1, none⟩) hqz3).trans s1; have t144 : wm.cell? ⟨q, 5, none⟩ = some (.int .i64 R.gen) := (B44.out.cell (p := ⟨q, 5, none⟩) hqz3).trans s5; clear hst hst1 hNP hheld hhl hb)
                  clear hHeld
                  refine hK.out _ _ ⟨s144, t144⟩ (fun hHeld => ?_)
                  clear hK K
                  refine wpAnyH_ready (rs := [46]) (by kernel_rfl) (by simp) ?_
                  refine AllReadyH.cons rfl (fun K hK => ?_) AllReadyH.nil
                  go_simp
                  go_wp2_with (go_at_call 61; refine (rNotes G q M R _ (by first | exact RAZ.out.below B44.out | exact RAZ.out.below B37.out) hM5 HDS.out HDP.out).mono ?_; rw [HNR.out, HLN.out]; rintro e wn ⟨NB2, nc2, rfl, hnt⟩; have hnt1 := hnt; rw [← HLN.out] at hnt1; obtain ⟨NPR, hNP, hheld⟩ := hnt1.held; rw [HLN.out] at hheld; have P46 := Lib.hid hNP; have N46 := Lib.hid hheld; have hb := hnt.bel; (first | (have N44x := Lib.hid (N44.out.below hb)) | skip); (first | (have B46 := Lib.hid (show Below wz.heap.size wz wn from B44.out.trans (hb.mono B44.out.size))) | (have B46 := Lib.hid (show Below wz.heap.size wz wn from B37.out.trans (hb.mono B37.out.size)))); have s146 : wn.cell? ⟨q, 1, none⟩ = some (.slice EB0 y ec) := (B46.out.cell (p := ⟨q, 1, none⟩) hqz3).trans s1; have t146 : wn.cell? ⟨q, 5, none⟩ = some (.int .i64 R.gen) := (B46.out.cell (p := ⟨q, 5, none⟩) hqz3).trans s5; clear hnt hnt1 hNP hheld hb)
                  clear hHeld
                  refine hK.out _ _ ⟨s146, t146⟩ (fun hHeld => ?_)
                  clear hK K
                  refine wpAnyH_ready (rs := [47]) (by kernel_rfl) (by simp) ?_
                  refine AllReadyH.cons rfl (fun K hK => ?_) AllReadyH.nil
                  go_simp
                  go_wp2_with (go_at_call 41; refine (alike12 NB ln ln NPC NB2 ln nc2 NPR _ (by first | exact N44x.out | exact N44.out) (by first | exact N46x.out | exact N46.out)).mono ?_; rw [decide_eq_true (show NPC.map (·.v) = NPR.map (·.v) from P44.out.trans P46.out.symm)]; rintro e wo2 ⟨rfl, hb⟩; first | ((first | (have B47 := Lib.hid (show Below wz.heap.size wz wo2 from B46.out.trans (hb.mono B46.out.size)))); have s147 : wo2.cell? ⟨q, 1, none⟩ = some (.slice EB0 y ec) := (B47.out.cell (p := ⟨q, 1, none⟩) hqz3).trans s1; have t147 : wo2.cell? ⟨q, 5, none⟩ = some (.int .i64 R.gen) := (B47.out.cell (p := ⟨q, 5, none⟩) hqz3).trans s5) | ((first | (have B47 := Lib.hid (show Below wz.heap.size wz wo2 from B44.out.trans (hb.mono B44.out.size)))); have s147 : wo2.cell? ⟨q, 1, none⟩ = some (.slice EB0 y ec) := (B47.out.cell (p := ⟨q, 1, none⟩) hqz3).trans s1; have t147 : wo2.cell? ⟨q, 5, none⟩ = some (.int .i64 R.gen) := (B47.out.cell (p := ⟨q, 5, none⟩) hqz3).trans s5); clear hb)
                  clear hHeld
                  refine hK.out _ _ ⟨s147, t147⟩ (fun hHeld => ?_)
                  clear hK K
                  refine tk (i := 48) (v := ?vA27n348) rfl ?hyA27n348 ?restA27n348
                  case hyA27n348 => (intro w hSw; (try dsimp only at hSw); go_simp <;> with_reducible rfl)
                  try simp only [Act.put, pt1, pt2, pt3]
                  refine tk (i := 49) (v := ?vA27n349) rfl ?hyA27n349 ?restA27n349
                  case hyA27n349 => (intro w hSw; (try dsimp only at hSw); go_simp <;> with_reducible rfl)
                  try simp only [Act.put, pt1, pt2, pt3]
                  refine wpAnyH_done (by kernel_rfl) ?_ _
                  go_wp2_with fail
                  go_ret
                  exact ⟨by first | rfl | simp, BLZ.out.trans (B47.out.mono BLZ.out.size)⟩
end
end Go.Proofs.YtmkccblcmiflfaaGreat
