/- Texts joined: KR19. No condition beyond those that each theorem states. -/
import Derived.Test.YtmkccblcmiflfaaGreatPK9
import Derived.Test.YtmkccblcmiflfaaGreatPK0
namespace Go.Proofs.YtmkccblcmiflfaaGreat
open Go.RowKit Go.Maps Go.WideMaps

theorem map_take {α β : Type} {f : α → β} {L : List α} {j : Nat} {x : α} (h : L[j]? = some x) : (L.take (j + 1)).map f = (L.take j).map f ++ [f x] := by
  rw [List.take_add_one, h, Option.toList_some, List.map_append]
  rfl
theorem range_take (R : CV) (j : Nat) : (((List.range (j + 1)).map fun n : Nat => (n : Int)).filter (fun n => decide (n ∈ R.retired))) = (((List.range j).map fun n : Nat => (n : Int)).filter (fun n => decide (n ∈ R.retired))) ++ (if decide ((j : Int) ∈ R.retired) = true then [(j : Int)] else []) := by
  rw [List.range_succ, List.map_append, List.filter_append]
  congr 1
  by_cases h : (j : Int) ∈ R.retired <;> simp [h]
section
set_option maxHeartbeats 16000000
set_option maxRecDepth 100000
theorem rNotes (F : Nat → Prop) (p N : Nat) (R : CV) (w : World) (h : RefAt F w p N R) (hN : N ≤ 10000) (hd : ∀ q ∈ R.staged, q.2.length ≤ 512) (hpl : ∀ q ∈ R.entries, q.2.places.length ≤ 1000) :
    Calls Tryz.prog 61 #[.pointer (some ⟨p, 0, none⟩)] w fun e w' => ∃ B c, e = .returned (.slice B (notesR R).length c) ∧ NtR w w' (.slice B (notesR R).length c) (notesR R) := by
  obtain ⟨i0, hi0, hz0, hz1, hz2⟩ := info_parts place_info
  have H := Lib.hid h
  obtain ⟨sw, sh, sb, st, sr, ER, hr⟩ := h
  obtain ⟨WB, wc, rfl, _, _, hWB⟩ := own_form hr.wait.1
  obtain ⟨EB, ec, rfl, _, _, hEB⟩ := own_form hr.here.1
  obtain ⟨BB, bc, rfl, _, _, hBB⟩ := own_form hr.beg.1
  obtain ⟨TB, tc, rfl, _, _, hTB⟩ := own_form hr.tmb.1
  have hpz0 : p < w.heap.size := hr.blk.size
  have c0 : w.cell? ⟨p, 0, none⟩ = some (.slice WB R.staged.length wc) := hr.blk.cell 0
  have c1 : w.cell? ⟨p, 1, none⟩ = some (.slice EB R.entries.length ec) := hr.blk.cell 1
  have c2 : w.cell? ⟨p, 2, none⟩ = some (.slice BB R.begun.length bc) := hr.blk.cell 2
  have c3 : w.cell? ⟨p, 3, none⟩ = some (.slice TB R.tombs.length tc) := hr.blk.cell 3
  have c5 : w.cell? ⟨p, 5, none⟩ = some (.int .i64 R.gen) := hr.blk.cell 5
  have hlens := hr.lens
  have HW := Lib.hid (show ∀ (j : Nat) x, R.staged[j]? = some x → ∃ g, WB = some ⟨g, 0, none⟩ ∧ g < w.heap.size ∧ w.cell? ⟨g, j * 2, none⟩ = some (encStr x.1) ∧ w.cell? ⟨g, j * 2 + 1, none⟩ = some (encStr x.2) from fun j x hx => by
    have hlt : j < R.staged.length := (List.getElem?_eq_some_iff.1 hx).1
    rcases hWB with ⟨_, h0, _⟩ | ⟨g, rfl⟩
    · omega
    · exact ⟨g, rfl, (hr.wait.1.lt g rfl).2, hr.wait.row.cell (wait_get hx).1, hr.wait.row.cell (wait_get hx).2⟩)
  have HM := Lib.hid (show ∀ (j : Nat) x, R.begun[j]? = some x → ∃ g, BB = some ⟨g, 0, none⟩ ∧ g < w.heap.size ∧ w.cell? ⟨g, j * 2, none⟩ = some (encStr x.1) ∧ w.cell? ⟨g, j * 2 + 1, none⟩ = some (.int .i64 x.2) from fun j x hx => by
    have hlt : j < R.begun.length := (List.getElem?_eq_some_iff.1 hx).1
    rcases hBB with ⟨_, h0, _⟩ | ⟨g, rfl⟩
    · omega
    · exact ⟨g, rfl, (hr.beg.1.lt g rfl).2, hr.beg.row.cell (mark_get hx).1, hr.beg.row.cell (mark_get hx).2⟩)
  have HT := Lib.hid (show ∀ (j : Nat) x, R.tombs[j]? = some x → ∃ g, TB = some ⟨g, 0, none⟩ ∧ g < w.heap.size ∧ w.cell? ⟨g, j * 2, none⟩ = some (encStr x.1) ∧ w.cell? ⟨g, j * 2 + 1, none⟩ = some (.int .i64 x.2) from fun j x hx => by
    have hlt : j < R.tombs.length := (List.getElem?_eq_some_iff.1 hx).1
    rcases hTB with ⟨_, h0, _⟩ | ⟨g, rfl⟩
    · omega
    · exact ⟨g, rfl, (hr.tmb.1.lt g rfl).2, hr.tmb.row.cell (mark_get hx).1, hr.tmb.row.cell (mark_get hx).2⟩)
  have HE := Lib.hid (show ∀ (j : Nat) x, R.entries[j]? = some x → ∃ g A n c, EB = some ⟨g, 0, none⟩ ∧ g < w.heap.size ∧ (w.cell? ⟨g, j * 5, none⟩ = some (encStr x.1) ∧ w.cell? ⟨g, j * 5 + 1, none⟩ = some (.int .i64 x.2.gen) ∧ w.cell? ⟨g, j * 5 + 2, none⟩ = some (.int .i64 x.2.size) ∧ w.cell? ⟨g, j * 5 + 3, none⟩ = some (encStr x.2.sum) ∧ w.cell? ⟨g, j * 5 + 4, none⟩ = some (.slice A n c)) ∧ PlacesIn w A n x.2.places ∧ (A = none → n = 0) ∧ n ≤ 1000 from fun j x hx => by
    have hlt : j < R.entries.length := (List.getElem?_eq_some_iff.1 hx).1
    rcases hEB with ⟨_, h0, _⟩ | ⟨g, rfl⟩
    · omega
    · have hx2 := hx
      rw [← hr.ents, List.getElem?_map] at hx2
      obtain ⟨r, hr1, hr2⟩ := Option.map_eq_some_iff.1 hx2
      obtain rfl : (r.key, r.e) = x := hr2
      have hp := hr.pls r (List.mem_of_getElem? hr1)
      have hsrc := orow_src hp
      have hl := hpl _ (List.mem_of_getElem? hx)
      have hn : r.e.places.length = r.n := by
        have h1 := hp.1.1
        rw [placeVals_len] at h1
        omega
      refine ⟨g, r.A, r.n, r.c, rfl, (hr.here.1.lt g rfl).2, ⟨?_, hr.here.row.cell (ent5_get hr1 1 (by omega)), hr.here.row.cell (ent5_get hr1 2 (by omega)), hr.here.row.cell (ent5_get hr1 3 (by omega)), hr.here.row.cell (ent5_get hr1 4 (by omega))⟩, ⟨hn, hsrc.1⟩, fun e => ?_, by rw [← hn]; exact hl⟩
      · have h1 := hr.here.row.cell (ent5_get hr1 0 (by omega))
        simpa using h1
      · obtain ⟨A', c', e1, _, _, h3⟩ := own_form hp.1
        cases e1
        rcases h3 with ⟨_, h4, _⟩ | ⟨g', h4⟩
        · exact h4
        · rw [h4] at e
          cases e)
  have HD := Lib.hid hd
  have hn0 : R.staged.length ≤ 10000 := by omega
  have hn1 : R.entries.length ≤ 10000 := by omega
  have hn2 : R.begun.length ≤ 10000 := by omega
  have hn3 : R.tombs.length ≤ 10000 := by omega
  clear hr hWB hEB hBB hTB hlens hd hpl
  generalize hl0 : R.staged.length = n0 at *
  generalize hl1 : R.entries.length = n1 at *
  generalize hl2 : R.begun.length = n2 at *
  generalize hl3 : R.tombs.length = n3 at *
  have L0 := Lib.hid hl0
  have L1 := Lib.hid hl1
  have L2 := Lib.hid hl2
  have L3 := Lib.hid hl3
  clear hl0 hl1 hl2 hl3
  go_enter Tryz.func61, Tryz.ntmps61
  go_wp2_with fail
  go_loopw [3, 4] (fun v i wx => ∃ j : Nat, i = .int .i64 j ∧ j ≤ n0 ∧ NtR w wx v ((R.staged.take j).map putN)) (fun _ i _ => n0 - (intOf i).toNat)
  case atStart => exact ⟨0, rfl, Nat.zero_le _, NtR.made w⟩
  case round =>
    obtain ⟨j, rfl, hj, hst⟩ := hrel
    obtain ⟨wo, rfl⟩ : ∃ wo : World, wo = wr := ⟨_, rfl⟩
    have ST := Lib.hid hst
    have hbl := hst.bel
    have BL := Lib.hid hbl
    have hz := hbl.size
    have hlj : ((R.staged.take j).map putN).length = j := by rw [List.length_map, List.length_take, L0.out]; omega
    have HLJ := Lib.hid hlj
    have hfm := hst.form
    rw [hlj] at hfm
    obtain ⟨A1, k1, rfl, hna, hca, _⟩ := hfm
    have e0 : wo.cell? ⟨p, 0, none⟩ = some (.slice WB n0 wc) := (hbl.cell (p := ⟨p, 0, none⟩) hpz0).trans c0
    have hpo : p < wo.heap.size := Nat.lt_of_lt_of_le hpz0 hz
    by_cases hlt : j < n0
    · have d1 : decide (j < n0) = true := by simpa using hlt
      obtain ⟨x, hx⟩ : ∃ x, R.staged[j]? = some x := ⟨_, List.getElem?_eq_getElem (by rw [L0.out]; exact hlt)⟩
      obtain ⟨g, rfl, hg, k0, k1'⟩ := HW.out j x hx
      have q0 : wo.cell? ⟨g, j * 2, none⟩ = some (encStr x.1) := (hbl.cell (p := ⟨g, j * 2, none⟩) hg).trans k0
      have q1 : wo.cell? ⟨g, j * 2 + 1, none⟩ = some (encStr x.2) := (hbl.cell (p := ⟨g, j * 2 + 1, none⟩) hg).trans k1'
      have hgo : g < wo.heap.size := Nat.lt_of_lt_of_le hg hz
      have HX := Lib.hid (map_take (f := putN) hx)
      have HX5 := Lib.hid (HD.out x (List.mem_of_getElem? hx))
      obtain ⟨W', dc, hcv, hrow, hbc⟩ := conv_new wo.drew x.2
      have RW := Lib.hid hrow
      have BC := Lib.hid (show Below wo.heap.size wo W' from below_of_drew hbc)
      have r0 : W'.cell? ⟨p, 0, none⟩ = some (.slice (some ⟨g, 0, none⟩) n0 wc) := (BC.out.cell (p := ⟨p, 0, none⟩) hpo).trans e0
      have r1 : W'.cell? ⟨g, j * 2, none⟩ = some (encStr x.1) := (BC.out.cell (p := ⟨g, j * 2, none⟩) hgo).trans q0
      have hzW := BC.out.size
      have hpW : p < W'.heap.size := Nat.lt_of_lt_of_le hpo hzW
      have hgW : g < W'.heap.size := Nat.lt_of_lt_of_le hgo hzW
      clear hx hst hbl k0 k1' hrow hbc hlj
      generalize hxl : x.2.length = xl at *
      have HXL := Lib.hid hxl
      clear hxl
      go_upto_region 5 with fail
      go_region_law (
        (refine step_append_m w _ rfl (.tmp 21) (.tmp 40) rfl _ ((R.staged.take j).map putN) rfl (by exact (ST.out.below BC.out).below ((Below.refl _ _).alloc (Nat.le_refl _) _)) (some ⟨W'.heap.size, 0, none⟩) ⟨putN x, some ⟨wo.heap.size, 0, none⟩, dc, none, 0⟩ rfl (fun e => by cases e) (by show SrcAt _ _ _ [.int .i64 1, encStr x.1, .int .i64 0, .int .i64 0, .slice (some ⟨wo.heap.size, 0, none⟩) x.2.length dc, encStr [], .int .i64 0, .slice none 0 0]; rw [HXL.out]; exact src_new _ _ _ _) (NoteM.below (w := W') ⟨.inr ⟨_, rfl, hz, RW.out⟩, PartM.nil _ _ _, Nat.zero_le _⟩ ((Below.refl _ _).alloc (Nat.le_refl _) _)) (by rw [HLJ.out]; omega) ?_
         intro v' w4 hst4 _
         have ST4 := Lib.hid hst4
         clear hst4))
      all_goals
        go_wp2_with fail
        go_roundw
        case rel => exact ⟨j + 1, by go_num, hlt, by rw [HX.out]; exact ST4.out⟩
        case measure => simp [intOf]; omega
    · have d1 : decide (j < n0) = false := by simpa using hlt
      obtain rfl : j = n0 := by omega
      have S1 := Lib.hid (show NtR w wo (.slice A1 j k1) (R.staged.map putN ++ ((R.begun.take 0).filter (waiting R)).map genN) by
        have h := ST.out
        rw [List.take_of_length_le (by rw [L0.out]; exact Nat.le_refl _)] at h
        simpa using h)
      have HL1 := Lib.hid (show (R.staged.map putN).length = j by rw [List.length_map, L0.out])
      clear hst hbl hlj hlt hj
      go_wp2_with fail
      go_loopw [3, 5, 6] (fun v la i wx => ∃ q : Nat, i = .int .i64 q ∧ q ≤ n2 ∧ la = .int .i64 (lastG ((R.begun.take q).filter (waiting R))) ∧ NtR w wx v (R.staged.map putN ++ ((R.begun.take q).filter (waiting R)).map genN)) (fun _ _ i _ => n2 - (intOf i).toNat)
      case atStart => exact ⟨0, rfl, Nat.zero_le _, rfl, S1.out⟩
      case round =>
        clear S1 ST BL e0 hpo HLJ hna hca
        obtain ⟨q, rfl, hq, rfl, hst⟩ := hrel
        obtain ⟨wq, rfl⟩ : ∃ wq : World, wq = wr := ⟨_, rfl⟩
        have ST := Lib.hid hst
        have hbl := hst.bel
        have BL := Lib.hid hbl
        have hz := hbl.size
        have hlq : (R.staged.map putN ++ ((R.begun.take q).filter (waiting R)).map genN).length ≤ j + n2 := by
          rw [List.length_append, HL1.out, List.length_map]
          have h1 := List.length_filter_le (waiting R) (R.begun.take q)
          rw [List.length_take, L2.out] at h1
          omega
        have HLQ := Lib.hid hlq
        have hfm := hst.form
        generalize (R.staged.map putN ++ ((R.begun.take q).filter (waiting R)).map genN).length = nl at hfm
        obtain ⟨A2, k2, rfl, hna, hca, _⟩ := hfm
        have e2 : wq.cell? ⟨p, 2, none⟩ = some (.slice BB n2 bc) := (hbl.cell (p := ⟨p, 2, none⟩) hpz0).trans c2
        have hpq : p < wq.heap.size := Nat.lt_of_lt_of_le hpz0 hz
        by_cases hlt : q < n2
        · have d2 : decide (q < n2) = true := by simpa using hlt
          obtain ⟨x, hx⟩ : ∃ x, R.begun[q]? = some x := ⟨_, List.getElem?_eq_getElem (by rw [L2.out]; exact hlt)⟩
          obtain ⟨g, rfl, hg, k0, k1'⟩ := HM.out q x hx
          have q0 : wq.cell? ⟨g, q * 2, none⟩ = some (encStr x.1) := (hbl.cell (p := ⟨g, q * 2, none⟩) hg).trans k0
          have q1 : wq.cell? ⟨g, q * 2 + 1, none⟩ = some (.int .i64 x.2) := (hbl.cell (p := ⟨g, q * 2 + 1, none⟩) hg).trans k1'
          have hgq : g < wq.heap.size := Nat.lt_of_lt_of_le hg hz
          have HX := Lib.hid hx
          have K1 := Lib.hid k1'
          clear hx hst hbl k0 k1'
          by_cases hw : 0 ≤ idxP (isKey x.1) R.staged
          · have d3 : decide (0 ≤ idxP (isKey x.1) R.staged) = true := by simpa using hw
            have HWT := Lib.hid (show waiting R x = true from d3)
            clear hw
            go_wp2_with fail
            refine (rWaits F p N R x.1 _ (H.out.below BL.out) (by omega)).mono ?_
            rintro e wq' ⟨rfl, rfl⟩
            go_upto_region 11 with fail
            go_region_law (
              (refine step_append_m w _ rfl (.tmp 62) (.tmp 80) rfl _ (R.staged.map putN ++ ((R.begun.take q).filter (waiting R)).map genN) rfl (by exact ST.out.below (below_a1 wq _)) (some ⟨wq.heap.size, 0, none⟩) ⟨genN x, none, 0, none, 0⟩ rfl (fun e => by cases e) (by show SrcAt _ _ _ [.int .i64 4, encStr x.1, .int .i64 x.2, .int .i64 0, .slice none 0 0, encStr [], .int .i64 0, .slice none 0 0]; exact src_new _ _ _ _) ⟨PartM.nil _ _ _, PartM.nil _ _ _, Nat.zero_le _⟩ (by have := HLQ.out; omega) ?_
               intro v' w4 hst4 _
               have ST4 := Lib.hid hst4
               have r2 : w4.cell? ⟨p, 2, none⟩ = some (.slice (some ⟨g, 0, none⟩) n2 bc) := (hst4.bel.cell (p := ⟨p, 2, none⟩) hpz0).trans c2
               have r1 : w4.cell? ⟨g, q * 2 + 1, none⟩ = some (.int .i64 x.2) := (hst4.bel.cell (p := ⟨g, q * 2 + 1, none⟩) hg).trans K1.out
               clear hst4))
            all_goals
              go_wp2_with fail
              go_roundw
              case rel => exact ⟨q + 1, by go_num, hlt, by rw [(take_wait HX.out).1 HWT.out, lastG_snoc], by rw [(take_wait HX.out).1 HWT.out, List.map_append, ← List.append_assoc]; exact ST4.out⟩
              case measure => simp [intOf]; omega
          · have d3 : decide (0 ≤ idxP (isKey x.1) R.staged) = false := by simpa using hw
            have HWT := Lib.hid (show waiting R x = false from d3)
            clear hw
            go_wp2_with fail
            refine (rWaits F p N R x.1 _ (H.out.below BL.out) (by omega)).mono ?_
            rintro e wq' ⟨rfl, rfl⟩
            go_wp2_with fail
            go_roundw
            case rel => exact ⟨q + 1, by go_num, hlt, by rw [(take_wait HX.out).2 HWT.out], by rw [(take_wait HX.out).2 HWT.out]; exact ST.out⟩
            case measure => simp [intOf]; omega
        · have d2 : decide (q < n2) = false := by simpa using hlt
          obtain rfl : q = n2 := by omega
          have hfull : (R.begun.take q).filter (waiting R) = gensC R := by rw [List.take_of_length_le (by rw [L2.out]; exact Nat.le_refl _)]; rfl
          rw [hfull] at hst hlq ⊢
          have SG := Lib.hid hst
          have HLG := Lib.hid hlq
          have e5 : wq.cell? ⟨p, 5, none⟩ = some (.int .i64 R.gen) := (hbl.cell (p := ⟨p, 5, none⟩) hpz0).trans c5
          clear hst hbl hfull HLQ ST hlq hlt hq
          obtain ⟨la, hla⟩ : ∃ la, lastG (gensC R) = la := ⟨_, rfl⟩
          have HLA := Lib.hid hla
          rw [hla]
          clear hla
          go_upto_if 95 with fail
          go_cut [3] (fun s wx => NtR w wx s (R.staged.map putN ++ (gensC R).map genN ++ (if lastG (gensC R) < R.gen then [genN ([], R.gen)] else [])))
          case first =>
            by_cases hl5 : la < R.gen
            · have d5 : decide (la < R.gen) = true := by simpa using hl5
              have HIF := Lib.hid (show (if lastG (gensC R) < R.gen then [genN ([], R.gen)] else []) = [genN ([], R.gen)] by rw [HLA.out, if_pos hl5])
              go_wp2_with (
                (at_builtin
                 refine wpList_append_m w _ rfl (.tmp 96) (.tmp 102) rfl _ (R.staged.map putN ++ (gensC R).map genN) rfl (by exact SG.out.below ((Below.refl _ _).alloc (Nat.le_refl _) _)) (some ⟨wq.heap.size, 0, none⟩) ⟨genN ([], R.gen), none, 0, none, 0⟩ rfl (fun e => by cases e) (by show SrcAt _ _ _ [.int .i64 4, encStr [], .int .i64 R.gen, .int .i64 0, .slice none 0 0, encStr [], .int .i64 0, .slice none 0 0]; exact src_new _ _ _ _) ⟨PartM.nil _ _ _, PartM.nil _ _ _, Nat.zero_le _⟩ (by have := HLG.out; omega) ?_
                 intro v' w4 hst4
                 have ST4 := Lib.hid hst4
                 clear hst4))
              all_goals first
                | (go_meet; rw [HIF.out]; exact ST4.out)
                | (exfalso; omega)
            · have d5 : decide (la < R.gen) = false := by simpa using hl5
              have HIF := Lib.hid (show (if lastG (gensC R) < R.gen then [genN ([], R.gen)] else []) = [] by rw [HLA.out, if_neg hl5])
              go_wp2_with fail
              all_goals first
                | (go_meet; rw [HIF.out, List.append_nil]; exact SG.out)
                | (exfalso; omega)
          case rest =>
          obtain ⟨w5, rfl⟩ : ∃ w5 : World, w5 = wc := ⟨_, rfl⟩
          obtain ⟨X, hX⟩ : ∃ X, X = R.staged.map putN ++ (gensC R).map genN ++ (if lastG (gensC R) < R.gen then [genN ([], R.gen)] else []) := ⟨_, rfl⟩
          have HXE := Lib.hid hX
          rw [← hX] at hcut
          have SX := Lib.hid hcut
          have HXL := Lib.hid (show X.length ≤ j + q + 1 by
            rw [hX, List.length_append]
            have h1 := HLG.out
            have h2 : (if lastG (gensC R) < R.gen then [genN ([], R.gen)] else []).length ≤ 1 := by split <;> simp
            omega)
          clear hX hcut SG HLG e5 e2
          obtain ⟨B3, k3, rfl, _, _, _⟩ := SX.out.form
          have S0 := Lib.hid (show NtR w w5 (.slice B3 X.length k3) (X ++ (R.entries.take 0).map placedN) by simpa using SX.out)
          clear SX
          generalize X.length = nx at S0 ⊢
          go_wp2_with fail
          go_loopw [3, 7] (fun v i wx => ∃ y : Nat, i = .int .i64 y ∧ y ≤ n1 ∧ NtR w wx v (X ++ (R.entries.take y).map placedN)) (fun _ i _ => n1 - (intOf i).toNat)
          case atStart => exact ⟨0, rfl, Nat.zero_le _, S0.out⟩
          case round =>
            clear S0
            obtain ⟨y, rfl, hy, hst⟩ := hrel
            obtain ⟨wy, rfl⟩ : ∃ wy : World, wy = wr := ⟨_, rfl⟩
            have ST := Lib.hid hst
            have hbl := hst.bel
            have BL := Lib.hid hbl
            have hz := hbl.size
            have hly : (X ++ (R.entries.take y).map placedN).length ≤ j + q + 1 + n1 := by
              rw [List.length_append, List.length_map, List.length_take, L1.out]
              have h1 := HXL.out
              omega
            have HLY := Lib.hid hly
            have hfm := hst.form
            generalize (X ++ (R.entries.take y).map placedN).length = nl at hfm
            obtain ⟨A3, k4, rfl, hna, hca, _⟩ := hfm
            have e1 : wy.cell? ⟨p, 1, none⟩ = some (.slice EB n1 ec) := (hbl.cell (p := ⟨p, 1, none⟩) hpz0).trans c1
            have hpy : p < wy.heap.size := Nat.lt_of_lt_of_le hpz0 hz
            by_cases hlt : y < n1
            · have d2 : decide (y < n1) = true := by simpa using hlt
              obtain ⟨x, hx⟩ : ∃ x, R.entries[y]? = some x := ⟨_, List.getElem?_eq_getElem (by rw [L1.out]; exact hlt)⟩
              obtain ⟨g, PA, pn, pc, rfl, hg, ⟨k0, k1, k2', k3', k4'⟩, hpi, hqn, hpn⟩ := HE.out y x hx
              have q0 : wy.cell? ⟨g, y * 5, none⟩ = some (encStr x.1) := (hbl.cell (p := ⟨g, y * 5, none⟩) hg).trans k0
              have q1 : wy.cell? ⟨g, y * 5 + 1, none⟩ = some (.int .i64 x.2.gen) := (hbl.cell (p := ⟨g, y * 5 + 1, none⟩) hg).trans k1
              have q2 : wy.cell? ⟨g, y * 5 + 2, none⟩ = some (.int .i64 x.2.size) := (hbl.cell (p := ⟨g, y * 5 + 2, none⟩) hg).trans k2'
              have q3 : wy.cell? ⟨g, y * 5 + 3, none⟩ = some (encStr x.2.sum) := (hbl.cell (p := ⟨g, y * 5 + 3, none⟩) hg).trans k3'
              have q4 : wy.cell? ⟨g, y * 5 + 4, none⟩ = some (.slice PA pn pc) := (hbl.cell (p := ⟨g, y * 5 + 4, none⟩) hg).trans k4'
              have HTX := Lib.hid (map_take (f := placedN) hx)
              have HPN := Lib.hid hpi.1
              have HQN := Lib.hid hqn
              have PIN := Lib.hid (hpi.below hbl)
              clear hx hst hbl k0 k1 k2' k3' k4' hpi hqn hly
              go_upto_region 19 with fail
              obtain ⟨wa, hwa⟩ : ∃ wa, wa = wy.alloc (.cells #[encStr x.1, .int .i64 x.2.gen, .int .i64 x.2.size, encStr x.2.sum, .slice PA pn pc] 43) := ⟨_, rfl⟩
              change Code.wp _ _ _ _ (wy.alloc (.cells #[encStr x.1, .int .i64 x.2.gen, .int .i64 x.2.size, encStr x.2.sum, .slice PA pn pc] 43))
              rw [← hwa]
              have BNA := Lib.hid (show Blk wa wy.heap.size 43 #[encStr x.1, .int .i64 x.2.gen, .int .i64 x.2.size, encStr x.2.sum, .slice PA pn pc] by rw [hwa]; exact Blk.made wy _ _)
              have BA := Lib.hid (show Below wy.heap.size wy wa by rw [hwa]; exact (Below.refl _ _).alloc (Nat.le_refl _) _)
              have hwa' : w.heap.size ≤ wa.heap.size := Nat.le_trans hz BA.out.size
              have hnA : wy.heap.size < wa.heap.size := BNA.out.size
              have SA := Lib.hid (ST.out.below BA.out)
              have SRB := Lib.hid (show ∀ W : World, Below wa.heap.size wa W → SrcAt W PA pn (placeVals x.2.places) from fun W hb => (PIN.out.below BA.out).2.below hb)
              have x0 : wa.cell? ⟨wy.heap.size, 0, none⟩ = some (encStr x.1) := BNA.out.cell 0
              have x1 : wa.cell? ⟨wy.heap.size, 1, none⟩ = some (.int .i64 x.2.gen) := BNA.out.cell 1
              have x2 : wa.cell? ⟨wy.heap.size, 2, none⟩ = some (.int .i64 x.2.size) := BNA.out.cell 2
              have x3 : wa.cell? ⟨wy.heap.size, 3, none⟩ = some (encStr x.2.sum) := BNA.out.cell 3
              have x4 : wa.cell? ⟨wy.heap.size, 4, none⟩ = some (.slice PA pn pc) := BNA.out.cell 4
              clear hwa q0 q1 q2 q3 q4 e1
              have hwa := hwa'
              refine wp_region_held_drew (S := (fun w' => w'.cell? ⟨wy.heap.size, 0, none⟩ = some (encStr x.1) ∧ w'.cell? ⟨wy.heap.size, 1, none⟩ = some (.int .i64 x.2.gen) ∧ w'.cell? ⟨wy.heap.size, 2, none⟩ = some (.int .i64 x.2.size) ∧ w'.cell? ⟨wy.heap.size, 3, none⟩ = some (encStr x.2.sum) ∧ w'.cell? ⟨wy.heap.size, 4, none⟩ = some (.slice PA pn pc))) (by kernel_rfl) ⟨x0, x1, x2, x3, x4⟩ (fun hHeld => ?_)
              refine tk (i := 0) (v := ?vN19n10) rfl ?hyN19n10 ?restN19n10
              case hyN19n10 => (intro w hSw; (try dsimp only at hSw); go_simp <;> with_reducible rfl)
              try simp only [Act.put, pt1, pt2, pt3]
              refine tk (i := 1) (v := ?vN19n11) rfl ?hyN19n11 ?restN19n11
              case hyN19n11 => (intro w hSw; (try dsimp only at hSw); go_simp <;> with_reducible rfl)
              try simp only [Act.put, pt1, pt2, pt3]
              refine tk (i := 2) (v := ?vN19n12) rfl ?hyN19n12 ?restN19n12
              case hyN19n12 => (intro w hSw; (try dsimp only at hSw); go_simp <;> with_reducible rfl)
              try simp only [Act.put, pt1, pt2, pt3]
              refine tk (i := 3) (v := ?vN19n13) rfl ?hyN19n13 ?restN19n13
              case hyN19n13 => (intro w hSw; (try dsimp only at hSw); go_simp <;> with_reducible rfl)
              try simp only [Act.put, pt1, pt2, pt3]
              refine tk (i := 4) (v := ?vN19n14) rfl ?hyN19n14 ?restN19n14
              case hyN19n14 => (intro w hSw; (try dsimp only at hSw); go_simp <;> with_reducible rfl)
              try simp only [Act.put, pt1, pt2, pt3]
              refine tk (i := 5) (v := ?vN19n15) rfl ?hyN19n15 ?restN19n15
              case hyN19n15 => (intro w hSw; (try dsimp only at hSw); go_simp <;> with_reducible rfl)
              try simp only [Act.put, pt1, pt2, pt3]
              refine tk (i := 6) (v := ?vN19n16) rfl ?hyN19n16 ?restN19n16
              case hyN19n16 => (intro w hSw; (try dsimp only at hSw); go_simp <;> with_reducible rfl)
              try simp only [Act.put, pt1, pt2, pt3]
              refine tk (i := 7) (v := ?vN19n17) rfl ?hyN19n17 ?restN19n17
              case hyN19n17 => (intro w hSw; (try dsimp only at hSw); go_simp <;> with_reducible rfl)
              try simp only [Act.put, pt1, pt2, pt3]
              refine tk (i := 8) (v := ?vN19n18) rfl ?hyN19n18 ?restN19n18
              case hyN19n18 => (intro w hSw; (try dsimp only at hSw); go_simp <;> with_reducible rfl)
              try simp only [Act.put, pt1, pt2, pt3]
              refine tk (i := 10) (v := ?vN19n110) rfl ?hyN19n110 ?restN19n110
              case hyN19n110 => (intro w hSw; (try dsimp only at hSw); go_simp <;> with_reducible rfl)
              try simp only [Act.put, pt1, pt2, pt3]
              refine tk (i := 11) (v := ?vN19n111) rfl ?hyN19n111 ?restN19n111
              case hyN19n111 => (intro w hSw; (try dsimp only at hSw); go_simp <;> with_reducible rfl)
              try simp only [Act.put, pt1, pt2, pt3]
              refine wpAnyH_ready (rs := [9]) (by kernel_rfl) (by simp) ?_
              refine AllReadyH.cons rfl (fun K hK => ?_) AllReadyH.nil
              go_simp
              clear hHeld
              refine hK.out _ _ (by (try dsimp only); go_keep) (fun hHeld => ?_)
              clear hK K
              refine wpAnyH_ready (rs := [12]) (by kernel_rfl) (by simp) ?_
              refine AllReadyH.cons rfl (fun K hK => ?_) AllReadyH.nil
              (refine step_append_any _ rfl (.tmp 129) (.tmp 131) 30 rfl wa.heap.size 95 i0 _ 2 16 Tryz.underlying30 hi0 hz0 hz1 hz2 rfl (by omega) (.slice (some ⟨wa.heap.size, 0, none⟩) 0 0) 0 [] rfl (by exact own_d1 wa _ 2) PA pn pc (placeVals x.2.places) rfl (by rw [placeVals_len, HPN.out]) HQN.out (by exact SRB.out _ (below_a1 wa _)) (placeVals_one _) (by simp only [maxLen]; omega) (by omega) (by first | omega | (simp; omega) | simp) ?_; intro B6 c6 w6 hown6 hgr6; have O6 := Lib.hid (show w6.ownsRow wa.heap.size 95 2 (.slice B6 pn c6) pn (placeVals x.2.places) by simpa using hown6); have C6 := Lib.hid (show Below wa.heap.size wa w6 from grown_d1 (by exact hgr6)); have ya0 : w6.cell? ⟨wy.heap.size, 0, none⟩ = some (encStr x.1) := (C6.out.cell (p := ⟨wy.heap.size, 0, none⟩) hnA).trans x0; have ya1 : w6.cell? ⟨wy.heap.size, 1, none⟩ = some (.int .i64 x.2.gen) := (C6.out.cell (p := ⟨wy.heap.size, 1, none⟩) hnA).trans x1; have ya2 : w6.cell? ⟨wy.heap.size, 2, none⟩ = some (.int .i64 x.2.size) := (C6.out.cell (p := ⟨wy.heap.size, 2, none⟩) hnA).trans x2; have ya3 : w6.cell? ⟨wy.heap.size, 3, none⟩ = some (encStr x.2.sum) := (C6.out.cell (p := ⟨wy.heap.size, 3, none⟩) hnA).trans x3; have ya4 : w6.cell? ⟨wy.heap.size, 4, none⟩ = some (.slice PA pn pc) := (C6.out.cell (p := ⟨wy.heap.size, 4, none⟩) hnA).trans x4; clear hown6 hgr6)
              clear hHeld
              refine hK.out _ _ ⟨ya0, ya1, ya2, ya3, ya4⟩ (fun hHeld => ?_)
              clear hK K
              refine tk (i := 13) (v := ?vN19n113) rfl ?hyN19n113 ?restN19n113
              case hyN19n113 => (intro w hSw; (try dsimp only at hSw); go_simp <;> with_reducible rfl)
              refine wpAnyH_ready (rs := [14]) (by kernel_rfl) (by simp) ?_
              refine AllReadyH.cons rfl (fun K hK => ?_) AllReadyH.nil
              go_simp
              clear hHeld
              refine hK.out _ _ (by (try dsimp only); go_keep) (fun hHeld => ?_)
              clear hK K
              refine wpAnyH_ready (rs := [15]) (by kernel_rfl) (by simp) ?_
              refine AllReadyH.cons rfl (fun K hK => ?_) AllReadyH.nil
              (refine step_append_m w _ rfl (.tmp 120) (.tmp 134) rfl _ (X ++ (R.entries.take y).map placedN) rfl (by exact (SA.out.below C6.out).below ((Below.refl _ _).alloc (Nat.le_refl _) _)) (some ⟨w6.heap.size, 0, none⟩) ⟨placedN x, none, 0, B6, c6⟩ (by first | rfl | simp) (fun e => by cases e) (by show SrcAt _ _ _ [.int .i64 2, encStr x.1, .int .i64 x.2.gen, .int .i64 0, .slice none 0 0, encStr x.2.sum, .int .i64 x.2.size, .slice B6 x.2.places.length c6]; rw [HPN.out]; exact src_new _ _ _ _) (NoteM.below (w := w6) ⟨PartM.nil _ _ _, by show PartM w w6 95 B6 x.2.places.length (placeVals x.2.places); rw [HPN.out]; exact PartM.of_own (own_le O6.out hwa), by show x.2.places.length ≤ maxLen; rw [HPN.out]; simp only [maxLen]; omega⟩ ((Below.refl _ _).alloc (Nat.le_refl _) _)) (by have := HLY.out; omega) ?_; intro v' w7 hst7 hk7; have ST7 := Lib.hid hst7; have B67 := Lib.hid (show w7.heap[wy.heap.size]? = w6.heap[wy.heap.size]? from (hk7 _ 43 _ (by decide) ((BNA.out.below C6.out hnA).alloc _)).trans (Below.heap_alloc _ _ _ (by have := C6.out.size; omega))); have za0 : w7.cell? ⟨wy.heap.size, 0, none⟩ = some (encStr x.1) := (World.cell?_of_block (a := ⟨wy.heap.size, 0, none⟩) B67.out).trans ya0; have za1 : w7.cell? ⟨wy.heap.size, 1, none⟩ = some (.int .i64 x.2.gen) := (World.cell?_of_block (a := ⟨wy.heap.size, 1, none⟩) B67.out).trans ya1; have za2 : w7.cell? ⟨wy.heap.size, 2, none⟩ = some (.int .i64 x.2.size) := (World.cell?_of_block (a := ⟨wy.heap.size, 2, none⟩) B67.out).trans ya2; have za3 : w7.cell? ⟨wy.heap.size, 3, none⟩ = some (encStr x.2.sum) := (World.cell?_of_block (a := ⟨wy.heap.size, 3, none⟩) B67.out).trans ya3; have za4 : w7.cell? ⟨wy.heap.size, 4, none⟩ = some (.slice PA pn pc) := (World.cell?_of_block (a := ⟨wy.heap.size, 4, none⟩) B67.out).trans ya4; clear hst7 hk7)
              clear hHeld
              refine hK.out _ _ ⟨za0, za1, za2, za3, za4⟩ (fun hHeld => ?_)
              clear hK K
              refine tk (i := 16) (v := ?vN19n116) rfl ?hyN19n116 ?restN19n116
              case hyN19n116 => (intro w hSw; (try dsimp only at hSw); go_simp <;> with_reducible rfl)
              refine wpAnyH_done (by kernel_rfl) ?_ _
              go_wp2_with fail
              go_roundw
              case rel => exact ⟨y + 1, by go_num, hlt, by rw [HTX.out, ← List.append_assoc]; exact ST7.out⟩
              case measure => simp [intOf]; omega
            · have d2 : decide (y < n1) = false := by simpa using hlt
              obtain rfl : y = n1 := by omega
              obtain ⟨Y, hY⟩ : ∃ Y, Y = X ++ R.entries.map placedN := ⟨_, rfl⟩
              have HYE := Lib.hid hY
              have S2 := Lib.hid (show NtR w wy (.slice A3 nl k4) (Y ++ (R.tombs.take 0).map tombN) by
                have h := ST.out
                rw [List.take_of_length_le (by rw [L1.out]; exact Nat.le_refl _), ← hY] at h
                simpa using h)
              have HYL := Lib.hid (show Y.length ≤ j + q + 1 + y by
                have h := HLY.out
                rw [List.take_of_length_le (by rw [L1.out]; exact Nat.le_refl _), ← hY] at h
                exact h)
              clear hst hbl hly hY ST HLY hlt hy
              go_wp2_with fail
              go_loopw [3, 9] (fun v i wx => ∃ z : Nat, i = .int .i64 z ∧ z ≤ n3 ∧ NtR w wx v (Y ++ (R.tombs.take z).map tombN)) (fun _ i _ => n3 - (intOf i).toNat)
              case atStart => exact ⟨0, rfl, Nat.zero_le _, S2.out⟩
              case round =>
                clear S2 BL
                obtain ⟨z, rfl, hzn, hst⟩ := hrel
                obtain ⟨wz, rfl⟩ : ∃ wz : World, wz = wr := ⟨_, rfl⟩
                have ST := Lib.hid hst
                have hbl := hst.bel
                have BL := Lib.hid hbl
                have hz := hbl.size
                have hly : (Y ++ (R.tombs.take z).map tombN).length ≤ j + q + 1 + y + n3 := by
                  rw [List.length_append, List.length_map, List.length_take, L3.out]
                  have h1 := HYL.out
                  omega
                have HLZ := Lib.hid hly
                have hfm := hst.form
                generalize (Y ++ (R.tombs.take z).map tombN).length = nl at hfm
                obtain ⟨A5, k5, rfl, hna, hca, _⟩ := hfm
                have e3 : wz.cell? ⟨p, 3, none⟩ = some (.slice TB n3 tc) := (hbl.cell (p := ⟨p, 3, none⟩) hpz0).trans c3
                have hpz : p < wz.heap.size := Nat.lt_of_lt_of_le hpz0 hz
                by_cases hlt : z < n3
                · have d2 : decide (z < n3) = true := by simpa using hlt
                  obtain ⟨x, hx⟩ : ∃ x, R.tombs[z]? = some x := ⟨_, List.getElem?_eq_getElem (by rw [L3.out]; exact hlt)⟩
                  obtain ⟨g, rfl, hg, k0, k1'⟩ := HT.out z x hx
                  have q0 : wz.cell? ⟨g, z * 2, none⟩ = some (encStr x.1) := (hbl.cell (p := ⟨g, z * 2, none⟩) hg).trans k0
                  have q1 : wz.cell? ⟨g, z * 2 + 1, none⟩ = some (.int .i64 x.2) := (hbl.cell (p := ⟨g, z * 2 + 1, none⟩) hg).trans k1'
                  have hgz : g < wz.heap.size := Nat.lt_of_lt_of_le hg hz
                  have HTX := Lib.hid (map_take (f := tombN) hx)
                  clear hx hst hbl k0 k1' hly
                  go_upto_region 23 with fail
                  go_region_law (
                    (refine step_append_m w _ rfl (.tmp 145) (.tmp 163) rfl _ (Y ++ (R.tombs.take z).map tombN) rfl (by exact ST.out.below (below_a1 wz _)) (some ⟨wz.heap.size, 0, none⟩) ⟨tombN x, none, 0, none, 0⟩ rfl (fun e => by cases e) (by show SrcAt _ _ _ [.int .i64 6, encStr x.1, .int .i64 x.2, .int .i64 0, .slice none 0 0, encStr [], .int .i64 1, .slice none 0 0]; exact src_new _ _ _ _) ⟨PartM.nil _ _ _, PartM.nil _ _ _, Nat.zero_le _⟩ (by have := HLZ.out; omega) ?_
                     intro v' w4 hst4 _
                     have ST4 := Lib.hid hst4
                     clear hst4))
                  all_goals
                    go_wp2_with fail
                    go_roundw
                    case rel => exact ⟨z + 1, by go_num, hlt, by rw [HTX.out, ← List.append_assoc]; exact ST4.out⟩
                    case measure => simp [intOf]; omega
                · have d2 : decide (z < n3) = false := by simpa using hlt
                  obtain rfl : z = n3 := by omega
                  obtain ⟨Z, hZ⟩ : ∃ Z, Z = Y ++ R.tombs.map tombN := ⟨_, rfl⟩
                  have HZE := Lib.hid hZ
                  have S4 := Lib.hid (show NtR w wz (.slice A5 nl k5) (Z ++ (((List.range 0).map fun n : Nat => (n : Int)).filter (fun n => decide (n ∈ R.retired))).map retireN) by
                    have h := ST.out
                    rw [List.take_of_length_le (by rw [L3.out]; exact Nat.le_refl _), ← hZ] at h
                    simpa using h)
                  have HZL := Lib.hid (show Z.length ≤ j + q + 1 + y + z by
                    have h := HLZ.out
                    rw [List.take_of_length_le (by rw [L3.out]; exact Nat.le_refl _), ← hZ] at h
                    exact h)
                  clear hst hbl hly hZ ST HLZ hlt hzn
                  go_wp2_with fail
                  go_loopw [3, 10] (fun v i wx => ∃ k : Nat, i = .int .i64 k ∧ k ≤ 32 ∧ NtR w wx v (Z ++ (((List.range k).map fun n : Nat => (n : Int)).filter (fun n => decide (n ∈ R.retired))).map retireN)) (fun _ i _ => 32 - (intOf i).toNat)
                  case atStart => exact ⟨0, rfl, Nat.zero_le _, S4.out⟩
                  case round =>
                    clear S4 BL
                    obtain ⟨k, rfl, hk, hst⟩ := hrel
                    obtain ⟨wk, rfl⟩ : ∃ wk : World, wk = wr := ⟨_, rfl⟩
                    have ST := Lib.hid hst
                    have BL := Lib.hid hst.bel
                    have hz := hst.bel.size
                    by_cases hlt : k < 32
                    · have d2 : decide ((k : Int) < 32) = true := by simp; omega
                      have hlk : (Z ++ (((List.range k).map fun n : Nat => (n : Int)).filter (fun n => decide (n ∈ R.retired))).map retireN).length ≤ j + q + 1 + y + z + 32 := by
                        rw [List.length_append, List.length_map]
                        have h1 := HZL.out
                        have h2 := List.length_filter_le (fun n => decide (n ∈ R.retired)) ((List.range k).map fun n : Nat => (n : Int))
                        rw [List.length_map, List.length_range] at h2
                        omega
                      have HLK := Lib.hid hlk
                      have hfm := hst.form
                      generalize (Z ++ (((List.range k).map fun n : Nat => (n : Int)).filter (fun n => decide (n ∈ R.retired))).map retireN).length = nl at hfm
                      obtain ⟨A6, k6, rfl, hna, hca, _⟩ := hfm
                      have HRT := Lib.hid (range_take R k)
                      clear hst hlk
                      go_wp2_with fail
                      refine (rOut F p N R k _ (H.out.below BL.out) (by omega)).mono ?_
                      rintro e wk' ⟨rfl, rfl⟩
                      cases hm : decide ((k : Int) ∈ R.retired) with
                      | true =>
                        have HM2 := Lib.hid (show (if decide ((k : Int) ∈ R.retired) = true then [(k : Int)] else []) = [(k : Int)] by rw [if_pos hm])
                        clear hm
                        go_wp2_with (
                          (at_builtin
                           refine wpList_append_m w _ rfl (.tmp 172) (.tmp 175) rfl _ (Z ++ (((List.range k).map fun n : Nat => (n : Int)).filter (fun n => decide (n ∈ R.retired))).map retireN) rfl (by exact ST.out.below ((Below.refl _ _).alloc (Nat.le_refl _) _)) (some ⟨wk.heap.size, 0, none⟩) ⟨retireN k, none, 0, none, 0⟩ rfl (fun e => by cases e) (by show SrcAt _ _ _ [.int .i64 5, encStr [], .int .i64 0, .int .i64 k, .slice none 0 0, encStr [], .int .i64 0, .slice none 0 0]; exact src_new _ _ _ _) ⟨PartM.nil _ _ _, PartM.nil _ _ _, Nat.zero_le _⟩ (by have := HLK.out; omega) ?_
                           intro v' w4 hst4
                           have ST4 := Lib.hid hst4
                           clear hst4))
                        go_roundw
                        case rel => exact ⟨k + 1, by go_num, hlt, by rw [HRT.out, HM2.out, List.map_append, ← List.append_assoc]; exact ST4.out⟩
                        case measure => simp [intOf]; omega
                      | false =>
                        have HM2 := Lib.hid (show (if decide ((k : Int) ∈ R.retired) = true then [(k : Int)] else []) = [] by rw [if_neg (by rw [hm]; simp)])
                        clear hm
                        go_wp2_with fail
                        go_roundw
                        case rel => exact ⟨k + 1, by go_num, hlt, by rw [HRT.out, HM2.out, List.append_nil]; exact ST.out⟩
                        case measure => simp [intOf]; omega
                    · have d2 : decide ((k : Int) < 32) = false := by simp; omega
                      obtain rfl : k = 32 := by omega
                      have hend : Z ++ (((List.range 32).map fun n : Nat => (n : Int)).filter (fun n => decide (n ∈ R.retired))).map retireN = notesR R := by rw [HZE.out, HYE.out, HXE.out]; rfl
                      rw [hend] at hst
                      have SN := Lib.hid hst
                      obtain ⟨A6, k6, rfl, _, _, _⟩ := hst.form
                      clear hst hend ST
                      go_wp2_with fail
                      go_ret
                      exact ⟨_, _, rfl, SN.out⟩
end
end Go.Proofs.YtmkccblcmiflfaaGreat
