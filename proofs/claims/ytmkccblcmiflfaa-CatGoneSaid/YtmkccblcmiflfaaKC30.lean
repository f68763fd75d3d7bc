/- The law CatGone returns true on values. No condition beyond those that each theorem states. -/
import Derived.Test.YtmkccblcmiflfaaKC29
import Derived.Test.YtmkccblcmiflfaaKP4
namespace Go.Proofs.Ytmkccblcmiflfaa
open Go.RowKit Go.Maps Go.WideMaps

theorem CatAt.facts {F : Nat → Prop} {w : World} {p N : Nat} {C : CV} (h : CatAt F w p N C) : CWf N C ∧ (C.entries.map Prod.fst).Nodup ∧ (C.begun.map Prod.fst).Nodup ∧ C.retired.Nodup ∧ C.entries.length ≤ N ∧ C.begun.length ≤ N ∧ C.retired.length ≤ N := by
  obtain ⟨sv, tv, SR, ER, be, bb, br, hr⟩ := h
  have e1 : (entVals ER).map Prod.fst = C.entries.map Prod.fst := by rw [← hr.entr, entVals, List.map_map, List.map_map]; rfl
  have e2 : (begunVals C.begun).map Prod.fst = C.begun.map Prod.fst := by unfold begunVals; rw [List.map_map]; rfl
  have e3 : (retVals C.retired).map Prod.fst = C.retired := by unfold retVals; rw [List.map_map]; exact List.map_id _
  refine ⟨hr.wf, by rw [← e1]; exact hr.ents.nd, by rw [← e2]; exact hr.begs.nd, by have h := hr.rets.nd; rwa [e3] at h, ?_, ?_, ?_⟩
  · have h1 := hr.ents.len
    have h2 := congrArg List.length e1
    simp only [List.length_map] at h2
    omega
  · have h1 := hr.begs.len
    simpa [begunVals] using h1
  · have h1 := hr.rets.lenI
    simpa [retVals] using h1
theorem OutAt.bytes {w0 w : World} {v : Value} {l : Str} (h : OutAt w0 w 5 v l.length (byteVals l)) : ∃ B, v = .slice B l.length l.length ∧ BytesIn w B l.length l := by
  rcases h with ⟨rfl, h0, _⟩ | ⟨g, rfl, _, h2⟩
  · have e : l = [] := List.eq_nil_of_length_eq_zero h0
    subst e
    exact ⟨none, rfl, BytesIn.empty _ _⟩
  · exact ⟨_, rfl, h2.bytesIn⟩
theorem tombVals_len (L : List (Str × Int)) : (tombVals L).length = L.length * 8 := by
  induction L with
  | nil => rfl
  | cons x L ih => simp only [tombVals, List.flatMap_cons, List.length_append, List.length_cons, List.length_nil] at *; omega
theorem tomb_last (L : List (Str × Int)) (q : Str × Int) (t : Nat) (ht : t < 8) : (tombVals (L ++ [q]))[L.length * 8 + t]? = (tombVals [q])[t]? := by
  have e : tombVals (L ++ [q]) = tombVals L ++ tombVals [q] := by simp [tombVals]
  rw [e, List.getElem?_append_right (by rw [tombVals_len]; omega), tombVals_len]
  congr 1
  omega
section
set_option maxHeartbeats 8000000
set_option maxRecDepth 100000
theorem catGone_walk (A : Option Addr) (n c : Nat) (f : Nat → NoteA) (pk : Nat) (bg : Bool) (DA : Option Addr) (dn dc : Nat) (l : Str) (w : World) (h : NotesIn w A n f) (hnc : n ≤ c) (hc : c ≤ maxLen) (hpk : pk < 256) (hdf : Form DA dn dc) (hd : BytesIn w DA dn l) :
    Calls Try.prog 5 #[.slice A n c, .int .u8 pk, .bool bg, .slice DA dn dc] w fun e w' => e = .returned (.bool true) ∧ Below w.heap.size w w' := by
  have H := Lib.hid h
  have HD := Lib.hid hd
  have hn : n ≤ maxLen := Nat.le_trans hnc hc
  have hld : l.length = dn := hd.1
  have HLD := Lib.hid hld
  have hd63 : dn ≤ 9223372036854775807 := by have h1 := hdf.1; have h2 := hdf.2.1; simp only [maxLen] at h2; omega
  clear h hd hld
  go_enter Try.func5, Try.ntmps5
  go_wp2_with fail
  refine (cMade A n c f 40 _ H.out hn (by omega)).mono ?_
  rintro e w2 ⟨p, F, rfl, hF, hca, hb2⟩
  generalize runC (fun i => (f i).v) (min n 40) = C at hca
  have C2 := Lib.hid hca
  have FF := Lib.hid hF
  have B2 := Lib.hid hb2
  have WF := Lib.hid hca.facts
  clear hca hF hb2
  go_wp2_with fail
  refine (cKeys F p 40 C _ C2.out (by omega)).mono ?_
  rintro e w3 ⟨kv, rfl, hok, hb3⟩
  obtain ⟨KB, rfl, hKB⟩ := hok.form
  have C3 := Lib.hid (C2.out.below hb3)
  have B3 := Lib.hid (show Below w.heap.size w w3 from B2.out.trans (hb3.mono B2.out.size))
  have Z3 := Lib.hid hb3.size
  have KL := Lib.hid (keysC_len C)
  have hgen0 : 0 ≤ C.gen := WF.out.1.gen.1
  have hk80 : (keysC C).length ≤ 80 := by rw [KL.out]; have h1 := WF.out.1.staged; have h2 := WF.out.2.2.2.2.1; omega
  generalize hnk : (keysC C).length = nk at *
  have HNK := Lib.hid hnk
  clear hok hb3 hnk
  by_cases g1 : nk = 0
  · subst g1
    go_wp2_with fail
    refine (awake13 _).mono ?_
    rintro e w5 ⟨rfl, hb5⟩
    have B5 := Lib.hid hb5
    clear hb5
    go_wp2_with fail
    go_ret
    exact ⟨rfl, B3.out.trans (B5.out.mono B3.out.size)⟩
  have e1 : ((nk : Int) == 0) = false := by simpa using g1
  by_cases g2 : 1099511627773 < C.gen
  · have e2 : decide (1099511627773 < C.gen) = true := by simpa using g2
    go_wp2_with fail
    refine (cGen F p 40 C _ C3.out).mono ?_
    rintro e w3' ⟨rfl, rfl⟩
    go_wp2_with fail
    refine (awake13 _).mono ?_
    rintro e w5 ⟨rfl, hb5⟩
    have B5 := Lib.hid hb5
    clear hb5
    go_wp2_with fail
    go_ret
    exact ⟨rfl, B3.out.trans (B5.out.mono B3.out.size)⟩
  have e2 : decide (1099511627773 < C.gen) = false := by simpa using g2
  by_cases g3 : 512 < dn
  · have e3 : decide (512 < dn) = true := by simpa using g3
    have e3' : decide ((512 : Int) < (dn : Int)) = true := by simp; omega
    go_wp2_with fail
    refine (cGen F p 40 C _ C3.out).mono ?_
    rintro e w3' ⟨rfl, rfl⟩
    go_wp2_with fail
    refine (awake13 _).mono ?_
    rintro e w5 ⟨rfl, hb5⟩
    have B5 := Lib.hid hb5
    clear hb5
    go_wp2_with fail
    go_ret
    exact ⟨rfl, B3.out.trans (B5.out.mono B3.out.size)⟩
  have e3 : decide (512 < dn) = false := by simpa using g3
  have e3' : decide ((512 : Int) < (dn : Int)) = false := by simp; omega
  go_wp2_with fail
  refine (cGen F p 40 C _ C3.out).mono ?_
  rintro e w3' ⟨rfl, rfl⟩
  obtain ⟨kg, rfl, hkg⟩ : ∃ g, KB = some ⟨g, 0, none⟩ ∧ RowAt w3 g 9 (strVals (keysC C)) := by
    rcases hKB with ⟨_, h⟩ | ⟨g, h1, _, h2⟩
    · exact absurd h g1
    · exact ⟨g, h1, h2⟩
  have hidx : pk % nk < nk := Nat.mod_lt _ (by omega)
  obtain ⟨key, hkey⟩ : ∃ x, (keysC C)[pk % nk]? = some x := ⟨_, List.getElem?_eq_getElem (by rw [HNK.out]; exact hidx)⟩
  have hcell : w3.cell? ⟨kg, pk % nk, none⟩ = some (encStr key) := hkg.cell (by unfold strVals; rw [List.getElem?_map, hkey]; rfl)
  have htm : ((pk : Int)).tmod (nk : Int) = ((pk % nk : Nat) : Int) := by rw [Int.tmod_eq_emod_of_nonneg (by omega)]; exact (Int.natCast_emod _ _).symm
  have hhad : hasC C key = true := key_had.1 (List.mem_of_getElem? hkey)
  have HH := Lib.hid hhad
  have HKL := Lib.hid (hasC_len WF.out.1 hhad)
  generalize hqi : pk % nk = qi at *
  clear hkg hKB hkey hhad
  go_wp2_with fail
  refine (cEntry F p 40 C key _ C3.out (by have := HKL.out; simp only [maxLen]; omega)).mono ?_
  rintro e w4 ⟨⟨ev, rfl, EB, rfl, hob⟩, hb4⟩
  have B4 := Lib.hid (B3.out.trans (hb4.mono B3.out.size))
  have Z4 := Lib.hid (Nat.le_trans Z3.out hb4.size)
  have C4 := Lib.hid (C3.out.below hb4)
  generalize hx1 : (if hasL C.entries key then key else []) = ek at *
  generalize entC C key = ee at *
  clear hob hb4 hcell hx1
  go_upto_region 7 with fail
  obtain ⟨w5, hw5⟩ : ∃ w5, w5 = w4.alloc (.cells #[encStr ek, .int .i64 ee.gen, .int .i64 ee.size, encStr ee.sum, .slice EB ee.places.length ee.places.length] 46) := ⟨_, rfl⟩
  have hb5 : Below w4.heap.size w4 w5 := by rw [hw5]; exact (Below.refl _ _).alloc (Nat.le_refl _) _
  change Code.wp _ _ _ _ (w4.alloc (.cells #[encStr ek, .int .i64 ee.gen, .int .i64 ee.size, encStr ee.sum, .slice EB ee.places.length ee.places.length] 46))
  rw [← hw5]
  have B5 := Lib.hid (B4.out.trans (hb5.mono B4.out.size))
  have Z5 := Lib.hid (Nat.le_trans Z4.out hb5.size)
  have C5 := Lib.hid (C4.out.below hb5)
  clear hw5 hb5
  go_wp2_with fail
  refine (cNotes F p 40 C _ C5.out (by omega)).mono ?_
  rintro e w6 ⟨NB, rfl, ⟨nc, hst⟩, hb6⟩
  obtain ⟨NP, hNP, hheld⟩ := hst.held
  have HN := Lib.hid hNP
  have N6 := Lib.hid (hheld w6 (fun _ _ _ => rfl))
  have B6 := Lib.hid (B5.out.trans (hb6.mono B5.out.size))
  have Z6 := Lib.hid (Nat.le_trans Z5.out hb6.size)
  have C6 := Lib.hid (C5.out.below hb6)
  have hln63 : (notesC C).length ≤ 9223372036854775807 := by have := N6.out.max; simpa [maxLen] using this
  have HWE := Lib.hid (was_eq (C := C) (key := key) (fun e => by have := HKL.out.1; rw [e] at this; simp at this) HH.out)
  clear hst hb6 hNP hheld
  generalize hln : (notesC C).length = ln at *
  have HLN := Lib.hid hln
  clear hln
  go_wp2_with fail
  go_loopw [13, 15] (fun v i wx => ∃ j : Nat, i = .int .i64 j ∧ j ≤ ln ∧ v = .bool (hasL C.entries key || ((notesC C).take j).any (begunNote key)) ∧ wx = w6) (fun _ i _ => ln - (intOf i).toNat)
  case atStart => exact ⟨0, rfl, Nat.zero_le _, by simp, rfl⟩
  case round =>
    obtain ⟨j, rfl, hj, rfl, rfl⟩ := hrel
    by_cases hlt : j < ln
    · have d1 : decide (j < ln) = true := by simpa using hlt
      obtain ⟨r, hr⟩ : ∃ x, NP[j]? = some x := ⟨_, List.getElem?_eq_getElem (by rw [N6.out.len]; exact hlt)⟩
      obtain ⟨b, off, rfl, hce⟩ : ∃ b off, NB = some ⟨b, off, none⟩ ∧ ∀ j u, (notePVals NP)[j]? = some u → wr.cell? ⟨b, off + j, none⟩ = some u := by
        rcases N6.out.row with ⟨h0, _⟩ | ⟨b, off, h1, h2⟩
        · omega
        · exact ⟨b, off, h1, h2⟩
      have x0 : wr.cell? ⟨b, off + j * 8, none⟩ = some (.int .i64 r.v.kind) := note_cel hce hr 0 (by omega) rfl
      have x1 : wr.cell? ⟨b, off + j * 8 + 1, none⟩ = some (encStr r.v.key) := note_cel hce hr 1 (by omega) rfl
      have hg : (notesC C)[j]? = some r.v := by rw [← HN.out, List.getElem?_map, hr]; rfl
      have HT := Lib.hid (show ((notesC C).take (j + 1)).any (begunNote key) = (((notesC C).take j).any (begunNote key) || begunNote key r.v) by
        rw [List.take_add_one, hg, Option.toList_some, List.any_append]
        simp)
      generalize hv : ((notesC C).take j).any (begunNote key) = vj at *
      generalize hasL C.entries key = v0 at *
      clear hce hr hg hv
      by_cases k1 : r.v.kind = 4
      · have f1 : (r.v.kind == 4) = true := by simpa using k1
        by_cases k2 : r.v.key = key
        · have f2 : (r.v.key == key) = true := by simpa using k2
          have HB := Lib.hid (show begunNote key r.v = true by unfold begunNote; simp [k1, k2])
          clear k1 k2
          go_wp2_with fail
          go_roundw
          case rel => exact ⟨j + 1, by go_num, hlt, by rw [HT.out, HB.out]; simp, by trivial⟩
          case measure => simp [intOf]; omega
        · have f2 : (r.v.key == key) = false := by simpa using k2
          have HB := Lib.hid (show begunNote key r.v = false by unfold begunNote; simp [k2])
          clear k1 k2
          go_wp2_with fail
          go_roundw
          case rel => exact ⟨j + 1, by go_num, hlt, by rw [HT.out, HB.out, Bool.or_false], by trivial⟩
          case measure => simp [intOf]; omega
      · have f1 : (r.v.kind == 4) = false := by simpa using k1
        have HB := Lib.hid (show begunNote key r.v = false by unfold begunNote; simp [k1])
        clear k1
        go_wp2_with fail
        go_roundw
        case rel => exact ⟨j + 1, by go_num, hlt, by rw [HT.out, HB.out, Bool.or_false], by trivial⟩
        case measure => simp [intOf]; omega
    · have d1 : decide (j < ln) = false := by simpa using hlt
      obtain rfl : j = ln := by omega
      rw [List.take_of_length_le (by rw [HLN.out]; exact Nat.le_refl _), HWE.out]
      generalize hW : (hasL C.entries key || hasL C.begun key) = W at *
      have HW := Lib.hid hW
      clear hW HWE HN N6 HLN
      cases bg with
      | true =>
        go_wp2_with fail
        refine (cGen F p 40 C _ C6.out).mono ?_
        rintro e w6' ⟨rfl, rfl⟩
        go_wp2_with fail
        refine (cApply F p 40 C (begN C key) none 0 0 none 0 0 _ C6.out (by omega) (noteIn_lit _ _ rfl rfl (by have := HKL.out; simp only [maxLen]; show key.length ≤ _; omega) (Nat.zero_le _) (by show (Lit.int .i64 (C.gen + 1)).wf = true; simp [Lit.wf, IntKind.min, IntKind.max, IntKind.signed, IntKind.bits]; omega) rfl rfl) (fun h => by omega)).mono ?_
        intro e w7 hp7
        obtain ⟨rfl, F1, hc7, hf7, hg7⟩ := hp7.next (beg_ok hgen0 (by omega) (fun e => by have := HKL.out.1; rw [e] at this; simp at this) HH.out)
        obtain ⟨M, hM, hc7'⟩ : ∃ M, M ≤ 41 ∧ CatAt F1 w7 p M (begV C key) := ⟨_, Nat.le_refl _, hc7⟩
        have CA := Lib.hid hc7'
        have BY := Lib.hid (show Below w.heap.size w w7 from B6.out.trans (hg7.below B6.out.size (fun i hi => (FF.out i hi).1)))
        have FF1 := Lib.hid (show ∀ k, F1 k → w.heap.size ≤ k ∧ k < w7.heap.size from fun k hk => ⟨(hf7 k hk).2.elim (fun h => (FF.out k h).1) (fun h => Nat.le_trans B6.out.size h), (hf7 k hk).1⟩)
        have HH1 := Lib.hid (show hasC (begV C key) key = true from HH.out)
        have HW1 := Lib.hid (show true = (hasL (begV C key).entries key || hasL (begV C key).begun key) from (beg_has C key).symm)
        have KL1 := Lib.hid (show (keysC (begV C key)).length = nk by rw [keysC_len]; exact KL.out.symm)
        have hc0 : 0 ≤ (begV C key).gen := by show 0 ≤ C.gen + 1; omega
        have hc1 : (begV C key).gen ≤ 1099511627774 := by show C.gen + 1 ≤ _; omega
        clear hc7 hc7' hf7 hg7 HW
        obtain ⟨W1, hW1⟩ : ∃ W1 : Bool, W1 = true := ⟨_, rfl⟩
        rw [← hW1] at HW1
        generalize begV C key = C1 at *
        go_upto_region 17 with fail
        go_wp2_with fail
        refine (cTombs F1 p M C1 _ CA.out (by omega)).mono ?_
        rintro e w8 ⟨tv, rfl, ho8, hb8⟩
        obtain ⟨TA, rfl, _⟩ := ho8.form
        have C8 := Lib.hid (CA.out.below hb8)
        have B8 := Lib.hid (BY.out.trans (hb8.mono BY.out.size))
        have FF8 := Lib.hid (show ∀ k, F1 k → w.heap.size ≤ k ∧ k < w8.heap.size from fun k hk => ⟨(FF1.out k hk).1, Nat.lt_of_lt_of_le (FF1.out k hk).2 hb8.size⟩)
        have hnt : C1.tombs.length ≤ 41 := Nat.le_trans CA.out.facts.1.tombs hM
        generalize hnt1 : C1.tombs.length = nt at *
        have HNT := Lib.hid hnt1
        clear ho8 hb8 hnt1
        go_wp2_with fail
        refine (cGen F1 p M C1 _ C8.out).mono ?_
        rintro e w8' ⟨rfl, rfl⟩
        go_wp2_with fail
        refine (cApply F1 p M C1 (goneN C1 key) none 0 0 none 0 0 _ C8.out (by omega) (noteIn_lit _ _ rfl rfl (by have := HKL.out; simp only [maxLen]; show key.length ≤ _; omega) (Nat.zero_le _) (by show (Lit.int .i64 (C1.gen + 1)).wf = true; simp [Lit.wf, IntKind.min, IntKind.max, IntKind.signed, IntKind.bits]; omega) rfl rfl) (fun h => by omega)).mono ?_
        intro e w9 hp9
        obtain ⟨rfl, F2, hc9, hf9, hg9⟩ := hp9.next (gone_ok (by omega) HH1.out)
        have G0 := Lib.hid (gone_not C1 key)
        have G1 := Lib.hid (show (keysC (goneV C1 (goneN C1 key))).length + 1 = nk by rw [gone_len CA.out.facts.1 CA.out.facts.2.1 HH1.out]; exact KL1.out)
        have G2 := Lib.hid (show (goneV C1 (goneN C1 key)).tombs = if W1 = true then C1.tombs ++ [(key, C1.gen + 1)] else C1.tombs by rw [gone_tombs, ← HW1.out])
        have hg3 : (goneV C1 (goneN C1 key)).gen = C1.gen + 1 := rfl
        generalize goneV C1 (goneN C1 key) = CG at *
        have C9 := Lib.hid hc9
        have B9 := Lib.hid (show Below w.heap.size w w9 from B8.out.trans (hg9.below B8.out.size (fun i hi => (FF8.out i hi).1)))
        have FF9 := Lib.hid (show ∀ k, F2 k → w.heap.size ≤ k ∧ k < w9.heap.size from fun k hk => ⟨(hf9 k hk).2.elim (fun h => (FF8.out k h).1) (fun h => Nat.le_trans B8.out.size h), (hf9 k hk).1⟩)
        clear hc9 hf9 hg9
        go_wp2_with fail
        refine (cHas F2 p (M + 1) CG key _ C9.out (by have := HKL.out; simp only [maxLen]; omega)).mono ?_
        rw [G0.out]
        rintro e w10 ⟨rfl, hb10⟩
        have C10 := Lib.hid (C9.out.below hb10)
        have B10 := Lib.hid (B9.out.trans (hb10.mono B9.out.size))
        have Z10 := Lib.hid hb10.size
        clear hb10
        go_wp2_with fail
        refine (cGen F2 p (M + 1) CG _ C10.out).mono ?_
        rw [hg3]
        rintro e w10' ⟨rfl, rfl⟩
        go_wp2_with fail
        refine (cKeys F2 p (M + 1) CG _ C10.out (by omega)).mono ?_
        rintro e w11 ⟨kv2, rfl, ho11, hb11⟩
        obtain ⟨KB2, rfl, _⟩ := ho11.form
        have C11 := Lib.hid (C10.out.below hb11)
        have B11 := Lib.hid (B10.out.trans (hb11.mono B10.out.size))
        have Z11 := Lib.hid (Nat.le_trans Z10.out hb11.size)
        have e11 : ((((keysC CG).length : Nat) : Int) != (nk : Int) - 1) = false := by have := G1.out; simp; omega
        have e12 : ((((keysC CG).length : Nat) : Int) == (nk : Int) - 1) = true := by have := G1.out; simp; omega
        generalize (keysC CG).length = nk2 at *
        clear ho11 hb11
        go_wp2_with fail
        refine (cTombs F2 p (M + 1) CG _ C11.out (by omega)).mono ?_
        rintro e w12 ⟨tv2, rfl, ho12, hb12⟩
        obtain ⟨TB, rfl, hTB⟩ := ho12.form
        have C12 := Lib.hid (C11.out.below hb12)
        have B12 := Lib.hid (B11.out.trans (hb12.mono B11.out.size))
        have Z12 := Lib.hid (Nat.le_trans Z11.out hb12.size)
        have hT2 : CG.tombs = C1.tombs ++ [(key, C1.gen + 1)] := by rw [G2.out, if_pos (by assumption)]
        obtain ⟨tg, rfl, htr⟩ : ∃ g, TB = some ⟨g, 0, none⟩ ∧ RowAt w12 g 26 (tombVals CG.tombs) := by
          rcases hTB with ⟨_, h⟩ | ⟨g, h1, _, h3⟩
          · exact absurd h (by rw [hT2]; simp)
          · exact ⟨g, h1, h3⟩
        have hT3 : CG.tombs.length = nt + 1 := by rw [hT2, List.length_append, HNT.out]; rfl
        have ht1 : w12.cell? ⟨tg, nt * 8 + 1, none⟩ = some (encStr key) := htr.cell (by rw [hT2, ← HNT.out]; exact tomb_last _ _ 1 (by omega))
        have ht2 : w12.cell? ⟨tg, nt * 8 + 2, none⟩ = some (.int .i64 (C1.gen + 1)) := htr.cell (by rw [hT2, ← HNT.out]; exact tomb_last _ _ 2 (by omega))
        rw [hT3]
        clear ho12 hb12 htr hTB hT2 hT3
        go_wp2_with fail
        refine (cApply F2 p (M + 1) CG (againN key l) DA dn dc none 0 0 _ C12.out (by omega) ⟨hdf, HD.out.below B12.out, ⟨Nat.le_refl _, by simp [maxLen], fun _ => ⟨rfl, rfl⟩⟩, ⟨rfl, .inl ⟨rfl, rfl⟩⟩, (by have := HKL.out; simp only [maxLen]; show key.length ≤ _; omega), Nat.zero_le _, rfl, rfl, rfl⟩ (fun h => by omega)).mono ?_
        intro e w13 hp13
        obtain ⟨rfl, F3, hc13, hf13, hg13⟩ := hp13.next (again_ok HKL.out (by rw [HLD.out]; omega) G0.out)
        have B13 := Lib.hid (show Below w.heap.size w w13 from B12.out.trans (hg13.below B12.out.size (fun i hi => (FF9.out i hi).1)))
        have C13 := Lib.hid hc13
        clear hc13 hf13 hg13
        go_wp2_with fail
        refine (cData F3 p (M + 1 + 1) _ key _ C13.out).mono ?_
        rintro e w14 ⟨hdt, hb14⟩
        obtain ⟨DB, rfl, hDB⟩ : ∃ B, e = .returned (.tuple #[.slice B l.length l.length, .bool true]) ∧ BytesIn w14 B l.length l := by
          rcases hdt with ⟨h1, _⟩ | ⟨d, v, ⟨i, _, hi⟩, _, rfl, ho⟩
          · exact absurd h1 (by simp [hasL])
          · obtain rfl := again_data G0.out hi
            obtain ⟨B, rfl, hB⟩ := ho.bytes
            exact ⟨B, rfl, hB⟩
        have B14 := Lib.hid (B13.out.trans (hb14.mono B13.out.size))
        have C14 := Lib.hid (C13.out.below hb14)
        have D14 := Lib.hid hDB
        clear hdt hDB hb14
        go_wp2_with fail
        refine (cStaged F3 p (M + 1 + 1) _ _ C14.out (by omega)).mono ?_
        rintro e w15 ⟨sv, rfl, ho15, hb15⟩
        obtain ⟨ms, sg, rfl, hms, hcs⟩ : ∃ ms sg, sv = .slice (some ⟨sg, 0, none⟩) (ms + 1) (ms + 1) ∧ ms = CG.staged.length ∧ w15.cell? ⟨sg, ms, none⟩ = some (encStr key) := by
          have hl : (CG.staged ++ [(key, l)]).length = CG.staged.length + 1 := by simp
          rcases ho15 with ⟨_, h, _⟩ | ⟨g, h1, _, h3⟩
          · exact absurd h (by show ¬ (CG.staged ++ [(key, l)]).length = 0; omega)
          · refine ⟨CG.staged.length, g, by rw [h1]; show Value.slice _ (CG.staged ++ [(key, l)]).length (CG.staged ++ [(key, l)]).length = _; rw [hl], rfl, h3.cell ?_⟩
            show (strVals ((CG.staged ++ [(key, l)]).map Prod.fst))[CG.staged.length]? = _
            unfold strVals
            rw [List.map_append, List.map_append, List.getElem?_append_right (by simp)]
            simp
        have hm63 : ms ≤ 50 := by rw [hms]; have h := C13.out.facts.1.staged; have hl : (CG.staged ++ [(key, l)]).length = CG.staged.length + 1 := by { simp }; have h2 : (CG.staged ++ [(key, l)]).length ≤ M + 1 + 1 := h; omega
        have hsz : sg < w15.heap.size := World.block_lt_of_cell? _ _ hcs
        have B15 := Lib.hid (B14.out.trans (hb15.mono B14.out.size))
        have D15 := Lib.hid (D14.out.below hb15)
        clear ho15 hb15 hms
        go_wp2_with fail
        refine (awake13 _).mono ?_
        rintro e w16 ⟨rfl, hb16⟩
        have B16 := Lib.hid (B15.out.trans (hb16.mono B15.out.size))
        have hcv1 : (convert 23 9 (.slice DB l.length l.length)).run Try.prog w16 = .ok (encStr l) w16 := arg_string (D15.out.below hb16)
        have hcv2 : (convert 23 9 (.slice DA dn dc)).run Try.prog w16 = .ok (encStr l) w16 := arg_string (HD.out.below B16.out)
        have hcs2 : w16.cell? ⟨sg, ms, none⟩ = some (encStr key) := (hb16.cell (p := ⟨sg, ms, none⟩) hsz).trans hcs
        clear hb16 hcs
        generalize l.length = ll at *
        go_wp2_with fail
        go_ret
        exact ⟨rfl, B16.out⟩
      | false =>
        obtain ⟨F1, rfl⟩ : ∃ F1, F1 = F := ⟨_, rfl⟩
        obtain ⟨w7, rfl⟩ : ∃ w7, w7 = wr := ⟨_, rfl⟩
        obtain ⟨W1, rfl⟩ : ∃ W1, W1 = W := ⟨_, rfl⟩
        obtain ⟨C1, rfl⟩ : ∃ C1, C1 = C := ⟨_, rfl⟩
        obtain ⟨M, hM, hc7'⟩ : ∃ M, M ≤ 41 ∧ CatAt F1 w7 p M C1 := ⟨40, by omega, C6.out⟩
        have CA := Lib.hid hc7'
        have BY := Lib.hid B6.out
        have FF1 := Lib.hid (show ∀ k, F1 k → w.heap.size ≤ k ∧ k < w7.heap.size from fun k hk => ⟨(FF.out k hk).1, Nat.lt_of_lt_of_le (FF.out k hk).2 Z6.out⟩)
        have HH1 := Lib.hid HH.out
        have HW1 := Lib.hid HW.out.symm
        have KL1 := Lib.hid HNK.out
        have hc0 : 0 ≤ C1.gen := hgen0
        have hc1 : C1.gen ≤ 1099511627774 := by omega
        clear hc7'
        go_upto_region 17 with fail
        go_wp2_with fail
        refine (cTombs F1 p M C1 _ CA.out (by omega)).mono ?_
        rintro e w8 ⟨tv, rfl, ho8, hb8⟩
        obtain ⟨TA, rfl, _⟩ := ho8.form
        have C8 := Lib.hid (CA.out.below hb8)
        have B8 := Lib.hid (BY.out.trans (hb8.mono BY.out.size))
        have FF8 := Lib.hid (show ∀ k, F1 k → w.heap.size ≤ k ∧ k < w8.heap.size from fun k hk => ⟨(FF1.out k hk).1, Nat.lt_of_lt_of_le (FF1.out k hk).2 hb8.size⟩)
        have hnt : C1.tombs.length ≤ 41 := Nat.le_trans CA.out.facts.1.tombs hM
        generalize hnt1 : C1.tombs.length = nt at *
        have HNT := Lib.hid hnt1
        clear ho8 hb8 hnt1
        go_wp2_with fail
        refine (cGen F1 p M C1 _ C8.out).mono ?_
        rintro e w8' ⟨rfl, rfl⟩
        go_wp2_with fail
        refine (cApply F1 p M C1 (goneN C1 key) none 0 0 none 0 0 _ C8.out (by omega) (noteIn_lit _ _ rfl rfl (by have := HKL.out; simp only [maxLen]; show key.length ≤ _; omega) (Nat.zero_le _) (by show (Lit.int .i64 (C1.gen + 1)).wf = true; simp [Lit.wf, IntKind.min, IntKind.max, IntKind.signed, IntKind.bits]; omega) rfl rfl) (fun h => by omega)).mono ?_
        intro e w9 hp9
        obtain ⟨rfl, F2, hc9, hf9, hg9⟩ := hp9.next (gone_ok (by omega) HH1.out)
        have G0 := Lib.hid (gone_not C1 key)
        have G1 := Lib.hid (show (keysC (goneV C1 (goneN C1 key))).length + 1 = nk by rw [gone_len CA.out.facts.1 CA.out.facts.2.1 HH1.out]; exact KL1.out)
        have G2 := Lib.hid (show (goneV C1 (goneN C1 key)).tombs = if W1 = true then C1.tombs ++ [(key, C1.gen + 1)] else C1.tombs by rw [gone_tombs, ← HW1.out])
        have hg3 : (goneV C1 (goneN C1 key)).gen = C1.gen + 1 := rfl
        generalize goneV C1 (goneN C1 key) = CG at *
        have C9 := Lib.hid hc9
        have B9 := Lib.hid (show Below w.heap.size w w9 from B8.out.trans (hg9.below B8.out.size (fun i hi => (FF8.out i hi).1)))
        have FF9 := Lib.hid (show ∀ k, F2 k → w.heap.size ≤ k ∧ k < w9.heap.size from fun k hk => ⟨(hf9 k hk).2.elim (fun h => (FF8.out k h).1) (fun h => Nat.le_trans B8.out.size h), (hf9 k hk).1⟩)
        clear hc9 hf9 hg9
        go_wp2_with fail
        refine (cHas F2 p (M + 1) CG key _ C9.out (by have := HKL.out; simp only [maxLen]; omega)).mono ?_
        rw [G0.out]
        rintro e w10 ⟨rfl, hb10⟩
        have C10 := Lib.hid (C9.out.below hb10)
        have B10 := Lib.hid (B9.out.trans (hb10.mono B9.out.size))
        have Z10 := Lib.hid hb10.size
        clear hb10
        go_wp2_with fail
        refine (cGen F2 p (M + 1) CG _ C10.out).mono ?_
        rw [hg3]
        rintro e w10' ⟨rfl, rfl⟩
        go_wp2_with fail
        refine (cKeys F2 p (M + 1) CG _ C10.out (by omega)).mono ?_
        rintro e w11 ⟨kv2, rfl, ho11, hb11⟩
        obtain ⟨KB2, rfl, _⟩ := ho11.form
        have C11 := Lib.hid (C10.out.below hb11)
        have B11 := Lib.hid (B10.out.trans (hb11.mono B10.out.size))
        have Z11 := Lib.hid (Nat.le_trans Z10.out hb11.size)
        have e11 : ((((keysC CG).length : Nat) : Int) != (nk : Int) - 1) = false := by have := G1.out; simp; omega
        have e12 : ((((keysC CG).length : Nat) : Int) == (nk : Int) - 1) = true := by have := G1.out; simp; omega
        generalize (keysC CG).length = nk2 at *
        clear ho11 hb11
        go_wp2_with fail
        refine (cTombs F2 p (M + 1) CG _ C11.out (by omega)).mono ?_
        rintro e w12 ⟨tv2, rfl, ho12, hb12⟩
        obtain ⟨TB, rfl, hTB⟩ := ho12.form
        have C12 := Lib.hid (C11.out.below hb12)
        have B12 := Lib.hid (B11.out.trans (hb12.mono B11.out.size))
        have Z12 := Lib.hid (Nat.le_trans Z11.out hb12.size)
        by_cases hwt : W1 = true
        · have hT2 : CG.tombs = C1.tombs ++ [(key, C1.gen + 1)] := by rw [G2.out, if_pos (by assumption)]
          obtain ⟨tg, rfl, htr⟩ : ∃ g, TB = some ⟨g, 0, none⟩ ∧ RowAt w12 g 26 (tombVals CG.tombs) := by
            rcases hTB with ⟨_, h⟩ | ⟨g, h1, _, h3⟩
            · exact absurd h (by rw [hT2]; simp)
            · exact ⟨g, h1, h3⟩
          have hT3 : CG.tombs.length = nt + 1 := by rw [hT2, List.length_append, HNT.out]; rfl
          have ht1 : w12.cell? ⟨tg, nt * 8 + 1, none⟩ = some (encStr key) := htr.cell (by rw [hT2, ← HNT.out]; exact tomb_last _ _ 1 (by omega))
          have ht2 : w12.cell? ⟨tg, nt * 8 + 2, none⟩ = some (.int .i64 (C1.gen + 1)) := htr.cell (by rw [hT2, ← HNT.out]; exact tomb_last _ _ 2 (by omega))
          rw [hT3]
          clear ho12 hb12 htr hTB hT2 hT3
          go_wp2_with fail
          refine (cApply F2 p (M + 1) CG (againN key l) DA dn dc none 0 0 _ C12.out (by omega) ⟨hdf, HD.out.below B12.out, ⟨Nat.le_refl _, by simp [maxLen], fun _ => ⟨rfl, rfl⟩⟩, ⟨rfl, .inl ⟨rfl, rfl⟩⟩, (by have := HKL.out; simp only [maxLen]; show key.length ≤ _; omega), Nat.zero_le _, rfl, rfl, rfl⟩ (fun h => by omega)).mono ?_
          intro e w13 hp13
          obtain ⟨rfl, F3, hc13, hf13, hg13⟩ := hp13.next (again_ok HKL.out (by rw [HLD.out]; omega) G0.out)
          have B13 := Lib.hid (show Below w.heap.size w w13 from B12.out.trans (hg13.below B12.out.size (fun i hi => (FF9.out i hi).1)))
          have C13 := Lib.hid hc13
          clear hc13 hf13 hg13
          go_wp2_with fail
          refine (cData F3 p (M + 1 + 1) _ key _ C13.out).mono ?_
          rintro e w14 ⟨hdt, hb14⟩
          obtain ⟨DB, rfl, hDB⟩ : ∃ B, e = .returned (.tuple #[.slice B l.length l.length, .bool true]) ∧ BytesIn w14 B l.length l := by
            rcases hdt with ⟨h1, _⟩ | ⟨d, v, ⟨i, _, hi⟩, _, rfl, ho⟩
            · exact absurd h1 (by simp [hasL])
            · obtain rfl := again_data G0.out hi
              obtain ⟨B, rfl, hB⟩ := ho.bytes
              exact ⟨B, rfl, hB⟩
          have B14 := Lib.hid (B13.out.trans (hb14.mono B13.out.size))
          have C14 := Lib.hid (C13.out.below hb14)
          have D14 := Lib.hid hDB
          clear hdt hDB hb14
          go_wp2_with fail
          refine (cStaged F3 p (M + 1 + 1) _ _ C14.out (by omega)).mono ?_
          rintro e w15 ⟨sv, rfl, ho15, hb15⟩
          obtain ⟨ms, sg, rfl, hms, hcs⟩ : ∃ ms sg, sv = .slice (some ⟨sg, 0, none⟩) (ms + 1) (ms + 1) ∧ ms = CG.staged.length ∧ w15.cell? ⟨sg, ms, none⟩ = some (encStr key) := by
            have hl : (CG.staged ++ [(key, l)]).length = CG.staged.length + 1 := by simp
            rcases ho15 with ⟨_, h, _⟩ | ⟨g, h1, _, h3⟩
            · exact absurd h (by show ¬ (CG.staged ++ [(key, l)]).length = 0; omega)
            · refine ⟨CG.staged.length, g, by rw [h1]; show Value.slice _ (CG.staged ++ [(key, l)]).length (CG.staged ++ [(key, l)]).length = _; rw [hl], rfl, h3.cell ?_⟩
              show (strVals ((CG.staged ++ [(key, l)]).map Prod.fst))[CG.staged.length]? = _
              unfold strVals
              rw [List.map_append, List.map_append, List.getElem?_append_right (by simp)]
              simp
          have hm63 : ms ≤ 50 := by rw [hms]; have h := C13.out.facts.1.staged; have hl : (CG.staged ++ [(key, l)]).length = CG.staged.length + 1 := by { simp }; have h2 : (CG.staged ++ [(key, l)]).length ≤ M + 1 + 1 := h; omega
          have hsz : sg < w15.heap.size := World.block_lt_of_cell? _ _ hcs
          have B15 := Lib.hid (B14.out.trans (hb15.mono B14.out.size))
          have D15 := Lib.hid (D14.out.below hb15)
          clear ho15 hb15 hms
          go_wp2_with fail
          refine (awake13 _).mono ?_
          rintro e w16 ⟨rfl, hb16⟩
          have B16 := Lib.hid (B15.out.trans (hb16.mono B15.out.size))
          have hcv1 : (convert 23 9 (.slice DB l.length l.length)).run Try.prog w16 = .ok (encStr l) w16 := arg_string (D15.out.below hb16)
          have hcv2 : (convert 23 9 (.slice DA dn dc)).run Try.prog w16 = .ok (encStr l) w16 := arg_string (HD.out.below B16.out)
          have hcs2 : w16.cell? ⟨sg, ms, none⟩ = some (encStr key) := (hb16.cell (p := ⟨sg, ms, none⟩) hsz).trans hcs
          clear hb16 hcs
          generalize l.length = ll at *
          go_wp2_with fail
          go_ret
          exact ⟨rfl, B16.out⟩
        · have hwf : W1 = false := by simpa using hwt
          have hT3 : CG.tombs.length = nt := by rw [G2.out, if_neg (by assumption), HNT.out]
          rw [hT3] at hTB ⊢
          clear ho12 hb12 hT3
          go_wp2_with fail
          refine (cApply F2 p (M + 1) CG (againN key l) DA dn dc none 0 0 _ C12.out (by omega) ⟨hdf, HD.out.below B12.out, ⟨Nat.le_refl _, by simp [maxLen], fun _ => ⟨rfl, rfl⟩⟩, ⟨rfl, .inl ⟨rfl, rfl⟩⟩, (by have := HKL.out; simp only [maxLen]; show key.length ≤ _; omega), Nat.zero_le _, rfl, rfl, rfl⟩ (fun h => by omega)).mono ?_
          intro e w13 hp13
          obtain ⟨rfl, F3, hc13, hf13, hg13⟩ := hp13.next (again_ok HKL.out (by rw [HLD.out]; omega) G0.out)
          have B13 := Lib.hid (show Below w.heap.size w w13 from B12.out.trans (hg13.below B12.out.size (fun i hi => (FF9.out i hi).1)))
          have C13 := Lib.hid hc13
          clear hc13 hf13 hg13
          go_wp2_with fail
          refine (cData F3 p (M + 1 + 1) _ key _ C13.out).mono ?_
          rintro e w14 ⟨hdt, hb14⟩
          obtain ⟨DB, rfl, hDB⟩ : ∃ B, e = .returned (.tuple #[.slice B l.length l.length, .bool true]) ∧ BytesIn w14 B l.length l := by
            rcases hdt with ⟨h1, _⟩ | ⟨d, v, ⟨i, _, hi⟩, _, rfl, ho⟩
            · exact absurd h1 (by simp [hasL])
            · obtain rfl := again_data G0.out hi
              obtain ⟨B, rfl, hB⟩ := ho.bytes
              exact ⟨B, rfl, hB⟩
          have B14 := Lib.hid (B13.out.trans (hb14.mono B13.out.size))
          have C14 := Lib.hid (C13.out.below hb14)
          have D14 := Lib.hid hDB
          clear hdt hDB hb14
          go_wp2_with fail
          refine (cStaged F3 p (M + 1 + 1) _ _ C14.out (by omega)).mono ?_
          rintro e w15 ⟨sv, rfl, ho15, hb15⟩
          obtain ⟨ms, sg, rfl, hms, hcs⟩ : ∃ ms sg, sv = .slice (some ⟨sg, 0, none⟩) (ms + 1) (ms + 1) ∧ ms = CG.staged.length ∧ w15.cell? ⟨sg, ms, none⟩ = some (encStr key) := by
            have hl : (CG.staged ++ [(key, l)]).length = CG.staged.length + 1 := by simp
            rcases ho15 with ⟨_, h, _⟩ | ⟨g, h1, _, h3⟩
            · exact absurd h (by show ¬ (CG.staged ++ [(key, l)]).length = 0; omega)
            · refine ⟨CG.staged.length, g, by rw [h1]; show Value.slice _ (CG.staged ++ [(key, l)]).length (CG.staged ++ [(key, l)]).length = _; rw [hl], rfl, h3.cell ?_⟩
              show (strVals ((CG.staged ++ [(key, l)]).map Prod.fst))[CG.staged.length]? = _
              unfold strVals
              rw [List.map_append, List.map_append, List.getElem?_append_right (by simp)]
              simp
          have hm63 : ms ≤ 50 := by rw [hms]; have h := C13.out.facts.1.staged; have hl : (CG.staged ++ [(key, l)]).length = CG.staged.length + 1 := by { simp }; have h2 : (CG.staged ++ [(key, l)]).length ≤ M + 1 + 1 := h; omega
          have hsz : sg < w15.heap.size := World.block_lt_of_cell? _ _ hcs
          have B15 := Lib.hid (B14.out.trans (hb15.mono B14.out.size))
          have D15 := Lib.hid (D14.out.below hb15)
          clear ho15 hb15 hms
          go_wp2_with fail
          refine (awake13 _).mono ?_
          rintro e w16 ⟨rfl, hb16⟩
          have B16 := Lib.hid (B15.out.trans (hb16.mono B15.out.size))
          have hcv1 : (convert 23 9 (.slice DB l.length l.length)).run Try.prog w16 = .ok (encStr l) w16 := arg_string (D15.out.below hb16)
          have hcv2 : (convert 23 9 (.slice DA dn dc)).run Try.prog w16 = .ok (encStr l) w16 := arg_string (HD.out.below B16.out)
          have hcs2 : w16.cell? ⟨sg, ms, none⟩ = some (encStr key) := (hb16.cell (p := ⟨sg, ms, none⟩) hsz).trans hcs
          clear hb16 hcs
          generalize l.length = ll at *
          go_wp2_with fail
          go_ret
          exact ⟨rfl, B16.out⟩
end
end Go.Proofs.Ytmkccblcmiflfaa
