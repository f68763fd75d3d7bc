/- The law CatNotes returns true on values. No condition beyond those that each theorem states. -/
import Derived.Test.YtmkccblcmiflfaaGreatKC31
import Derived.Test.YtmkccblcmiflfaaGreatKC27
namespace Go.Proofs.YtmkccblcmiflfaaGreat
open Go.RowKit Go.Maps Go.WideMaps

theorem runC_JC (f : Nat → NoteV) : ∀ k, JC (runC f k)
  | 0 => JC.new
  | k + 1 => (runC_JC f k).step
theorem runN_JC {D : CV} (h : JC D) (l : List NoteV) : JC (runN D l) := by
  induction l generalizing D with
  | nil => exact h
  | cons v l ih => exact ih h.step
theorem wf_i64 {x : Int} (h1 : -9223372036854775808 ≤ x) (h2 : x ≤ 9223372036854775807) : (Lit.int .i64 x).wf = true := by
  simp [Lit.wf, IntKind.min, IntKind.max, IntKind.signed, IntKind.bits]
  omega
structure Fits (v : NoteV) : Prop where
  key : v.key.length ≤ maxLen
  sum : v.sum.length ≤ maxLen
  gen : (Lit.int .i64 v.gen).wf = true
  cart : (Lit.int .i64 v.cart).wf = true
  size : (Lit.int .i64 v.size).wf = true
theorem notes_fit {N : Nat} {C : CV} (hw : CWf N C) : ∀ v ∈ notesC C, Fits v := by
  have hg := hw.gen
  intro v hv
  unfold notesC at hv
  simp only [List.mem_append] at hv
  rcases hv with ((((hv | hv) | hv) | hv) | hv) | hv
  · obtain ⟨q, hq, rfl⟩ := List.mem_map.1 hv
    have h := hw.keys q hq
    exact ⟨by show q.1.length ≤ _; simp only [maxLen]; omega, Nat.zero_le _, rfl, rfl, rfl⟩
  · obtain ⟨q, hq, rfl⟩ := List.mem_map.1 hv
    rw [gensC_eq] at hq
    have h := hw.begun q (List.mem_filter.1 hq).1
    exact ⟨by show q.1.length ≤ _; simp only [maxLen]; omega, Nat.zero_le _, wf_i64 (by show _ ≤ q.2; omega) (by show q.2 ≤ _; omega), rfl, rfl⟩
  · split at hv
    · obtain rfl : v = genN ([], C.gen) := by simpa using hv
      exact ⟨Nat.zero_le _, Nat.zero_le _, wf_i64 (by show _ ≤ C.gen; omega) (by show C.gen ≤ _; omega), rfl, rfl⟩
    · cases hv
  · obtain ⟨q, hq, rfl⟩ := List.mem_map.1 hv
    have h := hw.ents q (entsC_mem hq).1
    exact ⟨by show q.1.length ≤ _; simp only [maxLen]; omega, h.2.2.2.2.2.2.2, wf_i64 (by show _ ≤ q.2.gen; omega) (by show q.2.gen ≤ _; omega), rfl, wf_i64 (by show _ ≤ q.2.size; omega) (by show q.2.size ≤ _; omega)⟩
  · obtain ⟨q, hq, rfl⟩ := List.mem_map.1 hv
    have h := hw.marks q hq
    exact ⟨by show q.1.length ≤ _; simp only [maxLen]; omega, Nat.zero_le _, wf_i64 (by show _ ≤ q.2; omega) (by show q.2 ≤ _; omega), rfl, rfl⟩
  · obtain ⟨q, hq, rfl⟩ := List.mem_map.1 hv
    have h := hw.carts q ((List.mergeSort_perm _ _).mem_iff.1 hq)
    exact ⟨Nat.zero_le _, Nat.zero_le _, rfl, wf_i64 (by show _ ≤ q; omega) (by show q ≤ _; omega), rfl⟩
theorem notes_len {F : Nat → Prop} {w : World} {p N : Nat} {C : CV} (h : CatAt F w p N C) : (notesC C).length ≤ 5 * N + 1 := by
  obtain ⟨hw, _, _, _, h1, h2, h3⟩ := h.facts
  have h4 := hw.staged
  have h5 := hw.tombs
  have h6 : (gensC C).length ≤ C.begun.length := List.length_filter_le _ _
  have h7 : (entsC C).length = C.entries.length := by unfold entsC; rw [List.length_map, sortS_len, List.length_map]
  have h8 : (if lastG (gensC C) < C.gen then [genN ([], C.gen)] else []).length ≤ 1 := by split <;> simp
  unfold notesC
  simp only [List.length_append, List.length_map, sortI_len]
  omega
theorem NSt.held2 {w0 w : World} {B : Option Addr} {c : Nat} {L : List NoteV} (h : NSt w0 w (.slice B L.length c) L) :
    ∃ NP : List NoteP, NP.map (·.v) = L ∧ (∀ w' : World, (∀ k, w0.heap.size ≤ k → k < w.heap.size → w'.heap[k]? = w.heap[k]?) → NotesRd w' B L.length NP) ∧
      ∀ r ∈ NP, Form r.D r.v.data.length r.dc ∧ Form r.Q r.v.places.length r.qc ∧ ∀ b off, r.Q = some ⟨b, off, none⟩ → w0.heap.size ≤ b ∧ b < w.heap.size := by
  obtain ⟨NP, h1, h2, h3, h4⟩ := h
  obtain ⟨B', c', e, hn, hc, hB⟩ := own_form h2
  cases e
  refine ⟨NP, h1, fun w' hk => ⟨by rw [← h1, List.length_map], ?_, fun r hr => (h3 r hr).rd hk, Nat.le_trans hn hc⟩, fun r hr => ?_⟩
  · rcases hB with ⟨rfl, h0, _⟩ | ⟨g, rfl⟩
    · refine .inl ⟨h0, ?_⟩
      have e : NP = [] := by
        rw [← h1, List.length_map] at h0
        exact List.eq_nil_of_length_eq_zero h0
      rw [e]
      rfl
    · have hg := h2.lt g rfl
      exact OneRow.src ((RowAt.of_own h2).of_eq (hk g hg.1 hg.2))
  · have hf : ∀ {t : TypeId} {A : Option Addr} {n c : Nat} {xs : List Value}, PartAt w0 w t A n c xs → Form A n c := fun h => by
      rcases h with ⟨rfl, rfl, rfl, _⟩ | ⟨g, rfl, _, _, h4, h5⟩
      · exact ⟨Nat.le_refl _, Nat.zero_le _, fun _ => ⟨rfl, rfl⟩⟩
      · exact ⟨h4, h5, fun e => by cases e⟩
    refine ⟨hf (h3 r hr).data, hf (h3 r hr).places, fun b off e => ?_⟩
    rcases (h3 r hr).places with ⟨h, _⟩ | ⟨g, h, hg, hrow, _⟩
    · rw [h] at e
      cases e
    · rw [h] at e
      cases e
      exact ⟨hg, hrow.size⟩
section
set_option maxHeartbeats 16000000
set_option maxRecDepth 16000
theorem catNotes_walk (A : Option Addr) (n c : Nat) (f : Nat → NoteA) (A2 : Option Addr) (m c2 : Nat) (f2 : Nat → NoteA) (w : World) (h : NotesIn w A n f) (h2 : NotesIn w A2 m f2) (hnc : n ≤ c) (hc : c ≤ maxLen) (hmc : m ≤ c2) (hc2 : c2 ≤ maxLen) :
    Calls Tryz.prog 3 #[.slice A n c, .slice A2 m c2] w fun e w' => e = .returned (.bool true) ∧ Below w.heap.size w w' := by
  have H := Lib.hid h
  have H2 := Lib.hid h2
  have hn : n ≤ maxLen := Nat.le_trans hnc hc
  have hm63 : m ≤ 9223372036854775807 := by have := Nat.le_trans hmc hc2; simpa [maxLen] using this
  clear h h2
  go_enter Tryz.func3, Tryz.ntmps3
  go_wp2_with fail
  refine (cMade A n c f 40 _ H.out hn (by omega)).mono ?_
  rintro e w2 ⟨p, F, rfl, hF, hca, hb2⟩
  have JC0 := Lib.hid (runC_JC (fun i => (f i).v) (min n 40))
  generalize runC (fun i => (f i).v) (min n 40) = C at *
  have C2 := Lib.hid hca
  have FF := Lib.hid hF
  have B2 := Lib.hid hb2
  have WF := Lib.hid hca.facts
  have hln : (notesC C).length ≤ 201 := notes_len hca
  have FIT := Lib.hid (notes_fit hca.facts.1)
  clear hca hF hb2
  go_wp2_with fail
  refine (cNew _).mono ?_
  rintro e w3 ⟨q, rfl, hq, hdn, hb3⟩
  have D3 := Lib.hid hdn
  have C3 := Lib.hid (C2.out.below hb3)
  have B3 := Lib.hid hb3
  clear hdn hb3
  go_wp2_with fail
  refine (cNotes F p 40 C _ C3.out (by omega)).mono ?_
  rintro e w4 ⟨NB, rfl, ⟨nc, hst⟩, hb4⟩
  obtain ⟨NP, hNP, hheld, hfm⟩ := hst.held2
  have HNP := Lib.hid hNP
  have HH := Lib.hid hheld
  have HFM := Lib.hid hfm
  have B4 := Lib.hid hb4
  have C4 := Lib.hid (C3.out.below hb4)
  have h23 := B3.out.size
  have h34 := B4.out.size
  have h12 := B2.out.size
  have D4 := Lib.hid (show CatAt (fun k => w2.heap.size ≤ k ∧ k < w3.heap.size) w4 q 0 newC from ((CatAt.owning ..).mono _ _ _ D3.out (fun k h1 h2 => ⟨h2, h1⟩)).below hb4)
  have BW := Lib.hid (show Below w.heap.size w w4 from (B2.out.trans (B3.out.mono h12)).trans (hb4.mono (Nat.le_trans h12 h23)))
  obtain ⟨Df, hway, heqv⟩ := notes_way WF.out.1 JC0.out WF.out.2.1 WF.out.2.2.1 WF.out.2.2.2.1
  have WAY := Lib.hid hway
  have EQV := Lib.hid heqv
  clear hst hb4 hNP hheld hfm hway heqv
  generalize hlm : (notesC C).length = ln at *
  have HLN := Lib.hid hlm
  clear hlm
  go_wp2_with fail
  go_loopw [8] (fun i wx => ∃ (j : Nat) (Fd : Nat → Prop), i = .int .i64 j ∧ j ≤ ln ∧ CatAt Fd wx q j (runN newC ((notesC C).take j)) ∧ (∀ k, Fd k → ((w2.heap.size ≤ k ∧ k < w3.heap.size) ∨ w4.heap.size ≤ k) ∧ k < wx.heap.size) ∧ CatAt F wx p 40 C ∧ (∀ k, w3.heap.size ≤ k → k < w4.heap.size → wx.heap[k]? = w4.heap[k]?) ∧ Below w.heap.size w wx ∧ w4.heap.size ≤ wx.heap.size) (fun i _ => ln - (intOf i).toNat)
  case atStart => exact ⟨0, _, rfl, Nat.zero_le _, D4.out, fun k hk => ⟨.inl hk, by omega⟩, C4.out, fun _ _ _ => rfl, BW.out, Nat.le_refl _⟩
  case round =>
    obtain ⟨j, Fd, rfl, hj, hda, hFd, hca, hkp, hbl, hz4⟩ := hrel
    have DA := Lib.hid hda
    have FD := Lib.hid hFd
    have CA := Lib.hid hca
    have KP := Lib.hid hkp
    have BL := Lib.hid hbl
    clear hda hFd hca hkp hbl
    by_cases hlt : j < ln
    · have d1 : decide (j < ln) = true := by simpa using hlt
      have N4 := Lib.hid (HH.out wr KP.out)
      obtain ⟨r, hr⟩ : ∃ x, NP[j]? = some x := ⟨_, List.getElem?_eq_getElem (by rw [N4.out.len]; exact hlt)⟩
      obtain ⟨b, off, rfl, hce⟩ : ∃ b off, NB = some ⟨b, off, none⟩ ∧ ∀ j u, (notePVals NP)[j]? = some u → wr.cell? ⟨b, off + j, none⟩ = some u := by
        rcases N4.out.row with ⟨h0, _⟩ | ⟨b, off, h1, h2⟩
        · omega
        · exact ⟨b, off, h1, h2⟩
      have hg : (notesC C)[j]? = some r.v := by rw [← HNP.out, List.getElem?_map, hr]; rfl
      have hrm := List.mem_of_getElem? hr
      obtain ⟨hf1, hf2, hf3⟩ := HFM.out r hrm
      have hfit := FIT.out r.v (List.mem_of_getElem? hg)
      have hrd := N4.out.ok r hrm
      have NIN := Lib.hid (show NoteIn wr r.v r.D r.v.data.length r.dc r.Q r.v.places.length r.qc from ⟨hf1, hrd.data, hf2, hrd.places, hfit.key, hfit.sum, hfit.gen, hfit.cart, hfit.size⟩)
      have HAP := Lib.hid (show 0 < r.v.places.length → ∀ b off, r.Q = some ⟨b, off, none⟩ → ¬ Fd b from fun _ b' off' e hFb => by
        have h1 := hf3 b' off' e
        rcases (FD.out b' hFb).1 with h | h <;> omega)
      have E0 := Lib.hid (WAY.out.ok.get hg)
      have ES := Lib.hid (runN_step (D := newC) hg)
      have x0 : wr.cell? ⟨b, off + j * 8, none⟩ = some (.int .i64 r.v.kind) := note_cel hce hr 0 (by omega) rfl
      have x1 : wr.cell? ⟨b, off + j * 8 + 1, none⟩ = some (encStr r.v.key) := note_cel hce hr 1 (by omega) rfl
      have x2 : wr.cell? ⟨b, off + j * 8 + 2, none⟩ = some (.int .i64 r.v.gen) := note_cel hce hr 2 (by omega) rfl
      have x3 : wr.cell? ⟨b, off + j * 8 + 3, none⟩ = some (.int .i64 r.v.cart) := note_cel hce hr 3 (by omega) rfl
      have x4 : wr.cell? ⟨b, off + j * 8 + 4, none⟩ = some (.slice r.D r.v.data.length r.dc) := note_cel hce hr 4 (by omega) rfl
      have x5 : wr.cell? ⟨b, off + j * 8 + 5, none⟩ = some (encStr r.v.sum) := note_cel hce hr 5 (by omega) rfl
      have x6 : wr.cell? ⟨b, off + j * 8 + 6, none⟩ = some (.int .i64 r.v.size) := note_cel hce hr 6 (by omega) rfl
      have x7 : wr.cell? ⟨b, off + j * 8 + 7, none⟩ = some (.slice r.Q r.v.places.length r.qc) := note_cel hce hr 7 (by omega) rfl
      clear hr hce hg hrm hf1 hf2 hf3 hfit hrd N4
      generalize r.v.data.length = dl at *
      generalize r.v.places.length = pl at *
      generalize hD : runN newC ((notesC C).take j) = D at *
      go_wp2_with fail
      refine (cApply Fd q j D r.v r.D dl r.dc r.Q pl r.qc _ DA.out (by omega) NIN.out HAP.out).mono ?_
      intro e w5 hp5
      obtain ⟨rfl, Fd', hda', htk⟩ := hp5
      rw [E0.out]
      have DA' := Lib.hid hda'
      have FD' := Lib.hid htk.2
      have GD := Lib.hid htk.1
      clear hda' htk
      go_wp2_with fail
      go_roundw
      case rel => exact ⟨j + 1, Fd', by go_num, hlt, by rw [ES.out]; exact DA'.out, fun k hk => ⟨by rcases (FD'.out k hk).2 with h | h; exact (FD.out k h).1; exact .inr (by omega), (FD'.out k hk).1⟩, (CatAt.owning ..).chg CA.out GD.out (fun k hk h1 h2 => by have h3 := (FF.out k h1).2; rcases (FD.out k h2).1 with h | h <;> omega), fun k h1 h2 => (GD.out.block k (by omega) (fun h3 => by rcases (FD.out k h3).1 with h | h <;> omega)).trans (KP.out k h1 h2), BL.out.trans (GD.out.below BL.out.size (fun i hi => by rcases (FD.out i hi).1 with h | h <;> omega)), Nat.le_trans hz4 GD.out.size⟩
      case measure => simp [intOf]; omega
    · have d1 : decide (j < ln) = false := by simpa using hlt
      obtain rfl : j = ln := by omega
      have hDf : runN newC ((notesC C).take j) = Df := by rw [List.take_of_length_le (by rw [HLN.out]; exact Nat.le_refl _)]; exact WAY.out.ends
      have hdj := DA.out
      rw [hDf] at hdj
      have DF := Lib.hid hdj
      have JD0 := Lib.hid (show JC Df by rw [← WAY.out.ends]; exact runN_JC JC.new _)
      clear DA hDf hdj
      go_wp2_with fail
      refine (cViews F Fd p q 40 j C Df _ CA.out DF.out (by omega) (by omega) EQV.out).mono ?_
      rintro e w6 ⟨rfl, hb6⟩
      have C6 := Lib.hid (CA.out.below hb6)
      have D6 := Lib.hid (DF.out.below hb6)
      have B6 := Lib.hid (BL.out.trans (hb6.mono BL.out.size))
      have Z6 := Lib.hid hb6.size
      have DJ0 := Lib.hid (show ∀ k, F k → ¬ Fd k from fun k h1 h2 => by have h3 := (FF.out k h1).2; rcases (FD.out k h2).1 with h | h <;> omega)
      clear hb6
      obtain ⟨ln, rfl⟩ : ∃ x, x = j := ⟨_, rfl⟩
      go_wp2_with fail
      go_loopw [9] (fun i wx => ∃ (j : Nat) (Fc Fd : Nat → Prop) (Cj Dj : CV), i = .int .i64 j ∧ j ≤ 20 ∧ j ≤ m ∧ CatAt Fc wx p (40 + j) Cj ∧ CatAt Fd wx q (ln + j) Dj ∧ Eqv Cj Dj ∧ JC Cj ∧ JC Dj ∧ (∀ k, Fc k → ¬ Fd k) ∧ (∀ k, Fc k → w.heap.size ≤ k ∧ k < wx.heap.size) ∧ (∀ k, Fd k → w.heap.size ≤ k ∧ k < wx.heap.size) ∧ Below w.heap.size w wx) (fun i _ => m - (intOf i).toNat)
      case atStart => exact ⟨0, F, Fd, C, Df, rfl, by omega, by omega, C6.out, D6.out, EQV.out, JC0.out, JD0.out, DJ0.out, fun k hk => ⟨(FF.out k hk).1, by have h1 := (FF.out k hk).2; have := Z6.out; omega⟩, fun k hk => ⟨by rcases (FD.out k hk).1 with h | h <;> omega, by have h1 := (FD.out k hk).2; have := Z6.out; omega⟩, B6.out⟩
      case round =>
        clear C6 D6 B6 Z6 DJ0 DF CA KP FD BL EQV JC0 JD0 WAY HH HFM FIT WF D4 C4 C3 D3 C2 BW HNP
        obtain ⟨j, Fc, Fd, Cj, Dj, rfl, hj20, hj, hca, hda, heq, hjc, hjd, hdj, hFc, hFd, hbl⟩ := hrel
        have hz := hbl.size
        have CAw := Lib.hid hca
        have DB := Lib.hid hda
        have EQ := Lib.hid heq
        have JCc := Lib.hid hjc
        have JCd := Lib.hid hjd
        have DJ := Lib.hid hdj
        have FC := Lib.hid hFc
        have FD := Lib.hid hFd
        have BLW := Lib.hid hbl
        clear hca hda heq hjc hjd hdj hFc hFd hbl
        by_cases hlt : j < m
        · have d1 : decide (j < m) = true := by simpa using hlt
          by_cases hl20 : j < 20
          · have d2 : decide (j < 20) = true := by simpa using hl20
            have d3 : decide ((j : Int) < 20) = true := by simp; omega
            obtain ⟨b, off, rfl, hlbw, hall⟩ : ∃ b off, A2 = some ⟨b, off, none⟩ ∧ b < w.heap.size ∧ ∀ i, i < m → NoteOk w (f2 i) ∧ ∀ t u, (f2 i).cells[t]? = some u → w.cell? ⟨b, off + i * 8 + t, none⟩ = some u := by
              rcases H2.out with h0 | h0
              · omega
              · exact h0
            obtain ⟨hok, hce⟩ := hall j hlt
            generalize f2 j = r at *
            have OKw := Lib.hid hok
            have OKd := Lib.hid (show NoteOk wr.drew r from (hok.below BLW.out).below ⟨rfl, rfl, rfl, Nat.le_refl _, fun _ _ => rfl⟩)
            have CAd := Lib.hid (show CatAt Fc wr.drew p (40 + j) Cj from CAw.out.below ⟨rfl, rfl, rfl, Nat.le_refl _, fun _ _ => rfl⟩)
            have HAPc := Lib.hid (show 0 < r.qn → ∀ b off, r.Q = some ⟨b, off, none⟩ → ¬ Fc b from fun h0 b' off' e hFb => by have h1 := hok.old h0 b' off' e; have h2 := (FC.out b' hFb).1; omega)
            have hlb := hlbw
            have hap := apply_eqv (v := r.v) EQ.out JCc.out JCd.out
            have HE1 := Lib.hid hap.1
            have HE2 := Lib.hid hap.2
            have hne : ((applyC Cj r.v).1 != (applyC Cj r.v).1) = false := by simp
            have x0 : wr.cell? ⟨b, off + j * 8, none⟩ = some (.int .i64 r.v.kind) := (BLW.out.cell (p := ⟨b, off + j * 8, none⟩) hlbw).trans (hce 0 _ rfl)
            have x1 : wr.cell? ⟨b, off + j * 8 + 1, none⟩ = some (encStr r.v.key) := (BLW.out.cell (p := ⟨b, off + j * 8 + 1, none⟩) hlbw).trans (hce 1 _ rfl)
            have x2 : wr.cell? ⟨b, off + j * 8 + 2, none⟩ = some (.int .i64 r.v.gen) := (BLW.out.cell (p := ⟨b, off + j * 8 + 2, none⟩) hlbw).trans (hce 2 _ rfl)
            have x3 : wr.cell? ⟨b, off + j * 8 + 3, none⟩ = some (.int .i64 r.v.cart) := (BLW.out.cell (p := ⟨b, off + j * 8 + 3, none⟩) hlbw).trans (hce 3 _ rfl)
            have x4 : wr.cell? ⟨b, off + j * 8 + 4, none⟩ = some (.slice r.D r.dn r.dc) := (BLW.out.cell (p := ⟨b, off + j * 8 + 4, none⟩) hlbw).trans (hce 4 _ rfl)
            have x5 : wr.cell? ⟨b, off + j * 8 + 5, none⟩ = some (encStr r.v.sum) := (BLW.out.cell (p := ⟨b, off + j * 8 + 5, none⟩) hlbw).trans (hce 5 _ rfl)
            have x6 : wr.cell? ⟨b, off + j * 8 + 6, none⟩ = some (.int .i64 r.v.size) := (BLW.out.cell (p := ⟨b, off + j * 8 + 6, none⟩) hlbw).trans (hce 6 _ rfl)
            have x7 : wr.cell? ⟨b, off + j * 8 + 7, none⟩ = some (.slice r.Q r.qn r.qc) := (BLW.out.cell (p := ⟨b, off + j * 8 + 7, none⟩) hlbw).trans (hce 7 _ rfl)
            clear hok hce hall hap
            go_upto_region 14 with fail
            refine wp_region_held_drew (S := (fun w' => w'.cell? ⟨b, off + j * 8, none⟩ = some (.int .i64 r.v.kind) ∧ w'.cell? ⟨b, off + j * 8 + 1, none⟩ = some (encStr r.v.key) ∧ w'.cell? ⟨b, off + j * 8 + 2, none⟩ = some (.int .i64 r.v.gen) ∧ w'.cell? ⟨b, off + j * 8 + 3, none⟩ = some (.int .i64 r.v.cart) ∧ w'.cell? ⟨b, off + j * 8 + 4, none⟩ = some (.slice r.D r.dn r.dc) ∧ w'.cell? ⟨b, off + j * 8 + 5, none⟩ = some (encStr r.v.sum) ∧ w'.cell? ⟨b, off + j * 8 + 6, none⟩ = some (.int .i64 r.v.size) ∧ w'.cell? ⟨b, off + j * 8 + 7, none⟩ = some (.slice r.Q r.qn r.qc))) (by kernel_rfl) ⟨x0, x1, x2, x3, x4, x5, x6, x7⟩ (fun hHeld => ?_)
            refine wpAnyH_take (i := 0) (v := ?vCnn10) (take_list rfl) (by kernel_rfl) (by kernel_rfl) (by kernel_rfl) (fun _ _ _ h => h) (Or.inl ⟨by rfl, ?hyCnn10⟩) (by assumption) ?restCnn10
            case hyCnn10 => (intro w hSw; (try dsimp only at hSw); go_simp <;> with_reducible rfl)
            try simp only [Act.put, List.setIfInBounds_toArray, List.set_cons_zero, List.set_cons_succ]
            refine wpAnyH_take (i := 1) (v := ?vCnn11) (take_list rfl) (by kernel_rfl) (by kernel_rfl) (by kernel_rfl) (fun _ _ _ h => h) (Or.inl ⟨by rfl, ?hyCnn11⟩) (by assumption) ?restCnn11
            case hyCnn11 => (intro w hSw; (try dsimp only at hSw); go_simp <;> with_reducible rfl)
            try simp only [Act.put, List.setIfInBounds_toArray, List.set_cons_zero, List.set_cons_succ]
            refine wpAnyH_take (i := 2) (v := ?vCnn12) (take_list rfl) (by kernel_rfl) (by kernel_rfl) (by kernel_rfl) (fun _ _ _ h => h) (Or.inl ⟨by rfl, ?hyCnn12⟩) (by assumption) ?restCnn12
            case hyCnn12 => (intro w hSw; (try dsimp only at hSw); go_simp <;> with_reducible rfl)
            try simp only [Act.put, List.setIfInBounds_toArray, List.set_cons_zero, List.set_cons_succ]
            refine wpAnyH_take (i := 3) (v := ?vCnn13) (take_list rfl) (by kernel_rfl) (by kernel_rfl) (by kernel_rfl) (fun _ _ _ h => h) (Or.inl ⟨by rfl, ?hyCnn13⟩) (by assumption) ?restCnn13
            case hyCnn13 => (intro w hSw; (try dsimp only at hSw); go_simp <;> with_reducible rfl)
            try simp only [Act.put, List.setIfInBounds_toArray, List.set_cons_zero, List.set_cons_succ]
            refine wpAnyH_take (i := 4) (v := ?vCnn14) (take_list rfl) (by kernel_rfl) (by kernel_rfl) (by kernel_rfl) (fun _ _ _ h => h) (Or.inl ⟨by rfl, ?hyCnn14⟩) (by assumption) ?restCnn14
            case hyCnn14 => (intro w hSw; (try dsimp only at hSw); go_simp <;> with_reducible rfl)
            try simp only [Act.put, List.setIfInBounds_toArray, List.set_cons_zero, List.set_cons_succ]
            refine wpAnyH_take (i := 6) (v := ?vCnn16) (take_list rfl) (by kernel_rfl) (by kernel_rfl) (by kernel_rfl) (fun _ _ _ h => h) (Or.inl ⟨by rfl, ?hyCnn16⟩) (by assumption) ?restCnn16
            case hyCnn16 => (intro w hSw; (try dsimp only at hSw); go_simp <;> with_reducible rfl)
            try simp only [Act.put, List.setIfInBounds_toArray, List.set_cons_zero, List.set_cons_succ]
            refine wpAnyH_take (i := 7) (v := ?vCnn17) (take_list rfl) (by kernel_rfl) (by kernel_rfl) (by kernel_rfl) (fun _ _ _ h => h) (Or.inl ⟨by rfl, ?hyCnn17⟩) (by assumption) ?restCnn17
            case hyCnn17 => (intro w hSw; (try dsimp only at hSw); go_simp <;> with_reducible rfl)
            try simp only [Act.put, List.setIfInBounds_toArray, List.set_cons_zero, List.set_cons_succ]
            refine wpAnyH_take (i := 8) (v := ?vCnn18) (take_list rfl) (by kernel_rfl) (by kernel_rfl) (by kernel_rfl) (fun _ _ _ h => h) (Or.inl ⟨by rfl, ?hyCnn18⟩) (by assumption) ?restCnn18
            case hyCnn18 => (intro w hSw; (try dsimp only at hSw); go_simp <;> with_reducible rfl)
            try simp only [Act.put, List.setIfInBounds_toArray, List.set_cons_zero, List.set_cons_succ]
            refine wpAnyH_take (i := 9) (v := ?vCnn19) (take_list rfl) (by kernel_rfl) (by kernel_rfl) (by kernel_rfl) (fun _ _ _ h => h) (Or.inl ⟨by rfl, ?hyCnn19⟩) (by assumption) ?restCnn19
            case hyCnn19 => (intro w hSw; (try dsimp only at hSw); go_simp <;> with_reducible rfl)
            try simp only [Act.put, List.setIfInBounds_toArray, List.set_cons_zero, List.set_cons_succ]
            refine wpAnyH_take (i := 10) (v := ?vCnn110) (take_list rfl) (by kernel_rfl) (by kernel_rfl) (by kernel_rfl) (fun _ _ _ h => h) (Or.inl ⟨by rfl, ?hyCnn110⟩) (by assumption) ?restCnn110
            case hyCnn110 => (intro w hSw; (try dsimp only at hSw); go_simp <;> with_reducible rfl)
            try simp only [Act.put, List.setIfInBounds_toArray, List.set_cons_zero, List.set_cons_succ]
            refine wpAnyH_ready (rs := [5]) (by kernel_rfl) (by simp) ?_
            refine AllReadyH.cons rfl (fun K hK => ?_) AllReadyH.nil
            go_simp
            go_wp2_with (go_at_call 10; refine (cApply Fc p (40 + j) Cj r.v r.D r.dn r.dc r.Q r.qn r.qc _ CAd.out (by omega) OKd.out.is HAPc.out).mono ?_; rintro e wa ⟨rfl, Fc', hca', htk'⟩; have CA' := Lib.hid hca'; have GC := Lib.hid (show Chg Fc wr wa from ⟨htk'.1.os, htk'.1.tape, htk'.1.output, htk'.1.size, htk'.1.block⟩); have FC' := Lib.hid (show ∀ k, Fc' k → k < wa.heap.size ∧ (Fc k ∨ wr.heap.size ≤ k) from htk'.2); have BA := Lib.hid (show Below w.heap.size wr wa from GC.out.below hz (fun i hi => (FC.out i hi).1)); have DA := Lib.hid ((CatAt.owning ..).chg DB.out GC.out (fun k _ h1 h2 => DJ.out k h2 h1)); have OKa := Lib.hid (OKw.out.below (BLW.out.trans BA.out)); have HAPd := Lib.hid (show 0 < r.qn → ∀ b off, r.Q = some ⟨b, off, none⟩ → ¬ Fd b from fun h0 b' off' e hFb => by have h1 := OKw.out.old h0 b' off' e; have h2 := (FD.out b' hFb).1; omega); have y0 : wa.cell? ⟨b, off + j * 8, none⟩ = some (.int .i64 r.v.kind) := (BA.out.cell (p := ⟨b, off + j * 8, none⟩) hlb).trans x0; have y1 : wa.cell? ⟨b, off + j * 8 + 1, none⟩ = some (encStr r.v.key) := (BA.out.cell (p := ⟨b, off + j * 8 + 1, none⟩) hlb).trans x1; have y2 : wa.cell? ⟨b, off + j * 8 + 2, none⟩ = some (.int .i64 r.v.gen) := (BA.out.cell (p := ⟨b, off + j * 8 + 2, none⟩) hlb).trans x2; have y3 : wa.cell? ⟨b, off + j * 8 + 3, none⟩ = some (.int .i64 r.v.cart) := (BA.out.cell (p := ⟨b, off + j * 8 + 3, none⟩) hlb).trans x3; have y4 : wa.cell? ⟨b, off + j * 8 + 4, none⟩ = some (.slice r.D r.dn r.dc) := (BA.out.cell (p := ⟨b, off + j * 8 + 4, none⟩) hlb).trans x4; have y5 : wa.cell? ⟨b, off + j * 8 + 5, none⟩ = some (encStr r.v.sum) := (BA.out.cell (p := ⟨b, off + j * 8 + 5, none⟩) hlb).trans x5; have y6 : wa.cell? ⟨b, off + j * 8 + 6, none⟩ = some (.int .i64 r.v.size) := (BA.out.cell (p := ⟨b, off + j * 8 + 6, none⟩) hlb).trans x6; have y7 : wa.cell? ⟨b, off + j * 8 + 7, none⟩ = some (.slice r.Q r.qn r.qc) := (BA.out.cell (p := ⟨b, off + j * 8 + 7, none⟩) hlb).trans x7; clear hca' htk')
            clear hHeld
            refine hK.out _ _ ⟨y0, y1, y2, y3, y4, y5, y6, y7⟩ (fun hHeld => ?_)
            clear hK K
            refine wpAnyH_ready (rs := [11]) (by kernel_rfl) (by simp) ?_
            refine AllReadyH.cons rfl (fun K hK => ?_) AllReadyH.nil
            go_simp
            go_wp2_with (go_at_call 10; refine (cApply Fd q (ln + j) Dj r.v r.D r.dn r.dc r.Q r.qn r.qc _ DA.out (by omega) OKa.out.is HAPd.out).mono ?_; rintro e wb ⟨rfl, Fd', hda', htk'⟩; rw [HE1.out]; have DA' := Lib.hid hda'; have GD := Lib.hid htk'.1; have FD' := Lib.hid (show ∀ k, Fd' k → k < wb.heap.size ∧ (Fd k ∨ wa.heap.size ≤ k) from htk'.2); have BB := Lib.hid (show Below w.heap.size wa wb from GD.out.below (Nat.le_trans hz BA.out.size) (fun i hi => (FD.out i hi).1)); have CB' := Lib.hid ((CatAt.owning ..).chg CA'.out GD.out (fun k hk h1 h2 => by rcases (FC'.out k h1).2 with h | h; exact DJ.out k h h2; have := (FD.out k h2).2; omega)); have BAB := Lib.hid (BA.out.trans BB.out); have z0 : wb.cell? ⟨b, off + j * 8, none⟩ = some (.int .i64 r.v.kind) := (BAB.out.cell (p := ⟨b, off + j * 8, none⟩) hlb).trans x0; have z1 : wb.cell? ⟨b, off + j * 8 + 1, none⟩ = some (encStr r.v.key) := (BAB.out.cell (p := ⟨b, off + j * 8 + 1, none⟩) hlb).trans x1; have z2 : wb.cell? ⟨b, off + j * 8 + 2, none⟩ = some (.int .i64 r.v.gen) := (BAB.out.cell (p := ⟨b, off + j * 8 + 2, none⟩) hlb).trans x2; have z3 : wb.cell? ⟨b, off + j * 8 + 3, none⟩ = some (.int .i64 r.v.cart) := (BAB.out.cell (p := ⟨b, off + j * 8 + 3, none⟩) hlb).trans x3; have z4 : wb.cell? ⟨b, off + j * 8 + 4, none⟩ = some (.slice r.D r.dn r.dc) := (BAB.out.cell (p := ⟨b, off + j * 8 + 4, none⟩) hlb).trans x4; have z5 : wb.cell? ⟨b, off + j * 8 + 5, none⟩ = some (encStr r.v.sum) := (BAB.out.cell (p := ⟨b, off + j * 8 + 5, none⟩) hlb).trans x5; have z6 : wb.cell? ⟨b, off + j * 8 + 6, none⟩ = some (.int .i64 r.v.size) := (BAB.out.cell (p := ⟨b, off + j * 8 + 6, none⟩) hlb).trans x6; have z7 : wb.cell? ⟨b, off + j * 8 + 7, none⟩ = some (.slice r.Q r.qn r.qc) := (BAB.out.cell (p := ⟨b, off + j * 8 + 7, none⟩) hlb).trans x7; clear hda' htk')
            clear hHeld
            refine hK.out _ _ ⟨z0, z1, z2, z3, z4, z5, z6, z7⟩ (fun hHeld => ?_)
            clear hK K
            refine wpAnyH_take (i := 12) (v := ?vCnn112) (take_list rfl) (by kernel_rfl) (by kernel_rfl) (by kernel_rfl) (fun _ _ _ h => h) (Or.inl ⟨by rfl, ?hyCnn112⟩) (by assumption) ?restCnn112
            case hyCnn112 => (intro w hSw; (try dsimp only at hSw); go_simp <;> with_reducible rfl)
            try simp only [Act.put, List.setIfInBounds_toArray, List.set_cons_zero, List.set_cons_succ]
            refine wpAnyH_take (i := 13) (v := ?vCnn113) (take_list rfl) (by kernel_rfl) (by kernel_rfl) (by kernel_rfl) (fun _ _ _ h => h) (Or.inl ⟨by rfl, ?hyCnn113⟩) (by assumption) ?restCnn113
            case hyCnn113 => (intro w hSw; (try dsimp only at hSw); go_simp <;> with_reducible rfl)
            try simp only [Act.put, List.setIfInBounds_toArray, List.set_cons_zero, List.set_cons_succ]
            refine wpAnyH_take (i := 14) (v := ?vCnn114) (take_list rfl) (by kernel_rfl) (by kernel_rfl) (by kernel_rfl) (fun _ _ _ h => h) (Or.inl ⟨by rfl, ?hyCnn114⟩) (by assumption) ?restCnn114
            case hyCnn114 => (intro w hSw; (try dsimp only at hSw); go_simp <;> with_reducible rfl)
            try simp only [Act.put, List.setIfInBounds_toArray, List.set_cons_zero, List.set_cons_succ]
            refine wpAnyH_take (i := 15) (v := ?vCnn115) (take_list rfl) (by kernel_rfl) (by kernel_rfl) (by kernel_rfl) (fun _ _ _ h => h) (Or.inl ⟨by rfl, ?hyCnn115⟩) (by assumption) ?restCnn115
            case hyCnn115 => (intro w hSw; (try dsimp only at hSw); go_simp <;> with_reducible rfl)
            try simp only [Act.put, List.setIfInBounds_toArray, List.set_cons_zero, List.set_cons_succ]
            refine wpAnyH_ready (rs := [16]) (by kernel_rfl) (by simp) ?_
            refine AllReadyH.cons rfl (fun K hK => ?_) AllReadyH.nil
            go_simp
            go_wp2_with (go_at_call 11; refine (cViews Fc' Fd' p q (40 + j + 1) (ln + j + 1) _ _ _ CB'.out DA'.out (by omega) (by omega) HE2.out).mono ?_; rintro e wc ⟨rfl, hbc⟩; have BC := Lib.hid (show Below wb.heap.size wb wc from hbc); have BABC := Lib.hid (BAB.out.trans (hbc.mono (Nat.le_trans hz BAB.out.size))); have u0 : wc.cell? ⟨b, off + j * 8, none⟩ = some (.int .i64 r.v.kind) := (BABC.out.cell (p := ⟨b, off + j * 8, none⟩) hlb).trans x0; have u1 : wc.cell? ⟨b, off + j * 8 + 1, none⟩ = some (encStr r.v.key) := (BABC.out.cell (p := ⟨b, off + j * 8 + 1, none⟩) hlb).trans x1; have u2 : wc.cell? ⟨b, off + j * 8 + 2, none⟩ = some (.int .i64 r.v.gen) := (BABC.out.cell (p := ⟨b, off + j * 8 + 2, none⟩) hlb).trans x2; have u3 : wc.cell? ⟨b, off + j * 8 + 3, none⟩ = some (.int .i64 r.v.cart) := (BABC.out.cell (p := ⟨b, off + j * 8 + 3, none⟩) hlb).trans x3; have u4 : wc.cell? ⟨b, off + j * 8 + 4, none⟩ = some (.slice r.D r.dn r.dc) := (BABC.out.cell (p := ⟨b, off + j * 8 + 4, none⟩) hlb).trans x4; have u5 : wc.cell? ⟨b, off + j * 8 + 5, none⟩ = some (encStr r.v.sum) := (BABC.out.cell (p := ⟨b, off + j * 8 + 5, none⟩) hlb).trans x5; have u6 : wc.cell? ⟨b, off + j * 8 + 6, none⟩ = some (.int .i64 r.v.size) := (BABC.out.cell (p := ⟨b, off + j * 8 + 6, none⟩) hlb).trans x6; have u7 : wc.cell? ⟨b, off + j * 8 + 7, none⟩ = some (.slice r.Q r.qn r.qc) := (BABC.out.cell (p := ⟨b, off + j * 8 + 7, none⟩) hlb).trans x7; clear hbc)
            clear hHeld
            refine hK.out _ _ ⟨u0, u1, u2, u3, u4, u5, u6, u7⟩ (fun hHeld => ?_)
            clear hK K
            refine wpAnyH_take (i := 17) (v := ?vCnn117) (take_list rfl) (by kernel_rfl) (by kernel_rfl) (by kernel_rfl) (fun _ _ _ h => h) (Or.inl ⟨by rfl, ?hyCnn117⟩) (by assumption) ?restCnn117
            case hyCnn117 => (intro w hSw; (try dsimp only at hSw); go_simp <;> with_reducible rfl)
            try simp only [Act.put, List.setIfInBounds_toArray, List.set_cons_zero, List.set_cons_succ]
            refine wpAnyH_take (i := 18) (v := ?vCnn118) (take_list rfl) (by kernel_rfl) (by kernel_rfl) (by kernel_rfl) (fun _ _ _ h => h) (Or.inl ⟨by rfl, ?hyCnn118⟩) (by assumption) ?restCnn118
            case hyCnn118 => (intro w hSw; (try dsimp only at hSw); go_simp <;> with_reducible rfl)
            try simp only [Act.put, List.setIfInBounds_toArray, List.set_cons_zero, List.set_cons_succ]
            refine wpAnyH_done (by kernel_rfl) ?_ _
            go_wp2_with fail
            go_roundw
            case rel => exact ⟨j + 1, Fc', Fd', _, _, by go_num, by omega, hlt, CB'.out.below BC.out, DA'.out.below BC.out, HE2.out, JCc.out.step, JCd.out.step, fun k h1 h2 => (by have h3 := FC'.out k h1; have h4 := FD'.out k h2; rcases h4.2 with h | h; (rcases h3.2 with h' | h'; exact DJ.out k h' h; have := (FD.out k h).2; omega); omega), fun k hk => ⟨(by rcases (FC'.out k hk).2 with h | h; exact (FC.out k h).1; omega), Nat.lt_of_lt_of_le (FC'.out k hk).1 (Nat.le_trans BB.out.size BC.out.size)⟩, fun k hk => ⟨(by rcases (FD'.out k hk).2 with h | h; exact (FD.out k h).1; have := BA.out.size; omega), Nat.lt_of_lt_of_le (FD'.out k hk).1 BC.out.size⟩, BLW.out.trans BABC.out⟩
            case measure => simp [intOf]; omega
          · have d2 : decide (j < 20) = false := by simpa using hl20
            have d3 : decide ((j : Int) < 20) = false := by simp; omega
            go_wp2_with fail
            refine (awake13 _).mono ?_
            rintro e w9 ⟨rfl, hb9⟩
            have B9 := Lib.hid (BLW.out.trans (hb9.mono hz))
            clear hb9
            go_wp2_with fail
            go_ret
            exact ⟨rfl, B9.out⟩
        · have d1 : decide (j < m) = false := by simpa using hlt
          go_wp2_with fail
          refine (awake13 _).mono ?_
          rintro e w9 ⟨rfl, hb9⟩
          have B9 := Lib.hid (BLW.out.trans (hb9.mono hz))
          clear hb9
          go_wp2_with fail
          go_ret
          exact ⟨rfl, B9.out⟩
end
end Go.Proofs.YtmkccblcmiflfaaGreat
