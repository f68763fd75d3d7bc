/- The law CatRefuses returns true on values. No condition beyond those that each theorem states. -/
import Derived.Test.YtmkccblcmiflfaaKC28
namespace Go.Proofs.Ytmkccblcmiflfaa
open Go.RowKit Go.Maps Go.WideMaps

theorem OneRow.src {w : World} {g : Nat} {t : TypeId} {xs : List Value} {m : Nat} (h : RowAt w g t xs) : SrcAt w (some ⟨g, 0, none⟩) m xs := .inr ⟨g, 0, rfl, fun j u hu => by rw [Nat.zero_add]; exact h.cell hu⟩
theorem NotePOk.rd {w0 w w' : World} {r : NoteP} (h : NotePOk w0 w r) (hk : ∀ k, w0.heap.size ≤ k → k < w.heap.size → w'.heap[k]? = w.heap[k]?) : NoteRd w' r.v r.D r.v.data.length r.Q r.v.places.length := by
  refine ⟨?_, ⟨rfl, ?_⟩, ?_⟩
  · rcases h.data with ⟨h1, h2, _, h4⟩ | ⟨g, h1, h2, h3, _⟩
    · have e : r.v.data = [] := List.eq_nil_of_length_eq_zero h2
      rw [e]
      exact BytesIn.empty _ _
    · rw [h1]
      exact (h3.of_eq (hk g h2 h3.size)).bytesIn
  · rcases h.places with ⟨h1, h2, _, h4⟩ | ⟨g, h1, h2, h3, _⟩
    · exact .inl ⟨h2, h4⟩
    · rw [h1]
      exact OneRow.src (h3.of_eq (hk g h2 h3.size))
  · rcases h.places with ⟨_, h2, _, _⟩ | ⟨g, _, _, _, h4, h5⟩
    · rw [h2]
      exact Nat.zero_le _
    · exact Nat.le_trans h4 h5
theorem NSt.held {w0 w : World} {B : Option Addr} {c : Nat} {L : List NoteV} (h : NSt w0 w (.slice B L.length c) L) :
    ∃ NP : List NoteP, NP.map (·.v) = L ∧ ∀ w' : World, (∀ k, w0.heap.size ≤ k → k < w.heap.size → w'.heap[k]? = w.heap[k]?) → NotesRd w' B L.length NP := by
  obtain ⟨NP, h1, h2, h3, h4⟩ := h
  obtain ⟨B', c', e, hn, hc, hB⟩ := own_form h2
  cases e
  refine ⟨NP, h1, fun w' hk => ⟨by rw [← h1, List.length_map], ?_, fun r hr => (h3 r hr).rd hk, Nat.le_trans hn hc⟩⟩
  rcases hB with ⟨rfl, h0, _⟩ | ⟨g, rfl⟩
  · refine .inl ⟨h0, ?_⟩
    have e : NP = [] := by
      rw [← h1, List.length_map] at h0
      exact List.eq_nil_of_length_eq_zero h0
    rw [e]
    rfl
  · have hg := h2.lt g rfl
    exact OneRow.src ((RowAt.of_own h2).of_eq (hk g hg.1 hg.2))
section
set_option maxHeartbeats 8000000
set_option maxRecDepth 16000
theorem catRefuses_walk (A : Option Addr) (n c : Nat) (f : Nat → NoteA) (r : NoteA) (w : World) (h : NotesIn w A n f) (hr : NoteOk w r) (hnc : n ≤ c) (hc : c ≤ maxLen) :
    Calls Try.prog 3 #[.slice A n c, noteAgg r.v r.D r.dn r.dc r.Q r.qn r.qc] w fun e w' => e = .returned (.bool true) ∧ Below w.heap.size w w' := by
  have H := Lib.hid h
  have HR := Lib.hid hr
  have hn : n ≤ maxLen := Nat.le_trans hnc hc
  clear h hr
  unfold noteAgg
  go_enter Try.func3, Try.ntmps3
  go_upto_region 1 with fail
  obtain ⟨w1, hw1⟩ : ∃ w1, w1 = w.alloc (.cells #[.int .i64 r.v.kind, encStr r.v.key, .int .i64 r.v.gen, .int .i64 r.v.cart, .slice r.D r.dn r.dc, encStr r.v.sum, .int .i64 r.v.size, .slice r.Q r.qn r.qc] 26) := ⟨_, rfl⟩
  have hb1 : Below w.heap.size w w1 := by rw [hw1]; exact (Below.refl _ _).alloc (Nat.le_refl _) _
  have BB := Lib.hid (show Blk w1 w.heap.size 26 #[.int .i64 r.v.kind, encStr r.v.key, .int .i64 r.v.gen, .int .i64 r.v.cart, .slice r.D r.dn r.dc, encStr r.v.sum, .int .i64 r.v.size, .slice r.Q r.qn r.qc] by rw [hw1]; exact Blk.made w _ _)
  change Code.wp _ _ _ _ (w.alloc (.cells #[.int .i64 r.v.kind, encStr r.v.key, .int .i64 r.v.gen, .int .i64 r.v.cart, .slice r.D r.dn r.dc, encStr r.v.sum, .int .i64 r.v.size, .slice r.Q r.qn r.qc] 26))
  rw [← hw1]
  have B1 := Lib.hid hb1
  have H1 := Lib.hid (H.out.below hb1)
  have R1 := Lib.hid (HR.out.below hb1)
  clear hw1 hb1
  go_wp2_with fail
  refine (cMade A n c f 40 _ H1.out hn (by omega)).mono ?_
  rintro e w2 ⟨p, F, rfl, hF, hca, hb2⟩
  generalize runC (fun i => (f i).v) (min n 40) = C at hca
  have C2 := Lib.hid hca
  have FF := Lib.hid hF
  have B2 := Lib.hid hb2
  clear hca hF hb2
  go_wp2_with fail
  refine (cNotes F p 40 C _ C2.out (by omega)).mono ?_
  rintro e w3 ⟨NB, rfl, ⟨nc, hst⟩, hb3⟩
  obtain ⟨NP, hNP, hheld⟩ := hst.held
  have HN := Lib.hid hNP
  have HH := Lib.hid hheld
  have B3 := Lib.hid hb3
  have B13 := Lib.hid (show Below w1.heap.size w1 w3 from B2.out.trans (hb3.mono B2.out.size))
  have R3 := Lib.hid (R1.out.below B13.out)
  have HAP := Lib.hid (show 0 < r.qn → ∀ b off, r.Q = some ⟨b, off, none⟩ → ¬ F b from fun h0 b off e hFb => by have := R1.out.old h0 b off e; have := (FF.out b hFb).1; omega)
  have C3 := Lib.hid (C2.out.below B3.out)
  have BB3 := Lib.hid (BB.out.below B13.out BB.out.size)
  have q0 : w3.cell? ⟨w.heap.size, 0, none⟩ = some (.int .i64 r.v.kind) := BB3.out.cell 0
  have q1 : w3.cell? ⟨w.heap.size, 1, none⟩ = some (encStr r.v.key) := BB3.out.cell 1
  have q2 : w3.cell? ⟨w.heap.size, 2, none⟩ = some (.int .i64 r.v.gen) := BB3.out.cell 2
  have q3 : w3.cell? ⟨w.heap.size, 3, none⟩ = some (.int .i64 r.v.cart) := BB3.out.cell 3
  have q4 : w3.cell? ⟨w.heap.size, 4, none⟩ = some (.slice r.D r.dn r.dc) := BB3.out.cell 4
  have q5 : w3.cell? ⟨w.heap.size, 5, none⟩ = some (encStr r.v.sum) := BB3.out.cell 5
  have q6 : w3.cell? ⟨w.heap.size, 6, none⟩ = some (.int .i64 r.v.size) := BB3.out.cell 6
  have q7 : w3.cell? ⟨w.heap.size, 7, none⟩ = some (.slice r.Q r.qn r.qc) := BB3.out.cell 7
  clear hst hb3 hNP hheld
  generalize hln : (notesC C).length = ln at *
  go_wp2_with fail
  refine (cGen F p 40 C _ C3.out).mono ?_
  rintro e w3' ⟨rfl, rfl⟩
  go_wp2_with fail
  refine (cApply F p 40 C r.v r.D r.dn r.dc r.Q r.qn r.qc _ C3.out (by omega) R3.out.is HAP.out).mono ?_
  intro e w4 hp4
  obtain ⟨rfl, F4, hc4, hg4, hf4⟩ := hp4
  have C4 := Lib.hid hc4
  have G4 := Lib.hid hg4
  have B4 := Lib.hid (show Below w.heap.size w w4 from (B1.out.trans (B13.out.mono B1.out.size)).trans (hg4.below (Nat.le_trans B1.out.size B13.out.size) (fun i hi => Nat.le_trans B1.out.size (FF.out i hi).1)))
  have N4 := Lib.hid (show NotesRd w4 NB ln NP from HH.out w4 (fun k h1 h2 => hg4.block k h2 (fun hFk => by have := (FF.out k hFk).2; omega)))
  clear q0 q1 q2 q3 q4 q5 q6 q7 hc4 hg4 hf4
  by_cases he : (applyC C r.v).1 = 0
  · have e1 : ((applyC C r.v).1 != 0) = false := by simpa using he
    have hgg := applyC_gen (C := C) (v := r.v)
    have e2 : decide (C.gen ≤ (applyC C r.v).2.gen) = true := by simpa using hgg
    clear he
    generalize applyC C r.v = Q4 at *
    go_wp2_with fail
    refine (awake13 _).mono ?_
    rintro e w5 ⟨rfl, hb5⟩
    have B5 := Lib.hid hb5
    clear hb5
    go_wp2_with fail
    refine (cGen F4 p 41 Q4.2 _ (C4.out.below B5.out)).mono ?_
    rintro e w6 ⟨rfl, rfl⟩
    go_wp2_with fail
    go_ret
    exact ⟨rfl, B4.out.trans (B5.out.mono B4.out.size)⟩
  · have e1 : ((applyC C r.v).1 != 0) = true := by simpa using he
    have hsame := applyC_refused he
    clear he
    rw [hsame] at C4
    generalize applyC C r.v = Q4 at *
    go_wp2_with fail
    refine (awake13 _).mono ?_
    rintro e w5 ⟨rfl, hb5⟩
    have B5 := Lib.hid hb5
    have C5 := Lib.hid (C4.out.below hb5)
    clear hb5
    go_wp2_with fail
    refine (cNotes F4 p 41 C _ C5.out (by omega)).mono ?_
    rintro e w6 ⟨NB6, rfl, ⟨nc6, hst6⟩, hb6⟩
    obtain ⟨NP6, hNP6, hheld6⟩ := hst6.held
    have HN6 := Lib.hid hNP6
    have N6 := Lib.hid (hheld6 w6 (fun _ _ _ => rfl))
    have B6 := Lib.hid hb6
    have N46 := Lib.hid ((N4.out.below B5.out).below B6.out)
    have C6 := Lib.hid (C5.out.below B6.out)
    have hal := decide_eq_true (show NP.map (·.v) = NP6.map (·.v) by rw [HN.out, HN6.out])
    rw [hln] at N6 ⊢
    clear hst6 hb6 hNP6 hheld6
    go_wp2_with fail
    refine (alike12 NB ln ln NP NB6 ln ln NP6 _ N46.out N6.out).mono ?_
    rw [hal]
    rintro e w7 ⟨rfl, hb7⟩
    have B7 := Lib.hid hb7
    clear hb7
    go_wp2_with fail
    refine (cGen F4 p 41 C _ (C6.out.below B7.out)).mono ?_
    rintro e w8 ⟨rfl, rfl⟩
    go_wp2_with fail
    go_ret
    exact ⟨rfl, ((B4.out.trans (B5.out.mono B4.out.size)).trans (B6.out.mono (Nat.le_trans B4.out.size B5.out.size))).trans (B7.out.mono (Nat.le_trans (Nat.le_trans B4.out.size B5.out.size) B6.out.size))⟩
end
end Go.Proofs.Ytmkccblcmiflfaa
