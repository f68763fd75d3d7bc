/- The document's comparison of two notes. No condition beyond those that each theorem states. -/
import Derived.Test.YtmkccblcmiflfaaKC12
namespace Go.Proofs.Ytmkccblcmiflfaa
open Go.RowKit Go.Maps Go.WideMaps

theorem arg_string {w : World} {A : Option Addr} {n c : Nat} {l : List UInt8} (h : BytesIn w A n l) : (convert 23 9 (.slice A n c)).run Try.prog w = .ok (encStr l) w := by
  have hb : ∀ h' : A = none ∨ (∃ b off, A = some ⟨b, off, none⟩), (convert 23 9 (.slice A n c)).run Try.prog w = .ok (encStr l) w := fun h' => run_string_of Try.underlying23 Try.underlying5 Try.underlying9 h h'
  rcases h.2 with h0 | ⟨b, off, rfl, _⟩
  · subst h0
    have hl : l = [] := List.eq_nil_of_length_eq_zero h.1
    subst hl
    cases A with
    | none => exact hb (.inl rfl)
    | some a =>
      have hl : (loadCells a 0).run Try.prog w = .ok (([] : List Int).map (Value.int .u8)).toArray w := run_loadCells_list (P := Try.prog) w a [] (fun j v hj => by simp at hj)
      rw [run_convert_bytes_string w 23 9 5 _ 0 c Try.underlying23 Try.underlying5 Try.underlying9, run_bytesToString w _ 0 c [] hl]
      rfl
  · exact hb (.inr ⟨b, off, rfl⟩)
theorem placeVals_get {l : Pls} {j : Nat} {x : Int × Int} (h : l[j]? = some x) : (placeVals l)[j * 2]? = some (.int .i64 x.1) ∧ (placeVals l)[j * 2 + 1]? = some (.int .i64 x.2) := by
  induction l generalizing j with
  | nil => simp at h
  | cons y l ih =>
    have hc : placeVals (y :: l) = .int .i64 y.1 :: .int .i64 y.2 :: placeVals l := rfl
    rw [hc]
    cases j with
    | zero =>
      obtain rfl : y = x := by simpa using h
      exact ⟨rfl, rfl⟩
    | succ j =>
      have := ih (j := j) (by simpa using h)
      rw [show (j + 1) * 2 = j * 2 + 1 + 1 by omega]
      simpa using this
theorem note_ext {a b : NoteV} (h1 : a.kind = b.kind) (h2 : a.key = b.key) (h3 : a.gen = b.gen) (h4 : a.cart = b.cart) (h5 : a.data = b.data) (h6 : a.sum = b.sum) (h7 : a.size = b.size) (h8 : a.places = b.places) : a = b := by
  cases a
  cases b
  simp only [NoteV.mk.injEq]
  exact ⟨h1, h2, h3, h4, h5, h6, h7, h8⟩
/-- What of a note is read. -/
structure NoteRd (w : World) (v : NoteV) (D : Option Addr) (dn : Nat) (Q : Option Addr) (qn : Nat) : Prop where
  data : BytesIn w D dn v.data
  places : PlacesIn w Q qn v.places
  pn : qn ≤ maxLen
theorem PlacesIn.below {w w' : World} {A : Option Addr} {n : Nat} {l : Pls} (h : PlacesIn w A n l) (hb : Below w.heap.size w w') : PlacesIn w' A n l := ⟨h.1, h.2.below hb⟩
theorem NoteRd.below {w w' : World} {v : NoteV} {D : Option Addr} {dn : Nat} {Q : Option Addr} {qn : Nat} (h : NoteRd w v D dn Q qn) (hb : Below w.heap.size w w') : NoteRd w' v D dn Q qn := ⟨h.data.below hb, h.places.below hb, h.pn⟩
noncomputable instance : DecidableEq NoteV := fun a b => Classical.propDecidable (a = b)
section
set_option maxHeartbeats 4000000
set_option maxRecDepth 8000
theorem same12 (v v' : NoteV) (D : Option Addr) (dn dc : Nat) (Q : Option Addr) (qn qc : Nat) (D' : Option Addr) (dn' dc' : Nat) (Q' : Option Addr) (qn' qc' : Nat) (w : World) (h : NoteRd w v D dn Q qn) (h' : NoteRd w v' D' dn' Q' qn') :
    Calls Try.prog 32 #[noteAgg v D dn dc Q qn qc, noteAgg v' D' dn' dc' Q' qn' qc'] w fun e w' => e = .returned (.bool (decide (v = v'))) ∧ Below w.heap.size w w' := by
  have H := Lib.hid h
  have H' := Lib.hid h'
  clear h h'
  unfold noteAgg
  go_enter Try.func32, Try.ntmps32
  go_upto_region 1 with fail
  obtain ⟨wa, hwa⟩ : ∃ wa, wa = w.alloc (.cells #[.int .i64 v.kind, encStr v.key, .int .i64 v.gen, .int .i64 v.cart, .slice D dn dc, encStr v.sum, .int .i64 v.size, .slice Q qn qc] 26) := ⟨_, rfl⟩
  obtain ⟨w2, hw2⟩ : ∃ w2, w2 = wa.alloc (.cells #[.int .i64 v'.kind, encStr v'.key, .int .i64 v'.gen, .int .i64 v'.cart, .slice D' dn' dc', encStr v'.sum, .int .i64 v'.size, .slice Q' qn' qc'] 26) := ⟨_, rfl⟩
  have hba : Below w.heap.size w wa := by rw [hwa]; exact (Below.refl _ _).alloc (Nat.le_refl _) _
  have hba2 : Below wa.heap.size wa w2 := by rw [hw2]; exact (Below.refl _ _).alloc (Nat.le_refl _) _
  have hza : wa.heap.size = w.heap.size + 1 := by rw [hwa]; exact World.size_alloc _ _
  have BA := Lib.hid (Blk.below (show Blk wa w.heap.size 26 #[.int .i64 v.kind, encStr v.key, .int .i64 v.gen, .int .i64 v.cart, .slice D dn dc, encStr v.sum, .int .i64 v.size, .slice Q qn qc] by rw [hwa]; exact Blk.made w _ _) hba2 (by omega))
  have BB := Lib.hid (show Blk w2 (w.heap.size + 1) 26 #[.int .i64 v'.kind, encStr v'.key, .int .i64 v'.gen, .int .i64 v'.cart, .slice D' dn' dc', encStr v'.sum, .int .i64 v'.size, .slice Q' qn' qc'] by rw [hw2, ← hza]; exact Blk.made wa _ _)
  have B2 := Lib.hid (hba.trans (hba2.mono (by omega)))
  change Code.wp _ _ _ _ ((w.alloc (.cells #[.int .i64 v.kind, encStr v.key, .int .i64 v.gen, .int .i64 v.cart, .slice D dn dc, encStr v.sum, .int .i64 v.size, .slice Q qn qc] 26)).alloc (.cells #[.int .i64 v'.kind, encStr v'.key, .int .i64 v'.gen, .int .i64 v'.cart, .slice D' dn' dc', encStr v'.sum, .int .i64 v'.size, .slice Q' qn' qc'] 26))
  rw [← hwa, ← hw2]
  have RD := Lib.hid (H.out.below B2.out)
  have RD' := Lib.hid (H'.out.below B2.out)
  clear hba hba2 hza hwa hw2
  have q0 : w2.cell? ⟨w.heap.size, 0, none⟩ = some (.int .i64 v.kind) := BA.out.cell 0
  have r0 : w2.cell? ⟨w.heap.size + 1, 0, none⟩ = some (.int .i64 v'.kind) := BB.out.cell 0
  have q1 : w2.cell? ⟨w.heap.size, 1, none⟩ = some (encStr v.key) := BA.out.cell 1
  have r1 : w2.cell? ⟨w.heap.size + 1, 1, none⟩ = some (encStr v'.key) := BB.out.cell 1
  have q2 : w2.cell? ⟨w.heap.size, 2, none⟩ = some (.int .i64 v.gen) := BA.out.cell 2
  have r2 : w2.cell? ⟨w.heap.size + 1, 2, none⟩ = some (.int .i64 v'.gen) := BB.out.cell 2
  have q3 : w2.cell? ⟨w.heap.size, 3, none⟩ = some (.int .i64 v.cart) := BA.out.cell 3
  have r3 : w2.cell? ⟨w.heap.size + 1, 3, none⟩ = some (.int .i64 v'.cart) := BB.out.cell 3
  have q4 : w2.cell? ⟨w.heap.size, 4, none⟩ = some (.slice D dn dc) := BA.out.cell 4
  have r4 : w2.cell? ⟨w.heap.size + 1, 4, none⟩ = some (.slice D' dn' dc') := BB.out.cell 4
  have q5 : w2.cell? ⟨w.heap.size, 5, none⟩ = some (encStr v.sum) := BA.out.cell 5
  have r5 : w2.cell? ⟨w.heap.size + 1, 5, none⟩ = some (encStr v'.sum) := BB.out.cell 5
  have q6 : w2.cell? ⟨w.heap.size, 6, none⟩ = some (.int .i64 v.size) := BA.out.cell 6
  have r6 : w2.cell? ⟨w.heap.size + 1, 6, none⟩ = some (.int .i64 v'.size) := BB.out.cell 6
  have q7 : w2.cell? ⟨w.heap.size, 7, none⟩ = some (.slice Q qn qc) := BA.out.cell 7
  have r7 : w2.cell? ⟨w.heap.size + 1, 7, none⟩ = some (.slice Q' qn' qc') := BB.out.cell 7
  have hcv : (convert 23 9 (.slice D dn dc)).run Try.prog w2 = .ok (encStr v.data) w2 := arg_string RD.out.data
  have hcv' : (convert 23 9 (.slice D' dn' dc')).run Try.prog w2 = .ok (encStr v'.data) w2 := arg_string RD'.out.data
  by_cases k1 : v.kind = v'.kind
  case neg =>
    have e1 : (v.kind != v'.kind) = true := by simpa using k1
    have r := decide_eq_false (fun e : v = v' => k1 (by rw [e]))
    clear k1
    go_wp2_with fail
    go_ret
    exact ⟨ret_b r.symm, B2.out⟩
  have e1 : (v.kind != v'.kind) = false := by simpa using k1
  have K1 := Lib.hid k1
  clear k1
  by_cases k2 : v.key = v'.key
  case neg =>
    have e2 : (v.key == v'.key) = false := by simpa using k2
    have r := decide_eq_false (fun e : v = v' => k2 (by rw [e]))
    clear k2
    go_wp2_with fail
    go_ret
    exact ⟨ret_b r.symm, B2.out⟩
  have e2 : (v.key == v'.key) = true := by simpa using k2
  have K2 := Lib.hid k2
  clear k2
  by_cases k3 : v.gen = v'.gen
  case neg =>
    have e3 : (v.gen != v'.gen) = true := by simpa using k3
    have r := decide_eq_false (fun e : v = v' => k3 (by rw [e]))
    clear k3
    go_wp2_with fail
    go_ret
    exact ⟨ret_b r.symm, B2.out⟩
  have e3 : (v.gen != v'.gen) = false := by simpa using k3
  have K3 := Lib.hid k3
  clear k3
  by_cases k4 : v.cart = v'.cart
  case neg =>
    have e4 : (v.cart != v'.cart) = true := by simpa using k4
    have r := decide_eq_false (fun e : v = v' => k4 (by rw [e]))
    clear k4
    go_wp2_with fail
    go_ret
    exact ⟨ret_b r.symm, B2.out⟩
  have e4 : (v.cart != v'.cart) = false := by simpa using k4
  have K4 := Lib.hid k4
  clear k4
  by_cases k5 : v.data = v'.data
  case neg =>
    have e5 : (v.data == v'.data) = false := by simpa using k5
    have r := decide_eq_false (fun e : v = v' => k5 (by rw [e]))
    clear k5
    go_wp2_with fail
    go_ret
    exact ⟨ret_b r.symm, B2.out⟩
  have e5 : (v.data == v'.data) = true := by simpa using k5
  have K5 := Lib.hid k5
  clear k5
  by_cases k6 : v.sum = v'.sum
  case neg =>
    have e6 : (v.sum == v'.sum) = false := by simpa using k6
    have r := decide_eq_false (fun e : v = v' => k6 (by rw [e]))
    clear k6
    go_wp2_with fail
    go_ret
    exact ⟨ret_b r.symm, B2.out⟩
  have e6 : (v.sum == v'.sum) = true := by simpa using k6
  have K6 := Lib.hid k6
  clear k6
  by_cases k7 : v.size = v'.size
  case neg =>
    have e7 : (v.size != v'.size) = true := by simpa using k7
    have r := decide_eq_false (fun e : v = v' => k7 (by rw [e]))
    clear k7
    go_wp2_with fail
    go_ret
    exact ⟨ret_b r.symm, B2.out⟩
  have e7 : (v.size != v'.size) = false := by simpa using k7
  have K7 := Lib.hid k7
  clear k7
  by_cases k8 : qn = qn'
  case neg =>
    have e8 : ((qn : Int) != (qn' : Int)) = true := by simp; omega
    have r := decide_eq_false (fun e : v = v' => k8 (by rw [← RD.out.places.1, ← RD'.out.places.1, e]))
    clear k8
    go_wp2_with fail
    go_ret
    exact ⟨ret_b r.symm, B2.out⟩
  subst k8
  have e8 : ((qn : Int) != (qn : Int)) = false := by simp
  go_wp2_with fail
  have hpn : qn ≤ maxLen := RD.out.pn
  have hp63 : qn ≤ 9223372036854775807 := by simp only [maxLen] at hpn; exact hpn
  have PL := Lib.hid RD.out.places
  have PL' := Lib.hid RD'.out.places
  clear hpn e8
  go_loopw [5] (fun i wx => ∃ j : Nat, i = .int .i64 j ∧ j ≤ qn ∧ v.places.take j = v'.places.take j ∧ Below w2.heap.size w2 wx) (fun i _ => qn - (intOf i).toNat)
  case atStart => exact ⟨0, rfl, Nat.zero_le _, rfl, Below.refl _ _⟩
  case round =>
    obtain ⟨j, rfl, hj, heq, hbl⟩ := hrel
    have hz := hbl.size
    have BL := Lib.hid hbl
    have HEQ := Lib.hid heq
    have s7 : wr.cell? ⟨w.heap.size, 7, none⟩ = some (.slice Q qn qc) := (hbl.cell (p := ⟨w.heap.size, 7, none⟩) BA.out.size).trans q7
    have t7 : wr.cell? ⟨w.heap.size + 1, 7, none⟩ = some (.slice Q' qn qc') := (hbl.cell (p := ⟨w.heap.size + 1, 7, none⟩) BB.out.size).trans r7
    clear q0 q1 q2 q3 q4 q5 q6 q7 r0 r1 r2 r3 r4 r5 r6 r7 hcv hcv' heq
    by_cases hlt : j < qn
    · have d1 : decide (j < qn) = true := by simpa using hlt
      obtain ⟨x, hx⟩ : ∃ x, v.places[j]? = some x := ⟨_, List.getElem?_eq_getElem (by rw [PL.out.1]; exact hlt)⟩
      obtain ⟨y, hy⟩ : ∃ y, v'.places[j]? = some y := ⟨_, List.getElem?_eq_getElem (by rw [PL'.out.1]; exact hlt)⟩
      obtain ⟨b, off, rfl, hc⟩ : ∃ b off, Q = some ⟨b, off, none⟩ ∧ ∀ j u, (placeVals v.places)[j]? = some u → wr.cell? ⟨b, off + j, none⟩ = some u := by
        rcases PL.out.2.below hbl with ⟨h0, _⟩ | ⟨b, off, h1, h2⟩
        · omega
        · exact ⟨b, off, h1, h2⟩
      obtain ⟨b', off', rfl, hc'⟩ : ∃ b off, Q' = some ⟨b, off, none⟩ ∧ ∀ j u, (placeVals v'.places)[j]? = some u → wr.cell? ⟨b, off + j, none⟩ = some u := by
        rcases PL'.out.2.below hbl with ⟨h0, _⟩ | ⟨b, off, h1, h2⟩
        · omega
        · exact ⟨b, off, h1, h2⟩
      have x0 : wr.cell? ⟨b, off + j * 2, none⟩ = some (.int .i64 x.1) := hc _ _ (placeVals_get hx).1
      have x1 : wr.cell? ⟨b, off + (j * 2 + 1), none⟩ = some (.int .i64 x.2) := hc _ _ (placeVals_get hx).2
      have y0 : wr.cell? ⟨b', off' + j * 2, none⟩ = some (.int .i64 y.1) := hc' _ _ (placeVals_get hy).1
      have y1 : wr.cell? ⟨b', off' + (j * 2 + 1), none⟩ = some (.int .i64 y.2) := hc' _ _ (placeVals_get hy).2
      have x1' : wr.cell? ⟨b, off + j * 2 + 1, none⟩ = some (.int .i64 x.2) := by rw [Nat.add_assoc]; exact x1
      have y1' : wr.cell? ⟨b', off' + j * 2 + 1, none⟩ = some (.int .i64 y.2) := by rw [Nat.add_assoc]; exact y1
      have HX := Lib.hid hx
      have HY := Lib.hid hy
      clear hx hy hbl hc hc'
      by_cases n1 : x.1 = y.1
      case neg =>
        have f1 : (x.1 != y.1) = true := by simpa using n1
        have r := decide_eq_false (fun e : v = v' => n1 (by have h := HX.out; rw [e, HY.out] at h; injection h with h; rw [h]))
        clear n1
        go_wp2_with fail
        go_quiet (fail)
        go_wp2_with fail
        go_ret
        exact ⟨ret_b r.symm, below_drewN (B2.out.trans (BL.out.mono B2.out.size)) _⟩
      have f1 : (x.1 != y.1) = false := by simpa using n1
      by_cases n2 : x.2 = y.2
      case neg =>
        have f2 : (x.2 != y.2) = true := by simpa using n2
        have r := decide_eq_false (fun e : v = v' => n2 (by have h := HX.out; rw [e, HY.out] at h; injection h with h; rw [h]))
        clear n1 n2
        go_wp2_with fail
        go_quiet (fail)
        go_wp2_with fail
        go_ret
        exact ⟨ret_b r.symm, below_drewN (B2.out.trans (BL.out.mono B2.out.size)) _⟩
      have f2 : (x.2 != y.2) = false := by simpa using n2
      have HE1 := Lib.hid (show x = y from Prod.ext n1 n2)
      clear n1 n2
      go_wp2_with fail
      go_quiet (fail)
      go_wp2_with fail
      go_roundw
      case rel => exact ⟨j + 1, by go_num, hlt, by rw [List.take_add_one, List.take_add_one, HX.out, HY.out, HEQ.out, HE1.out], below_drewN BL.out _⟩
      case measure => simp [intOf]; omega
    · have d1 : decide (j < qn) = false := by simpa using hlt
      obtain rfl : j = qn := by omega
      have r := decide_eq_true (show v = v' by
        have h8 := HEQ.out
        rw [List.take_of_length_le (Nat.le_of_eq PL.out.1), List.take_of_length_le (Nat.le_of_eq PL'.out.1)] at h8
        exact note_ext K1.out K2.out K3.out K4.out K5.out K6.out K7.out h8)
      go_wp2_with fail
      go_ret
      exact ⟨ret_b r.symm, B2.out.trans (BL.out.mono B2.out.size)⟩
end
end Go.Proofs.Ytmkccblcmiflfaa
