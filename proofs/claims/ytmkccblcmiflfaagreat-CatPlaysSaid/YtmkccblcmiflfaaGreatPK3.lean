/- Texts joined: KC25, KC26, KC7. No condition beyond those that each theorem states. -/
import Derived.Test.YtmkccblcmiflfaaGreatPK1
import Derived.Test.YtmkccblcmiflfaaGreatPK2
import Derived.Test.YtmkccblcmiflfaaGreatPK0
namespace Go.Proofs.YtmkccblcmiflfaaGreat
open Go.RowKit Go.Maps Go.WideMaps

theorem arg_string {w : World} {A : Option Addr} {n c : Nat} {l : List UInt8} (h : BytesIn w A n l) : (convert 29 9 (.slice A n c)).run Tryz.prog w = .ok (encStr l) w := by
  have hb : ∀ h' : A = none ∨ (∃ b off, A = some ⟨b, off, none⟩), (convert 29 9 (.slice A n c)).run Tryz.prog w = .ok (encStr l) w := fun h' => run_string_of Tryz.underlying29 Tryz.underlying5 Tryz.underlying9 h h'
  rcases h.2 with h0 | ⟨b, off, rfl, _⟩
  · subst h0
    have hl : l = [] := List.eq_nil_of_length_eq_zero h.1
    subst hl
    cases A with
    | none => exact hb (.inl rfl)
    | some a =>
      have hl : (loadCells a 0).run Tryz.prog w = .ok (([] : List Int).map (Value.int .u8)).toArray w := run_loadCells_list (P := Tryz.prog) w a [] (fun j v hj => by simp at hj)
      rw [run_convert_bytes_string w 29 9 5 _ 0 c Tryz.underlying29 Tryz.underlying5 Tryz.underlying9, run_bytesToString w _ 0 c [] hl]
      rfl
  · exact hb (.inr ⟨b, off, rfl⟩)
theorem placeVals_get {l : Pls} {j : Nat} {x : Int × Int} (h : l[j]? = some x) : (placeVals l)[j * 2]? = some (.int .i64 x.1) ∧ (placeVals l)[j * 2 + 1]? = some (.int .i64 x.2) := by
  induction l generalizing j with
  | nil => simp at h
  | cons y l ih =>
    have hc : placeVals (y :: l) = .int .i64 y.1 :: .int .i64 y.2 :: placeVals l := rfl
    rw [hc]
    cases j with
    | zero =>
      obtain rfl : y = x := by simpa using h
      exact ⟨rfl, rfl⟩
    | succ j =>
      have := ih (j := j) (by simpa using h)
      rw [show (j + 1) * 2 = j * 2 + 1 + 1 by omega]
      simpa using this
theorem note_ext {a b : NoteV} (h1 : a.kind = b.kind) (h2 : a.key = b.key) (h3 : a.gen = b.gen) (h4 : a.cart = b.cart) (h5 : a.data = b.data) (h6 : a.sum = b.sum) (h7 : a.size = b.size) (h8 : a.places = b.places) : a = b := by
  cases a
  cases b
  simp only [NoteV.mk.injEq]
  exact ⟨h1, h2, h3, h4, h5, h6, h7, h8⟩
/-- What of a note is read. -/
structure NoteRd (w : World) (v : NoteV) (D : Option Addr) (dn : Nat) (Q : Option Addr) (qn : Nat) : Prop where
  data : BytesIn w D dn v.data
  places : PlacesIn w Q qn v.places
  pn : qn ≤ maxLen
theorem PlacesIn.below {w w' : World} {A : Option Addr} {n : Nat} {l : Pls} (h : PlacesIn w A n l) (hb : Below w.heap.size w w') : PlacesIn w' A n l := ⟨h.1, h.2.below hb⟩
theorem NoteRd.below {w w' : World} {v : NoteV} {D : Option Addr} {dn : Nat} {Q : Option Addr} {qn : Nat} (h : NoteRd w v D dn Q qn) (hb : Below w.heap.size w w') : NoteRd w' v D dn Q qn := ⟨h.data.below hb, h.places.below hb, h.pn⟩
noncomputable instance : DecidableEq NoteV := fun a b => Classical.propDecidable (a = b)
section
set_option maxHeartbeats 4000000
set_option maxRecDepth 8000
theorem same12 (v v' : NoteV) (D : Option Addr) (dn dc : Nat) (Q : Option Addr) (qn qc : Nat) (D' : Option Addr) (dn' dc' : Nat) (Q' : Option Addr) (qn' qc' : Nat) (w : World) (h : NoteRd w v D dn Q qn) (h' : NoteRd w v' D' dn' Q' qn') :
    Calls Tryz.prog 77 #[noteAgg v D dn dc Q qn qc, noteAgg v' D' dn' dc' Q' qn' qc'] w fun e w' => e = .returned (.bool (decide (v = v'))) ∧ Below w.heap.size w w' := by
  have H := Lib.hid h
  have H' := Lib.hid h'
  clear h h'
  unfold noteAgg
  go_enter Tryz.func77, Tryz.ntmps77
  go_upto_region 1 with fail
  obtain ⟨wa, hwa⟩ : ∃ wa, wa = w.alloc (.cells #[.int .i64 v.kind, encStr v.key, .int .i64 v.gen, .int .i64 v.cart, .slice D dn dc, encStr v.sum, .int .i64 v.size, .slice Q qn qc] 32) := ⟨_, rfl⟩
  obtain ⟨w2, hw2⟩ : ∃ w2, w2 = wa.alloc (.cells #[.int .i64 v'.kind, encStr v'.key, .int .i64 v'.gen, .int .i64 v'.cart, .slice D' dn' dc', encStr v'.sum, .int .i64 v'.size, .slice Q' qn' qc'] 32) := ⟨_, rfl⟩
  have hba : Below w.heap.size w wa := by rw [hwa]; exact (Below.refl _ _).alloc (Nat.le_refl _) _
  have hba2 : Below wa.heap.size wa w2 := by rw [hw2]; exact (Below.refl _ _).alloc (Nat.le_refl _) _
  have hza : wa.heap.size = w.heap.size + 1 := by rw [hwa]; exact World.size_alloc _ _
  have BA := Lib.hid (Blk.below (show Blk wa w.heap.size 32 #[.int .i64 v.kind, encStr v.key, .int .i64 v.gen, .int .i64 v.cart, .slice D dn dc, encStr v.sum, .int .i64 v.size, .slice Q qn qc] by rw [hwa]; exact Blk.made w _ _) hba2 (by omega))
  have BB := Lib.hid (show Blk w2 (w.heap.size + 1) 32 #[.int .i64 v'.kind, encStr v'.key, .int .i64 v'.gen, .int .i64 v'.cart, .slice D' dn' dc', encStr v'.sum, .int .i64 v'.size, .slice Q' qn' qc'] by rw [hw2, ← hza]; exact Blk.made wa _ _)
  have B2 := Lib.hid (hba.trans (hba2.mono (by omega)))
  change Code.wp _ _ _ _ ((w.alloc (.cells #[.int .i64 v.kind, encStr v.key, .int .i64 v.gen, .int .i64 v.cart, .slice D dn dc, encStr v.sum, .int .i64 v.size, .slice Q qn qc] 32)).alloc (.cells #[.int .i64 v'.kind, encStr v'.key, .int .i64 v'.gen, .int .i64 v'.cart, .slice D' dn' dc', encStr v'.sum, .int .i64 v'.size, .slice Q' qn' qc'] 32))
  rw [← hwa, ← hw2]
  have RD := Lib.hid (H.out.below B2.out)
  have RD' := Lib.hid (H'.out.below B2.out)
  clear hba hba2 hza hwa hw2
  have q0 : w2.cell? ⟨w.heap.size, 0, none⟩ = some (.int .i64 v.kind) := BA.out.cell 0
  have r0 : w2.cell? ⟨w.heap.size + 1, 0, none⟩ = some (.int .i64 v'.kind) := BB.out.cell 0
  have q1 : w2.cell? ⟨w.heap.size, 1, none⟩ = some (encStr v.key) := BA.out.cell 1
  have r1 : w2.cell? ⟨w.heap.size + 1, 1, none⟩ = some (encStr v'.key) := BB.out.cell 1
  have q2 : w2.cell? ⟨w.heap.size, 2, none⟩ = some (.int .i64 v.gen) := BA.out.cell 2
  have r2 : w2.cell? ⟨w.heap.size + 1, 2, none⟩ = some (.int .i64 v'.gen) := BB.out.cell 2
  have q3 : w2.cell? ⟨w.heap.size, 3, none⟩ = some (.int .i64 v.cart) := BA.out.cell 3
  have r3 : w2.cell? ⟨w.heap.size + 1, 3, none⟩ = some (.int .i64 v'.cart) := BB.out.cell 3
  have q4 : w2.cell? ⟨w.heap.size, 4, none⟩ = some (.slice D dn dc) := BA.out.cell 4
  have r4 : w2.cell? ⟨w.heap.size + 1, 4, none⟩ = some (.slice D' dn' dc') := BB.out.cell 4
  have q5 : w2.cell? ⟨w.heap.size, 5, none⟩ = some (encStr v.sum) := BA.out.cell 5
  have r5 : w2.cell? ⟨w.heap.size + 1, 5, none⟩ = some (encStr v'.sum) := BB.out.cell 5
  have q6 : w2.cell? ⟨w.heap.size, 6, none⟩ = some (.int .i64 v.size) := BA.out.cell 6
  have r6 : w2.cell? ⟨w.heap.size + 1, 6, none⟩ = some (.int .i64 v'.size) := BB.out.cell 6
  have q7 : w2.cell? ⟨w.heap.size, 7, none⟩ = some (.slice Q qn qc) := BA.out.cell 7
  have r7 : w2.cell? ⟨w.heap.size + 1, 7, none⟩ = some (.slice Q' qn' qc') := BB.out.cell 7
  have hcv : (convert 29 9 (.slice D dn dc)).run Tryz.prog w2 = .ok (encStr v.data) w2 := arg_string RD.out.data
  have hcv' : (convert 29 9 (.slice D' dn' dc')).run Tryz.prog w2 = .ok (encStr v'.data) w2 := arg_string RD'.out.data
  by_cases k1 : v.kind = v'.kind
  case neg =>
    have e1 : (v.kind != v'.kind) = true := by simpa using k1
    have r := decide_eq_false (fun e : v = v' => k1 (by rw [e]))
    clear k1
    go_wp2_with fail
    go_ret
    exact ⟨ret_b r.symm, B2.out⟩
  have e1 : (v.kind != v'.kind) = false := by simpa using k1
  have K1 := Lib.hid k1
  clear k1
  by_cases k2 : v.key = v'.key
  case neg =>
    have e2 : (v.key == v'.key) = false := by simpa using k2
    have r := decide_eq_false (fun e : v = v' => k2 (by rw [e]))
    clear k2
    go_wp2_with fail
    go_ret
    exact ⟨ret_b r.symm, B2.out⟩
  have e2 : (v.key == v'.key) = true := by simpa using k2
  have K2 := Lib.hid k2
  clear k2
  by_cases k3 : v.gen = v'.gen
  case neg =>
    have e3 : (v.gen != v'.gen) = true := by simpa using k3
    have r := decide_eq_false (fun e : v = v' => k3 (by rw [e]))
    clear k3
    go_wp2_with fail
    go_ret
    exact ⟨ret_b r.symm, B2.out⟩
  have e3 : (v.gen != v'.gen) = false := by simpa using k3
  have K3 := Lib.hid k3
  clear k3
  by_cases k4 : v.cart = v'.cart
  case neg =>
    have e4 : (v.cart != v'.cart) = true := by simpa using k4
    have r := decide_eq_false (fun e : v = v' => k4 (by rw [e]))
    clear k4
    go_wp2_with fail
    go_ret
    exact ⟨ret_b r.symm, B2.out⟩
  have e4 : (v.cart != v'.cart) = false := by simpa using k4
  have K4 := Lib.hid k4
  clear k4
  by_cases k5 : v.data = v'.data
  case neg =>
    have e5 : (v.data == v'.data) = false := by simpa using k5
    have r := decide_eq_false (fun e : v = v' => k5 (by rw [e]))
    clear k5
    go_wp2_with fail
    go_ret
    exact ⟨ret_b r.symm, B2.out⟩
  have e5 : (v.data == v'.data) = true := by simpa using k5
  have K5 := Lib.hid k5
  clear k5
  by_cases k6 : v.sum = v'.sum
  case neg =>
    have e6 : (v.sum == v'.sum) = false := by simpa using k6
    have r := decide_eq_false (fun e : v = v' => k6 (by rw [e]))
    clear k6
    go_wp2_with fail
    go_ret
    exact ⟨ret_b r.symm, B2.out⟩
  have e6 : (v.sum == v'.sum) = true := by simpa using k6
  have K6 := Lib.hid k6
  clear k6
  by_cases k7 : v.size = v'.size
  case neg =>
    have e7 : (v.size != v'.size) = true := by simpa using k7
    have r := decide_eq_false (fun e : v = v' => k7 (by rw [e]))
    clear k7
    go_wp2_with fail
    go_ret
    exact ⟨ret_b r.symm, B2.out⟩
  have e7 : (v.size != v'.size) = false := by simpa using k7
  have K7 := Lib.hid k7
  clear k7
  by_cases k8 : qn = qn'
  case neg =>
    have e8 : ((qn : Int) != (qn' : Int)) = true := by simp; omega
    have r := decide_eq_false (fun e : v = v' => k8 (by rw [← RD.out.places.1, ← RD'.out.places.1, e]))
    clear k8
    go_wp2_with fail
    go_ret
    exact ⟨ret_b r.symm, B2.out⟩
  subst k8
  have e8 : ((qn : Int) != (qn : Int)) = false := by simp
  go_wp2_with fail
  have hpn : qn ≤ maxLen := RD.out.pn
  have hp63 : qn ≤ 9223372036854775807 := by simp only [maxLen] at hpn; exact hpn
  have PL := Lib.hid RD.out.places
  have PL' := Lib.hid RD'.out.places
  clear hpn e8
  go_loopw [5] (fun i wx => ∃ j : Nat, i = .int .i64 j ∧ j ≤ qn ∧ v.places.take j = v'.places.take j ∧ Below w2.heap.size w2 wx) (fun i _ => qn - (intOf i).toNat)
  case atStart => exact ⟨0, rfl, Nat.zero_le _, rfl, Below.refl _ _⟩
  case round =>
    obtain ⟨j, rfl, hj, heq, hbl⟩ := hrel
    have hz := hbl.size
    have BL := Lib.hid hbl
    have HEQ := Lib.hid heq
    have s7 : wr.cell? ⟨w.heap.size, 7, none⟩ = some (.slice Q qn qc) := (hbl.cell (p := ⟨w.heap.size, 7, none⟩) BA.out.size).trans q7
    have t7 : wr.cell? ⟨w.heap.size + 1, 7, none⟩ = some (.slice Q' qn qc') := (hbl.cell (p := ⟨w.heap.size + 1, 7, none⟩) BB.out.size).trans r7
    clear q0 q1 q2 q3 q4 q5 q6 q7 r0 r1 r2 r3 r4 r5 r6 r7 hcv hcv' heq
    by_cases hlt : j < qn
    · have d1 : decide (j < qn) = true := by simpa using hlt
      obtain ⟨x, hx⟩ : ∃ x, v.places[j]? = some x := ⟨_, List.getElem?_eq_getElem (by rw [PL.out.1]; exact hlt)⟩
      obtain ⟨y, hy⟩ : ∃ y, v'.places[j]? = some y := ⟨_, List.getElem?_eq_getElem (by rw [PL'.out.1]; exact hlt)⟩
      obtain ⟨b, off, rfl, hc⟩ : ∃ b off, Q = some ⟨b, off, none⟩ ∧ ∀ j u, (placeVals v.places)[j]? = some u → wr.cell? ⟨b, off + j, none⟩ = some u := by
        rcases PL.out.2.below hbl with ⟨h0, _⟩ | ⟨b, off, h1, h2⟩
        · omega
        · exact ⟨b, off, h1, h2⟩
      obtain ⟨b', off', rfl, hc'⟩ : ∃ b off, Q' = some ⟨b, off, none⟩ ∧ ∀ j u, (placeVals v'.places)[j]? = some u → wr.cell? ⟨b, off + j, none⟩ = some u := by
        rcases PL'.out.2.below hbl with ⟨h0, _⟩ | ⟨b, off, h1, h2⟩
        · omega
        · exact ⟨b, off, h1, h2⟩
      have x0 : wr.cell? ⟨b, off + j * 2, none⟩ = some (.int .i64 x.1) := hc _ _ (placeVals_get hx).1
      have x1 : wr.cell? ⟨b, off + (j * 2 + 1), none⟩ = some (.int .i64 x.2) := hc _ _ (placeVals_get hx).2
      have y0 : wr.cell? ⟨b', off' + j * 2, none⟩ = some (.int .i64 y.1) := hc' _ _ (placeVals_get hy).1
      have y1 : wr.cell? ⟨b', off' + (j * 2 + 1), none⟩ = some (.int .i64 y.2) := hc' _ _ (placeVals_get hy).2
      have x1' : wr.cell? ⟨b, off + j * 2 + 1, none⟩ = some (.int .i64 x.2) := by rw [Nat.add_assoc]; exact x1
      have y1' : wr.cell? ⟨b', off' + j * 2 + 1, none⟩ = some (.int .i64 y.2) := by rw [Nat.add_assoc]; exact y1
      have HX := Lib.hid hx
      have HY := Lib.hid hy
      clear hx hy hbl hc hc'
      by_cases n1 : x.1 = y.1
      case neg =>
        have f1 : (x.1 != y.1) = true := by simpa using n1
        have r := decide_eq_false (fun e : v = v' => n1 (by have h := HX.out; rw [e, HY.out] at h; injection h with h; rw [h]))
        clear n1
        go_wp2_with fail
        go_quiet (fail)
        go_wp2_with fail
        go_ret
        exact ⟨ret_b r.symm, below_drewN (B2.out.trans (BL.out.mono B2.out.size)) _⟩
      have f1 : (x.1 != y.1) = false := by simpa using n1
      by_cases n2 : x.2 = y.2
      case neg =>
        have f2 : (x.2 != y.2) = true := by simpa using n2
        have r := decide_eq_false (fun e : v = v' => n2 (by have h := HX.out; rw [e, HY.out] at h; injection h with h; rw [h]))
        clear n1 n2
        go_wp2_with fail
        go_quiet (fail)
        go_wp2_with fail
        go_ret
        exact ⟨ret_b r.symm, below_drewN (B2.out.trans (BL.out.mono B2.out.size)) _⟩
      have f2 : (x.2 != y.2) = false := by simpa using n2
      have HE1 := Lib.hid (show x = y from Prod.ext n1 n2)
      clear n1 n2
      go_wp2_with fail
      go_quiet (fail)
      go_wp2_with fail
      go_roundw
      case rel => exact ⟨j + 1, by go_num, hlt, by rw [List.take_add_one, List.take_add_one, HX.out, HY.out, HEQ.out, HE1.out], below_drewN BL.out _⟩
      case measure => simp [intOf]; omega
    · have d1 : decide (j < qn) = false := by simpa using hlt
      obtain rfl : j = qn := by omega
      have r := decide_eq_true (show v = v' by
        have h8 := HEQ.out
        rw [List.take_of_length_le (Nat.le_of_eq PL.out.1), List.take_of_length_le (Nat.le_of_eq PL'.out.1)] at h8
        exact note_ext K1.out K2.out K3.out K4.out K5.out K6.out K7.out h8)
      go_wp2_with fail
      go_ret
      exact ⟨ret_b r.symm, B2.out.trans (BL.out.mono B2.out.size)⟩
end
end Go.Proofs.YtmkccblcmiflfaaGreat

namespace Go.Proofs.YtmkccblcmiflfaaGreat
open Go.RowKit Go.Maps Go.WideMaps

/-- A row of notes that is read. -/
structure NotesRd (w : World) (A : Option Addr) (n : Nat) (NP : List NoteP) : Prop where
  len : NP.length = n
  row : SrcAt w A n (notePVals NP)
  ok : ∀ r ∈ NP, NoteRd w r.v r.D r.v.data.length r.Q r.v.places.length
  max : n ≤ maxLen
theorem NotesRd.below {w w' : World} {A : Option Addr} {n : Nat} {NP : List NoteP} (h : NotesRd w A n NP) (hb : Below w.heap.size w w') : NotesRd w' A n NP := ⟨h.len, h.row.below hb, fun r hr => (h.ok r hr).below hb, h.max⟩
theorem notePVals_get {L : List NoteP} {j : Nat} {x : NoteP} (h : L[j]? = some x) (t : Nat) (ht : t < 8) : (notePVals L)[j * 8 + t]? = x.cells[t]? := by
  induction L generalizing j with
  | nil => simp at h
  | cons y L ih =>
    have hc : notePVals (y :: L) = y.cells ++ notePVals L := rfl
    rw [hc]
    cases j with
    | zero =>
      obtain rfl : y = x := by simpa using h
      rw [List.getElem?_append_left (by show 0 * 8 + t < 8; omega)]
      congr 1
      omega
    | succ j =>
      rw [List.getElem?_append_right (by show 8 ≤ _; omega), show (j + 1) * 8 + t - y.cells.length = j * 8 + t by show (j + 1) * 8 + t - 8 = _; omega]
      exact ih (by simpa using h)
theorem note_cel {w : World} {b off : Nat} {NP : List NoteP} {j : Nat} {r : NoteP} (hc : ∀ j u, (notePVals NP)[j]? = some u → w.cell? ⟨b, off + j, none⟩ = some u) (hr : NP[j]? = some r) (t : Nat) (ht : t < 8) {u : Value} (hu : r.cells[t]? = some u) : w.cell? ⟨b, off + j * 8 + t, none⟩ = some u := by
  rw [Nat.add_assoc]
  exact hc _ _ (by rw [notePVals_get hr t ht, hu])
section
set_option maxHeartbeats 4000000
set_option maxRecDepth 16000
theorem alike12 (A : Option Addr) (n c : Nat) (NP : List NoteP) (A' : Option Addr) (n' c' : Nat) (NP' : List NoteP) (w : World) (h : NotesRd w A n NP) (h' : NotesRd w A' n' NP') :
    Calls Tryz.prog 41 #[.slice A n c, .slice A' n' c'] w fun e w' => e = .returned (.bool (decide (NP.map (·.v) = NP'.map (·.v)))) ∧ Below w.heap.size w w' := by
  have H := Lib.hid h
  have H' := Lib.hid h'
  have h63 : n ≤ 9223372036854775807 := by have := h.max; simpa [maxLen] using this
  clear h h'
  by_cases hn : n = n'
  case neg =>
    have r := decide_eq_false (fun e : NP.map (·.v) = NP'.map (·.v) => hn (by have h := congrArg List.length e; rw [List.length_map, List.length_map, H.out.len, H'.out.len] at h; exact h))
    have e1 : ((n : Int) != (n' : Int)) = true := by simp; omega
    clear hn
    go_enter Tryz.func41, Tryz.ntmps41
    go_wp2_with fail
    go_ret
    exact ⟨ret_b r.symm, Below.refl _ _⟩
  subst hn
  go_enter Tryz.func41, Tryz.ntmps41
  go_wp2_with fail
  go_loopw [5] (fun i wx => ∃ j : Nat, i = .int .i64 j ∧ j ≤ n ∧ (NP.map (·.v)).take j = (NP'.map (·.v)).take j ∧ Below w.heap.size w wx) (fun i _ => n - (intOf i).toNat)
  case atStart => exact ⟨0, rfl, Nat.zero_le _, rfl, Below.refl _ _⟩
  case round =>
    obtain ⟨j, rfl, hj, heq, hbl⟩ := hrel
    have hz := hbl.size
    have BL := Lib.hid hbl
    have HEQ := Lib.hid heq
    by_cases hlt : j < n
    · have d1 : decide (j < n) = true := by simpa using hlt
      obtain ⟨r, hr⟩ : ∃ x, NP[j]? = some x := ⟨_, List.getElem?_eq_getElem (by rw [H.out.len]; exact hlt)⟩
      obtain ⟨r', hr'⟩ : ∃ y, NP'[j]? = some y := ⟨_, List.getElem?_eq_getElem (by rw [H'.out.len]; exact hlt)⟩
      obtain ⟨b, off, rfl, hc⟩ : ∃ b off, A = some ⟨b, off, none⟩ ∧ ∀ j u, (notePVals NP)[j]? = some u → wr.cell? ⟨b, off + j, none⟩ = some u := by
        rcases H.out.row.below hbl with ⟨h0, _⟩ | ⟨b, off, h1, h2⟩
        · omega
        · exact ⟨b, off, h1, h2⟩
      obtain ⟨b', off', rfl, hc'⟩ : ∃ b off, A' = some ⟨b, off, none⟩ ∧ ∀ j u, (notePVals NP')[j]? = some u → wr.cell? ⟨b, off + j, none⟩ = some u := by
        rcases H'.out.row.below hbl with ⟨h0, _⟩ | ⟨b, off, h1, h2⟩
        · omega
        · exact ⟨b, off, h1, h2⟩
      have x0 : wr.cell? ⟨b, off + j * 8, none⟩ = some (.int .i64 r.v.kind) := note_cel hc hr 0 (by omega) rfl
      have x1 : wr.cell? ⟨b, off + j * 8 + 1, none⟩ = some (encStr r.v.key) := note_cel hc hr 1 (by omega) rfl
      have x2 : wr.cell? ⟨b, off + j * 8 + 2, none⟩ = some (.int .i64 r.v.gen) := note_cel hc hr 2 (by omega) rfl
      have x3 : wr.cell? ⟨b, off + j * 8 + 3, none⟩ = some (.int .i64 r.v.cart) := note_cel hc hr 3 (by omega) rfl
      have x4 : wr.cell? ⟨b, off + j * 8 + 4, none⟩ = some (.slice r.D r.v.data.length r.dc) := note_cel hc hr 4 (by omega) rfl
      have x5 : wr.cell? ⟨b, off + j * 8 + 5, none⟩ = some (encStr r.v.sum) := note_cel hc hr 5 (by omega) rfl
      have x6 : wr.cell? ⟨b, off + j * 8 + 6, none⟩ = some (.int .i64 r.v.size) := note_cel hc hr 6 (by omega) rfl
      have x7 : wr.cell? ⟨b, off + j * 8 + 7, none⟩ = some (.slice r.Q r.v.places.length r.qc) := note_cel hc hr 7 (by omega) rfl
      have y0 : wr.cell? ⟨b', off' + j * 8, none⟩ = some (.int .i64 r'.v.kind) := note_cel hc' hr' 0 (by omega) rfl
      have y1 : wr.cell? ⟨b', off' + j * 8 + 1, none⟩ = some (encStr r'.v.key) := note_cel hc' hr' 1 (by omega) rfl
      have y2 : wr.cell? ⟨b', off' + j * 8 + 2, none⟩ = some (.int .i64 r'.v.gen) := note_cel hc' hr' 2 (by omega) rfl
      have y3 : wr.cell? ⟨b', off' + j * 8 + 3, none⟩ = some (.int .i64 r'.v.cart) := note_cel hc' hr' 3 (by omega) rfl
      have y4 : wr.cell? ⟨b', off' + j * 8 + 4, none⟩ = some (.slice r'.D r'.v.data.length r'.dc) := note_cel hc' hr' 4 (by omega) rfl
      have y5 : wr.cell? ⟨b', off' + j * 8 + 5, none⟩ = some (encStr r'.v.sum) := note_cel hc' hr' 5 (by omega) rfl
      have y6 : wr.cell? ⟨b', off' + j * 8 + 6, none⟩ = some (.int .i64 r'.v.size) := note_cel hc' hr' 6 (by omega) rfl
      have y7 : wr.cell? ⟨b', off' + j * 8 + 7, none⟩ = some (.slice r'.Q r'.v.places.length r'.qc) := note_cel hc' hr' 7 (by omega) rfl
      have RR := Lib.hid (show NoteRd wr.drew r.v r.D r.v.data.length r.Q r.v.places.length from ((H.out.ok r (List.mem_of_getElem? hr)).below hbl).below ⟨rfl, rfl, rfl, Nat.le_refl _, fun _ _ => rfl⟩)
      have RR' := Lib.hid (show NoteRd wr.drew r'.v r'.D r'.v.data.length r'.Q r'.v.places.length from ((H'.out.ok r' (List.mem_of_getElem? hr')).below hbl).below ⟨rfl, rfl, rfl, Nat.le_refl _, fun _ _ => rfl⟩)
      have HX := Lib.hid hr
      have HY := Lib.hid hr'
      have hlb : b < wr.heap.size := World.block_lt_of_cell? _ _ x0
      have hlb' : b' < wr.heap.size := World.block_lt_of_cell? _ _ y0
      clear hr hr' hbl hc hc' heq
      go_upto_region 6 with fail
      by_cases n1 : r.v = r'.v
      case neg =>
        have f1 : decide (r.v = r'.v) = false := by simpa using n1
        have q := decide_eq_false (fun e : NP.map (·.v) = NP'.map (·.v) => n1 (by
          have h1 : (NP.map (·.v))[j]? = some r.v := by rw [List.getElem?_map, HX.out]; rfl
          have h2 : (NP'.map (·.v))[j]? = some r'.v := by rw [List.getElem?_map, HY.out]; rfl
          rw [e, h2] at h1
          injection h1 with h1
          exact h1.symm))
        clear n1
        refine wp_region_held_drew (S := (fun w' => w'.cell? ⟨b, off + j * 8, none⟩ = some (.int .i64 r.v.kind) ∧ w'.cell? ⟨b, off + j * 8 + 1, none⟩ = some (encStr r.v.key) ∧ w'.cell? ⟨b, off + j * 8 + 2, none⟩ = some (.int .i64 r.v.gen) ∧ w'.cell? ⟨b, off + j * 8 + 3, none⟩ = some (.int .i64 r.v.cart) ∧ w'.cell? ⟨b, off + j * 8 + 4, none⟩ = some (.slice r.D r.v.data.length r.dc) ∧ w'.cell? ⟨b, off + j * 8 + 5, none⟩ = some (encStr r.v.sum) ∧ w'.cell? ⟨b, off + j * 8 + 6, none⟩ = some (.int .i64 r.v.size) ∧ w'.cell? ⟨b, off + j * 8 + 7, none⟩ = some (.slice r.Q r.v.places.length r.qc) ∧ w'.cell? ⟨b', off' + j * 8, none⟩ = some (.int .i64 r'.v.kind) ∧ w'.cell? ⟨b', off' + j * 8 + 1, none⟩ = some (encStr r'.v.key) ∧ w'.cell? ⟨b', off' + j * 8 + 2, none⟩ = some (.int .i64 r'.v.gen) ∧ w'.cell? ⟨b', off' + j * 8 + 3, none⟩ = some (.int .i64 r'.v.cart) ∧ w'.cell? ⟨b', off' + j * 8 + 4, none⟩ = some (.slice r'.D r'.v.data.length r'.dc) ∧ w'.cell? ⟨b', off' + j * 8 + 5, none⟩ = some (encStr r'.v.sum) ∧ w'.cell? ⟨b', off' + j * 8 + 6, none⟩ = some (.int .i64 r'.v.size) ∧ w'.cell? ⟨b', off' + j * 8 + 7, none⟩ = some (.slice r'.Q r'.v.places.length r'.qc))) (by kernel_rfl) ⟨x0, x1, x2, x3, x4, x5, x6, x7, y0, y1, y2, y3, y4, y5, y6, y7⟩ (fun hHeld => ?_)
        refine tk (i := 0) (v := ?vAan10) rfl ?hyAan10 ?restAan10
        case hyAan10 => (intro w hSw; (try dsimp only at hSw); go_simp <;> with_reducible rfl)
        try simp only [Act.put, pt1, pt2, pt3]
        refine tk (i := 1) (v := ?vAan11) rfl ?hyAan11 ?restAan11
        case hyAan11 => (intro w hSw; (try dsimp only at hSw); go_simp <;> with_reducible rfl)
        try simp only [Act.put, pt1, pt2, pt3]
        refine tk (i := 2) (v := ?vAan12) rfl ?hyAan12 ?restAan12
        case hyAan12 => (intro w hSw; (try dsimp only at hSw); go_simp <;> with_reducible rfl)
        try simp only [Act.put, pt1, pt2, pt3]
        refine tk (i := 3) (v := ?vAan13) rfl ?hyAan13 ?restAan13
        case hyAan13 => (intro w hSw; (try dsimp only at hSw); go_simp <;> with_reducible rfl)
        try simp only [Act.put, pt1, pt2, pt3]
        refine tk (i := 4) (v := ?vAan14) rfl ?hyAan14 ?restAan14
        case hyAan14 => (intro w hSw; (try dsimp only at hSw); go_simp <;> with_reducible rfl)
        try simp only [Act.put, pt1, pt2, pt3]
        refine tk (i := 5) (v := ?vAan15) rfl ?hyAan15 ?restAan15
        case hyAan15 => (intro w hSw; (try dsimp only at hSw); go_simp <;> with_reducible rfl)
        try simp only [Act.put, pt1, pt2, pt3]
        refine tk (i := 6) (v := ?vAan16) rfl ?hyAan16 ?restAan16
        case hyAan16 => (intro w hSw; (try dsimp only at hSw); go_simp <;> with_reducible rfl)
        try simp only [Act.put, pt1, pt2, pt3]
        refine tk (i := 7) (v := ?vAan17) rfl ?hyAan17 ?restAan17
        case hyAan17 => (intro w hSw; (try dsimp only at hSw); go_simp <;> with_reducible rfl)
        try simp only [Act.put, pt1, pt2, pt3]
        refine wpAnyH_ready (rs := [8]) (by kernel_rfl) (by simp) ?_
        refine AllReadyH.cons rfl (fun K hK => ?_) AllReadyH.nil
        go_simp
        go_wp2_with (go_at_call 77; refine (same12 r.v r'.v r.D r.v.data.length r.dc r.Q r.v.places.length r.qc r'.D r'.v.data.length r'.dc r'.Q r'.v.places.length r'.qc _ (by exact RR.out) (by exact RR'.out)).mono ?_; rintro e w3 ⟨rfl, hb3⟩; have B3 := Lib.hid (show Below wr.heap.size wr w3 from ⟨hb3.os, hb3.tape, hb3.output, hb3.size, hb3.block⟩); clear hb3)
        clear hHeld
        refine hK.out _ _ ⟨(B3.out.cell (p := ⟨b, _, none⟩) hlb).trans x0, (B3.out.cell (p := ⟨b, _, none⟩) hlb).trans x1, (B3.out.cell (p := ⟨b, _, none⟩) hlb).trans x2, (B3.out.cell (p := ⟨b, _, none⟩) hlb).trans x3, (B3.out.cell (p := ⟨b, _, none⟩) hlb).trans x4, (B3.out.cell (p := ⟨b, _, none⟩) hlb).trans x5, (B3.out.cell (p := ⟨b, _, none⟩) hlb).trans x6, (B3.out.cell (p := ⟨b, _, none⟩) hlb).trans x7, (B3.out.cell (p := ⟨b', _, none⟩) hlb').trans y0, (B3.out.cell (p := ⟨b', _, none⟩) hlb').trans y1, (B3.out.cell (p := ⟨b', _, none⟩) hlb').trans y2, (B3.out.cell (p := ⟨b', _, none⟩) hlb').trans y3, (B3.out.cell (p := ⟨b', _, none⟩) hlb').trans y4, (B3.out.cell (p := ⟨b', _, none⟩) hlb').trans y5, (B3.out.cell (p := ⟨b', _, none⟩) hlb').trans y6, (B3.out.cell (p := ⟨b', _, none⟩) hlb').trans y7⟩ (fun hHeld => ?_)
        clear hK K
        refine tk (i := 9) (v := ?vAan19) rfl ?hyAan19 ?restAan19
        case hyAan19 => (intro w hSw; (try dsimp only at hSw); go_simp <;> with_reducible rfl)
        try simp only [Act.put, pt1, pt2, pt3]
        refine wpAnyH_done (by kernel_rfl) ?_ _
        go_wp2_with fail
        go_ret
        exact ⟨ret_b q.symm, BL.out.trans (B3.out.mono hz)⟩
      have f1 : decide (r.v = r'.v) = true := by simpa using n1
      have HE1 := Lib.hid n1
      clear n1
      refine wp_region_held_drew (S := (fun w' => w'.cell? ⟨b, off + j * 8, none⟩ = some (.int .i64 r.v.kind) ∧ w'.cell? ⟨b, off + j * 8 + 1, none⟩ = some (encStr r.v.key) ∧ w'.cell? ⟨b, off + j * 8 + 2, none⟩ = some (.int .i64 r.v.gen) ∧ w'.cell? ⟨b, off + j * 8 + 3, none⟩ = some (.int .i64 r.v.cart) ∧ w'.cell? ⟨b, off + j * 8 + 4, none⟩ = some (.slice r.D r.v.data.length r.dc) ∧ w'.cell? ⟨b, off + j * 8 + 5, none⟩ = some (encStr r.v.sum) ∧ w'.cell? ⟨b, off + j * 8 + 6, none⟩ = some (.int .i64 r.v.size) ∧ w'.cell? ⟨b, off + j * 8 + 7, none⟩ = some (.slice r.Q r.v.places.length r.qc) ∧ w'.cell? ⟨b', off' + j * 8, none⟩ = some (.int .i64 r'.v.kind) ∧ w'.cell? ⟨b', off' + j * 8 + 1, none⟩ = some (encStr r'.v.key) ∧ w'.cell? ⟨b', off' + j * 8 + 2, none⟩ = some (.int .i64 r'.v.gen) ∧ w'.cell? ⟨b', off' + j * 8 + 3, none⟩ = some (.int .i64 r'.v.cart) ∧ w'.cell? ⟨b', off' + j * 8 + 4, none⟩ = some (.slice r'.D r'.v.data.length r'.dc) ∧ w'.cell? ⟨b', off' + j * 8 + 5, none⟩ = some (encStr r'.v.sum) ∧ w'.cell? ⟨b', off' + j * 8 + 6, none⟩ = some (.int .i64 r'.v.size) ∧ w'.cell? ⟨b', off' + j * 8 + 7, none⟩ = some (.slice r'.Q r'.v.places.length r'.qc))) (by kernel_rfl) ⟨x0, x1, x2, x3, x4, x5, x6, x7, y0, y1, y2, y3, y4, y5, y6, y7⟩ (fun hHeld => ?_)
      refine tk (i := 0) (v := ?vAbn20) rfl ?hyAbn20 ?restAbn20
      case hyAbn20 => (intro w hSw; (try dsimp only at hSw); go_simp <;> with_reducible rfl)
      try simp only [Act.put, pt1, pt2, pt3]
      refine tk (i := 1) (v := ?vAbn21) rfl ?hyAbn21 ?restAbn21
      case hyAbn21 => (intro w hSw; (try dsimp only at hSw); go_simp <;> with_reducible rfl)
      try simp only [Act.put, pt1, pt2, pt3]
      refine tk (i := 2) (v := ?vAbn22) rfl ?hyAbn22 ?restAbn22
      case hyAbn22 => (intro w hSw; (try dsimp only at hSw); go_simp <;> with_reducible rfl)
      try simp only [Act.put, pt1, pt2, pt3]
      refine tk (i := 3) (v := ?vAbn23) rfl ?hyAbn23 ?restAbn23
      case hyAbn23 => (intro w hSw; (try dsimp only at hSw); go_simp <;> with_reducible rfl)
      try simp only [Act.put, pt1, pt2, pt3]
      refine tk (i := 4) (v := ?vAbn24) rfl ?hyAbn24 ?restAbn24
      case hyAbn24 => (intro w hSw; (try dsimp only at hSw); go_simp <;> with_reducible rfl)
      try simp only [Act.put, pt1, pt2, pt3]
      refine tk (i := 5) (v := ?vAbn25) rfl ?hyAbn25 ?restAbn25
      case hyAbn25 => (intro w hSw; (try dsimp only at hSw); go_simp <;> with_reducible rfl)
      try simp only [Act.put, pt1, pt2, pt3]
      refine tk (i := 6) (v := ?vAbn26) rfl ?hyAbn26 ?restAbn26
      case hyAbn26 => (intro w hSw; (try dsimp only at hSw); go_simp <;> with_reducible rfl)
      try simp only [Act.put, pt1, pt2, pt3]
      refine tk (i := 7) (v := ?vAbn27) rfl ?hyAbn27 ?restAbn27
      case hyAbn27 => (intro w hSw; (try dsimp only at hSw); go_simp <;> with_reducible rfl)
      try simp only [Act.put, pt1, pt2, pt3]
      refine wpAnyH_ready (rs := [8]) (by kernel_rfl) (by simp) ?_
      refine AllReadyH.cons rfl (fun K hK => ?_) AllReadyH.nil
      go_simp
      go_wp2_with (go_at_call 77; refine (same12 r.v r'.v r.D r.v.data.length r.dc r.Q r.v.places.length r.qc r'.D r'.v.data.length r'.dc r'.Q r'.v.places.length r'.qc _ (by exact RR.out) (by exact RR'.out)).mono ?_; rintro e w3 ⟨rfl, hb3⟩; have B3 := Lib.hid (show Below wr.heap.size wr w3 from ⟨hb3.os, hb3.tape, hb3.output, hb3.size, hb3.block⟩); clear hb3)
      clear hHeld
      refine hK.out _ _ ⟨(B3.out.cell (p := ⟨b, _, none⟩) hlb).trans x0, (B3.out.cell (p := ⟨b, _, none⟩) hlb).trans x1, (B3.out.cell (p := ⟨b, _, none⟩) hlb).trans x2, (B3.out.cell (p := ⟨b, _, none⟩) hlb).trans x3, (B3.out.cell (p := ⟨b, _, none⟩) hlb).trans x4, (B3.out.cell (p := ⟨b, _, none⟩) hlb).trans x5, (B3.out.cell (p := ⟨b, _, none⟩) hlb).trans x6, (B3.out.cell (p := ⟨b, _, none⟩) hlb).trans x7, (B3.out.cell (p := ⟨b', _, none⟩) hlb').trans y0, (B3.out.cell (p := ⟨b', _, none⟩) hlb').trans y1, (B3.out.cell (p := ⟨b', _, none⟩) hlb').trans y2, (B3.out.cell (p := ⟨b', _, none⟩) hlb').trans y3, (B3.out.cell (p := ⟨b', _, none⟩) hlb').trans y4, (B3.out.cell (p := ⟨b', _, none⟩) hlb').trans y5, (B3.out.cell (p := ⟨b', _, none⟩) hlb').trans y6, (B3.out.cell (p := ⟨b', _, none⟩) hlb').trans y7⟩ (fun hHeld => ?_)
      clear hK K
      refine tk (i := 9) (v := ?vAbn29) rfl ?hyAbn29 ?restAbn29
      case hyAbn29 => (intro w hSw; (try dsimp only at hSw); go_simp <;> with_reducible rfl)
      try simp only [Act.put, pt1, pt2, pt3]
      refine wpAnyH_done (by kernel_rfl) ?_ _
      go_wp2_with fail
      go_roundw
      case rel => exact ⟨j + 1, by go_num, hlt, by rw [List.take_add_one, List.take_add_one, List.getElem?_map, List.getElem?_map, HX.out, HY.out, HEQ.out]; simp [HE1.out], BL.out.trans (B3.out.mono hz)⟩
      case measure => simp [intOf]; omega
    · have d1 : decide (j < n) = false := by simpa using hlt
      obtain rfl : j = n := by omega
      have q := decide_eq_true (show NP.map (·.v) = NP'.map (·.v) by
        have h8 := HEQ.out
        rwa [List.take_of_length_le (by rw [List.length_map, H.out.len]; exact Nat.le_refl _), List.take_of_length_le (by rw [List.length_map, H'.out.len]; exact Nat.le_refl _)] at h8)
      go_wp2_with fail
      go_ret
      exact ⟨by first | rfl | exact ret_b q.symm, BL.out⟩
end
end Go.Proofs.YtmkccblcmiflfaaGreat

namespace Go.Proofs.YtmkccblcmiflfaaGreat
open Go.RowKit Go.Maps Go.WideMaps

theorem below_drew1 {B : Nat} {w : World} : Below B w w.drew := ⟨rfl, rfl, rfl, Nat.le_refl _, fun _ _ => rfl⟩
def tombI (C : CV) (v : NoteV) : Int := idxP (isTomb v.key v.gen) C.tombs
def tombC (C : CV) (v : NoteV) : Int × CV :=
  if v.size = 1 ∧ tombI C v < 0 ∧ 1 ≤ v.key.length ∧ v.key.length ≤ 16 ∧ 1 ≤ v.gen ∧ v.gen ≤ C.gen then (0, { C with tombs := C.tombs ++ [(v.key, v.gen)] })
  else if v.size = 0 ∧ 0 ≤ tombI C v then (0, { C with tombs := C.tombs.eraseIdx (tombI C v).toNat }) else (12, C)
section
variable {F : Nat → Prop} {w w' w0 w1 : World} {p N M : Nat} {C : CV} {sv tv tv' : Value} {SR : List BlobR} {ER : List EntR} {be bb br : Nat}
/-- What is told of tombs has turned. -/
theorem CatR.setTombs (h : CatR F w p N C sv tv SR ER be bb br) (hb : Below w0.heap.size w0 w) (hM : N ≤ M) {L : List (Str × Int)} (hc : Chg (fun k => k = p ∨ tv.ownBlock = some k) w w')
    (hp : Blk w' p 68 #[sv, .map (some be), .map (some bb), tv', .map (some br), .int .i64 C.gen]) (ht : OwnRow (Wide F w0) w' 32 8 tv' L.length (tombVals L)) (hwf : CWf M { C with tombs := L }) (i : Int) :
    CatPost F p M (i, { C with tombs := L }) w0 (.returned (.int .i64 i)) w' := by
  have hcT : Chg (CatTurns p sv tv be bb br) w w' := hc.mono (fun k e => e.elim .inl (fun e => .inr (.inr (.inl e))))
  have hm := h.map_ne
  have hn := fun g (hg : tv.ownBlock = some g) => h.tmb_ne hg
  exact h.post hb hcT (h.build (C' := { C with tombs := L }) hcT hp (h.stg_same hc (fun g hg e => e.elim (h.stg_ne hg).1 (h.stg_ne hg).2.1)) h.stgs (fun r hr => .inl hr) ((h.ents.of_eq (hc.block be h.ents.lt (fun e => e.elim (fun e => hm.1 e.symm) (fun e => (hn _ e).2.2.1 rfl)))).mono hM) h.entr (fun r hr => .inl hr)
    ((h.begs.of_eq (hc.block bb h.begs.lt (fun e => e.elim (fun e => hm.2.1 e.symm) (fun e => (hn _ e).2.2.2.1 rfl)))).mono hM) ht ((h.rets.of_eq (hc.block br h.rets.lt (fun e => e.elim (fun e => hm.2.2 e.symm) (fun e => (hn _ e).2.2.2.2 rfl)))).mono hM) hwf) i
end
theorem tomb_add_wf {N : Nat} {C : CV} {k : Str} {g : Int} (h : CWf N C) (h1 : 1 ≤ k.length ∧ k.length ≤ 16) (h2 : 1 ≤ g ∧ g ≤ C.gen) : CWf (N + 1) { C with tombs := C.tombs ++ [(k, g)] } :=
  { h with
    staged := Nat.le_succ_of_le h.staged
    tombs := by simp only [List.length_append, List.length_cons, List.length_nil]; have := h.tombs; omega
    marks := fun q hq => by
      rcases List.mem_append.1 hq with hq | hq
      · exact h.marks q hq
      · have e : q = (k, g) := by simpa using hq
        subst e
        exact ⟨h1.1, h1.2, h2.1, h2.2⟩ }
theorem tomb_cut_wf {N : Nat} {C : CV} (h : CWf N C) (i : Nat) : CWf (N + 1) { C with tombs := C.tombs.eraseIdx i } :=
  { h with
    staged := Nat.le_succ_of_le h.staged
    tombs := by have h1 := h.tombs; have h2 : (C.tombs.eraseIdx i).length ≤ C.tombs.length := (List.eraseIdx_sublist ..).length_le; show (C.tombs.eraseIdx i).length ≤ _; omega
    marks := fun q hq => h.marks q ((List.eraseIdx_sublist ..).subset hq) }
theorem tomb_own {F : Nat → Prop} {w w3 w4 : World} {n : Nat} {k : Str} {g : Int} {tv : Value} {L : List (Str × Int)} {g4 cap4 p : Nat} {u : Value} (h : OwnRow F w3 32 8 tv n (tombVals L)) (hn : L.length = n) (hz : w.heap.size ≤ w3.heap.size)
    (hown : w4.ownsRow 0 32 8 (.slice (some ⟨g4, 0, none⟩) (n + 1) cap4) (n + 1) (tombVals L ++ [.int .i64 6, encStr k, .int .i64 g, .int .i64 0, .slice none 0 0, encStr [], .int .i64 1, .slice none 0 0]))
    (hat : tv.ownBlock = some g4 ∨ g4 = (w3.alloc (.cells #[.int .i64 6, encStr k, .int .i64 g, .int .i64 0, .slice none 0 0, encStr [], .int .i64 1, .slice none 0 0] 32)).heap.size) (hgp : g4 ≠ p) :
    OwnRow (Wide F w) (w4.setCell ⟨p, 3, none⟩ u) 32 8 (.slice (some ⟨g4, 0, none⟩) (n + 1) cap4) (L ++ [(k, g)]).length (tombVals (L ++ [(k, g)])) := by
  refine ⟨?_, fun q hq => ?_⟩
  · rw [tombVals_snoc, show (L ++ [(k, g)]).length = n + 1 by simp [hn]]
    exact own_of_eq hown (fun q hq => Below.heap_setCell w4 _ _ q (fun e => hgp ((Option.some.inj hq).trans e)))
  · have e : g4 = q := Option.some.inj hq
    subst e
    rcases hat with e | e
    · exact .inl (h.2 _ e)
    · rw [World.size_alloc] at e; exact .inr (by omega)
theorem tomb_fin {F : Nat → Prop} {w w3 w4 : World} {p N n0 c0 : Nat} {C : CV} {B0 : Option Addr} {sv : Value} {SR : List BlobR} {ER : List EntR} {be bb br g4 cap4 : Nat} {k : Str} {g : Int} (h : CatR F w3 p N C sv (.slice B0 n0 c0) SR ER be bb br) (hb : Below w.heap.size w w3)
    (hown : w4.ownsRow 0 32 8 (.slice (some ⟨g4, 0, none⟩) (C.tombs.length + 1) cap4) (C.tombs.length + 1) (tombVals C.tombs ++ [.int .i64 6, encStr k, .int .i64 g, .int .i64 0, .slice none 0 0, encStr [], .int .i64 1, .slice none 0 0]))
    (hg : (w3.drew.alloc (.cells #[.int .i64 6, encStr k, .int .i64 g, .int .i64 0, .slice none 0 0, encStr [], .int .i64 1, .slice none 0 0] 32)).grownBy w4 (Value.slice B0 n0 c0).ownBlock) (hat : (Value.slice B0 n0 c0).ownBlock = some g4 ∨ g4 = (w3.drew.alloc (.cells #[.int .i64 6, encStr k, .int .i64 g, .int .i64 0, .slice none 0 0, encStr [], .int .i64 1, .slice none 0 0] 32)).heap.size)
    (hp : Blk w4 p 68 #[sv, .map (some be), .map (some bb), .slice B0 n0 c0, .map (some br), .int .i64 C.gen]) (hwf : CWf (N + 1) { C with tombs := C.tombs ++ [(k, g)] }) :
    CatPost F p (N + 1) (0, { C with tombs := C.tombs ++ [(k, g)] }) w (.returned (.int .i64 0)) (w4.setCell ⟨p, 3, none⟩ (.slice (some ⟨g4, 0, none⟩) (C.tombs.length + 1) cap4)) := by
  have hpz := h.blk.size
  have hgp : g4 ≠ p := by
    rcases hat with e | e
    · exact (h.tmb_ne e).1
    · rw [World.size_alloc] at e; have : g4 = w3.heap.size + 1 := e; omega
  have hc : Chg (fun k => k = p ∨ (Value.slice B0 n0 c0).ownBlock = some k) w3 (w4.setCell ⟨p, 3, none⟩ (.slice (some ⟨g4, 0, none⟩) (C.tombs.length + 1) cap4)) :=
    (((Chg.refl (fun k => k = p ∨ (Value.slice B0 n0 c0).ownBlock = some k) w3).drewN 1 |>.alloc _).grown hg (fun g e => .inl (.inr e))).store (p := ⟨p, 3, none⟩) (.inl (.inl rfl)) _
  exact h.setTombs hb (Nat.le_succ _) hc (hp.store 3 _) (tomb_own h.tmb rfl hb.size hown hat hgp) hwf 0
section
set_option maxHeartbeats 4000000
set_option maxRecDepth 8000
theorem cTomb (F : Nat → Prop) (p N : Nat) (C : CV) (v : NoteV) (D : Option Addr) (dn dc : Nat) (Q : Option Addr) (qn qc : Nat) (w : World) (h : CatAt F w p N C) (hN : N ≤ 100000) (hin : NoteIn w v D dn dc Q qn qc) :
    Calls Tryz.prog 40 #[.pointer (some ⟨p, 0, none⟩), noteAgg v D dn dc Q qn qc] w (CatPost F p (N + 1) (tombC C v) w) := by
  have H := Lib.hid h
  have hks := enc_size v.key
  have hkl : v.key.length ≤ maxLen := hin.key
  have hp63 : v.key.length ≤ 9223372036854775807 := by simp only [maxLen] at hkl; omega
  obtain ⟨w1, hw1⟩ : ∃ w1, w1 = w.alloc (.cells (noteCells v D dn dc Q qn qc) 32) := ⟨_, rfl⟩
  have hb1 : Below w.heap.size w w1 := by rw [hw1]; exact (Below.refl _ _).alloc (Nat.le_refl _) _
  have hB1 : Blk w1 w.heap.size 32 (noteCells v D dn dc Q qn qc) := by rw [hw1]; exact Blk.made w _ _
  have W1 := Lib.hid hw1
  have HB1 := Lib.hid hb1
  have BN1 := Lib.hid hB1
  have hbn : w.heap.size < w1.heap.size := hB1.size
  obtain ⟨sv, tv, SR, ER, be, bb, br, h0⟩ := h
  have TLT := Lib.hid (show ∀ g, tv.ownBlock = some g → g < w.heap.size from fun g hg => (h0.tmb.1.lt g hg).2)
  have h1 := h0.below hb1
  have R1 := Lib.hid h1
  have kp : w1.cell? ⟨p, 3, none⟩ = some tv := h1.blk.cell 3
  have hpz : p < w1.heap.size := h1.blk.size
  have IX := Lib.hid (ixNote F tv _ C.tombs v.key v.gen w.heap.size w1 h1.tmb rfl (hB1.cell 1) (hB1.cell 2))
  obtain ⟨B0, n0, c0, htv⟩ : ∃ B n c, tv = .slice B n c := by
    rcases h1.tmb.form with ⟨h, _⟩ | ⟨g, cap, h, _⟩
    · exact ⟨_, _, _, h⟩
    · exact ⟨_, _, _, h⟩
  subst htv
  have hti := idxP_ge (isTomb v.key v.gen) C.tombs
  obtain ⟨ti, hti0⟩ : ∃ ti, idxP (isTomb v.key v.gen) C.tombs = ti := ⟨_, rfl⟩
  rw [hti0] at hti IX
  have TI := Lib.hid (show tombI C v = ti from hti0)
  clear hti0
  clear hin h0 hb1 hB1 hw1 h1
  unfold noteAgg
  go_enter Tryz.func40, Tryz.ntmps40
  go_upto_region 1 with fail
  rw [show w.alloc (.cells #[.int .i64 v.kind, .string ⟨v.key.toArray⟩, .int .i64 v.gen, .int .i64 v.cart, .slice D dn dc, .string ⟨v.sum.toArray⟩, .int .i64 v.size, .slice Q qn qc] 32) = w1 from W1.out.symm]
  go_upto_region 3 with (go_at_call 74; refine IX.out.mono ?_; rintro e w2 ⟨rfl, hb2⟩; have B2 := Lib.hid hb2; clear hb2)
  have BB2 := Lib.hid (HB1.out.trans (B2.out.mono HB1.out.size))
  have R2 := Lib.hid (R1.out.below B2.out)
  have BN2 := Lib.hid (BN1.out.below B2.out hbn)
  have q1 : w2.cell? ⟨w.heap.size, 1, none⟩ = some (encStr v.key) := BN2.out.cell 1
  have q2 : w2.cell? ⟨w.heap.size, 2, none⟩ = some (.int .i64 v.gen) := BN2.out.cell 2
  have q6 : w2.cell? ⟨w.heap.size, 6, none⟩ = some (.int .i64 v.size) := BN2.out.cell 6
  have q5 : w2.cell? ⟨p, 5, none⟩ = some (.int .i64 C.gen) := R2.out.blk.cell 5
  clear kp hpz
  by_cases g0 : v.size = 1
  case neg =>
    have d0 : (v.size == 1) = false := by simpa using g0
    by_cases e0 : v.size = 0
    case neg =>
      have d7 : (v.size == 0) = false := by simpa using e0
      refine wp_region_held_drew (S := (fun w' => w'.cell? ⟨w.heap.size, 1, none⟩ = some (encStr v.key) ∧ w'.cell? ⟨w.heap.size, 2, none⟩ = some (.int .i64 v.gen) ∧ w'.cell? ⟨w.heap.size, 6, none⟩ = some (.int .i64 v.size) ∧ w'.cell? ⟨p, 5, none⟩ = some (.int .i64 C.gen))) (by kernel_rfl) ⟨q1, q2, q6, q5⟩ (fun hHeld => ?_)
      refine tk (i := 0) (v := ?vAn10) rfl ?hyAn10 ?restAn10
      case hyAn10 => (intro w hSw; (try dsimp only at hSw); go_simp <;> with_reducible rfl)
      try simp only [Act.put, pt1, pt2, pt3]
      refine tk (i := 1) (v := ?vAn11) rfl ?hyAn11 ?restAn11
      case hyAn11 => (intro w hSw; (try dsimp only at hSw); go_simp <;> with_reducible rfl)
      try simp only [Act.put, pt1, pt2, pt3]
      refine tk (i := 2) (v := ?vAn12) rfl ?hyAn12 ?restAn12
      case hyAn12 => (intro w hSw; (try dsimp only at hSw); go_simp <;> with_reducible rfl)
      try simp only [Act.put, pt1, pt2, pt3]
      refine tk (i := 3) (v := ?vAn13) rfl ?hyAn13 ?restAn13
      case hyAn13 => (intro w hSw; (try dsimp only at hSw); go_simp <;> with_reducible rfl)
      try simp only [Act.put, pt1, pt2, pt3]
      refine tku (i := 4) rfl ?_
      try simp only [Act.put, pt1, pt2, pt3]
      refine tku (i := 5) rfl ?_
      try simp only [Act.put, pt1, pt2, pt3]
      refine tk (i := 6) (v := ?vAn16) rfl ?hyAn16 ?restAn16
      case hyAn16 => (intro w hSw; (try dsimp only at hSw); go_simp <;> with_reducible rfl)
      try simp only [Act.put, pt1, pt2, pt3]
      refine tk (i := 7) (v := ?vAn17) rfl ?hyAn17 ?restAn17
      case hyAn17 => (intro w hSw; (try dsimp only at hSw); go_simp <;> with_reducible rfl)
      try simp only [Act.put, pt1, pt2, pt3]
      refine tku (i := 8) rfl ?_
      try simp only [Act.put, pt1, pt2, pt3]
      refine tku (i := 9) rfl ?_
      try simp only [Act.put, pt1, pt2, pt3]
      refine tku (i := 10) rfl ?_
      try simp only [Act.put, pt1, pt2, pt3]
      refine tku (i := 11) rfl ?_
      try simp only [Act.put, pt1, pt2, pt3]
      refine tk (i := 12) (v := ?vAn112) rfl ?hyAn112 ?restAn112
      case hyAn112 => (intro w hSw; (try dsimp only at hSw); go_simp <;> with_reducible rfl)
      try simp only [Act.put, pt1, pt2, pt3]
      refine tk (i := 13) (v := ?vAn113) rfl ?hyAn113 ?restAn113
      case hyAn113 => (intro w hSw; (try dsimp only at hSw); go_simp <;> with_reducible rfl)
      try simp only [Act.put, pt1, pt2, pt3]
      refine tku (i := 14) rfl ?_
      try simp only [Act.put, pt1, pt2, pt3]
      refine tku (i := 15) rfl ?_
      try simp only [Act.put, pt1, pt2, pt3]
      refine tku (i := 16) rfl ?_
      try simp only [Act.put, pt1, pt2, pt3]
      refine tku (i := 17) rfl ?_
      try simp only [Act.put, pt1, pt2, pt3]
      refine tk (i := 18) (v := ?vAn118) rfl ?hyAn118 ?restAn118
      case hyAn118 => (intro w hSw; (try dsimp only at hSw); go_simp <;> with_reducible rfl)
      try simp only [Act.put, pt1, pt2, pt3]
      refine tk (i := 19) (v := ?vAn119) rfl ?hyAn119 ?restAn119
      case hyAn119 => (intro w hSw; (try dsimp only at hSw); go_simp <;> with_reducible rfl)
      try simp only [Act.put, pt1, pt2, pt3]
      refine tku (i := 20) rfl ?_
      try simp only [Act.put, pt1, pt2, pt3]
      refine tku (i := 21) rfl ?_
      try simp only [Act.put, pt1, pt2, pt3]
      refine tku (i := 22) rfl ?_
      try simp only [Act.put, pt1, pt2, pt3]
      refine tk (i := 23) (v := ?vAn123) rfl ?hyAn123 ?restAn123
      case hyAn123 => (intro w hSw; (try dsimp only at hSw); go_simp <;> with_reducible rfl)
      try simp only [Act.put, pt1, pt2, pt3]
      refine tk (i := 24) (v := ?vAn124) rfl ?hyAn124 ?restAn124
      case hyAn124 => (intro w hSw; (try dsimp only at hSw); go_simp <;> with_reducible rfl)
      try simp only [Act.put, pt1, pt2, pt3]
      refine tku (i := 25) rfl ?_
      try simp only [Act.put, pt1, pt2, pt3]
      refine tku (i := 26) rfl ?_
      try simp only [Act.put, pt1, pt2, pt3]
      refine tku (i := 27) rfl ?_
      try simp only [Act.put, pt1, pt2, pt3]
      refine tku (i := 28) rfl ?_
      try simp only [Act.put, pt1, pt2, pt3]
      refine tku (i := 29) rfl ?_
      try simp only [Act.put, pt1, pt2, pt3]
      refine tku (i := 30) rfl ?_
      try simp only [Act.put, pt1, pt2, pt3]
      refine tku (i := 31) rfl ?_
      try simp only [Act.put, pt1, pt2, pt3]
      refine tk (i := 32) (v := ?vAn132) rfl ?hyAn132 ?restAn132
      case hyAn132 => (intro w hSw; (try dsimp only at hSw); go_simp <;> with_reducible rfl)
      try simp only [Act.put, pt1, pt2, pt3]
      refine tk (i := 33) (v := ?vAn133) rfl ?hyAn133 ?restAn133
      case hyAn133 => (intro w hSw; (try dsimp only at hSw); go_simp <;> with_reducible rfl)
      try simp only [Act.put, pt1, pt2, pt3]
      refine wpAnyH_done (by kernel_rfl) ?_ _
      have HE := Lib.hid (show tombC C v = (12, C) by unfold tombC; rw [TI.out, if_neg (by omega), if_neg (by omega)])
      clear g0 e0
      go_wp2_with fail
      go_ret
      rw [HE.out]
      exact CatPost.same H.out (Nat.le_succ _) (BB2.out.trans below_drew1)
    case pos =>
      have d7 : (v.size == 0) = true := by simpa using e0
      by_cases e1 : 0 ≤ ti
      case neg =>
        have d8 : decide (0 ≤ ti) = false := by simpa using e1
        refine wp_region_held_drew (S := (fun w' => w'.cell? ⟨w.heap.size, 1, none⟩ = some (encStr v.key) ∧ w'.cell? ⟨w.heap.size, 2, none⟩ = some (.int .i64 v.gen) ∧ w'.cell? ⟨w.heap.size, 6, none⟩ = some (.int .i64 v.size) ∧ w'.cell? ⟨p, 5, none⟩ = some (.int .i64 C.gen))) (by kernel_rfl) ⟨q1, q2, q6, q5⟩ (fun hHeld => ?_)
        refine tk (i := 0) (v := ?vBn20) rfl ?hyBn20 ?restBn20
        case hyBn20 => (intro w hSw; (try dsimp only at hSw); go_simp <;> with_reducible rfl)
        try simp only [Act.put, pt1, pt2, pt3]
        refine tk (i := 1) (v := ?vBn21) rfl ?hyBn21 ?restBn21
        case hyBn21 => (intro w hSw; (try dsimp only at hSw); go_simp <;> with_reducible rfl)
        try simp only [Act.put, pt1, pt2, pt3]
        refine tk (i := 2) (v := ?vBn22) rfl ?hyBn22 ?restBn22
        case hyBn22 => (intro w hSw; (try dsimp only at hSw); go_simp <;> with_reducible rfl)
        try simp only [Act.put, pt1, pt2, pt3]
        refine tk (i := 3) (v := ?vBn23) rfl ?hyBn23 ?restBn23
        case hyBn23 => (intro w hSw; (try dsimp only at hSw); go_simp <;> with_reducible rfl)
        try simp only [Act.put, pt1, pt2, pt3]
        refine tku (i := 4) rfl ?_
        try simp only [Act.put, pt1, pt2, pt3]
        refine tku (i := 5) rfl ?_
        try simp only [Act.put, pt1, pt2, pt3]
        refine tk (i := 6) (v := ?vBn26) rfl ?hyBn26 ?restBn26
        case hyBn26 => (intro w hSw; (try dsimp only at hSw); go_simp <;> with_reducible rfl)
        try simp only [Act.put, pt1, pt2, pt3]
        refine tk (i := 7) (v := ?vBn27) rfl ?hyBn27 ?restBn27
        case hyBn27 => (intro w hSw; (try dsimp only at hSw); go_simp <;> with_reducible rfl)
        try simp only [Act.put, pt1, pt2, pt3]
        refine tku (i := 8) rfl ?_
        try simp only [Act.put, pt1, pt2, pt3]
        refine tku (i := 9) rfl ?_
        try simp only [Act.put, pt1, pt2, pt3]
        refine tku (i := 10) rfl ?_
        try simp only [Act.put, pt1, pt2, pt3]
        refine tku (i := 11) rfl ?_
        try simp only [Act.put, pt1, pt2, pt3]
        refine tk (i := 12) (v := ?vBn212) rfl ?hyBn212 ?restBn212
        case hyBn212 => (intro w hSw; (try dsimp only at hSw); go_simp <;> with_reducible rfl)
        try simp only [Act.put, pt1, pt2, pt3]
        refine tk (i := 13) (v := ?vBn213) rfl ?hyBn213 ?restBn213
        case hyBn213 => (intro w hSw; (try dsimp only at hSw); go_simp <;> with_reducible rfl)
        try simp only [Act.put, pt1, pt2, pt3]
        refine tku (i := 14) rfl ?_
        try simp only [Act.put, pt1, pt2, pt3]
        refine tku (i := 15) rfl ?_
        try simp only [Act.put, pt1, pt2, pt3]
        refine tku (i := 16) rfl ?_
        try simp only [Act.put, pt1, pt2, pt3]
        refine tku (i := 17) rfl ?_
        try simp only [Act.put, pt1, pt2, pt3]
        refine tk (i := 18) (v := ?vBn218) rfl ?hyBn218 ?restBn218
        case hyBn218 => (intro w hSw; (try dsimp only at hSw); go_simp <;> with_reducible rfl)
        try simp only [Act.put, pt1, pt2, pt3]
        refine tk (i := 19) (v := ?vBn219) rfl ?hyBn219 ?restBn219
        case hyBn219 => (intro w hSw; (try dsimp only at hSw); go_simp <;> with_reducible rfl)
        try simp only [Act.put, pt1, pt2, pt3]
        refine tku (i := 20) rfl ?_
        try simp only [Act.put, pt1, pt2, pt3]
        refine tku (i := 21) rfl ?_
        try simp only [Act.put, pt1, pt2, pt3]
        refine tku (i := 22) rfl ?_
        try simp only [Act.put, pt1, pt2, pt3]
        refine tk (i := 23) (v := ?vBn223) rfl ?hyBn223 ?restBn223
        case hyBn223 => (intro w hSw; (try dsimp only at hSw); go_simp <;> with_reducible rfl)
        try simp only [Act.put, pt1, pt2, pt3]
        refine tk (i := 24) (v := ?vBn224) rfl ?hyBn224 ?restBn224
        case hyBn224 => (intro w hSw; (try dsimp only at hSw); go_simp <;> with_reducible rfl)
        try simp only [Act.put, pt1, pt2, pt3]
        refine tku (i := 25) rfl ?_
        try simp only [Act.put, pt1, pt2, pt3]
        refine tku (i := 26) rfl ?_
        try simp only [Act.put, pt1, pt2, pt3]
        refine tku (i := 27) rfl ?_
        try simp only [Act.put, pt1, pt2, pt3]
        refine tku (i := 28) rfl ?_
        try simp only [Act.put, pt1, pt2, pt3]
        refine tku (i := 29) rfl ?_
        try simp only [Act.put, pt1, pt2, pt3]
        refine tku (i := 30) rfl ?_
        try simp only [Act.put, pt1, pt2, pt3]
        refine tku (i := 31) rfl ?_
        try simp only [Act.put, pt1, pt2, pt3]
        refine tk (i := 32) (v := ?vBn232) rfl ?hyBn232 ?restBn232
        case hyBn232 => (intro w hSw; (try dsimp only at hSw); go_simp <;> with_reducible rfl)
        try simp only [Act.put, pt1, pt2, pt3]
        refine tk (i := 33) (v := ?vBn233) rfl ?hyBn233 ?restBn233
        case hyBn233 => (intro w hSw; (try dsimp only at hSw); go_simp <;> with_reducible rfl)
        try simp only [Act.put, pt1, pt2, pt3]
        refine wpAnyH_done (by kernel_rfl) ?_ _
        have HE := Lib.hid (show tombC C v = (12, C) by unfold tombC; rw [TI.out, if_neg (by omega), if_neg (by omega)])
        clear g0 e0 e1
        go_wp2_with fail
        go_ret
        rw [HE.out]
        exact CatPost.same H.out (Nat.le_succ _) (BB2.out.trans below_drew1)
      case pos =>
        have d8 : decide (0 ≤ ti) = true := by simpa using e1
        obtain ⟨i, rfl⟩ := Int.eq_ofNat_of_zero_le e1
        have HE := Lib.hid (show tombC C v = (0, { C with tombs := C.tombs.eraseIdx i }) by unfold tombC; rw [TI.out, if_neg (by omega), if_pos ⟨e0, e1⟩]; rfl)
        obtain ⟨m, hm⟩ : ∃ m, C.tombs.length = i + 1 + m := ⟨C.tombs.length - (i + 1), by omega⟩
        obtain ⟨g, cap, hsl, hF⟩ : ∃ g cap, (.slice B0 n0 c0 : Value) = .slice (some ⟨g, 0, none⟩) (i + 1 + m) cap ∧ F g := by
          rcases R2.out.tmb.form with ⟨_, h⟩ | ⟨g, cap, h, _, _, hF, _⟩
          · omega
          · exact ⟨g, cap, by rw [h, hm], hF⟩
        obtain ⟨rfl, rfl, rfl⟩ : B0 = some ⟨g, 0, none⟩ ∧ n0 = i + 1 + m ∧ c0 = cap := by injection hsl with a b c; exact ⟨a, b, c⟩
        have TM := Lib.hid (show OwnRow F w2 32 8 (.slice (some ⟨g, 0, none⟩) (i + 1 + m) c0) (i + 1 + m) (tombVals C.tombs) by have h := R2.out.tmb; rw [hm] at h; exact h)
        have MM := Lib.hid hm
        have kp : w2.cell? ⟨p, 3, none⟩ = some (.slice (some ⟨g, 0, none⟩) (i + 1 + m) c0) := R2.out.blk.cell 3
        have hi63 : (i : Int) + 1 ≤ 9223372036854775807 := by have := R2.out.wf.tombs; omega
        clear g0 e0 e1 hsl hm
        refine wp_region_held_drew (S := (fun w' => w'.cell? ⟨w.heap.size, 1, none⟩ = some (encStr v.key) ∧ w'.cell? ⟨w.heap.size, 2, none⟩ = some (.int .i64 v.gen) ∧ w'.cell? ⟨w.heap.size, 6, none⟩ = some (.int .i64 v.size) ∧ w'.cell? ⟨p, 5, none⟩ = some (.int .i64 C.gen))) (by kernel_rfl) ⟨q1, q2, q6, q5⟩ (fun hHeld => ?_)
        refine tk (i := 0) (v := ?vCn30) rfl ?hyCn30 ?restCn30
        case hyCn30 => (intro w hSw; (try dsimp only at hSw); go_simp <;> with_reducible rfl)
        try simp only [Act.put, pt1, pt2, pt3]
        refine tk (i := 1) (v := ?vCn31) rfl ?hyCn31 ?restCn31
        case hyCn31 => (intro w hSw; (try dsimp only at hSw); go_simp <;> with_reducible rfl)
        try simp only [Act.put, pt1, pt2, pt3]
        refine tk (i := 2) (v := ?vCn32) rfl ?hyCn32 ?restCn32
        case hyCn32 => (intro w hSw; (try dsimp only at hSw); go_simp <;> with_reducible rfl)
        try simp only [Act.put, pt1, pt2, pt3]
        refine tk (i := 3) (v := ?vCn33) rfl ?hyCn33 ?restCn33
        case hyCn33 => (intro w hSw; (try dsimp only at hSw); go_simp <;> with_reducible rfl)
        try simp only [Act.put, pt1, pt2, pt3]
        refine tku (i := 4) rfl ?_
        try simp only [Act.put, pt1, pt2, pt3]
        refine tku (i := 5) rfl ?_
        try simp only [Act.put, pt1, pt2, pt3]
        refine tk (i := 6) (v := ?vCn36) rfl ?hyCn36 ?restCn36
        case hyCn36 => (intro w hSw; (try dsimp only at hSw); go_simp <;> with_reducible rfl)
        try simp only [Act.put, pt1, pt2, pt3]
        refine tk (i := 7) (v := ?vCn37) rfl ?hyCn37 ?restCn37
        case hyCn37 => (intro w hSw; (try dsimp only at hSw); go_simp <;> with_reducible rfl)
        try simp only [Act.put, pt1, pt2, pt3]
        refine tku (i := 8) rfl ?_
        try simp only [Act.put, pt1, pt2, pt3]
        refine tku (i := 9) rfl ?_
        try simp only [Act.put, pt1, pt2, pt3]
        refine tku (i := 10) rfl ?_
        try simp only [Act.put, pt1, pt2, pt3]
        refine tku (i := 11) rfl ?_
        try simp only [Act.put, pt1, pt2, pt3]
        refine tk (i := 12) (v := ?vCn312) rfl ?hyCn312 ?restCn312
        case hyCn312 => (intro w hSw; (try dsimp only at hSw); go_simp <;> with_reducible rfl)
        try simp only [Act.put, pt1, pt2, pt3]
        refine tk (i := 13) (v := ?vCn313) rfl ?hyCn313 ?restCn313
        case hyCn313 => (intro w hSw; (try dsimp only at hSw); go_simp <;> with_reducible rfl)
        try simp only [Act.put, pt1, pt2, pt3]
        refine tku (i := 14) rfl ?_
        try simp only [Act.put, pt1, pt2, pt3]
        refine tku (i := 15) rfl ?_
        try simp only [Act.put, pt1, pt2, pt3]
        refine tku (i := 16) rfl ?_
        try simp only [Act.put, pt1, pt2, pt3]
        refine tku (i := 17) rfl ?_
        try simp only [Act.put, pt1, pt2, pt3]
        refine tk (i := 18) (v := ?vCn318) rfl ?hyCn318 ?restCn318
        case hyCn318 => (intro w hSw; (try dsimp only at hSw); go_simp <;> with_reducible rfl)
        try simp only [Act.put, pt1, pt2, pt3]
        refine tk (i := 19) (v := ?vCn319) rfl ?hyCn319 ?restCn319
        case hyCn319 => (intro w hSw; (try dsimp only at hSw); go_simp <;> with_reducible rfl)
        try simp only [Act.put, pt1, pt2, pt3]
        refine tku (i := 20) rfl ?_
        try simp only [Act.put, pt1, pt2, pt3]
        refine tku (i := 21) rfl ?_
        try simp only [Act.put, pt1, pt2, pt3]
        refine tku (i := 22) rfl ?_
        try simp only [Act.put, pt1, pt2, pt3]
        refine tk (i := 23) (v := ?vCn323) rfl ?hyCn323 ?restCn323
        case hyCn323 => (intro w hSw; (try dsimp only at hSw); go_simp <;> with_reducible rfl)
        try simp only [Act.put, pt1, pt2, pt3]
        refine tk (i := 24) (v := ?vCn324) rfl ?hyCn324 ?restCn324
        case hyCn324 => (intro w hSw; (try dsimp only at hSw); go_simp <;> with_reducible rfl)
        try simp only [Act.put, pt1, pt2, pt3]
        refine tku (i := 25) rfl ?_
        try simp only [Act.put, pt1, pt2, pt3]
        refine tku (i := 26) rfl ?_
        try simp only [Act.put, pt1, pt2, pt3]
        refine tku (i := 27) rfl ?_
        try simp only [Act.put, pt1, pt2, pt3]
        refine tku (i := 28) rfl ?_
        try simp only [Act.put, pt1, pt2, pt3]
        refine tku (i := 29) rfl ?_
        try simp only [Act.put, pt1, pt2, pt3]
        refine tku (i := 30) rfl ?_
        try simp only [Act.put, pt1, pt2, pt3]
        refine tku (i := 31) rfl ?_
        try simp only [Act.put, pt1, pt2, pt3]
        refine tk (i := 32) (v := ?vCn332) rfl ?hyCn332 ?restCn332
        case hyCn332 => (intro w hSw; (try dsimp only at hSw); go_simp <;> with_reducible rfl)
        try simp only [Act.put, pt1, pt2, pt3]
        refine tk (i := 33) (v := ?vCn333) rfl ?hyCn333 ?restCn333
        case hyCn333 => (intro w hSw; (try dsimp only at hSw); go_simp <;> with_reducible rfl)
        try simp only [Act.put, pt1, pt2, pt3]
        refine wpAnyH_done (by kernel_rfl) ?_ _
        go_wp2_with (go_at_call 76; refine (dNote F g c0 i m (tombVals C.tombs) _ (by exact ((OwnRow.owning ..).keep _ _ _ TM.out (Nat.le_refl _) (fun _ _ _ => rfl))) (tombVals_one _)).mono ?_; rintro e w3 ⟨rfl, ho3, hc3⟩; have HO3 := Lib.hid ho3; have HC3 := Lib.hid (show Chg (fun k => k = g) w2 w3 from ⟨hc3.os, hc3.tape, hc3.output, hc3.size, hc3.block⟩); have BP3 := Lib.hid (show Blk w3 p 68 #[sv, .map (some be), .map (some bb), .slice (some ⟨g, 0, none⟩) (i + 1 + m) c0, .map (some br), .int .i64 C.gen] from R2.out.blk.of_eq (hc3.block p R2.out.blk.size (fun e => (R2.out.tmb_ne rfl).1 e.symm))); have f3 : w3.frozen? ⟨p, 3, none⟩ = false := BP3.out.free 3; have kp3 : w3.cell? ⟨p, 3, none⟩ = some (.slice (some ⟨g, 0, none⟩) (i + 1 + m) c0) := BP3.out.cell 3; clear ho3 hc3)
        go_ret
        rw [HE.out]
        have hgp : g ≠ p := (R2.out.tmb_ne rfl).1
        have hc : Chg (fun k => k = p ∨ (Value.slice (some ⟨g, 0, none⟩) (i + 1 + m) c0).ownBlock = some k) w2 (w3.setCell ⟨p, 3, none⟩ (.slice (some ⟨g, 0, none⟩) (i + m) c0)) := (HC3.out.mono (T := fun k => k = p ∨ (Value.slice (some ⟨g, 0, none⟩) (i + 1 + m) c0).ownBlock = some k) (fun k e => .inr (by rw [e]; rfl))).store (p := ⟨p, 3, none⟩) (.inl (.inl rfl)) _
        refine R2.out.setTombs BB2.out (Nat.le_succ _) (L := C.tombs.eraseIdx i) hc (BP3.out.store 3 _) ?_ (tomb_cut_wf R2.out.wf i) 0
        have ho := HO3.out
        rw [tombVals_cut _ _ (by have := MM.out; omega)] at ho
        have hl : (C.tombs.eraseIdx i).length = i + m := by rw [List.length_eraseIdx_of_lt (by have := MM.out; omega), MM.out]; omega
        rw [hl]
        exact (ho.chg ((Chg.refl (fun k => k = p) w3).store (p := ⟨p, 3, none⟩) (.inl rfl) _) (fun q hq e => hgp ((Option.some.inj hq).trans e))).wide
  have d0 : (v.size == 1) = true := by simpa using g0
  have d7 : (v.size == 0) = false := by rw [g0]; rfl
  by_cases g1 : ti < 0
  case neg =>
    have d1 : (decide (ti < 0) = false) := by simp; omega
    refine wp_region_held_drew (S := (fun w' => w'.cell? ⟨w.heap.size, 1, none⟩ = some (encStr v.key) ∧ w'.cell? ⟨w.heap.size, 2, none⟩ = some (.int .i64 v.gen) ∧ w'.cell? ⟨w.heap.size, 6, none⟩ = some (.int .i64 v.size) ∧ w'.cell? ⟨p, 5, none⟩ = some (.int .i64 C.gen))) (by kernel_rfl) ⟨q1, q2, q6, q5⟩ (fun hHeld => ?_)
    refine tk (i := 0) (v := ?vD1n40) rfl ?hyD1n40 ?restD1n40
    case hyD1n40 => (intro w hSw; (try dsimp only at hSw); go_simp <;> with_reducible rfl)
    try simp only [Act.put, pt1, pt2, pt3]
    refine tk (i := 1) (v := ?vD1n41) rfl ?hyD1n41 ?restD1n41
    case hyD1n41 => (intro w hSw; (try dsimp only at hSw); go_simp <;> with_reducible rfl)
    try simp only [Act.put, pt1, pt2, pt3]
    refine tk (i := 2) (v := ?vD1n42) rfl ?hyD1n42 ?restD1n42
    case hyD1n42 => (intro w hSw; (try dsimp only at hSw); go_simp <;> with_reducible rfl)
    try simp only [Act.put, pt1, pt2, pt3]
    refine tk (i := 3) (v := ?vD1n43) rfl ?hyD1n43 ?restD1n43
    case hyD1n43 => (intro w hSw; (try dsimp only at hSw); go_simp <;> with_reducible rfl)
    try simp only [Act.put, pt1, pt2, pt3]
    refine tk (i := 4) (v := ?vD1n44) rfl ?hyD1n44 ?restD1n44
    case hyD1n44 => (intro w hSw; (try dsimp only at hSw); go_simp <;> with_reducible rfl)
    try simp only [Act.put, pt1, pt2, pt3]
    refine tk (i := 5) (v := ?vD1n45) rfl ?hyD1n45 ?restD1n45
    case hyD1n45 => (intro w hSw; (try dsimp only at hSw); go_simp <;> with_reducible rfl)
    try simp only [Act.put, pt1, pt2, pt3]
    refine tk (i := 6) (v := ?vD1n46) rfl ?hyD1n46 ?restD1n46
    case hyD1n46 => (intro w hSw; (try dsimp only at hSw); go_simp <;> with_reducible rfl)
    try simp only [Act.put, pt1, pt2, pt3]
    refine tk (i := 7) (v := ?vD1n47) rfl ?hyD1n47 ?restD1n47
    case hyD1n47 => (intro w hSw; (try dsimp only at hSw); go_simp <;> with_reducible rfl)
    try simp only [Act.put, pt1, pt2, pt3]
    refine tku (i := 8) rfl ?_
    try simp only [Act.put, pt1, pt2, pt3]
    refine tku (i := 9) rfl ?_
    try simp only [Act.put, pt1, pt2, pt3]
    refine tku (i := 10) rfl ?_
    try simp only [Act.put, pt1, pt2, pt3]
    refine tku (i := 11) rfl ?_
    try simp only [Act.put, pt1, pt2, pt3]
    refine tk (i := 12) (v := ?vD1n412) rfl ?hyD1n412 ?restD1n412
    case hyD1n412 => (intro w hSw; (try dsimp only at hSw); go_simp <;> with_reducible rfl)
    try simp only [Act.put, pt1, pt2, pt3]
    refine tk (i := 13) (v := ?vD1n413) rfl ?hyD1n413 ?restD1n413
    case hyD1n413 => (intro w hSw; (try dsimp only at hSw); go_simp <;> with_reducible rfl)
    try simp only [Act.put, pt1, pt2, pt3]
    refine tku (i := 14) rfl ?_
    try simp only [Act.put, pt1, pt2, pt3]
    refine tku (i := 15) rfl ?_
    try simp only [Act.put, pt1, pt2, pt3]
    refine tku (i := 16) rfl ?_
    try simp only [Act.put, pt1, pt2, pt3]
    refine tku (i := 17) rfl ?_
    try simp only [Act.put, pt1, pt2, pt3]
    refine tk (i := 18) (v := ?vD1n418) rfl ?hyD1n418 ?restD1n418
    case hyD1n418 => (intro w hSw; (try dsimp only at hSw); go_simp <;> with_reducible rfl)
    try simp only [Act.put, pt1, pt2, pt3]
    refine tk (i := 19) (v := ?vD1n419) rfl ?hyD1n419 ?restD1n419
    case hyD1n419 => (intro w hSw; (try dsimp only at hSw); go_simp <;> with_reducible rfl)
    try simp only [Act.put, pt1, pt2, pt3]
    refine tku (i := 20) rfl ?_
    try simp only [Act.put, pt1, pt2, pt3]
    refine tku (i := 21) rfl ?_
    try simp only [Act.put, pt1, pt2, pt3]
    refine tku (i := 22) rfl ?_
    try simp only [Act.put, pt1, pt2, pt3]
    refine tk (i := 23) (v := ?vD1n423) rfl ?hyD1n423 ?restD1n423
    case hyD1n423 => (intro w hSw; (try dsimp only at hSw); go_simp <;> with_reducible rfl)
    try simp only [Act.put, pt1, pt2, pt3]
    refine tk (i := 24) (v := ?vD1n424) rfl ?hyD1n424 ?restD1n424
    case hyD1n424 => (intro w hSw; (try dsimp only at hSw); go_simp <;> with_reducible rfl)
    try simp only [Act.put, pt1, pt2, pt3]
    refine tku (i := 25) rfl ?_
    try simp only [Act.put, pt1, pt2, pt3]
    refine tku (i := 26) rfl ?_
    try simp only [Act.put, pt1, pt2, pt3]
    refine tku (i := 27) rfl ?_
    try simp only [Act.put, pt1, pt2, pt3]
    refine tku (i := 28) rfl ?_
    try simp only [Act.put, pt1, pt2, pt3]
    refine tku (i := 29) rfl ?_
    try simp only [Act.put, pt1, pt2, pt3]
    refine tku (i := 30) rfl ?_
    try simp only [Act.put, pt1, pt2, pt3]
    refine tku (i := 31) rfl ?_
    try simp only [Act.put, pt1, pt2, pt3]
    refine tk (i := 32) (v := ?vD1n432) rfl ?hyD1n432 ?restD1n432
    case hyD1n432 => (intro w hSw; (try dsimp only at hSw); go_simp <;> with_reducible rfl)
    try simp only [Act.put, pt1, pt2, pt3]
    refine tk (i := 33) (v := ?vD1n433) rfl ?hyD1n433 ?restD1n433
    case hyD1n433 => (intro w hSw; (try dsimp only at hSw); go_simp <;> with_reducible rfl)
    try simp only [Act.put, pt1, pt2, pt3]
    refine wpAnyH_done (by kernel_rfl) ?_ _
    have HE := Lib.hid (show tombC C v = (12, C) by unfold tombC; rw [TI.out, if_neg (by omega), if_neg (by omega)])
    clear g0 g1
    go_wp2_with fail
    go_ret
    rw [HE.out]
    exact CatPost.same H.out (Nat.le_succ _) (BB2.out.trans below_drew1)
  have d1 : (decide (ti < 0) = true) := by simp; omega
  by_cases g2 : 1 ≤ v.key.length
  case neg =>
    have d2 : (decide ((1 : Int) ≤ (v.key.length : Int)) = false) := by simp; omega
    refine wp_region_held_drew (S := (fun w' => w'.cell? ⟨w.heap.size, 1, none⟩ = some (encStr v.key) ∧ w'.cell? ⟨w.heap.size, 2, none⟩ = some (.int .i64 v.gen) ∧ w'.cell? ⟨w.heap.size, 6, none⟩ = some (.int .i64 v.size) ∧ w'.cell? ⟨p, 5, none⟩ = some (.int .i64 C.gen))) (by kernel_rfl) ⟨q1, q2, q6, q5⟩ (fun hHeld => ?_)
    refine tk (i := 0) (v := ?vD2n50) rfl ?hyD2n50 ?restD2n50
    case hyD2n50 => (intro w hSw; (try dsimp only at hSw); go_simp <;> with_reducible rfl)
    try simp only [Act.put, pt1, pt2, pt3]
    refine tk (i := 1) (v := ?vD2n51) rfl ?hyD2n51 ?restD2n51
    case hyD2n51 => (intro w hSw; (try dsimp only at hSw); go_simp <;> with_reducible rfl)
    try simp only [Act.put, pt1, pt2, pt3]
    refine tk (i := 2) (v := ?vD2n52) rfl ?hyD2n52 ?restD2n52
    case hyD2n52 => (intro w hSw; (try dsimp only at hSw); go_simp <;> with_reducible rfl)
    try simp only [Act.put, pt1, pt2, pt3]
    refine tk (i := 3) (v := ?vD2n53) rfl ?hyD2n53 ?restD2n53
    case hyD2n53 => (intro w hSw; (try dsimp only at hSw); go_simp <;> with_reducible rfl)
    try simp only [Act.put, pt1, pt2, pt3]
    refine tk (i := 4) (v := ?vD2n54) rfl ?hyD2n54 ?restD2n54
    case hyD2n54 => (intro w hSw; (try dsimp only at hSw); go_simp <;> with_reducible rfl)
    try simp only [Act.put, pt1, pt2, pt3]
    refine tk (i := 5) (v := ?vD2n55) rfl ?hyD2n55 ?restD2n55
    case hyD2n55 => (intro w hSw; (try dsimp only at hSw); go_simp <;> with_reducible rfl)
    try simp only [Act.put, pt1, pt2, pt3]
    refine tk (i := 6) (v := ?vD2n56) rfl ?hyD2n56 ?restD2n56
    case hyD2n56 => (intro w hSw; (try dsimp only at hSw); go_simp <;> with_reducible rfl)
    try simp only [Act.put, pt1, pt2, pt3]
    refine tk (i := 7) (v := ?vD2n57) rfl ?hyD2n57 ?restD2n57
    case hyD2n57 => (intro w hSw; (try dsimp only at hSw); go_simp <;> with_reducible rfl)
    try simp only [Act.put, pt1, pt2, pt3]
    refine tk (i := 8) (v := ?vD2n58) rfl ?hyD2n58 ?restD2n58
    case hyD2n58 => (intro w hSw; (try dsimp only at hSw); go_simp <;> with_reducible rfl)
    try simp only [Act.put, pt1, pt2, pt3]
    refine tk (i := 9) (v := ?vD2n59) rfl ?hyD2n59 ?restD2n59
    case hyD2n59 => (intro w hSw; (try dsimp only at hSw); go_simp <;> with_reducible rfl)
    try simp only [Act.put, pt1, pt2, pt3]
    refine tk (i := 10) (v := ?vD2n510) rfl ?hyD2n510 ?restD2n510
    case hyD2n510 => (intro w hSw; (try dsimp only at hSw); go_simp <;> with_reducible rfl)
    try simp only [Act.put, pt1, pt2, pt3]
    refine tk (i := 11) (v := ?vD2n511) rfl ?hyD2n511 ?restD2n511
    case hyD2n511 => (intro w hSw; (try dsimp only at hSw); go_simp <;> with_reducible rfl)
    try simp only [Act.put, pt1, pt2, pt3]
    refine tk (i := 12) (v := ?vD2n512) rfl ?hyD2n512 ?restD2n512
    case hyD2n512 => (intro w hSw; (try dsimp only at hSw); go_simp <;> with_reducible rfl)
    try simp only [Act.put, pt1, pt2, pt3]
    refine tk (i := 13) (v := ?vD2n513) rfl ?hyD2n513 ?restD2n513
    case hyD2n513 => (intro w hSw; (try dsimp only at hSw); go_simp <;> with_reducible rfl)
    try simp only [Act.put, pt1, pt2, pt3]
    refine tku (i := 14) rfl ?_
    try simp only [Act.put, pt1, pt2, pt3]
    refine tku (i := 15) rfl ?_
    try simp only [Act.put, pt1, pt2, pt3]
    refine tku (i := 16) rfl ?_
    try simp only [Act.put, pt1, pt2, pt3]
    refine tku (i := 17) rfl ?_
    try simp only [Act.put, pt1, pt2, pt3]
    refine tk (i := 18) (v := ?vD2n518) rfl ?hyD2n518 ?restD2n518
    case hyD2n518 => (intro w hSw; (try dsimp only at hSw); go_simp <;> with_reducible rfl)
    try simp only [Act.put, pt1, pt2, pt3]
    refine tk (i := 19) (v := ?vD2n519) rfl ?hyD2n519 ?restD2n519
    case hyD2n519 => (intro w hSw; (try dsimp only at hSw); go_simp <;> with_reducible rfl)
    try simp only [Act.put, pt1, pt2, pt3]
    refine tku (i := 20) rfl ?_
    try simp only [Act.put, pt1, pt2, pt3]
    refine tku (i := 21) rfl ?_
    try simp only [Act.put, pt1, pt2, pt3]
    refine tku (i := 22) rfl ?_
    try simp only [Act.put, pt1, pt2, pt3]
    refine tk (i := 23) (v := ?vD2n523) rfl ?hyD2n523 ?restD2n523
    case hyD2n523 => (intro w hSw; (try dsimp only at hSw); go_simp <;> with_reducible rfl)
    try simp only [Act.put, pt1, pt2, pt3]
    refine tk (i := 24) (v := ?vD2n524) rfl ?hyD2n524 ?restD2n524
    case hyD2n524 => (intro w hSw; (try dsimp only at hSw); go_simp <;> with_reducible rfl)
    try simp only [Act.put, pt1, pt2, pt3]
    refine tku (i := 25) rfl ?_
    try simp only [Act.put, pt1, pt2, pt3]
    refine tku (i := 26) rfl ?_
    try simp only [Act.put, pt1, pt2, pt3]
    refine tku (i := 27) rfl ?_
    try simp only [Act.put, pt1, pt2, pt3]
    refine tku (i := 28) rfl ?_
    try simp only [Act.put, pt1, pt2, pt3]
    refine tku (i := 29) rfl ?_
    try simp only [Act.put, pt1, pt2, pt3]
    refine tku (i := 30) rfl ?_
    try simp only [Act.put, pt1, pt2, pt3]
    refine tku (i := 31) rfl ?_
    try simp only [Act.put, pt1, pt2, pt3]
    refine tk (i := 32) (v := ?vD2n532) rfl ?hyD2n532 ?restD2n532
    case hyD2n532 => (intro w hSw; (try dsimp only at hSw); go_simp <;> with_reducible rfl)
    try simp only [Act.put, pt1, pt2, pt3]
    refine tk (i := 33) (v := ?vD2n533) rfl ?hyD2n533 ?restD2n533
    case hyD2n533 => (intro w hSw; (try dsimp only at hSw); go_simp <;> with_reducible rfl)
    try simp only [Act.put, pt1, pt2, pt3]
    refine wpAnyH_done (by kernel_rfl) ?_ _
    have HE := Lib.hid (show tombC C v = (12, C) by unfold tombC; rw [TI.out, if_neg (by omega), if_neg (by omega)])
    clear g0 g1 g2
    go_wp2_with fail
    go_ret
    rw [HE.out]
    exact CatPost.same H.out (Nat.le_succ _) (BB2.out.trans below_drew1)
  have d2 : (decide ((1 : Int) ≤ (v.key.length : Int)) = true) := by simp; omega
  by_cases g3 : v.key.length ≤ 16
  case neg =>
    have d3 : (decide ((v.key.length : Int) ≤ 16) = false) := by simp; omega
    refine wp_region_held_drew (S := (fun w' => w'.cell? ⟨w.heap.size, 1, none⟩ = some (encStr v.key) ∧ w'.cell? ⟨w.heap.size, 2, none⟩ = some (.int .i64 v.gen) ∧ w'.cell? ⟨w.heap.size, 6, none⟩ = some (.int .i64 v.size) ∧ w'.cell? ⟨p, 5, none⟩ = some (.int .i64 C.gen))) (by kernel_rfl) ⟨q1, q2, q6, q5⟩ (fun hHeld => ?_)
    refine tk (i := 0) (v := ?vD3n60) rfl ?hyD3n60 ?restD3n60
    case hyD3n60 => (intro w hSw; (try dsimp only at hSw); go_simp <;> with_reducible rfl)
    try simp only [Act.put, pt1, pt2, pt3]
    refine tk (i := 1) (v := ?vD3n61) rfl ?hyD3n61 ?restD3n61
    case hyD3n61 => (intro w hSw; (try dsimp only at hSw); go_simp <;> with_reducible rfl)
    try simp only [Act.put, pt1, pt2, pt3]
    refine tk (i := 2) (v := ?vD3n62) rfl ?hyD3n62 ?restD3n62
    case hyD3n62 => (intro w hSw; (try dsimp only at hSw); go_simp <;> with_reducible rfl)
    try simp only [Act.put, pt1, pt2, pt3]
    refine tk (i := 3) (v := ?vD3n63) rfl ?hyD3n63 ?restD3n63
    case hyD3n63 => (intro w hSw; (try dsimp only at hSw); go_simp <;> with_reducible rfl)
    try simp only [Act.put, pt1, pt2, pt3]
    refine tk (i := 4) (v := ?vD3n64) rfl ?hyD3n64 ?restD3n64
    case hyD3n64 => (intro w hSw; (try dsimp only at hSw); go_simp <;> with_reducible rfl)
    try simp only [Act.put, pt1, pt2, pt3]
    refine tk (i := 5) (v := ?vD3n65) rfl ?hyD3n65 ?restD3n65
    case hyD3n65 => (intro w hSw; (try dsimp only at hSw); go_simp <;> with_reducible rfl)
    try simp only [Act.put, pt1, pt2, pt3]
    refine tk (i := 6) (v := ?vD3n66) rfl ?hyD3n66 ?restD3n66
    case hyD3n66 => (intro w hSw; (try dsimp only at hSw); go_simp <;> with_reducible rfl)
    try simp only [Act.put, pt1, pt2, pt3]
    refine tk (i := 7) (v := ?vD3n67) rfl ?hyD3n67 ?restD3n67
    case hyD3n67 => (intro w hSw; (try dsimp only at hSw); go_simp <;> with_reducible rfl)
    try simp only [Act.put, pt1, pt2, pt3]
    refine tk (i := 8) (v := ?vD3n68) rfl ?hyD3n68 ?restD3n68
    case hyD3n68 => (intro w hSw; (try dsimp only at hSw); go_simp <;> with_reducible rfl)
    try simp only [Act.put, pt1, pt2, pt3]
    refine tk (i := 9) (v := ?vD3n69) rfl ?hyD3n69 ?restD3n69
    case hyD3n69 => (intro w hSw; (try dsimp only at hSw); go_simp <;> with_reducible rfl)
    try simp only [Act.put, pt1, pt2, pt3]
    refine tk (i := 10) (v := ?vD3n610) rfl ?hyD3n610 ?restD3n610
    case hyD3n610 => (intro w hSw; (try dsimp only at hSw); go_simp <;> with_reducible rfl)
    try simp only [Act.put, pt1, pt2, pt3]
    refine tk (i := 11) (v := ?vD3n611) rfl ?hyD3n611 ?restD3n611
    case hyD3n611 => (intro w hSw; (try dsimp only at hSw); go_simp <;> with_reducible rfl)
    try simp only [Act.put, pt1, pt2, pt3]
    refine tk (i := 12) (v := ?vD3n612) rfl ?hyD3n612 ?restD3n612
    case hyD3n612 => (intro w hSw; (try dsimp only at hSw); go_simp <;> with_reducible rfl)
    try simp only [Act.put, pt1, pt2, pt3]
    refine tk (i := 13) (v := ?vD3n613) rfl ?hyD3n613 ?restD3n613
    case hyD3n613 => (intro w hSw; (try dsimp only at hSw); go_simp <;> with_reducible rfl)
    try simp only [Act.put, pt1, pt2, pt3]
    refine tk (i := 14) (v := ?vD3n614) rfl ?hyD3n614 ?restD3n614
    case hyD3n614 => (intro w hSw; (try dsimp only at hSw); go_simp <;> with_reducible rfl)
    try simp only [Act.put, pt1, pt2, pt3]
    refine tk (i := 15) (v := ?vD3n615) rfl ?hyD3n615 ?restD3n615
    case hyD3n615 => (intro w hSw; (try dsimp only at hSw); go_simp <;> with_reducible rfl)
    try simp only [Act.put, pt1, pt2, pt3]
    refine tk (i := 16) (v := ?vD3n616) rfl ?hyD3n616 ?restD3n616
    case hyD3n616 => (intro w hSw; (try dsimp only at hSw); go_simp <;> with_reducible rfl)
    try simp only [Act.put, pt1, pt2, pt3]
    refine tk (i := 17) (v := ?vD3n617) rfl ?hyD3n617 ?restD3n617
    case hyD3n617 => (intro w hSw; (try dsimp only at hSw); go_simp <;> with_reducible rfl)
    try simp only [Act.put, pt1, pt2, pt3]
    refine tk (i := 18) (v := ?vD3n618) rfl ?hyD3n618 ?restD3n618
    case hyD3n618 => (intro w hSw; (try dsimp only at hSw); go_simp <;> with_reducible rfl)
    try simp only [Act.put, pt1, pt2, pt3]
    refine tk (i := 19) (v := ?vD3n619) rfl ?hyD3n619 ?restD3n619
    case hyD3n619 => (intro w hSw; (try dsimp only at hSw); go_simp <;> with_reducible rfl)
    try simp only [Act.put, pt1, pt2, pt3]
    refine tku (i := 20) rfl ?_
    try simp only [Act.put, pt1, pt2, pt3]
    refine tku (i := 21) rfl ?_
    try simp only [Act.put, pt1, pt2, pt3]
    refine tku (i := 22) rfl ?_
    try simp only [Act.put, pt1, pt2, pt3]
    refine tk (i := 23) (v := ?vD3n623) rfl ?hyD3n623 ?restD3n623
    case hyD3n623 => (intro w hSw; (try dsimp only at hSw); go_simp <;> with_reducible rfl)
    try simp only [Act.put, pt1, pt2, pt3]
    refine tk (i := 24) (v := ?vD3n624) rfl ?hyD3n624 ?restD3n624
    case hyD3n624 => (intro w hSw; (try dsimp only at hSw); go_simp <;> with_reducible rfl)
    try simp only [Act.put, pt1, pt2, pt3]
    refine tku (i := 25) rfl ?_
    try simp only [Act.put, pt1, pt2, pt3]
    refine tku (i := 26) rfl ?_
    try simp only [Act.put, pt1, pt2, pt3]
    refine tku (i := 27) rfl ?_
    try simp only [Act.put, pt1, pt2, pt3]
    refine tku (i := 28) rfl ?_
    try simp only [Act.put, pt1, pt2, pt3]
    refine tku (i := 29) rfl ?_
    try simp only [Act.put, pt1, pt2, pt3]
    refine tku (i := 30) rfl ?_
    try simp only [Act.put, pt1, pt2, pt3]
    refine tku (i := 31) rfl ?_
    try simp only [Act.put, pt1, pt2, pt3]
    refine tk (i := 32) (v := ?vD3n632) rfl ?hyD3n632 ?restD3n632
    case hyD3n632 => (intro w hSw; (try dsimp only at hSw); go_simp <;> with_reducible rfl)
    try simp only [Act.put, pt1, pt2, pt3]
    refine tk (i := 33) (v := ?vD3n633) rfl ?hyD3n633 ?restD3n633
    case hyD3n633 => (intro w hSw; (try dsimp only at hSw); go_simp <;> with_reducible rfl)
    try simp only [Act.put, pt1, pt2, pt3]
    refine wpAnyH_done (by kernel_rfl) ?_ _
    have HE := Lib.hid (show tombC C v = (12, C) by unfold tombC; rw [TI.out, if_neg (by omega), if_neg (by omega)])
    clear g0 g1 g2 g3
    go_wp2_with fail
    go_ret
    rw [HE.out]
    exact CatPost.same H.out (Nat.le_succ _) (BB2.out.trans below_drew1)
  have d3 : (decide ((v.key.length : Int) ≤ 16) = true) := by simp; omega
  by_cases g4' : 1 ≤ v.gen
  case neg =>
    have d4 : (decide (1 ≤ v.gen) = false) := by simp; omega
    refine wp_region_held_drew (S := (fun w' => w'.cell? ⟨w.heap.size, 1, none⟩ = some (encStr v.key) ∧ w'.cell? ⟨w.heap.size, 2, none⟩ = some (.int .i64 v.gen) ∧ w'.cell? ⟨w.heap.size, 6, none⟩ = some (.int .i64 v.size) ∧ w'.cell? ⟨p, 5, none⟩ = some (.int .i64 C.gen))) (by kernel_rfl) ⟨q1, q2, q6, q5⟩ (fun hHeld => ?_)
    refine tk (i := 0) (v := ?vD4n70) rfl ?hyD4n70 ?restD4n70
    case hyD4n70 => (intro w hSw; (try dsimp only at hSw); go_simp <;> with_reducible rfl)
    try simp only [Act.put, pt1, pt2, pt3]
    refine tk (i := 1) (v := ?vD4n71) rfl ?hyD4n71 ?restD4n71
    case hyD4n71 => (intro w hSw; (try dsimp only at hSw); go_simp <;> with_reducible rfl)
    try simp only [Act.put, pt1, pt2, pt3]
    refine tk (i := 2) (v := ?vD4n72) rfl ?hyD4n72 ?restD4n72
    case hyD4n72 => (intro w hSw; (try dsimp only at hSw); go_simp <;> with_reducible rfl)
    try simp only [Act.put, pt1, pt2, pt3]
    refine tk (i := 3) (v := ?vD4n73) rfl ?hyD4n73 ?restD4n73
    case hyD4n73 => (intro w hSw; (try dsimp only at hSw); go_simp <;> with_reducible rfl)
    try simp only [Act.put, pt1, pt2, pt3]
    refine tk (i := 4) (v := ?vD4n74) rfl ?hyD4n74 ?restD4n74
    case hyD4n74 => (intro w hSw; (try dsimp only at hSw); go_simp <;> with_reducible rfl)
    try simp only [Act.put, pt1, pt2, pt3]
    refine tk (i := 5) (v := ?vD4n75) rfl ?hyD4n75 ?restD4n75
    case hyD4n75 => (intro w hSw; (try dsimp only at hSw); go_simp <;> with_reducible rfl)
    try simp only [Act.put, pt1, pt2, pt3]
    refine tk (i := 6) (v := ?vD4n76) rfl ?hyD4n76 ?restD4n76
    case hyD4n76 => (intro w hSw; (try dsimp only at hSw); go_simp <;> with_reducible rfl)
    try simp only [Act.put, pt1, pt2, pt3]
    refine tk (i := 7) (v := ?vD4n77) rfl ?hyD4n77 ?restD4n77
    case hyD4n77 => (intro w hSw; (try dsimp only at hSw); go_simp <;> with_reducible rfl)
    try simp only [Act.put, pt1, pt2, pt3]
    refine tk (i := 8) (v := ?vD4n78) rfl ?hyD4n78 ?restD4n78
    case hyD4n78 => (intro w hSw; (try dsimp only at hSw); go_simp <;> with_reducible rfl)
    try simp only [Act.put, pt1, pt2, pt3]
    refine tk (i := 9) (v := ?vD4n79) rfl ?hyD4n79 ?restD4n79
    case hyD4n79 => (intro w hSw; (try dsimp only at hSw); go_simp <;> with_reducible rfl)
    try simp only [Act.put, pt1, pt2, pt3]
    refine tk (i := 10) (v := ?vD4n710) rfl ?hyD4n710 ?restD4n710
    case hyD4n710 => (intro w hSw; (try dsimp only at hSw); go_simp <;> with_reducible rfl)
    try simp only [Act.put, pt1, pt2, pt3]
    refine tk (i := 11) (v := ?vD4n711) rfl ?hyD4n711 ?restD4n711
    case hyD4n711 => (intro w hSw; (try dsimp only at hSw); go_simp <;> with_reducible rfl)
    try simp only [Act.put, pt1, pt2, pt3]
    refine tk (i := 12) (v := ?vD4n712) rfl ?hyD4n712 ?restD4n712
    case hyD4n712 => (intro w hSw; (try dsimp only at hSw); go_simp <;> with_reducible rfl)
    try simp only [Act.put, pt1, pt2, pt3]
    refine tk (i := 13) (v := ?vD4n713) rfl ?hyD4n713 ?restD4n713
    case hyD4n713 => (intro w hSw; (try dsimp only at hSw); go_simp <;> with_reducible rfl)
    try simp only [Act.put, pt1, pt2, pt3]
    refine tk (i := 14) (v := ?vD4n714) rfl ?hyD4n714 ?restD4n714
    case hyD4n714 => (intro w hSw; (try dsimp only at hSw); go_simp <;> with_reducible rfl)
    try simp only [Act.put, pt1, pt2, pt3]
    refine tk (i := 15) (v := ?vD4n715) rfl ?hyD4n715 ?restD4n715
    case hyD4n715 => (intro w hSw; (try dsimp only at hSw); go_simp <;> with_reducible rfl)
    try simp only [Act.put, pt1, pt2, pt3]
    refine tk (i := 16) (v := ?vD4n716) rfl ?hyD4n716 ?restD4n716
    case hyD4n716 => (intro w hSw; (try dsimp only at hSw); go_simp <;> with_reducible rfl)
    try simp only [Act.put, pt1, pt2, pt3]
    refine tk (i := 17) (v := ?vD4n717) rfl ?hyD4n717 ?restD4n717
    case hyD4n717 => (intro w hSw; (try dsimp only at hSw); go_simp <;> with_reducible rfl)
    try simp only [Act.put, pt1, pt2, pt3]
    refine tk (i := 18) (v := ?vD4n718) rfl ?hyD4n718 ?restD4n718
    case hyD4n718 => (intro w hSw; (try dsimp only at hSw); go_simp <;> with_reducible rfl)
    try simp only [Act.put, pt1, pt2, pt3]
    refine tk (i := 19) (v := ?vD4n719) rfl ?hyD4n719 ?restD4n719
    case hyD4n719 => (intro w hSw; (try dsimp only at hSw); go_simp <;> with_reducible rfl)
    try simp only [Act.put, pt1, pt2, pt3]
    refine tk (i := 20) (v := ?vD4n720) rfl ?hyD4n720 ?restD4n720
    case hyD4n720 => (intro w hSw; (try dsimp only at hSw); go_simp <;> with_reducible rfl)
    try simp only [Act.put, pt1, pt2, pt3]
    refine tk (i := 21) (v := ?vD4n721) rfl ?hyD4n721 ?restD4n721
    case hyD4n721 => (intro w hSw; (try dsimp only at hSw); go_simp <;> with_reducible rfl)
    try simp only [Act.put, pt1, pt2, pt3]
    refine tk (i := 22) (v := ?vD4n722) rfl ?hyD4n722 ?restD4n722
    case hyD4n722 => (intro w hSw; (try dsimp only at hSw); go_simp <;> with_reducible rfl)
    try simp only [Act.put, pt1, pt2, pt3]
    refine tk (i := 23) (v := ?vD4n723) rfl ?hyD4n723 ?restD4n723
    case hyD4n723 => (intro w hSw; (try dsimp only at hSw); go_simp <;> with_reducible rfl)
    try simp only [Act.put, pt1, pt2, pt3]
    refine tk (i := 24) (v := ?vD4n724) rfl ?hyD4n724 ?restD4n724
    case hyD4n724 => (intro w hSw; (try dsimp only at hSw); go_simp <;> with_reducible rfl)
    try simp only [Act.put, pt1, pt2, pt3]
    refine tku (i := 25) rfl ?_
    try simp only [Act.put, pt1, pt2, pt3]
    refine tku (i := 26) rfl ?_
    try simp only [Act.put, pt1, pt2, pt3]
    refine tku (i := 27) rfl ?_
    try simp only [Act.put, pt1, pt2, pt3]
    refine tku (i := 28) rfl ?_
    try simp only [Act.put, pt1, pt2, pt3]
    refine tku (i := 29) rfl ?_
    try simp only [Act.put, pt1, pt2, pt3]
    refine tku (i := 30) rfl ?_
    try simp only [Act.put, pt1, pt2, pt3]
    refine tku (i := 31) rfl ?_
    try simp only [Act.put, pt1, pt2, pt3]
    refine tk (i := 32) (v := ?vD4n732) rfl ?hyD4n732 ?restD4n732
    case hyD4n732 => (intro w hSw; (try dsimp only at hSw); go_simp <;> with_reducible rfl)
    try simp only [Act.put, pt1, pt2, pt3]
    refine tk (i := 33) (v := ?vD4n733) rfl ?hyD4n733 ?restD4n733
    case hyD4n733 => (intro w hSw; (try dsimp only at hSw); go_simp <;> with_reducible rfl)
    try simp only [Act.put, pt1, pt2, pt3]
    refine wpAnyH_done (by kernel_rfl) ?_ _
    have HE := Lib.hid (show tombC C v = (12, C) by unfold tombC; rw [TI.out, if_neg (by omega), if_neg (by omega)])
    clear g0 g1 g2 g3 g4'
    go_wp2_with fail
    go_ret
    rw [HE.out]
    exact CatPost.same H.out (Nat.le_succ _) (BB2.out.trans below_drew1)
  have d4 : (decide (1 ≤ v.gen) = true) := by simp; omega
  by_cases g5 : v.gen ≤ C.gen
  case neg =>
    have d5 : (decide (v.gen ≤ C.gen) = false) := by simp; omega
    refine wp_region_held_drew (S := (fun w' => w'.cell? ⟨w.heap.size, 1, none⟩ = some (encStr v.key) ∧ w'.cell? ⟨w.heap.size, 2, none⟩ = some (.int .i64 v.gen) ∧ w'.cell? ⟨w.heap.size, 6, none⟩ = some (.int .i64 v.size) ∧ w'.cell? ⟨p, 5, none⟩ = some (.int .i64 C.gen))) (by kernel_rfl) ⟨q1, q2, q6, q5⟩ (fun hHeld => ?_)
    refine tk (i := 0) (v := ?vD5n80) rfl ?hyD5n80 ?restD5n80
    case hyD5n80 => (intro w hSw; (try dsimp only at hSw); go_simp <;> with_reducible rfl)
    try simp only [Act.put, pt1, pt2, pt3]
    refine tk (i := 1) (v := ?vD5n81) rfl ?hyD5n81 ?restD5n81
    case hyD5n81 => (intro w hSw; (try dsimp only at hSw); go_simp <;> with_reducible rfl)
    try simp only [Act.put, pt1, pt2, pt3]
    refine tk (i := 2) (v := ?vD5n82) rfl ?hyD5n82 ?restD5n82
    case hyD5n82 => (intro w hSw; (try dsimp only at hSw); go_simp <;> with_reducible rfl)
    try simp only [Act.put, pt1, pt2, pt3]
    refine tk (i := 3) (v := ?vD5n83) rfl ?hyD5n83 ?restD5n83
    case hyD5n83 => (intro w hSw; (try dsimp only at hSw); go_simp <;> with_reducible rfl)
    try simp only [Act.put, pt1, pt2, pt3]
    refine tk (i := 4) (v := ?vD5n84) rfl ?hyD5n84 ?restD5n84
    case hyD5n84 => (intro w hSw; (try dsimp only at hSw); go_simp <;> with_reducible rfl)
    try simp only [Act.put, pt1, pt2, pt3]
    refine tk (i := 5) (v := ?vD5n85) rfl ?hyD5n85 ?restD5n85
    case hyD5n85 => (intro w hSw; (try dsimp only at hSw); go_simp <;> with_reducible rfl)
    try simp only [Act.put, pt1, pt2, pt3]
    refine tk (i := 6) (v := ?vD5n86) rfl ?hyD5n86 ?restD5n86
    case hyD5n86 => (intro w hSw; (try dsimp only at hSw); go_simp <;> with_reducible rfl)
    try simp only [Act.put, pt1, pt2, pt3]
    refine tk (i := 7) (v := ?vD5n87) rfl ?hyD5n87 ?restD5n87
    case hyD5n87 => (intro w hSw; (try dsimp only at hSw); go_simp <;> with_reducible rfl)
    try simp only [Act.put, pt1, pt2, pt3]
    refine tk (i := 8) (v := ?vD5n88) rfl ?hyD5n88 ?restD5n88
    case hyD5n88 => (intro w hSw; (try dsimp only at hSw); go_simp <;> with_reducible rfl)
    try simp only [Act.put, pt1, pt2, pt3]
    refine tk (i := 9) (v := ?vD5n89) rfl ?hyD5n89 ?restD5n89
    case hyD5n89 => (intro w hSw; (try dsimp only at hSw); go_simp <;> with_reducible rfl)
    try simp only [Act.put, pt1, pt2, pt3]
    refine tk (i := 10) (v := ?vD5n810) rfl ?hyD5n810 ?restD5n810
    case hyD5n810 => (intro w hSw; (try dsimp only at hSw); go_simp <;> with_reducible rfl)
    try simp only [Act.put, pt1, pt2, pt3]
    refine tk (i := 11) (v := ?vD5n811) rfl ?hyD5n811 ?restD5n811
    case hyD5n811 => (intro w hSw; (try dsimp only at hSw); go_simp <;> with_reducible rfl)
    try simp only [Act.put, pt1, pt2, pt3]
    refine tk (i := 12) (v := ?vD5n812) rfl ?hyD5n812 ?restD5n812
    case hyD5n812 => (intro w hSw; (try dsimp only at hSw); go_simp <;> with_reducible rfl)
    try simp only [Act.put, pt1, pt2, pt3]
    refine tk (i := 13) (v := ?vD5n813) rfl ?hyD5n813 ?restD5n813
    case hyD5n813 => (intro w hSw; (try dsimp only at hSw); go_simp <;> with_reducible rfl)
    try simp only [Act.put, pt1, pt2, pt3]
    refine tk (i := 14) (v := ?vD5n814) rfl ?hyD5n814 ?restD5n814
    case hyD5n814 => (intro w hSw; (try dsimp only at hSw); go_simp <;> with_reducible rfl)
    try simp only [Act.put, pt1, pt2, pt3]
    refine tk (i := 15) (v := ?vD5n815) rfl ?hyD5n815 ?restD5n815
    case hyD5n815 => (intro w hSw; (try dsimp only at hSw); go_simp <;> with_reducible rfl)
    try simp only [Act.put, pt1, pt2, pt3]
    refine tk (i := 16) (v := ?vD5n816) rfl ?hyD5n816 ?restD5n816
    case hyD5n816 => (intro w hSw; (try dsimp only at hSw); go_simp <;> with_reducible rfl)
    try simp only [Act.put, pt1, pt2, pt3]
    refine tk (i := 17) (v := ?vD5n817) rfl ?hyD5n817 ?restD5n817
    case hyD5n817 => (intro w hSw; (try dsimp only at hSw); go_simp <;> with_reducible rfl)
    try simp only [Act.put, pt1, pt2, pt3]
    refine tk (i := 18) (v := ?vD5n818) rfl ?hyD5n818 ?restD5n818
    case hyD5n818 => (intro w hSw; (try dsimp only at hSw); go_simp <;> with_reducible rfl)
    try simp only [Act.put, pt1, pt2, pt3]
    refine tk (i := 19) (v := ?vD5n819) rfl ?hyD5n819 ?restD5n819
    case hyD5n819 => (intro w hSw; (try dsimp only at hSw); go_simp <;> with_reducible rfl)
    try simp only [Act.put, pt1, pt2, pt3]
    refine tk (i := 20) (v := ?vD5n820) rfl ?hyD5n820 ?restD5n820
    case hyD5n820 => (intro w hSw; (try dsimp only at hSw); go_simp <;> with_reducible rfl)
    try simp only [Act.put, pt1, pt2, pt3]
    refine tk (i := 21) (v := ?vD5n821) rfl ?hyD5n821 ?restD5n821
    case hyD5n821 => (intro w hSw; (try dsimp only at hSw); go_simp <;> with_reducible rfl)
    try simp only [Act.put, pt1, pt2, pt3]
    refine tk (i := 22) (v := ?vD5n822) rfl ?hyD5n822 ?restD5n822
    case hyD5n822 => (intro w hSw; (try dsimp only at hSw); go_simp <;> with_reducible rfl)
    try simp only [Act.put, pt1, pt2, pt3]
    refine tk (i := 23) (v := ?vD5n823) rfl ?hyD5n823 ?restD5n823
    case hyD5n823 => (intro w hSw; (try dsimp only at hSw); go_simp <;> with_reducible rfl)
    try simp only [Act.put, pt1, pt2, pt3]
    refine tk (i := 24) (v := ?vD5n824) rfl ?hyD5n824 ?restD5n824
    case hyD5n824 => (intro w hSw; (try dsimp only at hSw); go_simp <;> with_reducible rfl)
    try simp only [Act.put, pt1, pt2, pt3]
    refine tk (i := 25) (v := ?vD5n825) rfl ?hyD5n825 ?restD5n825
    case hyD5n825 => (intro w hSw; (try dsimp only at hSw); go_simp <;> with_reducible rfl)
    try simp only [Act.put, pt1, pt2, pt3]
    refine tk (i := 26) (v := ?vD5n826) rfl ?hyD5n826 ?restD5n826
    case hyD5n826 => (intro w hSw; (try dsimp only at hSw); go_simp <;> with_reducible rfl)
    try simp only [Act.put, pt1, pt2, pt3]
    refine tk (i := 27) (v := ?vD5n827) rfl ?hyD5n827 ?restD5n827
    case hyD5n827 => (intro w hSw; (try dsimp only at hSw); go_simp <;> with_reducible rfl)
    try simp only [Act.put, pt1, pt2, pt3]
    refine tk (i := 28) (v := ?vD5n828) rfl ?hyD5n828 ?restD5n828
    case hyD5n828 => (intro w hSw; (try dsimp only at hSw); go_simp <;> with_reducible rfl)
    try simp only [Act.put, pt1, pt2, pt3]
    refine tk (i := 29) (v := ?vD5n829) rfl ?hyD5n829 ?restD5n829
    case hyD5n829 => (intro w hSw; (try dsimp only at hSw); go_simp <;> with_reducible rfl)
    try simp only [Act.put, pt1, pt2, pt3]
    refine tk (i := 30) (v := ?vD5n830) rfl ?hyD5n830 ?restD5n830
    case hyD5n830 => (intro w hSw; (try dsimp only at hSw); go_simp <;> with_reducible rfl)
    try simp only [Act.put, pt1, pt2, pt3]
    refine tk (i := 31) (v := ?vD5n831) rfl ?hyD5n831 ?restD5n831
    case hyD5n831 => (intro w hSw; (try dsimp only at hSw); go_simp <;> with_reducible rfl)
    try simp only [Act.put, pt1, pt2, pt3]
    refine tk (i := 32) (v := ?vD5n832) rfl ?hyD5n832 ?restD5n832
    case hyD5n832 => (intro w hSw; (try dsimp only at hSw); go_simp <;> with_reducible rfl)
    try simp only [Act.put, pt1, pt2, pt3]
    refine tk (i := 33) (v := ?vD5n833) rfl ?hyD5n833 ?restD5n833
    case hyD5n833 => (intro w hSw; (try dsimp only at hSw); go_simp <;> with_reducible rfl)
    try simp only [Act.put, pt1, pt2, pt3]
    refine wpAnyH_done (by kernel_rfl) ?_ _
    have HE := Lib.hid (show tombC C v = (12, C) by unfold tombC; rw [TI.out, if_neg (by omega), if_neg (by omega)])
    clear g0 g1 g2 g3 g4' g5
    go_wp2_with fail
    go_ret
    rw [HE.out]
    exact CatPost.same H.out (Nat.le_succ _) (BB2.out.trans below_drew1)
  have d5 : (decide (v.gen ≤ C.gen) = true) := by simp; omega
  have HE := Lib.hid (show tombC C v = (0, { C with tombs := C.tombs ++ [(v.key, v.gen)] }) by unfold tombC; rw [TI.out, if_pos ⟨g0, g1, g2, g3, g4', g5⟩])
  refine wp_region_held_drew (S := (fun w' => w'.cell? ⟨w.heap.size, 1, none⟩ = some (encStr v.key) ∧ w'.cell? ⟨w.heap.size, 2, none⟩ = some (.int .i64 v.gen) ∧ w'.cell? ⟨w.heap.size, 6, none⟩ = some (.int .i64 v.size) ∧ w'.cell? ⟨p, 5, none⟩ = some (.int .i64 C.gen))) (by kernel_rfl) ⟨q1, q2, q6, q5⟩ (fun hHeld => ?_)
  refine tk (i := 0) (v := ?vEn90) rfl ?hyEn90 ?restEn90
  case hyEn90 => (intro w hSw; (try dsimp only at hSw); go_simp <;> with_reducible rfl)
  try simp only [Act.put, pt1, pt2, pt3]
  refine tk (i := 1) (v := ?vEn91) rfl ?hyEn91 ?restEn91
  case hyEn91 => (intro w hSw; (try dsimp only at hSw); go_simp <;> with_reducible rfl)
  try simp only [Act.put, pt1, pt2, pt3]
  refine tk (i := 2) (v := ?vEn92) rfl ?hyEn92 ?restEn92
  case hyEn92 => (intro w hSw; (try dsimp only at hSw); go_simp <;> with_reducible rfl)
  try simp only [Act.put, pt1, pt2, pt3]
  refine tk (i := 3) (v := ?vEn93) rfl ?hyEn93 ?restEn93
  case hyEn93 => (intro w hSw; (try dsimp only at hSw); go_simp <;> with_reducible rfl)
  try simp only [Act.put, pt1, pt2, pt3]
  refine tk (i := 4) (v := ?vEn94) rfl ?hyEn94 ?restEn94
  case hyEn94 => (intro w hSw; (try dsimp only at hSw); go_simp <;> with_reducible rfl)
  try simp only [Act.put, pt1, pt2, pt3]
  refine tk (i := 5) (v := ?vEn95) rfl ?hyEn95 ?restEn95
  case hyEn95 => (intro w hSw; (try dsimp only at hSw); go_simp <;> with_reducible rfl)
  try simp only [Act.put, pt1, pt2, pt3]
  refine tk (i := 6) (v := ?vEn96) rfl ?hyEn96 ?restEn96
  case hyEn96 => (intro w hSw; (try dsimp only at hSw); go_simp <;> with_reducible rfl)
  try simp only [Act.put, pt1, pt2, pt3]
  refine tk (i := 7) (v := ?vEn97) rfl ?hyEn97 ?restEn97
  case hyEn97 => (intro w hSw; (try dsimp only at hSw); go_simp <;> with_reducible rfl)
  try simp only [Act.put, pt1, pt2, pt3]
  refine tk (i := 8) (v := ?vEn98) rfl ?hyEn98 ?restEn98
  case hyEn98 => (intro w hSw; (try dsimp only at hSw); go_simp <;> with_reducible rfl)
  try simp only [Act.put, pt1, pt2, pt3]
  refine tk (i := 9) (v := ?vEn99) rfl ?hyEn99 ?restEn99
  case hyEn99 => (intro w hSw; (try dsimp only at hSw); go_simp <;> with_reducible rfl)
  try simp only [Act.put, pt1, pt2, pt3]
  refine tk (i := 10) (v := ?vEn910) rfl ?hyEn910 ?restEn910
  case hyEn910 => (intro w hSw; (try dsimp only at hSw); go_simp <;> with_reducible rfl)
  try simp only [Act.put, pt1, pt2, pt3]
  refine tk (i := 11) (v := ?vEn911) rfl ?hyEn911 ?restEn911
  case hyEn911 => (intro w hSw; (try dsimp only at hSw); go_simp <;> with_reducible rfl)
  try simp only [Act.put, pt1, pt2, pt3]
  refine tk (i := 12) (v := ?vEn912) rfl ?hyEn912 ?restEn912
  case hyEn912 => (intro w hSw; (try dsimp only at hSw); go_simp <;> with_reducible rfl)
  try simp only [Act.put, pt1, pt2, pt3]
  refine tk (i := 13) (v := ?vEn913) rfl ?hyEn913 ?restEn913
  case hyEn913 => (intro w hSw; (try dsimp only at hSw); go_simp <;> with_reducible rfl)
  try simp only [Act.put, pt1, pt2, pt3]
  refine tk (i := 14) (v := ?vEn914) rfl ?hyEn914 ?restEn914
  case hyEn914 => (intro w hSw; (try dsimp only at hSw); go_simp <;> with_reducible rfl)
  try simp only [Act.put, pt1, pt2, pt3]
  refine tk (i := 15) (v := ?vEn915) rfl ?hyEn915 ?restEn915
  case hyEn915 => (intro w hSw; (try dsimp only at hSw); go_simp <;> with_reducible rfl)
  try simp only [Act.put, pt1, pt2, pt3]
  refine tk (i := 16) (v := ?vEn916) rfl ?hyEn916 ?restEn916
  case hyEn916 => (intro w hSw; (try dsimp only at hSw); go_simp <;> with_reducible rfl)
  try simp only [Act.put, pt1, pt2, pt3]
  refine tk (i := 17) (v := ?vEn917) rfl ?hyEn917 ?restEn917
  case hyEn917 => (intro w hSw; (try dsimp only at hSw); go_simp <;> with_reducible rfl)
  try simp only [Act.put, pt1, pt2, pt3]
  refine tk (i := 18) (v := ?vEn918) rfl ?hyEn918 ?restEn918
  case hyEn918 => (intro w hSw; (try dsimp only at hSw); go_simp <;> with_reducible rfl)
  try simp only [Act.put, pt1, pt2, pt3]
  refine tk (i := 19) (v := ?vEn919) rfl ?hyEn919 ?restEn919
  case hyEn919 => (intro w hSw; (try dsimp only at hSw); go_simp <;> with_reducible rfl)
  try simp only [Act.put, pt1, pt2, pt3]
  refine tk (i := 20) (v := ?vEn920) rfl ?hyEn920 ?restEn920
  case hyEn920 => (intro w hSw; (try dsimp only at hSw); go_simp <;> with_reducible rfl)
  try simp only [Act.put, pt1, pt2, pt3]
  refine tk (i := 21) (v := ?vEn921) rfl ?hyEn921 ?restEn921
  case hyEn921 => (intro w hSw; (try dsimp only at hSw); go_simp <;> with_reducible rfl)
  try simp only [Act.put, pt1, pt2, pt3]
  refine tk (i := 22) (v := ?vEn922) rfl ?hyEn922 ?restEn922
  case hyEn922 => (intro w hSw; (try dsimp only at hSw); go_simp <;> with_reducible rfl)
  try simp only [Act.put, pt1, pt2, pt3]
  refine tk (i := 23) (v := ?vEn923) rfl ?hyEn923 ?restEn923
  case hyEn923 => (intro w hSw; (try dsimp only at hSw); go_simp <;> with_reducible rfl)
  try simp only [Act.put, pt1, pt2, pt3]
  refine tk (i := 24) (v := ?vEn924) rfl ?hyEn924 ?restEn924
  case hyEn924 => (intro w hSw; (try dsimp only at hSw); go_simp <;> with_reducible rfl)
  try simp only [Act.put, pt1, pt2, pt3]
  refine tk (i := 25) (v := ?vEn925) rfl ?hyEn925 ?restEn925
  case hyEn925 => (intro w hSw; (try dsimp only at hSw); go_simp <;> with_reducible rfl)
  try simp only [Act.put, pt1, pt2, pt3]
  refine tk (i := 26) (v := ?vEn926) rfl ?hyEn926 ?restEn926
  case hyEn926 => (intro w hSw; (try dsimp only at hSw); go_simp <;> with_reducible rfl)
  try simp only [Act.put, pt1, pt2, pt3]
  refine tk (i := 27) (v := ?vEn927) rfl ?hyEn927 ?restEn927
  case hyEn927 => (intro w hSw; (try dsimp only at hSw); go_simp <;> with_reducible rfl)
  try simp only [Act.put, pt1, pt2, pt3]
  refine tk (i := 28) (v := ?vEn928) rfl ?hyEn928 ?restEn928
  case hyEn928 => (intro w hSw; (try dsimp only at hSw); go_simp <;> with_reducible rfl)
  try simp only [Act.put, pt1, pt2, pt3]
  refine tk (i := 29) (v := ?vEn929) rfl ?hyEn929 ?restEn929
  case hyEn929 => (intro w hSw; (try dsimp only at hSw); go_simp <;> with_reducible rfl)
  try simp only [Act.put, pt1, pt2, pt3]
  refine tk (i := 30) (v := ?vEn930) rfl ?hyEn930 ?restEn930
  case hyEn930 => (intro w hSw; (try dsimp only at hSw); go_simp <;> with_reducible rfl)
  try simp only [Act.put, pt1, pt2, pt3]
  refine tk (i := 31) (v := ?vEn931) rfl ?hyEn931 ?restEn931
  case hyEn931 => (intro w hSw; (try dsimp only at hSw); go_simp <;> with_reducible rfl)
  try simp only [Act.put, pt1, pt2, pt3]
  refine tk (i := 32) (v := ?vEn932) rfl ?hyEn932 ?restEn932
  case hyEn932 => (intro w hSw; (try dsimp only at hSw); go_simp <;> with_reducible rfl)
  try simp only [Act.put, pt1, pt2, pt3]
  refine tk (i := 33) (v := ?vEn933) rfl ?hyEn933 ?restEn933
  case hyEn933 => (intro w hSw; (try dsimp only at hSw); go_simp <;> with_reducible rfl)
  try simp only [Act.put, pt1, pt2, pt3]
  refine wpAnyH_done (by kernel_rfl) ?_ _
  go_wp2_with fail
  obtain ⟨w3, hw3⟩ : ∃ w3, w3 = w2.drew := ⟨_, rfl⟩
  have R3 := Lib.hid (show CatR F w3 p N C sv (.slice B0 n0 c0) SR ER be bb br by rw [hw3]; exact R2.out.keep (Nat.le_refl _) (fun _ _ _ => rfl))
  have BB3 := Lib.hid (show Below w.heap.size w w3 by rw [hw3]; exact BB2.out.trans below_drew1)
  have BN3 := Lib.hid (show Blk w3 w.heap.size 32 (noteCells v D dn dc Q qn qc) by rw [hw3]; exact BN2.out)
  rw [← hw3]
  have W3 := Lib.hid hw3
  clear q1 q2 q6 q5 hw3
  have r1 : w3.cell? ⟨w.heap.size, 1, none⟩ = some (encStr v.key) := BN3.out.cell 1
  have r2 : w3.cell? ⟨w.heap.size, 2, none⟩ = some (.int .i64 v.gen) := BN3.out.cell 2
  have kp : w3.cell? ⟨p, 3, none⟩ = some (.slice B0 n0 c0) := R3.out.blk.cell 3
  have hpz : p < w3.heap.size := R3.out.blk.size
  have hnz : w.heap.size < w3.heap.size := BN3.out.size
  have hnp : w.heap.size ≠ p := fun e => by
    have h1 := BN3.out
    rw [e] at h1
    exact blk_ne h1 R3.out.blk (by decide) rfl
  have hst : C.tombs.length ≤ 100000 := by have := R3.out.wf.tombs; omega
  obtain ⟨i0, hi, hz0, hz1, hz2⟩ := info_parts note_info
  have TNE := Lib.hid (show (some w.heap.size : Option Nat) ≠ (Value.slice B0 n0 c0).ownBlock from fun e => by have := TLT.out _ e.symm; omega)
  refine wp_region_held_drew (S := (fun w' => w'.cell? ⟨w.heap.size, 1, none⟩ = some (encStr v.key) ∧ w'.cell? ⟨w.heap.size, 2, none⟩ = some (.int .i64 v.gen))) (by kernel_rfl) ⟨r1, r2⟩ (fun hHeld => ?_)
  refine tk (i := 0) (v := ?vFn100) rfl ?hyFn100 ?restFn100
  case hyFn100 => (intro w hSw; (try dsimp only at hSw); go_simp <;> with_reducible rfl)
  try simp only [Act.put, pt1, pt2, pt3]
  refine tk (i := 1) (v := ?vFn101) rfl ?hyFn101 ?restFn101
  case hyFn101 => (intro w hSw; (try dsimp only at hSw); go_simp <;> with_reducible rfl)
  try simp only [Act.put, pt1, pt2, pt3]
  refine tk (i := 2) (v := ?vFn102) rfl ?hyFn102 ?restFn102
  case hyFn102 => (intro w hSw; (try dsimp only at hSw); go_simp <;> with_reducible rfl)
  try simp only [Act.put, pt1, pt2, pt3]
  refine tk (i := 3) (v := ?vFn103) rfl ?hyFn103 ?restFn103
  case hyFn103 => (intro w hSw; (try dsimp only at hSw); go_simp <;> with_reducible rfl)
  try simp only [Act.put, pt1, pt2, pt3]
  refine tk (i := 5) (v := ?vFn105) rfl ?hyFn105 ?restFn105
  case hyFn105 => (intro w hSw; (try dsimp only at hSw); go_simp <;> with_reducible rfl)
  try simp only [Act.put, pt1, pt2, pt3]
  refine tk (i := 6) (v := ?vFn106) rfl ?hyFn106 ?restFn106
  case hyFn106 => (intro w hSw; (try dsimp only at hSw); go_simp <;> with_reducible rfl)
  try simp only [Act.put, pt1, pt2, pt3]
  refine tk (i := 7) (v := ?vFn107) rfl ?hyFn107 ?restFn107
  case hyFn107 => (intro w hSw; (try dsimp only at hSw); go_simp <;> with_reducible rfl)
  try simp only [Act.put, pt1, pt2, pt3]
  refine tk (i := 8) (v := ?vFn108) rfl ?hyFn108 ?restFn108
  case hyFn108 => (intro w hSw; (try dsimp only at hSw); go_simp <;> with_reducible rfl)
  try simp only [Act.put, pt1, pt2, pt3]
  refine tk (i := 9) (v := ?vFn109) rfl ?hyFn109 ?restFn109
  case hyFn109 => (intro w hSw; (try dsimp only at hSw); go_simp <;> with_reducible rfl)
  try simp only [Act.put, pt1, pt2, pt3]
  refine wpAnyH_ready (rs := [4, 10]) (by kernel_rfl) (by simp) ?_
  refine AllReadyH.cons rfl (fun K hK => ?_) (AllReadyH.cons rfl (fun K hK => ?_) AllReadyH.nil)
  · go_simp
    refine hK.out _ _ hHeld (fun hHeld => ?_)
    clear hK K
    refine wpAnyH_ready (rs := [10]) (by kernel_rfl) (by simp) ?_
    refine AllReadyH.cons rfl (fun K hK => ?_) AllReadyH.nil
    go_simp
    clear hHeld
    refine hK.out _ _ (by (try dsimp only); go_keep) (fun hHeld => ?_)
    clear hK K
    refine wpAnyH_ready (rs := [11]) (by kernel_rfl) (by simp) ?_
    refine AllReadyH.cons rfl (fun K hK => ?_) AllReadyH.nil
    refine step_append_form _ rfl (.tmp 50) (.tmp 56) 22 rfl 0 32 i0 _ 8 112 Tryz.underlying22 hi hz0 hz1 hz2 rfl (by omega) _ C.tombs.length (tombVals C.tombs) rfl (by exact own_of_eq R3.out.tmb.1 (fun q hq => Below.heap_alloc _ _ q (R3.out.tmb.1.lt q hq).2)) (some ⟨w3.heap.size, 0, none⟩) 1 1 [.int .i64 6, encStr v.key, .int .i64 v.gen, .int .i64 0, .slice none 0 0, encStr [], .int .i64 1, .slice none 0 0] rfl rfl (fun e => by cases e) (by exact src_new _ _ _ _) (by intro u hu; simp only [List.mem_cons, List.not_mem_nil, or_false] at hu; rcases hu with rfl | rfl | rfl | rfl | rfl | rfl | rfl | rfl <;> rfl) (by omega) (by simp only [maxLen]; omega) (by omega) (Nat.zero_le _) ?_; intro g4 cap4 w4 hown4 hgr4 hat4 hlt4; have BP4 := Lib.hid (Blk.grown (w := w3.drew.alloc (.cells #[.int .i64 6, encStr v.key, .int .i64 v.gen, .int .i64 0, .slice none 0 0, encStr [], .int .i64 1, .slice none 0 0] 32)) (Blk.alloc (w := w3.drew) R3.out.blk (.cells #[.int .i64 6, encStr v.key, .int .i64 v.gen, .int .i64 0, .slice none 0 0, encStr [], .int .i64 1, .slice none 0 0] 32)) hgr4 (fun e => (R3.out.tmb_ne e).1 rfl)); have BN4 := Lib.hid (Blk.grown (w := w3.drew.alloc (.cells #[.int .i64 6, encStr v.key, .int .i64 v.gen, .int .i64 0, .slice none 0 0, encStr [], .int .i64 1, .slice none 0 0] 32)) (Blk.alloc (w := w3.drew) BN3.out (.cells #[.int .i64 6, encStr v.key, .int .i64 v.gen, .int .i64 0, .slice none 0 0, encStr [], .int .i64 1, .slice none 0 0] 32)) hgr4 (fun e => TNE.out e.symm)); have s1 : w4.cell? ⟨w.heap.size, 1, none⟩ = some (encStr v.key) := BN4.out.cell 1; have s2 : w4.cell? ⟨w.heap.size, 2, none⟩ = some (.int .i64 v.gen) := BN4.out.cell 2; have kp4 : w4.cell? ⟨p, 3, none⟩ = some (.slice B0 n0 c0) := BP4.out.cell 3; have f4 : w4.frozen? ⟨p, 3, none⟩ = false := BP4.out.free 3; have HO4 := Lib.hid hown4; have HG4 := Lib.hid hgr4; clear hown4 hgr4
    clear hHeld
    refine hK.out _ _ ⟨s1, s2⟩ (fun hHeld => ?_)
    clear hK K
    refine tk (i := 12) (v := ?vFn10b412) rfl ?hyFn10b412 ?restFn10b412
    case hyFn10b412 => (intro w hSw; (try dsimp only at hSw); go_simp <;> with_reducible rfl)
    refine tk (i := 13) (v := ?vFn10b413) rfl ?hyFn10b413 ?restFn10b413
    case hyFn10b413 => (intro w hSw; (try dsimp only at hSw); go_simp <;> with_reducible rfl)
    refine wpAnyH_ready (rs := [14]) (by kernel_rfl) (by simp) ?_
    refine AllReadyH.cons rfl (fun K hK => ?_) AllReadyH.nil
    go_simp
    clear hHeld
    refine hK.out _ _ ⟨(World.cell?_setCell_far _ _ _ _ (fun e => hnp e.symm)).trans s1, (World.cell?_setCell_far _ _ _ _ (fun e => hnp e.symm)).trans s2⟩ (fun hHeld => ?_)
    clear hK K
    refine wpAnyH_done (by kernel_rfl) ?_ _
    go_wp2_with fail
    go_ret
    rw [HE.out]
    exact tomb_fin R3.out BB3.out HO4.out HG4.out hat4 BP4.out (tomb_add_wf R3.out.wf ⟨g2, g3⟩ ⟨g4', g5⟩)
  · go_simp
    clear hHeld
    refine hK.out _ _ (by (try dsimp only); go_keep) (fun hHeld => ?_)
    clear hK K
    refine wpAnyH_ready (rs := [4]) (by kernel_rfl) (by simp) ?_
    refine AllReadyH.cons rfl (fun K hK => ?_) AllReadyH.nil
    go_simp
    refine hK.out _ _ hHeld (fun hHeld => ?_)
    clear hK K
    refine wpAnyH_ready (rs := [11]) (by kernel_rfl) (by simp) ?_
    refine AllReadyH.cons rfl (fun K hK => ?_) AllReadyH.nil
    refine step_append_form _ rfl (.tmp 50) (.tmp 56) 22 rfl 0 32 i0 _ 8 112 Tryz.underlying22 hi hz0 hz1 hz2 rfl (by omega) _ C.tombs.length (tombVals C.tombs) rfl (by exact own_of_eq R3.out.tmb.1 (fun q hq => Below.heap_alloc _ _ q (R3.out.tmb.1.lt q hq).2)) (some ⟨w3.heap.size, 0, none⟩) 1 1 [.int .i64 6, encStr v.key, .int .i64 v.gen, .int .i64 0, .slice none 0 0, encStr [], .int .i64 1, .slice none 0 0] rfl rfl (fun e => by cases e) (by exact src_new _ _ _ _) (by intro u hu; simp only [List.mem_cons, List.not_mem_nil, or_false] at hu; rcases hu with rfl | rfl | rfl | rfl | rfl | rfl | rfl | rfl <;> rfl) (by omega) (by simp only [maxLen]; omega) (by omega) (Nat.zero_le _) ?_; intro g4 cap4 w4 hown4 hgr4 hat4 hlt4; have BP4 := Lib.hid (Blk.grown (w := w3.drew.alloc (.cells #[.int .i64 6, encStr v.key, .int .i64 v.gen, .int .i64 0, .slice none 0 0, encStr [], .int .i64 1, .slice none 0 0] 32)) (Blk.alloc (w := w3.drew) R3.out.blk (.cells #[.int .i64 6, encStr v.key, .int .i64 v.gen, .int .i64 0, .slice none 0 0, encStr [], .int .i64 1, .slice none 0 0] 32)) hgr4 (fun e => (R3.out.tmb_ne e).1 rfl)); have BN4 := Lib.hid (Blk.grown (w := w3.drew.alloc (.cells #[.int .i64 6, encStr v.key, .int .i64 v.gen, .int .i64 0, .slice none 0 0, encStr [], .int .i64 1, .slice none 0 0] 32)) (Blk.alloc (w := w3.drew) BN3.out (.cells #[.int .i64 6, encStr v.key, .int .i64 v.gen, .int .i64 0, .slice none 0 0, encStr [], .int .i64 1, .slice none 0 0] 32)) hgr4 (fun e => TNE.out e.symm)); have s1 : w4.cell? ⟨w.heap.size, 1, none⟩ = some (encStr v.key) := BN4.out.cell 1; have s2 : w4.cell? ⟨w.heap.size, 2, none⟩ = some (.int .i64 v.gen) := BN4.out.cell 2; have kp4 : w4.cell? ⟨p, 3, none⟩ = some (.slice B0 n0 c0) := BP4.out.cell 3; have f4 : w4.frozen? ⟨p, 3, none⟩ = false := BP4.out.free 3; have HO4 := Lib.hid hown4; have HG4 := Lib.hid hgr4; clear hown4 hgr4
    clear hHeld
    refine hK.out _ _ ⟨s1, s2⟩ (fun hHeld => ?_)
    clear hK K
    refine tk (i := 12) (v := ?vFn10b1012) rfl ?hyFn10b1012 ?restFn10b1012
    case hyFn10b1012 => (intro w hSw; (try dsimp only at hSw); go_simp <;> with_reducible rfl)
    refine tk (i := 13) (v := ?vFn10b1013) rfl ?hyFn10b1013 ?restFn10b1013
    case hyFn10b1013 => (intro w hSw; (try dsimp only at hSw); go_simp <;> with_reducible rfl)
    refine wpAnyH_ready (rs := [14]) (by kernel_rfl) (by simp) ?_
    refine AllReadyH.cons rfl (fun K hK => ?_) AllReadyH.nil
    go_simp
    clear hHeld
    refine hK.out _ _ ⟨(World.cell?_setCell_far _ _ _ _ (fun e => hnp e.symm)).trans s1, (World.cell?_setCell_far _ _ _ _ (fun e => hnp e.symm)).trans s2⟩ (fun hHeld => ?_)
    clear hK K
    refine wpAnyH_done (by kernel_rfl) ?_ _
    go_wp2_with fail
    go_ret
    rw [HE.out]
    exact tomb_fin R3.out BB3.out HO4.out HG4.out hat4 BP4.out (tomb_add_wf R3.out.wf ⟨g2, g3⟩ ⟨g4', g5⟩)
end
end Go.Proofs.YtmkccblcmiflfaaGreat
