/- The document's comparison of two rows of notes. No condition beyond those that each theorem states. -/
import Derived.Test.YtmkccblcmiflfaaKC24
import Derived.Test.YtmkccblcmiflfaaKC25
namespace Go.Proofs.Ytmkccblcmiflfaa
open Go.RowKit Go.Maps Go.WideMaps

/-- A row of notes that is read. -/
structure NotesRd (w : World) (A : Option Addr) (n : Nat) (NP : List NoteP) : Prop where
  len : NP.length = n
  row : SrcAt w A n (notePVals NP)
  ok : ∀ r ∈ NP, NoteRd w r.v r.D r.v.data.length r.Q r.v.places.length
  max : n ≤ maxLen
theorem NotesRd.below {w w' : World} {A : Option Addr} {n : Nat} {NP : List NoteP} (h : NotesRd w A n NP) (hb : Below w.heap.size w w') : NotesRd w' A n NP := ⟨h.len, h.row.below hb, fun r hr => (h.ok r hr).below hb, h.max⟩
theorem notePVals_get {L : List NoteP} {j : Nat} {x : NoteP} (h : L[j]? = some x) (t : Nat) (ht : t < 8) : (notePVals L)[j * 8 + t]? = x.cells[t]? := by
  induction L generalizing j with
  | nil => simp at h
  | cons y L ih =>
    have hc : notePVals (y :: L) = y.cells ++ notePVals L := rfl
    rw [hc]
    cases j with
    | zero =>
      obtain rfl : y = x := by simpa using h
      rw [List.getElem?_append_left (by show 0 * 8 + t < 8; omega)]
      congr 1
      omega
    | succ j =>
      rw [List.getElem?_append_right (by show 8 ≤ _; omega), show (j + 1) * 8 + t - y.cells.length = j * 8 + t by show (j + 1) * 8 + t - 8 = _; omega]
      exact ih (by simpa using h)
theorem note_cel {w : World} {b off : Nat} {NP : List NoteP} {j : Nat} {r : NoteP} (hc : ∀ j u, (notePVals NP)[j]? = some u → w.cell? ⟨b, off + j, none⟩ = some u) (hr : NP[j]? = some r) (t : Nat) (ht : t < 8) {u : Value} (hu : r.cells[t]? = some u) : w.cell? ⟨b, off + j * 8 + t, none⟩ = some u := by
  rw [Nat.add_assoc]
  exact hc _ _ (by rw [notePVals_get hr t ht, hu])
section
set_option maxHeartbeats 4000000
set_option maxRecDepth 16000
theorem alike12 (A : Option Addr) (n c : Nat) (NP : List NoteP) (A' : Option Addr) (n' c' : Nat) (NP' : List NoteP) (w : World) (h : NotesRd w A n NP) (h' : NotesRd w A' n' NP') :
    Calls Try.prog 11 #[.slice A n c, .slice A' n' c'] w fun e w' => e = .returned (.bool (decide (NP.map (·.v) = NP'.map (·.v)))) ∧ Below w.heap.size w w' := by
  have H := Lib.hid h
  have H' := Lib.hid h'
  have h63 : n ≤ 9223372036854775807 := by have := h.max; simpa [maxLen] using this
  clear h h'
  by_cases hn : n = n'
  case neg =>
    have r := decide_eq_false (fun e : NP.map (·.v) = NP'.map (·.v) => hn (by have h := congrArg List.length e; rw [List.length_map, List.length_map, H.out.len, H'.out.len] at h; exact h))
    have e1 : ((n : Int) != (n' : Int)) = true := by simp; omega
    clear hn
    go_enter Try.func11, Try.ntmps11
    go_wp2_with fail
    go_ret
    exact ⟨ret_b r.symm, Below.refl _ _⟩
  subst hn
  go_enter Try.func11, Try.ntmps11
  go_wp2_with fail
  go_loopw [5] (fun i wx => ∃ j : Nat, i = .int .i64 j ∧ j ≤ n ∧ (NP.map (·.v)).take j = (NP'.map (·.v)).take j ∧ Below w.heap.size w wx) (fun i _ => n - (intOf i).toNat)
  case atStart => exact ⟨0, rfl, Nat.zero_le _, rfl, Below.refl _ _⟩
  case round =>
    obtain ⟨j, rfl, hj, heq, hbl⟩ := hrel
    have hz := hbl.size
    have BL := Lib.hid hbl
    have HEQ := Lib.hid heq
    by_cases hlt : j < n
    · have d1 : decide (j < n) = true := by simpa using hlt
      obtain ⟨r, hr⟩ : ∃ x, NP[j]? = some x := ⟨_, List.getElem?_eq_getElem (by rw [H.out.len]; exact hlt)⟩
      obtain ⟨r', hr'⟩ : ∃ y, NP'[j]? = some y := ⟨_, List.getElem?_eq_getElem (by rw [H'.out.len]; exact hlt)⟩
      obtain ⟨b, off, rfl, hc⟩ : ∃ b off, A = some ⟨b, off, none⟩ ∧ ∀ j u, (notePVals NP)[j]? = some u → wr.cell? ⟨b, off + j, none⟩ = some u := by
        rcases H.out.row.below hbl with ⟨h0, _⟩ | ⟨b, off, h1, h2⟩
        · omega
        · exact ⟨b, off, h1, h2⟩
      obtain ⟨b', off', rfl, hc'⟩ : ∃ b off, A' = some ⟨b, off, none⟩ ∧ ∀ j u, (notePVals NP')[j]? = some u → wr.cell? ⟨b, off + j, none⟩ = some u := by
        rcases H'.out.row.below hbl with ⟨h0, _⟩ | ⟨b, off, h1, h2⟩
        · omega
        · exact ⟨b, off, h1, h2⟩
      have x0 : wr.cell? ⟨b, off + j * 8, none⟩ = some (.int .i64 r.v.kind) := note_cel hc hr 0 (by omega) rfl
      have x1 : wr.cell? ⟨b, off + j * 8 + 1, none⟩ = some (encStr r.v.key) := note_cel hc hr 1 (by omega) rfl
      have x2 : wr.cell? ⟨b, off + j * 8 + 2, none⟩ = some (.int .i64 r.v.gen) := note_cel hc hr 2 (by omega) rfl
      have x3 : wr.cell? ⟨b, off + j * 8 + 3, none⟩ = some (.int .i64 r.v.cart) := note_cel hc hr 3 (by omega) rfl
      have x4 : wr.cell? ⟨b, off + j * 8 + 4, none⟩ = some (.slice r.D r.v.data.length r.dc) := note_cel hc hr 4 (by omega) rfl
      have x5 : wr.cell? ⟨b, off + j * 8 + 5, none⟩ = some (encStr r.v.sum) := note_cel hc hr 5 (by omega) rfl
      have x6 : wr.cell? ⟨b, off + j * 8 + 6, none⟩ = some (.int .i64 r.v.size) := note_cel hc hr 6 (by omega) rfl
      have x7 : wr.cell? ⟨b, off + j * 8 + 7, none⟩ = some (.slice r.Q r.v.places.length r.qc) := note_cel hc hr 7 (by omega) rfl
      have y0 : wr.cell? ⟨b', off' + j * 8, none⟩ = some (.int .i64 r'.v.kind) := note_cel hc' hr' 0 (by omega) rfl
      have y1 : wr.cell? ⟨b', off' + j * 8 + 1, none⟩ = some (encStr r'.v.key) := note_cel hc' hr' 1 (by omega) rfl
      have y2 : wr.cell? ⟨b', off' + j * 8 + 2, none⟩ = some (.int .i64 r'.v.gen) := note_cel hc' hr' 2 (by omega) rfl
      have y3 : wr.cell? ⟨b', off' + j * 8 + 3, none⟩ = some (.int .i64 r'.v.cart) := note_cel hc' hr' 3 (by omega) rfl
      have y4 : wr.cell? ⟨b', off' + j * 8 + 4, none⟩ = some (.slice r'.D r'.v.data.length r'.dc) := note_cel hc' hr' 4 (by omega) rfl
      have y5 : wr.cell? ⟨b', off' + j * 8 + 5, none⟩ = some (encStr r'.v.sum) := note_cel hc' hr' 5 (by omega) rfl
      have y6 : wr.cell? ⟨b', off' + j * 8 + 6, none⟩ = some (.int .i64 r'.v.size) := note_cel hc' hr' 6 (by omega) rfl
      have y7 : wr.cell? ⟨b', off' + j * 8 + 7, none⟩ = some (.slice r'.Q r'.v.places.length r'.qc) := note_cel hc' hr' 7 (by omega) rfl
      have RR := Lib.hid (show NoteRd wr.drew r.v r.D r.v.data.length r.Q r.v.places.length from ((H.out.ok r (List.mem_of_getElem? hr)).below hbl).below ⟨rfl, rfl, rfl, Nat.le_refl _, fun _ _ => rfl⟩)
      have RR' := Lib.hid (show NoteRd wr.drew r'.v r'.D r'.v.data.length r'.Q r'.v.places.length from ((H'.out.ok r' (List.mem_of_getElem? hr')).below hbl).below ⟨rfl, rfl, rfl, Nat.le_refl _, fun _ _ => rfl⟩)
      have HX := Lib.hid hr
      have HY := Lib.hid hr'
      have hlb : b < wr.heap.size := World.block_lt_of_cell? _ _ x0
      have hlb' : b' < wr.heap.size := World.block_lt_of_cell? _ _ y0
      clear hr hr' hbl hc hc' heq
      go_upto_region 6 with fail
      by_cases n1 : r.v = r'.v
      case neg =>
        have f1 : decide (r.v = r'.v) = false := by simpa using n1
        have q := decide_eq_false (fun e : NP.map (·.v) = NP'.map (·.v) => n1 (by
          have h1 : (NP.map (·.v))[j]? = some r.v := by rw [List.getElem?_map, HX.out]; rfl
          have h2 : (NP'.map (·.v))[j]? = some r'.v := by rw [List.getElem?_map, HY.out]; rfl
          rw [e, h2] at h1
          injection h1 with h1
          exact h1.symm))
        clear n1
        refine wp_region_held_drew (S := (fun w' => w'.cell? ⟨b, off + j * 8, none⟩ = some (.int .i64 r.v.kind) ∧ w'.cell? ⟨b, off + j * 8 + 1, none⟩ = some (encStr r.v.key) ∧ w'.cell? ⟨b, off + j * 8 + 2, none⟩ = some (.int .i64 r.v.gen) ∧ w'.cell? ⟨b, off + j * 8 + 3, none⟩ = some (.int .i64 r.v.cart) ∧ w'.cell? ⟨b, off + j * 8 + 4, none⟩ = some (.slice r.D r.v.data.length r.dc) ∧ w'.cell? ⟨b, off + j * 8 + 5, none⟩ = some (encStr r.v.sum) ∧ w'.cell? ⟨b, off + j * 8 + 6, none⟩ = some (.int .i64 r.v.size) ∧ w'.cell? ⟨b, off + j * 8 + 7, none⟩ = some (.slice r.Q r.v.places.length r.qc) ∧ w'.cell? ⟨b', off' + j * 8, none⟩ = some (.int .i64 r'.v.kind) ∧ w'.cell? ⟨b', off' + j * 8 + 1, none⟩ = some (encStr r'.v.key) ∧ w'.cell? ⟨b', off' + j * 8 + 2, none⟩ = some (.int .i64 r'.v.gen) ∧ w'.cell? ⟨b', off' + j * 8 + 3, none⟩ = some (.int .i64 r'.v.cart) ∧ w'.cell? ⟨b', off' + j * 8 + 4, none⟩ = some (.slice r'.D r'.v.data.length r'.dc) ∧ w'.cell? ⟨b', off' + j * 8 + 5, none⟩ = some (encStr r'.v.sum) ∧ w'.cell? ⟨b', off' + j * 8 + 6, none⟩ = some (.int .i64 r'.v.size) ∧ w'.cell? ⟨b', off' + j * 8 + 7, none⟩ = some (.slice r'.Q r'.v.places.length r'.qc))) (by kernel_rfl) ⟨x0, x1, x2, x3, x4, x5, x6, x7, y0, y1, y2, y3, y4, y5, y6, y7⟩ (fun hHeld => ?_)
        refine wpAnyH_take (i := 0) (v := ?vAan10) (take_list rfl) (by kernel_rfl) (by kernel_rfl) (by kernel_rfl) (fun _ _ _ h => h) (Or.inl ⟨by rfl, ?hyAan10⟩) (by assumption) ?restAan10
        case hyAan10 => (intro w hSw; (try dsimp only at hSw); go_simp <;> with_reducible rfl)
        try simp only [Act.put, List.setIfInBounds_toArray, List.set_cons_zero, List.set_cons_succ]
        refine wpAnyH_take (i := 1) (v := ?vAan11) (take_list rfl) (by kernel_rfl) (by kernel_rfl) (by kernel_rfl) (fun _ _ _ h => h) (Or.inl ⟨by rfl, ?hyAan11⟩) (by assumption) ?restAan11
        case hyAan11 => (intro w hSw; (try dsimp only at hSw); go_simp <;> with_reducible rfl)
        try simp only [Act.put, List.setIfInBounds_toArray, List.set_cons_zero, List.set_cons_succ]
        refine wpAnyH_take (i := 2) (v := ?vAan12) (take_list rfl) (by kernel_rfl) (by kernel_rfl) (by kernel_rfl) (fun _ _ _ h => h) (Or.inl ⟨by rfl, ?hyAan12⟩) (by assumption) ?restAan12
        case hyAan12 => (intro w hSw; (try dsimp only at hSw); go_simp <;> with_reducible rfl)
        try simp only [Act.put, List.setIfInBounds_toArray, List.set_cons_zero, List.set_cons_succ]
        refine wpAnyH_take (i := 3) (v := ?vAan13) (take_list rfl) (by kernel_rfl) (by kernel_rfl) (by kernel_rfl) (fun _ _ _ h => h) (Or.inl ⟨by rfl, ?hyAan13⟩) (by assumption) ?restAan13
        case hyAan13 => (intro w hSw; (try dsimp only at hSw); go_simp <;> with_reducible rfl)
        try simp only [Act.put, List.setIfInBounds_toArray, List.set_cons_zero, List.set_cons_succ]
        refine wpAnyH_take (i := 4) (v := ?vAan14) (take_list rfl) (by kernel_rfl) (by kernel_rfl) (by kernel_rfl) (fun _ _ _ h => h) (Or.inl ⟨by rfl, ?hyAan14⟩) (by assumption) ?restAan14
        case hyAan14 => (intro w hSw; (try dsimp only at hSw); go_simp <;> with_reducible rfl)
        try simp only [Act.put, List.setIfInBounds_toArray, List.set_cons_zero, List.set_cons_succ]
        refine wpAnyH_take (i := 5) (v := ?vAan15) (take_list rfl) (by kernel_rfl) (by kernel_rfl) (by kernel_rfl) (fun _ _ _ h => h) (Or.inl ⟨by rfl, ?hyAan15⟩) (by assumption) ?restAan15
        case hyAan15 => (intro w hSw; (try dsimp only at hSw); go_simp <;> with_reducible rfl)
        try simp only [Act.put, List.setIfInBounds_toArray, List.set_cons_zero, List.set_cons_succ]
        refine wpAnyH_take (i := 6) (v := ?vAan16) (take_list rfl) (by kernel_rfl) (by kernel_rfl) (by kernel_rfl) (fun _ _ _ h => h) (Or.inl ⟨by rfl, ?hyAan16⟩) (by assumption) ?restAan16
        case hyAan16 => (intro w hSw; (try dsimp only at hSw); go_simp <;> with_reducible rfl)
        try simp only [Act.put, List.setIfInBounds_toArray, List.set_cons_zero, List.set_cons_succ]
        refine wpAnyH_take (i := 7) (v := ?vAan17) (take_list rfl) (by kernel_rfl) (by kernel_rfl) (by kernel_rfl) (fun _ _ _ h => h) (Or.inl ⟨by rfl, ?hyAan17⟩) (by assumption) ?restAan17
        case hyAan17 => (intro w hSw; (try dsimp only at hSw); go_simp <;> with_reducible rfl)
        try simp only [Act.put, List.setIfInBounds_toArray, List.set_cons_zero, List.set_cons_succ]
        refine wpAnyH_ready (rs := [8]) (by kernel_rfl) (by simp) ?_
        refine AllReadyH.cons rfl (fun K hK => ?_) AllReadyH.nil
        go_simp
        go_wp2_with (go_at_call 32; refine (same12 r.v r'.v r.D r.v.data.length r.dc r.Q r.v.places.length r.qc r'.D r'.v.data.length r'.dc r'.Q r'.v.places.length r'.qc _ (by exact RR.out) (by exact RR'.out)).mono ?_; rintro e w3 ⟨rfl, hb3⟩; have B3 := Lib.hid (show Below wr.heap.size wr w3 from ⟨hb3.os, hb3.tape, hb3.output, hb3.size, hb3.block⟩); clear hb3)
        clear hHeld
        refine hK.out _ _ ⟨(B3.out.cell (p := ⟨b, _, none⟩) hlb).trans x0, (B3.out.cell (p := ⟨b, _, none⟩) hlb).trans x1, (B3.out.cell (p := ⟨b, _, none⟩) hlb).trans x2, (B3.out.cell (p := ⟨b, _, none⟩) hlb).trans x3, (B3.out.cell (p := ⟨b, _, none⟩) hlb).trans x4, (B3.out.cell (p := ⟨b, _, none⟩) hlb).trans x5, (B3.out.cell (p := ⟨b, _, none⟩) hlb).trans x6, (B3.out.cell (p := ⟨b, _, none⟩) hlb).trans x7, (B3.out.cell (p := ⟨b', _, none⟩) hlb').trans y0, (B3.out.cell (p := ⟨b', _, none⟩) hlb').trans y1, (B3.out.cell (p := ⟨b', _, none⟩) hlb').trans y2, (B3.out.cell (p := ⟨b', _, none⟩) hlb').trans y3, (B3.out.cell (p := ⟨b', _, none⟩) hlb').trans y4, (B3.out.cell (p := ⟨b', _, none⟩) hlb').trans y5, (B3.out.cell (p := ⟨b', _, none⟩) hlb').trans y6, (B3.out.cell (p := ⟨b', _, none⟩) hlb').trans y7⟩ (fun hHeld => ?_)
        clear hK K
        refine wpAnyH_take (i := 9) (v := ?vAan19) (take_list rfl) (by kernel_rfl) (by kernel_rfl) (by kernel_rfl) (fun _ _ _ h => h) (Or.inl ⟨by rfl, ?hyAan19⟩) (by assumption) ?restAan19
        case hyAan19 => (intro w hSw; (try dsimp only at hSw); go_simp <;> with_reducible rfl)
        try simp only [Act.put, List.setIfInBounds_toArray, List.set_cons_zero, List.set_cons_succ]
        refine wpAnyH_done (by kernel_rfl) ?_ _
        go_wp2_with fail
        go_ret
        exact ⟨ret_b q.symm, BL.out.trans (B3.out.mono hz)⟩
      have f1 : decide (r.v = r'.v) = true := by simpa using n1
      have HE1 := Lib.hid n1
      clear n1
      refine wp_region_held_drew (S := (fun w' => w'.cell? ⟨b, off + j * 8, none⟩ = some (.int .i64 r.v.kind) ∧ w'.cell? ⟨b, off + j * 8 + 1, none⟩ = some (encStr r.v.key) ∧ w'.cell? ⟨b, off + j * 8 + 2, none⟩ = some (.int .i64 r.v.gen) ∧ w'.cell? ⟨b, off + j * 8 + 3, none⟩ = some (.int .i64 r.v.cart) ∧ w'.cell? ⟨b, off + j * 8 + 4, none⟩ = some (.slice r.D r.v.data.length r.dc) ∧ w'.cell? ⟨b, off + j * 8 + 5, none⟩ = some (encStr r.v.sum) ∧ w'.cell? ⟨b, off + j * 8 + 6, none⟩ = some (.int .i64 r.v.size) ∧ w'.cell? ⟨b, off + j * 8 + 7, none⟩ = some (.slice r.Q r.v.places.length r.qc) ∧ w'.cell? ⟨b', off' + j * 8, none⟩ = some (.int .i64 r'.v.kind) ∧ w'.cell? ⟨b', off' + j * 8 + 1, none⟩ = some (encStr r'.v.key) ∧ w'.cell? ⟨b', off' + j * 8 + 2, none⟩ = some (.int .i64 r'.v.gen) ∧ w'.cell? ⟨b', off' + j * 8 + 3, none⟩ = some (.int .i64 r'.v.cart) ∧ w'.cell? ⟨b', off' + j * 8 + 4, none⟩ = some (.slice r'.D r'.v.data.length r'.dc) ∧ w'.cell? ⟨b', off' + j * 8 + 5, none⟩ = some (encStr r'.v.sum) ∧ w'.cell? ⟨b', off' + j * 8 + 6, none⟩ = some (.int .i64 r'.v.size) ∧ w'.cell? ⟨b', off' + j * 8 + 7, none⟩ = some (.slice r'.Q r'.v.places.length r'.qc))) (by kernel_rfl) ⟨x0, x1, x2, x3, x4, x5, x6, x7, y0, y1, y2, y3, y4, y5, y6, y7⟩ (fun hHeld => ?_)
      refine wpAnyH_take (i := 0) (v := ?vAbn20) (take_list rfl) (by kernel_rfl) (by kernel_rfl) (by kernel_rfl) (fun _ _ _ h => h) (Or.inl ⟨by rfl, ?hyAbn20⟩) (by assumption) ?restAbn20
      case hyAbn20 => (intro w hSw; (try dsimp only at hSw); go_simp <;> with_reducible rfl)
      try simp only [Act.put, List.setIfInBounds_toArray, List.set_cons_zero, List.set_cons_succ]
      refine wpAnyH_take (i := 1) (v := ?vAbn21) (take_list rfl) (by kernel_rfl) (by kernel_rfl) (by kernel_rfl) (fun _ _ _ h => h) (Or.inl ⟨by rfl, ?hyAbn21⟩) (by assumption) ?restAbn21
      case hyAbn21 => (intro w hSw; (try dsimp only at hSw); go_simp <;> with_reducible rfl)
      try simp only [Act.put, List.setIfInBounds_toArray, List.set_cons_zero, List.set_cons_succ]
      refine wpAnyH_take (i := 2) (v := ?vAbn22) (take_list rfl) (by kernel_rfl) (by kernel_rfl) (by kernel_rfl) (fun _ _ _ h => h) (Or.inl ⟨by rfl, ?hyAbn22⟩) (by assumption) ?restAbn22
      case hyAbn22 => (intro w hSw; (try dsimp only at hSw); go_simp <;> with_reducible rfl)
      try simp only [Act.put, List.setIfInBounds_toArray, List.set_cons_zero, List.set_cons_succ]
      refine wpAnyH_take (i := 3) (v := ?vAbn23) (take_list rfl) (by kernel_rfl) (by kernel_rfl) (by kernel_rfl) (fun _ _ _ h => h) (Or.inl ⟨by rfl, ?hyAbn23⟩) (by assumption) ?restAbn23
      case hyAbn23 => (intro w hSw; (try dsimp only at hSw); go_simp <;> with_reducible rfl)
      try simp only [Act.put, List.setIfInBounds_toArray, List.set_cons_zero, List.set_cons_succ]
      refine wpAnyH_take (i := 4) (v := ?vAbn24) (take_list rfl) (by kernel_rfl) (by kernel_rfl) (by kernel_rfl) (fun _ _ _ h => h) (Or.inl ⟨by rfl, ?hyAbn24⟩) (by assumption) ?restAbn24
      case hyAbn24 => (intro w hSw; (try dsimp only at hSw); go_simp <;> with_reducible rfl)
      try simp only [Act.put, List.setIfInBounds_toArray, List.set_cons_zero, List.set_cons_succ]
      refine wpAnyH_take (i := 5) (v := ?vAbn25) (take_list rfl) (by kernel_rfl) (by kernel_rfl) (by kernel_rfl) (fun _ _ _ h => h) (Or.inl ⟨by rfl, ?hyAbn25⟩) (by assumption) ?restAbn25
      case hyAbn25 => (intro w hSw; (try dsimp only at hSw); go_simp <;> with_reducible rfl)
      try simp only [Act.put, List.setIfInBounds_toArray, List.set_cons_zero, List.set_cons_succ]
      refine wpAnyH_take (i := 6) (v := ?vAbn26) (take_list rfl) (by kernel_rfl) (by kernel_rfl) (by kernel_rfl) (fun _ _ _ h => h) (Or.inl ⟨by rfl, ?hyAbn26⟩) (by assumption) ?restAbn26
      case hyAbn26 => (intro w hSw; (try dsimp only at hSw); go_simp <;> with_reducible rfl)
      try simp only [Act.put, List.setIfInBounds_toArray, List.set_cons_zero, List.set_cons_succ]
      refine wpAnyH_take (i := 7) (v := ?vAbn27) (take_list rfl) (by kernel_rfl) (by kernel_rfl) (by kernel_rfl) (fun _ _ _ h => h) (Or.inl ⟨by rfl, ?hyAbn27⟩) (by assumption) ?restAbn27
      case hyAbn27 => (intro w hSw; (try dsimp only at hSw); go_simp <;> with_reducible rfl)
      try simp only [Act.put, List.setIfInBounds_toArray, List.set_cons_zero, List.set_cons_succ]
      refine wpAnyH_ready (rs := [8]) (by kernel_rfl) (by simp) ?_
      refine AllReadyH.cons rfl (fun K hK => ?_) AllReadyH.nil
      go_simp
      go_wp2_with (go_at_call 32; refine (same12 r.v r'.v r.D r.v.data.length r.dc r.Q r.v.places.length r.qc r'.D r'.v.data.length r'.dc r'.Q r'.v.places.length r'.qc _ (by exact RR.out) (by exact RR'.out)).mono ?_; rintro e w3 ⟨rfl, hb3⟩; have B3 := Lib.hid (show Below wr.heap.size wr w3 from ⟨hb3.os, hb3.tape, hb3.output, hb3.size, hb3.block⟩); clear hb3)
      clear hHeld
      refine hK.out _ _ ⟨(B3.out.cell (p := ⟨b, _, none⟩) hlb).trans x0, (B3.out.cell (p := ⟨b, _, none⟩) hlb).trans x1, (B3.out.cell (p := ⟨b, _, none⟩) hlb).trans x2, (B3.out.cell (p := ⟨b, _, none⟩) hlb).trans x3, (B3.out.cell (p := ⟨b, _, none⟩) hlb).trans x4, (B3.out.cell (p := ⟨b, _, none⟩) hlb).trans x5, (B3.out.cell (p := ⟨b, _, none⟩) hlb).trans x6, (B3.out.cell (p := ⟨b, _, none⟩) hlb).trans x7, (B3.out.cell (p := ⟨b', _, none⟩) hlb').trans y0, (B3.out.cell (p := ⟨b', _, none⟩) hlb').trans y1, (B3.out.cell (p := ⟨b', _, none⟩) hlb').trans y2, (B3.out.cell (p := ⟨b', _, none⟩) hlb').trans y3, (B3.out.cell (p := ⟨b', _, none⟩) hlb').trans y4, (B3.out.cell (p := ⟨b', _, none⟩) hlb').trans y5, (B3.out.cell (p := ⟨b', _, none⟩) hlb').trans y6, (B3.out.cell (p := ⟨b', _, none⟩) hlb').trans y7⟩ (fun hHeld => ?_)
      clear hK K
      refine wpAnyH_take (i := 9) (v := ?vAbn29) (take_list rfl) (by kernel_rfl) (by kernel_rfl) (by kernel_rfl) (fun _ _ _ h => h) (Or.inl ⟨by rfl, ?hyAbn29⟩) (by assumption) ?restAbn29
      case hyAbn29 => (intro w hSw; (try dsimp only at hSw); go_simp <;> with_reducible rfl)
      try simp only [Act.put, List.setIfInBounds_toArray, List.set_cons_zero, List.set_cons_succ]
      refine wpAnyH_done (by kernel_rfl) ?_ _
      go_wp2_with fail
      go_roundw
      case rel => exact ⟨j + 1, by go_num, hlt, by rw [List.take_add_one, List.take_add_one, List.getElem?_map, List.getElem?_map, HX.out, HY.out, HEQ.out]; simp [HE1.out], BL.out.trans (B3.out.mono hz)⟩
      case measure => simp [intOf]; omega
    · have d1 : decide (j < n) = false := by simpa using hlt
      obtain rfl : j = n := by omega
      have q := decide_eq_true (show NP.map (·.v) = NP'.map (·.v) by
        have h8 := HEQ.out
        rwa [List.take_of_length_le (by rw [List.length_map, H.out.len]; exact Nat.le_refl _), List.take_of_length_le (by rw [List.length_map, H'.out.len]; exact Nat.le_refl _)] at h8)
      go_wp2_with fail
      go_ret
      exact ⟨by first | rfl | exact ret_b q.symm, BL.out⟩
end
end Go.Proofs.Ytmkccblcmiflfaa
