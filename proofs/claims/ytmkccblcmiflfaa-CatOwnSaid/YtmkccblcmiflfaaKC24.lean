/- The notes that a catalog tells. No condition beyond those that each theorem states. -/
import Derived.Test.YtmkccblcmiflfaaKC23
namespace Go.Proofs.Ytmkccblcmiflfaa
open Go.RowKit Go.Maps Go.WideMaps

def putN (q : Str × Str) : NoteV := ⟨1, q.1, 0, 0, q.2, [], 0, []⟩
def genN (q : Str × Int) : NoteV := ⟨4, q.1, q.2, 0, [], [], 0, []⟩
def placedN (q : Str × EntV) : NoteV := ⟨2, q.1, q.2.gen, 0, [], q.2.sum, q.2.size, q.2.places⟩
def tombN (q : Str × Int) : NoteV := ⟨6, q.1, q.2, 0, [], [], 1, []⟩
def retireN (n : Int) : NoteV := ⟨5, [], 0, n, [], [], 0, []⟩
def waiting (C : CV) (q : Str × Int) : Bool := decide (0 ≤ waitsC C q.1)
def lastG (l : List (Str × Int)) : Int := (l.getLast?.map Prod.snd).getD 0
def gensC (C : CV) : List (Str × Int) := C.begun.filter (waiting C)
def notesC (C : CV) : List NoteV :=
  C.staged.map putN ++ (gensC C).map genN ++ (if lastG (gensC C) < C.gen then [genN ([], C.gen)] else []) ++ (entsC C).map placedN ++ C.tombs.map tombN ++ (sortI C.retired).map retireN
theorem NSt.own_lt {w0 w : World} {v : Value} {L : List NoteV} (h : NSt w0 w v L) {g : Nat} (hg : v.ownBlock = some g) : g < w.heap.size := by
  obtain ⟨NP, h1, h2, h3, h4⟩ := h
  exact (h2.lt g hg).2
theorem step_append_n (w0 W : World) {ops : Array Oper} {o : Oper} {a : Act} {K : Act → World → Prop} {Q : Exit → Act → World → Prop} {E : Prop} (hgd : o.guard = none) (s x : Operand)
    (ho : o.op = .call { callee := .builtin .append, args := #[s, x], argTypes := #[22, 22] })
    (v : Value) (L : List NoteV) (hs : a.eval s = v) (hst : NSt w0 W v L)
    (A : Option Addr) (m c : Nat) (NN : List NoteP) (hm : NN.length = m) (hA : A = none → m = 0) (hx : a.eval x = .slice A m c) (hr : SrcAt W A m (notePVals NN)) (hok : ∀ r ∈ NN, NotePOk w0 W r)
    (hL : L.length + m ≤ 1000000)
    (h : ∀ v' w', NSt w0 w' v' (L ++ NN.map (·.v)) → W.heap.size ≤ w'.heap.size → (∀ g, g < W.heap.size → v.ownBlock ≠ some g → w'.heap[g]? = W.heap[g]?) → (v'.ownBlock = v.ownBlock ∨ v'.ownBlock = some W.heap.size) → K (a.put o.dst v') w') :
    if Region.wanted o (yielded ops a.tmps) = true then Oper.wp Try.prog o a W K Q else E := by
  obtain ⟨i0, hi0, hz0, hz1, hz2⟩ := info_parts noteC_info
  obtain ⟨NP, h1, h2, h3, h4⟩ := hst
  refine step_append_src W hgd s x 22 ho w0.heap.size 26 i0 _ 8 112 Try.underlying22 hi0 hz0 hz1 hz2 rfl (by omega) v L.length (notePVals NP) hs h2 A m c (notePVals NN) hx (by rw [notePVals_len, hm]) hA hr (fun u hu => by
    obtain ⟨r, _, hu⟩ := List.mem_flatMap.1 hu
    exact noteP_one r u hu) (by simp only [maxLen]; omega) (by omega) h4.size fun v' w' ho' hg' hat' => ?_
  refine h v' w' ⟨NP ++ NN, by rw [List.map_append, h1], by rw [notePVals_app, List.length_append, List.length_map, hm]; exact ho', fun r hr => ?_, h4.grown hg' h4.size (fun q hq => (h2.lt q hq).1)⟩ hg'.size (fun g hg hne => hg'.block g hg (fun e => hne e.symm)) hat'
  have hk : ∀ g, v.ownBlock = some g → ∃ cs, W.heap[g]? = some (.cells cs 26 (0, 0)) := fun g hg => own_kind h2 g hg
  rcases List.mem_append.1 hr with hr | hr
  · exact (h3 r hr).grown hg' hk
  · exact (hok r hr).grown hg' hk
theorem genVals_get {L : List (Str × Int)} {j : Nat} {x : Str × Int} (h : L[j]? = some x) (t : Nat) (ht : t < 8) : (genVals L)[j * 8 + t]? = (genCells x)[t]? := by
  induction L generalizing j with
  | nil => simp at h
  | cons y L ih =>
    have hc : genVals (y :: L) = genCells y ++ genVals L := rfl
    rw [hc]
    cases j with
    | zero =>
      obtain rfl : y = x := by simpa using h
      rw [List.getElem?_append_left (by show 0 * 8 + t < 8; omega)]
      congr 1
      omega
    | succ j =>
      rw [List.getElem?_append_right (by show 8 ≤ _; omega), show (j + 1) * 8 + t - (genCells y).length = j * 8 + t by show (j + 1) * 8 + t - 8 = _; omega]
      exact ih (by simpa using h)
theorem take_wait {C : CV} {q : Nat} {x : Str × Int} (hx : C.begun[q]? = some x) :
    (waiting C x = true → (C.begun.take (q + 1)).filter (waiting C) = (C.begun.take q).filter (waiting C) ++ [x]) ∧ (waiting C x = false → (C.begun.take (q + 1)).filter (waiting C) = (C.begun.take q).filter (waiting C)) := by
  rw [List.take_add_one, hx, Option.toList_some, List.filter_append]
  exact ⟨fun h => by simp [h], fun h => by simp [h]⟩
theorem lastG_snoc (l : List (Str × Int)) (x : Str × Int) : lastG (l ++ [x]) = x.2 := by simp [lastG]
/-- A row that a loop runs along while notes are collected: it stays. -/
def Stays (w1 : World) (B : Option Addr) (w : World) (v : Value) : Prop := ∀ g, B = some ⟨g, 0, none⟩ → w.heap[g]? = w1.heap[g]? ∧ v.ownBlock ≠ some g ∧ g < w.heap.size
theorem Stays.below {w1 w w' : World} {B : Option Addr} {v : Value} (h : Stays w1 B w v) (hb : Below w.heap.size w w') : Stays w1 B w' v := fun g hg =>
  have ⟨h1, h2, h3⟩ := h g hg
  ⟨(hb.block g h3).trans h1, h2, Nat.lt_of_lt_of_le h3 hb.size⟩
theorem Stays.step {w1 w w' : World} {B : Option Addr} {v v' : Value} (h : Stays w1 B w v) (hz : w.heap.size ≤ w'.heap.size) (hk : ∀ g, g < w.heap.size → v.ownBlock ≠ some g → w'.heap[g]? = w.heap[g]?) (hat : v'.ownBlock = v.ownBlock ∨ v'.ownBlock = some w.heap.size) : Stays w1 B w' v' := fun g hg => by
  obtain ⟨h1, h2, h3⟩ := h g hg
  refine ⟨(hk g h3 h2).trans h1, fun e => ?_, by omega⟩
  rcases hat with hat | hat
  · exact h2 (hat ▸ e)
  · rw [hat] at e
    have := Option.some.inj e
    omega
theorem RowAt.past {w0 W w' : World} {v : Value} {L : List NoteV} {g : Nat} {t : TypeId} {xs : List Value} (h : RowAt W g t xs) (hst : NSt w0 W v L) (hk : ∀ g, g < W.heap.size → v.ownBlock ≠ some g → w'.heap[g]? = W.heap[g]?) (ht : 26 ≠ t) : RowAt w' g t xs :=
  h.of_eq (hk g h.size (fun e => by
    obtain ⟨NP, _, h2, _⟩ := hst
    obtain ⟨cs, hc⟩ := own_kind h2 g e
    obtain ⟨cs', hc', _⟩ := h
    rw [hc] at hc'
    injection hc' with hc'
    injection hc' with _ ht' _
    exact ht ht'))
theorem RowAt.below' {w w' : World} {g : Nat} {t : TypeId} {xs : List Value} (h : RowAt w g t xs) (hb : Below w.heap.size w w') : RowAt w' g t xs := h.of_eq (hb.block g h.size)
theorem EntPOk.past {w0 w1 W w' : World} {v : Value} {L : List NoteV} {r : EntP} (h : EntPOk w1 W r) (hst : NSt w0 W v L) (hk : ∀ g, g < W.heap.size → v.ownBlock ≠ some g → w'.heap[g]? = W.heap[g]?) : EntPOk w1 w' r :=
  h.imp id fun ⟨g, h1, h2, h3⟩ => ⟨g, h1, h2, h3.past hst hk (by decide)⟩
def placedP (r : EntP) : NoteP := ⟨placedN (r.key, r.e), none, 0, r.B, r.e.places.length⟩
theorem placedP_ok {w0 w : World} {r : EntP} (h : EntPOk w0 w r) (hl : r.e.places.length ≤ maxLen) : NotePOk w0 w (placedP r) := ⟨PartAt.nil _ _ _, PartAt.of_out h hl⟩
def tombP (q : Str × Int) : NoteP := ⟨tombN q, none, 0, none, 0⟩
theorem tombP_vals (L : List (Str × Int)) : notePVals (L.map tombP) = tombVals L := by
  induction L with
  | nil => rfl
  | cons x L ih =>
    show (tombP x).cells ++ notePVals (L.map tombP) = _ ++ tombVals L
    rw [ih]
    rfl
theorem MapAt.lenI {z : Value} {w : World} {b N : Nat} {L : List (Int × Value)} (h : MapAt ikey z w b N L) : L.length ≤ N := by
  obtain ⟨D, hown, hperm⟩ := h.permI
  have h1 := hperm.length_eq
  rw [List.length_map] at h1
  have h2 := hown.size_le
  have h3 : (intKeys D).length ≤ Maps.size D := by
    cases D with
    | map es => simp [intKeys, Maps.size]
    | _ => exact Nat.zero_le _
  omega
theorem src_new1' (W : World) (t : TypeId) (cs : Array Value) (g : Nat) (hg : g = W.heap.size) : SrcAt (W.alloc (.cells cs t)) (some ⟨g, 0, none⟩) 1 cs.toList := by
  subst hg
  refine .inr ⟨_, 0, rfl, fun j u hu => ?_⟩
  rw [Nat.zero_add, (Blk.made W t cs).cell]
  simpa using hu
def placedL (PL : List EntP) : List NoteV := PL.map fun r => placedN (r.key, r.e)
theorem placedL_take {PL : List EntP} {q : Nat} {r : EntP} (h : PL[q]? = some r) : placedL (PL.take (q + 1)) = placedL (PL.take q) ++ [placedN (r.key, r.e)] := by
  rw [List.take_add_one, h, Option.toList_some]; unfold placedL; rw [List.map_append]; rfl
theorem retire_take {L : List Int} {q : Nat} {x : Int} (h : L[q]? = some x) : (L.take (q + 1)).map retireN = (L.take q).map retireN ++ [retireN x] := by
  rw [List.take_add_one, h, Option.toList_some, List.map_append]; rfl
section
set_option maxHeartbeats 8000000
set_option maxRecDepth 16000
theorem cNotes_nil (w : World) : Calls Try.prog 7 #[.pointer none] w fun e w' => e = .returned (.slice none 0 0) ∧ w = w' := by
  go_enter Try.func7, Try.ntmps7
  go_wp2
  go_ret
  exact ⟨rfl, rfl⟩
theorem cNotes (F : Nat → Prop) (p N : Nat) (C : CV) (w : World) (h : CatAt F w p N C) (hN : N ≤ 100000) :
    Calls Try.prog 7 #[.pointer (some ⟨p, 0, none⟩)] w fun e w' => ∃ B, e = .returned (.slice B (notesC C).length (notesC C).length) ∧ (∃ c, NSt w w' (.slice B (notesC C).length c) (notesC C)) ∧ Below w.heap.size w w' := by
  have H := Lib.hid h
  obtain ⟨sv, tv, SR, ER, be, bb, br, hr⟩ := h
  have hpz : p < w.heap.size := hr.blk.size
  obtain ⟨SB, sc, rfl, hsc1, hsc2, hSB⟩ := own_form hr.stg.1
  have c0 : w.cell? ⟨p, 0, none⟩ = some (.slice SB C.staged.length sc) := hr.blk.cell 0
  have hsn : C.staged.length ≤ N := hr.wf.staged
  have HR := Lib.hid hr
  have STG := Lib.hid hr.stg
  have hbn : C.begun.length ≤ N := by have := hr.begs.len; simpa [begunVals] using this
  have hsr : SR.length = C.staged.length := by rw [← hr.stgs, List.length_map]
  have HSR := Lib.hid hsr
  clear hr hsr
  generalize hgn : C.staged.length = n at *
  have HNS := Lib.hid hgn
  clear hgn
  go_enter Try.func7, Try.ntmps7
  go_wp2_with fail
  go_loopw [3, 20] (fun v i wx => ∃ j : Nat, i = .int .i64 j ∧ j ≤ n ∧ NSt w wx v ((C.staged.take j).map putN)) (fun _ i _ => n - (intOf i).toNat)
  case atStart => exact ⟨0, rfl, Nat.zero_le _, NSt.start w⟩
  case round =>
    obtain ⟨j, rfl, hj, hst⟩ := hrel
    obtain ⟨wo, rfl⟩ : ∃ wo : World, wo = wr := ⟨_, rfl⟩
    have ST := Lib.hid hst
    have hbl := hst.bel
    have BL := Lib.hid hbl
    have hz := hbl.size
    have hlj : ((C.staged.take j).map putN).length = j := by rw [List.length_map, List.length_take, HNS.out]; omega
    have HLJ := Lib.hid hlj
    have hfm := hst.form
    rw [hlj] at hfm
    obtain ⟨A1, k1, rfl, hn1, hc1, hA1⟩ := hfm
    clear hlj
    by_cases hlt2 : j < n
    · have d1 : decide (j < n) = true := by simpa using hlt2
      obtain ⟨r, hr⟩ : ∃ r, SR[j]? = some r := ⟨_, List.getElem?_eq_getElem (by rw [HSR.out]; exact hlt2)⟩
      obtain ⟨g, rfl⟩ : ∃ g, SB = some ⟨g, 0, none⟩ := by
        rcases hSB with ⟨_, h, _⟩ | h
        · omega
        · exact h
      have hg : g < w.heap.size := (STG.out.1.lt g rfl).2
      have k0 : wo.cell? ⟨g, j * 2, none⟩ = some (encStr r.key) := (hbl.cell (p := ⟨g, j * 2, none⟩) hg).trans (STG.out.row.cell (blobVals_get hr).1)
      have k2 : wo.cell? ⟨g, j * 2 + 1, none⟩ = some (.slice r.A r.n r.c) := (hbl.cell (p := ⟨g, j * 2 + 1, none⟩) hg).trans (STG.out.row.cell (blobVals_get hr).2)
      have hBO : Bys wo 0 r.A r.n r.c r.data := ((OwnRow.owning ..).below (HR.out.blobs r (List.mem_of_getElem? hr)) hbl).1
      have hq : C.staged[j]? = some (r.key, r.data) := by rw [← HR.out.stgs, List.getElem?_map, hr]; rfl
      have hd := (HR.out.wf.keys _ (List.mem_of_getElem? hq)).2.2
      have hdn : r.data.length = r.n := hBO.len
      have hn512 : r.n ≤ 512 := by simp only at hd; omega
      have HDN := Lib.hid hdn
      have HB := Lib.hid hBO
      have HT := Lib.hid (show (C.staged.take (j + 1)).map putN = (C.staged.take j).map putN ++ [putN (r.key, r.data)] by rw [List.take_add_one, hq, Option.toList_some, List.map_append]; rfl)
      clear hst hbl hr hBO hq hd hdn
      go_upto_region 7 with fail
      obtain ⟨wa, hwa⟩ : ∃ wa, wa = wo.alloc (.cells #[encStr r.key, .slice r.A r.n r.c] 61) := ⟨_, rfl⟩
      change Code.wp _ _ _ _ (wo.alloc (.cells #[encStr r.key, .slice r.A r.n r.c] 61))
      rw [← hwa]
      have BNA := Lib.hid (show Blk wa wo.heap.size 61 #[encStr r.key, .slice r.A r.n r.c] by rw [hwa]; exact heap_alloc_new wo _)
      have BA := Lib.hid (show Below wo.heap.size wo wa by rw [hwa]; exact (Below.refl _ _).alloc (Nat.le_refl _) _)
      have hza := BA.out.size
      have hna : wo.heap.size < wa.heap.size := BNA.out.size
      have x0 : wa.cell? ⟨wo.heap.size, 0, none⟩ = some (encStr r.key) := BNA.out.cell 0
      have x1 : wa.cell? ⟨wo.heap.size, 1, none⟩ = some (.slice r.A r.n r.c) := BNA.out.cell 1
      clear hwa k0 k2
      refine wp_region_held_drew (S := (fun w' => w'.cell? ⟨wo.heap.size, 0, none⟩ = some (encStr r.key) ∧ w'.cell? ⟨wo.heap.size, 1, none⟩ = some (.slice r.A r.n r.c))) (by kernel_rfl) ⟨x0, x1⟩ (fun hHeld => ?_)
      refine wpAnyH_take (i := 0) (v := ?vNnn10) (take_list rfl) (by kernel_rfl) (by kernel_rfl) (by kernel_rfl) (fun _ _ _ h => h) (Or.inl ⟨by rfl, ?hyNnn10⟩) (by assumption) ?restNnn10
      case hyNnn10 => (intro w hSw; (try dsimp only at hSw); go_simp <;> with_reducible rfl)
      try simp only [Act.put, List.setIfInBounds_toArray, List.set_cons_zero, List.set_cons_succ]
      refine wpAnyH_take (i := 1) (v := ?vNnn11) (take_list rfl) (by kernel_rfl) (by kernel_rfl) (by kernel_rfl) (fun _ _ _ h => h) (Or.inl ⟨by rfl, ?hyNnn11⟩) (by assumption) ?restNnn11
      case hyNnn11 => (intro w hSw; (try dsimp only at hSw); go_simp <;> with_reducible rfl)
      try simp only [Act.put, List.setIfInBounds_toArray, List.set_cons_zero, List.set_cons_succ]
      refine wpAnyH_take (i := 2) (v := ?vNnn12) (take_list rfl) (by kernel_rfl) (by kernel_rfl) (by kernel_rfl) (fun _ _ _ h => h) (Or.inl ⟨by rfl, ?hyNnn12⟩) (by assumption) ?restNnn12
      case hyNnn12 => (intro w hSw; (try dsimp only at hSw); go_simp <;> with_reducible rfl)
      try simp only [Act.put, List.setIfInBounds_toArray, List.set_cons_zero, List.set_cons_succ]
      refine wpAnyH_take (i := 3) (v := ?vNnn13) (take_list rfl) (by kernel_rfl) (by kernel_rfl) (by kernel_rfl) (fun _ _ _ h => h) (Or.inl ⟨by rfl, ?hyNnn13⟩) (by assumption) ?restNnn13
      case hyNnn13 => (intro w hSw; (try dsimp only at hSw); go_simp <;> with_reducible rfl)
      try simp only [Act.put, List.setIfInBounds_toArray, List.set_cons_zero, List.set_cons_succ]
      refine wpAnyH_take (i := 4) (v := ?vNnn14) (take_list rfl) (by kernel_rfl) (by kernel_rfl) (by kernel_rfl) (fun _ _ _ h => h) (Or.inl ⟨by rfl, ?hyNnn14⟩) (by assumption) ?restNnn14
      case hyNnn14 => (intro w hSw; (try dsimp only at hSw); go_simp <;> with_reducible rfl)
      try simp only [Act.put, List.setIfInBounds_toArray, List.set_cons_zero, List.set_cons_succ]
      refine wpAnyH_ready (rs := [5]) (by kernel_rfl) (by simp) ?_
      refine AllReadyH.cons rfl (fun K hK => ?_) AllReadyH.nil
      go_simp
      go_wp2_with (go_at_call 21; refine (bclone r.A r.n r.c r.data _ HB.out.form (by omega) (by exact BytesIn.keep HB.out.bytes hza (fun b off _ hb => BA.out.block b hb))).mono ?_; rintro e w2 ⟨B2, k2', rfl, ho2, hb2⟩; have O2 := Lib.hid (show w2.ownsRow wa.heap.size 5 1 (.slice B2 r.n k2') r.n (byteVals r.data) from ho2); have B2' := Lib.hid (show Below wa.heap.size wa w2 from ⟨hb2.os, hb2.tape, hb2.output, hb2.size, hb2.block⟩); have BN2 := Lib.hid (BNA.out.below B2'.out hna); have y0 : w2.cell? ⟨wo.heap.size, 0, none⟩ = some (encStr r.key) := BN2.out.cell 0; have y1 : w2.cell? ⟨wo.heap.size, 1, none⟩ = some (.slice r.A r.n r.c) := BN2.out.cell 1; have hz2 := B2'.out.size; clear ho2 hb2)
      clear hHeld
      refine hK.out _ _ ⟨y0, y1⟩ (fun hHeld => ?_)
      clear hK K
      refine wpAnyH_take (i := 6) (v := ?vNnn16) (take_list rfl) (by kernel_rfl) (by kernel_rfl) (by kernel_rfl) (fun _ _ _ h => h) (Or.inl ⟨by rfl, ?hyNnn16⟩) (by assumption) ?restNnn16
      case hyNnn16 => (intro w hSw; (try dsimp only at hSw); go_simp <;> with_reducible rfl)
      try simp only [Act.put, List.setIfInBounds_toArray, List.set_cons_zero, List.set_cons_succ]
      refine wpAnyH_ready (rs := [7]) (by kernel_rfl) (by simp) ?_
      refine AllReadyH.cons rfl (fun K hK => ?_) AllReadyH.nil
      go_simp
      clear hHeld
      refine hK.out _ _ (by (try dsimp only); go_keep) (fun hHeld => ?_)
      clear hK K
      refine wpAnyH_ready (rs := [8]) (by kernel_rfl) (by simp) ?_
      refine AllReadyH.cons rfl (fun K hK => ?_) AllReadyH.nil
      refine step_append_n w _ rfl (.tmp 24) (.tmp 31) rfl _ ((C.staged.take j).map putN) rfl (by exact (ST.out.below (BA.out.trans (B2'.out.mono hza))).below ((Below.refl _ _).alloc (Nat.le_refl _) _)) (some ⟨w2.heap.size, 0, none⟩) 1 1 [⟨putN (r.key, r.data), B2, k2', none, 0⟩] rfl (fun e => by cases e) (by show Value.slice _ 1 1 = _; rfl) (by rw [notePVals_one1]; show SrcAt _ _ _ [.int .i64 1, encStr r.key, .int .i64 0, .int .i64 0, .slice B2 r.data.length k2', encStr [], .int .i64 0, .slice none 0 0]; rw [HDN.out]; exact src_new _ _ _ _) (fun r' hr' => by have e : r' = ⟨putN (r.key, r.data), B2, k2', none, 0⟩ := by { simpa using hr' }; subst e; exact NotePOk.below (w := w2) ⟨by { rw [show (putN (r.key, r.data)).data = r.data from rfl, HDN.out]; exact (PartAt.of_own O2.out).old (by omega) }, PartAt.nil _ _ _⟩ ((Below.refl _ w2).alloc (Nat.le_refl _) _)) (by rw [HLJ.out]; omega) ?_; intro v' w3 hst3 hz3 hk3 _; have ST3 := Lib.hid hst3; have hb3 : w3.heap[wo.heap.size]? = w2.heap[wo.heap.size]? := (hk3 wo.heap.size (by simp; omega) (fun e => by have := ST.out.own_lt e; omega)).trans (Below.heap_alloc _ _ _ (by omega)); have z0 : w3.cell? ⟨wo.heap.size, 0, none⟩ = some (encStr r.key) := (World.cell?_of_block (a := ⟨wo.heap.size, 0, none⟩) hb3).trans y0; have z1 : w3.cell? ⟨wo.heap.size, 1, none⟩ = some (.slice r.A r.n r.c) := (World.cell?_of_block (a := ⟨wo.heap.size, 1, none⟩) hb3).trans y1; clear hst3 hk3 hb3
      clear hHeld
      refine hK.out _ _ ⟨z0, z1⟩ (fun hHeld => ?_)
      clear hK K
      refine wpAnyH_take (i := 9) (v := ?vNnn19) (take_list rfl) (by kernel_rfl) (by kernel_rfl) (by kernel_rfl) (fun _ _ _ h => h) (Or.inl ⟨by rfl, ?hyNnn19⟩) (by assumption) ?restNnn19
      case hyNnn19 => (intro w hSw; (try dsimp only at hSw); go_simp <;> with_reducible rfl)
      refine wpAnyH_done (by kernel_rfl) ?_ _
      go_wp2_with fail
      go_roundw
      case rel => exact ⟨j + 1, by go_num, hlt2, by rw [HT.out]; exact ST3.out⟩
      case measure => simp [intOf]; omega
    · have d1 : decide (j < n) = false := by simpa using hlt2
      obtain rfl : j = n := by omega
      have hst2 := hst
      rw [List.take_of_length_le (by rw [HNS.out]; exact Nat.le_refl _)] at hst2
      have HS2 := Lib.hid hst2
      have HL2 := Lib.hid (show (C.staged.map putN).length = j by rw [List.length_map, HNS.out])
      have HCAT := Lib.hid (H.out.below hbl)
      clear hst hbl hst2 HLJ ST
      go_wp2_with (first
        | (go_at_call 22; refine (cGens F p N C _ HCAT.out hN).mono ?_; rintro e wg ⟨v2, rfl, ho2, hb2⟩; have OG := Lib.hid ho2; have BG := Lib.hid hb2; obtain ⟨GB, gc, rfl, hgc1, hgc2, hGB⟩ := own_form ho2; clear ho2 hb2)
        | fail)
      have HSG := Lib.hid (HS2.out.below BG.out)
      have hbl2 := HSG.out.bel
      have BL2 := Lib.hid hbl2
      have GST := Lib.hid (show Stays wg GB wg (.slice A1 j k1) from fun g hg => by
        subst hg
        have h1 := OG.out.lt g rfl
        refine ⟨rfl, fun e => ?_, h1.2⟩
        have h2 := HS2.out.own_lt e
        omega)
      generalize hgm : C.begun.length = m at *
      have HMS := Lib.hid hgm
      clear hgm hbl2 HS2
      go_loopw [3, 6, 37] (fun v la i wx => ∃ q : Nat, i = .int .i64 q ∧ q ≤ m ∧ la = .int .i64 (lastG ((C.begun.take q).filter (waiting C))) ∧ NSt w wx v (C.staged.map putN ++ ((C.begun.take q).filter (waiting C)).map genN) ∧ Stays wg GB wx v) (fun _ _ i _ => m - (intOf i).toNat)
      case atStart => exact ⟨0, rfl, Nat.zero_le _, rfl, by simpa using HSG.out, GST.out⟩
      case round =>
        obtain ⟨q, rfl, hq, rfl, hst, hblg⟩ := hrel
        obtain ⟨wq, rfl⟩ : ∃ wq : World, wq = wr := ⟨_, rfl⟩
        by_cases hlt3 : q < m
        · have d2 : decide (q < m) = true := by simpa using hlt3
          obtain ⟨⟨key, gg⟩, hx⟩ : ∃ x, C.begun[q]? = some x := ⟨_, List.getElem?_eq_getElem (by rw [HMS.out]; exact hlt3)⟩
          obtain ⟨g, rfl⟩ : ∃ g, GB = some ⟨g, 0, none⟩ := by
            rcases hGB with ⟨_, h, _⟩ | h
            · omega
            · exact h
          have hg : g < wg.heap.size := (OG.out.lt g rfl).2
          have k0 : wq.cell? ⟨g, q * 8, none⟩ = some (.int .i64 4) := (World.cell?_of_block (a := ⟨g, q * 8, none⟩) (hblg g rfl).1).trans ((RowAt.of_own OG.out).cell (genVals_get hx 0 (by omega)))
          have k1 : wq.cell? ⟨g, q * 8 + 1, none⟩ = some (encStr key) := (World.cell?_of_block (a := ⟨g, q * 8 + 1, none⟩) (hblg g rfl).1).trans ((RowAt.of_own OG.out).cell (genVals_get hx 1 (by omega)))
          have k2 : wq.cell? ⟨g, q * 8 + 2, none⟩ = some (.int .i64 gg) := (World.cell?_of_block (a := ⟨g, q * 8 + 2, none⟩) (hblg g rfl).1).trans ((RowAt.of_own OG.out).cell (genVals_get hx 2 (by omega)))
          have k3 : wq.cell? ⟨g, q * 8 + 3, none⟩ = some (.int .i64 0) := (World.cell?_of_block (a := ⟨g, q * 8 + 3, none⟩) (hblg g rfl).1).trans ((RowAt.of_own OG.out).cell (genVals_get hx 3 (by omega)))
          have k4 : wq.cell? ⟨g, q * 8 + 4, none⟩ = some (.slice none 0 0) := (World.cell?_of_block (a := ⟨g, q * 8 + 4, none⟩) (hblg g rfl).1).trans ((RowAt.of_own OG.out).cell (genVals_get hx 4 (by omega)))
          have k5 : wq.cell? ⟨g, q * 8 + 5, none⟩ = some (encStr []) := (World.cell?_of_block (a := ⟨g, q * 8 + 5, none⟩) (hblg g rfl).1).trans ((RowAt.of_own OG.out).cell (genVals_get hx 5 (by omega)))
          have k6 : wq.cell? ⟨g, q * 8 + 6, none⟩ = some (.int .i64 0) := (World.cell?_of_block (a := ⟨g, q * 8 + 6, none⟩) (hblg g rfl).1).trans ((RowAt.of_own OG.out).cell (genVals_get hx 6 (by omega)))
          have k7 : wq.cell? ⟨g, q * 8 + 7, none⟩ = some (.slice none 0 0) := (World.cell?_of_block (a := ⟨g, q * 8 + 7, none⟩) (hblg g rfl).1).trans ((RowAt.of_own OG.out).cell (genVals_get hx 7 (by omega)))
          have hfm := hst.form
          generalize (C.staged.map putN ++ ((C.begun.take q).filter (waiting C)).map genN).length = nl at hfm
          obtain ⟨A2, kq, rfl, hnl1, hnl2, hA2⟩ := hfm
          have STQ := Lib.hid hst
          have BLQ := Lib.hid hblg
          have HX := Lib.hid hx
          have HCQ := Lib.hid (H.out.below hst.bel)
          have hix := idxP_ge (isKey key) C.staged
          have hlq : (C.staged.map putN ++ ((C.begun.take q).filter (waiting C)).map genN).length ≤ j + m := by
            rw [List.length_append, HL2.out, List.length_map]
            have := List.length_filter_le (waiting C) (C.begun.take q)
            rw [List.length_take] at this
            omega
          clear hst hblg hx
          by_cases hw : 0 ≤ waitsC C key
          · have d3 : decide (0 ≤ waitsC C key) = true := by simpa using hw
            have HW := Lib.hid (show waiting C (key, gg) = true from d3)
            go_upto_region 14 with (go_at_call 23; refine (cWaits F p N C key _ (by exact HCQ.out.below ((Below.refl _ _).alloc (Nat.le_refl _) _))).mono ?_; rintro e w3 ⟨rfl, hb3⟩; have B3 := Lib.hid (show Below wq.heap.size wq w3 from ((Below.refl _ wq).alloc (Nat.le_refl _) _).trans (hb3.mono (by simp))); have BN3 := Lib.hid (show Blk w3 wq.heap.size 26 (genCells (key, gg)).toArray from Blk.below (heap_alloc_new wq _) hb3 (by simp)); clear hb3)
            have hz3 := B3.out.size
            have l0 : w3.cell? ⟨wq.heap.size, 0, none⟩ = some (.int .i64 4) := BN3.out.cell 0
            have l1 : w3.cell? ⟨wq.heap.size, 1, none⟩ = some (encStr key) := BN3.out.cell 1
            have l2 : w3.cell? ⟨wq.heap.size, 2, none⟩ = some (.int .i64 gg) := BN3.out.cell 2
            have l3 : w3.cell? ⟨wq.heap.size, 3, none⟩ = some (.int .i64 0) := BN3.out.cell 3
            have l4 : w3.cell? ⟨wq.heap.size, 4, none⟩ = some (.slice none 0 0) := BN3.out.cell 4
            have l5 : w3.cell? ⟨wq.heap.size, 5, none⟩ = some (encStr []) := BN3.out.cell 5
            have l6 : w3.cell? ⟨wq.heap.size, 6, none⟩ = some (.int .i64 0) := BN3.out.cell 6
            have l7 : w3.cell? ⟨wq.heap.size, 7, none⟩ = some (.slice none 0 0) := BN3.out.cell 7
            have hn3 : wq.heap.size < w3.heap.size := BN3.out.size
            clear k0 k1 k2 k3 k4 k5 k6 k7
            go_wp2_with (
              (at_builtin
               refine wpList_append_n w _ rfl (.tmp 46) (.tmp 48) rfl _ (C.staged.map putN ++ ((C.begun.take q).filter (waiting C)).map genN) rfl (by exact (STQ.out.below B3.out).below ((Below.refl _ _).alloc (Nat.le_refl _) _)) (some ⟨w3.heap.size, 0, none⟩) 1 1 [⟨genN (key, gg), none, 0, none, 0⟩] rfl (fun e => by cases e) (by show Value.slice _ 1 1 = _; rfl) (by rw [notePVals_one1]; show SrcAt _ _ _ [.int .i64 4, encStr key, .int .i64 gg, .int .i64 0, .slice none 0 0, encStr [], .int .i64 0, .slice none 0 0]; exact src_new _ _ _ _) (fun r' hr' => by
                 have e : r' = ⟨genN (key, gg), none, 0, none, 0⟩ := by simpa using hr'
                 subst e
                 exact ⟨PartAt.nil _ _ _, PartAt.nil _ _ _⟩) (by omega) ?_
               intro v' w4 hst4 hz4 hk4 hat4
               have ST4 := Lib.hid hst4
               have SY4 := Lib.hid (((BLQ.out.below B3.out).below ((Below.refl _ _).alloc (Nat.le_refl _) _)).step hz4 hk4 hat4)
               have hb4 : w4.heap[wq.heap.size]? = w3.heap[wq.heap.size]? := (hk4 wq.heap.size (by simp; omega) (fun e => by have := STQ.out.own_lt e; omega)).trans (Below.heap_alloc _ _ _ (by omega))
               have z2 : w4.cell? ⟨wq.heap.size, 2, none⟩ = some (.int .i64 gg) := (World.cell?_of_block (a := ⟨wq.heap.size, 2, none⟩) hb4).trans l2
               clear hst4 hk4 hat4 hb4))
            go_roundw
            case rel => exact ⟨q + 1, by go_num, hlt3, by rw [(take_wait HX.out).1 HW.out, lastG_snoc], by rw [(take_wait HX.out).1 HW.out, List.map_append, ← List.append_assoc]; exact ST4.out, SY4.out⟩
            case measure => simp [intOf]; omega
          · have d3 : decide (0 ≤ waitsC C key) = false := by simpa using hw
            have HW := Lib.hid (show waiting C (key, gg) = false from d3)
            go_upto_region 16 with (go_at_call 23; refine (cWaits F p N C key _ (by exact HCQ.out.below ((Below.refl _ _).alloc (Nat.le_refl _) _))).mono ?_; rintro e w3 ⟨rfl, hb3⟩; have B3 := Lib.hid (show Below wq.heap.size wq w3 from ((Below.refl _ wq).alloc (Nat.le_refl _) _).trans (hb3.mono (by simp))); clear hb3)
            go_wp2_with fail
            go_roundw
            case rel => exact ⟨q + 1, by go_num, hlt3, by rw [(take_wait HX.out).2 HW.out], by rw [(take_wait HX.out).2 HW.out]; exact STQ.out.below B3.out, BLQ.out.below B3.out⟩
            case measure => simp [intOf]; omega
        · have d2 : decide (q < m) = false := by simpa using hlt3
          obtain rfl : q = m := by omega
          have hst2 := hst
          have hfull : (C.begun.take q).filter (waiting C) = gensC C := by rw [List.take_of_length_le (by rw [HMS.out]; exact Nat.le_refl _)]; rfl
          rw [hfull] at hst2
          have hlg : (gensC C).length ≤ q := by have := List.length_filter_le (waiting C) C.begun; rw [HMS.out] at this; exact this
          have hfm := hst2.form
          generalize hgl : (C.staged.map putN ++ (gensC C).map genN).length = nl at hfm
          obtain ⟨A2, kq, rfl, hnl1, hnl2, hA2⟩ := hfm
          have hnl : nl ≤ j + q := by rw [← hgl, List.length_append, HL2.out, List.length_map]; omega
          have HGL := Lib.hid hgl
          have STQ := Lib.hid hst2
          have hblq := hst2.bel
          have c5 : wq.cell? ⟨p, 5, none⟩ = some (.int .i64 C.gen) := (hblq.cell (p := ⟨p, 5, none⟩) hpz).trans (HR.out.blk.cell 5)
          have HBQ := Lib.hid hblq
          rw [hfull] at *
          clear hst hst2 hblg hblq hgl hfull
          by_cases hl5 : lastG (gensC C) < C.gen
          · have d5 : decide (lastG (gensC C) < C.gen) = true := by simpa using hl5
            go_upto_region 19 with (
              (at_builtin
               refine wpList_append_n w _ rfl (.tmp 59) (.tmp 65) rfl _ (C.staged.map putN ++ (gensC C).map genN) rfl (by exact STQ.out.below ((Below.refl _ _).alloc (Nat.le_refl _) _)) (some ⟨wq.heap.size, 0, none⟩) 1 1 [⟨genN ([], C.gen), none, 0, none, 0⟩] rfl (fun e => by cases e) (by show Value.slice _ 1 1 = _; rfl) (by rw [notePVals_one1]; show SrcAt _ _ _ [.int .i64 4, encStr [], .int .i64 C.gen, .int .i64 0, .slice none 0 0, encStr [], .int .i64 0, .slice none 0 0]; exact src_new _ _ _ _) (fun r' hr' => by
                 have e : r' = ⟨genN ([], C.gen), none, 0, none, 0⟩ := by simpa using hr'
                 subst e
                 exact ⟨PartAt.nil _ _ _, PartAt.nil _ _ _⟩) (by rw [HGL.out]; omega) ?_
               intro v' w4 hst4 hz4 hk4 hat4
               have ST4 := Lib.hid (show NSt w w4 v' (C.staged.map putN ++ (gensC C).map genN ++ [genN ([], C.gen)]) from hst4)
               clear hst4 hk4 hat4))
            generalize hX : C.staged.map putN ++ (gensC C).map genN ++ [genN ([], C.gen)] = X at *
            have HXE := Lib.hid (show X = C.staged.map putN ++ (gensC C).map genN ++ (if lastG (gensC C) < C.gen then [genN ([], C.gen)] else []) by rw [if_pos hl5]; exact hX.symm)
            have hfm4 := ST4.out.form
            have hXl : X.length ≤ j + q + 1 := by rw [← hX, List.length_append, HGL.out]; simp; omega
            generalize hnx : X.length = nx at *
            have HNX := Lib.hid hnx
            obtain ⟨A4, k4, rfl, hnx1, hnx2, hA4⟩ := hfm4
            have SX := Lib.hid ST4.out
            clear hX hnx d5 hl5 ST4
            have hpw4 : w4.cell? ⟨p, 3, none⟩ = w.cell? ⟨p, 3, none⟩ := SX.out.bel.cell (p := ⟨p, 3, none⟩) hpz
            clear hpw4
            go_wp2_with (first
              | (go_at_call 15; refine (cEntries F p N C _ (by exact H.out.below SX.out.bel) hN).mono ?_; rintro e we ⟨ve, PL, rfl, ho2, hb2⟩; obtain ⟨E2, hv2, hE2⟩ := ho2.out.form; subst hv2; have O2 := Lib.hid ho2; have B2 := Lib.hid hb2; clear hb2 ho2)
              | fail)
            have hlE : (entsC C).length = C.entries.length := by unfold entsC; rw [List.length_map, sortS_len, List.length_map]
            have hen : (entsC C).length ≤ N := by
              rw [hlE]
              have h1 := HR.out.ents.len
              have h2 : (entVals ER).length = C.entries.length := by rw [← HR.out.entr, entVals, List.length_map, List.length_map]
              omega
            have hpl : PL.length = (entsC C).length := by rw [← O2.out.is, List.length_map]
            have HPX := Lib.hid (show placedL PL = (entsC C).map placedN by rw [← O2.out.is, List.map_map]; rfl)
            have SE := Lib.hid (SX.out.below B2.out)
            have hzx := SX.out.bel.size
            have RE := Lib.hid (show ∀ g, E2 = some ⟨g, 0, none⟩ → RowAt we g 46 (entPVals PL) from fun g hg => by
              rcases hE2 with ⟨h, _⟩ | ⟨g', h1, _, h3⟩
              · rw [h] at hg; cases hg
              · rw [h1] at hg; cases hg; exact h3)
            have PE := Lib.hid (show ∀ r ∈ PL, EntPOk w we r from fun r hr => (O2.out.ok r hr).old hzx)
            have hE3 : E2 = none ∧ (entsC C).length = 0 ∨ ∃ g, E2 = some ⟨g, 0, none⟩ := hE2.imp id (fun ⟨g, h, _⟩ => ⟨g, h⟩)
            have HPN := Lib.hid hpl
            have PMX := Lib.hid (show ∀ r ∈ PL, r.e.places.length ≤ maxLen from fun r hr => by
              have h1 : (r.key, r.e) ∈ entsC C := by rw [← O2.out.is]; exact List.mem_map.2 ⟨r, hr, rfl⟩
              unfold entsC at h1
              obtain ⟨k, hk, he⟩ := List.mem_map.1 h1
              injection he with he1 he2
              have hh : hasL C.entries k = true := hasL_mem.2 ((List.mergeSort_perm _ _).mem_iff.1 hk)
              have hm := HR.out.wf.ents _ (getL_mem zeroV hh)
              have h7 := hm.2.2.2.2.2.2.1
              have h6 := hm.2.2.2.2.2.1
              rw [← he2]
              show (getL zeroV C.entries k).places.length ≤ maxLen
              simp only [maxLen] at *
              omega)
            clear hlE hpl hE2 O2
            generalize hne : (entsC C).length = ne at *
            clear hne
            go_loopw [3, 70] (fun v i wx => ∃ y : Nat, i = .int .i64 y ∧ y ≤ ne ∧ NSt w wx v (X ++ placedL (PL.take y)) ∧ (∀ g, E2 = some ⟨g, 0, none⟩ → RowAt wx g 46 (entPVals PL)) ∧ (∀ r ∈ PL, EntPOk w wx r)) (fun _ i _ => ne - (intOf i).toNat)
            case atStart => exact ⟨0, rfl, Nat.zero_le _, by simpa [placedL] using SE.out, RE.out, PE.out⟩
            case round =>
              obtain ⟨y, rfl, hy, hst, hre, hpe⟩ := hrel
              obtain ⟨wy, rfl⟩ : ∃ wy : World, wy = wr := ⟨_, rfl⟩
              have hfm := hst.form
              have hly : (X ++ placedL (PL.take y)).length ≤ j + q + 1 + y := by
                rw [List.length_append, HNX.out]
                unfold placedL
                rw [List.length_map, List.length_take]
                omega
              have STY := Lib.hid hst
              have REY := Lib.hid hre
              have PEY := Lib.hid hpe
              have hzy := hst.bel.size
              generalize hny : (X ++ placedL (PL.take y)).length = ny at *
              have HNY := Lib.hid hny
              obtain ⟨A5, k5, rfl, hny1, hny2, hA5⟩ := hfm
              by_cases hlt4 : y < ne
              · have d6 : decide (y < ne) = true := by simpa using hlt4
                obtain ⟨r, hr⟩ : ∃ r, PL[y]? = some r := ⟨_, List.getElem?_eq_getElem (by rw [HPN.out]; exact hlt4)⟩
                obtain ⟨g, rfl⟩ : ∃ g, E2 = some ⟨g, 0, none⟩ := by
                  rcases hE3 with ⟨_, h⟩ | h
                  · omega
                  · exact h
                have hgr := hre g rfl
                have hg : g < wy.heap.size := hgr.size
                have k0 : wy.cell? ⟨g, y * 5, none⟩ = some (encStr r.key) := hgr.cell (entPVals_get hr 0 (by omega))
                have k1 : wy.cell? ⟨g, y * 5 + 1, none⟩ = some (.int .i64 r.e.gen) := hgr.cell (entPVals_get hr 1 (by omega))
                have k2 : wy.cell? ⟨g, y * 5 + 2, none⟩ = some (.int .i64 r.e.size) := hgr.cell (entPVals_get hr 2 (by omega))
                have k3 : wy.cell? ⟨g, y * 5 + 3, none⟩ = some (encStr r.e.sum) := hgr.cell (entPVals_get hr 3 (by omega))
                have k4 : wy.cell? ⟨g, y * 5 + 4, none⟩ = some (.slice r.B r.e.places.length r.e.places.length) := hgr.cell (entPVals_get hr 4 (by omega))
                have HTY := Lib.hid (placedL_take hr)
                have HRM := Lib.hid (List.mem_of_getElem? hr)
                clear hst hre hpe hgr hr hny
                go_wp2_with (
                  (at_builtin
                   refine wpList_append_n w _ rfl (.tmp 74) (.tmp 86) rfl _ (X ++ placedL (PL.take y)) rfl (by exact (STY.out.below ((Below.refl _ _).alloc (Nat.le_refl _) _)).below ((Below.refl _ _).alloc (Nat.le_refl _) _)) (some ⟨wy.heap.size + 1, 0, none⟩) 1 1 [placedP r] rfl (fun e => by cases e) (by show Value.slice _ 1 1 = _; simp) (by rw [notePVals_one1]; show SrcAt _ _ _ [.int .i64 2, encStr r.key, .int .i64 r.e.gen, .int .i64 0, .slice none 0 0, encStr r.e.sum, .int .i64 r.e.size, .slice r.B r.e.places.length r.e.places.length]; exact src_new1' _ _ _ _ (by simp)) (fun r' hr' => by
                     have e : r' = placedP r := by simpa using hr'
                     subst e
                     exact placedP_ok (((PEY.out r HRM.out).below ((Below.refl _ _).alloc (Nat.le_refl _) _)).below ((Below.refl _ _).alloc (Nat.le_refl _) _)) (PMX.out r HRM.out)) (by rw [HNY.out]; omega) ?_
                   intro v' w5 hst5 hz5 hk5 hat5
                   have SB5 := Lib.hid ((STY.out.below ((Below.refl _ _).alloc (Nat.le_refl _) (.cells #[encStr r.key, .int .i64 r.e.gen, .int .i64 r.e.size, encStr r.e.sum, .slice r.B r.e.places.length r.e.places.length] 46))).below ((Below.refl _ _).alloc (Nat.le_refl _) (.cells (placedP r).cells.toArray 26)))
                   have ST5 := Lib.hid hst5
                   have RE5 := Lib.hid (show ∀ g', some (⟨g, 0, none⟩ : Addr) = some ⟨g', 0, none⟩ → RowAt w5 g' 46 (entPVals PL) from fun g' hg' => (((REY.out g' hg').below' ((Below.refl _ _).alloc (Nat.le_refl _) _)).below' ((Below.refl _ _).alloc (Nat.le_refl _) _)).past SB5.out hk5 (by decide))
                   have PE5 := Lib.hid (show ∀ r ∈ PL, EntPOk w w5 r from fun r hr => (((PEY.out r hr).below ((Below.refl _ _).alloc (Nat.le_refl _) _)).below ((Below.refl _ _).alloc (Nat.le_refl _) _)).past SB5.out hk5)
                   clear hst5 hk5 hat5 SB5))
                go_roundw
                case rel => exact ⟨y + 1, by go_num, hlt4, by rw [HTY.out, ← List.append_assoc]; exact ST5.out, RE5.out, PE5.out⟩
                case measure => simp [intOf]; omega
              · have d6 : decide (y < ne) = false := by simpa using hlt4
                obtain rfl : y = ne := by omega
                clear hst hre hpe hny
                have hfull2 : placedL (PL.take y) = (entsC C).map placedN := by rw [List.take_of_length_le (by rw [HPN.out]; exact Nat.le_refl _), HPX.out]
                have ST6 := Lib.hid (show NSt w wy (.slice A5 ny k5) (X ++ (entsC C).map placedN) by rw [← hfull2]; exact STY.out)
                have HN6 := Lib.hid (show (X ++ (entsC C).map placedN).length = ny by rw [← hfull2]; exact HNY.out)
                clear hfull2 STY HNY REY PEY HPX HPN PMX
                have B6 := Lib.hid ST6.out.bel
                have C6 := Lib.hid (HR.out.below B6.out)
                have x3 : wy.cell? ⟨p, 3, none⟩ = some tv := C6.out.blk.cell 3
                have hpy : p < wy.heap.size := C6.out.blk.size
                obtain ⟨TB, tc, rfl, htc1, htc2, hTB⟩ := own_form C6.out.tmb.1
                have S6 := Lib.hid (orow_src C6.out.tmb)
                have hnt : C.tombs.length ≤ N := C6.out.wf.tombs
                generalize hnl6 : C.tombs.length = nt at *
                have HNT := Lib.hid hnl6
                clear hnl6
                go_upto_region 25 with (
                  (at_builtin
                   refine wpList_append_n w _ rfl (.tmp 89) (.tmp 93) rfl _ (X ++ (entsC C).map placedN) rfl (by exact ST6.out) TB nt tc (C.tombs.map tombP) (by rw [List.length_map, HNT.out]) (fun e => by rcases hTB with ⟨_, h, _⟩ | ⟨g, h⟩; exact h; rw [h] at e; cases e) (by show Value.slice _ _ _ = _; rfl) (by rw [tombP_vals]; exact S6.out.1) (fun r' hr' => by
                     obtain ⟨q, _, rfl⟩ := List.mem_map.1 hr'
                     exact ⟨PartAt.nil _ _ _, PartAt.nil _ _ _⟩) (by rw [HN6.out]; omega) ?_
                   intro v' w7 hst7 hz7 hk7 hat7
                   have ST7 := Lib.hid (show NSt w w7 v' (X ++ (entsC C).map placedN ++ C.tombs.map tombN) by rw [List.map_map] at hst7; exact hst7)
                   clear hst7 hk7 hat7))
                have hfm7 := ST7.out.form
                have hl7 : (X ++ (entsC C).map placedN ++ C.tombs.map tombN).length ≤ ny + nt := by rw [List.length_append, HN6.out, List.length_map, HNT.out]; exact Nat.le_refl _
                generalize hn7 : (X ++ (entsC C).map placedN ++ C.tombs.map tombN).length = n7 at *
                have HN7 := Lib.hid hn7
                obtain ⟨A7, k7, rfl, hn71, hn72, hA7⟩ := hfm7
                clear hn7
                have C7 := Lib.hid (HR.out.below ST7.out.bel)
                have x4 : w7.cell? ⟨p, 4, none⟩ = some (.map (some br)) := C7.out.blk.cell 4
                have hpy7 : p < w7.heap.size := C7.out.blk.size
                have hkeys : (retVals C.retired).map Prod.fst = C.retired := by unfold retVals; rw [List.map_map]; exact List.map_id _
                have hlen : (retVals C.retired).length = C.retired.length := by unfold retVals; rw [List.length_map]
                have hnr : C.retired.length ≤ N := by rw [← hlen]; exact C7.out.rets.lenI
                have hso := cSortedR (.agg #[]) br N (retVals C.retired) w7 C7.out.rets (by omega)
                rw [hlen, hkeys] at hso
                have SO := Lib.hid hso
                have HSI := Lib.hid (sortI_len C.retired)
                have STX := Lib.hid ST7.out
                clear hkeys hlen hso
                generalize C.retired.length = nr at *
                go_wp2_with (first
                  | (go_at_call 25; refine (cKeysR br _).mono ?_; rintro e w8 ⟨rfl, rfl⟩)
                  | (go_at_call 24; refine SO.out.mono ?_; rintro e w9 ⟨RB, rc, rfl, hrow, hb9⟩; have RW9 := Lib.hid hrow; have B9 := Lib.hid hb9; obtain ⟨RB', rc', e1, hrn1, hrc1, hRB⟩ := own_form hrow; cases e1; clear hrow hb9))
                have ST9 := Lib.hid (STX.out.below B9.out)
                have RR9 := Lib.hid (show ∀ g, RB = some ⟨g, 0, none⟩ → RowAt w9 g 3 (intVals (sortI C.retired)) from fun g hg => by
                  subst hg
                  exact RowAt.of_own RW9.out)
                clear SO STX
                go_loopw [3, 102] (fun v i wx => ∃ y : Nat, i = .int .i64 y ∧ y ≤ nr ∧ NSt w wx v (X ++ (entsC C).map placedN ++ C.tombs.map tombN ++ ((sortI C.retired).take y).map retireN) ∧ (∀ g, RB = some ⟨g, 0, none⟩ → RowAt wx g 3 (intVals (sortI C.retired)))) (fun _ i _ => nr - (intOf i).toNat)
                case atStart => exact ⟨0, rfl, Nat.zero_le _, by rw [List.take_zero, List.map_nil, List.append_nil]; exact ST9.out, RR9.out⟩
                case round =>
                  obtain ⟨z, rfl, hzr, hst, hre⟩ := hrel
                  obtain ⟨wz, rfl⟩ : ∃ wz : World, wz = wr := ⟨_, rfl⟩
                  have hfm := hst.form
                  have hlz : (X ++ (entsC C).map placedN ++ C.tombs.map tombN ++ ((sortI C.retired).take z).map retireN).length ≤ n7 + z := by
                    rw [List.length_append, HN7.out, List.length_map, List.length_take]
                    omega
                  have STZ := Lib.hid hst
                  have REZ := Lib.hid hre
                  generalize hnz : (X ++ (entsC C).map placedN ++ C.tombs.map tombN ++ ((sortI C.retired).take z).map retireN).length = nz at *
                  have HNZ := Lib.hid hnz
                  obtain ⟨A8, k8, rfl, hnz1, hnz2, hA8⟩ := hfm
                  by_cases hlt5 : z < nr
                  · have d7 : decide (z < nr) = true := by simpa using hlt5
                    obtain ⟨r, hr⟩ : ∃ r, (sortI C.retired)[z]? = some r := ⟨_, List.getElem?_eq_getElem (by rw [HSI.out]; exact hlt5)⟩
                    obtain ⟨g, rfl⟩ : ∃ g, RB = some ⟨g, 0, none⟩ := by
                      rcases hRB with ⟨_, h, _⟩ | h
                      · omega
                      · exact h
                    have hgr := hre g rfl
                    have k0 : wz.cell? ⟨g, z, none⟩ = some (.int .i64 r) := hgr.cell (by unfold intVals; rw [List.getElem?_map, hr]; rfl)
                    have HTZ := Lib.hid (retire_take hr)
                    clear hst hre hgr hr hnz
                    go_wp2_with (
                      (at_builtin
                       refine wpList_append_n w _ rfl (.tmp 106) (.tmp 109) rfl _ (X ++ (entsC C).map placedN ++ C.tombs.map tombN ++ ((sortI C.retired).take z).map retireN) rfl (by exact STZ.out.below ((Below.refl _ _).alloc (Nat.le_refl _) _)) (some ⟨wz.heap.size, 0, none⟩) 1 1 [⟨retireN r, none, 0, none, 0⟩] rfl (fun e => by cases e) (by show Value.slice _ 1 1 = _; rfl) (by rw [notePVals_one1]; show SrcAt _ _ _ [.int .i64 5, encStr [], .int .i64 0, .int .i64 r, .slice none 0 0, encStr [], .int .i64 0, .slice none 0 0]; exact src_new _ _ _ _) (fun r' hr' => by
                         have e : r' = ⟨retireN r, none, 0, none, 0⟩ := by simpa using hr'
                         subst e
                         exact ⟨PartAt.nil _ _ _, PartAt.nil _ _ _⟩) (by rw [HNZ.out]; omega) ?_
                       intro v' w10 hst10 hz10 hk10 hat10
                       have ST10 := Lib.hid hst10
                       have RE10 := Lib.hid (show ∀ g', some (⟨g, 0, none⟩ : Addr) = some ⟨g', 0, none⟩ → RowAt w10 g' 3 (intVals (sortI C.retired)) from fun g' hg' => ((REZ.out g' hg').below' ((Below.refl _ _).alloc (Nat.le_refl _) _)).past (STZ.out.below ((Below.refl _ _).alloc (Nat.le_refl _) (.cells #[.int .i64 5, encStr [], .int .i64 0, .int .i64 r, .slice none 0 0, encStr [], .int .i64 0, .slice none 0 0] 26))) hk10 (by decide))
                       clear hst10 hk10 hat10))
                    go_roundw
                    case rel => exact ⟨z + 1, by go_num, hlt5, by rw [HTZ.out, ← List.append_assoc]; exact ST10.out, RE10.out⟩
                    case measure => simp [intOf]; omega
                  · have d7 : decide (z < nr) = false := by simpa using hlt5
                    obtain rfl : z = nr := by omega
                    clear hst hre
                    have hnote : X ++ (entsC C).map placedN ++ C.tombs.map tombN ++ ((sortI C.retired).take z).map retireN = notesC C := by
                      rw [List.take_of_length_le (by rw [HSI.out]; exact Nat.le_refl _)]
                      unfold notesC
                      rw [HXE.out]
                    have hstf := STZ.out
                    rw [hnote] at hnz hstf
                    have HNF := Lib.hid hnz
                    have STF := Lib.hid hstf
                    clear hnote hnz hstf
                    go_wp2_with (go_at_call 26; refine (clip_note A8 _ k8 _ hnz1 hnz2 hA8).mono ?_; rintro e w11 ⟨rfl, rfl⟩)
                    go_ret
                    refine ⟨A8, by rw [HNF.out]; rfl, ⟨k8, ?_⟩, STF.out.bel⟩
                    rw [HNF.out]
                    exact STF.out
          · have d5 : decide (lastG (gensC C) < C.gen) = false := by simpa using hl5
            go_upto_region 19 with fail
            generalize hX : C.staged.map putN ++ (gensC C).map genN = X at *
            have HXE := Lib.hid (show X = C.staged.map putN ++ (gensC C).map genN ++ (if lastG (gensC C) < C.gen then [genN ([], C.gen)] else []) by rw [if_neg hl5, List.append_nil]; exact hX.symm)
            have HNX := Lib.hid HGL.out
            have hXl : X.length ≤ j + q + 1 := by rw [HGL.out]; omega
            obtain ⟨w4, rfl⟩ : ∃ x : World, x = wq := ⟨_, rfl⟩
            obtain ⟨A4, rfl⟩ : ∃ x : Option Addr, x = A2 := ⟨_, rfl⟩
            obtain ⟨k4, rfl⟩ : ∃ x : Nat, x = kq := ⟨_, rfl⟩
            obtain ⟨nx, rfl⟩ : ∃ x : Nat, x = nl := ⟨_, rfl⟩
            have SX := Lib.hid STQ.out
            rw [HNX.out] at hXl
            clear hX d5 hl5
            have hpw4 : w4.cell? ⟨p, 3, none⟩ = w.cell? ⟨p, 3, none⟩ := SX.out.bel.cell (p := ⟨p, 3, none⟩) hpz
            clear hpw4
            go_wp2_with (first
              | (go_at_call 15; refine (cEntries F p N C _ (by exact H.out.below SX.out.bel) hN).mono ?_; rintro e we ⟨ve, PL, rfl, ho2, hb2⟩; obtain ⟨E2, hv2, hE2⟩ := ho2.out.form; subst hv2; have O2 := Lib.hid ho2; have B2 := Lib.hid hb2; clear hb2 ho2)
              | fail)
            have hlE : (entsC C).length = C.entries.length := by unfold entsC; rw [List.length_map, sortS_len, List.length_map]
            have hen : (entsC C).length ≤ N := by
              rw [hlE]
              have h1 := HR.out.ents.len
              have h2 : (entVals ER).length = C.entries.length := by rw [← HR.out.entr, entVals, List.length_map, List.length_map]
              omega
            have hpl : PL.length = (entsC C).length := by rw [← O2.out.is, List.length_map]
            have HPX := Lib.hid (show placedL PL = (entsC C).map placedN by rw [← O2.out.is, List.map_map]; rfl)
            have SE := Lib.hid (SX.out.below B2.out)
            have hzx := SX.out.bel.size
            have RE := Lib.hid (show ∀ g, E2 = some ⟨g, 0, none⟩ → RowAt we g 46 (entPVals PL) from fun g hg => by
              rcases hE2 with ⟨h, _⟩ | ⟨g', h1, _, h3⟩
              · rw [h] at hg; cases hg
              · rw [h1] at hg; cases hg; exact h3)
            have PE := Lib.hid (show ∀ r ∈ PL, EntPOk w we r from fun r hr => (O2.out.ok r hr).old hzx)
            have hE3 : E2 = none ∧ (entsC C).length = 0 ∨ ∃ g, E2 = some ⟨g, 0, none⟩ := hE2.imp id (fun ⟨g, h, _⟩ => ⟨g, h⟩)
            have HPN := Lib.hid hpl
            have PMX := Lib.hid (show ∀ r ∈ PL, r.e.places.length ≤ maxLen from fun r hr => by
              have h1 : (r.key, r.e) ∈ entsC C := by rw [← O2.out.is]; exact List.mem_map.2 ⟨r, hr, rfl⟩
              unfold entsC at h1
              obtain ⟨k, hk, he⟩ := List.mem_map.1 h1
              injection he with he1 he2
              have hh : hasL C.entries k = true := hasL_mem.2 ((List.mergeSort_perm _ _).mem_iff.1 hk)
              have hm := HR.out.wf.ents _ (getL_mem zeroV hh)
              have h7 := hm.2.2.2.2.2.2.1
              have h6 := hm.2.2.2.2.2.1
              rw [← he2]
              show (getL zeroV C.entries k).places.length ≤ maxLen
              simp only [maxLen] at *
              omega)
            clear hlE hpl hE2 O2
            generalize hne : (entsC C).length = ne at *
            clear hne
            go_loopw [3, 70] (fun v i wx => ∃ y : Nat, i = .int .i64 y ∧ y ≤ ne ∧ NSt w wx v (X ++ placedL (PL.take y)) ∧ (∀ g, E2 = some ⟨g, 0, none⟩ → RowAt wx g 46 (entPVals PL)) ∧ (∀ r ∈ PL, EntPOk w wx r)) (fun _ i _ => ne - (intOf i).toNat)
            case atStart => exact ⟨0, rfl, Nat.zero_le _, by simpa [placedL] using SE.out, RE.out, PE.out⟩
            case round =>
              obtain ⟨y, rfl, hy, hst, hre, hpe⟩ := hrel
              obtain ⟨wy, rfl⟩ : ∃ wy : World, wy = wr := ⟨_, rfl⟩
              have hfm := hst.form
              have hly : (X ++ placedL (PL.take y)).length ≤ j + q + 1 + y := by
                rw [List.length_append, HNX.out]
                unfold placedL
                rw [List.length_map, List.length_take]
                omega
              have STY := Lib.hid hst
              have REY := Lib.hid hre
              have PEY := Lib.hid hpe
              have hzy := hst.bel.size
              generalize hny : (X ++ placedL (PL.take y)).length = ny at *
              have HNY := Lib.hid hny
              obtain ⟨A5, k5, rfl, hny1, hny2, hA5⟩ := hfm
              by_cases hlt4 : y < ne
              · have d6 : decide (y < ne) = true := by simpa using hlt4
                obtain ⟨r, hr⟩ : ∃ r, PL[y]? = some r := ⟨_, List.getElem?_eq_getElem (by rw [HPN.out]; exact hlt4)⟩
                obtain ⟨g, rfl⟩ : ∃ g, E2 = some ⟨g, 0, none⟩ := by
                  rcases hE3 with ⟨_, h⟩ | h
                  · omega
                  · exact h
                have hgr := hre g rfl
                have hg : g < wy.heap.size := hgr.size
                have k0 : wy.cell? ⟨g, y * 5, none⟩ = some (encStr r.key) := hgr.cell (entPVals_get hr 0 (by omega))
                have k1 : wy.cell? ⟨g, y * 5 + 1, none⟩ = some (.int .i64 r.e.gen) := hgr.cell (entPVals_get hr 1 (by omega))
                have k2 : wy.cell? ⟨g, y * 5 + 2, none⟩ = some (.int .i64 r.e.size) := hgr.cell (entPVals_get hr 2 (by omega))
                have k3 : wy.cell? ⟨g, y * 5 + 3, none⟩ = some (encStr r.e.sum) := hgr.cell (entPVals_get hr 3 (by omega))
                have k4 : wy.cell? ⟨g, y * 5 + 4, none⟩ = some (.slice r.B r.e.places.length r.e.places.length) := hgr.cell (entPVals_get hr 4 (by omega))
                have HTY := Lib.hid (placedL_take hr)
                have HRM := Lib.hid (List.mem_of_getElem? hr)
                clear hst hre hpe hgr hr hny
                go_wp2_with (
                  (at_builtin
                   refine wpList_append_n w _ rfl (.tmp 74) (.tmp 86) rfl _ (X ++ placedL (PL.take y)) rfl (by exact (STY.out.below ((Below.refl _ _).alloc (Nat.le_refl _) _)).below ((Below.refl _ _).alloc (Nat.le_refl _) _)) (some ⟨wy.heap.size + 1, 0, none⟩) 1 1 [placedP r] rfl (fun e => by cases e) (by show Value.slice _ 1 1 = _; simp) (by rw [notePVals_one1]; show SrcAt _ _ _ [.int .i64 2, encStr r.key, .int .i64 r.e.gen, .int .i64 0, .slice none 0 0, encStr r.e.sum, .int .i64 r.e.size, .slice r.B r.e.places.length r.e.places.length]; exact src_new1' _ _ _ _ (by simp)) (fun r' hr' => by
                     have e : r' = placedP r := by simpa using hr'
                     subst e
                     exact placedP_ok (((PEY.out r HRM.out).below ((Below.refl _ _).alloc (Nat.le_refl _) _)).below ((Below.refl _ _).alloc (Nat.le_refl _) _)) (PMX.out r HRM.out)) (by rw [HNY.out]; omega) ?_
                   intro v' w5 hst5 hz5 hk5 hat5
                   have SB5 := Lib.hid ((STY.out.below ((Below.refl _ _).alloc (Nat.le_refl _) (.cells #[encStr r.key, .int .i64 r.e.gen, .int .i64 r.e.size, encStr r.e.sum, .slice r.B r.e.places.length r.e.places.length] 46))).below ((Below.refl _ _).alloc (Nat.le_refl _) (.cells (placedP r).cells.toArray 26)))
                   have ST5 := Lib.hid hst5
                   have RE5 := Lib.hid (show ∀ g', some (⟨g, 0, none⟩ : Addr) = some ⟨g', 0, none⟩ → RowAt w5 g' 46 (entPVals PL) from fun g' hg' => (((REY.out g' hg').below' ((Below.refl _ _).alloc (Nat.le_refl _) _)).below' ((Below.refl _ _).alloc (Nat.le_refl _) _)).past SB5.out hk5 (by decide))
                   have PE5 := Lib.hid (show ∀ r ∈ PL, EntPOk w w5 r from fun r hr => (((PEY.out r hr).below ((Below.refl _ _).alloc (Nat.le_refl _) _)).below ((Below.refl _ _).alloc (Nat.le_refl _) _)).past SB5.out hk5)
                   clear hst5 hk5 hat5 SB5))
                go_roundw
                case rel => exact ⟨y + 1, by go_num, hlt4, by rw [HTY.out, ← List.append_assoc]; exact ST5.out, RE5.out, PE5.out⟩
                case measure => simp [intOf]; omega
              · have d6 : decide (y < ne) = false := by simpa using hlt4
                obtain rfl : y = ne := by omega
                clear hst hre hpe hny
                have hfull2 : placedL (PL.take y) = (entsC C).map placedN := by rw [List.take_of_length_le (by rw [HPN.out]; exact Nat.le_refl _), HPX.out]
                have ST6 := Lib.hid (show NSt w wy (.slice A5 ny k5) (X ++ (entsC C).map placedN) by rw [← hfull2]; exact STY.out)
                have HN6 := Lib.hid (show (X ++ (entsC C).map placedN).length = ny by rw [← hfull2]; exact HNY.out)
                clear hfull2 STY HNY REY PEY HPX HPN PMX
                have B6 := Lib.hid ST6.out.bel
                have C6 := Lib.hid (HR.out.below B6.out)
                have x3 : wy.cell? ⟨p, 3, none⟩ = some tv := C6.out.blk.cell 3
                have hpy : p < wy.heap.size := C6.out.blk.size
                obtain ⟨TB, tc, rfl, htc1, htc2, hTB⟩ := own_form C6.out.tmb.1
                have S6 := Lib.hid (orow_src C6.out.tmb)
                have hnt : C.tombs.length ≤ N := C6.out.wf.tombs
                generalize hnl6 : C.tombs.length = nt at *
                have HNT := Lib.hid hnl6
                clear hnl6
                go_upto_region 25 with (
                  (at_builtin
                   refine wpList_append_n w _ rfl (.tmp 89) (.tmp 93) rfl _ (X ++ (entsC C).map placedN) rfl (by exact ST6.out) TB nt tc (C.tombs.map tombP) (by rw [List.length_map, HNT.out]) (fun e => by rcases hTB with ⟨_, h, _⟩ | ⟨g, h⟩; exact h; rw [h] at e; cases e) (by show Value.slice _ _ _ = _; rfl) (by rw [tombP_vals]; exact S6.out.1) (fun r' hr' => by
                     obtain ⟨q, _, rfl⟩ := List.mem_map.1 hr'
                     exact ⟨PartAt.nil _ _ _, PartAt.nil _ _ _⟩) (by rw [HN6.out]; omega) ?_
                   intro v' w7 hst7 hz7 hk7 hat7
                   have ST7 := Lib.hid (show NSt w w7 v' (X ++ (entsC C).map placedN ++ C.tombs.map tombN) by rw [List.map_map] at hst7; exact hst7)
                   clear hst7 hk7 hat7))
                have hfm7 := ST7.out.form
                have hl7 : (X ++ (entsC C).map placedN ++ C.tombs.map tombN).length ≤ ny + nt := by rw [List.length_append, HN6.out, List.length_map, HNT.out]; exact Nat.le_refl _
                generalize hn7 : (X ++ (entsC C).map placedN ++ C.tombs.map tombN).length = n7 at *
                have HN7 := Lib.hid hn7
                obtain ⟨A7, k7, rfl, hn71, hn72, hA7⟩ := hfm7
                clear hn7
                have C7 := Lib.hid (HR.out.below ST7.out.bel)
                have x4 : w7.cell? ⟨p, 4, none⟩ = some (.map (some br)) := C7.out.blk.cell 4
                have hpy7 : p < w7.heap.size := C7.out.blk.size
                have hkeys : (retVals C.retired).map Prod.fst = C.retired := by unfold retVals; rw [List.map_map]; exact List.map_id _
                have hlen : (retVals C.retired).length = C.retired.length := by unfold retVals; rw [List.length_map]
                have hnr : C.retired.length ≤ N := by rw [← hlen]; exact C7.out.rets.lenI
                have hso := cSortedR (.agg #[]) br N (retVals C.retired) w7 C7.out.rets (by omega)
                rw [hlen, hkeys] at hso
                have SO := Lib.hid hso
                have HSI := Lib.hid (sortI_len C.retired)
                have STX := Lib.hid ST7.out
                clear hkeys hlen hso
                generalize C.retired.length = nr at *
                go_wp2_with (first
                  | (go_at_call 25; refine (cKeysR br _).mono ?_; rintro e w8 ⟨rfl, rfl⟩)
                  | (go_at_call 24; refine SO.out.mono ?_; rintro e w9 ⟨RB, rc, rfl, hrow, hb9⟩; have RW9 := Lib.hid hrow; have B9 := Lib.hid hb9; obtain ⟨RB', rc', e1, hrn1, hrc1, hRB⟩ := own_form hrow; cases e1; clear hrow hb9))
                have ST9 := Lib.hid (STX.out.below B9.out)
                have RR9 := Lib.hid (show ∀ g, RB = some ⟨g, 0, none⟩ → RowAt w9 g 3 (intVals (sortI C.retired)) from fun g hg => by
                  subst hg
                  exact RowAt.of_own RW9.out)
                clear SO STX
                go_loopw [3, 102] (fun v i wx => ∃ y : Nat, i = .int .i64 y ∧ y ≤ nr ∧ NSt w wx v (X ++ (entsC C).map placedN ++ C.tombs.map tombN ++ ((sortI C.retired).take y).map retireN) ∧ (∀ g, RB = some ⟨g, 0, none⟩ → RowAt wx g 3 (intVals (sortI C.retired)))) (fun _ i _ => nr - (intOf i).toNat)
                case atStart => exact ⟨0, rfl, Nat.zero_le _, by rw [List.take_zero, List.map_nil, List.append_nil]; exact ST9.out, RR9.out⟩
                case round =>
                  obtain ⟨z, rfl, hzr, hst, hre⟩ := hrel
                  obtain ⟨wz, rfl⟩ : ∃ wz : World, wz = wr := ⟨_, rfl⟩
                  have hfm := hst.form
                  have hlz : (X ++ (entsC C).map placedN ++ C.tombs.map tombN ++ ((sortI C.retired).take z).map retireN).length ≤ n7 + z := by
                    rw [List.length_append, HN7.out, List.length_map, List.length_take]
                    omega
                  have STZ := Lib.hid hst
                  have REZ := Lib.hid hre
                  generalize hnz : (X ++ (entsC C).map placedN ++ C.tombs.map tombN ++ ((sortI C.retired).take z).map retireN).length = nz at *
                  have HNZ := Lib.hid hnz
                  obtain ⟨A8, k8, rfl, hnz1, hnz2, hA8⟩ := hfm
                  by_cases hlt5 : z < nr
                  · have d7 : decide (z < nr) = true := by simpa using hlt5
                    obtain ⟨r, hr⟩ : ∃ r, (sortI C.retired)[z]? = some r := ⟨_, List.getElem?_eq_getElem (by rw [HSI.out]; exact hlt5)⟩
                    obtain ⟨g, rfl⟩ : ∃ g, RB = some ⟨g, 0, none⟩ := by
                      rcases hRB with ⟨_, h, _⟩ | h
                      · omega
                      · exact h
                    have hgr := hre g rfl
                    have k0 : wz.cell? ⟨g, z, none⟩ = some (.int .i64 r) := hgr.cell (by unfold intVals; rw [List.getElem?_map, hr]; rfl)
                    have HTZ := Lib.hid (retire_take hr)
                    clear hst hre hgr hr hnz
                    go_wp2_with (
                      (at_builtin
                       refine wpList_append_n w _ rfl (.tmp 106) (.tmp 109) rfl _ (X ++ (entsC C).map placedN ++ C.tombs.map tombN ++ ((sortI C.retired).take z).map retireN) rfl (by exact STZ.out.below ((Below.refl _ _).alloc (Nat.le_refl _) _)) (some ⟨wz.heap.size, 0, none⟩) 1 1 [⟨retireN r, none, 0, none, 0⟩] rfl (fun e => by cases e) (by show Value.slice _ 1 1 = _; rfl) (by rw [notePVals_one1]; show SrcAt _ _ _ [.int .i64 5, encStr [], .int .i64 0, .int .i64 r, .slice none 0 0, encStr [], .int .i64 0, .slice none 0 0]; exact src_new _ _ _ _) (fun r' hr' => by
                         have e : r' = ⟨retireN r, none, 0, none, 0⟩ := by simpa using hr'
                         subst e
                         exact ⟨PartAt.nil _ _ _, PartAt.nil _ _ _⟩) (by rw [HNZ.out]; omega) ?_
                       intro v' w10 hst10 hz10 hk10 hat10
                       have ST10 := Lib.hid hst10
                       have RE10 := Lib.hid (show ∀ g', some (⟨g, 0, none⟩ : Addr) = some ⟨g', 0, none⟩ → RowAt w10 g' 3 (intVals (sortI C.retired)) from fun g' hg' => ((REZ.out g' hg').below' ((Below.refl _ _).alloc (Nat.le_refl _) _)).past (STZ.out.below ((Below.refl _ _).alloc (Nat.le_refl _) (.cells #[.int .i64 5, encStr [], .int .i64 0, .int .i64 r, .slice none 0 0, encStr [], .int .i64 0, .slice none 0 0] 26))) hk10 (by decide))
                       clear hst10 hk10 hat10))
                    go_roundw
                    case rel => exact ⟨z + 1, by go_num, hlt5, by rw [HTZ.out, ← List.append_assoc]; exact ST10.out, RE10.out⟩
                    case measure => simp [intOf]; omega
                  · have d7 : decide (z < nr) = false := by simpa using hlt5
                    obtain rfl : z = nr := by omega
                    clear hst hre
                    have hnote : X ++ (entsC C).map placedN ++ C.tombs.map tombN ++ ((sortI C.retired).take z).map retireN = notesC C := by
                      rw [List.take_of_length_le (by rw [HSI.out]; exact Nat.le_refl _)]
                      unfold notesC
                      rw [HXE.out]
                    have hstf := STZ.out
                    rw [hnote] at hnz hstf
                    have HNF := Lib.hid hnz
                    have STF := Lib.hid hstf
                    clear hnote hnz hstf
                    go_wp2_with (go_at_call 26; refine (clip_note A8 _ k8 _ hnz1 hnz2 hA8).mono ?_; rintro e w11 ⟨rfl, rfl⟩)
                    go_ret
                    refine ⟨A8, by rw [HNF.out]; rfl, ⟨k8, ?_⟩, STF.out.bel⟩
                    rw [HNF.out]
                    exact STF.out
end
end Go.Proofs.Ytmkccblcmiflfaa
