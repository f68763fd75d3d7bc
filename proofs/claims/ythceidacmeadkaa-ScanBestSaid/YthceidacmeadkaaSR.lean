/- The document's comparison of entries, in the scan's seat. No condition beyond those that each theorem states. -/
import Derived.Test.YthceidacmeadkaaSL
import Derived.Deep.SlicePairs
namespace Go.Proofs.Ythceidacmeadkaa
open Go.RowKit Go.Maps Go.WideMaps
attribute [local go_sem] Oper.semAt_some

abbrev Pls := List (Int × Int)
structure EntV where
  gen : Int
  size : Int
  sum : Str
  places : Pls
theorem SrcAt.below {w w' : World} {A : Option Addr} {n : Nat} {xs : List Value} (h : SrcAt w A n xs) (hb : Below w.heap.size w w') : SrcAt w' A n xs := by
  rcases h with h | ⟨b, off, h1, h3⟩
  · exact .inl h
  · exact .inr ⟨b, off, h1, fun j u hu => (hb.cell (p := ⟨b, off + j, none⟩) (World.block_lt_of_cell? w _ (h3 j u hu))).trans (h3 j u hu)⟩
def PlacesIn (w : World) (A : Option Addr) (n : Nat) (l : Pls) : Prop := l.length = n ∧ SrcAt w A n (placeVals l)
theorem PlacesIn.below {w w' : World} {A : Option Addr} {n : Nat} {l : Pls} (h : PlacesIn w A n l) (hb : Below w.heap.size w w') : PlacesIn w' A n l := ⟨h.1, h.2.below hb⟩
theorem ret_b {a b : Bool} (h : a = b) : Ending.returned (.bool a) = .returned (.bool b) := by rw [h]
structure EntP where
  key : Str
  e : EntV
  B : Option Addr
def EntP.cells (r : EntP) : List Value := [encStr r.key, .int .i64 r.e.gen, .int .i64 r.e.size, encStr r.e.sum, .slice r.B r.e.places.length r.e.places.length]
def entPVals (l : List EntP) : List Value := l.flatMap EntP.cells
theorem entPVals_get {PL : List EntP} {j : Nat} {r : EntP} (h : PL[j]? = some r) (t : Nat) (ht : t < 5) : (entPVals PL)[j * 5 + t]? = r.cells[t]? := by
  induction PL generalizing j with
  | nil => simp at h
  | cons x PL ih =>
    have hc : entPVals (x :: PL) = x.cells ++ entPVals PL := rfl
    rw [hc]
    cases j with
    | zero =>
      obtain rfl : x = r := by simpa using h
      rw [List.getElem?_append_left (by show 0 * 5 + t < 5; omega)]
      congr 1
      omega
    | succ j =>
      rw [List.getElem?_append_right (by show 5 ≤ _; omega), show (j + 1) * 5 + t - x.cells.length = j * 5 + t by show (j + 1) * 5 + t - 5 = _; omega]
      exact ih (by simpa using h)
def entAgg (k : Str) (v : EntV) (Q : Option Addr) (qn qc : Nat) : Value := .agg #[encStr k, .int .i64 v.gen, .int .i64 v.size, encStr v.sum, .slice Q qn qc]
noncomputable instance : DecidableEq EntV := fun a b => Classical.propDecidable (a = b)
theorem ent_ext {a b : EntV} (h1 : a.gen = b.gen) (h2 : a.size = b.size) (h3 : a.sum = b.sum) (h4 : a.places = b.places) : a = b := by
  cases a
  cases b
  simp only [EntV.mk.injEq]
  exact ⟨h1, h2, h3, h4⟩
/-- What of an entry is read. -/
structure EntRd (w : World) (v : EntV) (Q : Option Addr) (qn : Nat) : Prop where
  places : PlacesIn w Q qn v.places
  pn : qn ≤ maxLen
theorem EntRd.below {w w' : World} {v : EntV} {Q : Option Addr} {qn : Nat} (h : EntRd w v Q qn) (hb : Below w.heap.size w w') : EntRd w' v Q qn := ⟨h.places.below hb, h.pn⟩
section
set_option maxHeartbeats 4000000
set_option maxRecDepth 8000
theorem same10 (k : Str) (v : EntV) (Q : Option Addr) (qn qc : Nat) (k' : Str) (v' : EntV) (Q' : Option Addr) (qn' qc' : Nat) (w : World) (h : EntRd w v Q qn) (h' : EntRd w v' Q' qn') :
    Calls Try.prog 32 #[entAgg k v Q qn qc, entAgg k' v' Q' qn' qc'] w fun e w' => e = .returned (.bool (decide ((k, v) = (k', v')))) ∧ Below w.heap.size w w' := by
  have H := Lib.hid h
  have H' := Lib.hid h'
  clear h h'
  unfold entAgg
  go_enter Try.func32, Try.ntmps32
  go_upto_region 1 with fail
  obtain ⟨wa, hwa⟩ : ∃ wa, wa = w.alloc (.cells #[encStr k, .int .i64 v.gen, .int .i64 v.size, encStr v.sum, .slice Q qn qc] 32) := ⟨_, rfl⟩
  obtain ⟨w2, hw2⟩ : ∃ w2, w2 = wa.alloc (.cells #[encStr k', .int .i64 v'.gen, .int .i64 v'.size, encStr v'.sum, .slice Q' qn' qc'] 32) := ⟨_, rfl⟩
  have hba : Below w.heap.size w wa := by rw [hwa]; exact (Below.refl _ _).alloc (Nat.le_refl _) _
  have hba2 : Below wa.heap.size wa w2 := by rw [hw2]; exact (Below.refl _ _).alloc (Nat.le_refl _) _
  have hza : wa.heap.size = w.heap.size + 1 := by rw [hwa]; exact World.size_alloc _ _
  have BA := Lib.hid (Blk.below (show Blk wa w.heap.size 32 #[encStr k, .int .i64 v.gen, .int .i64 v.size, encStr v.sum, .slice Q qn qc] by rw [hwa]; exact Blk.made w _ _) hba2 (by omega))
  have BB := Lib.hid (show Blk w2 (w.heap.size + 1) 32 #[encStr k', .int .i64 v'.gen, .int .i64 v'.size, encStr v'.sum, .slice Q' qn' qc'] by rw [hw2, ← hza]; exact Blk.made wa _ _)
  have B2 := Lib.hid (hba.trans (hba2.mono (by omega)))
  change Code.wp _ _ _ _ ((w.alloc (.cells #[encStr k, .int .i64 v.gen, .int .i64 v.size, encStr v.sum, .slice Q qn qc] 32)).alloc (.cells #[encStr k', .int .i64 v'.gen, .int .i64 v'.size, encStr v'.sum, .slice Q' qn' qc'] 32))
  rw [← hwa, ← hw2]
  have RD := Lib.hid (H.out.below B2.out)
  have RD' := Lib.hid (H'.out.below B2.out)
  clear hba hba2 hza hwa hw2
  have q0 : w2.cell? ⟨w.heap.size, 0, none⟩ = some (encStr k) := BA.out.cell 0
  have r0 : w2.cell? ⟨w.heap.size + 1, 0, none⟩ = some (encStr k') := BB.out.cell 0
  have q1 : w2.cell? ⟨w.heap.size, 1, none⟩ = some (.int .i64 v.gen) := BA.out.cell 1
  have r1 : w2.cell? ⟨w.heap.size + 1, 1, none⟩ = some (.int .i64 v'.gen) := BB.out.cell 1
  have q2 : w2.cell? ⟨w.heap.size, 2, none⟩ = some (.int .i64 v.size) := BA.out.cell 2
  have r2 : w2.cell? ⟨w.heap.size + 1, 2, none⟩ = some (.int .i64 v'.size) := BB.out.cell 2
  have q3 : w2.cell? ⟨w.heap.size, 3, none⟩ = some (encStr v.sum) := BA.out.cell 3
  have r3 : w2.cell? ⟨w.heap.size + 1, 3, none⟩ = some (encStr v'.sum) := BB.out.cell 3
  have q4 : w2.cell? ⟨w.heap.size, 4, none⟩ = some (.slice Q qn qc) := BA.out.cell 4
  have r4 : w2.cell? ⟨w.heap.size + 1, 4, none⟩ = some (.slice Q' qn' qc') := BB.out.cell 4
  by_cases k1 : k = k'
  case neg =>
    have e1 : (k == k') = false := by simpa using k1
    have r := decide_eq_false (fun e : (k, v) = (k', v') => k1 (Prod.mk.inj e).1)
    clear k1
    go_wp2_with fail
    go_ret
    exact ⟨ret_b r.symm, B2.out⟩
  have e1 : (k == k') = true := by simpa using k1
  have K1 := Lib.hid k1
  clear k1
  by_cases k2 : v.gen = v'.gen
  case neg =>
    have e2 : (v.gen != v'.gen) = true := by simpa using k2
    have r := decide_eq_false (fun e : (k, v) = (k', v') => k2 (by rw [(Prod.mk.inj e).2]))
    clear k2
    go_wp2_with fail
    go_ret
    exact ⟨ret_b r.symm, B2.out⟩
  have e2 : (v.gen != v'.gen) = false := by simpa using k2
  have K2 := Lib.hid k2
  clear k2
  by_cases k3 : v.size = v'.size
  case neg =>
    have e3 : (v.size != v'.size) = true := by simpa using k3
    have r := decide_eq_false (fun e : (k, v) = (k', v') => k3 (by rw [(Prod.mk.inj e).2]))
    clear k3
    go_wp2_with fail
    go_ret
    exact ⟨ret_b r.symm, B2.out⟩
  have e3 : (v.size != v'.size) = false := by simpa using k3
  have K3 := Lib.hid k3
  clear k3
  by_cases k4 : v.sum = v'.sum
  case neg =>
    have e4 : (v.sum == v'.sum) = false := by simpa using k4
    have r := decide_eq_false (fun e : (k, v) = (k', v') => k4 (by rw [(Prod.mk.inj e).2]))
    clear k4
    go_wp2_with fail
    go_ret
    exact ⟨ret_b r.symm, B2.out⟩
  have e4 : (v.sum == v'.sum) = true := by simpa using k4
  have K4 := Lib.hid k4
  clear k4
  by_cases k8 : qn = qn'
  case neg =>
    have e8 : ((qn : Int) != (qn' : Int)) = true := by simp; omega
    have r := decide_eq_false (fun e : (k, v) = (k', v') => k8 (by injection e with e1 e2; rw [← RD.out.places.1, ← RD'.out.places.1, e2]))
    clear k8
    go_wp2_with fail
    go_ret
    exact ⟨ret_b r.symm, B2.out⟩
  subst k8
  have e8 : ((qn : Int) != (qn : Int)) = false := by simp
  go_wp2_with fail
  have hpn : qn ≤ maxLen := RD.out.pn
  have hp63 : qn ≤ 9223372036854775807 := by simp only [maxLen] at hpn; exact hpn
  have PL := Lib.hid RD.out.places
  have PL' := Lib.hid RD'.out.places
  clear hpn e8
  go_loopw [5] (fun i wx => ∃ j : Nat, i = .int .i64 j ∧ j ≤ qn ∧ v.places.take j = v'.places.take j ∧ Below w2.heap.size w2 wx) (fun i _ => qn - (intOf i).toNat)
  case atStart => exact ⟨0, rfl, Nat.zero_le _, rfl, Below.refl _ _⟩
  case round =>
    obtain ⟨j, rfl, hj, heq, hbl⟩ := hrel
    have hz := hbl.size
    have BL := Lib.hid hbl
    have HEQ := Lib.hid heq
    have s7 : wr.cell? ⟨w.heap.size, 4, none⟩ = some (.slice Q qn qc) := (hbl.cell (p := ⟨w.heap.size, 4, none⟩) BA.out.size).trans q4
    have t7 : wr.cell? ⟨w.heap.size + 1, 4, none⟩ = some (.slice Q' qn qc') := (hbl.cell (p := ⟨w.heap.size + 1, 4, none⟩) BB.out.size).trans r4
    clear q0 q1 q2 q3 q4 r0 r1 r2 r3 r4 heq
    by_cases hlt : j < qn
    · have d1 : decide (j < qn) = true := by simpa using hlt
      obtain ⟨x, hx⟩ : ∃ x, v.places[j]? = some x := ⟨_, List.getElem?_eq_getElem (by rw [PL.out.1]; exact hlt)⟩
      obtain ⟨y, hy⟩ : ∃ y, v'.places[j]? = some y := ⟨_, List.getElem?_eq_getElem (by rw [PL'.out.1]; exact hlt)⟩
      obtain ⟨b, off, rfl, hc⟩ : ∃ b off, Q = some ⟨b, off, none⟩ ∧ ∀ j u, (placeVals v.places)[j]? = some u → wr.cell? ⟨b, off + j, none⟩ = some u := by
        rcases PL.out.2.below hbl with ⟨h0, _⟩ | ⟨b, off, h1, h2⟩
        · omega
        · exact ⟨b, off, h1, h2⟩
      obtain ⟨b', off', rfl, hc'⟩ : ∃ b off, Q' = some ⟨b, off, none⟩ ∧ ∀ j u, (placeVals v'.places)[j]? = some u → wr.cell? ⟨b, off + j, none⟩ = some u := by
        rcases PL'.out.2.below hbl with ⟨h0, _⟩ | ⟨b, off, h1, h2⟩
        · omega
        · exact ⟨b, off, h1, h2⟩
      have x0 : wr.cell? ⟨b, off + j * 2, none⟩ = some (.int .i64 x.1) := hc _ _ (placeVals_get hx).1
      have x1 : wr.cell? ⟨b, off + (j * 2 + 1), none⟩ = some (.int .i64 x.2) := hc _ _ (placeVals_get hx).2
      have y0 : wr.cell? ⟨b', off' + j * 2, none⟩ = some (.int .i64 y.1) := hc' _ _ (placeVals_get hy).1
      have y1 : wr.cell? ⟨b', off' + (j * 2 + 1), none⟩ = some (.int .i64 y.2) := hc' _ _ (placeVals_get hy).2
      have x1' : wr.cell? ⟨b, off + j * 2 + 1, none⟩ = some (.int .i64 x.2) := by rw [Nat.add_assoc]; exact x1
      have y1' : wr.cell? ⟨b', off' + j * 2 + 1, none⟩ = some (.int .i64 y.2) := by rw [Nat.add_assoc]; exact y1
      have HX := Lib.hid hx
      have HY := Lib.hid hy
      clear hx hy hbl hc hc'
      by_cases n1 : x.1 = y.1
      case neg =>
        have f1 : (x.1 != y.1) = true := by simpa using n1
        have r := decide_eq_false (fun e : (k, v) = (k', v') => n1 (by injection e with e1 e2; have h := HX.out; rw [e2, HY.out] at h; injection h with h; rw [h]))
        clear n1
        go_wp2_with fail
        go_quiet (fail)
        go_wp2_with fail
        go_ret
        exact ⟨ret_b r.symm, below_drewN (B2.out.trans (BL.out.mono B2.out.size)) _⟩
      have f1 : (x.1 != y.1) = false := by simpa using n1
      by_cases n2 : x.2 = y.2
      case neg =>
        have f2 : (x.2 != y.2) = true := by simpa using n2
        have r := decide_eq_false (fun e : (k, v) = (k', v') => n2 (by injection e with e1 e2; have h := HX.out; rw [e2, HY.out] at h; injection h with h; rw [h]))
        clear n1 n2
        go_wp2_with fail
        go_quiet (fail)
        go_wp2_with fail
        go_ret
        exact ⟨ret_b r.symm, below_drewN (B2.out.trans (BL.out.mono B2.out.size)) _⟩
      have f2 : (x.2 != y.2) = false := by simpa using n2
      have HE1 := Lib.hid (show x = y from Prod.ext n1 n2)
      clear n1 n2
      go_wp2_with fail
      go_quiet (fail)
      go_wp2_with fail
      go_roundw
      case rel => exact ⟨j + 1, by go_num, hlt, by rw [List.take_add_one, List.take_add_one, HX.out, HY.out, HEQ.out, HE1.out], below_drewN BL.out _⟩
      case measure => simp [intOf]; omega
    · have d1 : decide (j < qn) = false := by simpa using hlt
      obtain rfl : j = qn := by omega
      have r := decide_eq_true (show (k, v) = (k', v') by
        have h8 := HEQ.out
        rw [List.take_of_length_le (Nat.le_of_eq PL.out.1), List.take_of_length_le (Nat.le_of_eq PL'.out.1)] at h8
        rw [K1.out, ent_ext K2.out K3.out K4.out h8])
      go_wp2_with fail
      go_ret
      exact ⟨ret_b r.symm, B2.out.trans (BL.out.mono B2.out.size)⟩
end
/-- A row of entries that is read. -/
structure EntsRd (w : World) (A : Option Addr) (n : Nat) (EP : List EntP) : Prop where
  len : EP.length = n
  row : SrcAt w A n (entPVals EP)
  ok : ∀ r ∈ EP, EntRd w r.e r.B r.e.places.length
  max : n ≤ maxLen
theorem EntsRd.below {w w' : World} {A : Option Addr} {n : Nat} {EP : List EntP} (h : EntsRd w A n EP) (hb : Below w.heap.size w w') : EntsRd w' A n EP := ⟨h.len, h.row.below hb, fun r hr => (h.ok r hr).below hb, h.max⟩
theorem ent_cel {w : World} {b off : Nat} {EP : List EntP} {j : Nat} {r : EntP} (hc : ∀ j u, (entPVals EP)[j]? = some u → w.cell? ⟨b, off + j, none⟩ = some u) (hr : EP[j]? = some r) (t : Nat) (ht : t < 5) {u : Value} (hu : r.cells[t]? = some u) : w.cell? ⟨b, off + j * 5 + t, none⟩ = some u := by
  rw [Nat.add_assoc]
  exact hc _ _ (by rw [entPVals_get hr t ht, hu])
def entK (r : EntP) : Str × EntV := (r.key, r.e)
section
set_option maxHeartbeats 4000000
set_option maxRecDepth 16000
theorem alike10 (A : Option Addr) (n c : Nat) (EP : List EntP) (A' : Option Addr) (n' c' : Nat) (EP' : List EntP) (w : World) (h : EntsRd w A n EP) (h' : EntsRd w A' n' EP') :
    Calls Try.prog 13 #[.slice A n c, .slice A' n' c'] w fun e w' => e = .returned (.bool (decide (EP.map entK = EP'.map entK))) ∧ Below w.heap.size w w' := by
  have H := Lib.hid h
  have H' := Lib.hid h'
  have h63 : n ≤ 9223372036854775807 := by have := h.max; simpa [maxLen] using this
  clear h h'
  by_cases hn : n = n'
  case neg =>
    have r := decide_eq_false (fun e : EP.map entK = EP'.map entK => hn (by have h := congrArg List.length e; rw [List.length_map, List.length_map, H.out.len, H'.out.len] at h; exact h))
    have e1 : ((n : Int) != (n' : Int)) = true := by simp; omega
    clear hn
    go_enter Try.func13, Try.ntmps13
    go_wp2_with fail
    go_ret
    exact ⟨ret_b r.symm, Below.refl _ _⟩
  subst hn
  go_enter Try.func13, Try.ntmps13
  go_wp2_with fail
  go_loopw [5] (fun i wx => ∃ j : Nat, i = .int .i64 j ∧ j ≤ n ∧ (EP.map entK).take j = (EP'.map entK).take j ∧ Below w.heap.size w wx) (fun i _ => n - (intOf i).toNat)
  case atStart => exact ⟨0, rfl, Nat.zero_le _, rfl, Below.refl _ _⟩
  case round =>
    obtain ⟨j, rfl, hj, heq, hbl⟩ := hrel
    have hz := hbl.size
    have BL := Lib.hid hbl
    have HEQ := Lib.hid heq
    by_cases hlt : j < n
    · have d1 : decide (j < n) = true := by simpa using hlt
      obtain ⟨r, hr⟩ : ∃ x, EP[j]? = some x := ⟨_, List.getElem?_eq_getElem (by rw [H.out.len]; exact hlt)⟩
      obtain ⟨r', hr'⟩ : ∃ y, EP'[j]? = some y := ⟨_, List.getElem?_eq_getElem (by rw [H'.out.len]; exact hlt)⟩
      obtain ⟨b, off, rfl, hc⟩ : ∃ b off, A = some ⟨b, off, none⟩ ∧ ∀ j u, (entPVals EP)[j]? = some u → wr.cell? ⟨b, off + j, none⟩ = some u := by
        rcases H.out.row.below hbl with ⟨h0, _⟩ | ⟨b, off, h1, h2⟩
        · omega
        · exact ⟨b, off, h1, h2⟩
      obtain ⟨b', off', rfl, hc'⟩ : ∃ b off, A' = some ⟨b, off, none⟩ ∧ ∀ j u, (entPVals EP')[j]? = some u → wr.cell? ⟨b, off + j, none⟩ = some u := by
        rcases H'.out.row.below hbl with ⟨h0, _⟩ | ⟨b, off, h1, h2⟩
        · omega
        · exact ⟨b, off, h1, h2⟩
      have x0 : wr.cell? ⟨b, off + j * 5, none⟩ = some (encStr r.key) := ent_cel hc hr 0 (by omega) rfl
      have x1 : wr.cell? ⟨b, off + j * 5 + 1, none⟩ = some (.int .i64 r.e.gen) := ent_cel hc hr 1 (by omega) rfl
      have x2 : wr.cell? ⟨b, off + j * 5 + 2, none⟩ = some (.int .i64 r.e.size) := ent_cel hc hr 2 (by omega) rfl
      have x3 : wr.cell? ⟨b, off + j * 5 + 3, none⟩ = some (encStr r.e.sum) := ent_cel hc hr 3 (by omega) rfl
      have x4 : wr.cell? ⟨b, off + j * 5 + 4, none⟩ = some (.slice r.B r.e.places.length r.e.places.length) := ent_cel hc hr 4 (by omega) rfl
      have y0 : wr.cell? ⟨b', off' + j * 5, none⟩ = some (encStr r'.key) := ent_cel hc' hr' 0 (by omega) rfl
      have y1 : wr.cell? ⟨b', off' + j * 5 + 1, none⟩ = some (.int .i64 r'.e.gen) := ent_cel hc' hr' 1 (by omega) rfl
      have y2 : wr.cell? ⟨b', off' + j * 5 + 2, none⟩ = some (.int .i64 r'.e.size) := ent_cel hc' hr' 2 (by omega) rfl
      have y3 : wr.cell? ⟨b', off' + j * 5 + 3, none⟩ = some (encStr r'.e.sum) := ent_cel hc' hr' 3 (by omega) rfl
      have y4 : wr.cell? ⟨b', off' + j * 5 + 4, none⟩ = some (.slice r'.B r'.e.places.length r'.e.places.length) := ent_cel hc' hr' 4 (by omega) rfl
      have RR := Lib.hid (show EntRd wr.drew r.e r.B r.e.places.length from ((H.out.ok r (List.mem_of_getElem? hr)).below hbl).below ⟨rfl, rfl, rfl, Nat.le_refl _, fun _ _ => rfl⟩)
      have RR' := Lib.hid (show EntRd wr.drew r'.e r'.B r'.e.places.length from ((H'.out.ok r' (List.mem_of_getElem? hr')).below hbl).below ⟨rfl, rfl, rfl, Nat.le_refl _, fun _ _ => rfl⟩)
      have HX := Lib.hid hr
      have HY := Lib.hid hr'
      have hlb : b < wr.heap.size := World.block_lt_of_cell? _ _ x0
      have hlb' : b' < wr.heap.size := World.block_lt_of_cell? _ _ y0
      clear hr hr' hbl hc hc' heq
      go_upto_region 6 with fail
      by_cases n1 : (r.key, r.e) = (r'.key, r'.e)
      case neg =>
        have f1 : decide ((r.key, r.e) = (r'.key, r'.e)) = false := decide_eq_false n1
        have q := decide_eq_false (fun e : EP.map entK = EP'.map entK => n1 (by
          have h1 : (EP.map entK)[j]? = some (entK r) := by rw [List.getElem?_map, HX.out]; rfl
          have h2 : (EP'.map entK)[j]? = some (entK r') := by rw [List.getElem?_map, HY.out]; rfl
          rw [e, h2] at h1
          injection h1 with h1
          exact h1.symm))
        clear n1
        refine wp_region_held_drew (S := (fun w' => w'.cell? ⟨b, off + j * 5, none⟩ = some (encStr r.key) ∧ w'.cell? ⟨b, off + j * 5 + 1, none⟩ = some (.int .i64 r.e.gen) ∧ w'.cell? ⟨b, off + j * 5 + 2, none⟩ = some (.int .i64 r.e.size) ∧ w'.cell? ⟨b, off + j * 5 + 3, none⟩ = some (encStr r.e.sum) ∧ w'.cell? ⟨b, off + j * 5 + 4, none⟩ = some (.slice r.B r.e.places.length r.e.places.length) ∧ w'.cell? ⟨b', off' + j * 5, none⟩ = some (encStr r'.key) ∧ w'.cell? ⟨b', off' + j * 5 + 1, none⟩ = some (.int .i64 r'.e.gen) ∧ w'.cell? ⟨b', off' + j * 5 + 2, none⟩ = some (.int .i64 r'.e.size) ∧ w'.cell? ⟨b', off' + j * 5 + 3, none⟩ = some (encStr r'.e.sum) ∧ w'.cell? ⟨b', off' + j * 5 + 4, none⟩ = some (.slice r'.B r'.e.places.length r'.e.places.length))) (by kernel_rfl) ⟨x0, x1, x2, x3, x4, y0, y1, y2, y3, y4⟩ (fun hHeld => ?_)
        refine wpAnyH_take (i := 0) (v := ?vEan10) (take_list rfl) (by kernel_rfl) (by kernel_rfl) (by kernel_rfl) (fun _ _ _ h => h) (Or.inl ⟨by rfl, ?hyEan10⟩) (by assumption) ?restEan10
        case hyEan10 => (intro w hSw; (try dsimp only at hSw); go_simp <;> with_reducible rfl)
        try simp only [Act.put, List.setIfInBounds_toArray, List.set_cons_zero, List.set_cons_succ]
        refine wpAnyH_take (i := 1) (v := ?vEan11) (take_list rfl) (by kernel_rfl) (by kernel_rfl) (by kernel_rfl) (fun _ _ _ h => h) (Or.inl ⟨by rfl, ?hyEan11⟩) (by assumption) ?restEan11
        case hyEan11 => (intro w hSw; (try dsimp only at hSw); go_simp <;> with_reducible rfl)
        try simp only [Act.put, List.setIfInBounds_toArray, List.set_cons_zero, List.set_cons_succ]
        refine wpAnyH_take (i := 2) (v := ?vEan12) (take_list rfl) (by kernel_rfl) (by kernel_rfl) (by kernel_rfl) (fun _ _ _ h => h) (Or.inl ⟨by rfl, ?hyEan12⟩) (by assumption) ?restEan12
        case hyEan12 => (intro w hSw; (try dsimp only at hSw); go_simp <;> with_reducible rfl)
        try simp only [Act.put, List.setIfInBounds_toArray, List.set_cons_zero, List.set_cons_succ]
        refine wpAnyH_take (i := 3) (v := ?vEan13) (take_list rfl) (by kernel_rfl) (by kernel_rfl) (by kernel_rfl) (fun _ _ _ h => h) (Or.inl ⟨by rfl, ?hyEan13⟩) (by assumption) ?restEan13
        case hyEan13 => (intro w hSw; (try dsimp only at hSw); go_simp <;> with_reducible rfl)
        try simp only [Act.put, List.setIfInBounds_toArray, List.set_cons_zero, List.set_cons_succ]
        refine wpAnyH_take (i := 4) (v := ?vEan14) (take_list rfl) (by kernel_rfl) (by kernel_rfl) (by kernel_rfl) (fun _ _ _ h => h) (Or.inl ⟨by rfl, ?hyEan14⟩) (by assumption) ?restEan14
        case hyEan14 => (intro w hSw; (try dsimp only at hSw); go_simp <;> with_reducible rfl)
        try simp only [Act.put, List.setIfInBounds_toArray, List.set_cons_zero, List.set_cons_succ]
        refine wpAnyH_take (i := 5) (v := ?vEan15) (take_list rfl) (by kernel_rfl) (by kernel_rfl) (by kernel_rfl) (fun _ _ _ h => h) (Or.inl ⟨by rfl, ?hyEan15⟩) (by assumption) ?restEan15
        case hyEan15 => (intro w hSw; (try dsimp only at hSw); go_simp <;> with_reducible rfl)
        try simp only [Act.put, List.setIfInBounds_toArray, List.set_cons_zero, List.set_cons_succ]
        refine wpAnyH_take (i := 6) (v := ?vEan16) (take_list rfl) (by kernel_rfl) (by kernel_rfl) (by kernel_rfl) (fun _ _ _ h => h) (Or.inl ⟨by rfl, ?hyEan16⟩) (by assumption) ?restEan16
        case hyEan16 => (intro w hSw; (try dsimp only at hSw); go_simp <;> with_reducible rfl)
        try simp only [Act.put, List.setIfInBounds_toArray, List.set_cons_zero, List.set_cons_succ]
        refine wpAnyH_take (i := 7) (v := ?vEan17) (take_list rfl) (by kernel_rfl) (by kernel_rfl) (by kernel_rfl) (fun _ _ _ h => h) (Or.inl ⟨by rfl, ?hyEan17⟩) (by assumption) ?restEan17
        case hyEan17 => (intro w hSw; (try dsimp only at hSw); go_simp <;> with_reducible rfl)
        try simp only [Act.put, List.setIfInBounds_toArray, List.set_cons_zero, List.set_cons_succ]
        refine wpAnyH_ready (rs := [8]) (by kernel_rfl) (by simp) ?_
        refine AllReadyH.cons rfl (fun K hK => ?_) AllReadyH.nil
        go_simp
        go_wp2_with (go_at_call 32; refine (same10 r.key r.e r.B r.e.places.length r.e.places.length r'.key r'.e r'.B r'.e.places.length r'.e.places.length _ (by exact RR.out) (by exact RR'.out)).mono ?_; rw [f1]; rintro e w3 ⟨rfl, hb3⟩; have B3 := Lib.hid (show Below wr.heap.size wr w3 from ⟨hb3.os, hb3.tape, hb3.output, hb3.size, hb3.block⟩); clear hb3)
        clear hHeld
        refine hK.out _ _ ⟨(B3.out.cell (p := ⟨b, _, none⟩) hlb).trans x0, (B3.out.cell (p := ⟨b, _, none⟩) hlb).trans x1, (B3.out.cell (p := ⟨b, _, none⟩) hlb).trans x2, (B3.out.cell (p := ⟨b, _, none⟩) hlb).trans x3, (B3.out.cell (p := ⟨b, _, none⟩) hlb).trans x4, (B3.out.cell (p := ⟨b', _, none⟩) hlb').trans y0, (B3.out.cell (p := ⟨b', _, none⟩) hlb').trans y1, (B3.out.cell (p := ⟨b', _, none⟩) hlb').trans y2, (B3.out.cell (p := ⟨b', _, none⟩) hlb').trans y3, (B3.out.cell (p := ⟨b', _, none⟩) hlb').trans y4⟩ (fun hHeld => ?_)
        clear hK K
        refine wpAnyH_take (i := 9) (v := ?vEan19) (take_list rfl) (by kernel_rfl) (by kernel_rfl) (by kernel_rfl) (fun _ _ _ h => h) (Or.inl ⟨by rfl, ?hyEan19⟩) (by assumption) ?restEan19
        case hyEan19 => (intro w hSw; (try dsimp only at hSw); go_simp <;> with_reducible rfl)
        try simp only [Act.put, List.setIfInBounds_toArray, List.set_cons_zero, List.set_cons_succ]
        refine wpAnyH_done (by kernel_rfl) ?_ _
        go_wp2_with fail
        go_ret
        exact ⟨ret_b q.symm, BL.out.trans (B3.out.mono hz)⟩
      have f1 : decide ((r.key, r.e) = (r'.key, r'.e)) = true := decide_eq_true n1
      have HE1 := Lib.hid n1
      clear n1
      refine wp_region_held_drew (S := (fun w' => w'.cell? ⟨b, off + j * 5, none⟩ = some (encStr r.key) ∧ w'.cell? ⟨b, off + j * 5 + 1, none⟩ = some (.int .i64 r.e.gen) ∧ w'.cell? ⟨b, off + j * 5 + 2, none⟩ = some (.int .i64 r.e.size) ∧ w'.cell? ⟨b, off + j * 5 + 3, none⟩ = some (encStr r.e.sum) ∧ w'.cell? ⟨b, off + j * 5 + 4, none⟩ = some (.slice r.B r.e.places.length r.e.places.length) ∧ w'.cell? ⟨b', off' + j * 5, none⟩ = some (encStr r'.key) ∧ w'.cell? ⟨b', off' + j * 5 + 1, none⟩ = some (.int .i64 r'.e.gen) ∧ w'.cell? ⟨b', off' + j * 5 + 2, none⟩ = some (.int .i64 r'.e.size) ∧ w'.cell? ⟨b', off' + j * 5 + 3, none⟩ = some (encStr r'.e.sum) ∧ w'.cell? ⟨b', off' + j * 5 + 4, none⟩ = some (.slice r'.B r'.e.places.length r'.e.places.length))) (by kernel_rfl) ⟨x0, x1, x2, x3, x4, y0, y1, y2, y3, y4⟩ (fun hHeld => ?_)
      refine wpAnyH_take (i := 0) (v := ?vEbn20) (take_list rfl) (by kernel_rfl) (by kernel_rfl) (by kernel_rfl) (fun _ _ _ h => h) (Or.inl ⟨by rfl, ?hyEbn20⟩) (by assumption) ?restEbn20
      case hyEbn20 => (intro w hSw; (try dsimp only at hSw); go_simp <;> with_reducible rfl)
      try simp only [Act.put, List.setIfInBounds_toArray, List.set_cons_zero, List.set_cons_succ]
      refine wpAnyH_take (i := 1) (v := ?vEbn21) (take_list rfl) (by kernel_rfl) (by kernel_rfl) (by kernel_rfl) (fun _ _ _ h => h) (Or.inl ⟨by rfl, ?hyEbn21⟩) (by assumption) ?restEbn21
      case hyEbn21 => (intro w hSw; (try dsimp only at hSw); go_simp <;> with_reducible rfl)
      try simp only [Act.put, List.setIfInBounds_toArray, List.set_cons_zero, List.set_cons_succ]
      refine wpAnyH_take (i := 2) (v := ?vEbn22) (take_list rfl) (by kernel_rfl) (by kernel_rfl) (by kernel_rfl) (fun _ _ _ h => h) (Or.inl ⟨by rfl, ?hyEbn22⟩) (by assumption) ?restEbn22
      case hyEbn22 => (intro w hSw; (try dsimp only at hSw); go_simp <;> with_reducible rfl)
      try simp only [Act.put, List.setIfInBounds_toArray, List.set_cons_zero, List.set_cons_succ]
      refine wpAnyH_take (i := 3) (v := ?vEbn23) (take_list rfl) (by kernel_rfl) (by kernel_rfl) (by kernel_rfl) (fun _ _ _ h => h) (Or.inl ⟨by rfl, ?hyEbn23⟩) (by assumption) ?restEbn23
      case hyEbn23 => (intro w hSw; (try dsimp only at hSw); go_simp <;> with_reducible rfl)
      try simp only [Act.put, List.setIfInBounds_toArray, List.set_cons_zero, List.set_cons_succ]
      refine wpAnyH_take (i := 4) (v := ?vEbn24) (take_list rfl) (by kernel_rfl) (by kernel_rfl) (by kernel_rfl) (fun _ _ _ h => h) (Or.inl ⟨by rfl, ?hyEbn24⟩) (by assumption) ?restEbn24
      case hyEbn24 => (intro w hSw; (try dsimp only at hSw); go_simp <;> with_reducible rfl)
      try simp only [Act.put, List.setIfInBounds_toArray, List.set_cons_zero, List.set_cons_succ]
      refine wpAnyH_take (i := 5) (v := ?vEbn25) (take_list rfl) (by kernel_rfl) (by kernel_rfl) (by kernel_rfl) (fun _ _ _ h => h) (Or.inl ⟨by rfl, ?hyEbn25⟩) (by assumption) ?restEbn25
      case hyEbn25 => (intro w hSw; (try dsimp only at hSw); go_simp <;> with_reducible rfl)
      try simp only [Act.put, List.setIfInBounds_toArray, List.set_cons_zero, List.set_cons_succ]
      refine wpAnyH_take (i := 6) (v := ?vEbn26) (take_list rfl) (by kernel_rfl) (by kernel_rfl) (by kernel_rfl) (fun _ _ _ h => h) (Or.inl ⟨by rfl, ?hyEbn26⟩) (by assumption) ?restEbn26
      case hyEbn26 => (intro w hSw; (try dsimp only at hSw); go_simp <;> with_reducible rfl)
      try simp only [Act.put, List.setIfInBounds_toArray, List.set_cons_zero, List.set_cons_succ]
      refine wpAnyH_take (i := 7) (v := ?vEbn27) (take_list rfl) (by kernel_rfl) (by kernel_rfl) (by kernel_rfl) (fun _ _ _ h => h) (Or.inl ⟨by rfl, ?hyEbn27⟩) (by assumption) ?restEbn27
      case hyEbn27 => (intro w hSw; (try dsimp only at hSw); go_simp <;> with_reducible rfl)
      try simp only [Act.put, List.setIfInBounds_toArray, List.set_cons_zero, List.set_cons_succ]
      refine wpAnyH_ready (rs := [8]) (by kernel_rfl) (by simp) ?_
      refine AllReadyH.cons rfl (fun K hK => ?_) AllReadyH.nil
      go_simp
      go_wp2_with (go_at_call 32; refine (same10 r.key r.e r.B r.e.places.length r.e.places.length r'.key r'.e r'.B r'.e.places.length r'.e.places.length _ (by exact RR.out) (by exact RR'.out)).mono ?_; rw [f1]; rintro e w3 ⟨rfl, hb3⟩; have B3 := Lib.hid (show Below wr.heap.size wr w3 from ⟨hb3.os, hb3.tape, hb3.output, hb3.size, hb3.block⟩); clear hb3)
      clear hHeld
      refine hK.out _ _ ⟨(B3.out.cell (p := ⟨b, _, none⟩) hlb).trans x0, (B3.out.cell (p := ⟨b, _, none⟩) hlb).trans x1, (B3.out.cell (p := ⟨b, _, none⟩) hlb).trans x2, (B3.out.cell (p := ⟨b, _, none⟩) hlb).trans x3, (B3.out.cell (p := ⟨b, _, none⟩) hlb).trans x4, (B3.out.cell (p := ⟨b', _, none⟩) hlb').trans y0, (B3.out.cell (p := ⟨b', _, none⟩) hlb').trans y1, (B3.out.cell (p := ⟨b', _, none⟩) hlb').trans y2, (B3.out.cell (p := ⟨b', _, none⟩) hlb').trans y3, (B3.out.cell (p := ⟨b', _, none⟩) hlb').trans y4⟩ (fun hHeld => ?_)
      clear hK K
      refine wpAnyH_take (i := 9) (v := ?vEbn29) (take_list rfl) (by kernel_rfl) (by kernel_rfl) (by kernel_rfl) (fun _ _ _ h => h) (Or.inl ⟨by rfl, ?hyEbn29⟩) (by assumption) ?restEbn29
      case hyEbn29 => (intro w hSw; (try dsimp only at hSw); go_simp <;> with_reducible rfl)
      try simp only [Act.put, List.setIfInBounds_toArray, List.set_cons_zero, List.set_cons_succ]
      refine wpAnyH_done (by kernel_rfl) ?_ _
      go_wp2_with fail
      go_roundw
      case rel => exact ⟨j + 1, by go_num, hlt, by rw [List.take_add_one, List.take_add_one, List.getElem?_map, List.getElem?_map, HX.out, HY.out, HEQ.out, Option.map_some, Option.map_some, show entK r = entK r' from HE1.out], BL.out.trans (B3.out.mono hz)⟩
      case measure => simp [intOf]; omega
    · have d1 : decide (j < n) = false := by simpa using hlt
      obtain rfl : j = n := by omega
      have q := decide_eq_true (show EP.map entK = EP'.map entK by
        have h8 := HEQ.out
        rwa [List.take_of_length_le (by rw [List.length_map, H.out.len]; exact Nat.le_refl _), List.take_of_length_le (by rw [List.length_map, H'.out.len]; exact Nat.le_refl _)] at h8)
      go_wp2_with fail
      go_ret
      exact ⟨by first | rfl | exact ret_b q.symm, BL.out⟩
end
end Go.Proofs.Ythceidacmeadkaa
