/- The document's comparison of two entries; what no catalog answers. No condition beyond those that each theorem states. -/
import Derived.Test.YtmkccblcmiflfaaGreatKC31
namespace Go.Proofs.YtmkccblcmiflfaaGreat
open Go.RowKit Go.Maps Go.WideMaps

def entAgg (k : Str) (v : EntV) (Q : Option Addr) (qn qc : Nat) : Value := .agg #[encStr k, .int .i64 v.gen, .int .i64 v.size, encStr v.sum, .slice Q qn qc]
noncomputable instance : DecidableEq EntV := fun a b => Classical.propDecidable (a = b)
theorem ent_ext {a b : EntV} (h1 : a.gen = b.gen) (h2 : a.size = b.size) (h3 : a.sum = b.sum) (h4 : a.places = b.places) : a = b := by
  cases a
  cases b
  simp only [EntV.mk.injEq]
  exact ⟨h1, h2, h3, h4⟩
/-- What of an entry is read. -/
structure EntRd (w : World) (v : EntV) (Q : Option Addr) (qn : Nat) : Prop where
  places : PlacesIn w Q qn v.places
  pn : qn ≤ maxLen
theorem EntRd.below {w w' : World} {v : EntV} {Q : Option Addr} {qn : Nat} (h : EntRd w v Q qn) (hb : Below w.heap.size w w') : EntRd w' v Q qn := ⟨h.places.below hb, h.pn⟩
section
set_option maxHeartbeats 4000000
set_option maxRecDepth 8000
theorem same10 (k : Str) (v : EntV) (Q : Option Addr) (qn qc : Nat) (k' : Str) (v' : EntV) (Q' : Option Addr) (qn' qc' : Nat) (w : World) (h : EntRd w v Q qn) (h' : EntRd w v' Q' qn') :
    Calls Tryz.prog 28 #[entAgg k v Q qn qc, entAgg k' v' Q' qn' qc'] w fun e w' => e = .returned (.bool (decide ((k, v) = (k', v')))) ∧ Below w.heap.size w w' := by
  have H := Lib.hid h
  have H' := Lib.hid h'
  clear h h'
  unfold entAgg
  go_enter Tryz.func28, Tryz.ntmps28
  go_upto_region 1 with fail
  obtain ⟨wa, hwa⟩ : ∃ wa, wa = w.alloc (.cells #[encStr k, .int .i64 v.gen, .int .i64 v.size, encStr v.sum, .slice Q qn qc] 43) := ⟨_, rfl⟩
  obtain ⟨w2, hw2⟩ : ∃ w2, w2 = wa.alloc (.cells #[encStr k', .int .i64 v'.gen, .int .i64 v'.size, encStr v'.sum, .slice Q' qn' qc'] 43) := ⟨_, rfl⟩
  have hba : Below w.heap.size w wa := by rw [hwa]; exact (Below.refl _ _).alloc (Nat.le_refl _) _
  have hba2 : Below wa.heap.size wa w2 := by rw [hw2]; exact (Below.refl _ _).alloc (Nat.le_refl _) _
  have hza : wa.heap.size = w.heap.size + 1 := by rw [hwa]; exact World.size_alloc _ _
  have BA := Lib.hid (Blk.below (show Blk wa w.heap.size 43 #[encStr k, .int .i64 v.gen, .int .i64 v.size, encStr v.sum, .slice Q qn qc] by rw [hwa]; exact Blk.made w _ _) hba2 (by omega))
  have BB := Lib.hid (show Blk w2 (w.heap.size + 1) 43 #[encStr k', .int .i64 v'.gen, .int .i64 v'.size, encStr v'.sum, .slice Q' qn' qc'] by rw [hw2, ← hza]; exact Blk.made wa _ _)
  have B2 := Lib.hid (hba.trans (hba2.mono (by omega)))
  change Code.wp _ _ _ _ ((w.alloc (.cells #[encStr k, .int .i64 v.gen, .int .i64 v.size, encStr v.sum, .slice Q qn qc] 43)).alloc (.cells #[encStr k', .int .i64 v'.gen, .int .i64 v'.size, encStr v'.sum, .slice Q' qn' qc'] 43))
  rw [← hwa, ← hw2]
  have RD := Lib.hid (H.out.below B2.out)
  have RD' := Lib.hid (H'.out.below B2.out)
  clear hba hba2 hza hwa hw2
  have q0 : w2.cell? ⟨w.heap.size, 0, none⟩ = some (encStr k) := BA.out.cell 0
  have r0 : w2.cell? ⟨w.heap.size + 1, 0, none⟩ = some (encStr k') := BB.out.cell 0
  have q1 : w2.cell? ⟨w.heap.size, 1, none⟩ = some (.int .i64 v.gen) := BA.out.cell 1
  have r1 : w2.cell? ⟨w.heap.size + 1, 1, none⟩ = some (.int .i64 v'.gen) := BB.out.cell 1
  have q2 : w2.cell? ⟨w.heap.size, 2, none⟩ = some (.int .i64 v.size) := BA.out.cell 2
  have r2 : w2.cell? ⟨w.heap.size + 1, 2, none⟩ = some (.int .i64 v'.size) := BB.out.cell 2
  have q3 : w2.cell? ⟨w.heap.size, 3, none⟩ = some (encStr v.sum) := BA.out.cell 3
  have r3 : w2.cell? ⟨w.heap.size + 1, 3, none⟩ = some (encStr v'.sum) := BB.out.cell 3
  have q4 : w2.cell? ⟨w.heap.size, 4, none⟩ = some (.slice Q qn qc) := BA.out.cell 4
  have r4 : w2.cell? ⟨w.heap.size + 1, 4, none⟩ = some (.slice Q' qn' qc') := BB.out.cell 4
  by_cases k1 : k = k'
  case neg =>
    have e1 : (k == k') = false := by simpa using k1
    have r := decide_eq_false (fun e : (k, v) = (k', v') => k1 (Prod.mk.inj e).1)
    clear k1
    go_wp2_with fail
    go_ret
    exact ⟨ret_b r.symm, B2.out⟩
  have e1 : (k == k') = true := by simpa using k1
  have K1 := Lib.hid k1
  clear k1
  by_cases k2 : v.gen = v'.gen
  case neg =>
    have e2 : (v.gen != v'.gen) = true := by simpa using k2
    have r := decide_eq_false (fun e : (k, v) = (k', v') => k2 (by rw [(Prod.mk.inj e).2]))
    clear k2
    go_wp2_with fail
    go_ret
    exact ⟨ret_b r.symm, B2.out⟩
  have e2 : (v.gen != v'.gen) = false := by simpa using k2
  have K2 := Lib.hid k2
  clear k2
  by_cases k3 : v.size = v'.size
  case neg =>
    have e3 : (v.size != v'.size) = true := by simpa using k3
    have r := decide_eq_false (fun e : (k, v) = (k', v') => k3 (by rw [(Prod.mk.inj e).2]))
    clear k3
    go_wp2_with fail
    go_ret
    exact ⟨ret_b r.symm, B2.out⟩
  have e3 : (v.size != v'.size) = false := by simpa using k3
  have K3 := Lib.hid k3
  clear k3
  by_cases k4 : v.sum = v'.sum
  case neg =>
    have e4 : (v.sum == v'.sum) = false := by simpa using k4
    have r := decide_eq_false (fun e : (k, v) = (k', v') => k4 (by rw [(Prod.mk.inj e).2]))
    clear k4
    go_wp2_with fail
    go_ret
    exact ⟨ret_b r.symm, B2.out⟩
  have e4 : (v.sum == v'.sum) = true := by simpa using k4
  have K4 := Lib.hid k4
  clear k4
  by_cases k8 : qn = qn'
  case neg =>
    have e8 : ((qn : Int) != (qn' : Int)) = true := by simp; omega
    have r := decide_eq_false (fun e : (k, v) = (k', v') => k8 (by injection e with e1 e2; rw [← RD.out.places.1, ← RD'.out.places.1, e2]))
    clear k8
    go_wp2_with fail
    go_ret
    exact ⟨ret_b r.symm, B2.out⟩
  subst k8
  have e8 : ((qn : Int) != (qn : Int)) = false := by simp
  go_wp2_with fail
  have hpn : qn ≤ maxLen := RD.out.pn
  have hp63 : qn ≤ 9223372036854775807 := by simp only [maxLen] at hpn; exact hpn
  have PL := Lib.hid RD.out.places
  have PL' := Lib.hid RD'.out.places
  clear hpn e8
  go_loopw [5] (fun i wx => ∃ j : Nat, i = .int .i64 j ∧ j ≤ qn ∧ v.places.take j = v'.places.take j ∧ Below w2.heap.size w2 wx) (fun i _ => qn - (intOf i).toNat)
  case atStart => exact ⟨0, rfl, Nat.zero_le _, rfl, Below.refl _ _⟩
  case round =>
    obtain ⟨j, rfl, hj, heq, hbl⟩ := hrel
    have hz := hbl.size
    have BL := Lib.hid hbl
    have HEQ := Lib.hid heq
    have s7 : wr.cell? ⟨w.heap.size, 4, none⟩ = some (.slice Q qn qc) := (hbl.cell (p := ⟨w.heap.size, 4, none⟩) BA.out.size).trans q4
    have t7 : wr.cell? ⟨w.heap.size + 1, 4, none⟩ = some (.slice Q' qn qc') := (hbl.cell (p := ⟨w.heap.size + 1, 4, none⟩) BB.out.size).trans r4
    clear q0 q1 q2 q3 q4 r0 r1 r2 r3 r4 heq
    by_cases hlt : j < qn
    · have d1 : decide (j < qn) = true := by simpa using hlt
      obtain ⟨x, hx⟩ : ∃ x, v.places[j]? = some x := ⟨_, List.getElem?_eq_getElem (by rw [PL.out.1]; exact hlt)⟩
      obtain ⟨y, hy⟩ : ∃ y, v'.places[j]? = some y := ⟨_, List.getElem?_eq_getElem (by rw [PL'.out.1]; exact hlt)⟩
      obtain ⟨b, off, rfl, hc⟩ : ∃ b off, Q = some ⟨b, off, none⟩ ∧ ∀ j u, (placeVals v.places)[j]? = some u → wr.cell? ⟨b, off + j, none⟩ = some u := by
        rcases PL.out.2.below hbl with ⟨h0, _⟩ | ⟨b, off, h1, h2⟩
        · omega
        · exact ⟨b, off, h1, h2⟩
      obtain ⟨b', off', rfl, hc'⟩ : ∃ b off, Q' = some ⟨b, off, none⟩ ∧ ∀ j u, (placeVals v'.places)[j]? = some u → wr.cell? ⟨b, off + j, none⟩ = some u := by
        rcases PL'.out.2.below hbl with ⟨h0, _⟩ | ⟨b, off, h1, h2⟩
        · omega
        · exact ⟨b, off, h1, h2⟩
      have x0 : wr.cell? ⟨b, off + j * 2, none⟩ = some (.int .i64 x.1) := hc _ _ (placeVals_get hx).1
      have x1 : wr.cell? ⟨b, off + (j * 2 + 1), none⟩ = some (.int .i64 x.2) := hc _ _ (placeVals_get hx).2
      have y0 : wr.cell? ⟨b', off' + j * 2, none⟩ = some (.int .i64 y.1) := hc' _ _ (placeVals_get hy).1
      have y1 : wr.cell? ⟨b', off' + (j * 2 + 1), none⟩ = some (.int .i64 y.2) := hc' _ _ (placeVals_get hy).2
      have x1' : wr.cell? ⟨b, off + j * 2 + 1, none⟩ = some (.int .i64 x.2) := by rw [Nat.add_assoc]; exact x1
      have y1' : wr.cell? ⟨b', off' + j * 2 + 1, none⟩ = some (.int .i64 y.2) := by rw [Nat.add_assoc]; exact y1
      have HX := Lib.hid hx
      have HY := Lib.hid hy
      clear hx hy hbl hc hc'
      by_cases n1 : x.1 = y.1
      case neg =>
        have f1 : (x.1 != y.1) = true := by simpa using n1
        have r := decide_eq_false (fun e : (k, v) = (k', v') => n1 (by injection e with e1 e2; have h := HX.out; rw [e2, HY.out] at h; injection h with h; rw [h]))
        clear n1
        go_wp2_with fail
        go_quiet (fail)
        go_wp2_with fail
        go_ret
        exact ⟨ret_b r.symm, below_drewN (B2.out.trans (BL.out.mono B2.out.size)) _⟩
      have f1 : (x.1 != y.1) = false := by simpa using n1
      by_cases n2 : x.2 = y.2
      case neg =>
        have f2 : (x.2 != y.2) = true := by simpa using n2
        have r := decide_eq_false (fun e : (k, v) = (k', v') => n2 (by injection e with e1 e2; have h := HX.out; rw [e2, HY.out] at h; injection h with h; rw [h]))
        clear n1 n2
        go_wp2_with fail
        go_quiet (fail)
        go_wp2_with fail
        go_ret
        exact ⟨ret_b r.symm, below_drewN (B2.out.trans (BL.out.mono B2.out.size)) _⟩
      have f2 : (x.2 != y.2) = false := by simpa using n2
      have HE1 := Lib.hid (show x = y from Prod.ext n1 n2)
      clear n1 n2
      go_wp2_with fail
      go_quiet (fail)
      go_wp2_with fail
      go_roundw
      case rel => exact ⟨j + 1, by go_num, hlt, by rw [List.take_add_one, List.take_add_one, HX.out, HY.out, HEQ.out, HE1.out], below_drewN BL.out _⟩
      case measure => simp [intOf]; omega
    · have d1 : decide (j < qn) = false := by simpa using hlt
      obtain rfl : j = qn := by omega
      have r := decide_eq_true (show (k, v) = (k', v') by
        have h8 := HEQ.out
        rw [List.take_of_length_le (Nat.le_of_eq PL.out.1), List.take_of_length_le (Nat.le_of_eq PL'.out.1)] at h8
        rw [K1.out, ent_ext K2.out K3.out K4.out h8])
      go_wp2_with fail
      go_ret
      exact ⟨ret_b r.symm, B2.out.trans (BL.out.mono B2.out.size)⟩
theorem cGen_nil (w : World) : Calls Tryz.prog 19 #[.pointer none] w fun e w' => e = .returned (.int .i64 0) ∧ w = w' := by
  go_enter Tryz.func19, Tryz.ntmps19
  go_wp2
  go_ret
  exact ⟨rfl, rfl⟩
theorem cRetired_nil (k : Value) (w : World) : Calls Tryz.prog 29 #[.pointer none, k] w fun e w' => e = .returned (.bool false) ∧ w = w' := by
  go_enter Tryz.func29, Tryz.ntmps29
  go_wp2
  go_ret
  exact ⟨rfl, rfl⟩
theorem cUsed_nil (w : World) : Calls Tryz.prog 22 #[.pointer none] w fun e w' => e = .returned (.int .i64 0) ∧ w = w' := by
  go_enter Tryz.func22, Tryz.ntmps22
  go_wp2_with (first
    | (go_at_call 14; refine (cStaged_nil _).mono ?_; rintro e w1 ⟨rfl, rfl⟩)
    | fail)
  go_loopw [3, 11] (fun v i wx => v = .int .i64 0 ∧ i = .int .i64 0 ∧ wx = w) (fun _ _ _ => 0)
  case atStart => exact ⟨rfl, rfl, rfl⟩
  case round =>
    obtain ⟨rfl, rfl, rfl⟩ := hrel
    go_wp2_with fail
    go_ret
    exact ⟨rfl, rfl⟩
end
end Go.Proofs.YtmkccblcmiflfaaGreat
