/- What a note does to a catalog. No condition beyond those that each theorem states. -/
import Derived.Test.YtmkccblcmiflfaaKC10
namespace Go.Proofs.Ytmkccblcmiflfaa
open Go.RowKit Go.Maps Go.WideMaps

def putR (L : List Int) (n : Int) : List Int := (L.filter fun x => !decide (x = n)) ++ [n]
def retireC (C : CV) (v : NoteV) : Int × CV := if v.cart < 0 ∨ 32 ≤ v.cart then (12, C) else (0, { C with retired := putR C.retired v.cart })
def applyC (C : CV) (v : NoteV) : Int × CV :=
  if v.kind = 1 then putC C v else if v.kind = 2 then placedC C v else if v.kind = 3 then goneC C v else if v.kind = 4 then beginC C v else if v.kind = 5 then retireC C v else if v.kind = 6 then tombC C v else (12, C)
theorem ret_put (L : List Int) (n : Int) : putL (retVals L) n (.agg #[]) = retVals (putR L n) := by
  unfold putL delL retVals putR
  rw [List.map_append, List.filter_map]
  rfl
theorem CatPost.of_below {F : Nat → Prop} {p N : Nat} {r : Int × CV} {w w1 w' : World} {e : Ending} (hb : Below w.heap.size w w1) (h : CatPost F p N r w1 e w') : CatPost F p N r w e w' := by
  obtain ⟨h1, F', h2, h3⟩ := h
  have hz := hb.size
  exact ⟨h1, F', h2, ((Chg.of_below F hb).trans h3.1), fun k hk => ⟨(h3.2 k hk).1, (h3.2 k hk).2.imp id (fun h => by omega)⟩⟩
theorem cApply_nil (v : NoteV) (D : Option Addr) (dn dc : Nat) (Q : Option Addr) (qn qc : Nat) (w : World) :
    Calls Try.prog 9 #[.pointer none, noteAgg v D dn dc Q qn qc] w fun e w' => e = .returned (.int .i64 1) ∧ Below w.heap.size w w' := by
  unfold noteAgg
  go_enter Try.func9, Try.ntmps9
  go_wp2
  go_ret
  exact ⟨rfl, (Below.refl _ _).alloc (Nat.le_refl _) _⟩
theorem retire_fin {F : Nat → Prop} {w w1 w2 : World} {p N : Nat} {C : CV} {n : Int} {sv tv : Value} {SR : List BlobR} {ER : List EntR} {be bb br : Nat} (h : CatR F w1 p N C sv tv SR ER be bb br) (hb : Below w.heap.size w w1) (hg : w1.grownBy w2 (some br))
    (hp : Blk w2 p 59 #[sv, .map (some be), .map (some bb), tv, .map (some br), .int .i64 C.gen]) (hm : MapAt ikey (.agg #[]) w2 br (N + 1) (putL (retVals C.retired) n (.agg #[]))) (h0 : 0 ≤ n) (h1 : n ≤ 31) :
    CatPost F p (N + 1) (0, { C with retired := putR C.retired n }) w (.returned (.int .i64 0)) w2 := by
  have hc : Chg (fun k => k = br) w1 w2 := (Chg.refl (fun k => k = br) w1).grown hg (fun g e => .inl (Option.some.inj e).symm)
  have hcT : Chg (CatTurns p sv tv be bb br) w1 w2 := hc.mono (fun k e => .inr (.inr (.inr (.inr (.inr e)))))
  exact h.post hb hcT (h.build (C' := { C with retired := putR C.retired n }) hcT hp (h.stg_same hc (fun g hg => (h.stg_ne hg).2.2.2.2)) h.stgs (fun r hr => .inl hr) ((h.ents.of_eq (hc.block be h.ents.lt h.neq.2.1)).mono (Nat.le_succ _)) h.entr (fun r hr => .inl hr)
    ((h.begs.of_eq (hc.block bb h.begs.lt h.neq.2.2)).mono (Nat.le_succ _)) (h.tmb_same hc (fun g hg => (h.tmb_ne hg).2.2.2.2)) (by show MapAt ikey _ w2 br _ (retVals (putR C.retired n)); rw [← ret_put]; exact hm)
    { h.wf with
      staged := Nat.le_succ_of_le h.wf.staged
      tombs := Nat.le_succ_of_le h.wf.tombs
      carts := fun x hx => by
        rcases List.mem_append.1 hx with hx | hx
        · exact h.wf.carts x (List.mem_filter.1 hx).1
        · have e : x = n := by simpa using hx
          subst e
          exact ⟨h0, h1⟩ }) 0
section
set_option maxHeartbeats 4000000
set_option maxRecDepth 8000
theorem cApply (F : Nat → Prop) (p N : Nat) (C : CV) (v : NoteV) (D : Option Addr) (dn dc : Nat) (Q : Option Addr) (qn qc : Nat) (w : World) (h : CatAt F w p N C) (hN : N ≤ 100000) (hin : NoteIn w v D dn dc Q qn qc) (hap : 0 < qn → ∀ b off, Q = some ⟨b, off, none⟩ → ¬ F b) :
    Calls Try.prog 9 #[.pointer (some ⟨p, 0, none⟩), noteAgg v D dn dc Q qn qc] w (CatPost F p (N + 1) (applyC C v) w) := by
  have H := Lib.hid h
  have HAP := Lib.hid hap
  obtain ⟨w1, hw1⟩ : ∃ w1, w1 = w.alloc (.cells (noteCells v D dn dc Q qn qc) 26) := ⟨_, rfl⟩
  have hb1 : Below w.heap.size w w1 := by rw [hw1]; exact (Below.refl _ _).alloc (Nat.le_refl _) _
  have hB1 : Blk w1 w.heap.size 26 (noteCells v D dn dc Q qn qc) := by rw [hw1]; exact Blk.made w _ _
  have W1 := Lib.hid hw1
  have HB1 := Lib.hid hb1
  have BN1 := Lib.hid hB1
  have HI1 := Lib.hid (hin.below hb1)
  have H1 := Lib.hid (h.below hb1)
  have HCA := Lib.hid hin.cart
  have q0 : w1.cell? ⟨w.heap.size, 0, none⟩ = some (.int .i64 v.kind) := hB1.cell 0
  have q1 : w1.cell? ⟨w.heap.size, 1, none⟩ = some (encStr v.key) := hB1.cell 1
  have q2 : w1.cell? ⟨w.heap.size, 2, none⟩ = some (.int .i64 v.gen) := hB1.cell 2
  have q3 : w1.cell? ⟨w.heap.size, 3, none⟩ = some (.int .i64 v.cart) := hB1.cell 3
  have q4 : w1.cell? ⟨w.heap.size, 4, none⟩ = some (.slice D dn dc) := hB1.cell 4
  have q5 : w1.cell? ⟨w.heap.size, 5, none⟩ = some (encStr v.sum) := hB1.cell 5
  have q6 : w1.cell? ⟨w.heap.size, 6, none⟩ = some (.int .i64 v.size) := hB1.cell 6
  have q7 : w1.cell? ⟨w.heap.size, 7, none⟩ = some (.slice Q qn qc) := hB1.cell 7
  clear hin hap h hb1 hB1 hw1
  unfold noteAgg
  go_enter Try.func9, Try.ntmps9
  go_upto_region 1 with fail
  rw [show w.alloc (.cells #[.int .i64 v.kind, .string ⟨v.key.toArray⟩, .int .i64 v.gen, .int .i64 v.cart, .slice D dn dc, .string ⟨v.sum.toArray⟩, .int .i64 v.size, .slice Q qn qc] 26) = w1 from W1.out.symm]
  by_cases k1 : v.kind = 1
  case pos =>
    have e1 : (v.kind == 1) = true := by simpa using k1
    have HE := Lib.hid (show applyC C v = putC C v by unfold applyC; rw [if_pos k1])
    clear k1
    go_wp2_with (go_at_call 27; refine (cPut F p N C v D dn dc Q qn qc _ H1.out hN HI1.out).mono ?_; intro e w2 hp; have hp2 := hp.of_below HB1.out; obtain ⟨rfl, hq⟩ := hp2; have HQ := Lib.hid hq; clear hp hq)
    go_ret
    rw [HE.out]
    exact ⟨rfl, HQ.out⟩
  have e1 : (v.kind == 1) = false := by simpa using k1
  by_cases k2 : v.kind = 2
  case pos =>
    have e2 : (v.kind == 2) = true := by simpa using k2
    have HE := Lib.hid (show applyC C v = placedC C v by unfold applyC; rw [if_neg k1, if_pos k2])
    clear k2
    go_wp2_with (go_at_call 28; refine (cPlaced F p N C v D dn dc Q qn qc _ H1.out hN HI1.out HAP.out).mono ?_; intro e w2 hp; have hp2 := hp.of_below HB1.out; obtain ⟨rfl, hq⟩ := hp2; have HQ := Lib.hid hq; clear hp hq)
    go_ret
    rw [HE.out]
    exact ⟨rfl, HQ.out⟩
  have e2 : (v.kind == 2) = false := by simpa using k2
  by_cases k3 : v.kind = 3
  case pos =>
    have e3 : (v.kind == 3) = true := by simpa using k3
    have HE := Lib.hid (show applyC C v = goneC C v by unfold applyC; rw [if_neg k1, if_neg k2, if_pos k3])
    clear k3
    go_wp2_with (go_at_call 29; refine (cGone F p N C v D dn dc Q qn qc _ H1.out hN HI1.out).mono ?_; intro e w2 hp; have hp2 := hp.of_below HB1.out; obtain ⟨rfl, hq⟩ := hp2; have HQ := Lib.hid hq; clear hp hq)
    go_ret
    rw [HE.out]
    exact ⟨rfl, HQ.out⟩
  have e3 : (v.kind == 3) = false := by simpa using k3
  by_cases k4 : v.kind = 4
  case pos =>
    have e4 : (v.kind == 4) = true := by simpa using k4
    have HE := Lib.hid (show applyC C v = beginC C v by unfold applyC; rw [if_neg k1, if_neg k2, if_neg k3, if_pos k4])
    clear k4
    go_wp2_with (go_at_call 30; refine (cBegin F p N C v D dn dc Q qn qc _ H1.out hN HI1.out).mono ?_; intro e w2 hp; have hp2 := hp.of_below HB1.out; obtain ⟨rfl, hq⟩ := hp2; have HQ := Lib.hid hq; clear hp hq)
    go_ret
    rw [HE.out]
    exact ⟨rfl, HQ.out⟩
  have e4 : (v.kind == 4) = false := by simpa using k4
  by_cases k5 : v.kind = 5
  case pos =>
    have e5 : (v.kind == 5) = true := by simpa using k5
    have HA := Lib.hid (show applyC C v = retireC C v by unfold applyC; rw [if_neg k1, if_neg k2, if_neg k3, if_neg k4, if_pos k5])
    clear k5
    by_cases c1 : v.cart < 0
    case pos =>
      have d1 : decide (v.cart < 0) = true := by simpa using c1
      have HE := Lib.hid (HA.out.trans (show retireC C v = (12, C) from if_pos (.inl c1)))
      clear c1
      go_wp2_with fail
      go_ret
      rw [HE.out]
      exact CatPost.same H.out (Nat.le_succ _) HB1.out
    have d1 : decide (v.cart < 0) = false := by simpa using c1
    by_cases c2 : 32 ≤ v.cart
    case pos =>
      have d2 : decide (32 ≤ v.cart) = true := by simpa using c2
      have HE := Lib.hid (HA.out.trans (show retireC C v = (12, C) from if_pos (.inr c2)))
      clear c2
      go_wp2_with fail
      go_ret
      rw [HE.out]
      exact CatPost.same H.out (Nat.le_succ _) HB1.out
    have d2 : decide (32 ≤ v.cart) = false := by simpa using c2
    have HE := Lib.hid (HA.out.trans (show retireC C v = (0, { C with retired := putR C.retired v.cart }) from if_neg (by omega)))
    obtain ⟨sv, tv, SR, ER, be, bb, br, h1⟩ := H1.out
    have R1 := Lib.hid h1
    have hm := h1.map_ne
    have x0 : w1.cell? ⟨p, 4, none⟩ = some (.map (some br)) := h1.blk.cell 4
    obtain ⟨w2, hry, hmy, hgy⟩ := (h1.rets.of_eq (w' := w1.drew) rfl).store (t := 57) (e := 69) Try.underlying57 (by simp only [maxLen]; omega) (k := v.cart) HCA.out (.agg #[])
    have hry' : (Instr.mapUpdate 57 (.map (some br)) (.int .i64 v.cart) (.agg #[])).run Try.prog w1.drew = .ok () w2 := hry
    have BP2 := Lib.hid (Blk.grown (w := w1.drew) h1.blk hgy (fun e => hm.2.2 (Option.some.inj e).symm))
    have BN2 := Lib.hid (Blk.grown (w := w1.drew) BN1.out hgy (fun e => blk_apart BN1.out R1.out.rets (Option.some.inj e).symm))
    have y0 : w2.cell? ⟨p, 4, none⟩ = some (.map (some br)) := BP2.out.cell 4
    have y3 : w2.cell? ⟨w.heap.size, 3, none⟩ = some (.int .i64 v.cart) := BN2.out.cell 3
    have M2 := Lib.hid hmy
    have G2 := Lib.hid (show w1.grownBy w2 (some br) from ⟨hgy.os, hgy.tape, hgy.output, hgy.size, hgy.block⟩)
    clear h1 hry hmy hgy
    go_upto_region 15 with fail
    refine wp_region_held_drew (S := (fun w' => w'.cell? ⟨p, 4, none⟩ = some (.map (some br)) ∧ w'.cell? ⟨w.heap.size, 3, none⟩ = some (.int .i64 v.cart))) (by kernel_rfl) ⟨x0, q3⟩ (fun hHeld => ?_)
    refine wpAnyH_take (i := 0) (v := ?vAn10) (take_list rfl) (by kernel_rfl) (by kernel_rfl) (by kernel_rfl) (fun _ _ _ h => h) (Or.inl ⟨by rfl, ?hyAn10⟩) (by assumption) ?restAn10
    case hyAn10 => (intro w hSw; (try dsimp only at hSw); go_simp <;> with_reducible rfl)
    try simp only [Act.put, List.setIfInBounds_toArray, List.set_cons_zero, List.set_cons_succ]
    refine wpAnyH_take (i := 1) (v := ?vAn11) (take_list rfl) (by kernel_rfl) (by kernel_rfl) (by kernel_rfl) (fun _ _ _ h => h) (Or.inl ⟨by rfl, ?hyAn11⟩) (by assumption) ?restAn11
    case hyAn11 => (intro w hSw; (try dsimp only at hSw); go_simp <;> with_reducible rfl)
    try simp only [Act.put, List.setIfInBounds_toArray, List.set_cons_zero, List.set_cons_succ]
    refine wpAnyH_take (i := 2) (v := ?vAn12) (take_list rfl) (by kernel_rfl) (by kernel_rfl) (by kernel_rfl) (fun _ _ _ h => h) (Or.inl ⟨by rfl, ?hyAn12⟩) (by assumption) ?restAn12
    case hyAn12 => (intro w hSw; (try dsimp only at hSw); go_simp <;> with_reducible rfl)
    try simp only [Act.put, List.setIfInBounds_toArray, List.set_cons_zero, List.set_cons_succ]
    refine wpAnyH_take (i := 3) (v := ?vAn13) (take_list rfl) (by kernel_rfl) (by kernel_rfl) (by kernel_rfl) (fun _ _ _ h => h) (Or.inl ⟨by rfl, ?hyAn13⟩) (by assumption) ?restAn13
    case hyAn13 => (intro w hSw; (try dsimp only at hSw); go_simp <;> with_reducible rfl)
    try simp only [Act.put, List.setIfInBounds_toArray, List.set_cons_zero, List.set_cons_succ]
    refine wpAnyH_take (i := 4) (v := ?vAn14) (take_list rfl) (by kernel_rfl) (by kernel_rfl) (by kernel_rfl) (fun _ _ _ h => h) (Or.inl ⟨by rfl, ?hyAn14⟩) (by assumption) ?restAn14
    case hyAn14 => (intro w hSw; (try dsimp only at hSw); go_simp <;> with_reducible rfl)
    try simp only [Act.put, List.setIfInBounds_toArray, List.set_cons_zero, List.set_cons_succ]
    refine wpAnyH_take (i := 5) (v := ?vAn15) (take_list rfl) (by kernel_rfl) (by kernel_rfl) (by kernel_rfl) (fun _ _ _ h => h) (Or.inl ⟨by rfl, ?hyAn15⟩) (by assumption) ?restAn15
    case hyAn15 => (intro w hSw; (try dsimp only at hSw); go_simp <;> with_reducible rfl)
    try simp only [Act.put, List.setIfInBounds_toArray, List.set_cons_zero, List.set_cons_succ]
    refine wpAnyH_take (i := 6) (v := ?vAn16) (take_list rfl) (by kernel_rfl) (by kernel_rfl) (by kernel_rfl) (fun _ _ _ h => h) (Or.inl ⟨by rfl, ?hyAn16⟩) (by assumption) ?restAn16
    case hyAn16 => (intro w hSw; (try dsimp only at hSw); go_simp <;> with_reducible rfl)
    try simp only [Act.put, List.setIfInBounds_toArray, List.set_cons_zero, List.set_cons_succ]
    refine wpAnyH_ready (rs := [7]) (by kernel_rfl) (by simp) ?_
    refine AllReadyH.cons rfl (fun K hK => ?_) AllReadyH.nil
    go_simp
    clear hHeld
    refine hK.out _ _ ⟨y0, y3⟩ (fun hHeld => ?_)
    clear hK K
    refine wpAnyH_done (by kernel_rfl) ?_ _
    go_wp2_with fail
    go_ret
    rw [HE.out]
    exact retire_fin R1.out HB1.out G2.out BP2.out M2.out (by omega) (by omega)
  have e5 : (v.kind == 5) = false := by simpa using k5
  by_cases k6 : v.kind = 6
  case pos =>
    have e6 : (v.kind == 6) = true := by simpa using k6
    have HE := Lib.hid (show applyC C v = tombC C v by unfold applyC; rw [if_neg k1, if_neg k2, if_neg k3, if_neg k4, if_neg k5, if_pos k6])
    clear k6
    go_wp2_with (go_at_call 31; refine (cTomb F p N C v D dn dc Q qn qc _ H1.out hN HI1.out).mono ?_; intro e w2 hp; have hp2 := hp.of_below HB1.out; obtain ⟨rfl, hq⟩ := hp2; have HQ := Lib.hid hq; clear hp hq)
    go_ret
    rw [HE.out]
    exact ⟨rfl, HQ.out⟩
  have e6 : (v.kind == 6) = false := by simpa using k6
  have HE := Lib.hid (show applyC C v = (12, C) by unfold applyC; rw [if_neg k1, if_neg k2, if_neg k3, if_neg k4, if_neg k5, if_neg k6])
  clear k1 k2 k3 k4 k5 k6
  go_wp2_with fail
  go_ret
  rw [HE.out]
  exact CatPost.same H.out (Nat.le_succ _) HB1.out
end
end Go.Proofs.Ytmkccblcmiflfaa
