/- Texts joined: KC10. No condition beyond those that each theorem states. -/
import Derived.Test.YtmkccblcmiflfaaGreatPK4
import Derived.Test.YtmkccblcmiflfaaGreatPK0
namespace Go.Proofs.YtmkccblcmiflfaaGreat
open Go.RowKit Go.Maps Go.WideMaps

def goneL (C : CV) (v : NoteV) : List (Str × Int) := if (hasL C.entries v.key || hasL C.begun v.key) = true then C.tombs ++ [(v.key, v.gen)] else C.tombs
def goneV (C : CV) (v : NoteV) : CV := { C with staged := delL C.staged v.key, entries := delL C.entries v.key, begun := delL C.begun v.key, tombs := goneL C v, gen := v.gen }
def goneC (C : CV) (v : NoteV) : Int × CV :=
  if hasC C v.key = false then (5, C) else if laterB C v.gen = false then (12, C) else (0, goneV C v)
theorem gone_wf {N : Nat} {C : CV} {v : NoteV} (h : CWf N C) (hh : hasC C v.key = true) (hg : laterB C v.gen = true) : CWf (N + 1) (goneV C v) := by
  obtain ⟨h1, h2, h3⟩ := gen_wf h hg
  have hl := hasC_len h hh
  have h0 := h.gen
  refine { h1 with
    staged := ?_
    tombs := ?_
    keys := fun q hq => h.keys q (List.mem_filter.1 hq).1
    ents := fun q hq => h1.ents q (List.mem_filter.1 hq).1
    marks := fun q hq => ?_
    begun := fun q hq => h1.begun q (List.mem_filter.1 hq).1
    gens := h.gens.sublist List.filter_sublist
    nds := nodup_del h.nds v.key
    apart := fun q hq => ?_ }
  · have h1 := h.staged; have h2 : (delL C.staged v.key).length ≤ C.staged.length := List.length_filter_le _ _; show (delL C.staged v.key).length ≤ _; omega
  · show (goneL C v).length ≤ _
    unfold goneL
    have := h.tombs
    split
    · rw [List.length_append]; simp; omega
    · omega
  · have hq : q ∈ goneL C v := hq
    unfold goneL at hq
    split at hq
    · rcases List.mem_append.1 hq with hq | hq
      · exact h1.marks q hq
      · have e : q = (v.key, v.gen) := by simpa using hq
        subst e
        exact ⟨hl.1, hl.2, by show 1 ≤ v.gen; omega, Int.le_refl _⟩
    · exact h1.marks q hq
  · show hasL (delL C.entries v.key) q.1 = false
    rw [hasL_del, h.apart q (List.mem_filter.1 hq).1]
    rfl
theorem ent_del (ER : List EntR) (k : Str) : delL (entVals ER) k = entVals (ER.filter fun x => !decide (x.key = k)) := by
  unfold delL entVals
  rw [List.filter_map]
  rfl
theorem ent_del_e {ER : List EntR} {E : List (Str × EntV)} (h : ER.map (fun r => (r.key, r.e)) = E) (k : Str) : (ER.filter fun x => !decide (x.key = k)).map (fun r => (r.key, r.e)) = delL E k := by
  subst h
  unfold delL
  rw [List.filter_map]
  rfl
theorem beg_del (L : List (Str × Int)) (k : Str) : delL (begunVals L) k = begunVals (delL L k) := by
  unfold delL begunVals
  rw [List.filter_map]
  rfl
theorem gone_fin {F : Nat → Prop} {w w2 w9 : World} {p N : Nat} {C : CV} {v : NoteV} {sv tv sv' tv' : Value} {SR SR' : List BlobR} {ER : List EntR} {be bb br : Nat} (h : CatR F w2 p N C sv tv SR ER be bb br) (hb : Below w.heap.size w w2)
    (hc : Chg (CatTurns p sv tv be bb br) w2 w9) (hr : w9.heap[br]? = w2.heap[br]?) (hp : Blk w9 p 68 #[sv', .map (some be), .map (some bb), tv', .map (some br), .int .i64 v.gen])
    (ho : OwnRow (Wide F w) w9 70 2 sv' (delL C.staged v.key).length (blobVals SR')) (hst : SR'.map (fun r => (r.key, r.data)) = delL C.staged v.key) (hsub : ∀ r ∈ SR', r ∈ SR)
    (he : MapAt skey zeroEnt w9 be N (delL (entVals ER) v.key)) (hg : MapAt skey (.int .i64 0) w9 bb N (delL (begunVals C.begun) v.key)) (ht : OwnRow (Wide F w) w9 32 8 tv' (goneL C v).length (tombVals (goneL C v))) (hwf : CWf (N + 1) (goneV C v)) :
    CatPost F p (N + 1) (0, goneV C v) w (.returned (.int .i64 0)) w9 :=
  h.post hb hc (h.build (C' := goneV C v) (ER' := ER.filter fun x => !decide (x.key = v.key)) hc hp ho hst (fun r hr => .inl (hsub r hr)) (by rw [← ent_del]; exact he.mono (Nat.le_succ _)) (ent_del_e h.entr v.key) (fun r hr => .inl (List.mem_filter.1 hr).1)
    (by show MapAt skey _ w9 bb _ (begunVals (delL C.begun v.key)); rw [← beg_del]; exact hg.mono (Nat.le_succ _)) ht ((h.rets.of_eq hr).mono (Nat.le_succ _)) hwf) 0
theorem getG_form (L : List (Str × Int)) (k : Str) : ∃ g, getL (.int .i64 0) (begunVals L) k = .int .i64 g := by
  cases h : hasL (begunVals L) k with
  | false => exact ⟨0, getL_no _ h⟩
  | true =>
    obtain ⟨r, _, e⟩ := List.mem_map.1 (getL_mem (.int .i64 0) h)
    injection e with _ e
    exact ⟨_, e.symm⟩
theorem gone_last {F : Nat → Prop} {w w2 w5 wx wy wz : World} {p N : Nat} {C : CV} {v : NoteV} {sv tv sv' tv' : Value} {SR SR' : List BlobR} {ER : List EntR} {be bb br : Nat} (h : CatR F w2 p N C sv tv SR ER be bb br) (hb : Below w.heap.size w w2)
    (h5 : Chg (fun k => k = p ∨ tv.ownBlock = some k) w2 w5) (hd : Dropped F w5 wx p sv SR C.staged v.key sv' SR') (gy : wx.grownBy wy (some be)) (gz : wy.grownBy wz (some bb))
    (hp : Blk wz p 68 #[sv', .map (some be), .map (some bb), tv', .map (some br), .int .i64 C.gen]) (ht : OwnRow (Wide F w) w5 32 8 tv' (goneL C v).length (tombVals (goneL C v))) (htf : ∀ g, tv'.ownBlock = some g → tv.ownBlock = some g ∨ w2.heap.size ≤ g)
    (he : MapAt skey zeroEnt wz be N (delL (entVals ER) v.key)) (hg : MapAt skey (.int .i64 0) wz bb N (delL (begunVals C.begun) v.key)) (hwf : CWf (N + 1) (goneV C v)) :
    CatPost F p (N + 1) (0, goneV C v) w (.returned (.int .i64 0)) (wz.setCell ⟨p, 5, none⟩ (.int .i64 v.gen)) := by
  have hm := h.map_ne
  have hc5 : Chg (CatTurns p sv tv be bb br) w2 w5 := h5.mono (fun k e => e.elim .inl (fun e => .inr (.inr (.inl e))))
  have hcx : Chg (CatTurns p sv tv be bb br) w2 wx := hc5.trans (hd.chg.mono (fun k e => e.elim .inl (fun e => .inr (.inl e))))
  have hcz : Chg (CatTurns p sv tv be bb br) w2 wz := (hcx.grown gy (fun g e => .inl (.inr (.inr (.inr (.inl (Option.some.inj e).symm)))))).grown gz (fun g e => .inl (.inr (.inr (.inr (.inr (.inl (Option.some.inj e).symm))))))
  have hc9 : Chg (CatTurns p sv tv be bb br) w2 (wz.setCell ⟨p, 5, none⟩ (.int .i64 v.gen)) := hcz.store (p := ⟨p, 5, none⟩) (.inl (.inl rfl)) _
  -- what lies behind, from w5 on
  have h5z : Chg (fun k => k = p ∨ sv.ownBlock = some k ∨ k = be ∨ k = bb) w5 (wz.setCell ⟨p, 5, none⟩ (.int .i64 v.gen)) :=
    ((((hd.chg.mono (T := fun k => k = p ∨ sv.ownBlock = some k ∨ k = be ∨ k = bb) (fun k e => e.elim .inl (fun e => .inr (.inl e))))).grown gy (fun g e => .inl (.inr (.inr (.inl (Option.some.inj e).symm))))).grown gz (fun g e => .inl (.inr (.inr (.inr (Option.some.inj e).symm))))).store (p := ⟨p, 5, none⟩) (.inl (.inl rfl)) _
  have hz25 := h5.size
  have hbr : (wz.setCell ⟨p, 5, none⟩ (.int .i64 v.gen)).heap[br]? = w2.heap[br]? := by
    refine (h5z.block br (Nat.lt_of_lt_of_le h.rets.lt hz25) (fun e => ?_)).trans (h5.block br h.rets.lt (fun e => e.elim (fun e => hm.2.2 e.symm) (fun e => (h.tmb_ne e).2.2.2.2 rfl)))
    rcases e with e | e | e | e
    · exact hm.2.2 e.symm
    · exact (h.stg_ne e).2.2.2.2 rfl
    · exact h.neq.2.1 e.symm
    · exact h.neq.2.2 e.symm
  have hown : OwnRow F (wz.setCell ⟨p, 5, none⟩ (.int .i64 v.gen)) 70 2 sv' (delL C.staged v.key).length (blobVals SR') := by
    have hx : Chg (fun k => k = p ∨ k = be ∨ k = bb) wx (wz.setCell ⟨p, 5, none⟩ (.int .i64 v.gen)) := ((((Chg.refl (fun k => k = p ∨ k = be ∨ k = bb) wx).grown gy (fun g e => .inl (.inr (.inl (Option.some.inj e).symm)))).grown gz (fun g e => .inl (.inr (.inr (Option.some.inj e).symm)))).store (p := ⟨p, 5, none⟩) (.inl (.inl rfl)) _)
    refine hd.own.chg hx (fun g hg' e => ?_)
    rw [hd.blk] at hg'
    rcases e with e | e | e
    · exact (h.stg_ne hg').1 e
    · exact (h.stg_ne hg').2.2.1 e
    · exact (h.stg_ne hg').2.2.2.1 e
  have htz : OwnRow (Wide F w) (wz.setCell ⟨p, 5, none⟩ (.int .i64 v.gen)) 32 8 tv' (goneL C v).length (tombVals (goneL C v)) := by
    refine ht.chg h5z (fun g hg' e => ?_)
    rcases htf g hg' with h1 | h1
    · rcases e with e | e | e | e
      · exact (h.tmb_ne h1).1 e
      · exact (h.tmb_ne h1).2.1 e
      · exact (h.tmb_ne h1).2.2.1 e
      · exact (h.tmb_ne h1).2.2.2.1 e
    · rcases e with e | e | e | e
      · have := h.blk.size; omega
      · have := (h.stg.1.lt g e).2; omega
      · have := h.ents.lt; omega
      · have := h.begs.lt; omega
  have hpb : p ≠ be := hm.1
  have hpg : p ≠ bb := hm.2.1
  exact gone_fin h hb hc9 hbr (hp.store 5 _) hown.wide hd.eq hd.sub (he.of_eq (Below.heap_setCell wz _ _ be (fun e => hpb e.symm))) (hg.of_eq (Below.heap_setCell wz _ _ bb (fun e => hpg e.symm))) htz hwf
section
set_option maxHeartbeats 8000000
set_option maxRecDepth 8000
theorem cGone (F : Nat → Prop) (p N : Nat) (C : CV) (v : NoteV) (D : Option Addr) (dn dc : Nat) (Q : Option Addr) (qn qc : Nat) (w : World) (h : CatAt F w p N C) (hN : N ≤ 100000) (hin : NoteIn w v D dn dc Q qn qc) :
    Calls Tryz.prog 38 #[.pointer (some ⟨p, 0, none⟩), noteAgg v D dn dc Q qn qc] w (CatPost F p (N + 1) (goneC C v) w) := by
  have H := Lib.hid h
  have hkl : v.key.length ≤ maxLen := hin.key
  obtain ⟨w1, hw1⟩ : ∃ w1, w1 = w.alloc (.cells (noteCells v D dn dc Q qn qc) 32) := ⟨_, rfl⟩
  have hb1 : Below w.heap.size w w1 := by rw [hw1]; exact (Below.refl _ _).alloc (Nat.le_refl _) _
  have hB1 : Blk w1 w.heap.size 32 (noteCells v D dn dc Q qn qc) := by rw [hw1]; exact Blk.made w _ _
  have W1 := Lib.hid hw1
  have HB1 := Lib.hid hb1
  have BN1 := Lib.hid hB1
  have hbn : w.heap.size < w1.heap.size := hB1.size
  obtain ⟨sv, tv, SR, ER, be, bb, br, h0⟩ := h
  have TLT := Lib.hid (show ∀ g, tv.ownBlock = some g → g < w.heap.size from fun g hg => (h0.tmb.1.lt g hg).2)
  have h1 := h0.below hb1
  have H1 := Lib.hid (show CatAt F w1 p N C from ⟨sv, tv, SR, ER, be, bb, br, h1⟩)
  have R1 := Lib.hid h1
  have hnp : w.heap.size ≠ p := fun e => by have h2 := hB1; rw [e] at h2; exact blk_ne h2 h1.blk (by decide) rfl
  have q1 : w1.cell? ⟨w.heap.size, 1, none⟩ = some (encStr v.key) := hB1.cell 1
  have q2 : w1.cell? ⟨w.heap.size, 2, none⟩ = some (.int .i64 v.gen) := hB1.cell 2
  clear hin h0 hb1 hB1 hw1 h1
  unfold noteAgg
  go_enter Tryz.func38, Tryz.ntmps38
  go_upto_region 1 with fail
  rw [show w.alloc (.cells #[.int .i64 v.kind, .string ⟨v.key.toArray⟩, .int .i64 v.gen, .int .i64 v.cart, .slice D dn dc, .string ⟨v.sum.toArray⟩, .int .i64 v.size, .slice Q qn qc] 32) = w1 from W1.out.symm]
  cases hh : hasC C v.key with
  | false =>
    have HE := Lib.hid (show goneC C v = (5, C) from if_pos hh)
    have HH := Lib.hid hh
    clear hh
    go_wp2_with (go_at_call 18; refine (cHas F p N C v.key _ H1.out hkl).mono ?_; rw [HH.out]; rintro e w2 ⟨rfl, hb2⟩; have B2 := Lib.hid (HB1.out.trans (hb2.mono HB1.out.size)); clear hb2)
    go_ret
    rw [HE.out]
    exact CatPost.same H.out (Nat.le_succ _) B2.out
  | true =>
  have HH := Lib.hid hh
  cases hl : laterB C v.gen with
  | false =>
    have HE := Lib.hid (show goneC C v = (12, C) by unfold goneC; rw [hh, if_neg (by simp), if_pos hl])
    have HL := Lib.hid hl
    clear hh hl
    go_upto_region 3 with (go_at_call 18; refine (cHas F p N C v.key _ H1.out hkl).mono ?_; rw [HH.out]; rintro e w2 ⟨rfl, hb2⟩; have B2 := Lib.hid hb2; have k2 : w2.cell? ⟨w.heap.size, 2, none⟩ = some (.int .i64 v.gen) := (hb2.cell (p := ⟨w.heap.size, 2, none⟩) hbn).trans q2; clear hb2)
    go_wp2_with (go_at_call 73; refine (cLater F p N C v.gen _ (H1.out.below B2.out)).mono ?_; rw [HL.out]; rintro e w3 ⟨rfl, rfl⟩)
    go_ret
    rw [HE.out]
    exact CatPost.same H.out (Nat.le_succ _) (HB1.out.trans (B2.out.mono HB1.out.size))
  | true =>
  have HL := Lib.hid hl
  have HE := Lib.hid (show goneC C v = (0, goneV C v) by unfold goneC; rw [hh, hl, if_neg (by simp), if_neg (by simp)])
  clear hh hl
  go_upto_region 3 with (go_at_call 18; refine (cHas F p N C v.key _ H1.out hkl).mono ?_; rw [HH.out]; rintro e w2 ⟨rfl, hb2⟩; have B2 := Lib.hid hb2; have k2 : w2.cell? ⟨w.heap.size, 2, none⟩ = some (.int .i64 v.gen) := (hb2.cell (p := ⟨w.heap.size, 2, none⟩) hbn).trans q2; clear hb2)
  go_upto_region 5 with (go_at_call 73; refine (cLater F p N C v.gen _ (H1.out.below B2.out)).mono ?_; rw [HL.out]; rintro e w3 ⟨rfl, rfl⟩)
  have BB2 := Lib.hid (HB1.out.trans (B2.out.mono HB1.out.size))
  have R2 := Lib.hid (R1.out.below B2.out)
  have BN2 := Lib.hid (BN1.out.below B2.out hbn)
  have WF := Lib.hid (gone_wf R2.out.wf HH.out HL.out)
  have hpz : p < w2.heap.size := R2.out.blk.size
  have hnz : w.heap.size < w2.heap.size := BN2.out.size
  have hm := R2.out.map_ne
  have hst : C.staged.length ≤ 100000 := by have := R2.out.wf.staged; omega
  have htl : C.tombs.length ≤ 100000 := by have := R2.out.wf.tombs; omega
  have x1 : w2.cell? ⟨p, 1, none⟩ = some (.map (some be)) := R2.out.blk.cell 1
  have x2 : w2.cell? ⟨w.heap.size, 1, none⟩ = some (encStr v.key) := BN2.out.cell 1
  obtain ⟨k', a, b, s, A, n, c, hv⟩ := getE_form ER v.key
  have x3 := R2.out.lookE hkl
  rw [hv] at x3
  have R2d : CatR F w2.drew p N C sv tv SR ER be bb br := R2.out.keep (Nat.le_refl _) (fun _ _ _ => rfl)
  have x3d := R2d.lookE hkl
  rw [hv] at x3d
  have AL := Lib.hid (fun o : Obj => by
    have hR := R2d.below ((Below.refl _ w2.drew).alloc (Nat.le_refl _) o)
    have hl := hR.lookE hkl
    rw [hv] at hl
    exact And.intro (hR.blk.cell 1) (And.intro ((BN2.out.drewN 1).alloc o |>.cell 1) hl))
  clear k2 q1 q2 hv R2d x3
  refine wp_region_held_drew (S := (fun w' => w'.cell? ⟨p, 1, none⟩ = some (.map (some be)) ∧ w'.cell? ⟨w.heap.size, 1, none⟩ = some (encStr v.key) ∧ (Instr.lookup 63 (.map (some be)) (encStr v.key) true).run Tryz.prog w' = .ok (.tuple #[.agg #[encStr k', .int .i64 a, .int .i64 b, encStr s, .slice A n c], .bool (hasL C.entries v.key)]) w')) (by kernel_rfl) ⟨x1, x2, x3d⟩ (fun hHeld => ?_)
  refine tk (i := 0) (v := ?vAn10) rfl ?hyAn10 ?restAn10
  case hyAn10 => (intro w hSw; (try dsimp only at hSw); go_simp <;> with_reducible rfl)
  try simp only [Act.put, pt1, pt2, pt3]
  refine tk (i := 1) (v := ?vAn11) rfl ?hyAn11 ?restAn11
  case hyAn11 => (intro w hSw; (try dsimp only at hSw); go_simp <;> with_reducible rfl)
  try simp only [Act.put, pt1, pt2, pt3]
  refine tk (i := 2) (v := ?vAn12) rfl ?hyAn12 ?restAn12
  case hyAn12 => (intro w hSw; (try dsimp only at hSw); go_simp <;> with_reducible rfl)
  try simp only [Act.put, pt1, pt2, pt3]
  refine tk (i := 3) (v := ?vAn13) rfl ?hyAn13 ?restAn13
  case hyAn13 => (intro w hSw; (try dsimp only at hSw); go_simp <;> with_reducible rfl)
  try simp only [Act.put, pt1, pt2, pt3]
  refine tk (i := 4) (v := ?vAn14) rfl ?hyAn14 ?restAn14
  case hyAn14 => (intro w hSw; (try dsimp only at hSw); go_simp <;> with_reducible rfl)
  try simp only [Act.put, pt1, pt2, pt3]
  refine tk (i := 5) (v := ?vAn15) rfl ?hyAn15 ?restAn15
  case hyAn15 => (intro w hSw; (try dsimp only at hSw); go_simp <;> with_reducible rfl)
  try simp only [Act.put, pt1, pt2, pt3]
  refine tk (i := 6) (v := ?vAn16) rfl ?hyAn16 ?restAn16
  case hyAn16 => (intro w hSw; (try dsimp only at hSw); go_simp <;> with_reducible rfl)
  try simp only [Act.put, pt1, pt2, pt3]
  refine tk (i := 7) (v := ?vAn17) rfl ?hyAn17 ?restAn17
  case hyAn17 => (intro w hSw; (try dsimp only at hSw); go_simp <;> with_reducible rfl)
  try simp only [Act.put, pt1, pt2, pt3]
  refine tk (i := 8) (v := ?vAn18) rfl ?hyAn18 ?restAn18
  case hyAn18 => (intro w hSw; (try dsimp only at hSw); go_simp <;> with_reducible rfl)
  try simp only [Act.put, pt1, pt2, pt3]
  refine tk (i := 9) (v := ?vAn19) rfl ?hyAn19 ?restAn19
  case hyAn19 => (intro w hSw; (try dsimp only at hSw); go_simp <;> with_reducible rfl)
  try simp only [Act.put, pt1, pt2, pt3]
  refine wpAnyH_ready (rs := [10]) (by kernel_rfl) (by simp) ?_
  refine AllReadyH.cons rfl (fun K hK => ?_) AllReadyH.nil
  go_simp
  clear hHeld
  refine hK.out _ _ (AL.out _) (fun hHeld => ?_)
  clear hK K
  refine wpAnyH_ready (rs := [11]) (by kernel_rfl) (by simp) ?_
  refine AllReadyH.cons rfl (fun K hK => ?_) AllReadyH.nil
  go_simp
  clear hHeld
  refine hK.out _ _ (AL.out _) (fun hHeld => ?_)
  clear hK K
  refine tk (i := 12) (v := ?vAn112) rfl ?hyAn112 ?restAn112
  case hyAn112 => (intro w hSw; (try dsimp only at hSw); go_simp <;> with_reducible rfl)
  try simp only [Act.put, pt1, pt2, pt3]
  refine wpAnyH_done (by kernel_rfl) ?_ _
  go_upto_region 6 with fail
  obtain ⟨w3, hw3⟩ : ∃ w3, w3 = (w2.alloc (.cells #[encStr k', .int .i64 a, .int .i64 b, encStr s, .slice A n c] 43)).drew := ⟨_, rfl⟩
  rw [show (w2.alloc (.cells #[encStr k', .int .i64 a, .int .i64 b, encStr s, .slice A n c] 43)).drew = w3 from hw3.symm]
  have B3 := Lib.hid (show Below w2.heap.size w2 w3 by rw [hw3]; exact ((Below.refl _ w2).alloc (Nat.le_refl _) _).trans below_drew1)
  have W3 := Lib.hid hw3
  clear x1 x2 x3d hw3
  have R3 := Lib.hid (R2.out.below B3.out)
  have BN3 := Lib.hid (BN2.out.below B3.out hnz)
  have hz23 := B3.out.size
  have x1 : w3.cell? ⟨p, 2, none⟩ = some (.map (some bb)) := R3.out.blk.cell 2
  have x2 : w3.cell? ⟨w.heap.size, 1, none⟩ = some (encStr v.key) := BN3.out.cell 1
  have x3 := (R3.out.keep (w' := w3.drew) (Nat.le_refl _) (fun _ _ _ => rfl)).lookG hkl
  obtain ⟨gv, hgv⟩ : ∃ gv, getL (.int .i64 0) (begunVals C.begun) v.key = .int .i64 gv := getG_form _ _
  rw [hgv] at x3
  clear hgv
  refine wp_region_held_drew (S := (fun w' => w'.cell? ⟨p, 2, none⟩ = some (.map (some bb)) ∧ w'.cell? ⟨w.heap.size, 1, none⟩ = some (encStr v.key) ∧ (Instr.lookup 64 (.map (some bb)) (encStr v.key) true).run Tryz.prog w' = .ok (.tuple #[.int .i64 gv, .bool (hasL C.begun v.key)]) w')) (by kernel_rfl) ⟨x1, x2, x3⟩ (fun hHeld => ?_)
  refine tk (i := 0) (v := ?vBn20) rfl ?hyBn20 ?restBn20
  case hyBn20 => (intro w hSw; (try dsimp only at hSw); go_simp <;> with_reducible rfl)
  try simp only [Act.put, pt1, pt2, pt3]
  refine tk (i := 1) (v := ?vBn21) rfl ?hyBn21 ?restBn21
  case hyBn21 => (intro w hSw; (try dsimp only at hSw); go_simp <;> with_reducible rfl)
  try simp only [Act.put, pt1, pt2, pt3]
  refine tk (i := 2) (v := ?vBn22) rfl ?hyBn22 ?restBn22
  case hyBn22 => (intro w hSw; (try dsimp only at hSw); go_simp <;> with_reducible rfl)
  try simp only [Act.put, pt1, pt2, pt3]
  refine tk (i := 3) (v := ?vBn23) rfl ?hyBn23 ?restBn23
  case hyBn23 => (intro w hSw; (try dsimp only at hSw); go_simp <;> with_reducible rfl)
  try simp only [Act.put, pt1, pt2, pt3]
  refine tk (i := 4) (v := ?vBn24) rfl ?hyBn24 ?restBn24
  case hyBn24 => (intro w hSw; (try dsimp only at hSw); go_simp <;> with_reducible rfl)
  try simp only [Act.put, pt1, pt2, pt3]
  refine tk (i := 5) (v := ?vBn25) rfl ?hyBn25 ?restBn25
  case hyBn25 => (intro w hSw; (try dsimp only at hSw); go_simp <;> with_reducible rfl)
  try simp only [Act.put, pt1, pt2, pt3]
  refine tk (i := 6) (v := ?vBn26) rfl ?hyBn26 ?restBn26
  case hyBn26 => (intro w hSw; (try dsimp only at hSw); go_simp <;> with_reducible rfl)
  try simp only [Act.put, pt1, pt2, pt3]
  refine tk (i := 7) (v := ?vBn27) rfl ?hyBn27 ?restBn27
  case hyBn27 => (intro w hSw; (try dsimp only at hSw); go_simp <;> with_reducible rfl)
  try simp only [Act.put, pt1, pt2, pt3]
  refine tk (i := 8) (v := ?vBn28) rfl ?hyBn28 ?restBn28
  case hyBn28 => (intro w hSw; (try dsimp only at hSw); go_simp <;> with_reducible rfl)
  try simp only [Act.put, pt1, pt2, pt3]
  refine tk (i := 9) (v := ?vBn29) rfl ?hyBn29 ?restBn29
  case hyBn29 => (intro w hSw; (try dsimp only at hSw); go_simp <;> with_reducible rfl)
  try simp only [Act.put, pt1, pt2, pt3]
  refine tk (i := 10) (v := ?vBn210) rfl ?hyBn210 ?restBn210
  case hyBn210 => (intro w hSw; (try dsimp only at hSw); go_simp <;> with_reducible rfl)
  try simp only [Act.put, pt1, pt2, pt3]
  refine tk (i := 11) (v := ?vBn211) rfl ?hyBn211 ?restBn211
  case hyBn211 => (intro w hSw; (try dsimp only at hSw); go_simp <;> with_reducible rfl)
  try simp only [Act.put, pt1, pt2, pt3]
  refine wpAnyH_done (by kernel_rfl) ?_ _
  go_upto_region 7 with fail
  obtain ⟨w4, hw4⟩ : ∃ w4, w4 = w3.drew := ⟨_, rfl⟩
  rw [← hw4]
  have B4 := Lib.hid (show Below w2.heap.size w2 w4 by rw [hw4]; exact B3.out.trans below_drew1)
  have W4 := Lib.hid hw4
  clear x1 x2 x3 hw4 R3 BN3
  have R4 := Lib.hid (R2.out.below B4.out)
  have BN4 := Lib.hid (BN2.out.below B4.out hnz)
  have hz24 := B4.out.size
  have hsr : SR.length = C.staged.length := by rw [← R2.out.stgs, List.length_map]
  have hnd : (SR.map (·.key)).Nodup := by
    have h := R2.out.wf.nds
    rw [← R2.out.stgs, List.map_map] at h
    exact h
  have DC := Lib.hid (fun i hi => del_cut (key := v.key) (SR := SR) (i := i) hnd hi)
  have DN := Lib.hid (fun hi => del_none (key := v.key) (SR := SR) hi)
  have hti := idxP_ge (fun r : BlobR => decide (r.key = v.key)) SR
  obtain ⟨SB, sn, sc, hsv⟩ : ∃ B n c, sv = .slice B n c := by
    rcases R2.out.stg.form with ⟨h, _⟩ | ⟨g, cap, h, _⟩
    · exact ⟨_, _, _, h⟩
    · exact ⟨_, _, _, h⟩
  subst hsv
  obtain ⟨ti, hti0⟩ : ∃ ti, idxP (fun r : BlobR => decide (r.key = v.key)) SR = ti := ⟨_, rfl⟩
  rw [hti0] at hti
  simp only [hti0] at DC DN
  rw [R2.out.stgs] at DC DN
  have TI := Lib.hid hti0
  have hbb1 : be ≠ bb := R2.out.neq.1
  have SNE := Lib.hid (show (some w.heap.size : Option Nat) ≠ (Value.slice SB sn sc).ownBlock from fun e => by
    obtain ⟨cs, hcs⟩ := own_blk R2.out.stg.1 e.symm
    exact blk_ne BN2.out hcs (by decide) rfl)
  clear hnd hti0
  cases hE : hasL C.entries v.key with
  | true =>
    have HOR := Lib.hid (show (hasL C.entries v.key || hasL C.begun v.key) = true by rw [hE]; rfl)
    have HEE := Lib.hid hE
    clear hE
    have BN4k := BN4.out
    have r1 : w4.cell? ⟨w.heap.size, 1, none⟩ = some (encStr v.key) := BN4.out.cell 1
    have r2 : w4.cell? ⟨w.heap.size, 2, none⟩ = some (.int .i64 v.gen) := BN4.out.cell 2
    obtain ⟨B0, n0, c0, htv⟩ : ∃ B n c, tv = .slice B n c := by
      rcases R4.out.tmb.form with ⟨h, _⟩ | ⟨g, cap, h, _⟩
      · exact ⟨_, _, _, h⟩
      · exact ⟨_, _, _, h⟩
    subst htv
    have kp : w4.cell? ⟨p, 3, none⟩ = some (.slice B0 n0 c0) := R4.out.blk.cell 3
    have hp4 : p < w4.heap.size := R4.out.blk.size
    have hn4 : w.heap.size < w4.heap.size := BN4.out.size
    obtain ⟨i0, hi, hz0, hz1, hz2⟩ := info_parts note_info
    have TNE := Lib.hid (show (some w.heap.size : Option Nat) ≠ (Value.slice B0 n0 c0).ownBlock from fun e => by have := TLT.out _ e.symm; omega)
    clear BN4k
    go_upto_region 8 with fail
    refine wp_region_held_drew (S := (fun w' => w'.cell? ⟨w.heap.size, 1, none⟩ = some (encStr v.key) ∧ w'.cell? ⟨w.heap.size, 2, none⟩ = some (.int .i64 v.gen))) (by kernel_rfl) ⟨r1, r2⟩ (fun hHeld => ?_)
    refine tk (i := 0) (v := ?vTtn30) rfl ?hyTtn30 ?restTtn30
    case hyTtn30 => (intro w hSw; (try dsimp only at hSw); go_simp <;> with_reducible rfl)
    try simp only [Act.put, pt1, pt2, pt3]
    refine tk (i := 1) (v := ?vTtn31) rfl ?hyTtn31 ?restTtn31
    case hyTtn31 => (intro w hSw; (try dsimp only at hSw); go_simp <;> with_reducible rfl)
    try simp only [Act.put, pt1, pt2, pt3]
    refine tk (i := 2) (v := ?vTtn32) rfl ?hyTtn32 ?restTtn32
    case hyTtn32 => (intro w hSw; (try dsimp only at hSw); go_simp <;> with_reducible rfl)
    try simp only [Act.put, pt1, pt2, pt3]
    refine tk (i := 3) (v := ?vTtn33) rfl ?hyTtn33 ?restTtn33
    case hyTtn33 => (intro w hSw; (try dsimp only at hSw); go_simp <;> with_reducible rfl)
    try simp only [Act.put, pt1, pt2, pt3]
    refine tk (i := 5) (v := ?vTtn35) rfl ?hyTtn35 ?restTtn35
    case hyTtn35 => (intro w hSw; (try dsimp only at hSw); go_simp <;> with_reducible rfl)
    try simp only [Act.put, pt1, pt2, pt3]
    refine tk (i := 6) (v := ?vTtn36) rfl ?hyTtn36 ?restTtn36
    case hyTtn36 => (intro w hSw; (try dsimp only at hSw); go_simp <;> with_reducible rfl)
    try simp only [Act.put, pt1, pt2, pt3]
    refine tk (i := 7) (v := ?vTtn37) rfl ?hyTtn37 ?restTtn37
    case hyTtn37 => (intro w hSw; (try dsimp only at hSw); go_simp <;> with_reducible rfl)
    try simp only [Act.put, pt1, pt2, pt3]
    refine tk (i := 8) (v := ?vTtn38) rfl ?hyTtn38 ?restTtn38
    case hyTtn38 => (intro w hSw; (try dsimp only at hSw); go_simp <;> with_reducible rfl)
    try simp only [Act.put, pt1, pt2, pt3]
    refine tk (i := 9) (v := ?vTtn39) rfl ?hyTtn39 ?restTtn39
    case hyTtn39 => (intro w hSw; (try dsimp only at hSw); go_simp <;> with_reducible rfl)
    try simp only [Act.put, pt1, pt2, pt3]
    refine wpAnyH_ready (rs := [4, 10]) (by kernel_rfl) (by simp) ?_
    refine AllReadyH.cons rfl (fun K hK => ?_) (AllReadyH.cons rfl (fun K hK => ?_) AllReadyH.nil)
    · go_simp
      refine hK.out _ _ hHeld (fun hHeld => ?_)
      clear hK K
      refine wpAnyH_ready (rs := [10]) (by kernel_rfl) (by simp) ?_
      refine AllReadyH.cons rfl (fun K hK => ?_) AllReadyH.nil
      go_simp
      clear hHeld
      refine hK.out _ _ (by (try dsimp only); go_keep) (fun hHeld => ?_)
      clear hK K
      refine wpAnyH_ready (rs := [11]) (by kernel_rfl) (by simp) ?_
      refine AllReadyH.cons rfl (fun K hK => ?_) AllReadyH.nil
      refine step_append_form _ rfl (.tmp 50) (.tmp 56) 22 rfl 0 32 i0 _ 8 112 Tryz.underlying22 hi hz0 hz1 hz2 rfl (by omega) _ C.tombs.length (tombVals C.tombs) rfl (by exact own_of_eq R4.out.tmb.1 (fun q hq => Below.heap_alloc _ _ q (R4.out.tmb.1.lt q hq).2)) (some ⟨w4.heap.size, 0, none⟩) 1 1 [.int .i64 6, encStr v.key, .int .i64 v.gen, .int .i64 0, .slice none 0 0, encStr [], .int .i64 1, .slice none 0 0] rfl rfl (fun e => by cases e) (by exact src_new _ _ _ _) (by intro u hu; simp only [List.mem_cons, List.not_mem_nil, or_false] at hu; rcases hu with rfl | rfl | rfl | rfl | rfl | rfl | rfl | rfl <;> rfl) (by omega) (by simp only [maxLen]; omega) (by omega) (Nat.zero_le _) ?_; intro g4 cap4 wy hown4 hgr4 hat4 hlt4; have BPY := Lib.hid (Blk.grown (w := w4.drew.alloc (.cells #[.int .i64 6, encStr v.key, .int .i64 v.gen, .int .i64 0, .slice none 0 0, encStr [], .int .i64 1, .slice none 0 0] 32)) (Blk.alloc (w := w4.drew) R4.out.blk (.cells #[.int .i64 6, encStr v.key, .int .i64 v.gen, .int .i64 0, .slice none 0 0, encStr [], .int .i64 1, .slice none 0 0] 32)) hgr4 (fun e => (R4.out.tmb_ne e).1 rfl)); have BNY := Lib.hid (Blk.grown (w := w4.drew.alloc (.cells #[.int .i64 6, encStr v.key, .int .i64 v.gen, .int .i64 0, .slice none 0 0, encStr [], .int .i64 1, .slice none 0 0] 32)) (Blk.alloc (w := w4.drew) BN4.out (.cells #[.int .i64 6, encStr v.key, .int .i64 v.gen, .int .i64 0, .slice none 0 0, encStr [], .int .i64 1, .slice none 0 0] 32)) hgr4 (fun e => TNE.out e.symm)); have s1 : wy.cell? ⟨w.heap.size, 1, none⟩ = some (encStr v.key) := BNY.out.cell 1; have s2 : wy.cell? ⟨w.heap.size, 2, none⟩ = some (.int .i64 v.gen) := BNY.out.cell 2; have kp4 : wy.cell? ⟨p, 3, none⟩ = some (.slice B0 n0 c0) := BPY.out.cell 3; have f4 : wy.frozen? ⟨p, 3, none⟩ = false := BPY.out.free 3; have HO4 := Lib.hid hown4; have HG4 := Lib.hid hgr4; clear hown4 hgr4
      clear hHeld
      refine hK.out _ _ ⟨s1, s2⟩ (fun hHeld => ?_)
      clear hK K
      refine tk (i := 12) (v := ?vTtn3b412) rfl ?hyTtn3b412 ?restTtn3b412
      case hyTtn3b412 => (intro w hSw; (try dsimp only at hSw); go_simp <;> with_reducible rfl)
      refine tk (i := 13) (v := ?vTtn3b413) rfl ?hyTtn3b413 ?restTtn3b413
      case hyTtn3b413 => (intro w hSw; (try dsimp only at hSw); go_simp <;> with_reducible rfl)
      refine wpAnyH_ready (rs := [14]) (by kernel_rfl) (by simp) ?_
      refine AllReadyH.cons rfl (fun K hK => ?_) AllReadyH.nil
      go_simp
      clear hHeld
      refine hK.out _ _ ⟨(World.cell?_setCell_far _ _ _ _ (fun e => hnp e.symm)).trans s1, (World.cell?_setCell_far _ _ _ _ (fun e => hnp e.symm)).trans s2⟩ (fun hHeld => ?_)
      clear hK K
      refine wpAnyH_done (by kernel_rfl) ?_ _
      obtain ⟨w5, hw5⟩ : ∃ w5, w5 = wy.setCell ⟨p, 3, none⟩ (.slice (some ⟨g4, 0, none⟩) (C.tombs.length + 1) cap4) := ⟨_, rfl⟩
      go_upto_region 9 with fail
      rw [← hw5]
      have hgp4 : g4 ≠ p := by
        rcases hat4 with e | e
        · exact (R4.out.tmb_ne e).1
        · have e2 : g4 = w4.heap.size + 1 := e.trans (World.size_alloc w4 _); omega
      have hcy : Chg (fun k => k = p ∨ (Value.slice B0 n0 c0).ownBlock = some k) w4 w5 := by
        rw [hw5]
        exact (((Chg.refl (fun k => k = p ∨ (Value.slice B0 n0 c0).ownBlock = some k) w4).drewN 1 |>.alloc _).grown HG4.out (fun g e => .inl (.inr e))).store (p := ⟨p, 3, none⟩) (.inl (.inl rfl)) _
      have BP5 := Lib.hid (show Blk w5 p 68 #[.slice SB sn sc, .map (some be), .map (some bb), .slice (some ⟨g4, 0, none⟩) (C.tombs.length + 1) cap4, .map (some br), .int .i64 C.gen] by rw [hw5]; exact BPY.out.store 3 _)
      have BN5 := Lib.hid (show Blk w5 w.heap.size 32 (noteCells v D dn dc Q qn qc) by rw [hw5]; exact BNY.out.apart hnp _)
      have ST5 := Lib.hid (R4.out.stg.chg hcy (fun g hg e => e.elim (R2.out.stg_ne hg).1 (R2.out.stg_ne hg).2.1))
      have ME5 := Lib.hid (R4.out.ents.of_eq (hcy.block be R4.out.ents.lt (fun e => e.elim (fun e => hm.1 e.symm) (fun e => (R2.out.tmb_ne e).2.2.1 rfl))))
      have MG5 := Lib.hid (R4.out.begs.of_eq (hcy.block bb R4.out.begs.lt (fun e => e.elim (fun e => hm.2.1 e.symm) (fun e => (R2.out.tmb_ne e).2.2.2.1 rfl))))
      have HC5 := Lib.hid (show Chg (fun k => k = p ∨ (Value.slice B0 n0 c0).ownBlock = some k) w2 w5 from (Chg.of_below _ B4.out).trans hcy)
      have TB5 := Lib.hid (show OwnRow (Wide F w) w5 32 8 (.slice (some ⟨g4, 0, none⟩) (C.tombs.length + 1) cap4) (goneL C v).length (tombVals (goneL C v)) by
        rw [hw5, show goneL C v = C.tombs ++ [(v.key, v.gen)] by unfold goneL; rw [HOR.out]; rfl]
        exact tomb_own R4.out.tmb rfl (Nat.le_trans BB2.out.size hz24) HO4.out hat4 hgp4)
      have TBF := Lib.hid (show ∀ g, (Value.slice (some ⟨g4, 0, none⟩) (C.tombs.length + 1) cap4).ownBlock = some g → (Value.slice B0 n0 c0).ownBlock = some g ∨ w2.heap.size ≤ g from fun g hg => by
        have e : g4 = g := Option.some.inj hg
        subst e
        rcases hat4 with e | e
        · exact .inl e
        · have e2 : g4 = w4.heap.size + 1 := e.trans (World.size_alloc w4 _); exact .inr (by omega))
      clear hcy hw5 hat4 r1 r2 kp s1 s2 kp4 f4
      have hp5 : p < w5.heap.size := BP5.out.size
      have hn5 : w.heap.size < w5.heap.size := BN5.out.size
      have k50 : w5.cell? ⟨p, 0, none⟩ = some (.slice SB sn sc) := BP5.out.cell 0
      have k51 : w5.cell? ⟨w.heap.size, 1, none⟩ = some (encStr v.key) := BN5.out.cell 1
      have IX := Lib.hid (cWaits0 F p _ (.slice SB sn sc) SR v.key w5 k50 ST5.out hsr)
      go_upto_region 9 with fail
      by_cases ht : ti < 0
      case pos =>
        have d8 : decide (0 ≤ ti) = false := by simpa using ht
        have HT := Lib.hid ht
        clear ht
        go_upto_region 12 with (go_at_call 32; refine (IX.out).mono ?_; rw [TI.out]; rintro e wx ⟨rfl, hbx⟩; have BX := Lib.hid hbx; clear hbx)
        have HDX := Lib.hid (show Dropped F w5 wx p (.slice SB sn sc) SR C.staged v.key (.slice SB sn sc) SR from ⟨by rw [DN.out HT.out]; exact (OwnRow.owning ..).below ST5.out BX.out, by rw [DN.out HT.out]; exact R2.out.stgs, fun r hr => hr, Chg.of_below _ BX.out, rfl⟩)
        have BPX := Lib.hid (BP5.out.below BX.out hp5)
        clear k50 k51
        have BNX := Lib.hid (BN5.out.of_eq (HDX.out.chg.block _ hn5 (fun e => e.elim hnp (fun e => SNE.out e.symm))))
        have MEX := Lib.hid (ME5.out.of_eq (HDX.out.chg.block be ME5.out.lt (fun e => e.elim (fun e => hm.1 e.symm) (fun e => (R2.out.stg_ne e).2.2.1 rfl))))
        have MGX := Lib.hid (MG5.out.of_eq (HDX.out.chg.block bb MG5.out.lt (fun e => e.elim (fun e => hm.2.1 e.symm) (fun e => (R2.out.stg_ne e).2.2.2.1 rfl))))
        have y0 : wx.cell? ⟨p, 1, none⟩ = some (.map (some be)) := BPX.out.cell 1
        have y1 : wx.cell? ⟨w.heap.size, 1, none⟩ = some (encStr v.key) := BNX.out.cell 1
        obtain ⟨wy, hry, hmy, hgy⟩ := (MEX.out.of_eq (w' := wx.drew) rfl).drop (t := 63) (e := 43) Tryz.underlying63 (k := v.key) hkl 0
        have hry' : (Builtin.delete_ #[63, 9] 0 #[.map (some be), encStr v.key]).run Tryz.prog wx.drew = .ok (.tuple #[]) wy := hry
        have BPY := Lib.hid (Blk.grown (w := wx.drew) BPX.out hgy (fun e => hm.1 (Option.some.inj e).symm))
        have BNY := Lib.hid (Blk.grown (w := wx.drew) BNX.out hgy (fun e => blk_apart BNX.out MEX.out (Option.some.inj e).symm))
        have z0 : wy.cell? ⟨p, 1, none⟩ = some (.map (some be)) := BPY.out.cell 1
        have z1 : wy.cell? ⟨w.heap.size, 1, none⟩ = some (encStr v.key) := BNY.out.cell 1
        have MEY := Lib.hid hmy
        have GY := Lib.hid (show wx.grownBy wy (some be) from ⟨hgy.os, hgy.tape, hgy.output, hgy.size, hgy.block⟩)
        have MGY := Lib.hid (MGX.out.of_eq (GY.out.block bb MGX.out.lt (fun e => hbb1 (Option.some.inj e).symm)))
        clear hry hmy hgy
        refine wp_region_held_drew (S := (fun w' => w'.cell? ⟨p, 1, none⟩ = some (.map (some be)) ∧ w'.cell? ⟨w.heap.size, 1, none⟩ = some (encStr v.key))) (by kernel_rfl) ⟨y0, y1⟩ (fun hHeld => ?_)
        refine tk (i := 0) (v := ?vTpdn90) rfl ?hyTpdn90 ?restTpdn90
        case hyTpdn90 => (intro w hSw; (try dsimp only at hSw); go_simp <;> with_reducible rfl)
        try simp only [Act.put, pt1, pt2, pt3]
        refine tk (i := 1) (v := ?vTpdn91) rfl ?hyTpdn91 ?restTpdn91
        case hyTpdn91 => (intro w hSw; (try dsimp only at hSw); go_simp <;> with_reducible rfl)
        try simp only [Act.put, pt1, pt2, pt3]
        refine tk (i := 2) (v := ?vTpdn92) rfl ?hyTpdn92 ?restTpdn92
        case hyTpdn92 => (intro w hSw; (try dsimp only at hSw); go_simp <;> with_reducible rfl)
        try simp only [Act.put, pt1, pt2, pt3]
        refine tk (i := 3) (v := ?vTpdn93) rfl ?hyTpdn93 ?restTpdn93
        case hyTpdn93 => (intro w hSw; (try dsimp only at hSw); go_simp <;> with_reducible rfl)
        try simp only [Act.put, pt1, pt2, pt3]
        refine tk (i := 4) (v := ?vTpdn94) rfl ?hyTpdn94 ?restTpdn94
        case hyTpdn94 => (intro w hSw; (try dsimp only at hSw); go_simp <;> with_reducible rfl)
        try simp only [Act.put, pt1, pt2, pt3]
        refine tk (i := 5) (v := ?vTpdn95) rfl ?hyTpdn95 ?restTpdn95
        case hyTpdn95 => (intro w hSw; (try dsimp only at hSw); go_simp <;> with_reducible rfl)
        try simp only [Act.put, pt1, pt2, pt3]
        refine wpAnyH_ready (rs := [6]) (by kernel_rfl) (by simp) ?_
        refine AllReadyH.cons rfl (fun K hK => ?_) AllReadyH.nil
        go_simp
        clear hHeld
        refine hK.out _ _ ⟨z0, z1⟩ (fun hHeld => ?_)
        clear hK K
        refine wpAnyH_done (by kernel_rfl) ?_ _
        go_upto_region 13 with fail
        clear y0 y1 z0 hry'
        have y0 : wy.cell? ⟨p, 2, none⟩ = some (.map (some bb)) := BPY.out.cell 2
        obtain ⟨wz, hrz, hmz, hgz⟩ := (MGY.out.of_eq (w' := wy.drew) rfl).drop (t := 64) (e := 3) Tryz.underlying64 (k := v.key) hkl 0
        have hrz' : (Builtin.delete_ #[64, 9] 0 #[.map (some bb), encStr v.key]).run Tryz.prog wy.drew = .ok (.tuple #[]) wz := hrz
        have BPZ := Lib.hid (Blk.grown (w := wy.drew) BPY.out hgz (fun e => hm.2.1 (Option.some.inj e).symm))
        have BNZ := Lib.hid (Blk.grown (w := wy.drew) BNY.out hgz (fun e => blk_apart BNX.out MGX.out (Option.some.inj e).symm))
        have x0 : wz.cell? ⟨p, 2, none⟩ = some (.map (some bb)) := BPZ.out.cell 2
        have x1 : wz.cell? ⟨w.heap.size, 1, none⟩ = some (encStr v.key) := BNZ.out.cell 1
        have MGZ := Lib.hid hmz
        have GZ := Lib.hid (show wy.grownBy wz (some bb) from ⟨hgz.os, hgz.tape, hgz.output, hgz.size, hgz.block⟩)
        have MEZ := Lib.hid (MEY.out.of_eq (GZ.out.block be MEY.out.lt (fun e => hbb1 (Option.some.inj e))))
        clear hrz hmz hgz
        refine wp_region_held_drew (S := (fun w' => w'.cell? ⟨p, 2, none⟩ = some (.map (some bb)) ∧ w'.cell? ⟨w.heap.size, 1, none⟩ = some (encStr v.key))) (by kernel_rfl) ⟨y0, z1⟩ (fun hHeld => ?_)
        refine tk (i := 0) (v := ?vTpen100) rfl ?hyTpen100 ?restTpen100
        case hyTpen100 => (intro w hSw; (try dsimp only at hSw); go_simp <;> with_reducible rfl)
        try simp only [Act.put, pt1, pt2, pt3]
        refine tk (i := 1) (v := ?vTpen101) rfl ?hyTpen101 ?restTpen101
        case hyTpen101 => (intro w hSw; (try dsimp only at hSw); go_simp <;> with_reducible rfl)
        try simp only [Act.put, pt1, pt2, pt3]
        refine tk (i := 2) (v := ?vTpen102) rfl ?hyTpen102 ?restTpen102
        case hyTpen102 => (intro w hSw; (try dsimp only at hSw); go_simp <;> with_reducible rfl)
        try simp only [Act.put, pt1, pt2, pt3]
        refine tk (i := 3) (v := ?vTpen103) rfl ?hyTpen103 ?restTpen103
        case hyTpen103 => (intro w hSw; (try dsimp only at hSw); go_simp <;> with_reducible rfl)
        try simp only [Act.put, pt1, pt2, pt3]
        refine tk (i := 4) (v := ?vTpen104) rfl ?hyTpen104 ?restTpen104
        case hyTpen104 => (intro w hSw; (try dsimp only at hSw); go_simp <;> with_reducible rfl)
        try simp only [Act.put, pt1, pt2, pt3]
        refine tk (i := 5) (v := ?vTpen105) rfl ?hyTpen105 ?restTpen105
        case hyTpen105 => (intro w hSw; (try dsimp only at hSw); go_simp <;> with_reducible rfl)
        try simp only [Act.put, pt1, pt2, pt3]
        refine wpAnyH_ready (rs := [6]) (by kernel_rfl) (by simp) ?_
        refine AllReadyH.cons rfl (fun K hK => ?_) AllReadyH.nil
        go_simp
        clear hHeld
        refine hK.out _ _ ⟨x0, x1⟩ (fun hHeld => ?_)
        clear hK K
        refine wpAnyH_done (by kernel_rfl) ?_ _
        go_upto_region 14 with fail
        have x2 : wz.cell? ⟨w.heap.size, 2, none⟩ = some (.int .i64 v.gen) := BNZ.out.cell 2
        have x5 : wz.cell? ⟨p, 5, none⟩ = some (.int .i64 C.gen) := BPZ.out.cell 5
        have xf : wz.frozen? ⟨p, 5, none⟩ = false := BPZ.out.free 5
        go_wp2_with fail
        go_ret
        rw [HE.out]
        exact gone_last R2.out BB2.out HC5.out HDX.out GY.out GZ.out BPZ.out TB5.out TBF.out MEZ.out MGZ.out WF.out
      have d8 : decide (0 ≤ ti) = true := by simp; omega
      obtain ⟨i, rfl⟩ := Int.eq_ofNat_of_zero_le (show 0 ≤ ti by omega)
      obtain ⟨hcut, hil⟩ := DC.out i rfl
      obtain ⟨m, hmm⟩ : ∃ m, C.staged.length = i + 1 + m := ⟨C.staged.length - (i + 1), by omega⟩
      obtain ⟨g, cap, hsl, hF⟩ : ∃ g cap, (.slice SB sn sc : Value) = .slice (some ⟨g, 0, none⟩) (i + 1 + m) cap ∧ F g := by
        rcases ST5.out.form with ⟨_, h⟩ | ⟨g, cap, h, _, _, hF, _⟩
        · omega
        · exact ⟨g, cap, by rw [h, hmm], hF⟩
      obtain ⟨rfl, rfl, rfl⟩ : SB = some ⟨g, 0, none⟩ ∧ sn = i + 1 + m ∧ sc = cap := by injection hsl with a b c; exact ⟨a, b, c⟩
      have TM := Lib.hid (show OwnRow F w5 70 2 (.slice (some ⟨g, 0, none⟩) (i + 1 + m) sc) (i + 1 + m) (blobVals SR) by have h := ST5.out; rw [hmm] at h; exact h)
      have HCUT := Lib.hid hcut
      have hgp : g ≠ p := (R2.out.stg_ne rfl).1
      have hlen : (SR.eraseIdx i).length = i + m := by rw [List.length_eraseIdx_of_lt hil, hsr, hmm]; omega
      have hlen2 : (delL C.staged v.key).length = i + m := by rw [← hcut, List.length_map, hlen]
      have BCUT := Lib.hid (blobVals_cut SR i hil)
      have HL2 := Lib.hid hlen2
      have hi63 : (i : Int) + 1 ≤ 9223372036854775807 := by omega
      clear hsl hcut hlen hlen2 hmm hil
      go_upto_region 12 with (first
        | (go_at_call 32; refine IX.out.mono ?_; rw [TI.out]; rintro e w6 ⟨rfl, hb6⟩; have B6 := Lib.hid hb6; have k6 : w6.cell? ⟨p, 0, none⟩ = some (.slice (some ⟨g, 0, none⟩) (i + 1 + m) sc) := (hb6.cell (p := ⟨p, 0, none⟩) hp5).trans k50; clear hb6)
        | (go_at_call 71; refine (dBlob F g sc i m (blobVals SR) _ (by exact (OwnRow.owning ..).below TM.out B6.out) (blobVals_one _)).mono ?_; rintro e w7 ⟨rfl, ho7, hc7⟩; have HO7 := Lib.hid ho7; have HC7 := Lib.hid (show Chg (fun k => k = g) w6 w7 from ⟨hc7.os, hc7.tape, hc7.output, hc7.size, hc7.block⟩); have BP7 := Lib.hid ((BP5.out.below B6.out hp5).of_eq (hc7.block p (Nat.lt_of_lt_of_le hp5 B6.out.size) (fun e => hgp e.symm))); have f7 : w7.frozen? ⟨p, 0, none⟩ = false := BP7.out.free 0; have kp7 : w7.cell? ⟨p, 0, none⟩ = some (.slice (some ⟨g, 0, none⟩) (i + 1 + m) sc) := BP7.out.cell 0; clear ho7 hc7))
      obtain ⟨wx, hwx⟩ : ∃ wx, wx = w7.setCell ⟨p, 0, none⟩ (.slice (some ⟨g, 0, none⟩) (i + m) sc) := ⟨_, rfl⟩
      rw [← hwx]
      have hc7x : Chg (fun k => k = p) w7 wx := by rw [hwx]; exact (Chg.refl (fun k => k = p) w7).store (p := ⟨p, 0, none⟩) (.inl rfl) _
      have hcx : Chg (fun k => k = p ∨ (Value.slice (some ⟨g, 0, none⟩) (i + 1 + m) sc).ownBlock = some k) w5 wx := ((Chg.of_below _ B6.out).trans (HC7.out.mono (fun k e => .inr (by rw [e]; rfl)))).trans (hc7x.mono (fun k e => .inl e))
      have HDX := Lib.hid (show Dropped F w5 wx p (.slice (some ⟨g, 0, none⟩) (i + 1 + m) sc) SR C.staged v.key (.slice (some ⟨g, 0, none⟩) (i + m) sc) (SR.eraseIdx i) from ⟨by
        rw [HL2.out, ← BCUT.out]
        exact HO7.out.chg hc7x (fun q hq e => hgp ((Option.some.inj hq).trans e)), HCUT.out, fun r hr => (List.eraseIdx_sublist ..).subset hr, hcx, rfl⟩)
      have BPX := Lib.hid (show Blk wx p 68 #[.slice (some ⟨g, 0, none⟩) (i + m) sc, .map (some be), .map (some bb), .slice (some ⟨g4, 0, none⟩) (C.tombs.length + 1) cap4, .map (some br), .int .i64 C.gen] by rw [hwx]; exact BP7.out.store 0 _)
      clear k50 k51 k6 f7 kp7 hwx
      have BNX := Lib.hid (BN5.out.of_eq (HDX.out.chg.block _ hn5 (fun e => e.elim hnp (fun e => SNE.out e.symm))))
      have MEX := Lib.hid (ME5.out.of_eq (HDX.out.chg.block be ME5.out.lt (fun e => e.elim (fun e => hm.1 e.symm) (fun e => (R2.out.stg_ne e).2.2.1 rfl))))
      have MGX := Lib.hid (MG5.out.of_eq (HDX.out.chg.block bb MG5.out.lt (fun e => e.elim (fun e => hm.2.1 e.symm) (fun e => (R2.out.stg_ne e).2.2.2.1 rfl))))
      have y0 : wx.cell? ⟨p, 1, none⟩ = some (.map (some be)) := BPX.out.cell 1
      have y1 : wx.cell? ⟨w.heap.size, 1, none⟩ = some (encStr v.key) := BNX.out.cell 1
      obtain ⟨wy, hry, hmy, hgy⟩ := (MEX.out.of_eq (w' := wx.drew) rfl).drop (t := 63) (e := 43) Tryz.underlying63 (k := v.key) hkl 0
      have hry' : (Builtin.delete_ #[63, 9] 0 #[.map (some be), encStr v.key]).run Tryz.prog wx.drew = .ok (.tuple #[]) wy := hry
      have BPY := Lib.hid (Blk.grown (w := wx.drew) BPX.out hgy (fun e => hm.1 (Option.some.inj e).symm))
      have BNY := Lib.hid (Blk.grown (w := wx.drew) BNX.out hgy (fun e => blk_apart BNX.out MEX.out (Option.some.inj e).symm))
      have z0 : wy.cell? ⟨p, 1, none⟩ = some (.map (some be)) := BPY.out.cell 1
      have z1 : wy.cell? ⟨w.heap.size, 1, none⟩ = some (encStr v.key) := BNY.out.cell 1
      have MEY := Lib.hid hmy
      have GY := Lib.hid (show wx.grownBy wy (some be) from ⟨hgy.os, hgy.tape, hgy.output, hgy.size, hgy.block⟩)
      have MGY := Lib.hid (MGX.out.of_eq (GY.out.block bb MGX.out.lt (fun e => hbb1 (Option.some.inj e).symm)))
      clear hry hmy hgy
      refine wp_region_held_drew (S := (fun w' => w'.cell? ⟨p, 1, none⟩ = some (.map (some be)) ∧ w'.cell? ⟨w.heap.size, 1, none⟩ = some (encStr v.key))) (by kernel_rfl) ⟨y0, y1⟩ (fun hHeld => ?_)
      refine tk (i := 0) (v := ?vTqdn110) rfl ?hyTqdn110 ?restTqdn110
      case hyTqdn110 => (intro w hSw; (try dsimp only at hSw); go_simp <;> with_reducible rfl)
      try simp only [Act.put, pt1, pt2, pt3]
      refine tk (i := 1) (v := ?vTqdn111) rfl ?hyTqdn111 ?restTqdn111
      case hyTqdn111 => (intro w hSw; (try dsimp only at hSw); go_simp <;> with_reducible rfl)
      try simp only [Act.put, pt1, pt2, pt3]
      refine tk (i := 2) (v := ?vTqdn112) rfl ?hyTqdn112 ?restTqdn112
      case hyTqdn112 => (intro w hSw; (try dsimp only at hSw); go_simp <;> with_reducible rfl)
      try simp only [Act.put, pt1, pt2, pt3]
      refine tk (i := 3) (v := ?vTqdn113) rfl ?hyTqdn113 ?restTqdn113
      case hyTqdn113 => (intro w hSw; (try dsimp only at hSw); go_simp <;> with_reducible rfl)
      try simp only [Act.put, pt1, pt2, pt3]
      refine tk (i := 4) (v := ?vTqdn114) rfl ?hyTqdn114 ?restTqdn114
      case hyTqdn114 => (intro w hSw; (try dsimp only at hSw); go_simp <;> with_reducible rfl)
      try simp only [Act.put, pt1, pt2, pt3]
      refine tk (i := 5) (v := ?vTqdn115) rfl ?hyTqdn115 ?restTqdn115
      case hyTqdn115 => (intro w hSw; (try dsimp only at hSw); go_simp <;> with_reducible rfl)
      try simp only [Act.put, pt1, pt2, pt3]
      refine wpAnyH_ready (rs := [6]) (by kernel_rfl) (by simp) ?_
      refine AllReadyH.cons rfl (fun K hK => ?_) AllReadyH.nil
      go_simp
      clear hHeld
      refine hK.out _ _ ⟨z0, z1⟩ (fun hHeld => ?_)
      clear hK K
      refine wpAnyH_done (by kernel_rfl) ?_ _
      go_upto_region 13 with fail
      clear y0 y1 z0 hry'
      have y0 : wy.cell? ⟨p, 2, none⟩ = some (.map (some bb)) := BPY.out.cell 2
      obtain ⟨wz, hrz, hmz, hgz⟩ := (MGY.out.of_eq (w' := wy.drew) rfl).drop (t := 64) (e := 3) Tryz.underlying64 (k := v.key) hkl 0
      have hrz' : (Builtin.delete_ #[64, 9] 0 #[.map (some bb), encStr v.key]).run Tryz.prog wy.drew = .ok (.tuple #[]) wz := hrz
      have BPZ := Lib.hid (Blk.grown (w := wy.drew) BPY.out hgz (fun e => hm.2.1 (Option.some.inj e).symm))
      have BNZ := Lib.hid (Blk.grown (w := wy.drew) BNY.out hgz (fun e => blk_apart BNX.out MGX.out (Option.some.inj e).symm))
      have x0 : wz.cell? ⟨p, 2, none⟩ = some (.map (some bb)) := BPZ.out.cell 2
      have x1 : wz.cell? ⟨w.heap.size, 1, none⟩ = some (encStr v.key) := BNZ.out.cell 1
      have MGZ := Lib.hid hmz
      have GZ := Lib.hid (show wy.grownBy wz (some bb) from ⟨hgz.os, hgz.tape, hgz.output, hgz.size, hgz.block⟩)
      have MEZ := Lib.hid (MEY.out.of_eq (GZ.out.block be MEY.out.lt (fun e => hbb1 (Option.some.inj e))))
      clear hrz hmz hgz
      refine wp_region_held_drew (S := (fun w' => w'.cell? ⟨p, 2, none⟩ = some (.map (some bb)) ∧ w'.cell? ⟨w.heap.size, 1, none⟩ = some (encStr v.key))) (by kernel_rfl) ⟨y0, z1⟩ (fun hHeld => ?_)
      refine tk (i := 0) (v := ?vTqen120) rfl ?hyTqen120 ?restTqen120
      case hyTqen120 => (intro w hSw; (try dsimp only at hSw); go_simp <;> with_reducible rfl)
      try simp only [Act.put, pt1, pt2, pt3]
      refine tk (i := 1) (v := ?vTqen121) rfl ?hyTqen121 ?restTqen121
      case hyTqen121 => (intro w hSw; (try dsimp only at hSw); go_simp <;> with_reducible rfl)
      try simp only [Act.put, pt1, pt2, pt3]
      refine tk (i := 2) (v := ?vTqen122) rfl ?hyTqen122 ?restTqen122
      case hyTqen122 => (intro w hSw; (try dsimp only at hSw); go_simp <;> with_reducible rfl)
      try simp only [Act.put, pt1, pt2, pt3]
      refine tk (i := 3) (v := ?vTqen123) rfl ?hyTqen123 ?restTqen123
      case hyTqen123 => (intro w hSw; (try dsimp only at hSw); go_simp <;> with_reducible rfl)
      try simp only [Act.put, pt1, pt2, pt3]
      refine tk (i := 4) (v := ?vTqen124) rfl ?hyTqen124 ?restTqen124
      case hyTqen124 => (intro w hSw; (try dsimp only at hSw); go_simp <;> with_reducible rfl)
      try simp only [Act.put, pt1, pt2, pt3]
      refine tk (i := 5) (v := ?vTqen125) rfl ?hyTqen125 ?restTqen125
      case hyTqen125 => (intro w hSw; (try dsimp only at hSw); go_simp <;> with_reducible rfl)
      try simp only [Act.put, pt1, pt2, pt3]
      refine wpAnyH_ready (rs := [6]) (by kernel_rfl) (by simp) ?_
      refine AllReadyH.cons rfl (fun K hK => ?_) AllReadyH.nil
      go_simp
      clear hHeld
      refine hK.out _ _ ⟨x0, x1⟩ (fun hHeld => ?_)
      clear hK K
      refine wpAnyH_done (by kernel_rfl) ?_ _
      go_upto_region 14 with fail
      have x2 : wz.cell? ⟨w.heap.size, 2, none⟩ = some (.int .i64 v.gen) := BNZ.out.cell 2
      have x5 : wz.cell? ⟨p, 5, none⟩ = some (.int .i64 C.gen) := BPZ.out.cell 5
      have xf : wz.frozen? ⟨p, 5, none⟩ = false := BPZ.out.free 5
      go_wp2_with fail
      go_ret
      rw [HE.out]
      exact gone_last R2.out BB2.out HC5.out HDX.out GY.out GZ.out BPZ.out TB5.out TBF.out MEZ.out MGZ.out WF.out
    · go_simp
      clear hHeld
      refine hK.out _ _ (by (try dsimp only); go_keep) (fun hHeld => ?_)
      clear hK K
      refine wpAnyH_ready (rs := [4]) (by kernel_rfl) (by simp) ?_
      refine AllReadyH.cons rfl (fun K hK => ?_) AllReadyH.nil
      go_simp
      refine hK.out _ _ hHeld (fun hHeld => ?_)
      clear hK K
      refine wpAnyH_ready (rs := [11]) (by kernel_rfl) (by simp) ?_
      refine AllReadyH.cons rfl (fun K hK => ?_) AllReadyH.nil
      refine step_append_form _ rfl (.tmp 50) (.tmp 56) 22 rfl 0 32 i0 _ 8 112 Tryz.underlying22 hi hz0 hz1 hz2 rfl (by omega) _ C.tombs.length (tombVals C.tombs) rfl (by exact own_of_eq R4.out.tmb.1 (fun q hq => Below.heap_alloc _ _ q (R4.out.tmb.1.lt q hq).2)) (some ⟨w4.heap.size, 0, none⟩) 1 1 [.int .i64 6, encStr v.key, .int .i64 v.gen, .int .i64 0, .slice none 0 0, encStr [], .int .i64 1, .slice none 0 0] rfl rfl (fun e => by cases e) (by exact src_new _ _ _ _) (by intro u hu; simp only [List.mem_cons, List.not_mem_nil, or_false] at hu; rcases hu with rfl | rfl | rfl | rfl | rfl | rfl | rfl | rfl <;> rfl) (by omega) (by simp only [maxLen]; omega) (by omega) (Nat.zero_le _) ?_; intro g4 cap4 wy hown4 hgr4 hat4 hlt4; have BPY := Lib.hid (Blk.grown (w := w4.drew.alloc (.cells #[.int .i64 6, encStr v.key, .int .i64 v.gen, .int .i64 0, .slice none 0 0, encStr [], .int .i64 1, .slice none 0 0] 32)) (Blk.alloc (w := w4.drew) R4.out.blk (.cells #[.int .i64 6, encStr v.key, .int .i64 v.gen, .int .i64 0, .slice none 0 0, encStr [], .int .i64 1, .slice none 0 0] 32)) hgr4 (fun e => (R4.out.tmb_ne e).1 rfl)); have BNY := Lib.hid (Blk.grown (w := w4.drew.alloc (.cells #[.int .i64 6, encStr v.key, .int .i64 v.gen, .int .i64 0, .slice none 0 0, encStr [], .int .i64 1, .slice none 0 0] 32)) (Blk.alloc (w := w4.drew) BN4.out (.cells #[.int .i64 6, encStr v.key, .int .i64 v.gen, .int .i64 0, .slice none 0 0, encStr [], .int .i64 1, .slice none 0 0] 32)) hgr4 (fun e => TNE.out e.symm)); have s1 : wy.cell? ⟨w.heap.size, 1, none⟩ = some (encStr v.key) := BNY.out.cell 1; have s2 : wy.cell? ⟨w.heap.size, 2, none⟩ = some (.int .i64 v.gen) := BNY.out.cell 2; have kp4 : wy.cell? ⟨p, 3, none⟩ = some (.slice B0 n0 c0) := BPY.out.cell 3; have f4 : wy.frozen? ⟨p, 3, none⟩ = false := BPY.out.free 3; have HO4 := Lib.hid hown4; have HG4 := Lib.hid hgr4; clear hown4 hgr4
      clear hHeld
      refine hK.out _ _ ⟨s1, s2⟩ (fun hHeld => ?_)
      clear hK K
      refine tk (i := 12) (v := ?vTtn3b1012) rfl ?hyTtn3b1012 ?restTtn3b1012
      case hyTtn3b1012 => (intro w hSw; (try dsimp only at hSw); go_simp <;> with_reducible rfl)
      refine tk (i := 13) (v := ?vTtn3b1013) rfl ?hyTtn3b1013 ?restTtn3b1013
      case hyTtn3b1013 => (intro w hSw; (try dsimp only at hSw); go_simp <;> with_reducible rfl)
      refine wpAnyH_ready (rs := [14]) (by kernel_rfl) (by simp) ?_
      refine AllReadyH.cons rfl (fun K hK => ?_) AllReadyH.nil
      go_simp
      clear hHeld
      refine hK.out _ _ ⟨(World.cell?_setCell_far _ _ _ _ (fun e => hnp e.symm)).trans s1, (World.cell?_setCell_far _ _ _ _ (fun e => hnp e.symm)).trans s2⟩ (fun hHeld => ?_)
      clear hK K
      refine wpAnyH_done (by kernel_rfl) ?_ _
      obtain ⟨w5, hw5⟩ : ∃ w5, w5 = wy.setCell ⟨p, 3, none⟩ (.slice (some ⟨g4, 0, none⟩) (C.tombs.length + 1) cap4) := ⟨_, rfl⟩
      go_upto_region 9 with fail
      rw [← hw5]
      have hgp4 : g4 ≠ p := by
        rcases hat4 with e | e
        · exact (R4.out.tmb_ne e).1
        · have e2 : g4 = w4.heap.size + 1 := e.trans (World.size_alloc w4 _); omega
      have hcy : Chg (fun k => k = p ∨ (Value.slice B0 n0 c0).ownBlock = some k) w4 w5 := by
        rw [hw5]
        exact (((Chg.refl (fun k => k = p ∨ (Value.slice B0 n0 c0).ownBlock = some k) w4).drewN 1 |>.alloc _).grown HG4.out (fun g e => .inl (.inr e))).store (p := ⟨p, 3, none⟩) (.inl (.inl rfl)) _
      have BP5 := Lib.hid (show Blk w5 p 68 #[.slice SB sn sc, .map (some be), .map (some bb), .slice (some ⟨g4, 0, none⟩) (C.tombs.length + 1) cap4, .map (some br), .int .i64 C.gen] by rw [hw5]; exact BPY.out.store 3 _)
      have BN5 := Lib.hid (show Blk w5 w.heap.size 32 (noteCells v D dn dc Q qn qc) by rw [hw5]; exact BNY.out.apart hnp _)
      have ST5 := Lib.hid (R4.out.stg.chg hcy (fun g hg e => e.elim (R2.out.stg_ne hg).1 (R2.out.stg_ne hg).2.1))
      have ME5 := Lib.hid (R4.out.ents.of_eq (hcy.block be R4.out.ents.lt (fun e => e.elim (fun e => hm.1 e.symm) (fun e => (R2.out.tmb_ne e).2.2.1 rfl))))
      have MG5 := Lib.hid (R4.out.begs.of_eq (hcy.block bb R4.out.begs.lt (fun e => e.elim (fun e => hm.2.1 e.symm) (fun e => (R2.out.tmb_ne e).2.2.2.1 rfl))))
      have HC5 := Lib.hid (show Chg (fun k => k = p ∨ (Value.slice B0 n0 c0).ownBlock = some k) w2 w5 from (Chg.of_below _ B4.out).trans hcy)
      have TB5 := Lib.hid (show OwnRow (Wide F w) w5 32 8 (.slice (some ⟨g4, 0, none⟩) (C.tombs.length + 1) cap4) (goneL C v).length (tombVals (goneL C v)) by
        rw [hw5, show goneL C v = C.tombs ++ [(v.key, v.gen)] by unfold goneL; rw [HOR.out]; rfl]
        exact tomb_own R4.out.tmb rfl (Nat.le_trans BB2.out.size hz24) HO4.out hat4 hgp4)
      have TBF := Lib.hid (show ∀ g, (Value.slice (some ⟨g4, 0, none⟩) (C.tombs.length + 1) cap4).ownBlock = some g → (Value.slice B0 n0 c0).ownBlock = some g ∨ w2.heap.size ≤ g from fun g hg => by
        have e : g4 = g := Option.some.inj hg
        subst e
        rcases hat4 with e | e
        · exact .inl e
        · have e2 : g4 = w4.heap.size + 1 := e.trans (World.size_alloc w4 _); exact .inr (by omega))
      clear hcy hw5 hat4 r1 r2 kp s1 s2 kp4 f4
      have hp5 : p < w5.heap.size := BP5.out.size
      have hn5 : w.heap.size < w5.heap.size := BN5.out.size
      have k50 : w5.cell? ⟨p, 0, none⟩ = some (.slice SB sn sc) := BP5.out.cell 0
      have k51 : w5.cell? ⟨w.heap.size, 1, none⟩ = some (encStr v.key) := BN5.out.cell 1
      have IX := Lib.hid (cWaits0 F p _ (.slice SB sn sc) SR v.key w5 k50 ST5.out hsr)
      go_upto_region 9 with fail
      by_cases ht : ti < 0
      case pos =>
        have d8 : decide (0 ≤ ti) = false := by simpa using ht
        have HT := Lib.hid ht
        clear ht
        go_upto_region 12 with (go_at_call 32; refine (IX.out).mono ?_; rw [TI.out]; rintro e wx ⟨rfl, hbx⟩; have BX := Lib.hid hbx; clear hbx)
        have HDX := Lib.hid (show Dropped F w5 wx p (.slice SB sn sc) SR C.staged v.key (.slice SB sn sc) SR from ⟨by rw [DN.out HT.out]; exact (OwnRow.owning ..).below ST5.out BX.out, by rw [DN.out HT.out]; exact R2.out.stgs, fun r hr => hr, Chg.of_below _ BX.out, rfl⟩)
        have BPX := Lib.hid (BP5.out.below BX.out hp5)
        clear k50 k51
        have BNX := Lib.hid (BN5.out.of_eq (HDX.out.chg.block _ hn5 (fun e => e.elim hnp (fun e => SNE.out e.symm))))
        have MEX := Lib.hid (ME5.out.of_eq (HDX.out.chg.block be ME5.out.lt (fun e => e.elim (fun e => hm.1 e.symm) (fun e => (R2.out.stg_ne e).2.2.1 rfl))))
        have MGX := Lib.hid (MG5.out.of_eq (HDX.out.chg.block bb MG5.out.lt (fun e => e.elim (fun e => hm.2.1 e.symm) (fun e => (R2.out.stg_ne e).2.2.2.1 rfl))))
        have y0 : wx.cell? ⟨p, 1, none⟩ = some (.map (some be)) := BPX.out.cell 1
        have y1 : wx.cell? ⟨w.heap.size, 1, none⟩ = some (encStr v.key) := BNX.out.cell 1
        obtain ⟨wy, hry, hmy, hgy⟩ := (MEX.out.of_eq (w' := wx.drew) rfl).drop (t := 63) (e := 43) Tryz.underlying63 (k := v.key) hkl 0
        have hry' : (Builtin.delete_ #[63, 9] 0 #[.map (some be), encStr v.key]).run Tryz.prog wx.drew = .ok (.tuple #[]) wy := hry
        have BPY := Lib.hid (Blk.grown (w := wx.drew) BPX.out hgy (fun e => hm.1 (Option.some.inj e).symm))
        have BNY := Lib.hid (Blk.grown (w := wx.drew) BNX.out hgy (fun e => blk_apart BNX.out MEX.out (Option.some.inj e).symm))
        have z0 : wy.cell? ⟨p, 1, none⟩ = some (.map (some be)) := BPY.out.cell 1
        have z1 : wy.cell? ⟨w.heap.size, 1, none⟩ = some (encStr v.key) := BNY.out.cell 1
        have MEY := Lib.hid hmy
        have GY := Lib.hid (show wx.grownBy wy (some be) from ⟨hgy.os, hgy.tape, hgy.output, hgy.size, hgy.block⟩)
        have MGY := Lib.hid (MGX.out.of_eq (GY.out.block bb MGX.out.lt (fun e => hbb1 (Option.some.inj e).symm)))
        clear hry hmy hgy
        refine wp_region_held_drew (S := (fun w' => w'.cell? ⟨p, 1, none⟩ = some (.map (some be)) ∧ w'.cell? ⟨w.heap.size, 1, none⟩ = some (encStr v.key))) (by kernel_rfl) ⟨y0, y1⟩ (fun hHeld => ?_)
        refine tk (i := 0) (v := ?vTpdn130) rfl ?hyTpdn130 ?restTpdn130
        case hyTpdn130 => (intro w hSw; (try dsimp only at hSw); go_simp <;> with_reducible rfl)
        try simp only [Act.put, pt1, pt2, pt3]
        refine tk (i := 1) (v := ?vTpdn131) rfl ?hyTpdn131 ?restTpdn131
        case hyTpdn131 => (intro w hSw; (try dsimp only at hSw); go_simp <;> with_reducible rfl)
        try simp only [Act.put, pt1, pt2, pt3]
        refine tk (i := 2) (v := ?vTpdn132) rfl ?hyTpdn132 ?restTpdn132
        case hyTpdn132 => (intro w hSw; (try dsimp only at hSw); go_simp <;> with_reducible rfl)
        try simp only [Act.put, pt1, pt2, pt3]
        refine tk (i := 3) (v := ?vTpdn133) rfl ?hyTpdn133 ?restTpdn133
        case hyTpdn133 => (intro w hSw; (try dsimp only at hSw); go_simp <;> with_reducible rfl)
        try simp only [Act.put, pt1, pt2, pt3]
        refine tk (i := 4) (v := ?vTpdn134) rfl ?hyTpdn134 ?restTpdn134
        case hyTpdn134 => (intro w hSw; (try dsimp only at hSw); go_simp <;> with_reducible rfl)
        try simp only [Act.put, pt1, pt2, pt3]
        refine tk (i := 5) (v := ?vTpdn135) rfl ?hyTpdn135 ?restTpdn135
        case hyTpdn135 => (intro w hSw; (try dsimp only at hSw); go_simp <;> with_reducible rfl)
        try simp only [Act.put, pt1, pt2, pt3]
        refine wpAnyH_ready (rs := [6]) (by kernel_rfl) (by simp) ?_
        refine AllReadyH.cons rfl (fun K hK => ?_) AllReadyH.nil
        go_simp
        clear hHeld
        refine hK.out _ _ ⟨z0, z1⟩ (fun hHeld => ?_)
        clear hK K
        refine wpAnyH_done (by kernel_rfl) ?_ _
        go_upto_region 13 with fail
        clear y0 y1 z0 hry'
        have y0 : wy.cell? ⟨p, 2, none⟩ = some (.map (some bb)) := BPY.out.cell 2
        obtain ⟨wz, hrz, hmz, hgz⟩ := (MGY.out.of_eq (w' := wy.drew) rfl).drop (t := 64) (e := 3) Tryz.underlying64 (k := v.key) hkl 0
        have hrz' : (Builtin.delete_ #[64, 9] 0 #[.map (some bb), encStr v.key]).run Tryz.prog wy.drew = .ok (.tuple #[]) wz := hrz
        have BPZ := Lib.hid (Blk.grown (w := wy.drew) BPY.out hgz (fun e => hm.2.1 (Option.some.inj e).symm))
        have BNZ := Lib.hid (Blk.grown (w := wy.drew) BNY.out hgz (fun e => blk_apart BNX.out MGX.out (Option.some.inj e).symm))
        have x0 : wz.cell? ⟨p, 2, none⟩ = some (.map (some bb)) := BPZ.out.cell 2
        have x1 : wz.cell? ⟨w.heap.size, 1, none⟩ = some (encStr v.key) := BNZ.out.cell 1
        have MGZ := Lib.hid hmz
        have GZ := Lib.hid (show wy.grownBy wz (some bb) from ⟨hgz.os, hgz.tape, hgz.output, hgz.size, hgz.block⟩)
        have MEZ := Lib.hid (MEY.out.of_eq (GZ.out.block be MEY.out.lt (fun e => hbb1 (Option.some.inj e))))
        clear hrz hmz hgz
        refine wp_region_held_drew (S := (fun w' => w'.cell? ⟨p, 2, none⟩ = some (.map (some bb)) ∧ w'.cell? ⟨w.heap.size, 1, none⟩ = some (encStr v.key))) (by kernel_rfl) ⟨y0, z1⟩ (fun hHeld => ?_)
        refine tk (i := 0) (v := ?vTpen140) rfl ?hyTpen140 ?restTpen140
        case hyTpen140 => (intro w hSw; (try dsimp only at hSw); go_simp <;> with_reducible rfl)
        try simp only [Act.put, pt1, pt2, pt3]
        refine tk (i := 1) (v := ?vTpen141) rfl ?hyTpen141 ?restTpen141
        case hyTpen141 => (intro w hSw; (try dsimp only at hSw); go_simp <;> with_reducible rfl)
        try simp only [Act.put, pt1, pt2, pt3]
        refine tk (i := 2) (v := ?vTpen142) rfl ?hyTpen142 ?restTpen142
        case hyTpen142 => (intro w hSw; (try dsimp only at hSw); go_simp <;> with_reducible rfl)
        try simp only [Act.put, pt1, pt2, pt3]
        refine tk (i := 3) (v := ?vTpen143) rfl ?hyTpen143 ?restTpen143
        case hyTpen143 => (intro w hSw; (try dsimp only at hSw); go_simp <;> with_reducible rfl)
        try simp only [Act.put, pt1, pt2, pt3]
        refine tk (i := 4) (v := ?vTpen144) rfl ?hyTpen144 ?restTpen144
        case hyTpen144 => (intro w hSw; (try dsimp only at hSw); go_simp <;> with_reducible rfl)
        try simp only [Act.put, pt1, pt2, pt3]
        refine tk (i := 5) (v := ?vTpen145) rfl ?hyTpen145 ?restTpen145
        case hyTpen145 => (intro w hSw; (try dsimp only at hSw); go_simp <;> with_reducible rfl)
        try simp only [Act.put, pt1, pt2, pt3]
        refine wpAnyH_ready (rs := [6]) (by kernel_rfl) (by simp) ?_
        refine AllReadyH.cons rfl (fun K hK => ?_) AllReadyH.nil
        go_simp
        clear hHeld
        refine hK.out _ _ ⟨x0, x1⟩ (fun hHeld => ?_)
        clear hK K
        refine wpAnyH_done (by kernel_rfl) ?_ _
        go_upto_region 14 with fail
        have x2 : wz.cell? ⟨w.heap.size, 2, none⟩ = some (.int .i64 v.gen) := BNZ.out.cell 2
        have x5 : wz.cell? ⟨p, 5, none⟩ = some (.int .i64 C.gen) := BPZ.out.cell 5
        have xf : wz.frozen? ⟨p, 5, none⟩ = false := BPZ.out.free 5
        go_wp2_with fail
        go_ret
        rw [HE.out]
        exact gone_last R2.out BB2.out HC5.out HDX.out GY.out GZ.out BPZ.out TB5.out TBF.out MEZ.out MGZ.out WF.out
      have d8 : decide (0 ≤ ti) = true := by simp; omega
      obtain ⟨i, rfl⟩ := Int.eq_ofNat_of_zero_le (show 0 ≤ ti by omega)
      obtain ⟨hcut, hil⟩ := DC.out i rfl
      obtain ⟨m, hmm⟩ : ∃ m, C.staged.length = i + 1 + m := ⟨C.staged.length - (i + 1), by omega⟩
      obtain ⟨g, cap, hsl, hF⟩ : ∃ g cap, (.slice SB sn sc : Value) = .slice (some ⟨g, 0, none⟩) (i + 1 + m) cap ∧ F g := by
        rcases ST5.out.form with ⟨_, h⟩ | ⟨g, cap, h, _, _, hF, _⟩
        · omega
        · exact ⟨g, cap, by rw [h, hmm], hF⟩
      obtain ⟨rfl, rfl, rfl⟩ : SB = some ⟨g, 0, none⟩ ∧ sn = i + 1 + m ∧ sc = cap := by injection hsl with a b c; exact ⟨a, b, c⟩
      have TM := Lib.hid (show OwnRow F w5 70 2 (.slice (some ⟨g, 0, none⟩) (i + 1 + m) sc) (i + 1 + m) (blobVals SR) by have h := ST5.out; rw [hmm] at h; exact h)
      have HCUT := Lib.hid hcut
      have hgp : g ≠ p := (R2.out.stg_ne rfl).1
      have hlen : (SR.eraseIdx i).length = i + m := by rw [List.length_eraseIdx_of_lt hil, hsr, hmm]; omega
      have hlen2 : (delL C.staged v.key).length = i + m := by rw [← hcut, List.length_map, hlen]
      have BCUT := Lib.hid (blobVals_cut SR i hil)
      have HL2 := Lib.hid hlen2
      have hi63 : (i : Int) + 1 ≤ 9223372036854775807 := by omega
      clear hsl hcut hlen hlen2 hmm hil
      go_upto_region 12 with (first
        | (go_at_call 32; refine IX.out.mono ?_; rw [TI.out]; rintro e w6 ⟨rfl, hb6⟩; have B6 := Lib.hid hb6; have k6 : w6.cell? ⟨p, 0, none⟩ = some (.slice (some ⟨g, 0, none⟩) (i + 1 + m) sc) := (hb6.cell (p := ⟨p, 0, none⟩) hp5).trans k50; clear hb6)
        | (go_at_call 71; refine (dBlob F g sc i m (blobVals SR) _ (by exact (OwnRow.owning ..).below TM.out B6.out) (blobVals_one _)).mono ?_; rintro e w7 ⟨rfl, ho7, hc7⟩; have HO7 := Lib.hid ho7; have HC7 := Lib.hid (show Chg (fun k => k = g) w6 w7 from ⟨hc7.os, hc7.tape, hc7.output, hc7.size, hc7.block⟩); have BP7 := Lib.hid ((BP5.out.below B6.out hp5).of_eq (hc7.block p (Nat.lt_of_lt_of_le hp5 B6.out.size) (fun e => hgp e.symm))); have f7 : w7.frozen? ⟨p, 0, none⟩ = false := BP7.out.free 0; have kp7 : w7.cell? ⟨p, 0, none⟩ = some (.slice (some ⟨g, 0, none⟩) (i + 1 + m) sc) := BP7.out.cell 0; clear ho7 hc7))
      obtain ⟨wx, hwx⟩ : ∃ wx, wx = w7.setCell ⟨p, 0, none⟩ (.slice (some ⟨g, 0, none⟩) (i + m) sc) := ⟨_, rfl⟩
      rw [← hwx]
      have hc7x : Chg (fun k => k = p) w7 wx := by rw [hwx]; exact (Chg.refl (fun k => k = p) w7).store (p := ⟨p, 0, none⟩) (.inl rfl) _
      have hcx : Chg (fun k => k = p ∨ (Value.slice (some ⟨g, 0, none⟩) (i + 1 + m) sc).ownBlock = some k) w5 wx := ((Chg.of_below _ B6.out).trans (HC7.out.mono (fun k e => .inr (by rw [e]; rfl)))).trans (hc7x.mono (fun k e => .inl e))
      have HDX := Lib.hid (show Dropped F w5 wx p (.slice (some ⟨g, 0, none⟩) (i + 1 + m) sc) SR C.staged v.key (.slice (some ⟨g, 0, none⟩) (i + m) sc) (SR.eraseIdx i) from ⟨by
        rw [HL2.out, ← BCUT.out]
        exact HO7.out.chg hc7x (fun q hq e => hgp ((Option.some.inj hq).trans e)), HCUT.out, fun r hr => (List.eraseIdx_sublist ..).subset hr, hcx, rfl⟩)
      have BPX := Lib.hid (show Blk wx p 68 #[.slice (some ⟨g, 0, none⟩) (i + m) sc, .map (some be), .map (some bb), .slice (some ⟨g4, 0, none⟩) (C.tombs.length + 1) cap4, .map (some br), .int .i64 C.gen] by rw [hwx]; exact BP7.out.store 0 _)
      clear k50 k51 k6 f7 kp7 hwx
      have BNX := Lib.hid (BN5.out.of_eq (HDX.out.chg.block _ hn5 (fun e => e.elim hnp (fun e => SNE.out e.symm))))
      have MEX := Lib.hid (ME5.out.of_eq (HDX.out.chg.block be ME5.out.lt (fun e => e.elim (fun e => hm.1 e.symm) (fun e => (R2.out.stg_ne e).2.2.1 rfl))))
      have MGX := Lib.hid (MG5.out.of_eq (HDX.out.chg.block bb MG5.out.lt (fun e => e.elim (fun e => hm.2.1 e.symm) (fun e => (R2.out.stg_ne e).2.2.2.1 rfl))))
      have y0 : wx.cell? ⟨p, 1, none⟩ = some (.map (some be)) := BPX.out.cell 1
      have y1 : wx.cell? ⟨w.heap.size, 1, none⟩ = some (encStr v.key) := BNX.out.cell 1
      obtain ⟨wy, hry, hmy, hgy⟩ := (MEX.out.of_eq (w' := wx.drew) rfl).drop (t := 63) (e := 43) Tryz.underlying63 (k := v.key) hkl 0
      have hry' : (Builtin.delete_ #[63, 9] 0 #[.map (some be), encStr v.key]).run Tryz.prog wx.drew = .ok (.tuple #[]) wy := hry
      have BPY := Lib.hid (Blk.grown (w := wx.drew) BPX.out hgy (fun e => hm.1 (Option.some.inj e).symm))
      have BNY := Lib.hid (Blk.grown (w := wx.drew) BNX.out hgy (fun e => blk_apart BNX.out MEX.out (Option.some.inj e).symm))
      have z0 : wy.cell? ⟨p, 1, none⟩ = some (.map (some be)) := BPY.out.cell 1
      have z1 : wy.cell? ⟨w.heap.size, 1, none⟩ = some (encStr v.key) := BNY.out.cell 1
      have MEY := Lib.hid hmy
      have GY := Lib.hid (show wx.grownBy wy (some be) from ⟨hgy.os, hgy.tape, hgy.output, hgy.size, hgy.block⟩)
      have MGY := Lib.hid (MGX.out.of_eq (GY.out.block bb MGX.out.lt (fun e => hbb1 (Option.some.inj e).symm)))
      clear hry hmy hgy
      refine wp_region_held_drew (S := (fun w' => w'.cell? ⟨p, 1, none⟩ = some (.map (some be)) ∧ w'.cell? ⟨w.heap.size, 1, none⟩ = some (encStr v.key))) (by kernel_rfl) ⟨y0, y1⟩ (fun hHeld => ?_)
      refine tk (i := 0) (v := ?vTqdn150) rfl ?hyTqdn150 ?restTqdn150
      case hyTqdn150 => (intro w hSw; (try dsimp only at hSw); go_simp <;> with_reducible rfl)
      try simp only [Act.put, pt1, pt2, pt3]
      refine tk (i := 1) (v := ?vTqdn151) rfl ?hyTqdn151 ?restTqdn151
      case hyTqdn151 => (intro w hSw; (try dsimp only at hSw); go_simp <;> with_reducible rfl)
      try simp only [Act.put, pt1, pt2, pt3]
      refine tk (i := 2) (v := ?vTqdn152) rfl ?hyTqdn152 ?restTqdn152
      case hyTqdn152 => (intro w hSw; (try dsimp only at hSw); go_simp <;> with_reducible rfl)
      try simp only [Act.put, pt1, pt2, pt3]
      refine tk (i := 3) (v := ?vTqdn153) rfl ?hyTqdn153 ?restTqdn153
      case hyTqdn153 => (intro w hSw; (try dsimp only at hSw); go_simp <;> with_reducible rfl)
      try simp only [Act.put, pt1, pt2, pt3]
      refine tk (i := 4) (v := ?vTqdn154) rfl ?hyTqdn154 ?restTqdn154
      case hyTqdn154 => (intro w hSw; (try dsimp only at hSw); go_simp <;> with_reducible rfl)
      try simp only [Act.put, pt1, pt2, pt3]
      refine tk (i := 5) (v := ?vTqdn155) rfl ?hyTqdn155 ?restTqdn155
      case hyTqdn155 => (intro w hSw; (try dsimp only at hSw); go_simp <;> with_reducible rfl)
      try simp only [Act.put, pt1, pt2, pt3]
      refine wpAnyH_ready (rs := [6]) (by kernel_rfl) (by simp) ?_
      refine AllReadyH.cons rfl (fun K hK => ?_) AllReadyH.nil
      go_simp
      clear hHeld
      refine hK.out _ _ ⟨z0, z1⟩ (fun hHeld => ?_)
      clear hK K
      refine wpAnyH_done (by kernel_rfl) ?_ _
      go_upto_region 13 with fail
      clear y0 y1 z0 hry'
      have y0 : wy.cell? ⟨p, 2, none⟩ = some (.map (some bb)) := BPY.out.cell 2
      obtain ⟨wz, hrz, hmz, hgz⟩ := (MGY.out.of_eq (w' := wy.drew) rfl).drop (t := 64) (e := 3) Tryz.underlying64 (k := v.key) hkl 0
      have hrz' : (Builtin.delete_ #[64, 9] 0 #[.map (some bb), encStr v.key]).run Tryz.prog wy.drew = .ok (.tuple #[]) wz := hrz
      have BPZ := Lib.hid (Blk.grown (w := wy.drew) BPY.out hgz (fun e => hm.2.1 (Option.some.inj e).symm))
      have BNZ := Lib.hid (Blk.grown (w := wy.drew) BNY.out hgz (fun e => blk_apart BNX.out MGX.out (Option.some.inj e).symm))
      have x0 : wz.cell? ⟨p, 2, none⟩ = some (.map (some bb)) := BPZ.out.cell 2
      have x1 : wz.cell? ⟨w.heap.size, 1, none⟩ = some (encStr v.key) := BNZ.out.cell 1
      have MGZ := Lib.hid hmz
      have GZ := Lib.hid (show wy.grownBy wz (some bb) from ⟨hgz.os, hgz.tape, hgz.output, hgz.size, hgz.block⟩)
      have MEZ := Lib.hid (MEY.out.of_eq (GZ.out.block be MEY.out.lt (fun e => hbb1 (Option.some.inj e))))
      clear hrz hmz hgz
      refine wp_region_held_drew (S := (fun w' => w'.cell? ⟨p, 2, none⟩ = some (.map (some bb)) ∧ w'.cell? ⟨w.heap.size, 1, none⟩ = some (encStr v.key))) (by kernel_rfl) ⟨y0, z1⟩ (fun hHeld => ?_)
      refine tk (i := 0) (v := ?vTqen160) rfl ?hyTqen160 ?restTqen160
      case hyTqen160 => (intro w hSw; (try dsimp only at hSw); go_simp <;> with_reducible rfl)
      try simp only [Act.put, pt1, pt2, pt3]
      refine tk (i := 1) (v := ?vTqen161) rfl ?hyTqen161 ?restTqen161
      case hyTqen161 => (intro w hSw; (try dsimp only at hSw); go_simp <;> with_reducible rfl)
      try simp only [Act.put, pt1, pt2, pt3]
      refine tk (i := 2) (v := ?vTqen162) rfl ?hyTqen162 ?restTqen162
      case hyTqen162 => (intro w hSw; (try dsimp only at hSw); go_simp <;> with_reducible rfl)
      try simp only [Act.put, pt1, pt2, pt3]
      refine tk (i := 3) (v := ?vTqen163) rfl ?hyTqen163 ?restTqen163
      case hyTqen163 => (intro w hSw; (try dsimp only at hSw); go_simp <;> with_reducible rfl)
      try simp only [Act.put, pt1, pt2, pt3]
      refine tk (i := 4) (v := ?vTqen164) rfl ?hyTqen164 ?restTqen164
      case hyTqen164 => (intro w hSw; (try dsimp only at hSw); go_simp <;> with_reducible rfl)
      try simp only [Act.put, pt1, pt2, pt3]
      refine tk (i := 5) (v := ?vTqen165) rfl ?hyTqen165 ?restTqen165
      case hyTqen165 => (intro w hSw; (try dsimp only at hSw); go_simp <;> with_reducible rfl)
      try simp only [Act.put, pt1, pt2, pt3]
      refine wpAnyH_ready (rs := [6]) (by kernel_rfl) (by simp) ?_
      refine AllReadyH.cons rfl (fun K hK => ?_) AllReadyH.nil
      go_simp
      clear hHeld
      refine hK.out _ _ ⟨x0, x1⟩ (fun hHeld => ?_)
      clear hK K
      refine wpAnyH_done (by kernel_rfl) ?_ _
      go_upto_region 14 with fail
      have x2 : wz.cell? ⟨w.heap.size, 2, none⟩ = some (.int .i64 v.gen) := BNZ.out.cell 2
      have x5 : wz.cell? ⟨p, 5, none⟩ = some (.int .i64 C.gen) := BPZ.out.cell 5
      have xf : wz.frozen? ⟨p, 5, none⟩ = false := BPZ.out.free 5
      go_wp2_with fail
      go_ret
      rw [HE.out]
      exact gone_last R2.out BB2.out HC5.out HDX.out GY.out GZ.out BPZ.out TB5.out TBF.out MEZ.out MGZ.out WF.out
  | false =>
  cases hG : hasL C.begun v.key with
  | true =>
    have HOR := Lib.hid (show (hasL C.entries v.key || hasL C.begun v.key) = true by rw [hE, hG]; rfl)
    clear hE hG
    have BN4k := BN4.out
    have r1 : w4.cell? ⟨w.heap.size, 1, none⟩ = some (encStr v.key) := BN4.out.cell 1
    have r2 : w4.cell? ⟨w.heap.size, 2, none⟩ = some (.int .i64 v.gen) := BN4.out.cell 2
    obtain ⟨B0, n0, c0, htv⟩ : ∃ B n c, tv = .slice B n c := by
      rcases R4.out.tmb.form with ⟨h, _⟩ | ⟨g, cap, h, _⟩
      · exact ⟨_, _, _, h⟩
      · exact ⟨_, _, _, h⟩
    subst htv
    have kp : w4.cell? ⟨p, 3, none⟩ = some (.slice B0 n0 c0) := R4.out.blk.cell 3
    have hp4 : p < w4.heap.size := R4.out.blk.size
    have hn4 : w.heap.size < w4.heap.size := BN4.out.size
    obtain ⟨i0, hi, hz0, hz1, hz2⟩ := info_parts note_info
    have TNE := Lib.hid (show (some w.heap.size : Option Nat) ≠ (Value.slice B0 n0 c0).ownBlock from fun e => by have := TLT.out _ e.symm; omega)
    clear BN4k
    go_upto_region 8 with fail
    refine wp_region_held_drew (S := (fun w' => w'.cell? ⟨w.heap.size, 1, none⟩ = some (encStr v.key) ∧ w'.cell? ⟨w.heap.size, 2, none⟩ = some (.int .i64 v.gen))) (by kernel_rfl) ⟨r1, r2⟩ (fun hHeld => ?_)
    refine tk (i := 0) (v := ?vUtn40) rfl ?hyUtn40 ?restUtn40
    case hyUtn40 => (intro w hSw; (try dsimp only at hSw); go_simp <;> with_reducible rfl)
    try simp only [Act.put, pt1, pt2, pt3]
    refine tk (i := 1) (v := ?vUtn41) rfl ?hyUtn41 ?restUtn41
    case hyUtn41 => (intro w hSw; (try dsimp only at hSw); go_simp <;> with_reducible rfl)
    try simp only [Act.put, pt1, pt2, pt3]
    refine tk (i := 2) (v := ?vUtn42) rfl ?hyUtn42 ?restUtn42
    case hyUtn42 => (intro w hSw; (try dsimp only at hSw); go_simp <;> with_reducible rfl)
    try simp only [Act.put, pt1, pt2, pt3]
    refine tk (i := 3) (v := ?vUtn43) rfl ?hyUtn43 ?restUtn43
    case hyUtn43 => (intro w hSw; (try dsimp only at hSw); go_simp <;> with_reducible rfl)
    try simp only [Act.put, pt1, pt2, pt3]
    refine tk (i := 5) (v := ?vUtn45) rfl ?hyUtn45 ?restUtn45
    case hyUtn45 => (intro w hSw; (try dsimp only at hSw); go_simp <;> with_reducible rfl)
    try simp only [Act.put, pt1, pt2, pt3]
    refine tk (i := 6) (v := ?vUtn46) rfl ?hyUtn46 ?restUtn46
    case hyUtn46 => (intro w hSw; (try dsimp only at hSw); go_simp <;> with_reducible rfl)
    try simp only [Act.put, pt1, pt2, pt3]
    refine tk (i := 7) (v := ?vUtn47) rfl ?hyUtn47 ?restUtn47
    case hyUtn47 => (intro w hSw; (try dsimp only at hSw); go_simp <;> with_reducible rfl)
    try simp only [Act.put, pt1, pt2, pt3]
    refine tk (i := 8) (v := ?vUtn48) rfl ?hyUtn48 ?restUtn48
    case hyUtn48 => (intro w hSw; (try dsimp only at hSw); go_simp <;> with_reducible rfl)
    try simp only [Act.put, pt1, pt2, pt3]
    refine tk (i := 9) (v := ?vUtn49) rfl ?hyUtn49 ?restUtn49
    case hyUtn49 => (intro w hSw; (try dsimp only at hSw); go_simp <;> with_reducible rfl)
    try simp only [Act.put, pt1, pt2, pt3]
    refine wpAnyH_ready (rs := [4, 10]) (by kernel_rfl) (by simp) ?_
    refine AllReadyH.cons rfl (fun K hK => ?_) (AllReadyH.cons rfl (fun K hK => ?_) AllReadyH.nil)
    · go_simp
      refine hK.out _ _ hHeld (fun hHeld => ?_)
      clear hK K
      refine wpAnyH_ready (rs := [10]) (by kernel_rfl) (by simp) ?_
      refine AllReadyH.cons rfl (fun K hK => ?_) AllReadyH.nil
      go_simp
      clear hHeld
      refine hK.out _ _ (by (try dsimp only); go_keep) (fun hHeld => ?_)
      clear hK K
      refine wpAnyH_ready (rs := [11]) (by kernel_rfl) (by simp) ?_
      refine AllReadyH.cons rfl (fun K hK => ?_) AllReadyH.nil
      refine step_append_form _ rfl (.tmp 50) (.tmp 56) 22 rfl 0 32 i0 _ 8 112 Tryz.underlying22 hi hz0 hz1 hz2 rfl (by omega) _ C.tombs.length (tombVals C.tombs) rfl (by exact own_of_eq R4.out.tmb.1 (fun q hq => Below.heap_alloc _ _ q (R4.out.tmb.1.lt q hq).2)) (some ⟨w4.heap.size, 0, none⟩) 1 1 [.int .i64 6, encStr v.key, .int .i64 v.gen, .int .i64 0, .slice none 0 0, encStr [], .int .i64 1, .slice none 0 0] rfl rfl (fun e => by cases e) (by exact src_new _ _ _ _) (by intro u hu; simp only [List.mem_cons, List.not_mem_nil, or_false] at hu; rcases hu with rfl | rfl | rfl | rfl | rfl | rfl | rfl | rfl <;> rfl) (by omega) (by simp only [maxLen]; omega) (by omega) (Nat.zero_le _) ?_; intro g4 cap4 wy hown4 hgr4 hat4 hlt4; have BPY := Lib.hid (Blk.grown (w := w4.drew.alloc (.cells #[.int .i64 6, encStr v.key, .int .i64 v.gen, .int .i64 0, .slice none 0 0, encStr [], .int .i64 1, .slice none 0 0] 32)) (Blk.alloc (w := w4.drew) R4.out.blk (.cells #[.int .i64 6, encStr v.key, .int .i64 v.gen, .int .i64 0, .slice none 0 0, encStr [], .int .i64 1, .slice none 0 0] 32)) hgr4 (fun e => (R4.out.tmb_ne e).1 rfl)); have BNY := Lib.hid (Blk.grown (w := w4.drew.alloc (.cells #[.int .i64 6, encStr v.key, .int .i64 v.gen, .int .i64 0, .slice none 0 0, encStr [], .int .i64 1, .slice none 0 0] 32)) (Blk.alloc (w := w4.drew) BN4.out (.cells #[.int .i64 6, encStr v.key, .int .i64 v.gen, .int .i64 0, .slice none 0 0, encStr [], .int .i64 1, .slice none 0 0] 32)) hgr4 (fun e => TNE.out e.symm)); have s1 : wy.cell? ⟨w.heap.size, 1, none⟩ = some (encStr v.key) := BNY.out.cell 1; have s2 : wy.cell? ⟨w.heap.size, 2, none⟩ = some (.int .i64 v.gen) := BNY.out.cell 2; have kp4 : wy.cell? ⟨p, 3, none⟩ = some (.slice B0 n0 c0) := BPY.out.cell 3; have f4 : wy.frozen? ⟨p, 3, none⟩ = false := BPY.out.free 3; have HO4 := Lib.hid hown4; have HG4 := Lib.hid hgr4; clear hown4 hgr4
      clear hHeld
      refine hK.out _ _ ⟨s1, s2⟩ (fun hHeld => ?_)
      clear hK K
      refine tk (i := 12) (v := ?vUtn4b412) rfl ?hyUtn4b412 ?restUtn4b412
      case hyUtn4b412 => (intro w hSw; (try dsimp only at hSw); go_simp <;> with_reducible rfl)
      refine tk (i := 13) (v := ?vUtn4b413) rfl ?hyUtn4b413 ?restUtn4b413
      case hyUtn4b413 => (intro w hSw; (try dsimp only at hSw); go_simp <;> with_reducible rfl)
      refine wpAnyH_ready (rs := [14]) (by kernel_rfl) (by simp) ?_
      refine AllReadyH.cons rfl (fun K hK => ?_) AllReadyH.nil
      go_simp
      clear hHeld
      refine hK.out _ _ ⟨(World.cell?_setCell_far _ _ _ _ (fun e => hnp e.symm)).trans s1, (World.cell?_setCell_far _ _ _ _ (fun e => hnp e.symm)).trans s2⟩ (fun hHeld => ?_)
      clear hK K
      refine wpAnyH_done (by kernel_rfl) ?_ _
      obtain ⟨w5, hw5⟩ : ∃ w5, w5 = wy.setCell ⟨p, 3, none⟩ (.slice (some ⟨g4, 0, none⟩) (C.tombs.length + 1) cap4) := ⟨_, rfl⟩
      go_upto_region 9 with fail
      rw [← hw5]
      have hgp4 : g4 ≠ p := by
        rcases hat4 with e | e
        · exact (R4.out.tmb_ne e).1
        · have e2 : g4 = w4.heap.size + 1 := e.trans (World.size_alloc w4 _); omega
      have hcy : Chg (fun k => k = p ∨ (Value.slice B0 n0 c0).ownBlock = some k) w4 w5 := by
        rw [hw5]
        exact (((Chg.refl (fun k => k = p ∨ (Value.slice B0 n0 c0).ownBlock = some k) w4).drewN 1 |>.alloc _).grown HG4.out (fun g e => .inl (.inr e))).store (p := ⟨p, 3, none⟩) (.inl (.inl rfl)) _
      have BP5 := Lib.hid (show Blk w5 p 68 #[.slice SB sn sc, .map (some be), .map (some bb), .slice (some ⟨g4, 0, none⟩) (C.tombs.length + 1) cap4, .map (some br), .int .i64 C.gen] by rw [hw5]; exact BPY.out.store 3 _)
      have BN5 := Lib.hid (show Blk w5 w.heap.size 32 (noteCells v D dn dc Q qn qc) by rw [hw5]; exact BNY.out.apart hnp _)
      have ST5 := Lib.hid (R4.out.stg.chg hcy (fun g hg e => e.elim (R2.out.stg_ne hg).1 (R2.out.stg_ne hg).2.1))
      have ME5 := Lib.hid (R4.out.ents.of_eq (hcy.block be R4.out.ents.lt (fun e => e.elim (fun e => hm.1 e.symm) (fun e => (R2.out.tmb_ne e).2.2.1 rfl))))
      have MG5 := Lib.hid (R4.out.begs.of_eq (hcy.block bb R4.out.begs.lt (fun e => e.elim (fun e => hm.2.1 e.symm) (fun e => (R2.out.tmb_ne e).2.2.2.1 rfl))))
      have HC5 := Lib.hid (show Chg (fun k => k = p ∨ (Value.slice B0 n0 c0).ownBlock = some k) w2 w5 from (Chg.of_below _ B4.out).trans hcy)
      have TB5 := Lib.hid (show OwnRow (Wide F w) w5 32 8 (.slice (some ⟨g4, 0, none⟩) (C.tombs.length + 1) cap4) (goneL C v).length (tombVals (goneL C v)) by
        rw [hw5, show goneL C v = C.tombs ++ [(v.key, v.gen)] by unfold goneL; rw [HOR.out]; rfl]
        exact tomb_own R4.out.tmb rfl (Nat.le_trans BB2.out.size hz24) HO4.out hat4 hgp4)
      have TBF := Lib.hid (show ∀ g, (Value.slice (some ⟨g4, 0, none⟩) (C.tombs.length + 1) cap4).ownBlock = some g → (Value.slice B0 n0 c0).ownBlock = some g ∨ w2.heap.size ≤ g from fun g hg => by
        have e : g4 = g := Option.some.inj hg
        subst e
        rcases hat4 with e | e
        · exact .inl e
        · have e2 : g4 = w4.heap.size + 1 := e.trans (World.size_alloc w4 _); exact .inr (by omega))
      clear hcy hw5 hat4 r1 r2 kp s1 s2 kp4 f4
      have hp5 : p < w5.heap.size := BP5.out.size
      have hn5 : w.heap.size < w5.heap.size := BN5.out.size
      have k50 : w5.cell? ⟨p, 0, none⟩ = some (.slice SB sn sc) := BP5.out.cell 0
      have k51 : w5.cell? ⟨w.heap.size, 1, none⟩ = some (encStr v.key) := BN5.out.cell 1
      have IX := Lib.hid (cWaits0 F p _ (.slice SB sn sc) SR v.key w5 k50 ST5.out hsr)
      go_upto_region 9 with fail
      by_cases ht : ti < 0
      case pos =>
        have d8 : decide (0 ≤ ti) = false := by simpa using ht
        have HT := Lib.hid ht
        clear ht
        go_upto_region 12 with (go_at_call 32; refine (IX.out).mono ?_; rw [TI.out]; rintro e wx ⟨rfl, hbx⟩; have BX := Lib.hid hbx; clear hbx)
        have HDX := Lib.hid (show Dropped F w5 wx p (.slice SB sn sc) SR C.staged v.key (.slice SB sn sc) SR from ⟨by rw [DN.out HT.out]; exact (OwnRow.owning ..).below ST5.out BX.out, by rw [DN.out HT.out]; exact R2.out.stgs, fun r hr => hr, Chg.of_below _ BX.out, rfl⟩)
        have BPX := Lib.hid (BP5.out.below BX.out hp5)
        clear k50 k51
        have BNX := Lib.hid (BN5.out.of_eq (HDX.out.chg.block _ hn5 (fun e => e.elim hnp (fun e => SNE.out e.symm))))
        have MEX := Lib.hid (ME5.out.of_eq (HDX.out.chg.block be ME5.out.lt (fun e => e.elim (fun e => hm.1 e.symm) (fun e => (R2.out.stg_ne e).2.2.1 rfl))))
        have MGX := Lib.hid (MG5.out.of_eq (HDX.out.chg.block bb MG5.out.lt (fun e => e.elim (fun e => hm.2.1 e.symm) (fun e => (R2.out.stg_ne e).2.2.2.1 rfl))))
        have y0 : wx.cell? ⟨p, 1, none⟩ = some (.map (some be)) := BPX.out.cell 1
        have y1 : wx.cell? ⟨w.heap.size, 1, none⟩ = some (encStr v.key) := BNX.out.cell 1
        obtain ⟨wy, hry, hmy, hgy⟩ := (MEX.out.of_eq (w' := wx.drew) rfl).drop (t := 63) (e := 43) Tryz.underlying63 (k := v.key) hkl 0
        have hry' : (Builtin.delete_ #[63, 9] 0 #[.map (some be), encStr v.key]).run Tryz.prog wx.drew = .ok (.tuple #[]) wy := hry
        have BPY := Lib.hid (Blk.grown (w := wx.drew) BPX.out hgy (fun e => hm.1 (Option.some.inj e).symm))
        have BNY := Lib.hid (Blk.grown (w := wx.drew) BNX.out hgy (fun e => blk_apart BNX.out MEX.out (Option.some.inj e).symm))
        have z0 : wy.cell? ⟨p, 1, none⟩ = some (.map (some be)) := BPY.out.cell 1
        have z1 : wy.cell? ⟨w.heap.size, 1, none⟩ = some (encStr v.key) := BNY.out.cell 1
        have MEY := Lib.hid hmy
        have GY := Lib.hid (show wx.grownBy wy (some be) from ⟨hgy.os, hgy.tape, hgy.output, hgy.size, hgy.block⟩)
        have MGY := Lib.hid (MGX.out.of_eq (GY.out.block bb MGX.out.lt (fun e => hbb1 (Option.some.inj e).symm)))
        clear hry hmy hgy
        refine wp_region_held_drew (S := (fun w' => w'.cell? ⟨p, 1, none⟩ = some (.map (some be)) ∧ w'.cell? ⟨w.heap.size, 1, none⟩ = some (encStr v.key))) (by kernel_rfl) ⟨y0, y1⟩ (fun hHeld => ?_)
        refine tk (i := 0) (v := ?vUpdn170) rfl ?hyUpdn170 ?restUpdn170
        case hyUpdn170 => (intro w hSw; (try dsimp only at hSw); go_simp <;> with_reducible rfl)
        try simp only [Act.put, pt1, pt2, pt3]
        refine tk (i := 1) (v := ?vUpdn171) rfl ?hyUpdn171 ?restUpdn171
        case hyUpdn171 => (intro w hSw; (try dsimp only at hSw); go_simp <;> with_reducible rfl)
        try simp only [Act.put, pt1, pt2, pt3]
        refine tk (i := 2) (v := ?vUpdn172) rfl ?hyUpdn172 ?restUpdn172
        case hyUpdn172 => (intro w hSw; (try dsimp only at hSw); go_simp <;> with_reducible rfl)
        try simp only [Act.put, pt1, pt2, pt3]
        refine tk (i := 3) (v := ?vUpdn173) rfl ?hyUpdn173 ?restUpdn173
        case hyUpdn173 => (intro w hSw; (try dsimp only at hSw); go_simp <;> with_reducible rfl)
        try simp only [Act.put, pt1, pt2, pt3]
        refine tk (i := 4) (v := ?vUpdn174) rfl ?hyUpdn174 ?restUpdn174
        case hyUpdn174 => (intro w hSw; (try dsimp only at hSw); go_simp <;> with_reducible rfl)
        try simp only [Act.put, pt1, pt2, pt3]
        refine tk (i := 5) (v := ?vUpdn175) rfl ?hyUpdn175 ?restUpdn175
        case hyUpdn175 => (intro w hSw; (try dsimp only at hSw); go_simp <;> with_reducible rfl)
        try simp only [Act.put, pt1, pt2, pt3]
        refine wpAnyH_ready (rs := [6]) (by kernel_rfl) (by simp) ?_
        refine AllReadyH.cons rfl (fun K hK => ?_) AllReadyH.nil
        go_simp
        clear hHeld
        refine hK.out _ _ ⟨z0, z1⟩ (fun hHeld => ?_)
        clear hK K
        refine wpAnyH_done (by kernel_rfl) ?_ _
        go_upto_region 13 with fail
        clear y0 y1 z0 hry'
        have y0 : wy.cell? ⟨p, 2, none⟩ = some (.map (some bb)) := BPY.out.cell 2
        obtain ⟨wz, hrz, hmz, hgz⟩ := (MGY.out.of_eq (w' := wy.drew) rfl).drop (t := 64) (e := 3) Tryz.underlying64 (k := v.key) hkl 0
        have hrz' : (Builtin.delete_ #[64, 9] 0 #[.map (some bb), encStr v.key]).run Tryz.prog wy.drew = .ok (.tuple #[]) wz := hrz
        have BPZ := Lib.hid (Blk.grown (w := wy.drew) BPY.out hgz (fun e => hm.2.1 (Option.some.inj e).symm))
        have BNZ := Lib.hid (Blk.grown (w := wy.drew) BNY.out hgz (fun e => blk_apart BNX.out MGX.out (Option.some.inj e).symm))
        have x0 : wz.cell? ⟨p, 2, none⟩ = some (.map (some bb)) := BPZ.out.cell 2
        have x1 : wz.cell? ⟨w.heap.size, 1, none⟩ = some (encStr v.key) := BNZ.out.cell 1
        have MGZ := Lib.hid hmz
        have GZ := Lib.hid (show wy.grownBy wz (some bb) from ⟨hgz.os, hgz.tape, hgz.output, hgz.size, hgz.block⟩)
        have MEZ := Lib.hid (MEY.out.of_eq (GZ.out.block be MEY.out.lt (fun e => hbb1 (Option.some.inj e))))
        clear hrz hmz hgz
        refine wp_region_held_drew (S := (fun w' => w'.cell? ⟨p, 2, none⟩ = some (.map (some bb)) ∧ w'.cell? ⟨w.heap.size, 1, none⟩ = some (encStr v.key))) (by kernel_rfl) ⟨y0, z1⟩ (fun hHeld => ?_)
        refine tk (i := 0) (v := ?vUpen180) rfl ?hyUpen180 ?restUpen180
        case hyUpen180 => (intro w hSw; (try dsimp only at hSw); go_simp <;> with_reducible rfl)
        try simp only [Act.put, pt1, pt2, pt3]
        refine tk (i := 1) (v := ?vUpen181) rfl ?hyUpen181 ?restUpen181
        case hyUpen181 => (intro w hSw; (try dsimp only at hSw); go_simp <;> with_reducible rfl)
        try simp only [Act.put, pt1, pt2, pt3]
        refine tk (i := 2) (v := ?vUpen182) rfl ?hyUpen182 ?restUpen182
        case hyUpen182 => (intro w hSw; (try dsimp only at hSw); go_simp <;> with_reducible rfl)
        try simp only [Act.put, pt1, pt2, pt3]
        refine tk (i := 3) (v := ?vUpen183) rfl ?hyUpen183 ?restUpen183
        case hyUpen183 => (intro w hSw; (try dsimp only at hSw); go_simp <;> with_reducible rfl)
        try simp only [Act.put, pt1, pt2, pt3]
        refine tk (i := 4) (v := ?vUpen184) rfl ?hyUpen184 ?restUpen184
        case hyUpen184 => (intro w hSw; (try dsimp only at hSw); go_simp <;> with_reducible rfl)
        try simp only [Act.put, pt1, pt2, pt3]
        refine tk (i := 5) (v := ?vUpen185) rfl ?hyUpen185 ?restUpen185
        case hyUpen185 => (intro w hSw; (try dsimp only at hSw); go_simp <;> with_reducible rfl)
        try simp only [Act.put, pt1, pt2, pt3]
        refine wpAnyH_ready (rs := [6]) (by kernel_rfl) (by simp) ?_
        refine AllReadyH.cons rfl (fun K hK => ?_) AllReadyH.nil
        go_simp
        clear hHeld
        refine hK.out _ _ ⟨x0, x1⟩ (fun hHeld => ?_)
        clear hK K
        refine wpAnyH_done (by kernel_rfl) ?_ _
        go_upto_region 14 with fail
        have x2 : wz.cell? ⟨w.heap.size, 2, none⟩ = some (.int .i64 v.gen) := BNZ.out.cell 2
        have x5 : wz.cell? ⟨p, 5, none⟩ = some (.int .i64 C.gen) := BPZ.out.cell 5
        have xf : wz.frozen? ⟨p, 5, none⟩ = false := BPZ.out.free 5
        go_wp2_with fail
        go_ret
        rw [HE.out]
        exact gone_last R2.out BB2.out HC5.out HDX.out GY.out GZ.out BPZ.out TB5.out TBF.out MEZ.out MGZ.out WF.out
      have d8 : decide (0 ≤ ti) = true := by simp; omega
      obtain ⟨i, rfl⟩ := Int.eq_ofNat_of_zero_le (show 0 ≤ ti by omega)
      obtain ⟨hcut, hil⟩ := DC.out i rfl
      obtain ⟨m, hmm⟩ : ∃ m, C.staged.length = i + 1 + m := ⟨C.staged.length - (i + 1), by omega⟩
      obtain ⟨g, cap, hsl, hF⟩ : ∃ g cap, (.slice SB sn sc : Value) = .slice (some ⟨g, 0, none⟩) (i + 1 + m) cap ∧ F g := by
        rcases ST5.out.form with ⟨_, h⟩ | ⟨g, cap, h, _, _, hF, _⟩
        · omega
        · exact ⟨g, cap, by rw [h, hmm], hF⟩
      obtain ⟨rfl, rfl, rfl⟩ : SB = some ⟨g, 0, none⟩ ∧ sn = i + 1 + m ∧ sc = cap := by injection hsl with a b c; exact ⟨a, b, c⟩
      have TM := Lib.hid (show OwnRow F w5 70 2 (.slice (some ⟨g, 0, none⟩) (i + 1 + m) sc) (i + 1 + m) (blobVals SR) by have h := ST5.out; rw [hmm] at h; exact h)
      have HCUT := Lib.hid hcut
      have hgp : g ≠ p := (R2.out.stg_ne rfl).1
      have hlen : (SR.eraseIdx i).length = i + m := by rw [List.length_eraseIdx_of_lt hil, hsr, hmm]; omega
      have hlen2 : (delL C.staged v.key).length = i + m := by rw [← hcut, List.length_map, hlen]
      have BCUT := Lib.hid (blobVals_cut SR i hil)
      have HL2 := Lib.hid hlen2
      have hi63 : (i : Int) + 1 ≤ 9223372036854775807 := by omega
      clear hsl hcut hlen hlen2 hmm hil
      go_upto_region 12 with (first
        | (go_at_call 32; refine IX.out.mono ?_; rw [TI.out]; rintro e w6 ⟨rfl, hb6⟩; have B6 := Lib.hid hb6; have k6 : w6.cell? ⟨p, 0, none⟩ = some (.slice (some ⟨g, 0, none⟩) (i + 1 + m) sc) := (hb6.cell (p := ⟨p, 0, none⟩) hp5).trans k50; clear hb6)
        | (go_at_call 71; refine (dBlob F g sc i m (blobVals SR) _ (by exact (OwnRow.owning ..).below TM.out B6.out) (blobVals_one _)).mono ?_; rintro e w7 ⟨rfl, ho7, hc7⟩; have HO7 := Lib.hid ho7; have HC7 := Lib.hid (show Chg (fun k => k = g) w6 w7 from ⟨hc7.os, hc7.tape, hc7.output, hc7.size, hc7.block⟩); have BP7 := Lib.hid ((BP5.out.below B6.out hp5).of_eq (hc7.block p (Nat.lt_of_lt_of_le hp5 B6.out.size) (fun e => hgp e.symm))); have f7 : w7.frozen? ⟨p, 0, none⟩ = false := BP7.out.free 0; have kp7 : w7.cell? ⟨p, 0, none⟩ = some (.slice (some ⟨g, 0, none⟩) (i + 1 + m) sc) := BP7.out.cell 0; clear ho7 hc7))
      obtain ⟨wx, hwx⟩ : ∃ wx, wx = w7.setCell ⟨p, 0, none⟩ (.slice (some ⟨g, 0, none⟩) (i + m) sc) := ⟨_, rfl⟩
      rw [← hwx]
      have hc7x : Chg (fun k => k = p) w7 wx := by rw [hwx]; exact (Chg.refl (fun k => k = p) w7).store (p := ⟨p, 0, none⟩) (.inl rfl) _
      have hcx : Chg (fun k => k = p ∨ (Value.slice (some ⟨g, 0, none⟩) (i + 1 + m) sc).ownBlock = some k) w5 wx := ((Chg.of_below _ B6.out).trans (HC7.out.mono (fun k e => .inr (by rw [e]; rfl)))).trans (hc7x.mono (fun k e => .inl e))
      have HDX := Lib.hid (show Dropped F w5 wx p (.slice (some ⟨g, 0, none⟩) (i + 1 + m) sc) SR C.staged v.key (.slice (some ⟨g, 0, none⟩) (i + m) sc) (SR.eraseIdx i) from ⟨by
        rw [HL2.out, ← BCUT.out]
        exact HO7.out.chg hc7x (fun q hq e => hgp ((Option.some.inj hq).trans e)), HCUT.out, fun r hr => (List.eraseIdx_sublist ..).subset hr, hcx, rfl⟩)
      have BPX := Lib.hid (show Blk wx p 68 #[.slice (some ⟨g, 0, none⟩) (i + m) sc, .map (some be), .map (some bb), .slice (some ⟨g4, 0, none⟩) (C.tombs.length + 1) cap4, .map (some br), .int .i64 C.gen] by rw [hwx]; exact BP7.out.store 0 _)
      clear k50 k51 k6 f7 kp7 hwx
      have BNX := Lib.hid (BN5.out.of_eq (HDX.out.chg.block _ hn5 (fun e => e.elim hnp (fun e => SNE.out e.symm))))
      have MEX := Lib.hid (ME5.out.of_eq (HDX.out.chg.block be ME5.out.lt (fun e => e.elim (fun e => hm.1 e.symm) (fun e => (R2.out.stg_ne e).2.2.1 rfl))))
      have MGX := Lib.hid (MG5.out.of_eq (HDX.out.chg.block bb MG5.out.lt (fun e => e.elim (fun e => hm.2.1 e.symm) (fun e => (R2.out.stg_ne e).2.2.2.1 rfl))))
      have y0 : wx.cell? ⟨p, 1, none⟩ = some (.map (some be)) := BPX.out.cell 1
      have y1 : wx.cell? ⟨w.heap.size, 1, none⟩ = some (encStr v.key) := BNX.out.cell 1
      obtain ⟨wy, hry, hmy, hgy⟩ := (MEX.out.of_eq (w' := wx.drew) rfl).drop (t := 63) (e := 43) Tryz.underlying63 (k := v.key) hkl 0
      have hry' : (Builtin.delete_ #[63, 9] 0 #[.map (some be), encStr v.key]).run Tryz.prog wx.drew = .ok (.tuple #[]) wy := hry
      have BPY := Lib.hid (Blk.grown (w := wx.drew) BPX.out hgy (fun e => hm.1 (Option.some.inj e).symm))
      have BNY := Lib.hid (Blk.grown (w := wx.drew) BNX.out hgy (fun e => blk_apart BNX.out MEX.out (Option.some.inj e).symm))
      have z0 : wy.cell? ⟨p, 1, none⟩ = some (.map (some be)) := BPY.out.cell 1
      have z1 : wy.cell? ⟨w.heap.size, 1, none⟩ = some (encStr v.key) := BNY.out.cell 1
      have MEY := Lib.hid hmy
      have GY := Lib.hid (show wx.grownBy wy (some be) from ⟨hgy.os, hgy.tape, hgy.output, hgy.size, hgy.block⟩)
      have MGY := Lib.hid (MGX.out.of_eq (GY.out.block bb MGX.out.lt (fun e => hbb1 (Option.some.inj e).symm)))
      clear hry hmy hgy
      refine wp_region_held_drew (S := (fun w' => w'.cell? ⟨p, 1, none⟩ = some (.map (some be)) ∧ w'.cell? ⟨w.heap.size, 1, none⟩ = some (encStr v.key))) (by kernel_rfl) ⟨y0, y1⟩ (fun hHeld => ?_)
      refine tk (i := 0) (v := ?vUqdn190) rfl ?hyUqdn190 ?restUqdn190
      case hyUqdn190 => (intro w hSw; (try dsimp only at hSw); go_simp <;> with_reducible rfl)
      try simp only [Act.put, pt1, pt2, pt3]
      refine tk (i := 1) (v := ?vUqdn191) rfl ?hyUqdn191 ?restUqdn191
      case hyUqdn191 => (intro w hSw; (try dsimp only at hSw); go_simp <;> with_reducible rfl)
      try simp only [Act.put, pt1, pt2, pt3]
      refine tk (i := 2) (v := ?vUqdn192) rfl ?hyUqdn192 ?restUqdn192
      case hyUqdn192 => (intro w hSw; (try dsimp only at hSw); go_simp <;> with_reducible rfl)
      try simp only [Act.put, pt1, pt2, pt3]
      refine tk (i := 3) (v := ?vUqdn193) rfl ?hyUqdn193 ?restUqdn193
      case hyUqdn193 => (intro w hSw; (try dsimp only at hSw); go_simp <;> with_reducible rfl)
      try simp only [Act.put, pt1, pt2, pt3]
      refine tk (i := 4) (v := ?vUqdn194) rfl ?hyUqdn194 ?restUqdn194
      case hyUqdn194 => (intro w hSw; (try dsimp only at hSw); go_simp <;> with_reducible rfl)
      try simp only [Act.put, pt1, pt2, pt3]
      refine tk (i := 5) (v := ?vUqdn195) rfl ?hyUqdn195 ?restUqdn195
      case hyUqdn195 => (intro w hSw; (try dsimp only at hSw); go_simp <;> with_reducible rfl)
      try simp only [Act.put, pt1, pt2, pt3]
      refine wpAnyH_ready (rs := [6]) (by kernel_rfl) (by simp) ?_
      refine AllReadyH.cons rfl (fun K hK => ?_) AllReadyH.nil
      go_simp
      clear hHeld
      refine hK.out _ _ ⟨z0, z1⟩ (fun hHeld => ?_)
      clear hK K
      refine wpAnyH_done (by kernel_rfl) ?_ _
      go_upto_region 13 with fail
      clear y0 y1 z0 hry'
      have y0 : wy.cell? ⟨p, 2, none⟩ = some (.map (some bb)) := BPY.out.cell 2
      obtain ⟨wz, hrz, hmz, hgz⟩ := (MGY.out.of_eq (w' := wy.drew) rfl).drop (t := 64) (e := 3) Tryz.underlying64 (k := v.key) hkl 0
      have hrz' : (Builtin.delete_ #[64, 9] 0 #[.map (some bb), encStr v.key]).run Tryz.prog wy.drew = .ok (.tuple #[]) wz := hrz
      have BPZ := Lib.hid (Blk.grown (w := wy.drew) BPY.out hgz (fun e => hm.2.1 (Option.some.inj e).symm))
      have BNZ := Lib.hid (Blk.grown (w := wy.drew) BNY.out hgz (fun e => blk_apart BNX.out MGX.out (Option.some.inj e).symm))
      have x0 : wz.cell? ⟨p, 2, none⟩ = some (.map (some bb)) := BPZ.out.cell 2
      have x1 : wz.cell? ⟨w.heap.size, 1, none⟩ = some (encStr v.key) := BNZ.out.cell 1
      have MGZ := Lib.hid hmz
      have GZ := Lib.hid (show wy.grownBy wz (some bb) from ⟨hgz.os, hgz.tape, hgz.output, hgz.size, hgz.block⟩)
      have MEZ := Lib.hid (MEY.out.of_eq (GZ.out.block be MEY.out.lt (fun e => hbb1 (Option.some.inj e))))
      clear hrz hmz hgz
      refine wp_region_held_drew (S := (fun w' => w'.cell? ⟨p, 2, none⟩ = some (.map (some bb)) ∧ w'.cell? ⟨w.heap.size, 1, none⟩ = some (encStr v.key))) (by kernel_rfl) ⟨y0, z1⟩ (fun hHeld => ?_)
      refine tk (i := 0) (v := ?vUqen200) rfl ?hyUqen200 ?restUqen200
      case hyUqen200 => (intro w hSw; (try dsimp only at hSw); go_simp <;> with_reducible rfl)
      try simp only [Act.put, pt1, pt2, pt3]
      refine tk (i := 1) (v := ?vUqen201) rfl ?hyUqen201 ?restUqen201
      case hyUqen201 => (intro w hSw; (try dsimp only at hSw); go_simp <;> with_reducible rfl)
      try simp only [Act.put, pt1, pt2, pt3]
      refine tk (i := 2) (v := ?vUqen202) rfl ?hyUqen202 ?restUqen202
      case hyUqen202 => (intro w hSw; (try dsimp only at hSw); go_simp <;> with_reducible rfl)
      try simp only [Act.put, pt1, pt2, pt3]
      refine tk (i := 3) (v := ?vUqen203) rfl ?hyUqen203 ?restUqen203
      case hyUqen203 => (intro w hSw; (try dsimp only at hSw); go_simp <;> with_reducible rfl)
      try simp only [Act.put, pt1, pt2, pt3]
      refine tk (i := 4) (v := ?vUqen204) rfl ?hyUqen204 ?restUqen204
      case hyUqen204 => (intro w hSw; (try dsimp only at hSw); go_simp <;> with_reducible rfl)
      try simp only [Act.put, pt1, pt2, pt3]
      refine tk (i := 5) (v := ?vUqen205) rfl ?hyUqen205 ?restUqen205
      case hyUqen205 => (intro w hSw; (try dsimp only at hSw); go_simp <;> with_reducible rfl)
      try simp only [Act.put, pt1, pt2, pt3]
      refine wpAnyH_ready (rs := [6]) (by kernel_rfl) (by simp) ?_
      refine AllReadyH.cons rfl (fun K hK => ?_) AllReadyH.nil
      go_simp
      clear hHeld
      refine hK.out _ _ ⟨x0, x1⟩ (fun hHeld => ?_)
      clear hK K
      refine wpAnyH_done (by kernel_rfl) ?_ _
      go_upto_region 14 with fail
      have x2 : wz.cell? ⟨w.heap.size, 2, none⟩ = some (.int .i64 v.gen) := BNZ.out.cell 2
      have x5 : wz.cell? ⟨p, 5, none⟩ = some (.int .i64 C.gen) := BPZ.out.cell 5
      have xf : wz.frozen? ⟨p, 5, none⟩ = false := BPZ.out.free 5
      go_wp2_with fail
      go_ret
      rw [HE.out]
      exact gone_last R2.out BB2.out HC5.out HDX.out GY.out GZ.out BPZ.out TB5.out TBF.out MEZ.out MGZ.out WF.out
    · go_simp
      clear hHeld
      refine hK.out _ _ (by (try dsimp only); go_keep) (fun hHeld => ?_)
      clear hK K
      refine wpAnyH_ready (rs := [4]) (by kernel_rfl) (by simp) ?_
      refine AllReadyH.cons rfl (fun K hK => ?_) AllReadyH.nil
      go_simp
      refine hK.out _ _ hHeld (fun hHeld => ?_)
      clear hK K
      refine wpAnyH_ready (rs := [11]) (by kernel_rfl) (by simp) ?_
      refine AllReadyH.cons rfl (fun K hK => ?_) AllReadyH.nil
      refine step_append_form _ rfl (.tmp 50) (.tmp 56) 22 rfl 0 32 i0 _ 8 112 Tryz.underlying22 hi hz0 hz1 hz2 rfl (by omega) _ C.tombs.length (tombVals C.tombs) rfl (by exact own_of_eq R4.out.tmb.1 (fun q hq => Below.heap_alloc _ _ q (R4.out.tmb.1.lt q hq).2)) (some ⟨w4.heap.size, 0, none⟩) 1 1 [.int .i64 6, encStr v.key, .int .i64 v.gen, .int .i64 0, .slice none 0 0, encStr [], .int .i64 1, .slice none 0 0] rfl rfl (fun e => by cases e) (by exact src_new _ _ _ _) (by intro u hu; simp only [List.mem_cons, List.not_mem_nil, or_false] at hu; rcases hu with rfl | rfl | rfl | rfl | rfl | rfl | rfl | rfl <;> rfl) (by omega) (by simp only [maxLen]; omega) (by omega) (Nat.zero_le _) ?_; intro g4 cap4 wy hown4 hgr4 hat4 hlt4; have BPY := Lib.hid (Blk.grown (w := w4.drew.alloc (.cells #[.int .i64 6, encStr v.key, .int .i64 v.gen, .int .i64 0, .slice none 0 0, encStr [], .int .i64 1, .slice none 0 0] 32)) (Blk.alloc (w := w4.drew) R4.out.blk (.cells #[.int .i64 6, encStr v.key, .int .i64 v.gen, .int .i64 0, .slice none 0 0, encStr [], .int .i64 1, .slice none 0 0] 32)) hgr4 (fun e => (R4.out.tmb_ne e).1 rfl)); have BNY := Lib.hid (Blk.grown (w := w4.drew.alloc (.cells #[.int .i64 6, encStr v.key, .int .i64 v.gen, .int .i64 0, .slice none 0 0, encStr [], .int .i64 1, .slice none 0 0] 32)) (Blk.alloc (w := w4.drew) BN4.out (.cells #[.int .i64 6, encStr v.key, .int .i64 v.gen, .int .i64 0, .slice none 0 0, encStr [], .int .i64 1, .slice none 0 0] 32)) hgr4 (fun e => TNE.out e.symm)); have s1 : wy.cell? ⟨w.heap.size, 1, none⟩ = some (encStr v.key) := BNY.out.cell 1; have s2 : wy.cell? ⟨w.heap.size, 2, none⟩ = some (.int .i64 v.gen) := BNY.out.cell 2; have kp4 : wy.cell? ⟨p, 3, none⟩ = some (.slice B0 n0 c0) := BPY.out.cell 3; have f4 : wy.frozen? ⟨p, 3, none⟩ = false := BPY.out.free 3; have HO4 := Lib.hid hown4; have HG4 := Lib.hid hgr4; clear hown4 hgr4
      clear hHeld
      refine hK.out _ _ ⟨s1, s2⟩ (fun hHeld => ?_)
      clear hK K
      refine tk (i := 12) (v := ?vUtn4b1012) rfl ?hyUtn4b1012 ?restUtn4b1012
      case hyUtn4b1012 => (intro w hSw; (try dsimp only at hSw); go_simp <;> with_reducible rfl)
      refine tk (i := 13) (v := ?vUtn4b1013) rfl ?hyUtn4b1013 ?restUtn4b1013
      case hyUtn4b1013 => (intro w hSw; (try dsimp only at hSw); go_simp <;> with_reducible rfl)
      refine wpAnyH_ready (rs := [14]) (by kernel_rfl) (by simp) ?_
      refine AllReadyH.cons rfl (fun K hK => ?_) AllReadyH.nil
      go_simp
      clear hHeld
      refine hK.out _ _ ⟨(World.cell?_setCell_far _ _ _ _ (fun e => hnp e.symm)).trans s1, (World.cell?_setCell_far _ _ _ _ (fun e => hnp e.symm)).trans s2⟩ (fun hHeld => ?_)
      clear hK K
      refine wpAnyH_done (by kernel_rfl) ?_ _
      obtain ⟨w5, hw5⟩ : ∃ w5, w5 = wy.setCell ⟨p, 3, none⟩ (.slice (some ⟨g4, 0, none⟩) (C.tombs.length + 1) cap4) := ⟨_, rfl⟩
      go_upto_region 9 with fail
      rw [← hw5]
      have hgp4 : g4 ≠ p := by
        rcases hat4 with e | e
        · exact (R4.out.tmb_ne e).1
        · have e2 : g4 = w4.heap.size + 1 := e.trans (World.size_alloc w4 _); omega
      have hcy : Chg (fun k => k = p ∨ (Value.slice B0 n0 c0).ownBlock = some k) w4 w5 := by
        rw [hw5]
        exact (((Chg.refl (fun k => k = p ∨ (Value.slice B0 n0 c0).ownBlock = some k) w4).drewN 1 |>.alloc _).grown HG4.out (fun g e => .inl (.inr e))).store (p := ⟨p, 3, none⟩) (.inl (.inl rfl)) _
      have BP5 := Lib.hid (show Blk w5 p 68 #[.slice SB sn sc, .map (some be), .map (some bb), .slice (some ⟨g4, 0, none⟩) (C.tombs.length + 1) cap4, .map (some br), .int .i64 C.gen] by rw [hw5]; exact BPY.out.store 3 _)
      have BN5 := Lib.hid (show Blk w5 w.heap.size 32 (noteCells v D dn dc Q qn qc) by rw [hw5]; exact BNY.out.apart hnp _)
      have ST5 := Lib.hid (R4.out.stg.chg hcy (fun g hg e => e.elim (R2.out.stg_ne hg).1 (R2.out.stg_ne hg).2.1))
      have ME5 := Lib.hid (R4.out.ents.of_eq (hcy.block be R4.out.ents.lt (fun e => e.elim (fun e => hm.1 e.symm) (fun e => (R2.out.tmb_ne e).2.2.1 rfl))))
      have MG5 := Lib.hid (R4.out.begs.of_eq (hcy.block bb R4.out.begs.lt (fun e => e.elim (fun e => hm.2.1 e.symm) (fun e => (R2.out.tmb_ne e).2.2.2.1 rfl))))
      have HC5 := Lib.hid (show Chg (fun k => k = p ∨ (Value.slice B0 n0 c0).ownBlock = some k) w2 w5 from (Chg.of_below _ B4.out).trans hcy)
      have TB5 := Lib.hid (show OwnRow (Wide F w) w5 32 8 (.slice (some ⟨g4, 0, none⟩) (C.tombs.length + 1) cap4) (goneL C v).length (tombVals (goneL C v)) by
        rw [hw5, show goneL C v = C.tombs ++ [(v.key, v.gen)] by unfold goneL; rw [HOR.out]; rfl]
        exact tomb_own R4.out.tmb rfl (Nat.le_trans BB2.out.size hz24) HO4.out hat4 hgp4)
      have TBF := Lib.hid (show ∀ g, (Value.slice (some ⟨g4, 0, none⟩) (C.tombs.length + 1) cap4).ownBlock = some g → (Value.slice B0 n0 c0).ownBlock = some g ∨ w2.heap.size ≤ g from fun g hg => by
        have e : g4 = g := Option.some.inj hg
        subst e
        rcases hat4 with e | e
        · exact .inl e
        · have e2 : g4 = w4.heap.size + 1 := e.trans (World.size_alloc w4 _); exact .inr (by omega))
      clear hcy hw5 hat4 r1 r2 kp s1 s2 kp4 f4
      have hp5 : p < w5.heap.size := BP5.out.size
      have hn5 : w.heap.size < w5.heap.size := BN5.out.size
      have k50 : w5.cell? ⟨p, 0, none⟩ = some (.slice SB sn sc) := BP5.out.cell 0
      have k51 : w5.cell? ⟨w.heap.size, 1, none⟩ = some (encStr v.key) := BN5.out.cell 1
      have IX := Lib.hid (cWaits0 F p _ (.slice SB sn sc) SR v.key w5 k50 ST5.out hsr)
      go_upto_region 9 with fail
      by_cases ht : ti < 0
      case pos =>
        have d8 : decide (0 ≤ ti) = false := by simpa using ht
        have HT := Lib.hid ht
        clear ht
        go_upto_region 12 with (go_at_call 32; refine (IX.out).mono ?_; rw [TI.out]; rintro e wx ⟨rfl, hbx⟩; have BX := Lib.hid hbx; clear hbx)
        have HDX := Lib.hid (show Dropped F w5 wx p (.slice SB sn sc) SR C.staged v.key (.slice SB sn sc) SR from ⟨by rw [DN.out HT.out]; exact (OwnRow.owning ..).below ST5.out BX.out, by rw [DN.out HT.out]; exact R2.out.stgs, fun r hr => hr, Chg.of_below _ BX.out, rfl⟩)
        have BPX := Lib.hid (BP5.out.below BX.out hp5)
        clear k50 k51
        have BNX := Lib.hid (BN5.out.of_eq (HDX.out.chg.block _ hn5 (fun e => e.elim hnp (fun e => SNE.out e.symm))))
        have MEX := Lib.hid (ME5.out.of_eq (HDX.out.chg.block be ME5.out.lt (fun e => e.elim (fun e => hm.1 e.symm) (fun e => (R2.out.stg_ne e).2.2.1 rfl))))
        have MGX := Lib.hid (MG5.out.of_eq (HDX.out.chg.block bb MG5.out.lt (fun e => e.elim (fun e => hm.2.1 e.symm) (fun e => (R2.out.stg_ne e).2.2.2.1 rfl))))
        have y0 : wx.cell? ⟨p, 1, none⟩ = some (.map (some be)) := BPX.out.cell 1
        have y1 : wx.cell? ⟨w.heap.size, 1, none⟩ = some (encStr v.key) := BNX.out.cell 1
        obtain ⟨wy, hry, hmy, hgy⟩ := (MEX.out.of_eq (w' := wx.drew) rfl).drop (t := 63) (e := 43) Tryz.underlying63 (k := v.key) hkl 0
        have hry' : (Builtin.delete_ #[63, 9] 0 #[.map (some be), encStr v.key]).run Tryz.prog wx.drew = .ok (.tuple #[]) wy := hry
        have BPY := Lib.hid (Blk.grown (w := wx.drew) BPX.out hgy (fun e => hm.1 (Option.some.inj e).symm))
        have BNY := Lib.hid (Blk.grown (w := wx.drew) BNX.out hgy (fun e => blk_apart BNX.out MEX.out (Option.some.inj e).symm))
        have z0 : wy.cell? ⟨p, 1, none⟩ = some (.map (some be)) := BPY.out.cell 1
        have z1 : wy.cell? ⟨w.heap.size, 1, none⟩ = some (encStr v.key) := BNY.out.cell 1
        have MEY := Lib.hid hmy
        have GY := Lib.hid (show wx.grownBy wy (some be) from ⟨hgy.os, hgy.tape, hgy.output, hgy.size, hgy.block⟩)
        have MGY := Lib.hid (MGX.out.of_eq (GY.out.block bb MGX.out.lt (fun e => hbb1 (Option.some.inj e).symm)))
        clear hry hmy hgy
        refine wp_region_held_drew (S := (fun w' => w'.cell? ⟨p, 1, none⟩ = some (.map (some be)) ∧ w'.cell? ⟨w.heap.size, 1, none⟩ = some (encStr v.key))) (by kernel_rfl) ⟨y0, y1⟩ (fun hHeld => ?_)
        refine tk (i := 0) (v := ?vUpdn210) rfl ?hyUpdn210 ?restUpdn210
        case hyUpdn210 => (intro w hSw; (try dsimp only at hSw); go_simp <;> with_reducible rfl)
        try simp only [Act.put, pt1, pt2, pt3]
        refine tk (i := 1) (v := ?vUpdn211) rfl ?hyUpdn211 ?restUpdn211
        case hyUpdn211 => (intro w hSw; (try dsimp only at hSw); go_simp <;> with_reducible rfl)
        try simp only [Act.put, pt1, pt2, pt3]
        refine tk (i := 2) (v := ?vUpdn212) rfl ?hyUpdn212 ?restUpdn212
        case hyUpdn212 => (intro w hSw; (try dsimp only at hSw); go_simp <;> with_reducible rfl)
        try simp only [Act.put, pt1, pt2, pt3]
        refine tk (i := 3) (v := ?vUpdn213) rfl ?hyUpdn213 ?restUpdn213
        case hyUpdn213 => (intro w hSw; (try dsimp only at hSw); go_simp <;> with_reducible rfl)
        try simp only [Act.put, pt1, pt2, pt3]
        refine tk (i := 4) (v := ?vUpdn214) rfl ?hyUpdn214 ?restUpdn214
        case hyUpdn214 => (intro w hSw; (try dsimp only at hSw); go_simp <;> with_reducible rfl)
        try simp only [Act.put, pt1, pt2, pt3]
        refine tk (i := 5) (v := ?vUpdn215) rfl ?hyUpdn215 ?restUpdn215
        case hyUpdn215 => (intro w hSw; (try dsimp only at hSw); go_simp <;> with_reducible rfl)
        try simp only [Act.put, pt1, pt2, pt3]
        refine wpAnyH_ready (rs := [6]) (by kernel_rfl) (by simp) ?_
        refine AllReadyH.cons rfl (fun K hK => ?_) AllReadyH.nil
        go_simp
        clear hHeld
        refine hK.out _ _ ⟨z0, z1⟩ (fun hHeld => ?_)
        clear hK K
        refine wpAnyH_done (by kernel_rfl) ?_ _
        go_upto_region 13 with fail
        clear y0 y1 z0 hry'
        have y0 : wy.cell? ⟨p, 2, none⟩ = some (.map (some bb)) := BPY.out.cell 2
        obtain ⟨wz, hrz, hmz, hgz⟩ := (MGY.out.of_eq (w' := wy.drew) rfl).drop (t := 64) (e := 3) Tryz.underlying64 (k := v.key) hkl 0
        have hrz' : (Builtin.delete_ #[64, 9] 0 #[.map (some bb), encStr v.key]).run Tryz.prog wy.drew = .ok (.tuple #[]) wz := hrz
        have BPZ := Lib.hid (Blk.grown (w := wy.drew) BPY.out hgz (fun e => hm.2.1 (Option.some.inj e).symm))
        have BNZ := Lib.hid (Blk.grown (w := wy.drew) BNY.out hgz (fun e => blk_apart BNX.out MGX.out (Option.some.inj e).symm))
        have x0 : wz.cell? ⟨p, 2, none⟩ = some (.map (some bb)) := BPZ.out.cell 2
        have x1 : wz.cell? ⟨w.heap.size, 1, none⟩ = some (encStr v.key) := BNZ.out.cell 1
        have MGZ := Lib.hid hmz
        have GZ := Lib.hid (show wy.grownBy wz (some bb) from ⟨hgz.os, hgz.tape, hgz.output, hgz.size, hgz.block⟩)
        have MEZ := Lib.hid (MEY.out.of_eq (GZ.out.block be MEY.out.lt (fun e => hbb1 (Option.some.inj e))))
        clear hrz hmz hgz
        refine wp_region_held_drew (S := (fun w' => w'.cell? ⟨p, 2, none⟩ = some (.map (some bb)) ∧ w'.cell? ⟨w.heap.size, 1, none⟩ = some (encStr v.key))) (by kernel_rfl) ⟨y0, z1⟩ (fun hHeld => ?_)
        refine tk (i := 0) (v := ?vUpen220) rfl ?hyUpen220 ?restUpen220
        case hyUpen220 => (intro w hSw; (try dsimp only at hSw); go_simp <;> with_reducible rfl)
        try simp only [Act.put, pt1, pt2, pt3]
        refine tk (i := 1) (v := ?vUpen221) rfl ?hyUpen221 ?restUpen221
        case hyUpen221 => (intro w hSw; (try dsimp only at hSw); go_simp <;> with_reducible rfl)
        try simp only [Act.put, pt1, pt2, pt3]
        refine tk (i := 2) (v := ?vUpen222) rfl ?hyUpen222 ?restUpen222
        case hyUpen222 => (intro w hSw; (try dsimp only at hSw); go_simp <;> with_reducible rfl)
        try simp only [Act.put, pt1, pt2, pt3]
        refine tk (i := 3) (v := ?vUpen223) rfl ?hyUpen223 ?restUpen223
        case hyUpen223 => (intro w hSw; (try dsimp only at hSw); go_simp <;> with_reducible rfl)
        try simp only [Act.put, pt1, pt2, pt3]
        refine tk (i := 4) (v := ?vUpen224) rfl ?hyUpen224 ?restUpen224
        case hyUpen224 => (intro w hSw; (try dsimp only at hSw); go_simp <;> with_reducible rfl)
        try simp only [Act.put, pt1, pt2, pt3]
        refine tk (i := 5) (v := ?vUpen225) rfl ?hyUpen225 ?restUpen225
        case hyUpen225 => (intro w hSw; (try dsimp only at hSw); go_simp <;> with_reducible rfl)
        try simp only [Act.put, pt1, pt2, pt3]
        refine wpAnyH_ready (rs := [6]) (by kernel_rfl) (by simp) ?_
        refine AllReadyH.cons rfl (fun K hK => ?_) AllReadyH.nil
        go_simp
        clear hHeld
        refine hK.out _ _ ⟨x0, x1⟩ (fun hHeld => ?_)
        clear hK K
        refine wpAnyH_done (by kernel_rfl) ?_ _
        go_upto_region 14 with fail
        have x2 : wz.cell? ⟨w.heap.size, 2, none⟩ = some (.int .i64 v.gen) := BNZ.out.cell 2
        have x5 : wz.cell? ⟨p, 5, none⟩ = some (.int .i64 C.gen) := BPZ.out.cell 5
        have xf : wz.frozen? ⟨p, 5, none⟩ = false := BPZ.out.free 5
        go_wp2_with fail
        go_ret
        rw [HE.out]
        exact gone_last R2.out BB2.out HC5.out HDX.out GY.out GZ.out BPZ.out TB5.out TBF.out MEZ.out MGZ.out WF.out
      have d8 : decide (0 ≤ ti) = true := by simp; omega
      obtain ⟨i, rfl⟩ := Int.eq_ofNat_of_zero_le (show 0 ≤ ti by omega)
      obtain ⟨hcut, hil⟩ := DC.out i rfl
      obtain ⟨m, hmm⟩ : ∃ m, C.staged.length = i + 1 + m := ⟨C.staged.length - (i + 1), by omega⟩
      obtain ⟨g, cap, hsl, hF⟩ : ∃ g cap, (.slice SB sn sc : Value) = .slice (some ⟨g, 0, none⟩) (i + 1 + m) cap ∧ F g := by
        rcases ST5.out.form with ⟨_, h⟩ | ⟨g, cap, h, _, _, hF, _⟩
        · omega
        · exact ⟨g, cap, by rw [h, hmm], hF⟩
      obtain ⟨rfl, rfl, rfl⟩ : SB = some ⟨g, 0, none⟩ ∧ sn = i + 1 + m ∧ sc = cap := by injection hsl with a b c; exact ⟨a, b, c⟩
      have TM := Lib.hid (show OwnRow F w5 70 2 (.slice (some ⟨g, 0, none⟩) (i + 1 + m) sc) (i + 1 + m) (blobVals SR) by have h := ST5.out; rw [hmm] at h; exact h)
      have HCUT := Lib.hid hcut
      have hgp : g ≠ p := (R2.out.stg_ne rfl).1
      have hlen : (SR.eraseIdx i).length = i + m := by rw [List.length_eraseIdx_of_lt hil, hsr, hmm]; omega
      have hlen2 : (delL C.staged v.key).length = i + m := by rw [← hcut, List.length_map, hlen]
      have BCUT := Lib.hid (blobVals_cut SR i hil)
      have HL2 := Lib.hid hlen2
      have hi63 : (i : Int) + 1 ≤ 9223372036854775807 := by omega
      clear hsl hcut hlen hlen2 hmm hil
      go_upto_region 12 with (first
        | (go_at_call 32; refine IX.out.mono ?_; rw [TI.out]; rintro e w6 ⟨rfl, hb6⟩; have B6 := Lib.hid hb6; have k6 : w6.cell? ⟨p, 0, none⟩ = some (.slice (some ⟨g, 0, none⟩) (i + 1 + m) sc) := (hb6.cell (p := ⟨p, 0, none⟩) hp5).trans k50; clear hb6)
        | (go_at_call 71; refine (dBlob F g sc i m (blobVals SR) _ (by exact (OwnRow.owning ..).below TM.out B6.out) (blobVals_one _)).mono ?_; rintro e w7 ⟨rfl, ho7, hc7⟩; have HO7 := Lib.hid ho7; have HC7 := Lib.hid (show Chg (fun k => k = g) w6 w7 from ⟨hc7.os, hc7.tape, hc7.output, hc7.size, hc7.block⟩); have BP7 := Lib.hid ((BP5.out.below B6.out hp5).of_eq (hc7.block p (Nat.lt_of_lt_of_le hp5 B6.out.size) (fun e => hgp e.symm))); have f7 : w7.frozen? ⟨p, 0, none⟩ = false := BP7.out.free 0; have kp7 : w7.cell? ⟨p, 0, none⟩ = some (.slice (some ⟨g, 0, none⟩) (i + 1 + m) sc) := BP7.out.cell 0; clear ho7 hc7))
      obtain ⟨wx, hwx⟩ : ∃ wx, wx = w7.setCell ⟨p, 0, none⟩ (.slice (some ⟨g, 0, none⟩) (i + m) sc) := ⟨_, rfl⟩
      rw [← hwx]
      have hc7x : Chg (fun k => k = p) w7 wx := by rw [hwx]; exact (Chg.refl (fun k => k = p) w7).store (p := ⟨p, 0, none⟩) (.inl rfl) _
      have hcx : Chg (fun k => k = p ∨ (Value.slice (some ⟨g, 0, none⟩) (i + 1 + m) sc).ownBlock = some k) w5 wx := ((Chg.of_below _ B6.out).trans (HC7.out.mono (fun k e => .inr (by rw [e]; rfl)))).trans (hc7x.mono (fun k e => .inl e))
      have HDX := Lib.hid (show Dropped F w5 wx p (.slice (some ⟨g, 0, none⟩) (i + 1 + m) sc) SR C.staged v.key (.slice (some ⟨g, 0, none⟩) (i + m) sc) (SR.eraseIdx i) from ⟨by
        rw [HL2.out, ← BCUT.out]
        exact HO7.out.chg hc7x (fun q hq e => hgp ((Option.some.inj hq).trans e)), HCUT.out, fun r hr => (List.eraseIdx_sublist ..).subset hr, hcx, rfl⟩)
      have BPX := Lib.hid (show Blk wx p 68 #[.slice (some ⟨g, 0, none⟩) (i + m) sc, .map (some be), .map (some bb), .slice (some ⟨g4, 0, none⟩) (C.tombs.length + 1) cap4, .map (some br), .int .i64 C.gen] by rw [hwx]; exact BP7.out.store 0 _)
      clear k50 k51 k6 f7 kp7 hwx
      have BNX := Lib.hid (BN5.out.of_eq (HDX.out.chg.block _ hn5 (fun e => e.elim hnp (fun e => SNE.out e.symm))))
      have MEX := Lib.hid (ME5.out.of_eq (HDX.out.chg.block be ME5.out.lt (fun e => e.elim (fun e => hm.1 e.symm) (fun e => (R2.out.stg_ne e).2.2.1 rfl))))
      have MGX := Lib.hid (MG5.out.of_eq (HDX.out.chg.block bb MG5.out.lt (fun e => e.elim (fun e => hm.2.1 e.symm) (fun e => (R2.out.stg_ne e).2.2.2.1 rfl))))
      have y0 : wx.cell? ⟨p, 1, none⟩ = some (.map (some be)) := BPX.out.cell 1
      have y1 : wx.cell? ⟨w.heap.size, 1, none⟩ = some (encStr v.key) := BNX.out.cell 1
      obtain ⟨wy, hry, hmy, hgy⟩ := (MEX.out.of_eq (w' := wx.drew) rfl).drop (t := 63) (e := 43) Tryz.underlying63 (k := v.key) hkl 0
      have hry' : (Builtin.delete_ #[63, 9] 0 #[.map (some be), encStr v.key]).run Tryz.prog wx.drew = .ok (.tuple #[]) wy := hry
      have BPY := Lib.hid (Blk.grown (w := wx.drew) BPX.out hgy (fun e => hm.1 (Option.some.inj e).symm))
      have BNY := Lib.hid (Blk.grown (w := wx.drew) BNX.out hgy (fun e => blk_apart BNX.out MEX.out (Option.some.inj e).symm))
      have z0 : wy.cell? ⟨p, 1, none⟩ = some (.map (some be)) := BPY.out.cell 1
      have z1 : wy.cell? ⟨w.heap.size, 1, none⟩ = some (encStr v.key) := BNY.out.cell 1
      have MEY := Lib.hid hmy
      have GY := Lib.hid (show wx.grownBy wy (some be) from ⟨hgy.os, hgy.tape, hgy.output, hgy.size, hgy.block⟩)
      have MGY := Lib.hid (MGX.out.of_eq (GY.out.block bb MGX.out.lt (fun e => hbb1 (Option.some.inj e).symm)))
      clear hry hmy hgy
      refine wp_region_held_drew (S := (fun w' => w'.cell? ⟨p, 1, none⟩ = some (.map (some be)) ∧ w'.cell? ⟨w.heap.size, 1, none⟩ = some (encStr v.key))) (by kernel_rfl) ⟨y0, y1⟩ (fun hHeld => ?_)
      refine tk (i := 0) (v := ?vUqdn230) rfl ?hyUqdn230 ?restUqdn230
      case hyUqdn230 => (intro w hSw; (try dsimp only at hSw); go_simp <;> with_reducible rfl)
      try simp only [Act.put, pt1, pt2, pt3]
      refine tk (i := 1) (v := ?vUqdn231) rfl ?hyUqdn231 ?restUqdn231
      case hyUqdn231 => (intro w hSw; (try dsimp only at hSw); go_simp <;> with_reducible rfl)
      try simp only [Act.put, pt1, pt2, pt3]
      refine tk (i := 2) (v := ?vUqdn232) rfl ?hyUqdn232 ?restUqdn232
      case hyUqdn232 => (intro w hSw; (try dsimp only at hSw); go_simp <;> with_reducible rfl)
      try simp only [Act.put, pt1, pt2, pt3]
      refine tk (i := 3) (v := ?vUqdn233) rfl ?hyUqdn233 ?restUqdn233
      case hyUqdn233 => (intro w hSw; (try dsimp only at hSw); go_simp <;> with_reducible rfl)
      try simp only [Act.put, pt1, pt2, pt3]
      refine tk (i := 4) (v := ?vUqdn234) rfl ?hyUqdn234 ?restUqdn234
      case hyUqdn234 => (intro w hSw; (try dsimp only at hSw); go_simp <;> with_reducible rfl)
      try simp only [Act.put, pt1, pt2, pt3]
      refine tk (i := 5) (v := ?vUqdn235) rfl ?hyUqdn235 ?restUqdn235
      case hyUqdn235 => (intro w hSw; (try dsimp only at hSw); go_simp <;> with_reducible rfl)
      try simp only [Act.put, pt1, pt2, pt3]
      refine wpAnyH_ready (rs := [6]) (by kernel_rfl) (by simp) ?_
      refine AllReadyH.cons rfl (fun K hK => ?_) AllReadyH.nil
      go_simp
      clear hHeld
      refine hK.out _ _ ⟨z0, z1⟩ (fun hHeld => ?_)
      clear hK K
      refine wpAnyH_done (by kernel_rfl) ?_ _
      go_upto_region 13 with fail
      clear y0 y1 z0 hry'
      have y0 : wy.cell? ⟨p, 2, none⟩ = some (.map (some bb)) := BPY.out.cell 2
      obtain ⟨wz, hrz, hmz, hgz⟩ := (MGY.out.of_eq (w' := wy.drew) rfl).drop (t := 64) (e := 3) Tryz.underlying64 (k := v.key) hkl 0
      have hrz' : (Builtin.delete_ #[64, 9] 0 #[.map (some bb), encStr v.key]).run Tryz.prog wy.drew = .ok (.tuple #[]) wz := hrz
      have BPZ := Lib.hid (Blk.grown (w := wy.drew) BPY.out hgz (fun e => hm.2.1 (Option.some.inj e).symm))
      have BNZ := Lib.hid (Blk.grown (w := wy.drew) BNY.out hgz (fun e => blk_apart BNX.out MGX.out (Option.some.inj e).symm))
      have x0 : wz.cell? ⟨p, 2, none⟩ = some (.map (some bb)) := BPZ.out.cell 2
      have x1 : wz.cell? ⟨w.heap.size, 1, none⟩ = some (encStr v.key) := BNZ.out.cell 1
      have MGZ := Lib.hid hmz
      have GZ := Lib.hid (show wy.grownBy wz (some bb) from ⟨hgz.os, hgz.tape, hgz.output, hgz.size, hgz.block⟩)
      have MEZ := Lib.hid (MEY.out.of_eq (GZ.out.block be MEY.out.lt (fun e => hbb1 (Option.some.inj e))))
      clear hrz hmz hgz
      refine wp_region_held_drew (S := (fun w' => w'.cell? ⟨p, 2, none⟩ = some (.map (some bb)) ∧ w'.cell? ⟨w.heap.size, 1, none⟩ = some (encStr v.key))) (by kernel_rfl) ⟨y0, z1⟩ (fun hHeld => ?_)
      refine tk (i := 0) (v := ?vUqen240) rfl ?hyUqen240 ?restUqen240
      case hyUqen240 => (intro w hSw; (try dsimp only at hSw); go_simp <;> with_reducible rfl)
      try simp only [Act.put, pt1, pt2, pt3]
      refine tk (i := 1) (v := ?vUqen241) rfl ?hyUqen241 ?restUqen241
      case hyUqen241 => (intro w hSw; (try dsimp only at hSw); go_simp <;> with_reducible rfl)
      try simp only [Act.put, pt1, pt2, pt3]
      refine tk (i := 2) (v := ?vUqen242) rfl ?hyUqen242 ?restUqen242
      case hyUqen242 => (intro w hSw; (try dsimp only at hSw); go_simp <;> with_reducible rfl)
      try simp only [Act.put, pt1, pt2, pt3]
      refine tk (i := 3) (v := ?vUqen243) rfl ?hyUqen243 ?restUqen243
      case hyUqen243 => (intro w hSw; (try dsimp only at hSw); go_simp <;> with_reducible rfl)
      try simp only [Act.put, pt1, pt2, pt3]
      refine tk (i := 4) (v := ?vUqen244) rfl ?hyUqen244 ?restUqen244
      case hyUqen244 => (intro w hSw; (try dsimp only at hSw); go_simp <;> with_reducible rfl)
      try simp only [Act.put, pt1, pt2, pt3]
      refine tk (i := 5) (v := ?vUqen245) rfl ?hyUqen245 ?restUqen245
      case hyUqen245 => (intro w hSw; (try dsimp only at hSw); go_simp <;> with_reducible rfl)
      try simp only [Act.put, pt1, pt2, pt3]
      refine wpAnyH_ready (rs := [6]) (by kernel_rfl) (by simp) ?_
      refine AllReadyH.cons rfl (fun K hK => ?_) AllReadyH.nil
      go_simp
      clear hHeld
      refine hK.out _ _ ⟨x0, x1⟩ (fun hHeld => ?_)
      clear hK K
      refine wpAnyH_done (by kernel_rfl) ?_ _
      go_upto_region 14 with fail
      have x2 : wz.cell? ⟨w.heap.size, 2, none⟩ = some (.int .i64 v.gen) := BNZ.out.cell 2
      have x5 : wz.cell? ⟨p, 5, none⟩ = some (.int .i64 C.gen) := BPZ.out.cell 5
      have xf : wz.frozen? ⟨p, 5, none⟩ = false := BPZ.out.free 5
      go_wp2_with fail
      go_ret
      rw [HE.out]
      exact gone_last R2.out BB2.out HC5.out HDX.out GY.out GZ.out BPZ.out TB5.out TBF.out MEZ.out MGZ.out WF.out
  | false =>
    have HOR := Lib.hid (show (hasL C.entries v.key || hasL C.begun v.key) = false by rw [hE, hG]; rfl)
    clear hE hG
    go_upto_region 9 with fail
    obtain ⟨w5, hw5⟩ : ∃ w5, w5 = w4 := ⟨_, rfl⟩
    have BP5 := Lib.hid (show Blk w5 p 68 _ by rw [hw5]; exact R4.out.blk)
    have BN5 := Lib.hid (show Blk w5 w.heap.size 32 (noteCells v D dn dc Q qn qc) by rw [hw5]; exact BN4.out)
    have ST5 := Lib.hid (show OwnRow F w5 70 2 (.slice SB sn sc) C.staged.length (blobVals SR) by rw [hw5]; exact R4.out.stg)
    have ME5 := Lib.hid (show MapAt skey zeroEnt w5 be N (entVals ER) by rw [hw5]; exact R4.out.ents)
    have MG5 := Lib.hid (show MapAt skey (.int .i64 0) w5 bb N (begunVals C.begun) by rw [hw5]; exact R4.out.begs)
    have HC5 := Lib.hid (show Chg (fun k => k = p ∨ tv.ownBlock = some k) w2 w5 by rw [hw5]; exact Chg.of_below _ B4.out)
    have TB5 := Lib.hid (show OwnRow (Wide F w) w5 32 8 tv (goneL C v).length (tombVals (goneL C v)) by rw [hw5, show goneL C v = C.tombs by unfold goneL; rw [HOR.out]; rfl]; exact R4.out.tmb.wide)
    have TBF := Lib.hid (show ∀ g, tv.ownBlock = some g → tv.ownBlock = some g ∨ w2.heap.size ≤ g from fun g hg => .inl hg)
    rw [← hw5]
    clear hw5
    have hp5 : p < w5.heap.size := BP5.out.size
    have hn5 : w.heap.size < w5.heap.size := BN5.out.size
    have k50 : w5.cell? ⟨p, 0, none⟩ = some (.slice SB sn sc) := BP5.out.cell 0
    have k51 : w5.cell? ⟨w.heap.size, 1, none⟩ = some (encStr v.key) := BN5.out.cell 1
    have IX := Lib.hid (cWaits0 F p _ (.slice SB sn sc) SR v.key w5 k50 ST5.out hsr)
    go_upto_region 9 with fail
    by_cases ht : ti < 0
    case pos =>
      have d8 : decide (0 ≤ ti) = false := by simpa using ht
      have HT := Lib.hid ht
      clear ht
      go_upto_region 12 with (go_at_call 32; refine (IX.out).mono ?_; rw [TI.out]; rintro e wx ⟨rfl, hbx⟩; have BX := Lib.hid hbx; clear hbx)
      have HDX := Lib.hid (show Dropped F w5 wx p (.slice SB sn sc) SR C.staged v.key (.slice SB sn sc) SR from ⟨by rw [DN.out HT.out]; exact (OwnRow.owning ..).below ST5.out BX.out, by rw [DN.out HT.out]; exact R2.out.stgs, fun r hr => hr, Chg.of_below _ BX.out, rfl⟩)
      have BPX := Lib.hid (BP5.out.below BX.out hp5)
      clear k50 k51
      have BNX := Lib.hid (BN5.out.of_eq (HDX.out.chg.block _ hn5 (fun e => e.elim hnp (fun e => SNE.out e.symm))))
      have MEX := Lib.hid (ME5.out.of_eq (HDX.out.chg.block be ME5.out.lt (fun e => e.elim (fun e => hm.1 e.symm) (fun e => (R2.out.stg_ne e).2.2.1 rfl))))
      have MGX := Lib.hid (MG5.out.of_eq (HDX.out.chg.block bb MG5.out.lt (fun e => e.elim (fun e => hm.2.1 e.symm) (fun e => (R2.out.stg_ne e).2.2.2.1 rfl))))
      have y0 : wx.cell? ⟨p, 1, none⟩ = some (.map (some be)) := BPX.out.cell 1
      have y1 : wx.cell? ⟨w.heap.size, 1, none⟩ = some (encStr v.key) := BNX.out.cell 1
      obtain ⟨wy, hry, hmy, hgy⟩ := (MEX.out.of_eq (w' := wx.drew) rfl).drop (t := 63) (e := 43) Tryz.underlying63 (k := v.key) hkl 0
      have hry' : (Builtin.delete_ #[63, 9] 0 #[.map (some be), encStr v.key]).run Tryz.prog wx.drew = .ok (.tuple #[]) wy := hry
      have BPY := Lib.hid (Blk.grown (w := wx.drew) BPX.out hgy (fun e => hm.1 (Option.some.inj e).symm))
      have BNY := Lib.hid (Blk.grown (w := wx.drew) BNX.out hgy (fun e => blk_apart BNX.out MEX.out (Option.some.inj e).symm))
      have z0 : wy.cell? ⟨p, 1, none⟩ = some (.map (some be)) := BPY.out.cell 1
      have z1 : wy.cell? ⟨w.heap.size, 1, none⟩ = some (encStr v.key) := BNY.out.cell 1
      have MEY := Lib.hid hmy
      have GY := Lib.hid (show wx.grownBy wy (some be) from ⟨hgy.os, hgy.tape, hgy.output, hgy.size, hgy.block⟩)
      have MGY := Lib.hid (MGX.out.of_eq (GY.out.block bb MGX.out.lt (fun e => hbb1 (Option.some.inj e).symm)))
      clear hry hmy hgy
      refine wp_region_held_drew (S := (fun w' => w'.cell? ⟨p, 1, none⟩ = some (.map (some be)) ∧ w'.cell? ⟨w.heap.size, 1, none⟩ = some (encStr v.key))) (by kernel_rfl) ⟨y0, y1⟩ (fun hHeld => ?_)
      refine tk (i := 0) (v := ?vVpdn50) rfl ?hyVpdn50 ?restVpdn50
      case hyVpdn50 => (intro w hSw; (try dsimp only at hSw); go_simp <;> with_reducible rfl)
      try simp only [Act.put, pt1, pt2, pt3]
      refine tk (i := 1) (v := ?vVpdn51) rfl ?hyVpdn51 ?restVpdn51
      case hyVpdn51 => (intro w hSw; (try dsimp only at hSw); go_simp <;> with_reducible rfl)
      try simp only [Act.put, pt1, pt2, pt3]
      refine tk (i := 2) (v := ?vVpdn52) rfl ?hyVpdn52 ?restVpdn52
      case hyVpdn52 => (intro w hSw; (try dsimp only at hSw); go_simp <;> with_reducible rfl)
      try simp only [Act.put, pt1, pt2, pt3]
      refine tk (i := 3) (v := ?vVpdn53) rfl ?hyVpdn53 ?restVpdn53
      case hyVpdn53 => (intro w hSw; (try dsimp only at hSw); go_simp <;> with_reducible rfl)
      try simp only [Act.put, pt1, pt2, pt3]
      refine tk (i := 4) (v := ?vVpdn54) rfl ?hyVpdn54 ?restVpdn54
      case hyVpdn54 => (intro w hSw; (try dsimp only at hSw); go_simp <;> with_reducible rfl)
      try simp only [Act.put, pt1, pt2, pt3]
      refine tk (i := 5) (v := ?vVpdn55) rfl ?hyVpdn55 ?restVpdn55
      case hyVpdn55 => (intro w hSw; (try dsimp only at hSw); go_simp <;> with_reducible rfl)
      try simp only [Act.put, pt1, pt2, pt3]
      refine wpAnyH_ready (rs := [6]) (by kernel_rfl) (by simp) ?_
      refine AllReadyH.cons rfl (fun K hK => ?_) AllReadyH.nil
      go_simp
      clear hHeld
      refine hK.out _ _ ⟨z0, z1⟩ (fun hHeld => ?_)
      clear hK K
      refine wpAnyH_done (by kernel_rfl) ?_ _
      go_upto_region 13 with fail
      clear y0 y1 z0 hry'
      have y0 : wy.cell? ⟨p, 2, none⟩ = some (.map (some bb)) := BPY.out.cell 2
      obtain ⟨wz, hrz, hmz, hgz⟩ := (MGY.out.of_eq (w' := wy.drew) rfl).drop (t := 64) (e := 3) Tryz.underlying64 (k := v.key) hkl 0
      have hrz' : (Builtin.delete_ #[64, 9] 0 #[.map (some bb), encStr v.key]).run Tryz.prog wy.drew = .ok (.tuple #[]) wz := hrz
      have BPZ := Lib.hid (Blk.grown (w := wy.drew) BPY.out hgz (fun e => hm.2.1 (Option.some.inj e).symm))
      have BNZ := Lib.hid (Blk.grown (w := wy.drew) BNY.out hgz (fun e => blk_apart BNX.out MGX.out (Option.some.inj e).symm))
      have x0 : wz.cell? ⟨p, 2, none⟩ = some (.map (some bb)) := BPZ.out.cell 2
      have x1 : wz.cell? ⟨w.heap.size, 1, none⟩ = some (encStr v.key) := BNZ.out.cell 1
      have MGZ := Lib.hid hmz
      have GZ := Lib.hid (show wy.grownBy wz (some bb) from ⟨hgz.os, hgz.tape, hgz.output, hgz.size, hgz.block⟩)
      have MEZ := Lib.hid (MEY.out.of_eq (GZ.out.block be MEY.out.lt (fun e => hbb1 (Option.some.inj e))))
      clear hrz hmz hgz
      refine wp_region_held_drew (S := (fun w' => w'.cell? ⟨p, 2, none⟩ = some (.map (some bb)) ∧ w'.cell? ⟨w.heap.size, 1, none⟩ = some (encStr v.key))) (by kernel_rfl) ⟨y0, z1⟩ (fun hHeld => ?_)
      refine tk (i := 0) (v := ?vVpen60) rfl ?hyVpen60 ?restVpen60
      case hyVpen60 => (intro w hSw; (try dsimp only at hSw); go_simp <;> with_reducible rfl)
      try simp only [Act.put, pt1, pt2, pt3]
      refine tk (i := 1) (v := ?vVpen61) rfl ?hyVpen61 ?restVpen61
      case hyVpen61 => (intro w hSw; (try dsimp only at hSw); go_simp <;> with_reducible rfl)
      try simp only [Act.put, pt1, pt2, pt3]
      refine tk (i := 2) (v := ?vVpen62) rfl ?hyVpen62 ?restVpen62
      case hyVpen62 => (intro w hSw; (try dsimp only at hSw); go_simp <;> with_reducible rfl)
      try simp only [Act.put, pt1, pt2, pt3]
      refine tk (i := 3) (v := ?vVpen63) rfl ?hyVpen63 ?restVpen63
      case hyVpen63 => (intro w hSw; (try dsimp only at hSw); go_simp <;> with_reducible rfl)
      try simp only [Act.put, pt1, pt2, pt3]
      refine tk (i := 4) (v := ?vVpen64) rfl ?hyVpen64 ?restVpen64
      case hyVpen64 => (intro w hSw; (try dsimp only at hSw); go_simp <;> with_reducible rfl)
      try simp only [Act.put, pt1, pt2, pt3]
      refine tk (i := 5) (v := ?vVpen65) rfl ?hyVpen65 ?restVpen65
      case hyVpen65 => (intro w hSw; (try dsimp only at hSw); go_simp <;> with_reducible rfl)
      try simp only [Act.put, pt1, pt2, pt3]
      refine wpAnyH_ready (rs := [6]) (by kernel_rfl) (by simp) ?_
      refine AllReadyH.cons rfl (fun K hK => ?_) AllReadyH.nil
      go_simp
      clear hHeld
      refine hK.out _ _ ⟨x0, x1⟩ (fun hHeld => ?_)
      clear hK K
      refine wpAnyH_done (by kernel_rfl) ?_ _
      go_upto_region 14 with fail
      have x2 : wz.cell? ⟨w.heap.size, 2, none⟩ = some (.int .i64 v.gen) := BNZ.out.cell 2
      have x5 : wz.cell? ⟨p, 5, none⟩ = some (.int .i64 C.gen) := BPZ.out.cell 5
      have xf : wz.frozen? ⟨p, 5, none⟩ = false := BPZ.out.free 5
      go_wp2_with fail
      go_ret
      rw [HE.out]
      exact gone_last R2.out BB2.out HC5.out HDX.out GY.out GZ.out BPZ.out TB5.out TBF.out MEZ.out MGZ.out WF.out
    have d8 : decide (0 ≤ ti) = true := by simp; omega
    obtain ⟨i, rfl⟩ := Int.eq_ofNat_of_zero_le (show 0 ≤ ti by omega)
    obtain ⟨hcut, hil⟩ := DC.out i rfl
    obtain ⟨m, hmm⟩ : ∃ m, C.staged.length = i + 1 + m := ⟨C.staged.length - (i + 1), by omega⟩
    obtain ⟨g, cap, hsl, hF⟩ : ∃ g cap, (.slice SB sn sc : Value) = .slice (some ⟨g, 0, none⟩) (i + 1 + m) cap ∧ F g := by
      rcases ST5.out.form with ⟨_, h⟩ | ⟨g, cap, h, _, _, hF, _⟩
      · omega
      · exact ⟨g, cap, by rw [h, hmm], hF⟩
    obtain ⟨rfl, rfl, rfl⟩ : SB = some ⟨g, 0, none⟩ ∧ sn = i + 1 + m ∧ sc = cap := by injection hsl with a b c; exact ⟨a, b, c⟩
    have TM := Lib.hid (show OwnRow F w5 70 2 (.slice (some ⟨g, 0, none⟩) (i + 1 + m) sc) (i + 1 + m) (blobVals SR) by have h := ST5.out; rw [hmm] at h; exact h)
    have HCUT := Lib.hid hcut
    have hgp : g ≠ p := (R2.out.stg_ne rfl).1
    have hlen : (SR.eraseIdx i).length = i + m := by rw [List.length_eraseIdx_of_lt hil, hsr, hmm]; omega
    have hlen2 : (delL C.staged v.key).length = i + m := by rw [← hcut, List.length_map, hlen]
    have BCUT := Lib.hid (blobVals_cut SR i hil)
    have HL2 := Lib.hid hlen2
    have hi63 : (i : Int) + 1 ≤ 9223372036854775807 := by omega
    clear hsl hcut hlen hlen2 hmm hil
    go_upto_region 12 with (first
      | (go_at_call 32; refine IX.out.mono ?_; rw [TI.out]; rintro e w6 ⟨rfl, hb6⟩; have B6 := Lib.hid hb6; have k6 : w6.cell? ⟨p, 0, none⟩ = some (.slice (some ⟨g, 0, none⟩) (i + 1 + m) sc) := (hb6.cell (p := ⟨p, 0, none⟩) hp5).trans k50; clear hb6)
      | (go_at_call 71; refine (dBlob F g sc i m (blobVals SR) _ (by exact (OwnRow.owning ..).below TM.out B6.out) (blobVals_one _)).mono ?_; rintro e w7 ⟨rfl, ho7, hc7⟩; have HO7 := Lib.hid ho7; have HC7 := Lib.hid (show Chg (fun k => k = g) w6 w7 from ⟨hc7.os, hc7.tape, hc7.output, hc7.size, hc7.block⟩); have BP7 := Lib.hid ((BP5.out.below B6.out hp5).of_eq (hc7.block p (Nat.lt_of_lt_of_le hp5 B6.out.size) (fun e => hgp e.symm))); have f7 : w7.frozen? ⟨p, 0, none⟩ = false := BP7.out.free 0; have kp7 : w7.cell? ⟨p, 0, none⟩ = some (.slice (some ⟨g, 0, none⟩) (i + 1 + m) sc) := BP7.out.cell 0; clear ho7 hc7))
    obtain ⟨wx, hwx⟩ : ∃ wx, wx = w7.setCell ⟨p, 0, none⟩ (.slice (some ⟨g, 0, none⟩) (i + m) sc) := ⟨_, rfl⟩
    rw [← hwx]
    have hc7x : Chg (fun k => k = p) w7 wx := by rw [hwx]; exact (Chg.refl (fun k => k = p) w7).store (p := ⟨p, 0, none⟩) (.inl rfl) _
    have hcx : Chg (fun k => k = p ∨ (Value.slice (some ⟨g, 0, none⟩) (i + 1 + m) sc).ownBlock = some k) w5 wx := ((Chg.of_below _ B6.out).trans (HC7.out.mono (fun k e => .inr (by rw [e]; rfl)))).trans (hc7x.mono (fun k e => .inl e))
    have HDX := Lib.hid (show Dropped F w5 wx p (.slice (some ⟨g, 0, none⟩) (i + 1 + m) sc) SR C.staged v.key (.slice (some ⟨g, 0, none⟩) (i + m) sc) (SR.eraseIdx i) from ⟨by
      rw [HL2.out, ← BCUT.out]
      exact HO7.out.chg hc7x (fun q hq e => hgp ((Option.some.inj hq).trans e)), HCUT.out, fun r hr => (List.eraseIdx_sublist ..).subset hr, hcx, rfl⟩)
    have BPX := Lib.hid (show Blk wx p 68 #[.slice (some ⟨g, 0, none⟩) (i + m) sc, .map (some be), .map (some bb), tv, .map (some br), .int .i64 C.gen] by rw [hwx]; exact BP7.out.store 0 _)
    clear k50 k51 k6 f7 kp7 hwx
    have BNX := Lib.hid (BN5.out.of_eq (HDX.out.chg.block _ hn5 (fun e => e.elim hnp (fun e => SNE.out e.symm))))
    have MEX := Lib.hid (ME5.out.of_eq (HDX.out.chg.block be ME5.out.lt (fun e => e.elim (fun e => hm.1 e.symm) (fun e => (R2.out.stg_ne e).2.2.1 rfl))))
    have MGX := Lib.hid (MG5.out.of_eq (HDX.out.chg.block bb MG5.out.lt (fun e => e.elim (fun e => hm.2.1 e.symm) (fun e => (R2.out.stg_ne e).2.2.2.1 rfl))))
    have y0 : wx.cell? ⟨p, 1, none⟩ = some (.map (some be)) := BPX.out.cell 1
    have y1 : wx.cell? ⟨w.heap.size, 1, none⟩ = some (encStr v.key) := BNX.out.cell 1
    obtain ⟨wy, hry, hmy, hgy⟩ := (MEX.out.of_eq (w' := wx.drew) rfl).drop (t := 63) (e := 43) Tryz.underlying63 (k := v.key) hkl 0
    have hry' : (Builtin.delete_ #[63, 9] 0 #[.map (some be), encStr v.key]).run Tryz.prog wx.drew = .ok (.tuple #[]) wy := hry
    have BPY := Lib.hid (Blk.grown (w := wx.drew) BPX.out hgy (fun e => hm.1 (Option.some.inj e).symm))
    have BNY := Lib.hid (Blk.grown (w := wx.drew) BNX.out hgy (fun e => blk_apart BNX.out MEX.out (Option.some.inj e).symm))
    have z0 : wy.cell? ⟨p, 1, none⟩ = some (.map (some be)) := BPY.out.cell 1
    have z1 : wy.cell? ⟨w.heap.size, 1, none⟩ = some (encStr v.key) := BNY.out.cell 1
    have MEY := Lib.hid hmy
    have GY := Lib.hid (show wx.grownBy wy (some be) from ⟨hgy.os, hgy.tape, hgy.output, hgy.size, hgy.block⟩)
    have MGY := Lib.hid (MGX.out.of_eq (GY.out.block bb MGX.out.lt (fun e => hbb1 (Option.some.inj e).symm)))
    clear hry hmy hgy
    refine wp_region_held_drew (S := (fun w' => w'.cell? ⟨p, 1, none⟩ = some (.map (some be)) ∧ w'.cell? ⟨w.heap.size, 1, none⟩ = some (encStr v.key))) (by kernel_rfl) ⟨y0, y1⟩ (fun hHeld => ?_)
    refine tk (i := 0) (v := ?vVqdn70) rfl ?hyVqdn70 ?restVqdn70
    case hyVqdn70 => (intro w hSw; (try dsimp only at hSw); go_simp <;> with_reducible rfl)
    try simp only [Act.put, pt1, pt2, pt3]
    refine tk (i := 1) (v := ?vVqdn71) rfl ?hyVqdn71 ?restVqdn71
    case hyVqdn71 => (intro w hSw; (try dsimp only at hSw); go_simp <;> with_reducible rfl)
    try simp only [Act.put, pt1, pt2, pt3]
    refine tk (i := 2) (v := ?vVqdn72) rfl ?hyVqdn72 ?restVqdn72
    case hyVqdn72 => (intro w hSw; (try dsimp only at hSw); go_simp <;> with_reducible rfl)
    try simp only [Act.put, pt1, pt2, pt3]
    refine tk (i := 3) (v := ?vVqdn73) rfl ?hyVqdn73 ?restVqdn73
    case hyVqdn73 => (intro w hSw; (try dsimp only at hSw); go_simp <;> with_reducible rfl)
    try simp only [Act.put, pt1, pt2, pt3]
    refine tk (i := 4) (v := ?vVqdn74) rfl ?hyVqdn74 ?restVqdn74
    case hyVqdn74 => (intro w hSw; (try dsimp only at hSw); go_simp <;> with_reducible rfl)
    try simp only [Act.put, pt1, pt2, pt3]
    refine tk (i := 5) (v := ?vVqdn75) rfl ?hyVqdn75 ?restVqdn75
    case hyVqdn75 => (intro w hSw; (try dsimp only at hSw); go_simp <;> with_reducible rfl)
    try simp only [Act.put, pt1, pt2, pt3]
    refine wpAnyH_ready (rs := [6]) (by kernel_rfl) (by simp) ?_
    refine AllReadyH.cons rfl (fun K hK => ?_) AllReadyH.nil
    go_simp
    clear hHeld
    refine hK.out _ _ ⟨z0, z1⟩ (fun hHeld => ?_)
    clear hK K
    refine wpAnyH_done (by kernel_rfl) ?_ _
    go_upto_region 13 with fail
    clear y0 y1 z0 hry'
    have y0 : wy.cell? ⟨p, 2, none⟩ = some (.map (some bb)) := BPY.out.cell 2
    obtain ⟨wz, hrz, hmz, hgz⟩ := (MGY.out.of_eq (w' := wy.drew) rfl).drop (t := 64) (e := 3) Tryz.underlying64 (k := v.key) hkl 0
    have hrz' : (Builtin.delete_ #[64, 9] 0 #[.map (some bb), encStr v.key]).run Tryz.prog wy.drew = .ok (.tuple #[]) wz := hrz
    have BPZ := Lib.hid (Blk.grown (w := wy.drew) BPY.out hgz (fun e => hm.2.1 (Option.some.inj e).symm))
    have BNZ := Lib.hid (Blk.grown (w := wy.drew) BNY.out hgz (fun e => blk_apart BNX.out MGX.out (Option.some.inj e).symm))
    have x0 : wz.cell? ⟨p, 2, none⟩ = some (.map (some bb)) := BPZ.out.cell 2
    have x1 : wz.cell? ⟨w.heap.size, 1, none⟩ = some (encStr v.key) := BNZ.out.cell 1
    have MGZ := Lib.hid hmz
    have GZ := Lib.hid (show wy.grownBy wz (some bb) from ⟨hgz.os, hgz.tape, hgz.output, hgz.size, hgz.block⟩)
    have MEZ := Lib.hid (MEY.out.of_eq (GZ.out.block be MEY.out.lt (fun e => hbb1 (Option.some.inj e))))
    clear hrz hmz hgz
    refine wp_region_held_drew (S := (fun w' => w'.cell? ⟨p, 2, none⟩ = some (.map (some bb)) ∧ w'.cell? ⟨w.heap.size, 1, none⟩ = some (encStr v.key))) (by kernel_rfl) ⟨y0, z1⟩ (fun hHeld => ?_)
    refine tk (i := 0) (v := ?vVqen80) rfl ?hyVqen80 ?restVqen80
    case hyVqen80 => (intro w hSw; (try dsimp only at hSw); go_simp <;> with_reducible rfl)
    try simp only [Act.put, pt1, pt2, pt3]
    refine tk (i := 1) (v := ?vVqen81) rfl ?hyVqen81 ?restVqen81
    case hyVqen81 => (intro w hSw; (try dsimp only at hSw); go_simp <;> with_reducible rfl)
    try simp only [Act.put, pt1, pt2, pt3]
    refine tk (i := 2) (v := ?vVqen82) rfl ?hyVqen82 ?restVqen82
    case hyVqen82 => (intro w hSw; (try dsimp only at hSw); go_simp <;> with_reducible rfl)
    try simp only [Act.put, pt1, pt2, pt3]
    refine tk (i := 3) (v := ?vVqen83) rfl ?hyVqen83 ?restVqen83
    case hyVqen83 => (intro w hSw; (try dsimp only at hSw); go_simp <;> with_reducible rfl)
    try simp only [Act.put, pt1, pt2, pt3]
    refine tk (i := 4) (v := ?vVqen84) rfl ?hyVqen84 ?restVqen84
    case hyVqen84 => (intro w hSw; (try dsimp only at hSw); go_simp <;> with_reducible rfl)
    try simp only [Act.put, pt1, pt2, pt3]
    refine tk (i := 5) (v := ?vVqen85) rfl ?hyVqen85 ?restVqen85
    case hyVqen85 => (intro w hSw; (try dsimp only at hSw); go_simp <;> with_reducible rfl)
    try simp only [Act.put, pt1, pt2, pt3]
    refine wpAnyH_ready (rs := [6]) (by kernel_rfl) (by simp) ?_
    refine AllReadyH.cons rfl (fun K hK => ?_) AllReadyH.nil
    go_simp
    clear hHeld
    refine hK.out _ _ ⟨x0, x1⟩ (fun hHeld => ?_)
    clear hK K
    refine wpAnyH_done (by kernel_rfl) ?_ _
    go_upto_region 14 with fail
    have x2 : wz.cell? ⟨w.heap.size, 2, none⟩ = some (.int .i64 v.gen) := BNZ.out.cell 2
    have x5 : wz.cell? ⟨p, 5, none⟩ = some (.int .i64 C.gen) := BPZ.out.cell 5
    have xf : wz.frozen? ⟨p, 5, none⟩ = false := BPZ.out.free 5
    go_wp2_with fail
    go_ret
    rw [HE.out]
    exact gone_last R2.out BB2.out HC5.out HDX.out GY.out GZ.out BPZ.out TB5.out TBF.out MEZ.out MGZ.out WF.out
end
end Go.Proofs.YtmkccblcmiflfaaGreat
