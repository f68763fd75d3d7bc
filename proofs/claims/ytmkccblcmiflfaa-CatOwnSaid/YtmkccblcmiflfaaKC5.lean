/- A note that a generation has begun. No condition beyond those that each theorem states. -/
import Derived.Test.YtmkccblcmiflfaaKC4
namespace Go.Proofs.Ytmkccblcmiflfaa
open Go.RowKit Go.Maps Go.WideMaps

section
variable {F : Nat → Prop} {w w' w0 : World} {p N M : Nat} {C C' : CV} {sv tv sv' tv' : Value} {SR SR' : List BlobR} {ER ER' : List EntR} {be bb br : Nat}
theorem CatR.build (h : CatR F w p N C sv tv SR ER be bb br) (hc : Chg (CatTurns p sv tv be bb br) w w')
    (hp : Blk w' p 59 #[sv', .map (some be), .map (some bb), tv', .map (some br), .int .i64 C'.gen])
    (ho : OwnRow (Wide F w0) w' 61 2 sv' C'.staged.length (blobVals SR')) (hst : SR'.map (fun r => (r.key, r.data)) = C'.staged) (hbl : ∀ r ∈ SR', r ∈ SR ∨ BlobOk (Wide F w0) w' r)
    (he : MapAt skey zeroEnt w' be M (entVals ER')) (her : ER'.map (fun r => (r.key, r.e)) = C'.entries) (heb : ∀ r ∈ ER', r ∈ ER ∨ EntOk (Wide F w0) w' r)
    (hb : MapAt skey (.int .i64 0) w' bb M (begunVals C'.begun)) (ht : OwnRow (Wide F w0) w' 26 8 tv' C'.tombs.length (tombVals C'.tombs))
    (hr : MapAt ikey (.agg #[]) w' br M (retVals C'.retired)) (hwf : CWf M C') : CatR (Wide F w0) w' p M C' sv' tv' SR' ER' be bb br := by
  have hr' := h.rows hc (fun _ hk => hk)
  exact ⟨hp, .inl h.fp, ho, hst, fun r hx => (hbl r hx).elim (fun h1 => (hr'.1 r h1).wide) id, he, .inl h.fe, her, fun r hx => (heb r hx).elim (fun h1 => (hr'.2 r h1).wide) id, hb, .inl h.fb, ht, hr, .inl h.fr, h.neq, hwf⟩
theorem CatR.turns_in (h : CatR F w p N C sv tv SR ER be bb br) {k : Nat} (hk : CatTurns p sv tv be bb br k) : F k := by
  rcases hk with e | e | e | e | e | e
  · rw [e]; exact h.fp
  · exact h.stg.2 k e
  · exact h.tmb.2 k e
  · rw [e]; exact h.fe
  · rw [e]; exact h.fb
  · rw [e]; exact h.fr
theorem CatR.post (h : CatR F w p N C sv tv SR ER be bb br) (hb : Below w0.heap.size w0 w) (hc : Chg (CatTurns p sv tv be bb br) w w') (h' : CatR (Wide F w0) w' p M C' sv' tv' SR' ER' be bb br) (i : Int) :
    CatPost F p M (i, C') w0 (.returned (.int .i64 i)) w' :=
  ⟨rfl, Took.of (CatAt.owning p M C') ⟨_, _, _, _, _, _, _, h'⟩ ((Chg.of_below F hb).trans' hc fun _ _ hk => h.turns_in hk)⟩
theorem CatR.stg_same (h : CatR F w p N C sv tv SR ER be bb br) {S : Nat → Prop} (hc : Chg S w w') (hS : ∀ g, sv.ownBlock = some g → ¬ S g) : OwnRow (Wide F w0) w' 61 2 sv C.staged.length (blobVals SR) := (h.stg.chg hc hS).wide
theorem CatR.tmb_same (h : CatR F w p N C sv tv SR ER be bb br) {S : Nat → Prop} (hc : Chg S w w') (hS : ∀ g, tv.ownBlock = some g → ¬ S g) : OwnRow (Wide F w0) w' 26 8 tv C.tombs.length (tombVals C.tombs) := (h.tmb.chg hc hS).wide
end
theorem i64_wf {n : Int} (h1 : -9223372036854775808 ≤ n) (h2 : n ≤ 9223372036854775807) : (Lit.int .i64 n).wf = true := by
  simp [Lit.wf, IntKind.min, IntKind.max, IntKind.bits, IntKind.signed]
  omega
theorem putL_map {β : Type} (f : β → Value) (L : List (Str × β)) (k : Str) (v : β) : putL (L.map fun q => (q.1, f q.2)) k (f v) = (putL L k v).map fun q => (q.1, f q.2) := by
  unfold putL delL
  rw [List.map_append, List.filter_map]
  rfl
def beginC (C : CV) (v : NoteV) : Int × CV :=
  if laterB C v.gen = false then (12, C)
  else if v.key ≠ [] ∧ hasC C v.key = false then (5, C)
  else (0, { C with gen := v.gen, begun := if v.key = [] then C.begun else putL C.begun v.key v.gen })
theorem hasC_len {N : Nat} {C : CV} {k : Str} (h : CWf N C) (hh : hasC C k = true) : 1 ≤ k.length ∧ k.length ≤ 16 := by
  unfold hasC at hh
  rw [Bool.or_eq_true, hasL_mem, hasL_mem, List.mem_map, List.mem_map] at hh
  rcases hh with ⟨q, hq, rfl⟩ | ⟨q, hq, rfl⟩
  · have := h.ents q hq; exact ⟨this.1, this.2.1⟩
  · have := h.keys q hq; exact ⟨this.1, this.2.1⟩
theorem gen_wf {N : Nat} {C : CV} {g : Int} (h : CWf N C) (hg : laterB C g = true) : CWf N { C with gen := g } ∧ C.gen < g ∧ g ≤ 1099511627776 := by
  unfold laterB at hg
  have hg := of_decide_eq_true hg
  have h0 := h.gen
  exact ⟨{ h with
    ents := fun q hq => by have := h.ents q hq; exact ⟨this.1, this.2.1, this.2.2.1, by show q.2.gen ≤ g; omega, this.2.2.2.2⟩
    marks := fun q hq => by have := h.marks q hq; exact ⟨this.1, this.2.1, this.2.2.1, by show q.2 ≤ g; omega⟩
    begun := fun q hq => by have := h.begun q hq; exact ⟨this.1, this.2.1, this.2.2.1, by show q.2 ≤ g; omega⟩
    gen := ⟨by show 0 ≤ g; omega, by show g ≤ _; omega⟩ }, hg.1, hg.2⟩
theorem begin_wf {N : Nat} {C : CV} {g : Int} {k : Str} (h : CWf N C) (hg : laterB C g = true) (hk : 1 ≤ k.length ∧ k.length ≤ 16) : CWf N { C with gen := g, begun := putL C.begun k g } := by
  obtain ⟨h1, h2, h3⟩ := gen_wf h hg
  have h0 := h.gen
  refine { h1 with
    begun := fun q hq => ?_
    gens := ?_ }
  · rcases List.mem_append.1 hq with hq | hq
    · exact h1.begun q (List.mem_filter.1 hq).1
    · have e : q = (k, g) := by simpa using hq
      subst e
      exact ⟨hk.1, hk.2, by show 1 ≤ g; omega, Int.le_refl _⟩
  · show (putL C.begun k g).Pairwise _
    unfold putL
    rw [List.pairwise_append]
    refine ⟨h.gens.sublist List.filter_sublist, by simp, fun a ha b hb => ?_⟩
    have e : b = (k, g) := by simpa using hb
    subst e
    have := (h.begun a (List.mem_filter.1 ha).1).2.2.2
    show a.2 < g
    omega
section
set_option maxHeartbeats 4000000
set_option maxRecDepth 8000
theorem cBegin (F : Nat → Prop) (p N : Nat) (C : CV) (v : NoteV) (D : Option Addr) (dn dc : Nat) (Q : Option Addr) (qn qc : Nat) (w : World) (h : CatAt F w p N C) (hN : N ≤ 100000) (hin : NoteIn w v D dn dc Q qn qc) :
    Calls Try.prog 30 #[.pointer (some ⟨p, 0, none⟩), noteAgg v D dn dc Q qn qc] w (CatPost F p (N + 1) (beginC C v) w) := by
  have H := Lib.hid h
  have HI := Lib.hid hin
  have hkl : v.key.length ≤ maxLen := hin.key
  obtain ⟨w1, hw1⟩ : ∃ w1, w1 = w.alloc (.cells (noteCells v D dn dc Q qn qc) 26) := ⟨_, rfl⟩
  have hb1 : Below w.heap.size w w1 := by rw [hw1]; exact (Below.refl _ _).alloc (Nat.le_refl _) _
  have hB1 : Blk w1 w.heap.size 26 (noteCells v D dn dc Q qn qc) := by rw [hw1]; exact Blk.made w _ _
  have W1 := Lib.hid hw1
  have HB1 := Lib.hid hb1
  have BN1 := Lib.hid hB1
  have k1 : w1.cell? ⟨w.heap.size, 1, none⟩ = some (encStr v.key) := hB1.cell 1
  have k2 : w1.cell? ⟨w.heap.size, 2, none⟩ = some (.int .i64 v.gen) := hB1.cell 2
  have H1 := Lib.hid (h.below hb1)
  clear hin h hb1 hB1 hw1
  unfold noteAgg
  go_enter Try.func30, Try.ntmps30
  go_upto_region 1 with fail
  rw [show w.alloc (.cells #[.int .i64 v.kind, .string ⟨v.key.toArray⟩, .int .i64 v.gen, .int .i64 v.cart, .slice D dn dc, .string ⟨v.sum.toArray⟩, .int .i64 v.size, .slice Q qn qc] 26) = w1 from W1.out.symm]
  cases hl : laterB C v.gen with
  | false =>
    have HE := Lib.hid (show beginC C v = (12, C) from if_pos hl)
    have HL := Lib.hid hl
    clear hl
    go_wp2_with (go_at_call 52; refine (cLater F p N C v.gen _ H1.out).mono ?_; rw [HL.out]; rintro e w2 ⟨rfl, rfl⟩)
    go_ret
    rw [HE.out]
    exact CatPost.same H.out (Nat.le_succ _) HB1.out
  | true =>
    have HL := Lib.hid hl
    have hl' : ¬ laterB C v.gen = false := by rw [hl]; simp
    by_cases hk0 : v.key = []
    · have HE := Lib.hid (show beginC C v = (0, { C with gen := v.gen }) by unfold beginC; rw [if_neg hl', if_neg (by rw [hk0]; simp), if_pos hk0])
      have d1 : (v.key == ([] : List UInt8)) = true := by rw [hk0]; rfl
      have d2 : (v.key != ([] : List UInt8)) = false := by rw [hk0]; rfl
      clear hl hl'
      have hk1 : w1.cell? ⟨w.heap.size, 1, none⟩ = some (encStr []) := by rw [← hk0]; exact k1
      clear k1
      obtain ⟨sv, tv, SR, ER, be, bb, br, h2⟩ := H1.out
      have R2 := Lib.hid h2
      have f5 : w1.frozen? ⟨p, 5, none⟩ = false := h2.blk.free 5
      have c5 : w1.cell? ⟨p, 5, none⟩ = some (.int .i64 C.gen) := h2.blk.cell 5
      have hnp : w.heap.size ≠ p := blk_ne BN1.out h2.blk (by decide)
      have K0 := Lib.hid hk0
      clear h2 hk0
      go_wp2_with (go_at_call 52; refine (cLater F p N C v.gen _ H1.out).mono ?_; rw [HL.out]; rintro e w2 ⟨rfl, rfl⟩)
      go_ret
      rw [HE.out]
      have hc : Chg (fun k => k = p) w1 (w1.setCell ⟨p, 5, none⟩ (.int .i64 v.gen)) := (Chg.refl (fun k => k = p) w1).store (p := ⟨p, 5, none⟩) (.inl rfl) _
      have hcT : Chg (CatTurns p sv tv be bb br) w1 (w1.setCell ⟨p, 5, none⟩ (.int .i64 v.gen)) := hc.mono (fun i e => .inl e)
      have hm := R2.out.map_ne
      exact R2.out.post HB1.out hcT (R2.out.build (C' := { C with gen := v.gen }) hcT (R2.out.blk.store 5 _) (R2.out.stg_same hc (fun g hg => (R2.out.stg_ne hg).1)) R2.out.stgs (fun r hr => .inl hr) ((R2.out.ents.of_eq (hc.block be R2.out.ents.lt (fun e => hm.1 e.symm))).mono (Nat.le_succ _)) R2.out.entr (fun r hr => .inl hr) ((R2.out.begs.of_eq (hc.block bb R2.out.begs.lt (fun e => hm.2.1 e.symm))).mono (Nat.le_succ _)) (R2.out.tmb_same hc (fun g hg => (R2.out.tmb_ne hg).1)) ((R2.out.rets.of_eq (hc.block br R2.out.rets.lt (fun e => hm.2.2 e.symm))).mono (Nat.le_succ _)) (by
        have hw := (gen_wf R2.out.wf HL.out).1
        exact { hw with staged := Nat.le_succ_of_le hw.staged, tombs := Nat.le_succ_of_le hw.tombs })) 0
    · have d1 : (v.key == ([] : List UInt8)) = false := by simpa using hk0
      have d2 : (v.key != ([] : List UInt8)) = true := by simpa using hk0
      cases hh : hasC C v.key with
      | false =>
        have HE := Lib.hid (show beginC C v = (5, C) by unfold beginC; rw [if_neg hl', if_pos ⟨hk0, hh⟩])
        have HH := Lib.hid hh
        have K0 := Lib.hid hk0
        clear hl hl' hh hk0
        go_wp2_with (first
          | (go_at_call 52; refine (cLater F p N C v.gen _ H1.out).mono ?_; rw [HL.out]; rintro e w2 ⟨rfl, rfl⟩)
          | (go_at_call 19; refine (cHas F p N C v.key _ H1.out hkl).mono ?_; rw [HH.out]; rintro e w2 ⟨rfl, hb2⟩; have B2 := Lib.hid (HB1.out.trans (hb2.mono HB1.out.size)); clear hb2))
        go_ret
        rw [HE.out]
        exact CatPost.same H.out (Nat.le_succ _) B2.out
      | true =>
        have HE := Lib.hid (show beginC C v = (0, { C with gen := v.gen, begun := putL C.begun v.key v.gen }) by unfold beginC; rw [if_neg hl', if_neg (by rw [hh]; simp), if_neg hk0])
        have HH := Lib.hid hh
        have K0 := Lib.hid hk0
        clear hl hl' hh hk0
        go_upto_region 5 with (first
          | (go_at_call 52; refine (cLater F p N C v.gen _ H1.out).mono ?_; rw [HL.out]; rintro e w2 ⟨rfl, rfl⟩)
          | (go_at_call 19; refine (cHas F p N C v.key _ H1.out hkl).mono ?_; rw [HH.out]; rintro e w2 ⟨rfl, hb2⟩; have B2 := Lib.hid hb2; clear hb2))
        obtain ⟨sv, tv, SR, ER, be, bb, br, h2⟩ := H1.out.below B2.out
        have R2 := Lib.hid h2
        have f5 : w2.frozen? ⟨p, 5, none⟩ = false := h2.blk.free 5
        have c5 : w2.cell? ⟨p, 5, none⟩ = some (.int .i64 C.gen) := h2.blk.cell 5
        have hbn : w.heap.size < w1.heap.size := BN1.out.size
        have BN2 := Lib.hid (BN1.out.below B2.out hbn)
        have hnp : w.heap.size ≠ p := blk_ne BN2.out h2.blk (by decide)
        have k1' : w2.cell? ⟨w.heap.size, 1, none⟩ = some (encStr v.key) := BN2.out.cell 1
        have k2' : w2.cell? ⟨w.heap.size, 2, none⟩ = some (.int .i64 v.gen) := BN2.out.cell 2
        have hm := h2.map_ne
        clear h2 k1 k2
        obtain ⟨w3, hw3⟩ : ∃ w3, w3 = w2.setCell ⟨p, 5, none⟩ (.int .i64 v.gen) := ⟨_, rfl⟩
        have hc3 : Chg (fun k => k = p) w2 w3 := by rw [hw3]; exact (Chg.refl (fun k => k = p) w2).store (p := ⟨p, 5, none⟩) (.inl rfl) _
        have BP3 := Lib.hid (show Blk w3 p 59 #[sv, .map (some be), .map (some bb), tv, .map (some br), .int .i64 v.gen] by rw [hw3]; exact R2.out.blk.store 5 _)
        have BN3 := Lib.hid (show Blk w3 w.heap.size 26 (noteCells v D dn dc Q qn qc) by rw [hw3]; exact BN2.out.apart hnp _)
        have HC3 := Lib.hid hc3
        have MB3 := Lib.hid (R2.out.begs.of_eq (hc3.block bb R2.out.begs.lt (fun e => hm.2.1 e.symm)))
        have W3 := Lib.hid hw3
        clear hc3 hw3
        go_upto_region 7 with fail
        rw [← W3.out]
        obtain ⟨w4, hrun, hm4, hg4⟩ := (MB3.out.of_eq (w' := w3.drew) rfl).store (t := 56) (e := 3) Try.underlying56 (by simp only [maxLen]; omega) (k := v.key) hkl (.int .i64 v.gen)
        have hrun' : (Instr.mapUpdate 56 (.map (some bb)) (encStr v.key) (.int .i64 v.gen)).run Try.prog w3.drew = .ok () w4 := hrun
        have q2 : w3.cell? ⟨p, 2, none⟩ = some (.map (some bb)) := BP3.out.cell 2
        have q1 : w3.cell? ⟨w.heap.size, 1, none⟩ = some (encStr v.key) := BN3.out.cell 1
        have q3 : w3.cell? ⟨w.heap.size, 2, none⟩ = some (.int .i64 v.gen) := BN3.out.cell 2
        have BP4 := Lib.hid (show Blk w4 p 59 #[sv, .map (some be), .map (some bb), tv, .map (some br), .int .i64 v.gen] from Blk.grown (w := w3.drew) BP3.out hg4 (fun e => hm.2.1 (Option.some.inj e).symm))
        have BN4 := Lib.hid (show Blk w4 w.heap.size 26 (noteCells v D dn dc Q qn qc) from Blk.grown (w := w3.drew) BN3.out hg4 (fun e => blk_apart BN3.out MB3.out (Option.some.inj e).symm))
        have r2 : w4.cell? ⟨p, 2, none⟩ = some (.map (some bb)) := BP4.out.cell 2
        have r1 : w4.cell? ⟨w.heap.size, 1, none⟩ = some (encStr v.key) := BN4.out.cell 1
        have r3 : w4.cell? ⟨w.heap.size, 2, none⟩ = some (.int .i64 v.gen) := BN4.out.cell 2
        have M4 := Lib.hid hm4
        have G4 := Lib.hid hg4
        clear hrun hm4 hg4 k1' k2'
        go_region_held3 (fun w' => w'.cell? ⟨p, 2, none⟩ = some (.map (some bb)) ∧ w'.cell? ⟨w.heap.size, 1, none⟩ = some (encStr v.key) ∧ w'.cell? ⟨w.heap.size, 2, none⟩ = some (.int .i64 v.gen)) (first | exact ⟨q2, q1, q3⟩ | exact ⟨r2, r1, r3⟩) (first | fail)
        go_wp2_with fail
        go_ret
        rw [HE.out]
        have hc4 : Chg (fun k => k = p ∨ k = bb) w2 w4 := (HC3.out.mono (T := fun k => k = p ∨ k = bb) (fun i e => .inl e)).grown (show w3.grownBy w4 (some bb) from ⟨G4.out.os, G4.out.tape, G4.out.output, G4.out.size, G4.out.block⟩) (fun g e => .inl (.inr (Option.some.inj e).symm))
        have hcT : Chg (CatTurns p sv tv be bb br) w2 w4 := hc4.mono (fun i e => e.elim .inl (fun e => .inr (.inr (.inr (.inr (.inl e))))))
        have hn := R2.out.neq
        refine R2.out.post (HB1.out.trans (B2.out.mono HB1.out.size)) hcT (R2.out.build (C' := { C with gen := v.gen, begun := putL C.begun v.key v.gen }) hcT BP4.out (R2.out.stg_same hc4 (fun g hg e => e.elim (R2.out.stg_ne hg).1 (R2.out.stg_ne hg).2.2.2.1)) R2.out.stgs (fun r hr => .inl hr) ((R2.out.ents.of_eq (hc4.block be R2.out.ents.lt (fun e => e.elim (fun e => hm.1 e.symm) hn.1))).mono (Nat.le_succ _)) R2.out.entr (fun r hr => .inl hr) ?_ (R2.out.tmb_same hc4 (fun g hg e => e.elim (R2.out.tmb_ne hg).1 (R2.out.tmb_ne hg).2.2.2.1)) ((R2.out.rets.of_eq (hc4.block br R2.out.rets.lt (fun e => e.elim (fun e => hm.2.2 e.symm) (fun e => hn.2.2 e.symm)))).mono (Nat.le_succ _)) ?_) 0
        · have h := M4.out
          unfold begunVals at h ⊢
          rw [putL_map (fun g : Int => .int .i64 g)] at h
          exact h
        · have hw := begin_wf R2.out.wf HL.out (hasC_len R2.out.wf HH.out)
          exact { hw with staged := Nat.le_succ_of_le hw.staged, tombs := Nat.le_succ_of_le hw.tombs }
end
end Go.Proofs.Ytmkccblcmiflfaa
