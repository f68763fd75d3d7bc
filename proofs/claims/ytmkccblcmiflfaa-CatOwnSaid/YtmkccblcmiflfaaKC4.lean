/- A note that a blob waits. No condition beyond those that each theorem states. -/
import Derived.Test.YtmkccblcmiflfaaKC3
import Derived.Deep.RegionLaw
namespace Go.Proofs.Ytmkccblcmiflfaa
open Go.RowKit Go.Maps Go.WideMaps

theorem blob_info : (Try.prog.info? 61).map (fun i => (i.zero, i.size, i.bytes)) = some (some (.agg #[.string ⟨#[]⟩, .slice none 0 0]), 2, 40) := by kernel_rfl
theorem note_info : (Try.prog.info? 26).map (fun i => (i.zero, i.size, i.bytes)) = some (some (.agg #[.int .i64 0, .string ⟨#[]⟩, .int .i64 0, .int .i64 0, .slice none 0 0, .string ⟨#[]⟩, .int .i64 0, .slice none 0 0]), 8, 112) := by kernel_rfl
theorem place_info : (Try.prog.info? 40).map (fun i => (i.zero, i.size, i.bytes)) = some (some (.agg #[.int .i64 0, .int .i64 0]), 2, 16) := by kernel_rfl
def putC (C : CV) (v : NoteV) : Int × CV :=
  if v.key.length < 1 ∨ 16 < v.key.length ∨ 512 < v.data.length then (12, C)
  else if hasC C v.key then (4, C) else (0, { C with staged := C.staged ++ [(v.key, v.data)] })
theorem CatAt.up {F : Nat → Prop} {w : World} {p N M : Nat} {C : CV} (h : CatAt F w p N C) (hM : N ≤ M) : CatAt F w p M C := by
  obtain ⟨sv, tv, SR, ER, be, bb, br, h⟩ := h
  exact ⟨sv, tv, SR, ER, be, bb, br, { h with ents := h.ents.mono hM, begs := h.begs.mono hM, rets := h.rets.mono hM, wf := { h.wf with staged := Nat.le_trans h.wf.staged hM, tombs := Nat.le_trans h.wf.tombs hM } }⟩
theorem OwnRow.chg {F S : Nat → Prop} {w w' : World} {t : TypeId} {size n : Nat} {v : Value} {xs : List Value} (h : OwnRow F w t size v n xs) (hc : Chg S w w') (hd : ∀ g, v.ownBlock = some g → ¬ S g) : OwnRow F w' t size v n xs :=
  ⟨own_of_eq h.1 (fun g hg => hc.block g (h.1.lt g hg).2 (hd g hg)), h.2⟩
section
variable {F S : Nat → Prop} {w w' : World} {p N : Nat} {C : CV} {sv tv : Value} {SR : List BlobR} {ER : List EntR} {be bb br : Nat}
/-- What a method of a catalog may turn of its own. -/
def CatTurns (p : Nat) (sv tv : Value) (be bb br : Nat) (k : Nat) : Prop := k = p ∨ sv.ownBlock = some k ∨ tv.ownBlock = some k ∨ k = be ∨ k = bb ∨ k = br
theorem CatR.other (h : CatR F w p N C sv tv SR ER be bb br) {g : Nat} {t : TypeId} {cs : Array Value} (hg : Blk w g t cs) (h1 : t ≠ 59) (h2 : t ≠ 61) (h3 : t ≠ 26) : ¬ CatTurns p sv tv be bb br g := by
  rintro (e | e | e | e | e | e)
  · exact blk_ne hg h.blk h1 e
  · obtain ⟨cs', hb⟩ := own_blk h.stg.1 e
    exact blk_ne hg hb h2 rfl
  · obtain ⟨cs', hb⟩ := own_blk h.tmb.1 e
    exact blk_ne hg hb h3 rfl
  · exact blk_apart hg h.ents e
  · exact blk_apart hg h.begs e
  · exact blk_apart hg h.rets e
theorem CatR.rows (h : CatR F w p N C sv tv SR ER be bb br) (hc : Chg S w w') (hS : ∀ k, S k → CatTurns p sv tv be bb br k) : (∀ r ∈ SR, BlobOk F w' r) ∧ (∀ r ∈ ER, EntOk F w' r) := by
  refine ⟨fun r hr => (h.blobs r hr).chg hc fun g hg hs => ?_, fun r hr => (h.entb r hr).chg hc fun g hg hs => ?_⟩
  · obtain ⟨cs, hb⟩ := own_blk (h.blobs r hr).1 hg
    exact h.other hb (by decide) (by decide) (by decide) (hS g hs)
  · obtain ⟨cs, hb⟩ := own_blk (h.entb r hr).1 hg
    exact h.other hb (by decide) (by decide) (by decide) (hS g hs)
theorem CatR.stg_ne (h : CatR F w p N C sv tv SR ER be bb br) {g : Nat} (hg : sv.ownBlock = some g) : g ≠ p ∧ tv.ownBlock ≠ some g ∧ g ≠ be ∧ g ≠ bb ∧ g ≠ br := by
  obtain ⟨cs, hb⟩ := own_blk h.stg.1 hg
  refine ⟨blk_ne hb h.blk (by decide), fun e => ?_, blk_apart hb h.ents, blk_apart hb h.begs, blk_apart hb h.rets⟩
  obtain ⟨cs', hb'⟩ := own_blk h.tmb.1 e
  exact blk_ne hb hb' (by decide) rfl
theorem CatR.tmb_ne (h : CatR F w p N C sv tv SR ER be bb br) {g : Nat} (hg : tv.ownBlock = some g) : g ≠ p ∧ sv.ownBlock ≠ some g ∧ g ≠ be ∧ g ≠ bb ∧ g ≠ br := by
  obtain ⟨cs, hb⟩ := own_blk h.tmb.1 hg
  refine ⟨blk_ne hb h.blk (by decide), fun e => (h.stg_ne e).2.1 hg, blk_apart hb h.ents, blk_apart hb h.begs, blk_apart hb h.rets⟩
theorem CatR.map_ne (h : CatR F w p N C sv tv SR ER be bb br) : p ≠ be ∧ p ≠ bb ∧ p ≠ br := ⟨blk_apart h.blk h.ents, blk_apart h.blk h.begs, blk_apart h.blk h.rets⟩
def Wide (F : Nat → Prop) (w : World) (k : Nat) : Prop := F k ∨ w.heap.size ≤ k
theorem OwnRow.wide {F : Nat → Prop} {w0 w : World} {t : TypeId} {size n : Nat} {v : Value} {xs : List Value} (h : OwnRow F w t size v n xs) : OwnRow (Wide F w0) w t size v n xs := ⟨h.1, fun g hg => .inl (h.2 g hg)⟩
/-- What waits has turned. -/
theorem CatR.setStaged (h : CatR F w p N C sv tv SR ER be bb br) {w0 : World} {M : Nat} {sv' : Value} {SR' : List BlobR} {st : List (Str × Str)} (hM : N ≤ M)
    (hc : Chg (fun k => k = p ∨ sv.ownBlock = some k) w w') (hp : Blk w' p 59 #[sv', .map (some be), .map (some bb), tv, .map (some br), .int .i64 C.gen])
    (ho : OwnRow (Wide F w0) w' 61 2 sv' st.length (blobVals SR')) (hst : SR'.map (fun r => (r.key, r.data)) = st) (hbl : ∀ r ∈ SR', (r ∈ SR) ∨ BlobOk (Wide F w0) w' r)
    (hwf : CWf M { C with staged := st }) : CatR (Wide F w0) w' p M { C with staged := st } sv' tv SR' ER be bb br := by
  have hr := h.rows hc (fun k hk => hk.elim .inl (fun e => .inr (.inl e)))
  have hm := h.map_ne
  have hs := fun g (hg : sv.ownBlock = some g) => h.stg_ne hg
  refine ⟨hp, .inl h.fp, ho, hst, fun r hr' => (hbl r hr').elim (fun h1 => (hr.1 r h1).wide) id, (h.ents.of_eq (hc.block be h.ents.lt (fun e => e.elim (fun e => hm.1 e.symm) (fun e => (hs _ e).2.2.1 rfl)))).mono hM, .inl h.fe, h.entr, fun r hr' => (hr.2 r hr').wide,
    (h.begs.of_eq (hc.block bb h.begs.lt (fun e => e.elim (fun e => hm.2.1 e.symm) (fun e => (hs _ e).2.2.2.1 rfl)))).mono hM, .inl h.fb, (h.tmb.chg hc (fun g hg e => e.elim (h.tmb_ne hg).1 (h.tmb_ne hg).2.1)).wide,
    (h.rets.of_eq (hc.block br h.rets.lt (fun e => e.elim (fun e => hm.2.2 e.symm) (fun e => (hs _ e).2.2.2.2 rfl)))).mono hM, .inl h.fr, h.neq, hwf⟩
end
def noteCells (v : NoteV) (D : Option Addr) (dn dc : Nat) (Q : Option Addr) (qn qc : Nat) : Array Value := #[.int .i64 v.kind, encStr v.key, .int .i64 v.gen, .int .i64 v.cart, .slice D dn dc, encStr v.sum, .int .i64 v.size, .slice Q qn qc]
theorem enc_size (l : List UInt8) : (⟨l.toArray⟩ : ByteArray).size = l.length := by simp [ByteArray.size]
/-- What a call on a catalog leaves. -/
def CatPost (F : Nat → Prop) (p N : Nat) (r : Int × CV) (w : World) (e : Ending) (w' : World) : Prop := e = .returned (.int .i64 r.1) ∧ ∃ F', CatAt F' w' p N r.2 ∧ Took F F' w w'
theorem CatPost.same {F : Nat → Prop} {p N M : Nat} {C : CV} {i : Int} {w w' : World} (h : CatAt F w p N C) (hM : N ≤ M) (hb : Below w.heap.size w w') : CatPost F p M (i, C) w (.returned (.int .i64 i)) w' :=
  ⟨rfl, (h.up hM).same hb⟩
theorem hasC_no {C : CV} {k : Str} (h : hasC C k = false) : hasL C.entries k = false ∧ hasL C.staged k = false := by
  unfold hasC at h
  rw [Bool.or_eq_false_iff] at h
  exact h
theorem blobVals_snoc (SR : List BlobR) (r : BlobR) : blobVals (SR ++ [r]) = blobVals SR ++ [encStr r.key, .slice r.A r.n r.c] := by simp [blobVals]
theorem put_wf {N : Nat} {C : CV} {k d : Str} (h : CWf N C) (hh : hasC C k = false) (h1 : ¬ k.length < 1) (h2 : ¬ 16 < k.length) (h3 : d.length ≤ 512) : CWf (N + 1) { C with staged := C.staged ++ [(k, d)] } := by
  obtain ⟨e1, e2⟩ := hasC_no hh
  refine { h with
    staged := by simp only [List.length_append, List.length_cons, List.length_nil]; have := h.staged; omega
    tombs := Nat.le_succ_of_le h.tombs
    keys := fun q hq => ?_
    nds := ?_
    apart := fun q hq => ?_ }
  · rcases List.mem_append.1 hq with hq | hq
    · exact h.keys q hq
    · have e : q = (k, d) := by simpa using hq
      subst e
      exact ⟨by show 1 ≤ k.length; omega, by show k.length ≤ 16; omega, h3⟩
  · rw [List.map_append, List.nodup_append]
    refine ⟨h.nds, by simp, fun a ha b hb e => ?_⟩
    have hb : b = k := by simpa using hb
    subst hb
    subst e
    rw [hasL_mem.2 ha] at e2
    cases e2
  · rcases List.mem_append.1 hq with hq | hq
    · exact h.apart q hq
    · have e : q = (k, d) := by simpa using hq
      subst e
      exact e1
theorem put_close {F : Nat → Prop} {w w3 w4 : World} {p N B0n c0 b2 : Nat} {C : CV} {B0 B3 : Option Addr} {tv : Value} {SR : List BlobR} {ER : List EntR} {be bb br dn c3 g4 cap4 : Nat} {k d : Str} (h : CatR F w3 p N C (.slice B0 B0n c0) tv SR ER be bb br) (hb : Below w.heap.size w w3)
    (hby : Bys w3 b2 B3 dn c3 d) (hb2 : w.heap.size ≤ b2) (hown : w4.ownsRow 0 61 2 (.slice (some ⟨g4, 0, none⟩) (C.staged.length + 1) cap4) (C.staged.length + 1) (blobVals SR ++ [encStr k, .slice B3 dn c3]))
    (hg : (w3.alloc (.cells #[encStr k, .slice B3 dn c3] 61)).grownBy w4 (Value.slice B0 B0n c0).ownBlock) (hat : (Value.slice B0 B0n c0).ownBlock = some g4 ∨ g4 = (w3.alloc (.cells #[encStr k, .slice B3 dn c3] 61)).heap.size)
    (hh : hasC C k = false) (h1 : ¬ k.length < 1) (h2 : ¬ 16 < k.length) (h3 : d.length ≤ 512) :
    CatPost F p (N + 1) (0, { C with staged := C.staged ++ [(k, d)] }) w (.returned (.int .i64 0)) (w4.setCell ⟨p, 0, none⟩ (.slice (some ⟨g4, 0, none⟩) (C.staged.length + 1) cap4)) := by
  have hz3 := hb.size
  have hpz := h.blk.size
  have hgp : g4 ≠ p := by
    rcases hat with e | e
    · exact (h.stg_ne e).1
    · rw [World.size_alloc] at e; omega
  have hc3 : Chg (fun k => k = p ∨ (Value.slice B0 B0n c0).ownBlock = some k) w3 w4 := ((Chg.refl _ w3).alloc _).grown hg (fun g e => .inl (.inr e))
  have hc : Chg (fun k => k = p ∨ (Value.slice B0 B0n c0).ownBlock = some k) w3 (w4.setCell ⟨p, 0, none⟩ (.slice (some ⟨g4, 0, none⟩) (C.staged.length + 1) cap4)) := hc3.store (p := ⟨p, 0, none⟩) (.inl (.inl rfl)) _
  have hp4 : Blk w4 p 59 _ := (h.blk.alloc (.cells #[encStr k, .slice B3 dn c3] 61)).grown hg (fun e => (h.stg_ne e).1 rfl)
  have hr := h.setStaged (w0 := w) (M := N + 1) (SR' := SR ++ [⟨k, B3, dn, c3, d⟩]) (st := C.staged ++ [(k, d)]) (Nat.le_succ _) hc (hp4.store 0 _)
    ⟨by
      have e : blobVals (SR ++ [⟨k, B3, dn, c3, d⟩]) = blobVals SR ++ [encStr k, .slice B3 dn c3] := blobVals_snoc _ _
      rw [e, show (C.staged ++ [(k, d)]).length = C.staged.length + 1 by simp]
      exact own_of_eq hown (fun q hq => Below.heap_setCell w4 _ _ q (fun e => hgp ((Option.some.inj hq).trans e))), fun q hq => by
      have e : g4 = q := Option.some.inj hq
      subst e
      rcases hat with e | e
      · exact .inl (h.stg.2 _ e)
      · rw [World.size_alloc] at e; exact .inr (by omega)⟩ (by rw [List.map_append, h.stgs]; rfl) (fun r hr => by
      rcases List.mem_append.1 hr with hr | hr
      · exact .inl hr
      · have e : r = ⟨k, B3, dn, c3, d⟩ := by simpa using hr
        subst e
        refine .inr ⟨own_of_eq (hby.mono (Nat.zero_le _)) (fun q hq => ?_), fun q hq => .inr (Nat.le_trans hb2 (hby.lt q hq).1)⟩
        obtain ⟨cs, hcs⟩ := own_blk hby hq
        exact hc.block q (hby.lt q hq).2 (fun e => e.elim (fun e => blk_ne hcs h.blk (by decide) e) (fun e => by
          obtain ⟨cs', hcs'⟩ := own_blk h.stg.1 e
          exact blk_ne hcs hcs' (by decide) rfl))) (put_wf h.wf hh h1 h2 h3)
  refine ⟨rfl, Took.of (CatAt.owning p (N + 1) _) ⟨_, _, _, _, _, _, _, hr⟩ ((Chg.of_below F hb).trans' hc (fun i hi e => ?_))⟩
  rcases e with e | e
  · rw [e]; exact h.fp
  · exact h.stg.2 i e
section
set_option maxHeartbeats 4000000
set_option maxRecDepth 8000
theorem cPut (F : Nat → Prop) (p N : Nat) (C : CV) (v : NoteV) (D : Option Addr) (dn dc : Nat) (Q : Option Addr) (qn qc : Nat) (w : World) (h : CatAt F w p N C) (hN : N ≤ 100000) (hin : NoteIn w v D dn dc Q qn qc) :
    Calls Try.prog 27 #[.pointer (some ⟨p, 0, none⟩), noteAgg v D dn dc Q qn qc] w (CatPost F p (N + 1) (putC C v) w) := by
  have H := Lib.hid h
  have HI := Lib.hid hin
  have hks := enc_size v.key
  have hkl : v.key.length ≤ maxLen := hin.key
  have hdl : v.data.length = dn := hin.data.1
  have hp63 : v.key.length ≤ 9223372036854775807 := by simp only [maxLen] at hkl; omega
  have hd63 : dn ≤ 9223372036854775807 := by have := hin.dform.1; have := hin.dform.2.1; simp only [maxLen] at this; omega
  obtain ⟨w1, hw1⟩ : ∃ w1, w1 = w.alloc (.cells (noteCells v D dn dc Q qn qc) 26) := ⟨_, rfl⟩
  have hb1 : Below w.heap.size w w1 := by rw [hw1]; exact (Below.refl _ _).alloc (Nat.le_refl _) _
  have hB1 : Blk w1 w.heap.size 26 (noteCells v D dn dc Q qn qc) := by rw [hw1]; exact Blk.made w _ _
  have W1 := Lib.hid hw1
  have HB1 := Lib.hid hb1
  have BN1 := Lib.hid hB1
  have k1 : w1.cell? ⟨w.heap.size, 1, none⟩ = some (encStr v.key) := hB1.cell 1
  have k4 : w1.cell? ⟨w.heap.size, 4, none⟩ = some (.slice D dn dc) := hB1.cell 4
  have H1 := Lib.hid (h.below hb1)
  clear hin h hb1 hB1 hw1
  unfold noteAgg
  go_enter Try.func27, Try.ntmps27
  go_upto_region 1 with fail
  rw [show w.alloc (.cells #[.int .i64 v.kind, .string ⟨v.key.toArray⟩, .int .i64 v.gen, .int .i64 v.cart, .slice D dn dc, .string ⟨v.sum.toArray⟩, .int .i64 v.size, .slice Q qn qc] 26) = w1 from W1.out.symm]
  by_cases g1 : v.key.length < 1
  · have d1 : decide ((v.key.length : Int) < 1) = true := by simp; omega
    have HE := Lib.hid (show putC C v = (12, C) from if_pos (.inl g1))
    go_wp2_with fail
    go_ret
    rw [HE.out]
    exact CatPost.same H.out (Nat.le_succ _) HB1.out
  have d1 : decide ((v.key.length : Int) < 1) = false := by simp; omega
  by_cases g2 : 16 < v.key.length
  · have d2 : decide ((16 : Int) < v.key.length) = true := by simp; omega
    have HE := Lib.hid (show putC C v = (12, C) from if_pos (.inr (.inl g2)))
    go_wp2_with fail
    go_ret
    rw [HE.out]
    exact CatPost.same H.out (Nat.le_succ _) HB1.out
  have d2 : decide ((16 : Int) < v.key.length) = false := by simp; omega
  by_cases g3 : 512 < dn
  · have d3 : decide ((512 : Int) < dn) = true := by simp; omega
    have HE := Lib.hid (show putC C v = (12, C) from if_pos (.inr (.inr (by omega))))
    go_wp2_with fail
    go_ret
    rw [HE.out]
    exact CatPost.same H.out (Nat.le_succ _) HB1.out
  have d3 : decide ((512 : Int) < dn) = false := by simp; omega
  have hne : ¬ (v.key.length < 1 ∨ 16 < v.key.length ∨ 512 < v.data.length) := by omega
  cases hh : hasC C v.key with
  | true =>
    have HE := Lib.hid (show putC C v = (4, C) by unfold putC; rw [if_neg hne, if_pos hh])
    have HH := Lib.hid hh
    clear hh hne
    go_wp2_with (go_at_call 19; refine (cHas F p N C v.key _ H1.out hkl).mono ?_; rw [HH.out]; rintro e w2 ⟨rfl, hb2⟩; have B2 := Lib.hid (HB1.out.trans (hb2.mono HB1.out.size)); clear hb2)
    go_ret
    rw [HE.out]
    exact CatPost.same H.out (Nat.le_succ _) B2.out
  | false =>
    have HE := Lib.hid (show putC C v = (0, { C with staged := C.staged ++ [(v.key, v.data)] }) by unfold putC; rw [if_neg hne, hh]; rfl)
    have HH := Lib.hid hh
    clear hh hne
    go_wp2_with (go_at_call 19; refine (cHas F p N C v.key _ H1.out hkl).mono ?_; rw [HH.out]; rintro e w2 ⟨rfl, hb2⟩; have B2 := Lib.hid hb2; clear hb2)
    obtain ⟨sv, tv, SR, ER, be, bb, br, h2⟩ := H1.out.below B2.out
    have R2 := Lib.hid h2
    have hsr : SR.length = C.staged.length := by rw [← h2.stgs, List.length_map]
    obtain ⟨B0, n0, c0, hsv⟩ : ∃ B n c, sv = .slice B n c := by
      rcases h2.stg.form with ⟨h, _⟩ | ⟨g, cap, h, _⟩
      · exact ⟨_, _, _, h⟩
      · exact ⟨_, _, _, h⟩
    subst hsv
    have kp : w2.cell? ⟨p, 0, none⟩ = some (.slice B0 n0 c0) := h2.blk.cell 0
    have hpz : p < w2.heap.size := h2.blk.size
    have hz12 := B2.out.size
    have hbn : w.heap.size < w1.heap.size := BN1.out.size
    have k1' : w2.cell? ⟨w.heap.size, 1, none⟩ = some (encStr v.key) := (B2.out.cell (p := ⟨w.heap.size, 1, none⟩) hbn).trans k1
    have k4' : w2.cell? ⟨w.heap.size, 4, none⟩ = some (.slice D dn dc) := (B2.out.cell (p := ⟨w.heap.size, 4, none⟩) hbn).trans k4
    have hst : C.staged.length ≤ 100000 := by have := h2.wf.staged; omega
    have BD := Lib.hid ((HI.out.data.below HB1.out).below B2.out)
    have FD := Lib.hid HI.out.dform
    obtain ⟨i0, hi, hz0, hz1, hz2⟩ := info_parts blob_info
    clear h2 k1 k4
    go_region_law (first
      | (refine step_append_form _ rfl (.tmp 31) (.tmp 38) 54 rfl 0 61 i0 _ 2 40 Try.underlying54 hi hz0 hz1 hz2 rfl (by omega) _ C.staged.length (blobVals SR) rfl (by exact own_of_eq R3.out.stg.1 (fun q hq => Below.heap_alloc _ _ q (R3.out.stg.1.lt q hq).2)) (some ⟨w3.heap.size, 0, none⟩) 1 1 [encStr v.key, .slice B3 dn c3] rfl rfl (fun e => by cases e) (by exact src_new _ _ _ _) (by intro u hu; simp only [List.mem_cons, List.not_mem_nil, or_false] at hu; rcases hu with rfl | rfl <;> rfl) (by omega) (by simp only [maxLen]; omega) (by omega) (Nat.zero_le _) ?_
         intro g4 cap4 w4 hown4 hgr4 hat4 hlt4
         have BK4 := Lib.hid ((R3.out.blk.alloc (.cells #[encStr v.key, .slice B3 dn c3] 61)).grown hgr4 (fun e => (R3.out.stg_ne e).1 rfl))
         have kp4 : w4.cell? ⟨p, 0, none⟩ = some (.slice B0 n0 c0) := BK4.out.cell 0
         have fp4 : w4.frozen? ⟨p, 0, none⟩ = false := BK4.out.free 0
         have HO4 := Lib.hid hown4
         have HG4 := Lib.hid hgr4
         clear hown4 hgr4)
      | (go_simp; go_at_call 21
         refine (bclone D dn dc v.data _ FD.out (by omega) (by exact BD.out)).mono ?_
         rintro e w3 ⟨B3, c3, rfl, hb3, hbe3⟩
         have BY3 := Lib.hid (show Bys w3 w2.heap.size B3 dn c3 v.data from hb3)
         have BE3 := Lib.hid (show Below w2.heap.size w2 w3 from below_of_drew hbe3)
         have R3 := Lib.hid (R2.out.below BE3.out)
         have kp3 : w3.cell? ⟨p, 0, none⟩ = some (.slice B0 n0 c0) := (BE3.out.cell (p := ⟨p, 0, none⟩) hpz).trans kp
         have k13 : w3.cell? ⟨w.heap.size, 1, none⟩ = some (encStr v.key) := (BE3.out.cell (p := ⟨w.heap.size, 1, none⟩) (by show w.heap.size < w2.heap.size; omega)).trans k1'
         have k43 : w3.cell? ⟨w.heap.size, 4, none⟩ = some (.slice D dn dc) := (BE3.out.cell (p := ⟨w.heap.size, 4, none⟩) (by show w.heap.size < w2.heap.size; omega)).trans k4'
         have hz3 := BE3.out.size
         have hp3 : p < w3.heap.size := by omega
         have hn3 : w.heap.size < w3.heap.size := by omega
         clear hb3 hbe3))
    all_goals
      go_wp2_with fail
      go_ret
      rw [HE.out]
      exact put_close R3.out ((HB1.out.trans (B2.out.mono HB1.out.size)).trans (BE3.out.mono (by omega))) BY3.out (by omega) HO4.out HG4.out hat4 HH.out g1 g2 (by omega)
end
end Go.Proofs.Ytmkccblcmiflfaa
