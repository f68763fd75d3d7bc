/- Texts joined: KC9. No condition beyond those that each theorem states. -/
import Derived.Test.YtmkccblcmiflfaaGreatPK2
import Derived.Test.YtmkccblcmiflfaaGreatPK3
import Derived.Test.YtmkccblcmiflfaaGreatPK0
namespace Go.Proofs.YtmkccblcmiflfaaGreat
open Go.RowKit Go.Maps Go.WideMaps

theorem blobVals_one (L : List BlobR) : ∀ u ∈ blobVals L, u.oneCell' = true := by
  intro u hu
  obtain ⟨q, _, hu⟩ := List.mem_flatMap.1 hu
  simp only [List.mem_cons, List.not_mem_nil, or_false] at hu
  rcases hu with rfl | rfl <;> rfl
theorem blobVals_cut (L : List BlobR) (i : Nat) (hi : i < L.length) : cutRow 2 i (blobVals L) = blobVals (L.eraseIdx i) := by
  induction L generalizing i with
  | nil => simp at hi
  | cons x L ih =>
    have hl : (blobVals (x :: L)) = [encStr x.key, .slice x.A x.n x.c] ++ blobVals L := rfl
    cases i with
    | zero =>
      unfold cutRow
      rw [hl, List.eraseIdx_cons_zero]
      rfl
    | succ i =>
      have := ih i (by simpa using hi)
      unfold cutRow at this ⊢
      rw [hl, List.eraseIdx_cons_succ, show (i + 1) * 2 = 2 + i * 2 by omega, show (i + 1 + 1) * 2 = 2 + (i + 1) * 2 by omega]
      have e1 : ∀ (P T : List Value) (n : Nat), P.length = 2 → (P ++ T).take (2 + n) = P ++ T.take n := fun P T n hP => by rw [List.take_append, hP, List.take_of_length_le (by omega)]; congr 1; congr 1; omega
      have e2 : ∀ (P T : List Value) (n : Nat), P.length = 2 → (P ++ T).drop (2 + n) = T.drop n := fun P T n hP => by rw [List.drop_append, hP, List.drop_eq_nil_of_le (by omega), List.nil_append]; congr 1; omega
      rw [e1 _ _ _ rfl, e2 _ _ _ rfl, List.append_assoc, this]
      rfl
theorem delL_same {β : Type} {L : List (Str × β)} {k : Str} (h : hasL L k = false) : delL L k = L := by
  unfold delL
  rw [List.filter_eq_self]
  intro q hq
  unfold hasL at h
  rw [List.any_eq_false] at h
  have := h q hq
  simpa using this
theorem del_cut {key : Str} : ∀ {SR : List BlobR} {i : Nat}, (SR.map (·.key)).Nodup → idxP (fun r : BlobR => decide (r.key = key)) SR = (i : Int) → (SR.eraseIdx i).map (fun r => (r.key, r.data)) = delL (SR.map fun r => (r.key, r.data)) key ∧ i < SR.length
  | [], i, _, h => by simp [idxP] at h
  | x :: SR, i, hn, h => by
    rw [List.map_cons, List.nodup_cons] at hn
    by_cases hx : x.key = key
    · have h0 : i = 0 := by simp [idxP, hx] at h; omega
      subst h0
      refine ⟨?_, by simp⟩
      rw [List.eraseIdx_cons_zero, List.map_cons]
      have hf : delL (SR.map fun r => (r.key, r.data)) key = SR.map fun r => (r.key, r.data) := delL_same (by
        cases hh : hasL (SR.map fun r => (r.key, r.data)) key with
        | false => rfl
        | true =>
          rw [hasL_mem, List.map_map] at hh
          rw [hx] at hn
          exact absurd hh hn.1)
      have : delL ((x.key, x.data) :: SR.map fun r => (r.key, r.data)) key = delL (SR.map fun r => (r.key, r.data)) key := by simp [delL, hx]
      rw [this, hf]
    · simp only [idxP, decide_eq_false hx, Bool.false_eq_true, if_false] at h
      split at h
      · omega
      · rename_i hlt
        obtain ⟨j, hj⟩ := Int.eq_ofNat_of_zero_le (show 0 ≤ idxP (fun r : BlobR => decide (r.key = key)) SR by omega)
        obtain rfl : i = j + 1 := by omega
        obtain ⟨h1, h2⟩ := del_cut hn.2 hj
        refine ⟨?_, by simpa using h2⟩
        rw [List.eraseIdx_cons_succ, List.map_cons, List.map_cons, h1]
        simp [delL, hx]
theorem del_none {key : Str} {SR : List BlobR} (h : idxP (fun r : BlobR => decide (r.key = key)) SR < 0) : delL (SR.map fun r => (r.key, r.data)) key = SR.map fun r => (r.key, r.data) := by
  refine delL_same ?_
  have := idxP_neg.1 h
  unfold hasL
  rw [List.any_map]
  exact this
/-- What waits, without one. -/
structure Dropped (F : Nat → Prop) (w w' : World) (p : Nat) (sv : Value) (SR : List BlobR) (st : List (Str × Str)) (key : Str) (sv' : Value) (SR' : List BlobR) : Prop where
  own : OwnRow F w' 70 2 sv' (delL st key).length (blobVals SR')
  eq : SR'.map (fun r => (r.key, r.data)) = delL st key
  sub : ∀ r ∈ SR', r ∈ SR
  chg : Chg (fun k => k = p ∨ sv.ownBlock = some k) w w'
  blk : sv'.ownBlock = sv.ownBlock
theorem ent_put (ER : List EntR) (r : EntR) : putL (entVals ER) r.key (entVal r) = entVals ((ER.filter fun x => !decide (x.key = r.key)) ++ [r]) := by
  unfold putL delL entVals
  rw [List.map_append, List.filter_map]
  rfl
theorem ent_put_e {ER : List EntR} {E : List (Str × EntV)} (h : ER.map (fun r => (r.key, r.e)) = E) (r : EntR) : ((ER.filter fun x => !decide (x.key = r.key)) ++ [r]).map (fun r => (r.key, r.e)) = putL E r.key r.e := by
  subst h
  unfold putL delL
  rw [List.map_append, List.filter_map]
  rfl
def placedC (C : CV) (v : NoteV) : Int × CV :=
  if v.key.length < 1 ∨ 16 < v.key.length ∨ v.gen < 1 ∨ C.gen < v.gen ∨ v.size < 0 ∨ 512 < v.size then (12, C)
  else if (v.places.length : Int) ≠ groupsI v.size * 10 then (12, C)
  else (0, { C with staged := delL C.staged v.key, entries := putL C.entries v.key ⟨v.gen, v.size, v.sum, v.places⟩ })
theorem placed_wf {N : Nat} {C : CV} {k : Str} {e : EntV} (h : CWf N C) (h1 : 1 ≤ k.length ∧ k.length ≤ 16) (h2 : 1 ≤ e.gen ∧ e.gen ≤ C.gen) (h3 : 0 ≤ e.size ∧ e.size ≤ 512) (h4 : (e.places.length : Int) = groupsI e.size * 10) (h5 : e.sum.length ≤ maxLen) :
    CWf (N + 1) { C with staged := delL C.staged k, entries := putL C.entries k e } :=
  { h with
    staged := by have h1 := h.staged; have h2 : (delL C.staged k).length ≤ C.staged.length := List.length_filter_le _ _; show (delL C.staged k).length ≤ _; omega
    tombs := Nat.le_succ_of_le h.tombs
    keys := fun q hq => h.keys q (List.mem_filter.1 hq).1
    ents := fun q hq => by
      rcases List.mem_append.1 hq with hq | hq
      · exact h.ents q (List.mem_filter.1 hq).1
      · have e' : q = (k, e) := by simpa using hq
        subst e'
        exact ⟨h1.1, h1.2, h2.1, h2.2, h3.1, h3.2, h4, h5⟩
    nds := nodup_del h.nds k
    apart := fun q hq => by
      have hq' := List.mem_filter.1 hq
      rw [hasL_put, h.apart q hq'.1, Bool.false_or]
      simpa using hq'.2 }
theorem own_low {w : World} {base : Nat} {e : TypeId} {size n : Nat} {v : Value} {xs : List Value} (h : w.ownsRow base e size v n xs) : w.ownsRow 0 e size v n xs := by
  refine ⟨h.1, ?_⟩
  rcases h.2 with h | ⟨g', cap', cur, hv, _, h2⟩
  · exact .inl h
  · exact .inr ⟨g', cap', cur, hv, Nat.zero_le _, h2⟩
theorem placed_fin {F : Nat → Prop} {w w2 w4 w5 w6 : World} {p N en ec b5 : Nat} {C : CV} {v : NoteV} {sv tv sv' : Value} {SR SR' : List BlobR} {ER : List EntR} {be bb br : Nat} {B : Option Addr} (h : CatR F w2 p N C sv tv SR ER be bb br) (hb : Below w.heap.size w w2)
    (hd : Dropped F w2 w4 p sv SR C.staged v.key sv' SR') (hp : Blk w4 p 68 #[sv', .map (some be), .map (some bb), tv, .map (some br), .int .i64 C.gen]) (h45 : Below w4.heap.size w4 w5)
    (hpl : w5.ownsRow b5 95 2 (.slice B en ec) en (placeVals v.places)) (hb5 : w.heap.size ≤ b5) (hm : MapAt skey zeroEnt w6 be (N + 1) (putL (entVals ER) v.key (.agg #[encStr v.key, .int .i64 v.gen, .int .i64 v.size, encStr v.sum, .slice B en ec]))) (hg : w5.grownBy w6 (some be))
    (hwf : CWf (N + 1) { C with staged := delL C.staged v.key, entries := putL C.entries v.key ⟨v.gen, v.size, v.sum, v.places⟩ }) :
    CatPost F p (N + 1) (0, { C with staged := delL C.staged v.key, entries := putL C.entries v.key ⟨v.gen, v.size, v.sum, v.places⟩ }) w (.returned (.int .i64 0)) w6 := by
  have hz5 := hb.size
  have hz4 := hd.chg.size
  have hm' := h.map_ne
  have hc : Chg (fun k => (k = p ∨ sv.ownBlock = some k) ∨ k = be) w2 w6 := ((hd.chg.mono (T := fun k => (k = p ∨ sv.ownBlock = some k) ∨ k = be) (fun k e => .inl e)).trans (Chg.of_below _ h45)).grown hg (fun g e => .inl (.inr (Option.some.inj e).symm))
  have hcT : Chg (CatTurns p sv tv be bb br) w2 w6 := hc.mono (fun k e => by
    rcases e with (e | e) | e
    · exact .inl e
    · exact .inr (.inl e)
    · exact .inr (.inr (.inr (.inl e))))
  have hp5 := hp.below h45 hp.size
  have hp6 : Blk w6 p 68 _ := hp5.grown hg (fun e => hm'.1 (Option.some.inj e).symm)
  let r : EntR := ⟨v.key, ⟨v.gen, v.size, v.sum, v.places⟩, B, en, ec⟩
  have hown : OwnRow F w6 70 2 sv' (delL C.staged v.key).length (blobVals SR') := by
    have h5 := (OwnRow.owning ..).below hd.own h45
    refine ⟨own_of_eq h5.1 (fun q hq => hg.block q (h5.1.lt q hq).2 (fun e => ?_)), h5.2⟩
    rw [hd.blk] at hq
    exact (h.stg_ne hq).2.2.1 (Option.some.inj e)
  refine h.post hb hcT (h.build (C' := { C with staged := delL C.staged v.key, entries := putL C.entries v.key ⟨v.gen, v.size, v.sum, v.places⟩ }) (ER' := (ER.filter fun x => !decide (x.key = r.key)) ++ [r]) hcT hp6 hown.wide hd.eq (fun r hr => .inl (hd.sub r hr)) ?_ (ent_put_e h.entr r) ?_ ?_ (h.tmb_same hc ?_) ?_ hwf) 0
  · rw [← ent_put]
    exact hm
  · intro x hx
    rcases List.mem_append.1 hx with hx | hx
    · exact .inl (List.mem_filter.1 hx).1
    · have e : x = r := by simpa using hx
      subst e
      refine .inr ⟨own_of_eq (own_low hpl) (fun q hq => hg.block q (hpl.lt q hq).2 (fun e => ?_)), fun q hq => .inr (by have := (hpl.lt q hq).1; omega)⟩
      obtain ⟨cs, hcs⟩ := own_blk hpl hq
      have hme : MapAt skey zeroEnt w5 be N (entVals ER) := h.ents.of_eq (((h45.block be (Nat.lt_of_lt_of_le h.ents.lt hz4)).trans (hd.chg.block be h.ents.lt (fun e => e.elim (fun e => hm'.1 e.symm) (fun e => (h.stg_ne e).2.2.1 rfl)))))
      exact blk_apart hcs hme (Option.some.inj e)
  · exact (h.begs.of_eq (hc.block bb h.begs.lt (fun e => by
      rcases e with (e | e) | e
      · exact hm'.2.1 e.symm
      · exact (h.stg_ne e).2.2.2.1 rfl
      · exact h.neq.1 e.symm))).mono (Nat.le_succ _)
  · intro g hg' e
    rcases e with (e | e) | e
    · exact (h.tmb_ne hg').1 e
    · exact (h.tmb_ne hg').2.1 e
    · exact (h.tmb_ne hg').2.2.1 e
  · exact (h.rets.of_eq (hc.block br h.rets.lt (fun e => by
      rcases e with (e | e) | e
      · exact hm'.2.2 e.symm
      · exact (h.stg_ne e).2.2.2.2 rfl
      · exact h.neq.2.1 e.symm))).mono (Nat.le_succ _)
theorem NoteIn.below {w w' : World} {v : NoteV} {D : Option Addr} {dn dc : Nat} {Q : Option Addr} {qn qc : Nat} (h : NoteIn w v D dn dc Q qn qc) (hb : Below w.heap.size w w') : NoteIn w' v D dn dc Q qn qc :=
  { h with data := h.data.below hb, places := ⟨h.places.1, h.places.2.below hb⟩ }
theorem SrcAt.keep {w w' : World} {A : Option Addr} {n : Nat} {xs : List Value} (h : SrcAt w A n xs) (hk : ∀ b off, A = some ⟨b, off, none⟩ → b < w.heap.size → w'.heap[b]? = w.heap[b]?) : SrcAt w' A n xs := by
  rcases h with h | ⟨b, off, h1, h3⟩
  · exact .inl h
  · exact .inr ⟨b, off, h1, fun j u hu => by
      have h := h3 j u hu
      have hlt := World.block_lt_of_cell? w _ h
      exact (World.cell?_of_block (a := ⟨b, off + j, none⟩) (hk b off h1 hlt)).trans h⟩
section
set_option maxHeartbeats 4000000
set_option maxRecDepth 8000
theorem cPlaced (F : Nat → Prop) (p N : Nat) (C : CV) (v : NoteV) (D : Option Addr) (dn dc : Nat) (Q : Option Addr) (qn qc : Nat) (w : World) (h : CatAt F w p N C) (hN : N ≤ 100000) (hin : NoteIn w v D dn dc Q qn qc) (hap : 0 < qn → ∀ b off, Q = some ⟨b, off, none⟩ → ¬ F b) :
    Calls Tryz.prog 37 #[.pointer (some ⟨p, 0, none⟩), noteAgg v D dn dc Q qn qc] w (CatPost F p (N + 1) (placedC C v) w) := by
  have H := Lib.hid h
  have HAP := Lib.hid hap
  have hks := enc_size v.key
  have hkl : v.key.length ≤ maxLen := hin.key
  have HSL := Lib.hid hin.sum
  have hp63 : v.key.length ≤ 9223372036854775807 := by simp only [maxLen] at hkl; omega
  have hq63 : qn ≤ 9223372036854775807 := by have := hin.pform.1; have := hin.pform.2.1; simp only [maxLen] at this; omega
  have hql : v.places.length = qn := hin.places.1
  obtain ⟨w1, hw1⟩ : ∃ w1, w1 = w.alloc (.cells (noteCells v D dn dc Q qn qc) 32) := ⟨_, rfl⟩
  have hb1 : Below w.heap.size w w1 := by rw [hw1]; exact (Below.refl _ _).alloc (Nat.le_refl _) _
  have hB1 : Blk w1 w.heap.size 32 (noteCells v D dn dc Q qn qc) := by rw [hw1]; exact Blk.made w _ _
  have W1 := Lib.hid hw1
  have HB1 := Lib.hid hb1
  have BN1 := Lib.hid hB1
  have HI1 := Lib.hid (hin.below hb1)
  have hbn : w.heap.size < w1.heap.size := hB1.size
  obtain ⟨sv, tv, SR, ER, be, bb, br, h1⟩ := h.below hb1
  have R1 := Lib.hid h1
  have hnp : w.heap.size ≠ p := fun e => by have h1 := hB1; rw [e] at h1; exact blk_ne h1 ‹CatR F w1 p N C sv tv SR ER be bb br›.blk (by decide) rfl
  have q1 : w1.cell? ⟨w.heap.size, 1, none⟩ = some (encStr v.key) := hB1.cell 1
  have q2 : w1.cell? ⟨w.heap.size, 2, none⟩ = some (.int .i64 v.gen) := hB1.cell 2
  have q6 : w1.cell? ⟨w.heap.size, 6, none⟩ = some (.int .i64 v.size) := hB1.cell 6
  have q7 : w1.cell? ⟨w.heap.size, 7, none⟩ = some (.slice Q qn qc) := hB1.cell 7
  have q5 : w1.cell? ⟨p, 5, none⟩ = some (.int .i64 C.gen) := h1.blk.cell 5
  clear hin hap h hb1 hB1 hw1 h1
  unfold noteAgg
  go_enter Tryz.func37, Tryz.ntmps37
  go_upto_region 1 with fail
  rw [show w.alloc (.cells #[.int .i64 v.kind, .string ⟨v.key.toArray⟩, .int .i64 v.gen, .int .i64 v.cart, .slice D dn dc, .string ⟨v.sum.toArray⟩, .int .i64 v.size, .slice Q qn qc] 32) = w1 from W1.out.symm]
  by_cases c0 : v.key.length < 1
  case pos =>
    have d0 : (decide ((v.key.length : Int) < 1) = true) := by simp; omega
    have HE := Lib.hid (show placedC C v = (12, C) from if_pos (by omega))
    refine wp_region_held_drew (S := (fun w' => w'.cell? ⟨w.heap.size, 1, none⟩ = some (encStr v.key) ∧ w'.cell? ⟨w.heap.size, 2, none⟩ = some (.int .i64 v.gen) ∧ w'.cell? ⟨w.heap.size, 6, none⟩ = some (.int .i64 v.size) ∧ w'.cell? ⟨p, 5, none⟩ = some (.int .i64 C.gen))) (by kernel_rfl) ⟨q1, q2, q6, q5⟩ (fun hHeld => ?_)
    refine tk (i := 0) (v := ?vA0n10) rfl ?hyA0n10 ?restA0n10
    case hyA0n10 => (intro w hSw; (try dsimp only at hSw); go_simp <;> with_reducible rfl)
    try simp only [Act.put, pt1, pt2, pt3]
    refine tk (i := 1) (v := ?vA0n11) rfl ?hyA0n11 ?restA0n11
    case hyA0n11 => (intro w hSw; (try dsimp only at hSw); go_simp <;> with_reducible rfl)
    try simp only [Act.put, pt1, pt2, pt3]
    refine tk (i := 2) (v := ?vA0n12) rfl ?hyA0n12 ?restA0n12
    case hyA0n12 => (intro w hSw; (try dsimp only at hSw); go_simp <;> with_reducible rfl)
    try simp only [Act.put, pt1, pt2, pt3]
    refine tk (i := 3) (v := ?vA0n13) rfl ?hyA0n13 ?restA0n13
    case hyA0n13 => (intro w hSw; (try dsimp only at hSw); go_simp <;> with_reducible rfl)
    try simp only [Act.put, pt1, pt2, pt3]
    refine tk (i := 4) (v := ?vA0n14) rfl ?hyA0n14 ?restA0n14
    case hyA0n14 => (intro w hSw; (try dsimp only at hSw); go_simp <;> with_reducible rfl)
    try simp only [Act.put, pt1, pt2, pt3]
    refine tku (i := 5) rfl ?_
    try simp only [Act.put, pt1, pt2, pt3]
    refine tku (i := 6) rfl ?_
    try simp only [Act.put, pt1, pt2, pt3]
    refine tku (i := 7) rfl ?_
    try simp only [Act.put, pt1, pt2, pt3]
    refine tku (i := 8) rfl ?_
    try simp only [Act.put, pt1, pt2, pt3]
    refine tk (i := 9) (v := ?vA0n19) rfl ?hyA0n19 ?restA0n19
    case hyA0n19 => (intro w hSw; (try dsimp only at hSw); go_simp <;> with_reducible rfl)
    try simp only [Act.put, pt1, pt2, pt3]
    refine tk (i := 10) (v := ?vA0n110) rfl ?hyA0n110 ?restA0n110
    case hyA0n110 => (intro w hSw; (try dsimp only at hSw); go_simp <;> with_reducible rfl)
    try simp only [Act.put, pt1, pt2, pt3]
    refine tku (i := 11) rfl ?_
    try simp only [Act.put, pt1, pt2, pt3]
    refine tku (i := 12) rfl ?_
    try simp only [Act.put, pt1, pt2, pt3]
    refine tku (i := 13) rfl ?_
    try simp only [Act.put, pt1, pt2, pt3]
    refine tk (i := 14) (v := ?vA0n114) rfl ?hyA0n114 ?restA0n114
    case hyA0n114 => (intro w hSw; (try dsimp only at hSw); go_simp <;> with_reducible rfl)
    try simp only [Act.put, pt1, pt2, pt3]
    refine tk (i := 15) (v := ?vA0n115) rfl ?hyA0n115 ?restA0n115
    case hyA0n115 => (intro w hSw; (try dsimp only at hSw); go_simp <;> with_reducible rfl)
    try simp only [Act.put, pt1, pt2, pt3]
    refine tku (i := 16) rfl ?_
    try simp only [Act.put, pt1, pt2, pt3]
    refine tku (i := 17) rfl ?_
    try simp only [Act.put, pt1, pt2, pt3]
    refine tku (i := 18) rfl ?_
    try simp only [Act.put, pt1, pt2, pt3]
    refine tku (i := 19) rfl ?_
    try simp only [Act.put, pt1, pt2, pt3]
    refine tku (i := 20) rfl ?_
    try simp only [Act.put, pt1, pt2, pt3]
    refine tku (i := 21) rfl ?_
    try simp only [Act.put, pt1, pt2, pt3]
    refine tku (i := 22) rfl ?_
    try simp only [Act.put, pt1, pt2, pt3]
    refine tk (i := 23) (v := ?vA0n123) rfl ?hyA0n123 ?restA0n123
    case hyA0n123 => (intro w hSw; (try dsimp only at hSw); go_simp <;> with_reducible rfl)
    try simp only [Act.put, pt1, pt2, pt3]
    refine tk (i := 24) (v := ?vA0n124) rfl ?hyA0n124 ?restA0n124
    case hyA0n124 => (intro w hSw; (try dsimp only at hSw); go_simp <;> with_reducible rfl)
    try simp only [Act.put, pt1, pt2, pt3]
    refine tku (i := 25) rfl ?_
    try simp only [Act.put, pt1, pt2, pt3]
    refine tku (i := 26) rfl ?_
    try simp only [Act.put, pt1, pt2, pt3]
    refine tku (i := 27) rfl ?_
    try simp only [Act.put, pt1, pt2, pt3]
    refine tk (i := 28) (v := ?vA0n128) rfl ?hyA0n128 ?restA0n128
    case hyA0n128 => (intro w hSw; (try dsimp only at hSw); go_simp <;> with_reducible rfl)
    try simp only [Act.put, pt1, pt2, pt3]
    refine tk (i := 29) (v := ?vA0n129) rfl ?hyA0n129 ?restA0n129
    case hyA0n129 => (intro w hSw; (try dsimp only at hSw); go_simp <;> with_reducible rfl)
    try simp only [Act.put, pt1, pt2, pt3]
    refine tku (i := 30) rfl ?_
    try simp only [Act.put, pt1, pt2, pt3]
    refine tku (i := 31) rfl ?_
    try simp only [Act.put, pt1, pt2, pt3]
    refine tku (i := 32) rfl ?_
    try simp only [Act.put, pt1, pt2, pt3]
    refine tk (i := 33) (v := ?vA0n133) rfl ?hyA0n133 ?restA0n133
    case hyA0n133 => (intro w hSw; (try dsimp only at hSw); go_simp <;> with_reducible rfl)
    try simp only [Act.put, pt1, pt2, pt3]
    refine tk (i := 34) (v := ?vA0n134) rfl ?hyA0n134 ?restA0n134
    case hyA0n134 => (intro w hSw; (try dsimp only at hSw); go_simp <;> with_reducible rfl)
    try simp only [Act.put, pt1, pt2, pt3]
    refine wpAnyH_done (by kernel_rfl) ?_ _
    go_wp2_with fail
    go_ret
    rw [HE.out]
    exact CatPost.same H.out (Nat.le_succ _) (HB1.out.trans below_drew1)
  have d0 : (decide ((v.key.length : Int) < 1) = false) := by simp; omega
  by_cases c1 : 16 < v.key.length
  case pos =>
    have d1 : (decide ((16 : Int) < (v.key.length : Int)) = true) := by simp; omega
    have HE := Lib.hid (show placedC C v = (12, C) from if_pos (by omega))
    refine wp_region_held_drew (S := (fun w' => w'.cell? ⟨w.heap.size, 1, none⟩ = some (encStr v.key) ∧ w'.cell? ⟨w.heap.size, 2, none⟩ = some (.int .i64 v.gen) ∧ w'.cell? ⟨w.heap.size, 6, none⟩ = some (.int .i64 v.size) ∧ w'.cell? ⟨p, 5, none⟩ = some (.int .i64 C.gen))) (by kernel_rfl) ⟨q1, q2, q6, q5⟩ (fun hHeld => ?_)
    refine tk (i := 0) (v := ?vA1n20) rfl ?hyA1n20 ?restA1n20
    case hyA1n20 => (intro w hSw; (try dsimp only at hSw); go_simp <;> with_reducible rfl)
    try simp only [Act.put, pt1, pt2, pt3]
    refine tk (i := 1) (v := ?vA1n21) rfl ?hyA1n21 ?restA1n21
    case hyA1n21 => (intro w hSw; (try dsimp only at hSw); go_simp <;> with_reducible rfl)
    try simp only [Act.put, pt1, pt2, pt3]
    refine tk (i := 2) (v := ?vA1n22) rfl ?hyA1n22 ?restA1n22
    case hyA1n22 => (intro w hSw; (try dsimp only at hSw); go_simp <;> with_reducible rfl)
    try simp only [Act.put, pt1, pt2, pt3]
    refine tk (i := 3) (v := ?vA1n23) rfl ?hyA1n23 ?restA1n23
    case hyA1n23 => (intro w hSw; (try dsimp only at hSw); go_simp <;> with_reducible rfl)
    try simp only [Act.put, pt1, pt2, pt3]
    refine tk (i := 4) (v := ?vA1n24) rfl ?hyA1n24 ?restA1n24
    case hyA1n24 => (intro w hSw; (try dsimp only at hSw); go_simp <;> with_reducible rfl)
    try simp only [Act.put, pt1, pt2, pt3]
    refine tk (i := 5) (v := ?vA1n25) rfl ?hyA1n25 ?restA1n25
    case hyA1n25 => (intro w hSw; (try dsimp only at hSw); go_simp <;> with_reducible rfl)
    try simp only [Act.put, pt1, pt2, pt3]
    refine tk (i := 6) (v := ?vA1n26) rfl ?hyA1n26 ?restA1n26
    case hyA1n26 => (intro w hSw; (try dsimp only at hSw); go_simp <;> with_reducible rfl)
    try simp only [Act.put, pt1, pt2, pt3]
    refine tk (i := 7) (v := ?vA1n27) rfl ?hyA1n27 ?restA1n27
    case hyA1n27 => (intro w hSw; (try dsimp only at hSw); go_simp <;> with_reducible rfl)
    try simp only [Act.put, pt1, pt2, pt3]
    refine tk (i := 8) (v := ?vA1n28) rfl ?hyA1n28 ?restA1n28
    case hyA1n28 => (intro w hSw; (try dsimp only at hSw); go_simp <;> with_reducible rfl)
    try simp only [Act.put, pt1, pt2, pt3]
    refine tk (i := 9) (v := ?vA1n29) rfl ?hyA1n29 ?restA1n29
    case hyA1n29 => (intro w hSw; (try dsimp only at hSw); go_simp <;> with_reducible rfl)
    try simp only [Act.put, pt1, pt2, pt3]
    refine tk (i := 10) (v := ?vA1n210) rfl ?hyA1n210 ?restA1n210
    case hyA1n210 => (intro w hSw; (try dsimp only at hSw); go_simp <;> with_reducible rfl)
    try simp only [Act.put, pt1, pt2, pt3]
    refine tku (i := 11) rfl ?_
    try simp only [Act.put, pt1, pt2, pt3]
    refine tku (i := 12) rfl ?_
    try simp only [Act.put, pt1, pt2, pt3]
    refine tku (i := 13) rfl ?_
    try simp only [Act.put, pt1, pt2, pt3]
    refine tk (i := 14) (v := ?vA1n214) rfl ?hyA1n214 ?restA1n214
    case hyA1n214 => (intro w hSw; (try dsimp only at hSw); go_simp <;> with_reducible rfl)
    try simp only [Act.put, pt1, pt2, pt3]
    refine tk (i := 15) (v := ?vA1n215) rfl ?hyA1n215 ?restA1n215
    case hyA1n215 => (intro w hSw; (try dsimp only at hSw); go_simp <;> with_reducible rfl)
    try simp only [Act.put, pt1, pt2, pt3]
    refine tku (i := 16) rfl ?_
    try simp only [Act.put, pt1, pt2, pt3]
    refine tku (i := 17) rfl ?_
    try simp only [Act.put, pt1, pt2, pt3]
    refine tku (i := 18) rfl ?_
    try simp only [Act.put, pt1, pt2, pt3]
    refine tku (i := 19) rfl ?_
    try simp only [Act.put, pt1, pt2, pt3]
    refine tku (i := 20) rfl ?_
    try simp only [Act.put, pt1, pt2, pt3]
    refine tku (i := 21) rfl ?_
    try simp only [Act.put, pt1, pt2, pt3]
    refine tku (i := 22) rfl ?_
    try simp only [Act.put, pt1, pt2, pt3]
    refine tk (i := 23) (v := ?vA1n223) rfl ?hyA1n223 ?restA1n223
    case hyA1n223 => (intro w hSw; (try dsimp only at hSw); go_simp <;> with_reducible rfl)
    try simp only [Act.put, pt1, pt2, pt3]
    refine tk (i := 24) (v := ?vA1n224) rfl ?hyA1n224 ?restA1n224
    case hyA1n224 => (intro w hSw; (try dsimp only at hSw); go_simp <;> with_reducible rfl)
    try simp only [Act.put, pt1, pt2, pt3]
    refine tku (i := 25) rfl ?_
    try simp only [Act.put, pt1, pt2, pt3]
    refine tku (i := 26) rfl ?_
    try simp only [Act.put, pt1, pt2, pt3]
    refine tku (i := 27) rfl ?_
    try simp only [Act.put, pt1, pt2, pt3]
    refine tk (i := 28) (v := ?vA1n228) rfl ?hyA1n228 ?restA1n228
    case hyA1n228 => (intro w hSw; (try dsimp only at hSw); go_simp <;> with_reducible rfl)
    try simp only [Act.put, pt1, pt2, pt3]
    refine tk (i := 29) (v := ?vA1n229) rfl ?hyA1n229 ?restA1n229
    case hyA1n229 => (intro w hSw; (try dsimp only at hSw); go_simp <;> with_reducible rfl)
    try simp only [Act.put, pt1, pt2, pt3]
    refine tku (i := 30) rfl ?_
    try simp only [Act.put, pt1, pt2, pt3]
    refine tku (i := 31) rfl ?_
    try simp only [Act.put, pt1, pt2, pt3]
    refine tku (i := 32) rfl ?_
    try simp only [Act.put, pt1, pt2, pt3]
    refine tk (i := 33) (v := ?vA1n233) rfl ?hyA1n233 ?restA1n233
    case hyA1n233 => (intro w hSw; (try dsimp only at hSw); go_simp <;> with_reducible rfl)
    try simp only [Act.put, pt1, pt2, pt3]
    refine tk (i := 34) (v := ?vA1n234) rfl ?hyA1n234 ?restA1n234
    case hyA1n234 => (intro w hSw; (try dsimp only at hSw); go_simp <;> with_reducible rfl)
    try simp only [Act.put, pt1, pt2, pt3]
    refine wpAnyH_done (by kernel_rfl) ?_ _
    go_wp2_with fail
    go_ret
    rw [HE.out]
    exact CatPost.same H.out (Nat.le_succ _) (HB1.out.trans below_drew1)
  have d1 : (decide ((16 : Int) < (v.key.length : Int)) = false) := by simp; omega
  by_cases c2 : v.gen < 1
  case pos =>
    have d2 : (decide (v.gen < 1) = true) := by simp; omega
    have HE := Lib.hid (show placedC C v = (12, C) from if_pos (by omega))
    refine wp_region_held_drew (S := (fun w' => w'.cell? ⟨w.heap.size, 1, none⟩ = some (encStr v.key) ∧ w'.cell? ⟨w.heap.size, 2, none⟩ = some (.int .i64 v.gen) ∧ w'.cell? ⟨w.heap.size, 6, none⟩ = some (.int .i64 v.size) ∧ w'.cell? ⟨p, 5, none⟩ = some (.int .i64 C.gen))) (by kernel_rfl) ⟨q1, q2, q6, q5⟩ (fun hHeld => ?_)
    refine tk (i := 0) (v := ?vA2n30) rfl ?hyA2n30 ?restA2n30
    case hyA2n30 => (intro w hSw; (try dsimp only at hSw); go_simp <;> with_reducible rfl)
    try simp only [Act.put, pt1, pt2, pt3]
    refine tk (i := 1) (v := ?vA2n31) rfl ?hyA2n31 ?restA2n31
    case hyA2n31 => (intro w hSw; (try dsimp only at hSw); go_simp <;> with_reducible rfl)
    try simp only [Act.put, pt1, pt2, pt3]
    refine tk (i := 2) (v := ?vA2n32) rfl ?hyA2n32 ?restA2n32
    case hyA2n32 => (intro w hSw; (try dsimp only at hSw); go_simp <;> with_reducible rfl)
    try simp only [Act.put, pt1, pt2, pt3]
    refine tk (i := 3) (v := ?vA2n33) rfl ?hyA2n33 ?restA2n33
    case hyA2n33 => (intro w hSw; (try dsimp only at hSw); go_simp <;> with_reducible rfl)
    try simp only [Act.put, pt1, pt2, pt3]
    refine tk (i := 4) (v := ?vA2n34) rfl ?hyA2n34 ?restA2n34
    case hyA2n34 => (intro w hSw; (try dsimp only at hSw); go_simp <;> with_reducible rfl)
    try simp only [Act.put, pt1, pt2, pt3]
    refine tk (i := 5) (v := ?vA2n35) rfl ?hyA2n35 ?restA2n35
    case hyA2n35 => (intro w hSw; (try dsimp only at hSw); go_simp <;> with_reducible rfl)
    try simp only [Act.put, pt1, pt2, pt3]
    refine tk (i := 6) (v := ?vA2n36) rfl ?hyA2n36 ?restA2n36
    case hyA2n36 => (intro w hSw; (try dsimp only at hSw); go_simp <;> with_reducible rfl)
    try simp only [Act.put, pt1, pt2, pt3]
    refine tk (i := 7) (v := ?vA2n37) rfl ?hyA2n37 ?restA2n37
    case hyA2n37 => (intro w hSw; (try dsimp only at hSw); go_simp <;> with_reducible rfl)
    try simp only [Act.put, pt1, pt2, pt3]
    refine tk (i := 8) (v := ?vA2n38) rfl ?hyA2n38 ?restA2n38
    case hyA2n38 => (intro w hSw; (try dsimp only at hSw); go_simp <;> with_reducible rfl)
    try simp only [Act.put, pt1, pt2, pt3]
    refine tk (i := 9) (v := ?vA2n39) rfl ?hyA2n39 ?restA2n39
    case hyA2n39 => (intro w hSw; (try dsimp only at hSw); go_simp <;> with_reducible rfl)
    try simp only [Act.put, pt1, pt2, pt3]
    refine tk (i := 10) (v := ?vA2n310) rfl ?hyA2n310 ?restA2n310
    case hyA2n310 => (intro w hSw; (try dsimp only at hSw); go_simp <;> with_reducible rfl)
    try simp only [Act.put, pt1, pt2, pt3]
    refine tk (i := 11) (v := ?vA2n311) rfl ?hyA2n311 ?restA2n311
    case hyA2n311 => (intro w hSw; (try dsimp only at hSw); go_simp <;> with_reducible rfl)
    try simp only [Act.put, pt1, pt2, pt3]
    refine tk (i := 12) (v := ?vA2n312) rfl ?hyA2n312 ?restA2n312
    case hyA2n312 => (intro w hSw; (try dsimp only at hSw); go_simp <;> with_reducible rfl)
    try simp only [Act.put, pt1, pt2, pt3]
    refine tk (i := 13) (v := ?vA2n313) rfl ?hyA2n313 ?restA2n313
    case hyA2n313 => (intro w hSw; (try dsimp only at hSw); go_simp <;> with_reducible rfl)
    try simp only [Act.put, pt1, pt2, pt3]
    refine tk (i := 14) (v := ?vA2n314) rfl ?hyA2n314 ?restA2n314
    case hyA2n314 => (intro w hSw; (try dsimp only at hSw); go_simp <;> with_reducible rfl)
    try simp only [Act.put, pt1, pt2, pt3]
    refine tk (i := 15) (v := ?vA2n315) rfl ?hyA2n315 ?restA2n315
    case hyA2n315 => (intro w hSw; (try dsimp only at hSw); go_simp <;> with_reducible rfl)
    try simp only [Act.put, pt1, pt2, pt3]
    refine tku (i := 16) rfl ?_
    try simp only [Act.put, pt1, pt2, pt3]
    refine tku (i := 17) rfl ?_
    try simp only [Act.put, pt1, pt2, pt3]
    refine tku (i := 18) rfl ?_
    try simp only [Act.put, pt1, pt2, pt3]
    refine tku (i := 19) rfl ?_
    try simp only [Act.put, pt1, pt2, pt3]
    refine tku (i := 20) rfl ?_
    try simp only [Act.put, pt1, pt2, pt3]
    refine tku (i := 21) rfl ?_
    try simp only [Act.put, pt1, pt2, pt3]
    refine tku (i := 22) rfl ?_
    try simp only [Act.put, pt1, pt2, pt3]
    refine tk (i := 23) (v := ?vA2n323) rfl ?hyA2n323 ?restA2n323
    case hyA2n323 => (intro w hSw; (try dsimp only at hSw); go_simp <;> with_reducible rfl)
    try simp only [Act.put, pt1, pt2, pt3]
    refine tk (i := 24) (v := ?vA2n324) rfl ?hyA2n324 ?restA2n324
    case hyA2n324 => (intro w hSw; (try dsimp only at hSw); go_simp <;> with_reducible rfl)
    try simp only [Act.put, pt1, pt2, pt3]
    refine tku (i := 25) rfl ?_
    try simp only [Act.put, pt1, pt2, pt3]
    refine tku (i := 26) rfl ?_
    try simp only [Act.put, pt1, pt2, pt3]
    refine tku (i := 27) rfl ?_
    try simp only [Act.put, pt1, pt2, pt3]
    refine tk (i := 28) (v := ?vA2n328) rfl ?hyA2n328 ?restA2n328
    case hyA2n328 => (intro w hSw; (try dsimp only at hSw); go_simp <;> with_reducible rfl)
    try simp only [Act.put, pt1, pt2, pt3]
    refine tk (i := 29) (v := ?vA2n329) rfl ?hyA2n329 ?restA2n329
    case hyA2n329 => (intro w hSw; (try dsimp only at hSw); go_simp <;> with_reducible rfl)
    try simp only [Act.put, pt1, pt2, pt3]
    refine tku (i := 30) rfl ?_
    try simp only [Act.put, pt1, pt2, pt3]
    refine tku (i := 31) rfl ?_
    try simp only [Act.put, pt1, pt2, pt3]
    refine tku (i := 32) rfl ?_
    try simp only [Act.put, pt1, pt2, pt3]
    refine tk (i := 33) (v := ?vA2n333) rfl ?hyA2n333 ?restA2n333
    case hyA2n333 => (intro w hSw; (try dsimp only at hSw); go_simp <;> with_reducible rfl)
    try simp only [Act.put, pt1, pt2, pt3]
    refine tk (i := 34) (v := ?vA2n334) rfl ?hyA2n334 ?restA2n334
    case hyA2n334 => (intro w hSw; (try dsimp only at hSw); go_simp <;> with_reducible rfl)
    try simp only [Act.put, pt1, pt2, pt3]
    refine wpAnyH_done (by kernel_rfl) ?_ _
    go_wp2_with fail
    go_ret
    rw [HE.out]
    exact CatPost.same H.out (Nat.le_succ _) (HB1.out.trans below_drew1)
  have d2 : (decide (v.gen < 1) = false) := by simp; omega
  by_cases c3 : C.gen < v.gen
  case pos =>
    have d3 : (decide (C.gen < v.gen) = true) := by simp; omega
    have HE := Lib.hid (show placedC C v = (12, C) from if_pos (by omega))
    refine wp_region_held_drew (S := (fun w' => w'.cell? ⟨w.heap.size, 1, none⟩ = some (encStr v.key) ∧ w'.cell? ⟨w.heap.size, 2, none⟩ = some (.int .i64 v.gen) ∧ w'.cell? ⟨w.heap.size, 6, none⟩ = some (.int .i64 v.size) ∧ w'.cell? ⟨p, 5, none⟩ = some (.int .i64 C.gen))) (by kernel_rfl) ⟨q1, q2, q6, q5⟩ (fun hHeld => ?_)
    refine tk (i := 0) (v := ?vA3n40) rfl ?hyA3n40 ?restA3n40
    case hyA3n40 => (intro w hSw; (try dsimp only at hSw); go_simp <;> with_reducible rfl)
    try simp only [Act.put, pt1, pt2, pt3]
    refine tk (i := 1) (v := ?vA3n41) rfl ?hyA3n41 ?restA3n41
    case hyA3n41 => (intro w hSw; (try dsimp only at hSw); go_simp <;> with_reducible rfl)
    try simp only [Act.put, pt1, pt2, pt3]
    refine tk (i := 2) (v := ?vA3n42) rfl ?hyA3n42 ?restA3n42
    case hyA3n42 => (intro w hSw; (try dsimp only at hSw); go_simp <;> with_reducible rfl)
    try simp only [Act.put, pt1, pt2, pt3]
    refine tk (i := 3) (v := ?vA3n43) rfl ?hyA3n43 ?restA3n43
    case hyA3n43 => (intro w hSw; (try dsimp only at hSw); go_simp <;> with_reducible rfl)
    try simp only [Act.put, pt1, pt2, pt3]
    refine tk (i := 4) (v := ?vA3n44) rfl ?hyA3n44 ?restA3n44
    case hyA3n44 => (intro w hSw; (try dsimp only at hSw); go_simp <;> with_reducible rfl)
    try simp only [Act.put, pt1, pt2, pt3]
    refine tk (i := 5) (v := ?vA3n45) rfl ?hyA3n45 ?restA3n45
    case hyA3n45 => (intro w hSw; (try dsimp only at hSw); go_simp <;> with_reducible rfl)
    try simp only [Act.put, pt1, pt2, pt3]
    refine tk (i := 6) (v := ?vA3n46) rfl ?hyA3n46 ?restA3n46
    case hyA3n46 => (intro w hSw; (try dsimp only at hSw); go_simp <;> with_reducible rfl)
    try simp only [Act.put, pt1, pt2, pt3]
    refine tk (i := 7) (v := ?vA3n47) rfl ?hyA3n47 ?restA3n47
    case hyA3n47 => (intro w hSw; (try dsimp only at hSw); go_simp <;> with_reducible rfl)
    try simp only [Act.put, pt1, pt2, pt3]
    refine tk (i := 8) (v := ?vA3n48) rfl ?hyA3n48 ?restA3n48
    case hyA3n48 => (intro w hSw; (try dsimp only at hSw); go_simp <;> with_reducible rfl)
    try simp only [Act.put, pt1, pt2, pt3]
    refine tk (i := 9) (v := ?vA3n49) rfl ?hyA3n49 ?restA3n49
    case hyA3n49 => (intro w hSw; (try dsimp only at hSw); go_simp <;> with_reducible rfl)
    try simp only [Act.put, pt1, pt2, pt3]
    refine tk (i := 10) (v := ?vA3n410) rfl ?hyA3n410 ?restA3n410
    case hyA3n410 => (intro w hSw; (try dsimp only at hSw); go_simp <;> with_reducible rfl)
    try simp only [Act.put, pt1, pt2, pt3]
    refine tk (i := 11) (v := ?vA3n411) rfl ?hyA3n411 ?restA3n411
    case hyA3n411 => (intro w hSw; (try dsimp only at hSw); go_simp <;> with_reducible rfl)
    try simp only [Act.put, pt1, pt2, pt3]
    refine tk (i := 12) (v := ?vA3n412) rfl ?hyA3n412 ?restA3n412
    case hyA3n412 => (intro w hSw; (try dsimp only at hSw); go_simp <;> with_reducible rfl)
    try simp only [Act.put, pt1, pt2, pt3]
    refine tk (i := 13) (v := ?vA3n413) rfl ?hyA3n413 ?restA3n413
    case hyA3n413 => (intro w hSw; (try dsimp only at hSw); go_simp <;> with_reducible rfl)
    try simp only [Act.put, pt1, pt2, pt3]
    refine tk (i := 14) (v := ?vA3n414) rfl ?hyA3n414 ?restA3n414
    case hyA3n414 => (intro w hSw; (try dsimp only at hSw); go_simp <;> with_reducible rfl)
    try simp only [Act.put, pt1, pt2, pt3]
    refine tk (i := 15) (v := ?vA3n415) rfl ?hyA3n415 ?restA3n415
    case hyA3n415 => (intro w hSw; (try dsimp only at hSw); go_simp <;> with_reducible rfl)
    try simp only [Act.put, pt1, pt2, pt3]
    refine tk (i := 16) (v := ?vA3n416) rfl ?hyA3n416 ?restA3n416
    case hyA3n416 => (intro w hSw; (try dsimp only at hSw); go_simp <;> with_reducible rfl)
    try simp only [Act.put, pt1, pt2, pt3]
    refine tk (i := 17) (v := ?vA3n417) rfl ?hyA3n417 ?restA3n417
    case hyA3n417 => (intro w hSw; (try dsimp only at hSw); go_simp <;> with_reducible rfl)
    try simp only [Act.put, pt1, pt2, pt3]
    refine tk (i := 18) (v := ?vA3n418) rfl ?hyA3n418 ?restA3n418
    case hyA3n418 => (intro w hSw; (try dsimp only at hSw); go_simp <;> with_reducible rfl)
    try simp only [Act.put, pt1, pt2, pt3]
    refine tk (i := 19) (v := ?vA3n419) rfl ?hyA3n419 ?restA3n419
    case hyA3n419 => (intro w hSw; (try dsimp only at hSw); go_simp <;> with_reducible rfl)
    try simp only [Act.put, pt1, pt2, pt3]
    refine tk (i := 20) (v := ?vA3n420) rfl ?hyA3n420 ?restA3n420
    case hyA3n420 => (intro w hSw; (try dsimp only at hSw); go_simp <;> with_reducible rfl)
    try simp only [Act.put, pt1, pt2, pt3]
    refine tk (i := 21) (v := ?vA3n421) rfl ?hyA3n421 ?restA3n421
    case hyA3n421 => (intro w hSw; (try dsimp only at hSw); go_simp <;> with_reducible rfl)
    try simp only [Act.put, pt1, pt2, pt3]
    refine tk (i := 22) (v := ?vA3n422) rfl ?hyA3n422 ?restA3n422
    case hyA3n422 => (intro w hSw; (try dsimp only at hSw); go_simp <;> with_reducible rfl)
    try simp only [Act.put, pt1, pt2, pt3]
    refine tk (i := 23) (v := ?vA3n423) rfl ?hyA3n423 ?restA3n423
    case hyA3n423 => (intro w hSw; (try dsimp only at hSw); go_simp <;> with_reducible rfl)
    try simp only [Act.put, pt1, pt2, pt3]
    refine tk (i := 24) (v := ?vA3n424) rfl ?hyA3n424 ?restA3n424
    case hyA3n424 => (intro w hSw; (try dsimp only at hSw); go_simp <;> with_reducible rfl)
    try simp only [Act.put, pt1, pt2, pt3]
    refine tku (i := 25) rfl ?_
    try simp only [Act.put, pt1, pt2, pt3]
    refine tku (i := 26) rfl ?_
    try simp only [Act.put, pt1, pt2, pt3]
    refine tku (i := 27) rfl ?_
    try simp only [Act.put, pt1, pt2, pt3]
    refine tk (i := 28) (v := ?vA3n428) rfl ?hyA3n428 ?restA3n428
    case hyA3n428 => (intro w hSw; (try dsimp only at hSw); go_simp <;> with_reducible rfl)
    try simp only [Act.put, pt1, pt2, pt3]
    refine tk (i := 29) (v := ?vA3n429) rfl ?hyA3n429 ?restA3n429
    case hyA3n429 => (intro w hSw; (try dsimp only at hSw); go_simp <;> with_reducible rfl)
    try simp only [Act.put, pt1, pt2, pt3]
    refine tku (i := 30) rfl ?_
    try simp only [Act.put, pt1, pt2, pt3]
    refine tku (i := 31) rfl ?_
    try simp only [Act.put, pt1, pt2, pt3]
    refine tku (i := 32) rfl ?_
    try simp only [Act.put, pt1, pt2, pt3]
    refine tk (i := 33) (v := ?vA3n433) rfl ?hyA3n433 ?restA3n433
    case hyA3n433 => (intro w hSw; (try dsimp only at hSw); go_simp <;> with_reducible rfl)
    try simp only [Act.put, pt1, pt2, pt3]
    refine tk (i := 34) (v := ?vA3n434) rfl ?hyA3n434 ?restA3n434
    case hyA3n434 => (intro w hSw; (try dsimp only at hSw); go_simp <;> with_reducible rfl)
    try simp only [Act.put, pt1, pt2, pt3]
    refine wpAnyH_done (by kernel_rfl) ?_ _
    go_wp2_with fail
    go_ret
    rw [HE.out]
    exact CatPost.same H.out (Nat.le_succ _) (HB1.out.trans below_drew1)
  have d3 : (decide (C.gen < v.gen) = false) := by simp; omega
  by_cases c4 : v.size < 0
  case pos =>
    have d4 : (decide (v.size < 0) = true) := by simp; omega
    have HE := Lib.hid (show placedC C v = (12, C) from if_pos (by omega))
    refine wp_region_held_drew (S := (fun w' => w'.cell? ⟨w.heap.size, 1, none⟩ = some (encStr v.key) ∧ w'.cell? ⟨w.heap.size, 2, none⟩ = some (.int .i64 v.gen) ∧ w'.cell? ⟨w.heap.size, 6, none⟩ = some (.int .i64 v.size) ∧ w'.cell? ⟨p, 5, none⟩ = some (.int .i64 C.gen))) (by kernel_rfl) ⟨q1, q2, q6, q5⟩ (fun hHeld => ?_)
    refine tk (i := 0) (v := ?vA4n50) rfl ?hyA4n50 ?restA4n50
    case hyA4n50 => (intro w hSw; (try dsimp only at hSw); go_simp <;> with_reducible rfl)
    try simp only [Act.put, pt1, pt2, pt3]
    refine tk (i := 1) (v := ?vA4n51) rfl ?hyA4n51 ?restA4n51
    case hyA4n51 => (intro w hSw; (try dsimp only at hSw); go_simp <;> with_reducible rfl)
    try simp only [Act.put, pt1, pt2, pt3]
    refine tk (i := 2) (v := ?vA4n52) rfl ?hyA4n52 ?restA4n52
    case hyA4n52 => (intro w hSw; (try dsimp only at hSw); go_simp <;> with_reducible rfl)
    try simp only [Act.put, pt1, pt2, pt3]
    refine tk (i := 3) (v := ?vA4n53) rfl ?hyA4n53 ?restA4n53
    case hyA4n53 => (intro w hSw; (try dsimp only at hSw); go_simp <;> with_reducible rfl)
    try simp only [Act.put, pt1, pt2, pt3]
    refine tk (i := 4) (v := ?vA4n54) rfl ?hyA4n54 ?restA4n54
    case hyA4n54 => (intro w hSw; (try dsimp only at hSw); go_simp <;> with_reducible rfl)
    try simp only [Act.put, pt1, pt2, pt3]
    refine tk (i := 5) (v := ?vA4n55) rfl ?hyA4n55 ?restA4n55
    case hyA4n55 => (intro w hSw; (try dsimp only at hSw); go_simp <;> with_reducible rfl)
    try simp only [Act.put, pt1, pt2, pt3]
    refine tk (i := 6) (v := ?vA4n56) rfl ?hyA4n56 ?restA4n56
    case hyA4n56 => (intro w hSw; (try dsimp only at hSw); go_simp <;> with_reducible rfl)
    try simp only [Act.put, pt1, pt2, pt3]
    refine tk (i := 7) (v := ?vA4n57) rfl ?hyA4n57 ?restA4n57
    case hyA4n57 => (intro w hSw; (try dsimp only at hSw); go_simp <;> with_reducible rfl)
    try simp only [Act.put, pt1, pt2, pt3]
    refine tk (i := 8) (v := ?vA4n58) rfl ?hyA4n58 ?restA4n58
    case hyA4n58 => (intro w hSw; (try dsimp only at hSw); go_simp <;> with_reducible rfl)
    try simp only [Act.put, pt1, pt2, pt3]
    refine tk (i := 9) (v := ?vA4n59) rfl ?hyA4n59 ?restA4n59
    case hyA4n59 => (intro w hSw; (try dsimp only at hSw); go_simp <;> with_reducible rfl)
    try simp only [Act.put, pt1, pt2, pt3]
    refine tk (i := 10) (v := ?vA4n510) rfl ?hyA4n510 ?restA4n510
    case hyA4n510 => (intro w hSw; (try dsimp only at hSw); go_simp <;> with_reducible rfl)
    try simp only [Act.put, pt1, pt2, pt3]
    refine tk (i := 11) (v := ?vA4n511) rfl ?hyA4n511 ?restA4n511
    case hyA4n511 => (intro w hSw; (try dsimp only at hSw); go_simp <;> with_reducible rfl)
    try simp only [Act.put, pt1, pt2, pt3]
    refine tk (i := 12) (v := ?vA4n512) rfl ?hyA4n512 ?restA4n512
    case hyA4n512 => (intro w hSw; (try dsimp only at hSw); go_simp <;> with_reducible rfl)
    try simp only [Act.put, pt1, pt2, pt3]
    refine tk (i := 13) (v := ?vA4n513) rfl ?hyA4n513 ?restA4n513
    case hyA4n513 => (intro w hSw; (try dsimp only at hSw); go_simp <;> with_reducible rfl)
    try simp only [Act.put, pt1, pt2, pt3]
    refine tk (i := 14) (v := ?vA4n514) rfl ?hyA4n514 ?restA4n514
    case hyA4n514 => (intro w hSw; (try dsimp only at hSw); go_simp <;> with_reducible rfl)
    try simp only [Act.put, pt1, pt2, pt3]
    refine tk (i := 15) (v := ?vA4n515) rfl ?hyA4n515 ?restA4n515
    case hyA4n515 => (intro w hSw; (try dsimp only at hSw); go_simp <;> with_reducible rfl)
    try simp only [Act.put, pt1, pt2, pt3]
    refine tk (i := 16) (v := ?vA4n516) rfl ?hyA4n516 ?restA4n516
    case hyA4n516 => (intro w hSw; (try dsimp only at hSw); go_simp <;> with_reducible rfl)
    try simp only [Act.put, pt1, pt2, pt3]
    refine tk (i := 17) (v := ?vA4n517) rfl ?hyA4n517 ?restA4n517
    case hyA4n517 => (intro w hSw; (try dsimp only at hSw); go_simp <;> with_reducible rfl)
    try simp only [Act.put, pt1, pt2, pt3]
    refine tk (i := 18) (v := ?vA4n518) rfl ?hyA4n518 ?restA4n518
    case hyA4n518 => (intro w hSw; (try dsimp only at hSw); go_simp <;> with_reducible rfl)
    try simp only [Act.put, pt1, pt2, pt3]
    refine tk (i := 19) (v := ?vA4n519) rfl ?hyA4n519 ?restA4n519
    case hyA4n519 => (intro w hSw; (try dsimp only at hSw); go_simp <;> with_reducible rfl)
    try simp only [Act.put, pt1, pt2, pt3]
    refine tk (i := 20) (v := ?vA4n520) rfl ?hyA4n520 ?restA4n520
    case hyA4n520 => (intro w hSw; (try dsimp only at hSw); go_simp <;> with_reducible rfl)
    try simp only [Act.put, pt1, pt2, pt3]
    refine tk (i := 21) (v := ?vA4n521) rfl ?hyA4n521 ?restA4n521
    case hyA4n521 => (intro w hSw; (try dsimp only at hSw); go_simp <;> with_reducible rfl)
    try simp only [Act.put, pt1, pt2, pt3]
    refine tk (i := 22) (v := ?vA4n522) rfl ?hyA4n522 ?restA4n522
    case hyA4n522 => (intro w hSw; (try dsimp only at hSw); go_simp <;> with_reducible rfl)
    try simp only [Act.put, pt1, pt2, pt3]
    refine tk (i := 23) (v := ?vA4n523) rfl ?hyA4n523 ?restA4n523
    case hyA4n523 => (intro w hSw; (try dsimp only at hSw); go_simp <;> with_reducible rfl)
    try simp only [Act.put, pt1, pt2, pt3]
    refine tk (i := 24) (v := ?vA4n524) rfl ?hyA4n524 ?restA4n524
    case hyA4n524 => (intro w hSw; (try dsimp only at hSw); go_simp <;> with_reducible rfl)
    try simp only [Act.put, pt1, pt2, pt3]
    refine tk (i := 25) (v := ?vA4n525) rfl ?hyA4n525 ?restA4n525
    case hyA4n525 => (intro w hSw; (try dsimp only at hSw); go_simp <;> with_reducible rfl)
    try simp only [Act.put, pt1, pt2, pt3]
    refine tk (i := 26) (v := ?vA4n526) rfl ?hyA4n526 ?restA4n526
    case hyA4n526 => (intro w hSw; (try dsimp only at hSw); go_simp <;> with_reducible rfl)
    try simp only [Act.put, pt1, pt2, pt3]
    refine tk (i := 27) (v := ?vA4n527) rfl ?hyA4n527 ?restA4n527
    case hyA4n527 => (intro w hSw; (try dsimp only at hSw); go_simp <;> with_reducible rfl)
    try simp only [Act.put, pt1, pt2, pt3]
    refine tk (i := 28) (v := ?vA4n528) rfl ?hyA4n528 ?restA4n528
    case hyA4n528 => (intro w hSw; (try dsimp only at hSw); go_simp <;> with_reducible rfl)
    try simp only [Act.put, pt1, pt2, pt3]
    refine tk (i := 29) (v := ?vA4n529) rfl ?hyA4n529 ?restA4n529
    case hyA4n529 => (intro w hSw; (try dsimp only at hSw); go_simp <;> with_reducible rfl)
    try simp only [Act.put, pt1, pt2, pt3]
    refine tku (i := 30) rfl ?_
    try simp only [Act.put, pt1, pt2, pt3]
    refine tku (i := 31) rfl ?_
    try simp only [Act.put, pt1, pt2, pt3]
    refine tku (i := 32) rfl ?_
    try simp only [Act.put, pt1, pt2, pt3]
    refine tk (i := 33) (v := ?vA4n533) rfl ?hyA4n533 ?restA4n533
    case hyA4n533 => (intro w hSw; (try dsimp only at hSw); go_simp <;> with_reducible rfl)
    try simp only [Act.put, pt1, pt2, pt3]
    refine tk (i := 34) (v := ?vA4n534) rfl ?hyA4n534 ?restA4n534
    case hyA4n534 => (intro w hSw; (try dsimp only at hSw); go_simp <;> with_reducible rfl)
    try simp only [Act.put, pt1, pt2, pt3]
    refine wpAnyH_done (by kernel_rfl) ?_ _
    go_wp2_with fail
    go_ret
    rw [HE.out]
    exact CatPost.same H.out (Nat.le_succ _) (HB1.out.trans below_drew1)
  have d4 : (decide (v.size < 0) = false) := by simp; omega
  by_cases c5 : 512 < v.size
  case pos =>
    have d5 : (decide (512 < v.size) = true) := by simp; omega
    have HE := Lib.hid (show placedC C v = (12, C) from if_pos (by omega))
    refine wp_region_held_drew (S := (fun w' => w'.cell? ⟨w.heap.size, 1, none⟩ = some (encStr v.key) ∧ w'.cell? ⟨w.heap.size, 2, none⟩ = some (.int .i64 v.gen) ∧ w'.cell? ⟨w.heap.size, 6, none⟩ = some (.int .i64 v.size) ∧ w'.cell? ⟨p, 5, none⟩ = some (.int .i64 C.gen))) (by kernel_rfl) ⟨q1, q2, q6, q5⟩ (fun hHeld => ?_)
    refine tk (i := 0) (v := ?vA5n60) rfl ?hyA5n60 ?restA5n60
    case hyA5n60 => (intro w hSw; (try dsimp only at hSw); go_simp <;> with_reducible rfl)
    try simp only [Act.put, pt1, pt2, pt3]
    refine tk (i := 1) (v := ?vA5n61) rfl ?hyA5n61 ?restA5n61
    case hyA5n61 => (intro w hSw; (try dsimp only at hSw); go_simp <;> with_reducible rfl)
    try simp only [Act.put, pt1, pt2, pt3]
    refine tk (i := 2) (v := ?vA5n62) rfl ?hyA5n62 ?restA5n62
    case hyA5n62 => (intro w hSw; (try dsimp only at hSw); go_simp <;> with_reducible rfl)
    try simp only [Act.put, pt1, pt2, pt3]
    refine tk (i := 3) (v := ?vA5n63) rfl ?hyA5n63 ?restA5n63
    case hyA5n63 => (intro w hSw; (try dsimp only at hSw); go_simp <;> with_reducible rfl)
    try simp only [Act.put, pt1, pt2, pt3]
    refine tk (i := 4) (v := ?vA5n64) rfl ?hyA5n64 ?restA5n64
    case hyA5n64 => (intro w hSw; (try dsimp only at hSw); go_simp <;> with_reducible rfl)
    try simp only [Act.put, pt1, pt2, pt3]
    refine tk (i := 5) (v := ?vA5n65) rfl ?hyA5n65 ?restA5n65
    case hyA5n65 => (intro w hSw; (try dsimp only at hSw); go_simp <;> with_reducible rfl)
    try simp only [Act.put, pt1, pt2, pt3]
    refine tk (i := 6) (v := ?vA5n66) rfl ?hyA5n66 ?restA5n66
    case hyA5n66 => (intro w hSw; (try dsimp only at hSw); go_simp <;> with_reducible rfl)
    try simp only [Act.put, pt1, pt2, pt3]
    refine tk (i := 7) (v := ?vA5n67) rfl ?hyA5n67 ?restA5n67
    case hyA5n67 => (intro w hSw; (try dsimp only at hSw); go_simp <;> with_reducible rfl)
    try simp only [Act.put, pt1, pt2, pt3]
    refine tk (i := 8) (v := ?vA5n68) rfl ?hyA5n68 ?restA5n68
    case hyA5n68 => (intro w hSw; (try dsimp only at hSw); go_simp <;> with_reducible rfl)
    try simp only [Act.put, pt1, pt2, pt3]
    refine tk (i := 9) (v := ?vA5n69) rfl ?hyA5n69 ?restA5n69
    case hyA5n69 => (intro w hSw; (try dsimp only at hSw); go_simp <;> with_reducible rfl)
    try simp only [Act.put, pt1, pt2, pt3]
    refine tk (i := 10) (v := ?vA5n610) rfl ?hyA5n610 ?restA5n610
    case hyA5n610 => (intro w hSw; (try dsimp only at hSw); go_simp <;> with_reducible rfl)
    try simp only [Act.put, pt1, pt2, pt3]
    refine tk (i := 11) (v := ?vA5n611) rfl ?hyA5n611 ?restA5n611
    case hyA5n611 => (intro w hSw; (try dsimp only at hSw); go_simp <;> with_reducible rfl)
    try simp only [Act.put, pt1, pt2, pt3]
    refine tk (i := 12) (v := ?vA5n612) rfl ?hyA5n612 ?restA5n612
    case hyA5n612 => (intro w hSw; (try dsimp only at hSw); go_simp <;> with_reducible rfl)
    try simp only [Act.put, pt1, pt2, pt3]
    refine tk (i := 13) (v := ?vA5n613) rfl ?hyA5n613 ?restA5n613
    case hyA5n613 => (intro w hSw; (try dsimp only at hSw); go_simp <;> with_reducible rfl)
    try simp only [Act.put, pt1, pt2, pt3]
    refine tk (i := 14) (v := ?vA5n614) rfl ?hyA5n614 ?restA5n614
    case hyA5n614 => (intro w hSw; (try dsimp only at hSw); go_simp <;> with_reducible rfl)
    try simp only [Act.put, pt1, pt2, pt3]
    refine tk (i := 15) (v := ?vA5n615) rfl ?hyA5n615 ?restA5n615
    case hyA5n615 => (intro w hSw; (try dsimp only at hSw); go_simp <;> with_reducible rfl)
    try simp only [Act.put, pt1, pt2, pt3]
    refine tk (i := 16) (v := ?vA5n616) rfl ?hyA5n616 ?restA5n616
    case hyA5n616 => (intro w hSw; (try dsimp only at hSw); go_simp <;> with_reducible rfl)
    try simp only [Act.put, pt1, pt2, pt3]
    refine tk (i := 17) (v := ?vA5n617) rfl ?hyA5n617 ?restA5n617
    case hyA5n617 => (intro w hSw; (try dsimp only at hSw); go_simp <;> with_reducible rfl)
    try simp only [Act.put, pt1, pt2, pt3]
    refine tk (i := 18) (v := ?vA5n618) rfl ?hyA5n618 ?restA5n618
    case hyA5n618 => (intro w hSw; (try dsimp only at hSw); go_simp <;> with_reducible rfl)
    try simp only [Act.put, pt1, pt2, pt3]
    refine tk (i := 19) (v := ?vA5n619) rfl ?hyA5n619 ?restA5n619
    case hyA5n619 => (intro w hSw; (try dsimp only at hSw); go_simp <;> with_reducible rfl)
    try simp only [Act.put, pt1, pt2, pt3]
    refine tk (i := 20) (v := ?vA5n620) rfl ?hyA5n620 ?restA5n620
    case hyA5n620 => (intro w hSw; (try dsimp only at hSw); go_simp <;> with_reducible rfl)
    try simp only [Act.put, pt1, pt2, pt3]
    refine tk (i := 21) (v := ?vA5n621) rfl ?hyA5n621 ?restA5n621
    case hyA5n621 => (intro w hSw; (try dsimp only at hSw); go_simp <;> with_reducible rfl)
    try simp only [Act.put, pt1, pt2, pt3]
    refine tk (i := 22) (v := ?vA5n622) rfl ?hyA5n622 ?restA5n622
    case hyA5n622 => (intro w hSw; (try dsimp only at hSw); go_simp <;> with_reducible rfl)
    try simp only [Act.put, pt1, pt2, pt3]
    refine tk (i := 23) (v := ?vA5n623) rfl ?hyA5n623 ?restA5n623
    case hyA5n623 => (intro w hSw; (try dsimp only at hSw); go_simp <;> with_reducible rfl)
    try simp only [Act.put, pt1, pt2, pt3]
    refine tk (i := 24) (v := ?vA5n624) rfl ?hyA5n624 ?restA5n624
    case hyA5n624 => (intro w hSw; (try dsimp only at hSw); go_simp <;> with_reducible rfl)
    try simp only [Act.put, pt1, pt2, pt3]
    refine tk (i := 25) (v := ?vA5n625) rfl ?hyA5n625 ?restA5n625
    case hyA5n625 => (intro w hSw; (try dsimp only at hSw); go_simp <;> with_reducible rfl)
    try simp only [Act.put, pt1, pt2, pt3]
    refine tk (i := 26) (v := ?vA5n626) rfl ?hyA5n626 ?restA5n626
    case hyA5n626 => (intro w hSw; (try dsimp only at hSw); go_simp <;> with_reducible rfl)
    try simp only [Act.put, pt1, pt2, pt3]
    refine tk (i := 27) (v := ?vA5n627) rfl ?hyA5n627 ?restA5n627
    case hyA5n627 => (intro w hSw; (try dsimp only at hSw); go_simp <;> with_reducible rfl)
    try simp only [Act.put, pt1, pt2, pt3]
    refine tk (i := 28) (v := ?vA5n628) rfl ?hyA5n628 ?restA5n628
    case hyA5n628 => (intro w hSw; (try dsimp only at hSw); go_simp <;> with_reducible rfl)
    try simp only [Act.put, pt1, pt2, pt3]
    refine tk (i := 29) (v := ?vA5n629) rfl ?hyA5n629 ?restA5n629
    case hyA5n629 => (intro w hSw; (try dsimp only at hSw); go_simp <;> with_reducible rfl)
    try simp only [Act.put, pt1, pt2, pt3]
    refine tk (i := 30) (v := ?vA5n630) rfl ?hyA5n630 ?restA5n630
    case hyA5n630 => (intro w hSw; (try dsimp only at hSw); go_simp <;> with_reducible rfl)
    try simp only [Act.put, pt1, pt2, pt3]
    refine tk (i := 31) (v := ?vA5n631) rfl ?hyA5n631 ?restA5n631
    case hyA5n631 => (intro w hSw; (try dsimp only at hSw); go_simp <;> with_reducible rfl)
    try simp only [Act.put, pt1, pt2, pt3]
    refine tk (i := 32) (v := ?vA5n632) rfl ?hyA5n632 ?restA5n632
    case hyA5n632 => (intro w hSw; (try dsimp only at hSw); go_simp <;> with_reducible rfl)
    try simp only [Act.put, pt1, pt2, pt3]
    refine tk (i := 33) (v := ?vA5n633) rfl ?hyA5n633 ?restA5n633
    case hyA5n633 => (intro w hSw; (try dsimp only at hSw); go_simp <;> with_reducible rfl)
    try simp only [Act.put, pt1, pt2, pt3]
    refine tk (i := 34) (v := ?vA5n634) rfl ?hyA5n634 ?restA5n634
    case hyA5n634 => (intro w hSw; (try dsimp only at hSw); go_simp <;> with_reducible rfl)
    try simp only [Act.put, pt1, pt2, pt3]
    refine wpAnyH_done (by kernel_rfl) ?_ _
    go_wp2_with fail
    go_ret
    rw [HE.out]
    exact CatPost.same H.out (Nat.le_succ _) (HB1.out.trans below_drew1)
  have d5 : (decide (512 < v.size) = false) := by simp; omega
  have hno : ¬ (v.key.length < 1 ∨ 16 < v.key.length ∨ v.gen < 1 ∨ C.gen < v.gen ∨ v.size < 0 ∨ 512 < v.size) := by omega
  have HNO := Lib.hid hno
  clear hno
  refine wp_region_held_drew (S := (fun w' => w'.cell? ⟨w.heap.size, 1, none⟩ = some (encStr v.key) ∧ w'.cell? ⟨w.heap.size, 2, none⟩ = some (.int .i64 v.gen) ∧ w'.cell? ⟨w.heap.size, 6, none⟩ = some (.int .i64 v.size) ∧ w'.cell? ⟨p, 5, none⟩ = some (.int .i64 C.gen))) (by kernel_rfl) ⟨q1, q2, q6, q5⟩ (fun hHeld => ?_)
  refine tk (i := 0) (v := ?vBn70) rfl ?hyBn70 ?restBn70
  case hyBn70 => (intro w hSw; (try dsimp only at hSw); go_simp <;> with_reducible rfl)
  try simp only [Act.put, pt1, pt2, pt3]
  refine tk (i := 1) (v := ?vBn71) rfl ?hyBn71 ?restBn71
  case hyBn71 => (intro w hSw; (try dsimp only at hSw); go_simp <;> with_reducible rfl)
  try simp only [Act.put, pt1, pt2, pt3]
  refine tk (i := 2) (v := ?vBn72) rfl ?hyBn72 ?restBn72
  case hyBn72 => (intro w hSw; (try dsimp only at hSw); go_simp <;> with_reducible rfl)
  try simp only [Act.put, pt1, pt2, pt3]
  refine tk (i := 3) (v := ?vBn73) rfl ?hyBn73 ?restBn73
  case hyBn73 => (intro w hSw; (try dsimp only at hSw); go_simp <;> with_reducible rfl)
  try simp only [Act.put, pt1, pt2, pt3]
  refine tk (i := 4) (v := ?vBn74) rfl ?hyBn74 ?restBn74
  case hyBn74 => (intro w hSw; (try dsimp only at hSw); go_simp <;> with_reducible rfl)
  try simp only [Act.put, pt1, pt2, pt3]
  refine tk (i := 5) (v := ?vBn75) rfl ?hyBn75 ?restBn75
  case hyBn75 => (intro w hSw; (try dsimp only at hSw); go_simp <;> with_reducible rfl)
  try simp only [Act.put, pt1, pt2, pt3]
  refine tk (i := 6) (v := ?vBn76) rfl ?hyBn76 ?restBn76
  case hyBn76 => (intro w hSw; (try dsimp only at hSw); go_simp <;> with_reducible rfl)
  try simp only [Act.put, pt1, pt2, pt3]
  refine tk (i := 7) (v := ?vBn77) rfl ?hyBn77 ?restBn77
  case hyBn77 => (intro w hSw; (try dsimp only at hSw); go_simp <;> with_reducible rfl)
  try simp only [Act.put, pt1, pt2, pt3]
  refine tk (i := 8) (v := ?vBn78) rfl ?hyBn78 ?restBn78
  case hyBn78 => (intro w hSw; (try dsimp only at hSw); go_simp <;> with_reducible rfl)
  try simp only [Act.put, pt1, pt2, pt3]
  refine tk (i := 9) (v := ?vBn79) rfl ?hyBn79 ?restBn79
  case hyBn79 => (intro w hSw; (try dsimp only at hSw); go_simp <;> with_reducible rfl)
  try simp only [Act.put, pt1, pt2, pt3]
  refine tk (i := 10) (v := ?vBn710) rfl ?hyBn710 ?restBn710
  case hyBn710 => (intro w hSw; (try dsimp only at hSw); go_simp <;> with_reducible rfl)
  try simp only [Act.put, pt1, pt2, pt3]
  refine tk (i := 11) (v := ?vBn711) rfl ?hyBn711 ?restBn711
  case hyBn711 => (intro w hSw; (try dsimp only at hSw); go_simp <;> with_reducible rfl)
  try simp only [Act.put, pt1, pt2, pt3]
  refine tk (i := 12) (v := ?vBn712) rfl ?hyBn712 ?restBn712
  case hyBn712 => (intro w hSw; (try dsimp only at hSw); go_simp <;> with_reducible rfl)
  try simp only [Act.put, pt1, pt2, pt3]
  refine tk (i := 13) (v := ?vBn713) rfl ?hyBn713 ?restBn713
  case hyBn713 => (intro w hSw; (try dsimp only at hSw); go_simp <;> with_reducible rfl)
  try simp only [Act.put, pt1, pt2, pt3]
  refine tk (i := 14) (v := ?vBn714) rfl ?hyBn714 ?restBn714
  case hyBn714 => (intro w hSw; (try dsimp only at hSw); go_simp <;> with_reducible rfl)
  try simp only [Act.put, pt1, pt2, pt3]
  refine tk (i := 15) (v := ?vBn715) rfl ?hyBn715 ?restBn715
  case hyBn715 => (intro w hSw; (try dsimp only at hSw); go_simp <;> with_reducible rfl)
  try simp only [Act.put, pt1, pt2, pt3]
  refine tk (i := 16) (v := ?vBn716) rfl ?hyBn716 ?restBn716
  case hyBn716 => (intro w hSw; (try dsimp only at hSw); go_simp <;> with_reducible rfl)
  try simp only [Act.put, pt1, pt2, pt3]
  refine tk (i := 17) (v := ?vBn717) rfl ?hyBn717 ?restBn717
  case hyBn717 => (intro w hSw; (try dsimp only at hSw); go_simp <;> with_reducible rfl)
  try simp only [Act.put, pt1, pt2, pt3]
  refine tk (i := 18) (v := ?vBn718) rfl ?hyBn718 ?restBn718
  case hyBn718 => (intro w hSw; (try dsimp only at hSw); go_simp <;> with_reducible rfl)
  try simp only [Act.put, pt1, pt2, pt3]
  refine tk (i := 19) (v := ?vBn719) rfl ?hyBn719 ?restBn719
  case hyBn719 => (intro w hSw; (try dsimp only at hSw); go_simp <;> with_reducible rfl)
  try simp only [Act.put, pt1, pt2, pt3]
  refine tk (i := 20) (v := ?vBn720) rfl ?hyBn720 ?restBn720
  case hyBn720 => (intro w hSw; (try dsimp only at hSw); go_simp <;> with_reducible rfl)
  try simp only [Act.put, pt1, pt2, pt3]
  refine tk (i := 21) (v := ?vBn721) rfl ?hyBn721 ?restBn721
  case hyBn721 => (intro w hSw; (try dsimp only at hSw); go_simp <;> with_reducible rfl)
  try simp only [Act.put, pt1, pt2, pt3]
  refine tk (i := 22) (v := ?vBn722) rfl ?hyBn722 ?restBn722
  case hyBn722 => (intro w hSw; (try dsimp only at hSw); go_simp <;> with_reducible rfl)
  try simp only [Act.put, pt1, pt2, pt3]
  refine tk (i := 23) (v := ?vBn723) rfl ?hyBn723 ?restBn723
  case hyBn723 => (intro w hSw; (try dsimp only at hSw); go_simp <;> with_reducible rfl)
  try simp only [Act.put, pt1, pt2, pt3]
  refine tk (i := 24) (v := ?vBn724) rfl ?hyBn724 ?restBn724
  case hyBn724 => (intro w hSw; (try dsimp only at hSw); go_simp <;> with_reducible rfl)
  try simp only [Act.put, pt1, pt2, pt3]
  refine tk (i := 25) (v := ?vBn725) rfl ?hyBn725 ?restBn725
  case hyBn725 => (intro w hSw; (try dsimp only at hSw); go_simp <;> with_reducible rfl)
  try simp only [Act.put, pt1, pt2, pt3]
  refine tk (i := 26) (v := ?vBn726) rfl ?hyBn726 ?restBn726
  case hyBn726 => (intro w hSw; (try dsimp only at hSw); go_simp <;> with_reducible rfl)
  try simp only [Act.put, pt1, pt2, pt3]
  refine tk (i := 27) (v := ?vBn727) rfl ?hyBn727 ?restBn727
  case hyBn727 => (intro w hSw; (try dsimp only at hSw); go_simp <;> with_reducible rfl)
  try simp only [Act.put, pt1, pt2, pt3]
  refine tk (i := 28) (v := ?vBn728) rfl ?hyBn728 ?restBn728
  case hyBn728 => (intro w hSw; (try dsimp only at hSw); go_simp <;> with_reducible rfl)
  try simp only [Act.put, pt1, pt2, pt3]
  refine tk (i := 29) (v := ?vBn729) rfl ?hyBn729 ?restBn729
  case hyBn729 => (intro w hSw; (try dsimp only at hSw); go_simp <;> with_reducible rfl)
  try simp only [Act.put, pt1, pt2, pt3]
  refine tk (i := 30) (v := ?vBn730) rfl ?hyBn730 ?restBn730
  case hyBn730 => (intro w hSw; (try dsimp only at hSw); go_simp <;> with_reducible rfl)
  try simp only [Act.put, pt1, pt2, pt3]
  refine tk (i := 31) (v := ?vBn731) rfl ?hyBn731 ?restBn731
  case hyBn731 => (intro w hSw; (try dsimp only at hSw); go_simp <;> with_reducible rfl)
  try simp only [Act.put, pt1, pt2, pt3]
  refine tk (i := 32) (v := ?vBn732) rfl ?hyBn732 ?restBn732
  case hyBn732 => (intro w hSw; (try dsimp only at hSw); go_simp <;> with_reducible rfl)
  try simp only [Act.put, pt1, pt2, pt3]
  refine tk (i := 33) (v := ?vBn733) rfl ?hyBn733 ?restBn733
  case hyBn733 => (intro w hSw; (try dsimp only at hSw); go_simp <;> with_reducible rfl)
  try simp only [Act.put, pt1, pt2, pt3]
  refine tk (i := 34) (v := ?vBn734) rfl ?hyBn734 ?restBn734
  case hyBn734 => (intro w hSw; (try dsimp only at hSw); go_simp <;> with_reducible rfl)
  try simp only [Act.put, pt1, pt2, pt3]
  refine wpAnyH_done (by kernel_rfl) ?_ _
  go_upto_region 3 with fail
  have hg0 : 0 ≤ groupsI v.size ∧ groupsI v.size ≤ 4 := by unfold groupsI; omega
  have GI := Lib.hid (fun w' => cGroups v.size w' (by omega) (by omega))
  obtain ⟨gi, hgi⟩ : ∃ gi, groupsI v.size = gi := ⟨_, rfl⟩
  rw [hgi] at hg0
  have HGI := Lib.hid hgi
  have hga := hg0.1
  have hgb := hg0.2
  clear hgi hg0
  obtain ⟨w2, hw2⟩ : ∃ w2, w2 = w1.drew := ⟨_, rfl⟩
  rw [← hw2]
  have BB2 := Lib.hid (show Below w.heap.size w w2 by rw [hw2]; exact HB1.out.trans below_drew1)
  have R2 := Lib.hid (show CatR F w2 p N C sv tv SR ER be bb br by rw [hw2]; exact R1.out.keep (Nat.le_refl _) (fun _ _ _ => rfl))
  have BN2 := Lib.hid (show Blk w2 w.heap.size 32 (noteCells v D dn dc Q qn qc) by rw [hw2]; exact BN1.out)
  have HI2 := Lib.hid (show NoteIn w2 v D dn dc Q qn qc by rw [hw2]; exact HI1.out.below below_drew1)
  have W2 := Lib.hid hw2
  clear q1 q2 q6 q7 q5 hw2 R1 BN1
  have q6 : w2.cell? ⟨w.heap.size, 6, none⟩ = some (.int .i64 v.size) := BN2.out.cell 6
  have q7 : w2.cell? ⟨w.heap.size, 7, none⟩ = some (.slice Q qn qc) := BN2.out.cell 7
  have hw10 : IntKind.i64.wrap (gi * 10) = gi * 10 := by
    simp only [IntKind.wrap, IntKind.bits, IntKind.signed]
    simp
    omega
  by_cases hpl : (qn : Int) ≠ gi * 10
  case pos =>
    have e1 : ((qn : Int) != gi * 10) = true := by simpa using hpl
    have HE := Lib.hid (show placedC C v = (12, C) by unfold placedC; rw [if_neg HNO.out, if_pos (by rw [hql, HGI.out]; exact hpl)])
    clear hpl
    refine wp_region_held_drew (S := (fun w' => w'.cell? ⟨w.heap.size, 6, none⟩ = some (.int .i64 v.size) ∧ w'.cell? ⟨w.heap.size, 7, none⟩ = some (.slice Q qn qc))) (by kernel_rfl) ⟨q6, q7⟩ (fun hHeld => ?_)
    refine tk (i := 0) (v := ?vCn80) rfl ?hyCn80 ?restCn80
    case hyCn80 => (intro w hSw; (try dsimp only at hSw); go_simp <;> with_reducible rfl)
    try simp only [Act.put, pt1, pt2, pt3]
    refine tk (i := 1) (v := ?vCn81) rfl ?hyCn81 ?restCn81
    case hyCn81 => (intro w hSw; (try dsimp only at hSw); go_simp <;> with_reducible rfl)
    try simp only [Act.put, pt1, pt2, pt3]
    refine tk (i := 2) (v := ?vCn82) rfl ?hyCn82 ?restCn82
    case hyCn82 => (intro w hSw; (try dsimp only at hSw); go_simp <;> with_reducible rfl)
    try simp only [Act.put, pt1, pt2, pt3]
    refine tk (i := 3) (v := ?vCn83) rfl ?hyCn83 ?restCn83
    case hyCn83 => (intro w hSw; (try dsimp only at hSw); go_simp <;> with_reducible rfl)
    try simp only [Act.put, pt1, pt2, pt3]
    refine tk (i := 4) (v := ?vCn84) rfl ?hyCn84 ?restCn84
    case hyCn84 => (intro w hSw; (try dsimp only at hSw); go_simp <;> with_reducible rfl)
    try simp only [Act.put, pt1, pt2, pt3]
    refine wpAnyH_ready (rs := [5]) (by kernel_rfl) (by simp) ?_
    refine AllReadyH.cons rfl (fun K hK => ?_) AllReadyH.nil
    go_simp
    go_wp2_with (go_at_call 70; refine (GI.out _).mono ?_; rw [HGI.out]; rintro e w' ⟨rfl, rfl⟩)
    refine hK.out _ _ hHeld (fun hHeld => ?_)
    clear hK K
    refine tk (i := 6) (v := ?vCn86) rfl ?hyCn86 ?restCn86
    case hyCn86 => (intro w hSw; (try dsimp only at hSw); go_simp <;> with_reducible rfl)
    try simp only [Act.put, pt1, pt2, pt3]
    refine tk (i := 7) (v := ?vCn87) rfl ?hyCn87 ?restCn87
    case hyCn87 => (intro w hSw; (try dsimp only at hSw); go_simp <;> with_reducible rfl)
    try simp only [Act.put, pt1, pt2, pt3]
    refine tk (i := 8) (v := ?vCn88) rfl ?hyCn88 ?restCn88
    case hyCn88 => (intro w hSw; (try dsimp only at hSw); go_simp <;> with_reducible rfl)
    try simp only [Act.put, pt1, pt2, pt3]
    refine wpAnyH_done (by kernel_rfl) ?_ _
    go_wp2_with fail
    go_ret
    rw [HE.out]
    exact CatPost.same H.out (Nat.le_succ _) (BB2.out.trans below_drew1)
  have e1 : ((qn : Int) != gi * 10) = false := by simpa using hpl
  have HPL := Lib.hid hpl
  have HE := Lib.hid (show placedC C v = (0, { C with staged := delL C.staged v.key, entries := putL C.entries v.key ⟨v.gen, v.size, v.sum, v.places⟩ }) by unfold placedC; rw [if_neg HNO.out, if_neg (by rw [hql, HGI.out]; exact hpl)])
  clear hpl
  refine wp_region_held_drew (S := (fun w' => w'.cell? ⟨w.heap.size, 6, none⟩ = some (.int .i64 v.size) ∧ w'.cell? ⟨w.heap.size, 7, none⟩ = some (.slice Q qn qc))) (by kernel_rfl) ⟨q6, q7⟩ (fun hHeld => ?_)
  refine tk (i := 0) (v := ?vDn90) rfl ?hyDn90 ?restDn90
  case hyDn90 => (intro w hSw; (try dsimp only at hSw); go_simp <;> with_reducible rfl)
  try simp only [Act.put, pt1, pt2, pt3]
  refine tk (i := 1) (v := ?vDn91) rfl ?hyDn91 ?restDn91
  case hyDn91 => (intro w hSw; (try dsimp only at hSw); go_simp <;> with_reducible rfl)
  try simp only [Act.put, pt1, pt2, pt3]
  refine tk (i := 2) (v := ?vDn92) rfl ?hyDn92 ?restDn92
  case hyDn92 => (intro w hSw; (try dsimp only at hSw); go_simp <;> with_reducible rfl)
  try simp only [Act.put, pt1, pt2, pt3]
  refine tk (i := 3) (v := ?vDn93) rfl ?hyDn93 ?restDn93
  case hyDn93 => (intro w hSw; (try dsimp only at hSw); go_simp <;> with_reducible rfl)
  try simp only [Act.put, pt1, pt2, pt3]
  refine tk (i := 4) (v := ?vDn94) rfl ?hyDn94 ?restDn94
  case hyDn94 => (intro w hSw; (try dsimp only at hSw); go_simp <;> with_reducible rfl)
  try simp only [Act.put, pt1, pt2, pt3]
  refine wpAnyH_ready (rs := [5]) (by kernel_rfl) (by simp) ?_
  refine AllReadyH.cons rfl (fun K hK => ?_) AllReadyH.nil
  go_simp
  go_wp2_with (go_at_call 70; refine (GI.out _).mono ?_; rw [HGI.out]; rintro e w' ⟨rfl, rfl⟩)
  refine hK.out _ _ hHeld (fun hHeld => ?_)
  clear hK K
  refine tk (i := 6) (v := ?vDn96) rfl ?hyDn96 ?restDn96
  case hyDn96 => (intro w hSw; (try dsimp only at hSw); go_simp <;> with_reducible rfl)
  try simp only [Act.put, pt1, pt2, pt3]
  refine tk (i := 7) (v := ?vDn97) rfl ?hyDn97 ?restDn97
  case hyDn97 => (intro w hSw; (try dsimp only at hSw); go_simp <;> with_reducible rfl)
  try simp only [Act.put, pt1, pt2, pt3]
  refine tk (i := 8) (v := ?vDn98) rfl ?hyDn98 ?restDn98
  case hyDn98 => (intro w hSw; (try dsimp only at hSw); go_simp <;> with_reducible rfl)
  try simp only [Act.put, pt1, pt2, pt3]
  refine wpAnyH_done (by kernel_rfl) ?_ _
  go_upto_region 5 with fail
  obtain ⟨w3, hw3⟩ : ∃ w3, w3 = w2.drew := ⟨_, rfl⟩
  rw [← hw3]
  have BB3 := Lib.hid (show Below w.heap.size w w3 by rw [hw3]; exact BB2.out.trans below_drew1)
  have R3 := Lib.hid (show CatR F w3 p N C sv tv SR ER be bb br by rw [hw3]; exact R2.out.keep (Nat.le_refl _) (fun _ _ _ => rfl))
  have BN3 := Lib.hid (show Blk w3 w.heap.size 32 (noteCells v D dn dc Q qn qc) by rw [hw3]; exact BN2.out)
  have HI3 := Lib.hid (show NoteIn w3 v D dn dc Q qn qc by rw [hw3]; exact HI2.out.below below_drew1)
  have W3 := Lib.hid hw3
  clear q6 q7 hw3 R2 BN2 HI2
  have hsr : SR.length = C.staged.length := by rw [← R3.out.stgs, List.length_map]
  have kp0 : w3.cell? ⟨p, 0, none⟩ = some sv := R3.out.blk.cell 0
  have r1 : w3.cell? ⟨w.heap.size, 1, none⟩ = some (encStr v.key) := BN3.out.cell 1
  have IX := Lib.hid (cWaits0 F p _ sv SR v.key w3 kp0 R3.out.stg hsr)
  have hnd : (SR.map (·.key)).Nodup := by
    have h := R3.out.wf.nds
    rw [← R3.out.stgs, List.map_map] at h
    exact h
  have DC := Lib.hid (fun i hi => del_cut (key := v.key) (SR := SR) (i := i) hnd hi)
  have DN := Lib.hid (fun hi => del_none (key := v.key) (SR := SR) hi)
  have hti := idxP_ge (fun r : BlobR => decide (r.key = v.key)) SR
  obtain ⟨B0, n0, c0, hsv⟩ : ∃ B n c, sv = .slice B n c := by
    rcases R3.out.stg.form with ⟨h, _⟩ | ⟨g, cap, h, _⟩
    · exact ⟨_, _, _, h⟩
    · exact ⟨_, _, _, h⟩
  subst hsv
  generalize idxP (fun r : BlobR => decide (r.key = v.key)) SR = ti at *
  rw [R3.out.stgs] at DC DN
  have hst : C.staged.length ≤ 100000 := by have := R3.out.wf.staged; omega
  have hpz : p < w3.heap.size := R3.out.blk.size
  have hnz : w.heap.size < w3.heap.size := BN3.out.size
  have hm := R3.out.map_ne
  have WF := Lib.hid (placed_wf (k := v.key) (e := ⟨v.gen, v.size, v.sum, v.places⟩) R3.out.wf ⟨by omega, by omega⟩ ⟨by show 1 ≤ v.gen; omega, by show v.gen ≤ C.gen; omega⟩ ⟨by show 0 ≤ v.size; omega, by show v.size ≤ 512; omega⟩ (by show (v.places.length : Int) = groupsI v.size * 10; have := HPL.out; rw [hql, HGI.out]; omega) HSL.out)
  have hq40 : qn ≤ 1000000 := by have := HPL.out; omega
  clear hnd HPL
  by_cases ht : ti < 0
  case pos =>
    have d8 : decide (0 ≤ ti) = false := by simpa using ht
    have HT := Lib.hid ht
    clear ht
    go_upto_region 8 with (go_at_call 32; refine IX.out.mono ?_; rintro e wx ⟨rfl, hbx⟩; have BX := Lib.hid hbx; clear hbx)
    have HDX := Lib.hid (show Dropped F w3 wx p (.slice B0 n0 c0) SR C.staged v.key (.slice B0 n0 c0) SR from ⟨by rw [DN.out HT.out]; exact (OwnRow.owning ..).below R3.out.stg BX.out, by rw [DN.out HT.out]; exact R3.out.stgs, fun r hr => hr, Chg.of_below _ BX.out, rfl⟩)
    have BPX := Lib.hid (R3.out.blk.below BX.out hpz)
    have BNX := Lib.hid (BN3.out.below BX.out hnz)
    have PLX := Lib.hid (show PlacesIn wx Q qn v.places from (HI3.out.below BX.out).places)
    have MEX := Lib.hid (R3.out.ents.of_eq (BX.out.block be R3.out.ents.lt))
    have hpx : p < wx.heap.size := BPX.out.size
    have hnx : w.heap.size < wx.heap.size := BNX.out.size
    clear kp0 r1
    have x0 : wx.cell? ⟨p, 1, none⟩ = some (.map (some be)) := BPX.out.cell 1
    have x1 : wx.cell? ⟨w.heap.size, 1, none⟩ = some (encStr v.key) := BNX.out.cell 1
    have x2 : wx.cell? ⟨w.heap.size, 2, none⟩ = some (.int .i64 v.gen) := BNX.out.cell 2
    have x5 : wx.cell? ⟨w.heap.size, 5, none⟩ = some (encStr v.sum) := BNX.out.cell 5
    have x6 : wx.cell? ⟨w.heap.size, 6, none⟩ = some (.int .i64 v.size) := BNX.out.cell 6
    have x7 : wx.cell? ⟨w.heap.size, 7, none⟩ = some (.slice Q qn qc) := BNX.out.cell 7
    refine wp_region_held_drew (S := (fun w' => w'.cell? ⟨p, 1, none⟩ = some (.map (some be)) ∧ w'.cell? ⟨w.heap.size, 1, none⟩ = some (encStr v.key) ∧ w'.cell? ⟨w.heap.size, 2, none⟩ = some (.int .i64 v.gen) ∧ w'.cell? ⟨w.heap.size, 5, none⟩ = some (encStr v.sum) ∧ w'.cell? ⟨w.heap.size, 6, none⟩ = some (.int .i64 v.size) ∧ w'.cell? ⟨w.heap.size, 7, none⟩ = some (.slice Q qn qc))) (by kernel_rfl) ⟨x0, x1, x2, x5, x6, x7⟩ (fun hHeld => ?_)
    refine tk (i := 0) (v := ?vEn100) rfl ?hyEn100 ?restEn100
    case hyEn100 => (intro w hSw; (try dsimp only at hSw); go_simp <;> with_reducible rfl)
    try simp only [Act.put, pt1, pt2, pt3]
    refine tk (i := 1) (v := ?vEn101) rfl ?hyEn101 ?restEn101
    case hyEn101 => (intro w hSw; (try dsimp only at hSw); go_simp <;> with_reducible rfl)
    try simp only [Act.put, pt1, pt2, pt3]
    refine tk (i := 2) (v := ?vEn102) rfl ?hyEn102 ?restEn102
    case hyEn102 => (intro w hSw; (try dsimp only at hSw); go_simp <;> with_reducible rfl)
    try simp only [Act.put, pt1, pt2, pt3]
    refine tk (i := 3) (v := ?vEn103) rfl ?hyEn103 ?restEn103
    case hyEn103 => (intro w hSw; (try dsimp only at hSw); go_simp <;> with_reducible rfl)
    try simp only [Act.put, pt1, pt2, pt3]
    refine tk (i := 4) (v := ?vEn104) rfl ?hyEn104 ?restEn104
    case hyEn104 => (intro w hSw; (try dsimp only at hSw); go_simp <;> with_reducible rfl)
    try simp only [Act.put, pt1, pt2, pt3]
    refine tk (i := 5) (v := ?vEn105) rfl ?hyEn105 ?restEn105
    case hyEn105 => (intro w hSw; (try dsimp only at hSw); go_simp <;> with_reducible rfl)
    try simp only [Act.put, pt1, pt2, pt3]
    refine tk (i := 6) (v := ?vEn106) rfl ?hyEn106 ?restEn106
    case hyEn106 => (intro w hSw; (try dsimp only at hSw); go_simp <;> with_reducible rfl)
    try simp only [Act.put, pt1, pt2, pt3]
    refine tk (i := 7) (v := ?vEn107) rfl ?hyEn107 ?restEn107
    case hyEn107 => (intro w hSw; (try dsimp only at hSw); go_simp <;> with_reducible rfl)
    try simp only [Act.put, pt1, pt2, pt3]
    refine tk (i := 8) (v := ?vEn108) rfl ?hyEn108 ?restEn108
    case hyEn108 => (intro w hSw; (try dsimp only at hSw); go_simp <;> with_reducible rfl)
    try simp only [Act.put, pt1, pt2, pt3]
    refine tk (i := 9) (v := ?vEn109) rfl ?hyEn109 ?restEn109
    case hyEn109 => (intro w hSw; (try dsimp only at hSw); go_simp <;> with_reducible rfl)
    try simp only [Act.put, pt1, pt2, pt3]
    refine tk (i := 10) (v := ?vEn1010) rfl ?hyEn1010 ?restEn1010
    case hyEn1010 => (intro w hSw; (try dsimp only at hSw); go_simp <;> with_reducible rfl)
    try simp only [Act.put, pt1, pt2, pt3]
    refine tk (i := 11) (v := ?vEn1011) rfl ?hyEn1011 ?restEn1011
    case hyEn1011 => (intro w hSw; (try dsimp only at hSw); go_simp <;> with_reducible rfl)
    try simp only [Act.put, pt1, pt2, pt3]
    refine tk (i := 12) (v := ?vEn1012) rfl ?hyEn1012 ?restEn1012
    case hyEn1012 => (intro w hSw; (try dsimp only at hSw); go_simp <;> with_reducible rfl)
    try simp only [Act.put, pt1, pt2, pt3]
    refine tk (i := 13) (v := ?vEn1013) rfl ?hyEn1013 ?restEn1013
    case hyEn1013 => (intro w hSw; (try dsimp only at hSw); go_simp <;> with_reducible rfl)
    try simp only [Act.put, pt1, pt2, pt3]
    refine tk (i := 14) (v := ?vEn1014) rfl ?hyEn1014 ?restEn1014
    case hyEn1014 => (intro w hSw; (try dsimp only at hSw); go_simp <;> with_reducible rfl)
    try simp only [Act.put, pt1, pt2, pt3]
    refine tk (i := 15) (v := ?vEn1015) rfl ?hyEn1015 ?restEn1015
    case hyEn1015 => (intro w hSw; (try dsimp only at hSw); go_simp <;> with_reducible rfl)
    try simp only [Act.put, pt1, pt2, pt3]
    refine wpAnyH_ready (rs := [16]) (by kernel_rfl) (by simp) ?_
    refine AllReadyH.cons rfl (fun K hK => ?_) AllReadyH.nil
    go_simp
    go_wp2_with (go_at_call 72; refine (pclone Q qn qc v.places _ HI3.out.pform hq40 (by exact PLX.out)).mono ?_; rintro e w5 ⟨B5, c5, rfl, ho5, hb5⟩; have BE5 := Lib.hid (show Below wx.heap.size wx w5 from ⟨hb5.os, hb5.tape, hb5.output, hb5.size, hb5.block⟩); have OW5 := Lib.hid (show w5.ownsRow wx.heap.size 95 2 (.slice B5 qn c5) qn (placeVals v.places) from ho5); have BP5 := Lib.hid (BPX.out.below BE5.out hpx); have BN5 := Lib.hid (BNX.out.below BE5.out hnx); obtain ⟨w6, hrun, hm6, hg6⟩ := (MEX.out.of_eq (w' := w5) (BE5.out.block be MEX.out.lt)).store (t := 63) (e := 43) Tryz.underlying63 (by simp only [maxLen]; omega) (k := v.key) hkl (.agg #[encStr v.key, .int .i64 v.gen, .int .i64 v.size, encStr v.sum, .slice B5 qn c5]); have hrun' : (Instr.mapUpdate 63 (.map (some be)) (encStr v.key) (.agg #[encStr v.key, .int .i64 v.gen, .int .i64 v.size, encStr v.sum, .slice B5 qn c5])).run Tryz.prog w5 = .ok () w6 := hrun; have BP6 := Lib.hid (BP5.out.grown hg6 (fun e => hm.1 (Option.some.inj e).symm)); have BN6 := Lib.hid (BN5.out.grown hg6 (fun e => blk_apart BNX.out MEX.out (Option.some.inj e).symm)); have M6 := Lib.hid hm6; have G6 := Lib.hid hg6; have y0 : w5.cell? ⟨p, 1, none⟩ = some (.map (some be)) := BP5.out.cell 1; have y1 : w5.cell? ⟨w.heap.size, 1, none⟩ = some (encStr v.key) := BN5.out.cell 1; have y2 : w5.cell? ⟨w.heap.size, 2, none⟩ = some (.int .i64 v.gen) := BN5.out.cell 2; have y5 : w5.cell? ⟨w.heap.size, 5, none⟩ = some (encStr v.sum) := BN5.out.cell 5; have y6 : w5.cell? ⟨w.heap.size, 6, none⟩ = some (.int .i64 v.size) := BN5.out.cell 6; have y7 : w5.cell? ⟨w.heap.size, 7, none⟩ = some (.slice Q qn qc) := BN5.out.cell 7; have z0 : w6.cell? ⟨p, 1, none⟩ = some (.map (some be)) := BP6.out.cell 1; have z1 : w6.cell? ⟨w.heap.size, 1, none⟩ = some (encStr v.key) := BN6.out.cell 1; have z2 : w6.cell? ⟨w.heap.size, 2, none⟩ = some (.int .i64 v.gen) := BN6.out.cell 2; have z5 : w6.cell? ⟨w.heap.size, 5, none⟩ = some (encStr v.sum) := BN6.out.cell 5; have z6 : w6.cell? ⟨w.heap.size, 6, none⟩ = some (.int .i64 v.size) := BN6.out.cell 6; have z7 : w6.cell? ⟨w.heap.size, 7, none⟩ = some (.slice Q qn qc) := BN6.out.cell 7; clear hrun ho5 hb5 hm6 hg6)
    clear hHeld
    refine hK.out _ _ ⟨y0, y1, y2, y5, y6, y7⟩ (fun hHeld => ?_)
    clear hK K
    refine tk (i := 17) (v := ?vEn1017) rfl ?hyEn1017 ?restEn1017
    case hyEn1017 => (intro w hSw; (try dsimp only at hSw); go_simp <;> with_reducible rfl)
    try simp only [Act.put, pt1, pt2, pt3]
    refine wpAnyH_ready (rs := [18]) (by kernel_rfl) (by simp) ?_
    refine AllReadyH.cons rfl (fun K hK => ?_) AllReadyH.nil
    go_simp
    clear hHeld
    refine hK.out _ _ ⟨z0, z1, z2, z5, z6, z7⟩ (fun hHeld => ?_)
    clear hK K
    refine wpAnyH_done (by kernel_rfl) ?_ _
    go_wp2_with fail
    go_ret
    rw [HE.out]
    exact placed_fin R3.out BB3.out HDX.out BPX.out BE5.out OW5.out (Nat.le_trans BB3.out.size (Nat.le_trans HDX.out.chg.size (Nat.le_refl _))) M6.out G6.out WF.out
  have d8 : decide (0 ≤ ti) = true := by simp; omega
  obtain ⟨i, rfl⟩ := Int.eq_ofNat_of_zero_le (show 0 ≤ ti by omega)
  obtain ⟨hcut, hil⟩ := DC.out i rfl
  obtain ⟨m, hmm⟩ : ∃ m, C.staged.length = i + 1 + m := ⟨C.staged.length - (i + 1), by omega⟩
  obtain ⟨g, cap, hsl, hF⟩ : ∃ g cap, (.slice B0 n0 c0 : Value) = .slice (some ⟨g, 0, none⟩) (i + 1 + m) cap ∧ F g := by
    rcases R3.out.stg.form with ⟨_, h⟩ | ⟨g, cap, h, _, _, hF, _⟩
    · omega
    · exact ⟨g, cap, by rw [h, hmm], hF⟩
  obtain ⟨rfl, rfl, rfl⟩ : B0 = some ⟨g, 0, none⟩ ∧ n0 = i + 1 + m ∧ c0 = cap := by injection hsl with a b c; exact ⟨a, b, c⟩
  have TM := Lib.hid (show OwnRow F w3 70 2 (.slice (some ⟨g, 0, none⟩) (i + 1 + m) c0) (i + 1 + m) (blobVals SR) by have h := R3.out.stg; rw [hmm] at h; exact h)
  have HCUT := Lib.hid hcut
  have hgp : g ≠ p := (R3.out.stg_ne rfl).1
  have hgl : g < w3.heap.size := (TM.out.1.lt g rfl).2
  have hlen : (SR.eraseIdx i).length = i + m := by rw [List.length_eraseIdx_of_lt hil, hsr, hmm]; omega
  have hlen2 : (delL C.staged v.key).length = i + m := by rw [← hcut, List.length_map, hlen]
  have BCUT := Lib.hid (blobVals_cut SR i hil)
  have HL2 := Lib.hid hlen2
  have hi63 : (i : Int) + 1 ≤ 9223372036854775807 := by omega
  clear hsl hcut hlen hlen2 hmm hil
  go_upto_region 8 with (first
    | (go_at_call 32; refine IX.out.mono ?_; rintro e w4 ⟨rfl, hb4⟩; have B4 := Lib.hid hb4; have k4 : w4.cell? ⟨p, 0, none⟩ = some (.slice (some ⟨g, 0, none⟩) (i + 1 + m) c0) := (hb4.cell (p := ⟨p, 0, none⟩) hpz).trans kp0; clear hb4)
    | (go_at_call 71; refine (dBlob F g c0 i m (blobVals SR) _ (by exact (OwnRow.owning ..).below TM.out B4.out) (blobVals_one _)).mono ?_; rintro e w5 ⟨rfl, ho5, hc5⟩; have HO5 := Lib.hid ho5; have HC5 := Lib.hid (show Chg (fun k => k = g) w4 w5 from ⟨hc5.os, hc5.tape, hc5.output, hc5.size, hc5.block⟩); have BP5 := Lib.hid ((R3.out.blk.below B4.out hpz).of_eq (hc5.block p (Nat.lt_of_lt_of_le hpz B4.out.size) (fun e => hgp e.symm))); have f5 : w5.frozen? ⟨p, 0, none⟩ = false := BP5.out.free 0; have kp5 : w5.cell? ⟨p, 0, none⟩ = some (.slice (some ⟨g, 0, none⟩) (i + 1 + m) c0) := BP5.out.cell 0; clear ho5 hc5))
  obtain ⟨wx, hwx⟩ : ∃ wx, wx = w5.setCell ⟨p, 0, none⟩ (.slice (some ⟨g, 0, none⟩) (i + m) c0) := ⟨_, rfl⟩
  rw [← hwx]
  have hc5x : Chg (fun k => k = p) w5 wx := by rw [hwx]; exact (Chg.refl (fun k => k = p) w5).store (p := ⟨p, 0, none⟩) (.inl rfl) _
  have hcx : Chg (fun k => k = p ∨ (Value.slice (some ⟨g, 0, none⟩) (i + 1 + m) c0).ownBlock = some k) w3 wx := ((Chg.of_below _ B4.out).trans (HC5.out.mono (fun k e => .inr (by rw [e]; rfl)))).trans (hc5x.mono (fun k e => .inl e))
  have HDX := Lib.hid (show Dropped F w3 wx p (.slice (some ⟨g, 0, none⟩) (i + 1 + m) c0) SR C.staged v.key (.slice (some ⟨g, 0, none⟩) (i + m) c0) (SR.eraseIdx i) from ⟨by
    rw [HL2.out, ← BCUT.out]
    exact HO5.out.chg hc5x (fun q hq e => hgp ((Option.some.inj hq).trans e)), HCUT.out, fun r hr => (List.eraseIdx_sublist ..).subset hr, hcx, rfl⟩)
  have BPX := Lib.hid (show Blk wx p 68 #[.slice (some ⟨g, 0, none⟩) (i + m) c0, .map (some be), .map (some bb), tv, .map (some br), .int .i64 C.gen] by rw [hwx]; exact BP5.out.store 0 _)
  have hnb3 : ¬ (w.heap.size = p ∨ (Value.slice (some ⟨g, 0, none⟩) (i + 1 + m) c0).ownBlock = some w.heap.size) := fun e => e.elim hnp (fun e => by
    obtain ⟨cs, hcs⟩ := own_blk TM.out.1 e
    exact blk_ne BN3.out hcs (by decide) rfl)
  have BNX := Lib.hid (BN3.out.of_eq (hcx.block _ hnz hnb3))
  have PLX := Lib.hid (show PlacesIn wx Q qn v.places from ⟨HI3.out.places.1, by
    rcases Nat.eq_zero_or_pos qn with h0 | h0
    · exact .inl ⟨h0, by have h1 := HI3.out.places.1; rw [h0] at h1; rw [List.eq_nil_of_length_eq_zero h1]; rfl⟩
    · exact HI3.out.places.2.keep fun b off hQ hbl => hcx.block b hbl (fun e => HAP.out h0 b off hQ (e.elim (fun e => e ▸ R3.out.fp) (fun e => R3.out.stg.2 b e)))⟩)
  have MEX := Lib.hid (R3.out.ents.of_eq (hcx.block be R3.out.ents.lt (fun e => e.elim (fun e => hm.1 e.symm) (fun e => (R3.out.stg_ne e).2.2.1 rfl))))
  have hpx : p < wx.heap.size := BPX.out.size
  have hnx : w.heap.size < wx.heap.size := BNX.out.size
  clear kp0 r1 k4 f5 kp5 hwx
  have x0 : wx.cell? ⟨p, 1, none⟩ = some (.map (some be)) := BPX.out.cell 1
  have x1 : wx.cell? ⟨w.heap.size, 1, none⟩ = some (encStr v.key) := BNX.out.cell 1
  have x2 : wx.cell? ⟨w.heap.size, 2, none⟩ = some (.int .i64 v.gen) := BNX.out.cell 2
  have x5 : wx.cell? ⟨w.heap.size, 5, none⟩ = some (encStr v.sum) := BNX.out.cell 5
  have x6 : wx.cell? ⟨w.heap.size, 6, none⟩ = some (.int .i64 v.size) := BNX.out.cell 6
  have x7 : wx.cell? ⟨w.heap.size, 7, none⟩ = some (.slice Q qn qc) := BNX.out.cell 7
  refine wp_region_held_drew (S := (fun w' => w'.cell? ⟨p, 1, none⟩ = some (.map (some be)) ∧ w'.cell? ⟨w.heap.size, 1, none⟩ = some (encStr v.key) ∧ w'.cell? ⟨w.heap.size, 2, none⟩ = some (.int .i64 v.gen) ∧ w'.cell? ⟨w.heap.size, 5, none⟩ = some (encStr v.sum) ∧ w'.cell? ⟨w.heap.size, 6, none⟩ = some (.int .i64 v.size) ∧ w'.cell? ⟨w.heap.size, 7, none⟩ = some (.slice Q qn qc))) (by kernel_rfl) ⟨x0, x1, x2, x5, x6, x7⟩ (fun hHeld => ?_)
  refine tk (i := 0) (v := ?vGn110) rfl ?hyGn110 ?restGn110
  case hyGn110 => (intro w hSw; (try dsimp only at hSw); go_simp <;> with_reducible rfl)
  try simp only [Act.put, pt1, pt2, pt3]
  refine tk (i := 1) (v := ?vGn111) rfl ?hyGn111 ?restGn111
  case hyGn111 => (intro w hSw; (try dsimp only at hSw); go_simp <;> with_reducible rfl)
  try simp only [Act.put, pt1, pt2, pt3]
  refine tk (i := 2) (v := ?vGn112) rfl ?hyGn112 ?restGn112
  case hyGn112 => (intro w hSw; (try dsimp only at hSw); go_simp <;> with_reducible rfl)
  try simp only [Act.put, pt1, pt2, pt3]
  refine tk (i := 3) (v := ?vGn113) rfl ?hyGn113 ?restGn113
  case hyGn113 => (intro w hSw; (try dsimp only at hSw); go_simp <;> with_reducible rfl)
  try simp only [Act.put, pt1, pt2, pt3]
  refine tk (i := 4) (v := ?vGn114) rfl ?hyGn114 ?restGn114
  case hyGn114 => (intro w hSw; (try dsimp only at hSw); go_simp <;> with_reducible rfl)
  try simp only [Act.put, pt1, pt2, pt3]
  refine tk (i := 5) (v := ?vGn115) rfl ?hyGn115 ?restGn115
  case hyGn115 => (intro w hSw; (try dsimp only at hSw); go_simp <;> with_reducible rfl)
  try simp only [Act.put, pt1, pt2, pt3]
  refine tk (i := 6) (v := ?vGn116) rfl ?hyGn116 ?restGn116
  case hyGn116 => (intro w hSw; (try dsimp only at hSw); go_simp <;> with_reducible rfl)
  try simp only [Act.put, pt1, pt2, pt3]
  refine tk (i := 7) (v := ?vGn117) rfl ?hyGn117 ?restGn117
  case hyGn117 => (intro w hSw; (try dsimp only at hSw); go_simp <;> with_reducible rfl)
  try simp only [Act.put, pt1, pt2, pt3]
  refine tk (i := 8) (v := ?vGn118) rfl ?hyGn118 ?restGn118
  case hyGn118 => (intro w hSw; (try dsimp only at hSw); go_simp <;> with_reducible rfl)
  try simp only [Act.put, pt1, pt2, pt3]
  refine tk (i := 9) (v := ?vGn119) rfl ?hyGn119 ?restGn119
  case hyGn119 => (intro w hSw; (try dsimp only at hSw); go_simp <;> with_reducible rfl)
  try simp only [Act.put, pt1, pt2, pt3]
  refine tk (i := 10) (v := ?vGn1110) rfl ?hyGn1110 ?restGn1110
  case hyGn1110 => (intro w hSw; (try dsimp only at hSw); go_simp <;> with_reducible rfl)
  try simp only [Act.put, pt1, pt2, pt3]
  refine tk (i := 11) (v := ?vGn1111) rfl ?hyGn1111 ?restGn1111
  case hyGn1111 => (intro w hSw; (try dsimp only at hSw); go_simp <;> with_reducible rfl)
  try simp only [Act.put, pt1, pt2, pt3]
  refine tk (i := 12) (v := ?vGn1112) rfl ?hyGn1112 ?restGn1112
  case hyGn1112 => (intro w hSw; (try dsimp only at hSw); go_simp <;> with_reducible rfl)
  try simp only [Act.put, pt1, pt2, pt3]
  refine tk (i := 13) (v := ?vGn1113) rfl ?hyGn1113 ?restGn1113
  case hyGn1113 => (intro w hSw; (try dsimp only at hSw); go_simp <;> with_reducible rfl)
  try simp only [Act.put, pt1, pt2, pt3]
  refine tk (i := 14) (v := ?vGn1114) rfl ?hyGn1114 ?restGn1114
  case hyGn1114 => (intro w hSw; (try dsimp only at hSw); go_simp <;> with_reducible rfl)
  try simp only [Act.put, pt1, pt2, pt3]
  refine tk (i := 15) (v := ?vGn1115) rfl ?hyGn1115 ?restGn1115
  case hyGn1115 => (intro w hSw; (try dsimp only at hSw); go_simp <;> with_reducible rfl)
  try simp only [Act.put, pt1, pt2, pt3]
  refine wpAnyH_ready (rs := [16]) (by kernel_rfl) (by simp) ?_
  refine AllReadyH.cons rfl (fun K hK => ?_) AllReadyH.nil
  go_simp
  go_wp2_with (go_at_call 72; refine (pclone Q qn qc v.places _ HI3.out.pform hq40 (by exact PLX.out)).mono ?_; rintro e w5 ⟨B5, c5, rfl, ho5, hb5⟩; have BE5 := Lib.hid (show Below wx.heap.size wx w5 from ⟨hb5.os, hb5.tape, hb5.output, hb5.size, hb5.block⟩); have OW5 := Lib.hid (show w5.ownsRow wx.heap.size 95 2 (.slice B5 qn c5) qn (placeVals v.places) from ho5); have BP5 := Lib.hid (BPX.out.below BE5.out hpx); have BN5 := Lib.hid (BNX.out.below BE5.out hnx); obtain ⟨w6, hrun, hm6, hg6⟩ := (MEX.out.of_eq (w' := w5) (BE5.out.block be MEX.out.lt)).store (t := 63) (e := 43) Tryz.underlying63 (by simp only [maxLen]; omega) (k := v.key) hkl (.agg #[encStr v.key, .int .i64 v.gen, .int .i64 v.size, encStr v.sum, .slice B5 qn c5]); have hrun' : (Instr.mapUpdate 63 (.map (some be)) (encStr v.key) (.agg #[encStr v.key, .int .i64 v.gen, .int .i64 v.size, encStr v.sum, .slice B5 qn c5])).run Tryz.prog w5 = .ok () w6 := hrun; have BP6 := Lib.hid (BP5.out.grown hg6 (fun e => hm.1 (Option.some.inj e).symm)); have BN6 := Lib.hid (BN5.out.grown hg6 (fun e => blk_apart BNX.out MEX.out (Option.some.inj e).symm)); have M6 := Lib.hid hm6; have G6 := Lib.hid hg6; have y0 : w5.cell? ⟨p, 1, none⟩ = some (.map (some be)) := BP5.out.cell 1; have y1 : w5.cell? ⟨w.heap.size, 1, none⟩ = some (encStr v.key) := BN5.out.cell 1; have y2 : w5.cell? ⟨w.heap.size, 2, none⟩ = some (.int .i64 v.gen) := BN5.out.cell 2; have y5 : w5.cell? ⟨w.heap.size, 5, none⟩ = some (encStr v.sum) := BN5.out.cell 5; have y6 : w5.cell? ⟨w.heap.size, 6, none⟩ = some (.int .i64 v.size) := BN5.out.cell 6; have y7 : w5.cell? ⟨w.heap.size, 7, none⟩ = some (.slice Q qn qc) := BN5.out.cell 7; have z0 : w6.cell? ⟨p, 1, none⟩ = some (.map (some be)) := BP6.out.cell 1; have z1 : w6.cell? ⟨w.heap.size, 1, none⟩ = some (encStr v.key) := BN6.out.cell 1; have z2 : w6.cell? ⟨w.heap.size, 2, none⟩ = some (.int .i64 v.gen) := BN6.out.cell 2; have z5 : w6.cell? ⟨w.heap.size, 5, none⟩ = some (encStr v.sum) := BN6.out.cell 5; have z6 : w6.cell? ⟨w.heap.size, 6, none⟩ = some (.int .i64 v.size) := BN6.out.cell 6; have z7 : w6.cell? ⟨w.heap.size, 7, none⟩ = some (.slice Q qn qc) := BN6.out.cell 7; clear hrun ho5 hb5 hm6 hg6)
  clear hHeld
  refine hK.out _ _ ⟨y0, y1, y2, y5, y6, y7⟩ (fun hHeld => ?_)
  clear hK K
  refine tk (i := 17) (v := ?vGn1117) rfl ?hyGn1117 ?restGn1117
  case hyGn1117 => (intro w hSw; (try dsimp only at hSw); go_simp <;> with_reducible rfl)
  try simp only [Act.put, pt1, pt2, pt3]
  refine wpAnyH_ready (rs := [18]) (by kernel_rfl) (by simp) ?_
  refine AllReadyH.cons rfl (fun K hK => ?_) AllReadyH.nil
  go_simp
  clear hHeld
  refine hK.out _ _ ⟨z0, z1, z2, z5, z6, z7⟩ (fun hHeld => ?_)
  clear hK K
  refine wpAnyH_done (by kernel_rfl) ?_ _
  go_wp2_with fail
  go_ret
  rw [HE.out]
  exact placed_fin R3.out BB3.out HDX.out BPX.out BE5.out OW5.out (Nat.le_trans BB3.out.size (Nat.le_trans HDX.out.chg.size (Nat.le_refl _))) M6.out G6.out WF.out
end
end Go.Proofs.YtmkccblcmiflfaaGreat
