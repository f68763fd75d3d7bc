/- A note that a blob is on cartridges. No condition beyond those that each theorem states. -/
import Derived.Test.YtmkccblcmiflfaaKC7
import Derived.Test.YtmkccblcmiflfaaKC8
namespace Go.Proofs.Ytmkccblcmiflfaa
open Go.RowKit Go.Maps Go.WideMaps

theorem blobVals_one (L : List BlobR) : ∀ u ∈ blobVals L, u.oneCell' = true := by
  intro u hu
  obtain ⟨q, _, hu⟩ := List.mem_flatMap.1 hu
  simp only [List.mem_cons, List.not_mem_nil, or_false] at hu
  rcases hu with rfl | rfl <;> rfl
theorem blobVals_cut (L : List BlobR) (i : Nat) (hi : i < L.length) : cutRow 2 i (blobVals L) = blobVals (L.eraseIdx i) := by
  induction L generalizing i with
  | nil => simp at hi
  | cons x L ih =>
    have hl : (blobVals (x :: L)) = [encStr x.key, .slice x.A x.n x.c] ++ blobVals L := rfl
    cases i with
    | zero =>
      unfold cutRow
      rw [hl, List.eraseIdx_cons_zero]
      rfl
    | succ i =>
      have := ih i (by simpa using hi)
      unfold cutRow at this ⊢
      rw [hl, List.eraseIdx_cons_succ, show (i + 1) * 2 = 2 + i * 2 by omega, show (i + 1 + 1) * 2 = 2 + (i + 1) * 2 by omega]
      have e1 : ∀ (P T : List Value) (n : Nat), P.length = 2 → (P ++ T).take (2 + n) = P ++ T.take n := fun P T n hP => by rw [List.take_append, hP, List.take_of_length_le (by omega)]; congr 1; congr 1; omega
      have e2 : ∀ (P T : List Value) (n : Nat), P.length = 2 → (P ++ T).drop (2 + n) = T.drop n := fun P T n hP => by rw [List.drop_append, hP, List.drop_eq_nil_of_le (by omega), List.nil_append]; congr 1; omega
      rw [e1 _ _ _ rfl, e2 _ _ _ rfl, List.append_assoc, this]
      rfl
theorem delL_same {β : Type} {L : List (Str × β)} {k : Str} (h : hasL L k = false) : delL L k = L := by
  unfold delL
  rw [List.filter_eq_self]
  intro q hq
  unfold hasL at h
  rw [List.any_eq_false] at h
  have := h q hq
  simpa using this
theorem del_cut {key : Str} : ∀ {SR : List BlobR} {i : Nat}, (SR.map (·.key)).Nodup → idxP (fun r : BlobR => decide (r.key = key)) SR = (i : Int) → (SR.eraseIdx i).map (fun r => (r.key, r.data)) = delL (SR.map fun r => (r.key, r.data)) key ∧ i < SR.length
  | [], i, _, h => by simp [idxP] at h
  | x :: SR, i, hn, h => by
    rw [List.map_cons, List.nodup_cons] at hn
    by_cases hx : x.key = key
    · have h0 : i = 0 := by simp [idxP, hx] at h; omega
      subst h0
      refine ⟨?_, by simp⟩
      rw [List.eraseIdx_cons_zero, List.map_cons]
      have hf : delL (SR.map fun r => (r.key, r.data)) key = SR.map fun r => (r.key, r.data) := delL_same (by
        cases hh : hasL (SR.map fun r => (r.key, r.data)) key with
        | false => rfl
        | true =>
          rw [hasL_mem, List.map_map] at hh
          rw [hx] at hn
          exact absurd hh hn.1)
      have : delL ((x.key, x.data) :: SR.map fun r => (r.key, r.data)) key = delL (SR.map fun r => (r.key, r.data)) key := by simp [delL, hx]
      rw [this, hf]
    · simp only [idxP, decide_eq_false hx, Bool.false_eq_true, if_false] at h
      split at h
      · omega
      · rename_i hlt
        obtain ⟨j, hj⟩ := Int.eq_ofNat_of_zero_le (show 0 ≤ idxP (fun r : BlobR => decide (r.key = key)) SR by omega)
        obtain rfl : i = j + 1 := by omega
        obtain ⟨h1, h2⟩ := del_cut hn.2 hj
        refine ⟨?_, by simpa using h2⟩
        rw [List.eraseIdx_cons_succ, List.map_cons, List.map_cons, h1]
        simp [delL, hx]
theorem del_none {key : Str} {SR : List BlobR} (h : idxP (fun r : BlobR => decide (r.key = key)) SR < 0) : delL (SR.map fun r => (r.key, r.data)) key = SR.map fun r => (r.key, r.data) := by
  refine delL_same ?_
  have := idxP_neg.1 h
  unfold hasL
  rw [List.any_map]
  exact this
/-- What waits, without one. -/
structure Dropped (F : Nat → Prop) (w w' : World) (p : Nat) (sv : Value) (SR : List BlobR) (st : List (Str × Str)) (key : Str) (sv' : Value) (SR' : List BlobR) : Prop where
  own : OwnRow F w' 61 2 sv' (delL st key).length (blobVals SR')
  eq : SR'.map (fun r => (r.key, r.data)) = delL st key
  sub : ∀ r ∈ SR', r ∈ SR
  chg : Chg (fun k => k = p ∨ sv.ownBlock = some k) w w'
  blk : sv'.ownBlock = sv.ownBlock
theorem ent_put (ER : List EntR) (r : EntR) : putL (entVals ER) r.key (entVal r) = entVals ((ER.filter fun x => !decide (x.key = r.key)) ++ [r]) := by
  unfold putL delL entVals
  rw [List.map_append, List.filter_map]
  rfl
theorem ent_put_e {ER : List EntR} {E : List (Str × EntV)} (h : ER.map (fun r => (r.key, r.e)) = E) (r : EntR) : ((ER.filter fun x => !decide (x.key = r.key)) ++ [r]).map (fun r => (r.key, r.e)) = putL E r.key r.e := by
  subst h
  unfold putL delL
  rw [List.map_append, List.filter_map]
  rfl
def placedC (C : CV) (v : NoteV) : Int × CV :=
  if v.key.length < 1 ∨ 16 < v.key.length ∨ v.gen < 1 ∨ C.gen < v.gen ∨ v.size < 0 ∨ 512 < v.size then (12, C)
  else if (v.places.length : Int) ≠ groupsI v.size * 10 then (12, C)
  else (0, { C with staged := delL C.staged v.key, entries := putL C.entries v.key ⟨v.gen, v.size, v.sum, v.places⟩ })
theorem placed_wf {N : Nat} {C : CV} {k : Str} {e : EntV} (h : CWf N C) (h1 : 1 ≤ k.length ∧ k.length ≤ 16) (h2 : 1 ≤ e.gen ∧ e.gen ≤ C.gen) (h3 : 0 ≤ e.size ∧ e.size ≤ 512) (h4 : (e.places.length : Int) = groupsI e.size * 10) (h5 : e.sum.length ≤ maxLen) :
    CWf (N + 1) { C with staged := delL C.staged k, entries := putL C.entries k e } :=
  { h with
    staged := by have h1 := h.staged; have h2 : (delL C.staged k).length ≤ C.staged.length := List.length_filter_le _ _; show (delL C.staged k).length ≤ _; omega
    tombs := Nat.le_succ_of_le h.tombs
    keys := fun q hq => h.keys q (List.mem_filter.1 hq).1
    ents := fun q hq => by
      rcases List.mem_append.1 hq with hq | hq
      · exact h.ents q (List.mem_filter.1 hq).1
      · have e' : q = (k, e) := by simpa using hq
        subst e'
        exact ⟨h1.1, h1.2, h2.1, h2.2, h3.1, h3.2, h4, h5⟩
    nds := nodup_del h.nds k
    apart := fun q hq => by
      have hq' := List.mem_filter.1 hq
      rw [hasL_put, h.apart q hq'.1, Bool.false_or]
      simpa using hq'.2 }
theorem own_low {w : World} {base : Nat} {e : TypeId} {size n : Nat} {v : Value} {xs : List Value} (h : w.ownsRow base e size v n xs) : w.ownsRow 0 e size v n xs := by
  refine ⟨h.1, ?_⟩
  rcases h.2 with h | ⟨g', cap', cur, hv, _, h2⟩
  · exact .inl h
  · exact .inr ⟨g', cap', cur, hv, Nat.zero_le _, h2⟩
theorem placed_fin {F : Nat → Prop} {w w2 w4 w5 w6 : World} {p N en ec b5 : Nat} {C : CV} {v : NoteV} {sv tv sv' : Value} {SR SR' : List BlobR} {ER : List EntR} {be bb br : Nat} {B : Option Addr} (h : CatR F w2 p N C sv tv SR ER be bb br) (hb : Below w.heap.size w w2)
    (hd : Dropped F w2 w4 p sv SR C.staged v.key sv' SR') (hp : Blk w4 p 59 #[sv', .map (some be), .map (some bb), tv, .map (some br), .int .i64 C.gen]) (h45 : Below w4.heap.size w4 w5)
    (hpl : w5.ownsRow b5 40 2 (.slice B en ec) en (placeVals v.places)) (hb5 : w.heap.size ≤ b5) (hm : MapAt skey zeroEnt w6 be (N + 1) (putL (entVals ER) v.key (.agg #[encStr v.key, .int .i64 v.gen, .int .i64 v.size, encStr v.sum, .slice B en ec]))) (hg : w5.grownBy w6 (some be))
    (hwf : CWf (N + 1) { C with staged := delL C.staged v.key, entries := putL C.entries v.key ⟨v.gen, v.size, v.sum, v.places⟩ }) :
    CatPost F p (N + 1) (0, { C with staged := delL C.staged v.key, entries := putL C.entries v.key ⟨v.gen, v.size, v.sum, v.places⟩ }) w (.returned (.int .i64 0)) w6 := by
  have hz5 := hb.size
  have hz4 := hd.chg.size
  have hm' := h.map_ne
  have hc : Chg (fun k => (k = p ∨ sv.ownBlock = some k) ∨ k = be) w2 w6 := ((hd.chg.mono (T := fun k => (k = p ∨ sv.ownBlock = some k) ∨ k = be) (fun k e => .inl e)).trans (Chg.of_below _ h45)).grown hg (fun g e => .inl (.inr (Option.some.inj e).symm))
  have hcT : Chg (CatTurns p sv tv be bb br) w2 w6 := hc.mono (fun k e => by
    rcases e with (e | e) | e
    · exact .inl e
    · exact .inr (.inl e)
    · exact .inr (.inr (.inr (.inl e))))
  have hp5 := hp.below h45 hp.size
  have hp6 : Blk w6 p 59 _ := hp5.grown hg (fun e => hm'.1 (Option.some.inj e).symm)
  let r : EntR := ⟨v.key, ⟨v.gen, v.size, v.sum, v.places⟩, B, en, ec⟩
  have hown : OwnRow F w6 61 2 sv' (delL C.staged v.key).length (blobVals SR') := by
    have h5 := (OwnRow.owning ..).below hd.own h45
    refine ⟨own_of_eq h5.1 (fun q hq => hg.block q (h5.1.lt q hq).2 (fun e => ?_)), h5.2⟩
    rw [hd.blk] at hq
    exact (h.stg_ne hq).2.2.1 (Option.some.inj e)
  refine h.post hb hcT (h.build (C' := { C with staged := delL C.staged v.key, entries := putL C.entries v.key ⟨v.gen, v.size, v.sum, v.places⟩ }) (ER' := (ER.filter fun x => !decide (x.key = r.key)) ++ [r]) hcT hp6 hown.wide hd.eq (fun r hr => .inl (hd.sub r hr)) ?_ (ent_put_e h.entr r) ?_ ?_ (h.tmb_same hc ?_) ?_ hwf) 0
  · rw [← ent_put]
    exact hm
  · intro x hx
    rcases List.mem_append.1 hx with hx | hx
    · exact .inl (List.mem_filter.1 hx).1
    · have e : x = r := by simpa using hx
      subst e
      refine .inr ⟨own_of_eq (own_low hpl) (fun q hq => hg.block q (hpl.lt q hq).2 (fun e => ?_)), fun q hq => .inr (by have := (hpl.lt q hq).1; omega)⟩
      obtain ⟨cs, hcs⟩ := own_blk hpl hq
      have hme : MapAt skey zeroEnt w5 be N (entVals ER) := h.ents.of_eq (((h45.block be (Nat.lt_of_lt_of_le h.ents.lt hz4)).trans (hd.chg.block be h.ents.lt (fun e => e.elim (fun e => hm'.1 e.symm) (fun e => (h.stg_ne e).2.2.1 rfl)))))
      exact blk_apart hcs hme (Option.some.inj e)
  · exact (h.begs.of_eq (hc.block bb h.begs.lt (fun e => by
      rcases e with (e | e) | e
      · exact hm'.2.1 e.symm
      · exact (h.stg_ne e).2.2.2.1 rfl
      · exact h.neq.1 e.symm))).mono (Nat.le_succ _)
  · intro g hg' e
    rcases e with (e | e) | e
    · exact (h.tmb_ne hg').1 e
    · exact (h.tmb_ne hg').2.1 e
    · exact (h.tmb_ne hg').2.2.1 e
  · exact (h.rets.of_eq (hc.block br h.rets.lt (fun e => by
      rcases e with (e | e) | e
      · exact hm'.2.2 e.symm
      · exact (h.stg_ne e).2.2.2.2 rfl
      · exact h.neq.2.1 e.symm))).mono (Nat.le_succ _)
theorem NoteIn.below {w w' : World} {v : NoteV} {D : Option Addr} {dn dc : Nat} {Q : Option Addr} {qn qc : Nat} (h : NoteIn w v D dn dc Q qn qc) (hb : Below w.heap.size w w') : NoteIn w' v D dn dc Q qn qc :=
  { h with data := h.data.below hb, places := ⟨h.places.1, h.places.2.below hb⟩ }
theorem SrcAt.keep {w w' : World} {A : Option Addr} {n : Nat} {xs : List Value} (h : SrcAt w A n xs) (hk : ∀ b off, A = some ⟨b, off, none⟩ → b < w.heap.size → w'.heap[b]? = w.heap[b]?) : SrcAt w' A n xs := by
  rcases h with h | ⟨b, off, h1, h3⟩
  · exact .inl h
  · exact .inr ⟨b, off, h1, fun j u hu => by
      have h := h3 j u hu
      have hlt := World.block_lt_of_cell? w _ h
      exact (World.cell?_of_block (a := ⟨b, off + j, none⟩) (hk b off h1 hlt)).trans h⟩
section
set_option maxHeartbeats 4000000
set_option maxRecDepth 8000
theorem cPlaced (F : Nat → Prop) (p N : Nat) (C : CV) (v : NoteV) (D : Option Addr) (dn dc : Nat) (Q : Option Addr) (qn qc : Nat) (w : World) (h : CatAt F w p N C) (hN : N ≤ 100000) (hin : NoteIn w v D dn dc Q qn qc) (hap : 0 < qn → ∀ b off, Q = some ⟨b, off, none⟩ → ¬ F b) :
    Calls Try.prog 28 #[.pointer (some ⟨p, 0, none⟩), noteAgg v D dn dc Q qn qc] w (CatPost F p (N + 1) (placedC C v) w) := by
  have H := Lib.hid h
  have HAP := Lib.hid hap
  have hks := enc_size v.key
  have hkl : v.key.length ≤ maxLen := hin.key
  have HSL := Lib.hid hin.sum
  have hp63 : v.key.length ≤ 9223372036854775807 := by simp only [maxLen] at hkl; omega
  have hq63 : qn ≤ 9223372036854775807 := by have := hin.pform.1; have := hin.pform.2.1; simp only [maxLen] at this; omega
  have hql : v.places.length = qn := hin.places.1
  obtain ⟨w1, hw1⟩ : ∃ w1, w1 = w.alloc (.cells (noteCells v D dn dc Q qn qc) 26) := ⟨_, rfl⟩
  have hb1 : Below w.heap.size w w1 := by rw [hw1]; exact (Below.refl _ _).alloc (Nat.le_refl _) _
  have hB1 : Blk w1 w.heap.size 26 (noteCells v D dn dc Q qn qc) := by rw [hw1]; exact Blk.made w _ _
  have W1 := Lib.hid hw1
  have HB1 := Lib.hid hb1
  have BN1 := Lib.hid hB1
  have HI1 := Lib.hid (hin.below hb1)
  have hbn : w.heap.size < w1.heap.size := hB1.size
  obtain ⟨sv, tv, SR, ER, be, bb, br, h1⟩ := h.below hb1
  have R1 := Lib.hid h1
  have hnp : w.heap.size ≠ p := fun e => by have h1 := hB1; rw [e] at h1; exact blk_ne h1 ‹CatR F w1 p N C sv tv SR ER be bb br›.blk (by decide) rfl
  have q1 : w1.cell? ⟨w.heap.size, 1, none⟩ = some (encStr v.key) := hB1.cell 1
  have q2 : w1.cell? ⟨w.heap.size, 2, none⟩ = some (.int .i64 v.gen) := hB1.cell 2
  have q6 : w1.cell? ⟨w.heap.size, 6, none⟩ = some (.int .i64 v.size) := hB1.cell 6
  have q7 : w1.cell? ⟨w.heap.size, 7, none⟩ = some (.slice Q qn qc) := hB1.cell 7
  have q5 : w1.cell? ⟨p, 5, none⟩ = some (.int .i64 C.gen) := h1.blk.cell 5
  clear hin hap h hb1 hB1 hw1 h1
  unfold noteAgg
  go_enter Try.func28, Try.ntmps28
  go_upto_region 1 with fail
  rw [show w.alloc (.cells #[.int .i64 v.kind, .string ⟨v.key.toArray⟩, .int .i64 v.gen, .int .i64 v.cart, .slice D dn dc, .string ⟨v.sum.toArray⟩, .int .i64 v.size, .slice Q qn qc] 26) = w1 from W1.out.symm]
  by_cases c0 : v.key.length < 1
  case pos =>
    have d0 : (decide ((v.key.length : Int) < 1) = true) := by simp; omega
    have HE := Lib.hid (show placedC C v = (12, C) from if_pos (by omega))
    refine wp_region_held_drew (S := (fun w' => w'.cell? ⟨w.heap.size, 1, none⟩ = some (encStr v.key) ∧ w'.cell? ⟨w.heap.size, 2, none⟩ = some (.int .i64 v.gen) ∧ w'.cell? ⟨w.heap.size, 6, none⟩ = some (.int .i64 v.size) ∧ w'.cell? ⟨p, 5, none⟩ = some (.int .i64 C.gen))) (by kernel_rfl) ⟨q1, q2, q6, q5⟩ (fun hHeld => ?_)
    refine wpAnyH_take (i := 0) (v := ?vA0n10) (take_list rfl) (by kernel_rfl) (by kernel_rfl) (by kernel_rfl) (fun _ _ _ h => h) (Or.inl ⟨by rfl, ?hyA0n10⟩) (by assumption) ?restA0n10
    case hyA0n10 => (intro w hSw; (try dsimp only at hSw); go_simp <;> with_reducible rfl)
    try simp only [Act.put, List.setIfInBounds_toArray, List.set_cons_zero, List.set_cons_succ]
    refine wpAnyH_take (i := 1) (v := ?vA0n11) (take_list rfl) (by kernel_rfl) (by kernel_rfl) (by kernel_rfl) (fun _ _ _ h => h) (Or.inl ⟨by rfl, ?hyA0n11⟩) (by assumption) ?restA0n11
    case hyA0n11 => (intro w hSw; (try dsimp only at hSw); go_simp <;> with_reducible rfl)
    try simp only [Act.put, List.setIfInBounds_toArray, List.set_cons_zero, List.set_cons_succ]
    refine wpAnyH_take (i := 2) (v := ?vA0n12) (take_list rfl) (by kernel_rfl) (by kernel_rfl) (by kernel_rfl) (fun _ _ _ h => h) (Or.inl ⟨by rfl, ?hyA0n12⟩) (by assumption) ?restA0n12
    case hyA0n12 => (intro w hSw; (try dsimp only at hSw); go_simp <;> with_reducible rfl)
    try simp only [Act.put, List.setIfInBounds_toArray, List.set_cons_zero, List.set_cons_succ]
    refine wpAnyH_take (i := 3) (v := ?vA0n13) (take_list rfl) (by kernel_rfl) (by kernel_rfl) (by kernel_rfl) (fun _ _ _ h => h) (Or.inl ⟨by rfl, ?hyA0n13⟩) (by assumption) ?restA0n13
    case hyA0n13 => (intro w hSw; (try dsimp only at hSw); go_simp <;> with_reducible rfl)
    try simp only [Act.put, List.setIfInBounds_toArray, List.set_cons_zero, List.set_cons_succ]
    refine wpAnyH_take (i := 4) (v := ?vA0n14) (take_list rfl) (by kernel_rfl) (by kernel_rfl) (by kernel_rfl) (fun _ _ _ h => h) (Or.inl ⟨by rfl, ?hyA0n14⟩) (by assumption) ?restA0n14
    case hyA0n14 => (intro w hSw; (try dsimp only at hSw); go_simp <;> with_reducible rfl)
    try simp only [Act.put, List.setIfInBounds_toArray, List.set_cons_zero, List.set_cons_succ]
    refine wpAnyH_take (i := 5) (v := undef) (take_list rfl) (by kernel_rfl) (by kernel_rfl) (by kernel_rfl) (fun _ _ _ h => h) (Or.inr ⟨by rfl, rfl⟩) (by assumption) ?_
    try simp only [Act.put, List.setIfInBounds_toArray, List.set_cons_zero, List.set_cons_succ]
    refine wpAnyH_take (i := 6) (v := undef) (take_list rfl) (by kernel_rfl) (by kernel_rfl) (by kernel_rfl) (fun _ _ _ h => h) (Or.inr ⟨by rfl, rfl⟩) (by assumption) ?_
    try simp only [Act.put, List.setIfInBounds_toArray, List.set_cons_zero, List.set_cons_succ]
    refine wpAnyH_take (i := 7) (v := undef) (take_list rfl) (by kernel_rfl) (by kernel_rfl) (by kernel_rfl) (fun _ _ _ h => h) (Or.inr ⟨by rfl, rfl⟩) (by assumption) ?_
    try simp only [Act.put, List.setIfInBounds_toArray, List.set_cons_zero, List.set_cons_succ]
    refine wpAnyH_take (i := 8) (v := undef) (take_list rfl) (by kernel_rfl) (by kernel_rfl) (by kernel_rfl) (fun _ _ _ h => h) (Or.inr ⟨by rfl, rfl⟩) (by assumption) ?_
    try simp only [Act.put, List.setIfInBounds_toArray, List.set_cons_zero, List.set_cons_succ]
    refine wpAnyH_take (i := 9) (v := ?vA0n19) (take_list rfl) (by kernel_rfl) (by kernel_rfl) (by kernel_rfl) (fun _ _ _ h => h) (Or.inl ⟨by rfl, ?hyA0n19⟩) (by assumption) ?restA0n19
    case hyA0n19 => (intro w hSw; (try dsimp only at hSw); go_simp <;> with_reducible rfl)
    try simp only [Act.put, List.setIfInBounds_toArray, List.set_cons_zero, List.set_cons_succ]
    refine wpAnyH_take (i := 10) (v := ?vA0n110) (take_list rfl) (by kernel_rfl) (by kernel_rfl) (by kernel_rfl) (fun _ _ _ h => h) (Or.inl ⟨by rfl, ?hyA0n110⟩) (by assumption) ?restA0n110
    case hyA0n110 => (intro w hSw; (try dsimp only at hSw); go_simp <;> with_reducible rfl)
    try simp only [Act.put, List.setIfInBounds_toArray, List.set_cons_zero, List.set_cons_succ]
    refine wpAnyH_take (i := 11) (v := undef) (take_list rfl) (by kernel_rfl) (by kernel_rfl) (by kernel_rfl) (fun _ _ _ h => h) (Or.inr ⟨by rfl, rfl⟩) (by assumption) ?_
    try simp only [Act.put, List.setIfInBounds_toArray, List.set_cons_zero, List.set_cons_succ]
    refine wpAnyH_take (i := 12) (v := undef) (take_list rfl) (by kernel_rfl) (by kernel_rfl) (by kernel_rfl) (fun _ _ _ h => h) (Or.inr ⟨by rfl, rfl⟩) (by assumption) ?_
    try simp only [Act.put, List.setIfInBounds_toArray, List.set_cons_zero, List.set_cons_succ]
    refine wpAnyH_take (i := 13) (v := undef) (take_list rfl) (by kernel_rfl) (by kernel_rfl) (by kernel_rfl) (fun _ _ _ h => h) (Or.inr ⟨by rfl, rfl⟩) (by assumption) ?_
    try simp only [Act.put, List.setIfInBounds_toArray, List.set_cons_zero, List.set_cons_succ]
    refine wpAnyH_take (i := 14) (v := ?vA0n114) (take_list rfl) (by kernel_rfl) (by kernel_rfl) (by kernel_rfl) (fun _ _ _ h => h) (Or.inl ⟨by rfl, ?hyA0n114⟩) (by assumption) ?restA0n114
    case hyA0n114 => (intro w hSw; (try dsimp only at hSw); go_simp <;> with_reducible rfl)
    try simp only [Act.put, List.setIfInBounds_toArray, List.set_cons_zero, List.set_cons_succ]
    refine wpAnyH_take (i := 15) (v := ?vA0n115) (take_list rfl) (by kernel_rfl) (by kernel_rfl) (by kernel_rfl) (fun _ _ _ h => h) (Or.inl ⟨by rfl, ?hyA0n115⟩) (by assumption) ?restA0n115
    case hyA0n115 => (intro w hSw; (try dsimp only at hSw); go_simp <;> with_reducible rfl)
    try simp only [Act.put, List.setIfInBounds_toArray, List.set_cons_zero, List.set_cons_succ]
    refine wpAnyH_take (i := 16) (v := undef) (take_list rfl) (by kernel_rfl) (by kernel_rfl) (by kernel_rfl) (fun _ _ _ h => h) (Or.inr ⟨by rfl, rfl⟩) (by assumption) ?_
    try simp only [Act.put, List.setIfInBounds_toArray, List.set_cons_zero, List.set_cons_succ]
    refine wpAnyH_take (i := 17) (v := undef) (take_list rfl) (by kernel_rfl) (by kernel_rfl) (by kernel_rfl) (fun _ _ _ h => h) (Or.inr ⟨by rfl, rfl⟩) (by assumption) ?_
    try simp only [Act.put, List.setIfInBounds_toArray, List.set_cons_zero, List.set_cons_succ]
    refine wpAnyH_take (i := 18) (v := undef) (take_list rfl) (by kernel_rfl) (by kernel_rfl) (by kernel_rfl) (fun _ _ _ h => h) (Or.inr ⟨by rfl, rfl⟩) (by assumption) ?_
    try simp only [Act.put, List.setIfInBounds_toArray, List.set_cons_zero, List.set_cons_succ]
    refine wpAnyH_take (i := 19) (v := undef) (take_list rfl) (by kernel_rfl) (by kernel_rfl) (by kernel_rfl) (fun _ _ _ h => h) (Or.inr ⟨by rfl, rfl⟩) (by assumption) ?_
    try simp only [Act.put, List.setIfInBounds_toArray, List.set_cons_zero, List.set_cons_succ]
    refine wpAnyH_take (i := 20) (v := undef) (take_list rfl) (by kernel_rfl) (by kernel_rfl) (by kernel_rfl) (fun _ _ _ h => h) (Or.inr ⟨by rfl, rfl⟩) (by assumption) ?_
    try simp only [Act.put, List.setIfInBounds_toArray, List.set_cons_zero, List.set_cons_succ]
    refine wpAnyH_take (i := 21) (v := undef) (take_list rfl) (by kernel_rfl) (by kernel_rfl) (by kernel_rfl) (fun _ _ _ h => h) (Or.inr ⟨by rfl, rfl⟩) (by assumption) ?_
    try simp only [Act.put, List.setIfInBounds_toArray, List.set_cons_zero, List.set_cons_succ]
    refine wpAnyH_take (i := 22) (v := undef) (take_list rfl) (by kernel_rfl) (by kernel_rfl) (by kernel_rfl) (fun _ _ _ h => h) (Or.inr ⟨by rfl, rfl⟩) (by assumption) ?_
    try simp only [Act.put, List.setIfInBounds_toArray, List.set_cons_zero, List.set_cons_succ]
    refine wpAnyH_take (i := 23) (v := ?vA0n123) (take_list rfl) (by kernel_rfl) (by kernel_rfl) (by kernel_rfl) (fun _ _ _ h => h) (Or.inl ⟨by rfl, ?hyA0n123⟩) (by assumption) ?restA0n123
    case hyA0n123 => (intro w hSw; (try dsimp only at hSw); go_simp <;> with_reducible rfl)
    try simp only [Act.put, List.setIfInBounds_toArray, List.set_cons_zero, List.set_cons_succ]
    refine wpAnyH_take (i := 24) (v := ?vA0n124) (take_list rfl) (by kernel_rfl) (by kernel_rfl) (by kernel_rfl) (fun _ _ _ h => h) (Or.inl ⟨by rfl, ?hyA0n124⟩) (by assumption) ?restA0n124
    case hyA0n124 => (intro w hSw; (try dsimp only at hSw); go_simp <;> with_reducible rfl)
    try simp only [Act.put, List.setIfInBounds_toArray, List.set_cons_zero, List.set_cons_succ]
    refine wpAnyH_take (i := 25) (v := undef) (take_list rfl) (by kernel_rfl) (by kernel_rfl) (by kernel_rfl) (fun _ _ _ h => h) (Or.inr ⟨by rfl, rfl⟩) (by assumption) ?_
    try simp only [Act.put, List.setIfInBounds_toArray, List.set_cons_zero, List.set_cons_succ]
    refine wpAnyH_take (i := 26) (v := undef) (take_list rfl) (by kernel_rfl) (by kernel_rfl) (by kernel_rfl) (fun _ _ _ h => h) (Or.inr ⟨by rfl, rfl⟩) (by assumption) ?_
    try simp only [Act.put, List.setIfInBounds_toArray, List.set_cons_zero, List.set_cons_succ]
    refine wpAnyH_take (i := 27) (v := undef) (take_list rfl) (by kernel_rfl) (by kernel_rfl) (by kernel_rfl) (fun _ _ _ h => h) (Or.inr ⟨by rfl, rfl⟩) (by assumption) ?_
    try simp only [Act.put, List.setIfInBounds_toArray, List.set_cons_zero, List.set_cons_succ]
    refine wpAnyH_take (i := 28) (v := ?vA0n128) (take_list rfl) (by kernel_rfl) (by kernel_rfl) (by kernel_rfl) (fun _ _ _ h => h) (Or.inl ⟨by rfl, ?hyA0n128⟩) (by assumption) ?restA0n128
    case hyA0n128 => (intro w hSw; (try dsimp only at hSw); go_simp <;> with_reducible rfl)
    try simp only [Act.put, List.setIfInBounds_toArray, List.set_cons_zero, List.set_cons_succ]
    refine wpAnyH_take (i := 29) (v := ?vA0n129) (take_list rfl) (by kernel_rfl) (by kernel_rfl) (by kernel_rfl) (fun _ _ _ h => h) (Or.inl ⟨by rfl, ?hyA0n129⟩) (by assumption) ?restA0n129
    case hyA0n129 => (intro w hSw; (try dsimp only at hSw); go_simp <;> with_reducible rfl)
    try simp only [Act.put, List.setIfInBounds_toArray, List.set_cons_zero, List.set_cons_succ]
    refine wpAnyH_take (i := 30) (v := undef) (take_list rfl) (by kernel_rfl) (by kernel_rfl) (by kernel_rfl) (fun _ _ _ h => h) (Or.inr ⟨by rfl, rfl⟩) (by assumption) ?_
    try simp only [Act.put, List.setIfInBounds_toArray, List.set_cons_zero, List.set_cons_succ]
    refine wpAnyH_take (i := 31) (v := undef) (take_list rfl) (by kernel_rfl) (by kernel_rfl) (by kernel_rfl) (fun _ _ _ h => h) (Or.inr ⟨by rfl, rfl⟩) (by assumption) ?_
    try simp only [Act.put, List.setIfInBounds_toArray, List.set_cons_zero, List.set_cons_succ]
    refine wpAnyH_take (i := 32) (v := undef) (take_list rfl) (by kernel_rfl) (by kernel_rfl) (by kernel_rfl) (fun _ _ _ h => h) (Or.inr ⟨by rfl, rfl⟩) (by assumption) ?_
    try simp only [Act.put, List.setIfInBounds_toArray, List.set_cons_zero, List.set_cons_succ]
    refine wpAnyH_take (i := 33) (v := ?vA0n133) (take_list rfl) (by kernel_rfl) (by kernel_rfl) (by kernel_rfl) (fun _ _ _ h => h) (Or.inl ⟨by rfl, ?hyA0n133⟩) (by assumption) ?restA0n133
    case hyA0n133 => (intro w hSw; (try dsimp only at hSw); go_simp <;> with_reducible rfl)
    try simp only [Act.put, List.setIfInBounds_toArray, List.set_cons_zero, List.set_cons_succ]
    refine wpAnyH_take (i := 34) (v := ?vA0n134) (take_list rfl) (by kernel_rfl) (by kernel_rfl) (by kernel_rfl) (fun _ _ _ h => h) (Or.inl ⟨by rfl, ?hyA0n134⟩) (by assumption) ?restA0n134
    case hyA0n134 => (intro w hSw; (try dsimp only at hSw); go_simp <;> with_reducible rfl)
    try simp only [Act.put, List.setIfInBounds_toArray, List.set_cons_zero, List.set_cons_succ]
    refine wpAnyH_done (by kernel_rfl) ?_ _
    go_wp2_with fail
    go_ret
    rw [HE.out]
    exact CatPost.same H.out (Nat.le_succ _) (HB1.out.trans below_drew1)
  have d0 : (decide ((v.key.length : Int) < 1) = false) := by simp; omega
  by_cases c1 : 16 < v.key.length
  case pos =>
    have d1 : (decide ((16 : Int) < (v.key.length : Int)) = true) := by simp; omega
    have HE := Lib.hid (show placedC C v = (12, C) from if_pos (by omega))
    refine wp_region_held_drew (S := (fun w' => w'.cell? ⟨w.heap.size, 1, none⟩ = some (encStr v.key) ∧ w'.cell? ⟨w.heap.size, 2, none⟩ = some (.int .i64 v.gen) ∧ w'.cell? ⟨w.heap.size, 6, none⟩ = some (.int .i64 v.size) ∧ w'.cell? ⟨p, 5, none⟩ = some (.int .i64 C.gen))) (by kernel_rfl) ⟨q1, q2, q6, q5⟩ (fun hHeld => ?_)
    refine wpAnyH_take (i := 0) (v := ?vA1n20) (take_list rfl) (by kernel_rfl) (by kernel_rfl) (by kernel_rfl) (fun _ _ _ h => h) (Or.inl ⟨by rfl, ?hyA1n20⟩) (by assumption) ?restA1n20
    case hyA1n20 => (intro w hSw; (try dsimp only at hSw); go_simp <;> with_reducible rfl)
    try simp only [Act.put, List.setIfInBounds_toArray, List.set_cons_zero, List.set_cons_succ]
    refine wpAnyH_take (i := 1) (v := ?vA1n21) (take_list rfl) (by kernel_rfl) (by kernel_rfl) (by kernel_rfl) (fun _ _ _ h => h) (Or.inl ⟨by rfl, ?hyA1n21⟩) (by assumption) ?restA1n21
    case hyA1n21 => (intro w hSw; (try dsimp only at hSw); go_simp <;> with_reducible rfl)
    try simp only [Act.put, List.setIfInBounds_toArray, List.set_cons_zero, List.set_cons_succ]
    refine wpAnyH_take (i := 2) (v := ?vA1n22) (take_list rfl) (by kernel_rfl) (by kernel_rfl) (by kernel_rfl) (fun _ _ _ h => h) (Or.inl ⟨by rfl, ?hyA1n22⟩) (by assumption) ?restA1n22
    case hyA1n22 => (intro w hSw; (try dsimp only at hSw); go_simp <;> with_reducible rfl)
    try simp only [Act.put, List.setIfInBounds_toArray, List.set_cons_zero, List.set_cons_succ]
    refine wpAnyH_take (i := 3) (v := ?vA1n23) (take_list rfl) (by kernel_rfl) (by kernel_rfl) (by kernel_rfl) (fun _ _ _ h => h) (Or.inl ⟨by rfl, ?hyA1n23⟩) (by assumption) ?restA1n23
    case hyA1n23 => (intro w hSw; (try dsimp only at hSw); go_simp <;> with_reducible rfl)
    try simp only [Act.put, List.setIfInBounds_toArray, List.set_cons_zero, List.set_cons_succ]
    refine wpAnyH_take (i := 4) (v := ?vA1n24) (take_list rfl) (by kernel_rfl) (by kernel_rfl) (by kernel_rfl) (fun _ _ _ h => h) (Or.inl ⟨by rfl, ?hyA1n24⟩) (by assumption) ?restA1n24
    case hyA1n24 => (intro w hSw; (try dsimp only at hSw); go_simp <;> with_reducible rfl)
    try simp only [Act.put, List.setIfInBounds_toArray, List.set_cons_zero, List.set_cons_succ]
    refine wpAnyH_take (i := 5) (v := ?vA1n25) (take_list rfl) (by kernel_rfl) (by kernel_rfl) (by kernel_rfl) (fun _ _ _ h => h) (Or.inl ⟨by rfl, ?hyA1n25⟩) (by assumption) ?restA1n25
    case hyA1n25 => (intro w hSw; (try dsimp only at hSw); go_simp <;> with_reducible rfl)
    try simp only [Act.put, List.setIfInBounds_toArray, List.set_cons_zero, List.set_cons_succ]
    refine wpAnyH_take (i := 6) (v := ?vA1n26) (take_list rfl) (by kernel_rfl) (by kernel_rfl) (by kernel_rfl) (fun _ _ _ h => h) (Or.inl ⟨by rfl, ?hyA1n26⟩) (by assumption) ?restA1n26
    case hyA1n26 => (intro w hSw; (try dsimp only at hSw); go_simp <;> with_reducible rfl)
    try simp only [Act.put, List.setIfInBounds_toArray, List.set_cons_zero, List.set_cons_succ]
    refine wpAnyH_take (i := 7) (v := ?vA1n27) (take_list rfl) (by kernel_rfl) (by kernel_rfl) (by kernel_rfl) (fun _ _ _ h => h) (Or.inl ⟨by rfl, ?hyA1n27⟩) (by assumption) ?restA1n27
    case hyA1n27 => (intro w hSw; (try dsimp only at hSw); go_simp <;> with_reducible rfl)
    try simp only [Act.put, List.setIfInBounds_toArray, List.set_cons_zero, List.set_cons_succ]
    refine wpAnyH_take (i := 8) (v := ?vA1n28) (take_list rfl) (by kernel_rfl) (by kernel_rfl) (by kernel_rfl) (fun _ _ _ h => h) (Or.inl ⟨by rfl, ?hyA1n28⟩) (by assumption) ?restA1n28
    case hyA1n28 => (intro w hSw; (try dsimp only at hSw); go_simp <;> with_reducible rfl)
    try simp only [Act.put, List.setIfInBounds_toArray, List.set_cons_zero, List.set_cons_succ]
    refine wpAnyH_take (i := 9) (v := ?vA1n29) (take_list rfl) (by kernel_rfl) (by kernel_rfl) (by kernel_rfl) (fun _ _ _ h => h) (Or.inl ⟨by rfl, ?hyA1n29⟩) (by assumption) ?restA1n29
    case hyA1n29 => (intro w hSw; (try dsimp only at hSw); go_simp <;> with_reducible rfl)
    try simp only [Act.put, List.setIfInBounds_toArray, List.set_cons_zero, List.set_cons_succ]
    refine wpAnyH_take (i := 10) (v := ?vA1n210) (take_list rfl) (by kernel_rfl) (by kernel_rfl) (by kernel_rfl) (fun _ _ _ h => h) (Or.inl ⟨by rfl, ?hyA1n210⟩) (by assumption) ?restA1n210
    case hyA1n210 => (intro w hSw; (try dsimp only at hSw); go_simp <;> with_reducible rfl)
    try simp only [Act.put, List.setIfInBounds_toArray, List.set_cons_zero, List.set_cons_succ]
    refine wpAnyH_take (i := 11) (v := undef) (take_list rfl) (by kernel_rfl) (by kernel_rfl) (by kernel_rfl) (fun _ _ _ h => h) (Or.inr ⟨by rfl, rfl⟩) (by assumption) ?_
    try simp only [Act.put, List.setIfInBounds_toArray, List.set_cons_zero, List.set_cons_succ]
    refine wpAnyH_take (i := 12) (v := undef) (take_list rfl) (by kernel_rfl) (by kernel_rfl) (by kernel_rfl) (fun _ _ _ h => h) (Or.inr ⟨by rfl, rfl⟩) (by assumption) ?_
    try simp only [Act.put, List.setIfInBounds_toArray, List.set_cons_zero, List.set_cons_succ]
    refine wpAnyH_take (i := 13) (v := undef) (take_list rfl) (by kernel_rfl) (by kernel_rfl) (by kernel_rfl) (fun _ _ _ h => h) (Or.inr ⟨by rfl, rfl⟩) (by assumption) ?_
    try simp only [Act.put, List.setIfInBounds_toArray, List.set_cons_zero, List.set_cons_succ]
    refine wpAnyH_take (i := 14) (v := ?vA1n214) (take_list rfl) (by kernel_rfl) (by kernel_rfl) (by kernel_rfl) (fun _ _ _ h => h) (Or.inl ⟨by rfl, ?hyA1n214⟩) (by assumption) ?restA1n214
    case hyA1n214 => (intro w hSw; (try dsimp only at hSw); go_simp <;> with_reducible rfl)
    try simp only [Act.put, List.setIfInBounds_toArray, List.set_cons_zero, List.set_cons_succ]
    refine wpAnyH_take (i := 15) (v := ?vA1n215) (take_list rfl) (by kernel_rfl) (by kernel_rfl) (by kernel_rfl) (fun _ _ _ h => h) (Or.inl ⟨by rfl, ?hyA1n215⟩) (by assumption) ?restA1n215
    case hyA1n215 => (intro w hSw; (try dsimp only at hSw); go_simp <;> with_reducible rfl)
    try simp only [Act.put, List.setIfInBounds_toArray, List.set_cons_zero, List.set_cons_succ]
    refine wpAnyH_take (i := 16) (v := undef) (take_list rfl) (by kernel_rfl) (by kernel_rfl) (by kernel_rfl) (fun _ _ _ h => h) (Or.inr ⟨by rfl, rfl⟩) (by assumption) ?_
    try simp only [Act.put, List.setIfInBounds_toArray, List.set_cons_zero, List.set_cons_succ]
    refine wpAnyH_take (i := 17) (v := undef) (take_list rfl) (by kernel_rfl) (by kernel_rfl) (by kernel_rfl) (fun _ _ _ h => h) (Or.inr ⟨by rfl, rfl⟩) (by assumption) ?_
    try simp only [Act.put, List.setIfInBounds_toArray, List.set_cons_zero, List.set_cons_succ]
    refine wpAnyH_take (i := 18) (v := undef) (take_list rfl) (by kernel_rfl) (by kernel_rfl) (by kernel_rfl) (fun _ _ _ h => h) (Or.inr ⟨by rfl, rfl⟩) (by assumption) ?_
    try simp only [Act.put, List.setIfInBounds_toArray, List.set_cons_zero, List.set_cons_succ]
    refine wpAnyH_take (i := 19) (v := undef) (take_list rfl) (by kernel_rfl) (by kernel_rfl) (by kernel_rfl) (fun _ _ _ h => h) (Or.inr ⟨by rfl, rfl⟩) (by assumption) ?_
    try simp only [Act.put, List.setIfInBounds_toArray, List.set_cons_zero, List.set_cons_succ]
    refine wpAnyH_take (i := 20) (v := undef) (take_list rfl) (by kernel_rfl) (by kernel_rfl) (by kernel_rfl) (fun _ _ _ h => h) (Or.inr ⟨by rfl, rfl⟩) (by assumption) ?_
    try simp only [Act.put, List.setIfInBounds_toArray, List.set_cons_zero, List.set_cons_succ]
    refine wpAnyH_take (i := 21) (v := undef) (take_list rfl) (by kernel_rfl) (by kernel_rfl) (by kernel_rfl) (fun _ _ _ h => h) (Or.inr ⟨by rfl, rfl⟩) (by assumption) ?_
    try simp only [Act.put, List.setIfInBounds_toArray, List.set_cons_zero, List.set_cons_succ]
    refine wpAnyH_take (i := 22) (v := undef) (take_list rfl) (by kernel_rfl) (by kernel_rfl) (by kernel_rfl) (fun _ _ _ h => h) (Or.inr ⟨by rfl, rfl⟩) (by assumption) ?_
    try simp only [Act.put, List.setIfInBounds_toArray, List.set_cons_zero, List.set_cons_succ]
    refine wpAnyH_take (i := 23) (v := ?vA1n223) (take_list rfl) (by kernel_rfl) (by kernel_rfl) (by kernel_rfl) (fun _ _ _ h => h) (Or.inl ⟨by rfl, ?hyA1n223⟩) (by assumption) ?restA1n223
    case hyA1n223 => (intro w hSw; (try dsimp only at hSw); go_simp <;> with_reducible rfl)
    try simp only [Act.put, List.setIfInBounds_toArray, List.set_cons_zero, List.set_cons_succ]
    refine wpAnyH_take (i := 24) (v := ?vA1n224) (take_list rfl) (by kernel_rfl) (by kernel_rfl) (by kernel_rfl) (fun _ _ _ h => h) (Or.inl ⟨by rfl, ?hyA1n224⟩) (by assumption) ?restA1n224
    case hyA1n224 => (intro w hSw; (try dsimp only at hSw); go_simp <;> with_reducible rfl)
    try simp only [Act.put, List.setIfInBounds_toArray, List.set_cons_zero, List.set_cons_succ]
    refine wpAnyH_take (i := 25) (v := undef) (take_list rfl) (by kernel_rfl) (by kernel_rfl) (by kernel_rfl) (fun _ _ _ h => h) (Or.inr ⟨by rfl, rfl⟩) (by assumption) ?_
    try simp only [Act.put, List.setIfInBounds_toArray, List.set_cons_zero, List.set_cons_succ]
    refine wpAnyH_take (i := 26) (v := undef) (take_list rfl) (by kernel_rfl) (by kernel_rfl) (by kernel_rfl) (fun _ _ _ h => h) (Or.inr ⟨by rfl, rfl⟩) (by assumption) ?_
    try simp only [Act.put, List.setIfInBounds_toArray, List.set_cons_zero, List.set_cons_succ]
    refine wpAnyH_take (i := 27) (v := undef) (take_list rfl) (by kernel_rfl) (by kernel_rfl) (by kernel_rfl) (fun _ _ _ h => h) (Or.inr ⟨by rfl, rfl⟩) (by assumption) ?_
    try simp only [Act.put, List.setIfInBounds_toArray, List.set_cons_zero, List.set_cons_succ]
    refine wpAnyH_take (i := 28) (v := ?vA1n228) (take_list rfl) (by kernel_rfl) (by kernel_rfl) (by kernel_rfl) (fun _ _ _ h => h) (Or.inl ⟨by rfl, ?hyA1n228⟩) (by assumption) ?restA1n228
    case hyA1n228 => (intro w hSw; (try dsimp only at hSw); go_simp <;> with_reducible rfl)
    try simp only [Act.put, List.setIfInBounds_toArray, List.set_cons_zero, List.set_cons_succ]
    refine wpAnyH_take (i := 29) (v := ?vA1n229) (take_list rfl) (by kernel_rfl) (by kernel_rfl) (by kernel_rfl) (fun _ _ _ h => h) (Or.inl ⟨by rfl, ?hyA1n229⟩) (by assumption) ?restA1n229
    case hyA1n229 => (intro w hSw; (try dsimp only at hSw); go_simp <;> with_reducible rfl)
    try simp only [Act.put, List.setIfInBounds_toArray, List.set_cons_zero, List.set_cons_succ]
    refine wpAnyH_take (i := 30) (v := undef) (take_list rfl) (by kernel_rfl) (by kernel_rfl) (by kernel_rfl) (fun _ _ _ h => h) (Or.inr ⟨by rfl, rfl⟩) (by assumption) ?_
    try simp only [Act.put, List.setIfInBounds_toArray, List.set_cons_zero, List.set_cons_succ]
    refine wpAnyH_take (i := 31) (v := undef) (take_list rfl) (by kernel_rfl) (by kernel_rfl) (by kernel_rfl) (fun _ _ _ h => h) (Or.inr ⟨by rfl, rfl⟩) (by assumption) ?_
    try simp only [Act.put, List.setIfInBounds_toArray, List.set_cons_zero, List.set_cons_succ]
    refine wpAnyH_take (i := 32) (v := undef) (take_list rfl) (by kernel_rfl) (by kernel_rfl) (by kernel_rfl) (fun _ _ _ h => h) (Or.inr ⟨by rfl, rfl⟩) (by assumption) ?_
    try simp only [Act.put, List.setIfInBounds_toArray, List.set_cons_zero, List.set_cons_succ]
    refine wpAnyH_take (i := 33) (v := ?vA1n233) (take_list rfl) (by kernel_rfl) (by kernel_rfl) (by kernel_rfl) (fun _ _ _ h => h) (Or.inl ⟨by rfl, ?hyA1n233⟩) (by assumption) ?restA1n233
    case hyA1n233 => (intro w hSw; (try dsimp only at hSw); go_simp <;> with_reducible rfl)
    try simp only [Act.put, List.setIfInBounds_toArray, List.set_cons_zero, List.set_cons_succ]
    refine wpAnyH_take (i := 34) (v := ?vA1n234) (take_list rfl) (by kernel_rfl) (by kernel_rfl) (by kernel_rfl) (fun _ _ _ h => h) (Or.inl ⟨by rfl, ?hyA1n234⟩) (by assumption) ?restA1n234
    case hyA1n234 => (intro w hSw; (try dsimp only at hSw); go_simp <;> with_reducible rfl)
    try simp only [Act.put, List.setIfInBounds_toArray, List.set_cons_zero, List.set_cons_succ]
    refine wpAnyH_done (by kernel_rfl) ?_ _
    go_wp2_with fail
    go_ret
    rw [HE.out]
    exact CatPost.same H.out (Nat.le_succ _) (HB1.out.trans below_drew1)
  have d1 : (decide ((16 : Int) < (v.key.length : Int)) = false) := by simp; omega
  by_cases c2 : v.gen < 1
  case pos =>
    have d2 : (decide (v.gen < 1) = true) := by simp; omega
    have HE := Lib.hid (show placedC C v = (12, C) from if_pos (by omega))
    refine wp_region_held_drew (S := (fun w' => w'.cell? ⟨w.heap.size, 1, none⟩ = some (encStr v.key) ∧ w'.cell? ⟨w.heap.size, 2, none⟩ = some (.int .i64 v.gen) ∧ w'.cell? ⟨w.heap.size, 6, none⟩ = some (.int .i64 v.size) ∧ w'.cell? ⟨p, 5, none⟩ = some (.int .i64 C.gen))) (by kernel_rfl) ⟨q1, q2, q6, q5⟩ (fun hHeld => ?_)
    refine wpAnyH_take (i := 0) (v := ?vA2n30) (take_list rfl) (by kernel_rfl) (by kernel_rfl) (by kernel_rfl) (fun _ _ _ h => h) (Or.inl ⟨by rfl, ?hyA2n30⟩) (by assumption) ?restA2n30
    case hyA2n30 => (intro w hSw; (try dsimp only at hSw); go_simp <;> with_reducible rfl)
    try simp only [Act.put, List.setIfInBounds_toArray, List.set_cons_zero, List.set_cons_succ]
    refine wpAnyH_take (i := 1) (v := ?vA2n31) (take_list rfl) (by kernel_rfl) (by kernel_rfl) (by kernel_rfl) (fun _ _ _ h => h) (Or.inl ⟨by rfl, ?hyA2n31⟩) (by assumption) ?restA2n31
    case hyA2n31 => (intro w hSw; (try dsimp only at hSw); go_simp <;> with_reducible rfl)
    try simp only [Act.put, List.setIfInBounds_toArray, List.set_cons_zero, List.set_cons_succ]
    refine wpAnyH_take (i := 2) (v := ?vA2n32) (take_list rfl) (by kernel_rfl) (by kernel_rfl) (by kernel_rfl) (fun _ _ _ h => h) (Or.inl ⟨by rfl, ?hyA2n32⟩) (by assumption) ?restA2n32
    case hyA2n32 => (intro w hSw; (try dsimp only at hSw); go_simp <;> with_reducible rfl)
    try simp only [Act.put, List.setIfInBounds_toArray, List.set_cons_zero, List.set_cons_succ]
    refine wpAnyH_take (i := 3) (v := ?vA2n33) (take_list rfl) (by kernel_rfl) (by kernel_rfl) (by kernel_rfl) (fun _ _ _ h => h) (Or.inl ⟨by rfl, ?hyA2n33⟩) (by assumption) ?restA2n33
    case hyA2n33 => (intro w hSw; (try dsimp only at hSw); go_simp <;> with_reducible rfl)
    try simp only [Act.put, List.setIfInBounds_toArray, List.set_cons_zero, List.set_cons_succ]
    refine wpAnyH_take (i := 4) (v := ?vA2n34) (take_list rfl) (by kernel_rfl) (by kernel_rfl) (by kernel_rfl) (fun _ _ _ h => h) (Or.inl ⟨by rfl, ?hyA2n34⟩) (by assumption) ?restA2n34
    case hyA2n34 => (intro w hSw; (try dsimp only at hSw); go_simp <;> with_reducible rfl)
    try simp only [Act.put, List.setIfInBounds_toArray, List.set_cons_zero, List.set_cons_succ]
    refine wpAnyH_take (i := 5) (v := ?vA2n35) (take_list rfl) (by kernel_rfl) (by kernel_rfl) (by kernel_rfl) (fun _ _ _ h => h) (Or.inl ⟨by rfl, ?hyA2n35⟩) (by assumption) ?restA2n35
    case hyA2n35 => (intro w hSw; (try dsimp only at hSw); go_simp <;> with_reducible rfl)
    try simp only [Act.put, List.setIfInBounds_toArray, List.set_cons_zero, List.set_cons_succ]
    refine wpAnyH_take (i := 6) (v := ?vA2n36) (take_list rfl) (by kernel_rfl) (by kernel_rfl) (by kernel_rfl) (fun _ _ _ h => h) (Or.inl ⟨by rfl, ?hyA2n36⟩) (by assumption) ?restA2n36
    case hyA2n36 => (intro w hSw; (try dsimp only at hSw); go_simp <;> with_reducible rfl)
    try simp only [Act.put, List.setIfInBounds_toArray, List.set_cons_zero, List.set_cons_succ]
    refine wpAnyH_take (i := 7) (v := ?vA2n37) (take_list rfl) (by kernel_rfl) (by kernel_rfl) (by kernel_rfl) (fun _ _ _ h => h) (Or.inl ⟨by rfl, ?hyA2n37⟩) (by assumption) ?restA2n37
    case hyA2n37 => (intro w hSw; (try dsimp only at hSw); go_simp <;> with_reducible rfl)
    try simp only [Act.put, List.setIfInBounds_toArray, List.set_cons_zero, List.set_cons_succ]
    refine wpAnyH_take (i := 8) (v := ?vA2n38) (take_list rfl) (by kernel_rfl) (by kernel_rfl) (by kernel_rfl) (fun _ _ _ h => h) (Or.inl ⟨by rfl, ?hyA2n38⟩) (by assumption) ?restA2n38
    case hyA2n38 => (intro w hSw; (try dsimp only at hSw); go_simp <;> with_reducible rfl)
    try simp only [Act.put, List.setIfInBounds_toArray, List.set_cons_zero, List.set_cons_succ]
    refine wpAnyH_take (i := 9) (v := ?vA2n39) (take_list rfl) (by kernel_rfl) (by kernel_rfl) (by kernel_rfl) (fun _ _ _ h => h) (Or.inl ⟨by rfl, ?hyA2n39⟩) (by assumption) ?restA2n39
    case hyA2n39 => (intro w hSw; (try dsimp only at hSw); go_simp <;> with_reducible rfl)
    try simp only [Act.put, List.setIfInBounds_toArray, List.set_cons_zero, List.set_cons_succ]
    refine wpAnyH_take (i := 10) (v := ?vA2n310) (take_list rfl) (by kernel_rfl) (by kernel_rfl) (by kernel_rfl) (fun _ _ _ h => h) (Or.inl ⟨by rfl, ?hyA2n310⟩) (by assumption) ?restA2n310
    case hyA2n310 => (intro w hSw; (try dsimp only at hSw); go_simp <;> with_reducible rfl)
    try simp only [Act.put, List.setIfInBounds_toArray, List.set_cons_zero, List.set_cons_succ]
    refine wpAnyH_take (i := 11) (v := ?vA2n311) (take_list rfl) (by kernel_rfl) (by kernel_rfl) (by kernel_rfl) (fun _ _ _ h => h) (Or.inl ⟨by rfl, ?hyA2n311⟩) (by assumption) ?restA2n311
    case hyA2n311 => (intro w hSw; (try dsimp only at hSw); go_simp <;> with_reducible rfl)
    try simp only [Act.put, List.setIfInBounds_toArray, List.set_cons_zero, List.set_cons_succ]
    refine wpAnyH_take (i := 12) (v := ?vA2n312) (take_list rfl) (by kernel_rfl) (by kernel_rfl) (by kernel_rfl) (fun _ _ _ h => h) (Or.inl ⟨by rfl, ?hyA2n312⟩) (by assumption) ?restA2n312
    case hyA2n312 => (intro w hSw; (try dsimp only at hSw); go_simp <;> with_reducible rfl)
    try simp only [Act.put, List.setIfInBounds_toArray, List.set_cons_zero, List.set_cons_succ]
    refine wpAnyH_take (i := 13) (v := ?vA2n313) (take_list rfl) (by kernel_rfl) (by kernel_rfl) (by kernel_rfl) (fun _ _ _ h => h) (Or.inl ⟨by rfl, ?hyA2n313⟩) (by assumption) ?restA2n313
    case hyA2n313 => (intro w hSw; (try dsimp only at hSw); go_simp <;> with_reducible rfl)
    try simp only [Act.put, List.setIfInBounds_toArray, List.set_cons_zero, List.set_cons_succ]
    refine wpAnyH_take (i := 14) (v := ?vA2n314) (take_list rfl) (by kernel_rfl) (by kernel_rfl) (by kernel_rfl) (fun _ _ _ h => h) (Or.inl ⟨by rfl, ?hyA2n314⟩) (by assumption) ?restA2n314
    case hyA2n314 => (intro w hSw; (try dsimp only at hSw); go_simp <;> with_reducible rfl)
    try simp only [Act.put, List.setIfInBounds_toArray, List.set_cons_zero, List.set_cons_succ]
    refine wpAnyH_take (i := 15) (v := ?vA2n315) (take_list rfl) (by kernel_rfl) (by kernel_rfl) (by kernel_rfl) (fun _ _ _ h => h) (Or.inl ⟨by rfl, ?hyA2n315⟩) (by assumption) ?restA2n315
    case hyA2n315 => (intro w hSw; (try dsimp only at hSw); go_simp <;> with_reducible rfl)
    try simp only [Act.put, List.setIfInBounds_toArray, List.set_cons_zero, List.set_cons_succ]
    refine wpAnyH_take (i := 16) (v := undef) (take_list rfl) (by kernel_rfl) (by kernel_rfl) (by kernel_rfl) (fun _ _ _ h => h) (Or.inr ⟨by rfl, rfl⟩) (by assumption) ?_
    try simp only [Act.put, List.setIfInBounds_toArray, List.set_cons_zero, List.set_cons_succ]
    refine wpAnyH_take (i := 17) (v := undef) (take_list rfl) (by kernel_rfl) (by kernel_rfl) (by kernel_rfl) (fun _ _ _ h => h) (Or.inr ⟨by rfl, rfl⟩) (by assumption) ?_
    try simp only [Act.put, List.setIfInBounds_toArray, List.set_cons_zero, List.set_cons_succ]
    refine wpAnyH_take (i := 18) (v := undef) (take_list rfl) (by kernel_rfl) (by kernel_rfl) (by kernel_rfl) (fun _ _ _ h => h) (Or.inr ⟨by rfl, rfl⟩) (by assumption) ?_
    try simp only [Act.put, List.setIfInBounds_toArray, List.set_cons_zero, List.set_cons_succ]
    refine wpAnyH_take (i := 19) (v := undef) (take_list rfl) (by kernel_rfl) (by kernel_rfl) (by kernel_rfl) (fun _ _ _ h => h) (Or.inr ⟨by rfl, rfl⟩) (by assumption) ?_
    try simp only [Act.put, List.setIfInBounds_toArray, List.set_cons_zero, List.set_cons_succ]
    refine wpAnyH_take (i := 20) (v := undef) (take_list rfl) (by kernel_rfl) (by kernel_rfl) (by kernel_rfl) (fun _ _ _ h => h) (Or.inr ⟨by rfl, rfl⟩) (by assumption) ?_
    try simp only [Act.put, List.setIfInBounds_toArray, List.set_cons_zero, List.set_cons_succ]
    refine wpAnyH_take (i := 21) (v := undef) (take_list rfl) (by kernel_rfl) (by kernel_rfl) (by kernel_rfl) (fun _ _ _ h => h) (Or.inr ⟨by rfl, rfl⟩) (by assumption) ?_
    try simp only [Act.put, List.setIfInBounds_toArray, List.set_cons_zero, List.set_cons_succ]
    refine wpAnyH_take (i := 22) (v := undef) (take_list rfl) (by kernel_rfl) (by kernel_rfl) (by kernel_rfl) (fun _ _ _ h => h) (Or.inr ⟨by rfl, rfl⟩) (by assumption) ?_
    try simp only [Act.put, List.setIfInBounds_toArray, List.set_cons_zero, List.set_cons_succ]
    refine wpAnyH_take (i := 23) (v := ?vA2n323) (take_list rfl) (by kernel_rfl) (by kernel_rfl) (by kernel_rfl) (fun _ _ _ h => h) (Or.inl ⟨by rfl, ?hyA2n323⟩) (by assumption) ?restA2n323
    case hyA2n323 => (intro w hSw; (try dsimp only at hSw); go_simp <;> with_reducible rfl)
    try simp only [Act.put, List.setIfInBounds_toArray, List.set_cons_zero, List.set_cons_succ]
    refine wpAnyH_take (i := 24) (v := ?vA2n324) (take_list rfl) (by kernel_rfl) (by kernel_rfl) (by kernel_rfl) (fun _ _ _ h => h) (Or.inl ⟨by rfl, ?hyA2n324⟩) (by assumption) ?restA2n324
    case hyA2n324 => (intro w hSw; (try dsimp only at hSw); go_simp <;> with_reducible rfl)
    try simp only [Act.put, List.setIfInBounds_toArray, List.set_cons_zero, List.set_cons_succ]
    refine wpAnyH_take (i := 25) (v := undef) (take_list rfl) (by kernel_rfl) (by kernel_rfl) (by kernel_rfl) (fun _ _ _ h => h) (Or.inr ⟨by rfl, rfl⟩) (by assumption) ?_
    try simp only [Act.put, List.setIfInBounds_toArray, List.set_cons_zero, List.set_cons_succ]
    refine wpAnyH_take (i := 26) (v := undef) (take_list rfl) (by kernel_rfl) (by kernel_rfl) (by kernel_rfl) (fun _ _ _ h => h) (Or.inr ⟨by rfl, rfl⟩) (by assumption) ?_
    try simp only [Act.put, List.setIfInBounds_toArray, List.set_cons_zero, List.set_cons_succ]
    refine wpAnyH_take (i := 27) (v := undef) (take_list rfl) (by kernel_rfl) (by kernel_rfl) (by kernel_rfl) (fun _ _ _ h => h) (Or.inr ⟨by rfl, rfl⟩) (by assumption) ?_
    try simp only [Act.put, List.setIfInBounds_toArray, List.set_cons_zero, List.set_cons_succ]
    refine wpAnyH_take (i := 28) (v := ?vA2n328) (take_list rfl) (by kernel_rfl) (by kernel_rfl) (by kernel_rfl) (fun _ _ _ h => h) (Or.inl ⟨by rfl, ?hyA2n328⟩) (by assumption) ?restA2n328
    case hyA2n328 => (intro w hSw; (try dsimp only at hSw); go_simp <;> with_reducible rfl)
    try simp only [Act.put, List.setIfInBounds_toArray, List.set_cons_zero, List.set_cons_succ]
    refine wpAnyH_take (i := 29) (v := ?vA2n329) (take_list rfl) (by kernel_rfl) (by kernel_rfl) (by kernel_rfl) (fun _ _ _ h => h) (Or.inl ⟨by rfl, ?hyA2n329⟩) (by assumption) ?restA2n329
    case hyA2n329 => (intro w hSw; (try dsimp only at hSw); go_simp <;> with_reducible rfl)
    try simp only [Act.put, List.setIfInBounds_toArray, List.set_cons_zero, List.set_cons_succ]
    refine wpAnyH_take (i := 30) (v := undef) (take_list rfl) (by kernel_rfl) (by kernel_rfl) (by kernel_rfl) (fun _ _ _ h => h) (Or.inr ⟨by rfl, rfl⟩) (by assumption) ?_
    try simp only [Act.put, List.setIfInBounds_toArray, List.set_cons_zero, List.set_cons_succ]
    refine wpAnyH_take (i := 31) (v := undef) (take_list rfl) (by kernel_rfl) (by kernel_rfl) (by kernel_rfl) (fun _ _ _ h => h) (Or.inr ⟨by rfl, rfl⟩) (by assumption) ?_
    try simp only [Act.put, List.setIfInBounds_toArray, List.set_cons_zero, List.set_cons_succ]
    refine wpAnyH_take (i := 32) (v := undef) (take_list rfl) (by kernel_rfl) (by kernel_rfl) (by kernel_rfl) (fun _ _ _ h => h) (Or.inr ⟨by rfl, rfl⟩) (by assumption) ?_
    try simp only [Act.put, List.setIfInBounds_toArray, List.set_cons_zero, List.set_cons_succ]
    refine wpAnyH_take (i := 33) (v := ?vA2n333) (take_list rfl) (by kernel_rfl) (by kernel_rfl) (by kernel_rfl) (fun _ _ _ h => h) (Or.inl ⟨by rfl, ?hyA2n333⟩) (by assumption) ?restA2n333
    case hyA2n333 => (intro w hSw; (try dsimp only at hSw); go_simp <;> with_reducible rfl)
    try simp only [Act.put, List.setIfInBounds_toArray, List.set_cons_zero, List.set_cons_succ]
    refine wpAnyH_take (i := 34) (v := ?vA2n334) (take_list rfl) (by kernel_rfl) (by kernel_rfl) (by kernel_rfl) (fun _ _ _ h => h) (Or.inl ⟨by rfl, ?hyA2n334⟩) (by assumption) ?restA2n334
    case hyA2n334 => (intro w hSw; (try dsimp only at hSw); go_simp <;> with_reducible rfl)
    try simp only [Act.put, List.setIfInBounds_toArray, List.set_cons_zero, List.set_cons_succ]
    refine wpAnyH_done (by kernel_rfl) ?_ _
    go_wp2_with fail
    go_ret
    rw [HE.out]
    exact CatPost.same H.out (Nat.le_succ _) (HB1.out.trans below_drew1)
  have d2 : (decide (v.gen < 1) = false) := by simp; omega
  by_cases c3 : C.gen < v.gen
  case pos =>
    have d3 : (decide (C.gen < v.gen) = true) := by simp; omega
    have HE := Lib.hid (show placedC C v = (12, C) from if_pos (by omega))
    refine wp_region_held_drew (S := (fun w' => w'.cell? ⟨w.heap.size, 1, none⟩ = some (encStr v.key) ∧ w'.cell? ⟨w.heap.size, 2, none⟩ = some (.int .i64 v.gen) ∧ w'.cell? ⟨w.heap.size, 6, none⟩ = some (.int .i64 v.size) ∧ w'.cell? ⟨p, 5, none⟩ = some (.int .i64 C.gen))) (by kernel_rfl) ⟨q1, q2, q6, q5⟩ (fun hHeld => ?_)
    refine wpAnyH_take (i := 0) (v := ?vA3n40) (take_list rfl) (by kernel_rfl) (by kernel_rfl) (by kernel_rfl) (fun _ _ _ h => h) (Or.inl ⟨by rfl, ?hyA3n40⟩) (by assumption) ?restA3n40
    case hyA3n40 => (intro w hSw; (try dsimp only at hSw); go_simp <;> with_reducible rfl)
    try simp only [Act.put, List.setIfInBounds_toArray, List.set_cons_zero, List.set_cons_succ]
    refine wpAnyH_take (i := 1) (v := ?vA3n41) (take_list rfl) (by kernel_rfl) (by kernel_rfl) (by kernel_rfl) (fun _ _ _ h => h) (Or.inl ⟨by rfl, ?hyA3n41⟩) (by assumption) ?restA3n41
    case hyA3n41 => (intro w hSw; (try dsimp only at hSw); go_simp <;> with_reducible rfl)
    try simp only [Act.put, List.setIfInBounds_toArray, List.set_cons_zero, List.set_cons_succ]
    refine wpAnyH_take (i := 2) (v := ?vA3n42) (take_list rfl) (by kernel_rfl) (by kernel_rfl) (by kernel_rfl) (fun _ _ _ h => h) (Or.inl ⟨by rfl, ?hyA3n42⟩) (by assumption) ?restA3n42
    case hyA3n42 => (intro w hSw; (try dsimp only at hSw); go_simp <;> with_reducible rfl)
    try simp only [Act.put, List.setIfInBounds_toArray, List.set_cons_zero, List.set_cons_succ]
    refine wpAnyH_take (i := 3) (v := ?vA3n43) (take_list rfl) (by kernel_rfl) (by kernel_rfl) (by kernel_rfl) (fun _ _ _ h => h) (Or.inl ⟨by rfl, ?hyA3n43⟩) (by assumption) ?restA3n43
    case hyA3n43 => (intro w hSw; (try dsimp only at hSw); go_simp <;> with_reducible rfl)
    try simp only [Act.put, List.setIfInBounds_toArray, List.set_cons_zero, List.set_cons_succ]
    refine wpAnyH_take (i := 4) (v := ?vA3n44) (take_list rfl) (by kernel_rfl) (by kernel_rfl) (by kernel_rfl) (fun _ _ _ h => h) (Or.inl ⟨by rfl, ?hyA3n44⟩) (by assumption) ?restA3n44
    case hyA3n44 => (intro w hSw; (try dsimp only at hSw); go_simp <;> with_reducible rfl)
    try simp only [Act.put, List.setIfInBounds_toArray, List.set_cons_zero, List.set_cons_succ]
    refine wpAnyH_take (i := 5) (v := ?vA3n45) (take_list rfl) (by kernel_rfl) (by kernel_rfl) (by kernel_rfl) (fun _ _ _ h => h) (Or.inl ⟨by rfl, ?hyA3n45⟩) (by assumption) ?restA3n45
    case hyA3n45 => (intro w hSw; (try dsimp only at hSw); go_simp <;> with_reducible rfl)
    try simp only [Act.put, List.setIfInBounds_toArray, List.set_cons_zero, List.set_cons_succ]
    refine wpAnyH_take (i := 6) (v := ?vA3n46) (take_list rfl) (by kernel_rfl) (by kernel_rfl) (by kernel_rfl) (fun _ _ _ h => h) (Or.inl ⟨by rfl, ?hyA3n46⟩) (by assumption) ?restA3n46
    case hyA3n46 => (intro w hSw; (try dsimp only at hSw); go_simp <;> with_reducible rfl)
    try simp only [Act.put, List.setIfInBounds_toArray, List.set_cons_zero, List.set_cons_succ]
    refine wpAnyH_take (i := 7) (v := ?vA3n47) (take_list rfl) (by kernel_rfl) (by kernel_rfl) (by kernel_rfl) (fun _ _ _ h => h) (Or.inl ⟨by rfl, ?hyA3n47⟩) (by assumption) ?restA3n47
    case hyA3n47 => (intro w hSw; (try dsimp only at hSw); go_simp <;> with_reducible rfl)
    try simp only [Act.put, List.setIfInBounds_toArray, List.set_cons_zero, List.set_cons_succ]
    refine wpAnyH_take (i := 8) (v := ?vA3n48) (take_list rfl) (by kernel_rfl) (by kernel_rfl) (by kernel_rfl) (fun _ _ _ h => h) (Or.inl ⟨by rfl, ?hyA3n48⟩) (by assumption) ?restA3n48
    case hyA3n48 => (intro w hSw; (try dsimp only at hSw); go_simp <;> with_reducible rfl)
    try simp only [Act.put, List.setIfInBounds_toArray, List.set_cons_zero, List.set_cons_succ]
    refine wpAnyH_take (i := 9) (v := ?vA3n49) (take_list rfl) (by kernel_rfl) (by kernel_rfl) (by kernel_rfl) (fun _ _ _ h => h) (Or.inl ⟨by rfl, ?hyA3n49⟩) (by assumption) ?restA3n49
    case hyA3n49 => (intro w hSw; (try dsimp only at hSw); go_simp <;> with_reducible rfl)
    try simp only [Act.put, List.setIfInBounds_toArray, List.set_cons_zero, List.set_cons_succ]
    refine wpAnyH_take (i := 10) (v := ?vA3n410) (take_list rfl) (by kernel_rfl) (by kernel_rfl) (by kernel_rfl) (fun _ _ _ h => h) (Or.inl ⟨by rfl, ?hyA3n410⟩) (by assumption) ?restA3n410
    case hyA3n410 => (intro w hSw; (try dsimp only at hSw); go_simp <;> with_reducible rfl)
    try simp only [Act.put, List.setIfInBounds_toArray, List.set_cons_zero, List.set_cons_succ]
    refine wpAnyH_take (i := 11) (v := ?vA3n411) (take_list rfl) (by kernel_rfl) (by kernel_rfl) (by kernel_rfl) (fun _ _ _ h => h) (Or.inl ⟨by rfl, ?hyA3n411⟩) (by assumption) ?restA3n411
    case hyA3n411 => (intro w hSw; (try dsimp only at hSw); go_simp <;> with_reducible rfl)
    try simp only [Act.put, List.setIfInBounds_toArray, List.set_cons_zero, List.set_cons_succ]
    refine wpAnyH_take (i := 12) (v := ?vA3n412) (take_list rfl) (by kernel_rfl) (by kernel_rfl) (by kernel_rfl) (fun _ _ _ h => h) (Or.inl ⟨by rfl, ?hyA3n412⟩) (by assumption) ?restA3n412
    case hyA3n412 => (intro w hSw; (try dsimp only at hSw); go_simp <;> with_reducible rfl)
    try simp only [Act.put, List.setIfInBounds_toArray, List.set_cons_zero, List.set_cons_succ]
    refine wpAnyH_take (i := 13) (v := ?vA3n413) (take_list rfl) (by kernel_rfl) (by kernel_rfl) (by kernel_rfl) (fun _ _ _ h => h) (Or.inl ⟨by rfl, ?hyA3n413⟩) (by assumption) ?restA3n413
    case hyA3n413 => (intro w hSw; (try dsimp only at hSw); go_simp <;> with_reducible rfl)
    try simp only [Act.put, List.setIfInBounds_toArray, List.set_cons_zero, List.set_cons_succ]
    refine wpAnyH_take (i := 14) (v := ?vA3n414) (take_list rfl) (by kernel_rfl) (by kernel_rfl) (by kernel_rfl) (fun _ _ _ h => h) (Or.inl ⟨by rfl, ?hyA3n414⟩) (by assumption) ?restA3n414
    case hyA3n414 => (intro w hSw; (try dsimp only at hSw); go_simp <;> with_reducible rfl)
    try simp only [Act.put, List.setIfInBounds_toArray, List.set_cons_zero, List.set_cons_succ]
    refine wpAnyH_take (i := 15) (v := ?vA3n415) (take_list rfl) (by kernel_rfl) (by kernel_rfl) (by kernel_rfl) (fun _ _ _ h => h) (Or.inl ⟨by rfl, ?hyA3n415⟩) (by assumption) ?restA3n415
    case hyA3n415 => (intro w hSw; (try dsimp only at hSw); go_simp <;> with_reducible rfl)
    try simp only [Act.put, List.setIfInBounds_toArray, List.set_cons_zero, List.set_cons_succ]
    refine wpAnyH_take (i := 16) (v := ?vA3n416) (take_list rfl) (by kernel_rfl) (by kernel_rfl) (by kernel_rfl) (fun _ _ _ h => h) (Or.inl ⟨by rfl, ?hyA3n416⟩) (by assumption) ?restA3n416
    case hyA3n416 => (intro w hSw; (try dsimp only at hSw); go_simp <;> with_reducible rfl)
    try simp only [Act.put, List.setIfInBounds_toArray, List.set_cons_zero, List.set_cons_succ]
    refine wpAnyH_take (i := 17) (v := ?vA3n417) (take_list rfl) (by kernel_rfl) (by kernel_rfl) (by kernel_rfl) (fun _ _ _ h => h) (Or.inl ⟨by rfl, ?hyA3n417⟩) (by assumption) ?restA3n417
    case hyA3n417 => (intro w hSw; (try dsimp only at hSw); go_simp <;> with_reducible rfl)
    try simp only [Act.put, List.setIfInBounds_toArray, List.set_cons_zero, List.set_cons_succ]
    refine wpAnyH_take (i := 18) (v := ?vA3n418) (take_list rfl) (by kernel_rfl) (by kernel_rfl) (by kernel_rfl) (fun _ _ _ h => h) (Or.inl ⟨by rfl, ?hyA3n418⟩) (by assumption) ?restA3n418
    case hyA3n418 => (intro w hSw; (try dsimp only at hSw); go_simp <;> with_reducible rfl)
    try simp only [Act.put, List.setIfInBounds_toArray, List.set_cons_zero, List.set_cons_succ]
    refine wpAnyH_take (i := 19) (v := ?vA3n419) (take_list rfl) (by kernel_rfl) (by kernel_rfl) (by kernel_rfl) (fun _ _ _ h => h) (Or.inl ⟨by rfl, ?hyA3n419⟩) (by assumption) ?restA3n419
    case hyA3n419 => (intro w hSw; (try dsimp only at hSw); go_simp <;> with_reducible rfl)
    try simp only [Act.put, List.setIfInBounds_toArray, List.set_cons_zero, List.set_cons_succ]
    refine wpAnyH_take (i := 20) (v := ?vA3n420) (take_list rfl) (by kernel_rfl) (by kernel_rfl) (by kernel_rfl) (fun _ _ _ h => h) (Or.inl ⟨by rfl, ?hyA3n420⟩) (by assumption) ?restA3n420
    case hyA3n420 => (intro w hSw; (try dsimp only at hSw); go_simp <;> with_reducible rfl)
    try simp only [Act.put, List.setIfInBounds_toArray, List.set_cons_zero, List.set_cons_succ]
    refine wpAnyH_take (i := 21) (v := ?vA3n421) (take_list rfl) (by kernel_rfl) (by kernel_rfl) (by kernel_rfl) (fun _ _ _ h => h) (Or.inl ⟨by rfl, ?hyA3n421⟩) (by assumption) ?restA3n421
    case hyA3n421 => (intro w hSw; (try dsimp only at hSw); go_simp <;> with_reducible rfl)
    try simp only [Act.put, List.setIfInBounds_toArray, List.set_cons_zero, List.set_cons_succ]
    refine wpAnyH_take (i := 22) (v := ?vA3n422) (take_list rfl) (by kernel_rfl) (by kernel_rfl) (by kernel_rfl) (fun _ _ _ h => h) (Or.inl ⟨by rfl, ?hyA3n422⟩) (by assumption) ?restA3n422
    case hyA3n422 => (intro w hSw; (try dsimp only at hSw); go_simp <;> with_reducible rfl)
    try simp only [Act.put, List.setIfInBounds_toArray, List.set_cons_zero, List.set_cons_succ]
    refine wpAnyH_take (i := 23) (v := ?vA3n423) (take_list rfl) (by kernel_rfl) (by kernel_rfl) (by kernel_rfl) (fun _ _ _ h => h) (Or.inl ⟨by rfl, ?hyA3n423⟩) (by assumption) ?restA3n423
    case hyA3n423 => (intro w hSw; (try dsimp only at hSw); go_simp <;> with_reducible rfl)
    try simp only [Act.put, List.setIfInBounds_toArray, List.set_cons_zero, List.set_cons_succ]
    refine wpAnyH_take (i := 24) (v := ?vA3n424) (take_list rfl) (by kernel_rfl) (by kernel_rfl) (by kernel_rfl) (fun _ _ _ h => h) (Or.inl ⟨by rfl, ?hyA3n424⟩) (by assumption) ?restA3n424
    case hyA3n424 => (intro w hSw; (try dsimp only at hSw); go_simp <;> with_reducible rfl)
    try simp only [Act.put, List.setIfInBounds_toArray, List.set_cons_zero, List.set_cons_succ]
    refine wpAnyH_take (i := 25) (v := undef) (take_list rfl) (by kernel_rfl) (by kernel_rfl) (by kernel_rfl) (fun _ _ _ h => h) (Or.inr ⟨by rfl, rfl⟩) (by assumption) ?_
    try simp only [Act.put, List.setIfInBounds_toArray, List.set_cons_zero, List.set_cons_succ]
    refine wpAnyH_take (i := 26) (v := undef) (take_list rfl) (by kernel_rfl) (by kernel_rfl) (by kernel_rfl) (fun _ _ _ h => h) (Or.inr ⟨by rfl, rfl⟩) (by assumption) ?_
    try simp only [Act.put, List.setIfInBounds_toArray, List.set_cons_zero, List.set_cons_succ]
    refine wpAnyH_take (i := 27) (v := undef) (take_list rfl) (by kernel_rfl) (by kernel_rfl) (by kernel_rfl) (fun _ _ _ h => h) (Or.inr ⟨by rfl, rfl⟩) (by assumption) ?_
    try simp only [Act.put, List.setIfInBounds_toArray, List.set_cons_zero, List.set_cons_succ]
    refine wpAnyH_take (i := 28) (v := ?vA3n428) (take_list rfl) (by kernel_rfl) (by kernel_rfl) (by kernel_rfl) (fun _ _ _ h => h) (Or.inl ⟨by rfl, ?hyA3n428⟩) (by assumption) ?restA3n428
    case hyA3n428 => (intro w hSw; (try dsimp only at hSw); go_simp <;> with_reducible rfl)
    try simp only [Act.put, List.setIfInBounds_toArray, List.set_cons_zero, List.set_cons_succ]
    refine wpAnyH_take (i := 29) (v := ?vA3n429) (take_list rfl) (by kernel_rfl) (by kernel_rfl) (by kernel_rfl) (fun _ _ _ h => h) (Or.inl ⟨by rfl, ?hyA3n429⟩) (by assumption) ?restA3n429
    case hyA3n429 => (intro w hSw; (try dsimp only at hSw); go_simp <;> with_reducible rfl)
    try simp only [Act.put, List.setIfInBounds_toArray, List.set_cons_zero, List.set_cons_succ]
    refine wpAnyH_take (i := 30) (v := undef) (take_list rfl) (by kernel_rfl) (by kernel_rfl) (by kernel_rfl) (fun _ _ _ h => h) (Or.inr ⟨by rfl, rfl⟩) (by assumption) ?_
    try simp only [Act.put, List.setIfInBounds_toArray, List.set_cons_zero, List.set_cons_succ]
    refine wpAnyH_take (i := 31) (v := undef) (take_list rfl) (by kernel_rfl) (by kernel_rfl) (by kernel_rfl) (fun _ _ _ h => h) (Or.inr ⟨by rfl, rfl⟩) (by assumption) ?_
    try simp only [Act.put, List.setIfInBounds_toArray, List.set_cons_zero, List.set_cons_succ]
    refine wpAnyH_take (i := 32) (v := undef) (take_list rfl) (by kernel_rfl) (by kernel_rfl) (by kernel_rfl) (fun _ _ _ h => h) (Or.inr ⟨by rfl, rfl⟩) (by assumption) ?_
    try simp only [Act.put, List.setIfInBounds_toArray, List.set_cons_zero, List.set_cons_succ]
    refine wpAnyH_take (i := 33) (v := ?vA3n433) (take_list rfl) (by kernel_rfl) (by kernel_rfl) (by kernel_rfl) (fun _ _ _ h => h) (Or.inl ⟨by rfl, ?hyA3n433⟩) (by assumption) ?restA3n433
    case hyA3n433 => (intro w hSw; (try dsimp only at hSw); go_simp <;> with_reducible rfl)
    try simp only [Act.put, List.setIfInBounds_toArray, List.set_cons_zero, List.set_cons_succ]
    refine wpAnyH_take (i := 34) (v := ?vA3n434) (take_list rfl) (by kernel_rfl) (by kernel_rfl) (by kernel_rfl) (fun _ _ _ h => h) (Or.inl ⟨by rfl, ?hyA3n434⟩) (by assumption) ?restA3n434
    case hyA3n434 => (intro w hSw; (try dsimp only at hSw); go_simp <;> with_reducible rfl)
    try simp only [Act.put, List.setIfInBounds_toArray, List.set_cons_zero, List.set_cons_succ]
    refine wpAnyH_done (by kernel_rfl) ?_ _
    go_wp2_with fail
    go_ret
    rw [HE.out]
    exact CatPost.same H.out (Nat.le_succ _) (HB1.out.trans below_drew1)
  have d3 : (decide (C.gen < v.gen) = false) := by simp; omega
  by_cases c4 : v.size < 0
  case pos =>
    have d4 : (decide (v.size < 0) = true) := by simp; omega
    have HE := Lib.hid (show placedC C v = (12, C) from if_pos (by omega))
    refine wp_region_held_drew (S := (fun w' => w'.cell? ⟨w.heap.size, 1, none⟩ = some (encStr v.key) ∧ w'.cell? ⟨w.heap.size, 2, none⟩ = some (.int .i64 v.gen) ∧ w'.cell? ⟨w.heap.size, 6, none⟩ = some (.int .i64 v.size) ∧ w'.cell? ⟨p, 5, none⟩ = some (.int .i64 C.gen))) (by kernel_rfl) ⟨q1, q2, q6, q5⟩ (fun hHeld => ?_)
    refine wpAnyH_take (i := 0) (v := ?vA4n50) (take_list rfl) (by kernel_rfl) (by kernel_rfl) (by kernel_rfl) (fun _ _ _ h => h) (Or.inl ⟨by rfl, ?hyA4n50⟩) (by assumption) ?restA4n50
    case hyA4n50 => (intro w hSw; (try dsimp only at hSw); go_simp <;> with_reducible rfl)
    try simp only [Act.put, List.setIfInBounds_toArray, List.set_cons_zero, List.set_cons_succ]
    refine wpAnyH_take (i := 1) (v := ?vA4n51) (take_list rfl) (by kernel_rfl) (by kernel_rfl) (by kernel_rfl) (fun _ _ _ h => h) (Or.inl ⟨by rfl, ?hyA4n51⟩) (by assumption) ?restA4n51
    case hyA4n51 => (intro w hSw; (try dsimp only at hSw); go_simp <;> with_reducible rfl)
    try simp only [Act.put, List.setIfInBounds_toArray, List.set_cons_zero, List.set_cons_succ]
    refine wpAnyH_take (i := 2) (v := ?vA4n52) (take_list rfl) (by kernel_rfl) (by kernel_rfl) (by kernel_rfl) (fun _ _ _ h => h) (Or.inl ⟨by rfl, ?hyA4n52⟩) (by assumption) ?restA4n52
    case hyA4n52 => (intro w hSw; (try dsimp only at hSw); go_simp <;> with_reducible rfl)
    try simp only [Act.put, List.setIfInBounds_toArray, List.set_cons_zero, List.set_cons_succ]
    refine wpAnyH_take (i := 3) (v := ?vA4n53) (take_list rfl) (by kernel_rfl) (by kernel_rfl) (by kernel_rfl) (fun _ _ _ h => h) (Or.inl ⟨by rfl, ?hyA4n53⟩) (by assumption) ?restA4n53
    case hyA4n53 => (intro w hSw; (try dsimp only at hSw); go_simp <;> with_reducible rfl)
    try simp only [Act.put, List.setIfInBounds_toArray, List.set_cons_zero, List.set_cons_succ]
    refine wpAnyH_take (i := 4) (v := ?vA4n54) (take_list rfl) (by kernel_rfl) (by kernel_rfl) (by kernel_rfl) (fun _ _ _ h => h) (Or.inl ⟨by rfl, ?hyA4n54⟩) (by assumption) ?restA4n54
    case hyA4n54 => (intro w hSw; (try dsimp only at hSw); go_simp <;> with_reducible rfl)
    try simp only [Act.put, List.setIfInBounds_toArray, List.set_cons_zero, List.set_cons_succ]
    refine wpAnyH_take (i := 5) (v := ?vA4n55) (take_list rfl) (by kernel_rfl) (by kernel_rfl) (by kernel_rfl) (fun _ _ _ h => h) (Or.inl ⟨by rfl, ?hyA4n55⟩) (by assumption) ?restA4n55
    case hyA4n55 => (intro w hSw; (try dsimp only at hSw); go_simp <;> with_reducible rfl)
    try simp only [Act.put, List.setIfInBounds_toArray, List.set_cons_zero, List.set_cons_succ]
    refine wpAnyH_take (i := 6) (v := ?vA4n56) (take_list rfl) (by kernel_rfl) (by kernel_rfl) (by kernel_rfl) (fun _ _ _ h => h) (Or.inl ⟨by rfl, ?hyA4n56⟩) (by assumption) ?restA4n56
    case hyA4n56 => (intro w hSw; (try dsimp only at hSw); go_simp <;> with_reducible rfl)
    try simp only [Act.put, List.setIfInBounds_toArray, List.set_cons_zero, List.set_cons_succ]
    refine wpAnyH_take (i := 7) (v := ?vA4n57) (take_list rfl) (by kernel_rfl) (by kernel_rfl) (by kernel_rfl) (fun _ _ _ h => h) (Or.inl ⟨by rfl, ?hyA4n57⟩) (by assumption) ?restA4n57
    case hyA4n57 => (intro w hSw; (try dsimp only at hSw); go_simp <;> with_reducible rfl)
    try simp only [Act.put, List.setIfInBounds_toArray, List.set_cons_zero, List.set_cons_succ]
    refine wpAnyH_take (i := 8) (v := ?vA4n58) (take_list rfl) (by kernel_rfl) (by kernel_rfl) (by kernel_rfl) (fun _ _ _ h => h) (Or.inl ⟨by rfl, ?hyA4n58⟩) (by assumption) ?restA4n58
    case hyA4n58 => (intro w hSw; (try dsimp only at hSw); go_simp <;> with_reducible rfl)
    try simp only [Act.put, List.setIfInBounds_toArray, List.set_cons_zero, List.set_cons_succ]
    refine wpAnyH_take (i := 9) (v := ?vA4n59) (take_list rfl) (by kernel_rfl) (by kernel_rfl) (by kernel_rfl) (fun _ _ _ h => h) (Or.inl ⟨by rfl, ?hyA4n59⟩) (by assumption) ?restA4n59
    case hyA4n59 => (intro w hSw; (try dsimp only at hSw); go_simp <;> with_reducible rfl)
    try simp only [Act.put, List.setIfInBounds_toArray, List.set_cons_zero, List.set_cons_succ]
    refine wpAnyH_take (i := 10) (v := ?vA4n510) (take_list rfl) (by kernel_rfl) (by kernel_rfl) (by kernel_rfl) (fun _ _ _ h => h) (Or.inl ⟨by rfl, ?hyA4n510⟩) (by assumption) ?restA4n510
    case hyA4n510 => (intro w hSw; (try dsimp only at hSw); go_simp <;> with_reducible rfl)
    try simp only [Act.put, List.setIfInBounds_toArray, List.set_cons_zero, List.set_cons_succ]
    refine wpAnyH_take (i := 11) (v := ?vA4n511) (take_list rfl) (by kernel_rfl) (by kernel_rfl) (by kernel_rfl) (fun _ _ _ h => h) (Or.inl ⟨by rfl, ?hyA4n511⟩) (by assumption) ?restA4n511
    case hyA4n511 => (intro w hSw; (try dsimp only at hSw); go_simp <;> with_reducible rfl)
    try simp only [Act.put, List.setIfInBounds_toArray, List.set_cons_zero, List.set_cons_succ]
    refine wpAnyH_take (i := 12) (v := ?vA4n512) (take_list rfl) (by kernel_rfl) (by kernel_rfl) (by kernel_rfl) (fun _ _ _ h => h) (Or.inl ⟨by rfl, ?hyA4n512⟩) (by assumption) ?restA4n512
    case hyA4n512 => (intro w hSw; (try dsimp only at hSw); go_simp <;> with_reducible rfl)
    try simp only [Act.put, List.setIfInBounds_toArray, List.set_cons_zero, List.set_cons_succ]
    refine wpAnyH_take (i := 13) (v := ?vA4n513) (take_list rfl) (by kernel_rfl) (by kernel_rfl) (by kernel_rfl) (fun _ _ _ h => h) (Or.inl ⟨by rfl, ?hyA4n513⟩) (by assumption) ?restA4n513
    case hyA4n513 => (intro w hSw; (try dsimp only at hSw); go_simp <;> with_reducible rfl)
    try simp only [Act.put, List.setIfInBounds_toArray, List.set_cons_zero, List.set_cons_succ]
    refine wpAnyH_take (i := 14) (v := ?vA4n514) (take_list rfl) (by kernel_rfl) (by kernel_rfl) (by kernel_rfl) (fun _ _ _ h => h) (Or.inl ⟨by rfl, ?hyA4n514⟩) (by assumption) ?restA4n514
    case hyA4n514 => (intro w hSw; (try dsimp only at hSw); go_simp <;> with_reducible rfl)
    try simp only [Act.put, List.setIfInBounds_toArray, List.set_cons_zero, List.set_cons_succ]
    refine wpAnyH_take (i := 15) (v := ?vA4n515) (take_list rfl) (by kernel_rfl) (by kernel_rfl) (by kernel_rfl) (fun _ _ _ h => h) (Or.inl ⟨by rfl, ?hyA4n515⟩) (by assumption) ?restA4n515
    case hyA4n515 => (intro w hSw; (try dsimp only at hSw); go_simp <;> with_reducible rfl)
    try simp only [Act.put, List.setIfInBounds_toArray, List.set_cons_zero, List.set_cons_succ]
    refine wpAnyH_take (i := 16) (v := ?vA4n516) (take_list rfl) (by kernel_rfl) (by kernel_rfl) (by kernel_rfl) (fun _ _ _ h => h) (Or.inl ⟨by rfl, ?hyA4n516⟩) (by assumption) ?restA4n516
    case hyA4n516 => (intro w hSw; (try dsimp only at hSw); go_simp <;> with_reducible rfl)
    try simp only [Act.put, List.setIfInBounds_toArray, List.set_cons_zero, List.set_cons_succ]
    refine wpAnyH_take (i := 17) (v := ?vA4n517) (take_list rfl) (by kernel_rfl) (by kernel_rfl) (by kernel_rfl) (fun _ _ _ h => h) (Or.inl ⟨by rfl, ?hyA4n517⟩) (by assumption) ?restA4n517
    case hyA4n517 => (intro w hSw; (try dsimp only at hSw); go_simp <;> with_reducible rfl)
    try simp only [Act.put, List.setIfInBounds_toArray, List.set_cons_zero, List.set_cons_succ]
    refine wpAnyH_take (i := 18) (v := ?vA4n518) (take_list rfl) (by kernel_rfl) (by kernel_rfl) (by kernel_rfl) (fun _ _ _ h => h) (Or.inl ⟨by rfl, ?hyA4n518⟩) (by assumption) ?restA4n518
    case hyA4n518 => (intro w hSw; (try dsimp only at hSw); go_simp <;> with_reducible rfl)
    try simp only [Act.put, List.setIfInBounds_toArray, List.set_cons_zero, List.set_cons_succ]
    refine wpAnyH_take (i := 19) (v := ?vA4n519) (take_list rfl) (by kernel_rfl) (by kernel_rfl) (by kernel_rfl) (fun _ _ _ h => h) (Or.inl ⟨by rfl, ?hyA4n519⟩) (by assumption) ?restA4n519
    case hyA4n519 => (intro w hSw; (try dsimp only at hSw); go_simp <;> with_reducible rfl)
    try simp only [Act.put, List.setIfInBounds_toArray, List.set_cons_zero, List.set_cons_succ]
    refine wpAnyH_take (i := 20) (v := ?vA4n520) (take_list rfl) (by kernel_rfl) (by kernel_rfl) (by kernel_rfl) (fun _ _ _ h => h) (Or.inl ⟨by rfl, ?hyA4n520⟩) (by assumption) ?restA4n520
    case hyA4n520 => (intro w hSw; (try dsimp only at hSw); go_simp <;> with_reducible rfl)
    try simp only [Act.put, List.setIfInBounds_toArray, List.set_cons_zero, List.set_cons_succ]
    refine wpAnyH_take (i := 21) (v := ?vA4n521) (take_list rfl) (by kernel_rfl) (by kernel_rfl) (by kernel_rfl) (fun _ _ _ h => h) (Or.inl ⟨by rfl, ?hyA4n521⟩) (by assumption) ?restA4n521
    case hyA4n521 => (intro w hSw; (try dsimp only at hSw); go_simp <;> with_reducible rfl)
    try simp only [Act.put, List.setIfInBounds_toArray, List.set_cons_zero, List.set_cons_succ]
    refine wpAnyH_take (i := 22) (v := ?vA4n522) (take_list rfl) (by kernel_rfl) (by kernel_rfl) (by kernel_rfl) (fun _ _ _ h => h) (Or.inl ⟨by rfl, ?hyA4n522⟩) (by assumption) ?restA4n522
    case hyA4n522 => (intro w hSw; (try dsimp only at hSw); go_simp <;> with_reducible rfl)
    try simp only [Act.put, List.setIfInBounds_toArray, List.set_cons_zero, List.set_cons_succ]
    refine wpAnyH_take (i := 23) (v := ?vA4n523) (take_list rfl) (by kernel_rfl) (by kernel_rfl) (by kernel_rfl) (fun _ _ _ h => h) (Or.inl ⟨by rfl, ?hyA4n523⟩) (by assumption) ?restA4n523
    case hyA4n523 => (intro w hSw; (try dsimp only at hSw); go_simp <;> with_reducible rfl)
    try simp only [Act.put, List.setIfInBounds_toArray, List.set_cons_zero, List.set_cons_succ]
    refine wpAnyH_take (i := 24) (v := ?vA4n524) (take_list rfl) (by kernel_rfl) (by kernel_rfl) (by kernel_rfl) (fun _ _ _ h => h) (Or.inl ⟨by rfl, ?hyA4n524⟩) (by assumption) ?restA4n524
    case hyA4n524 => (intro w hSw; (try dsimp only at hSw); go_simp <;> with_reducible rfl)
    try simp only [Act.put, List.setIfInBounds_toArray, List.set_cons_zero, List.set_cons_succ]
    refine wpAnyH_take (i := 25) (v := ?vA4n525) (take_list rfl) (by kernel_rfl) (by kernel_rfl) (by kernel_rfl) (fun _ _ _ h => h) (Or.inl ⟨by rfl, ?hyA4n525⟩) (by assumption) ?restA4n525
    case hyA4n525 => (intro w hSw; (try dsimp only at hSw); go_simp <;> with_reducible rfl)
    try simp only [Act.put, List.setIfInBounds_toArray, List.set_cons_zero, List.set_cons_succ]
    refine wpAnyH_take (i := 26) (v := ?vA4n526) (take_list rfl) (by kernel_rfl) (by kernel_rfl) (by kernel_rfl) (fun _ _ _ h => h) (Or.inl ⟨by rfl, ?hyA4n526⟩) (by assumption) ?restA4n526
    case hyA4n526 => (intro w hSw; (try dsimp only at hSw); go_simp <;> with_reducible rfl)
    try simp only [Act.put, List.setIfInBounds_toArray, List.set_cons_zero, List.set_cons_succ]
    refine wpAnyH_take (i := 27) (v := ?vA4n527) (take_list rfl) (by kernel_rfl) (by kernel_rfl) (by kernel_rfl) (fun _ _ _ h => h) (Or.inl ⟨by rfl, ?hyA4n527⟩) (by assumption) ?restA4n527
    case hyA4n527 => (intro w hSw; (try dsimp only at hSw); go_simp <;> with_reducible rfl)
    try simp only [Act.put, List.setIfInBounds_toArray, List.set_cons_zero, List.set_cons_succ]
    refine wpAnyH_take (i := 28) (v := ?vA4n528) (take_list rfl) (by kernel_rfl) (by kernel_rfl) (by kernel_rfl) (fun _ _ _ h => h) (Or.inl ⟨by rfl, ?hyA4n528⟩) (by assumption) ?restA4n528
    case hyA4n528 => (intro w hSw; (try dsimp only at hSw); go_simp <;> with_reducible rfl)
    try simp only [Act.put, List.setIfInBounds_toArray, List.set_cons_zero, List.set_cons_succ]
    refine wpAnyH_take (i := 29) (v := ?vA4n529) (take_list rfl) (by kernel_rfl) (by kernel_rfl) (by kernel_rfl) (fun _ _ _ h => h) (Or.inl ⟨by rfl, ?hyA4n529⟩) (by assumption) ?restA4n529
    case hyA4n529 => (intro w hSw; (try dsimp only at hSw); go_simp <;> with_reducible rfl)
    try simp only [Act.put, List.setIfInBounds_toArray, List.set_cons_zero, List.set_cons_succ]
    refine wpAnyH_take (i := 30) (v := undef) (take_list rfl) (by kernel_rfl) (by kernel_rfl) (by kernel_rfl) (fun _ _ _ h => h) (Or.inr ⟨by rfl, rfl⟩) (by assumption) ?_
    try simp only [Act.put, List.setIfInBounds_toArray, List.set_cons_zero, List.set_cons_succ]
    refine wpAnyH_take (i := 31) (v := undef) (take_list rfl) (by kernel_rfl) (by kernel_rfl) (by kernel_rfl) (fun _ _ _ h => h) (Or.inr ⟨by rfl, rfl⟩) (by assumption) ?_
    try simp only [Act.put, List.setIfInBounds_toArray, List.set_cons_zero, List.set_cons_succ]
    refine wpAnyH_take (i := 32) (v := undef) (take_list rfl) (by kernel_rfl) (by kernel_rfl) (by kernel_rfl) (fun _ _ _ h => h) (Or.inr ⟨by rfl, rfl⟩) (by assumption) ?_
    try simp only [Act.put, List.setIfInBounds_toArray, List.set_cons_zero, List.set_cons_succ]
    refine wpAnyH_take (i := 33) (v := ?vA4n533) (take_list rfl) (by kernel_rfl) (by kernel_rfl) (by kernel_rfl) (fun _ _ _ h => h) (Or.inl ⟨by rfl, ?hyA4n533⟩) (by assumption) ?restA4n533
    case hyA4n533 => (intro w hSw; (try dsimp only at hSw); go_simp <;> with_reducible rfl)
    try simp only [Act.put, List.setIfInBounds_toArray, List.set_cons_zero, List.set_cons_succ]
    refine wpAnyH_take (i := 34) (v := ?vA4n534) (take_list rfl) (by kernel_rfl) (by kernel_rfl) (by kernel_rfl) (fun _ _ _ h => h) (Or.inl ⟨by rfl, ?hyA4n534⟩) (by assumption) ?restA4n534
    case hyA4n534 => (intro w hSw; (try dsimp only at hSw); go_simp <;> with_reducible rfl)
    try simp only [Act.put, List.setIfInBounds_toArray, List.set_cons_zero, List.set_cons_succ]
    refine wpAnyH_done (by kernel_rfl) ?_ _
    go_wp2_with fail
    go_ret
    rw [HE.out]
    exact CatPost.same H.out (Nat.le_succ _) (HB1.out.trans below_drew1)
  have d4 : (decide (v.size < 0) = false) := by simp; omega
  by_cases c5 : 512 < v.size
  case pos =>
    have d5 : (decide (512 < v.size) = true) := by simp; omega
    have HE := Lib.hid (show placedC C v = (12, C) from if_pos (by omega))
    refine wp_region_held_drew (S := (fun w' => w'.cell? ⟨w.heap.size, 1, none⟩ = some (encStr v.key) ∧ w'.cell? ⟨w.heap.size, 2, none⟩ = some (.int .i64 v.gen) ∧ w'.cell? ⟨w.heap.size, 6, none⟩ = some (.int .i64 v.size) ∧ w'.cell? ⟨p, 5, none⟩ = some (.int .i64 C.gen))) (by kernel_rfl) ⟨q1, q2, q6, q5⟩ (fun hHeld => ?_)
    refine wpAnyH_take (i := 0) (v := ?vA5n60) (take_list rfl) (by kernel_rfl) (by kernel_rfl) (by kernel_rfl) (fun _ _ _ h => h) (Or.inl ⟨by rfl, ?hyA5n60⟩) (by assumption) ?restA5n60
    case hyA5n60 => (intro w hSw; (try dsimp only at hSw); go_simp <;> with_reducible rfl)
    try simp only [Act.put, List.setIfInBounds_toArray, List.set_cons_zero, List.set_cons_succ]
    refine wpAnyH_take (i := 1) (v := ?vA5n61) (take_list rfl) (by kernel_rfl) (by kernel_rfl) (by kernel_rfl) (fun _ _ _ h => h) (Or.inl ⟨by rfl, ?hyA5n61⟩) (by assumption) ?restA5n61
    case hyA5n61 => (intro w hSw; (try dsimp only at hSw); go_simp <;> with_reducible rfl)
    try simp only [Act.put, List.setIfInBounds_toArray, List.set_cons_zero, List.set_cons_succ]
    refine wpAnyH_take (i := 2) (v := ?vA5n62) (take_list rfl) (by kernel_rfl) (by kernel_rfl) (by kernel_rfl) (fun _ _ _ h => h) (Or.inl ⟨by rfl, ?hyA5n62⟩) (by assumption) ?restA5n62
    case hyA5n62 => (intro w hSw; (try dsimp only at hSw); go_simp <;> with_reducible rfl)
    try simp only [Act.put, List.setIfInBounds_toArray, List.set_cons_zero, List.set_cons_succ]
    refine wpAnyH_take (i := 3) (v := ?vA5n63) (take_list rfl) (by kernel_rfl) (by kernel_rfl) (by kernel_rfl) (fun _ _ _ h => h) (Or.inl ⟨by rfl, ?hyA5n63⟩) (by assumption) ?restA5n63
    case hyA5n63 => (intro w hSw; (try dsimp only at hSw); go_simp <;> with_reducible rfl)
    try simp only [Act.put, List.setIfInBounds_toArray, List.set_cons_zero, List.set_cons_succ]
    refine wpAnyH_take (i := 4) (v := ?vA5n64) (take_list rfl) (by kernel_rfl) (by kernel_rfl) (by kernel_rfl) (fun _ _ _ h => h) (Or.inl ⟨by rfl, ?hyA5n64⟩) (by assumption) ?restA5n64
    case hyA5n64 => (intro w hSw; (try dsimp only at hSw); go_simp <;> with_reducible rfl)
    try simp only [Act.put, List.setIfInBounds_toArray, List.set_cons_zero, List.set_cons_succ]
    refine wpAnyH_take (i := 5) (v := ?vA5n65) (take_list rfl) (by kernel_rfl) (by kernel_rfl) (by kernel_rfl) (fun _ _ _ h => h) (Or.inl ⟨by rfl, ?hyA5n65⟩) (by assumption) ?restA5n65
    case hyA5n65 => (intro w hSw; (try dsimp only at hSw); go_simp <;> with_reducible rfl)
    try simp only [Act.put, List.setIfInBounds_toArray, List.set_cons_zero, List.set_cons_succ]
    refine wpAnyH_take (i := 6) (v := ?vA5n66) (take_list rfl) (by kernel_rfl) (by kernel_rfl) (by kernel_rfl) (fun _ _ _ h => h) (Or.inl ⟨by rfl, ?hyA5n66⟩) (by assumption) ?restA5n66
    case hyA5n66 => (intro w hSw; (try dsimp only at hSw); go_simp <;> with_reducible rfl)
    try simp only [Act.put, List.setIfInBounds_toArray, List.set_cons_zero, List.set_cons_succ]
    refine wpAnyH_take (i := 7) (v := ?vA5n67) (take_list rfl) (by kernel_rfl) (by kernel_rfl) (by kernel_rfl) (fun _ _ _ h => h) (Or.inl ⟨by rfl, ?hyA5n67⟩) (by assumption) ?restA5n67
    case hyA5n67 => (intro w hSw; (try dsimp only at hSw); go_simp <;> with_reducible rfl)
    try simp only [Act.put, List.setIfInBounds_toArray, List.set_cons_zero, List.set_cons_succ]
    refine wpAnyH_take (i := 8) (v := ?vA5n68) (take_list rfl) (by kernel_rfl) (by kernel_rfl) (by kernel_rfl) (fun _ _ _ h => h) (Or.inl ⟨by rfl, ?hyA5n68⟩) (by assumption) ?restA5n68
    case hyA5n68 => (intro w hSw; (try dsimp only at hSw); go_simp <;> with_reducible rfl)
    try simp only [Act.put, List.setIfInBounds_toArray, List.set_cons_zero, List.set_cons_succ]
    refine wpAnyH_take (i := 9) (v := ?vA5n69) (take_list rfl) (by kernel_rfl) (by kernel_rfl) (by kernel_rfl) (fun _ _ _ h => h) (Or.inl ⟨by rfl, ?hyA5n69⟩) (by assumption) ?restA5n69
    case hyA5n69 => (intro w hSw; (try dsimp only at hSw); go_simp <;> with_reducible rfl)
    try simp only [Act.put, List.setIfInBounds_toArray, List.set_cons_zero, List.set_cons_succ]
    refine wpAnyH_take (i := 10) (v := ?vA5n610) (take_list rfl) (by kernel_rfl) (by kernel_rfl) (by kernel_rfl) (fun _ _ _ h => h) (Or.inl ⟨by rfl, ?hyA5n610⟩) (by assumption) ?restA5n610
    case hyA5n610 => (intro w hSw; (try dsimp only at hSw); go_simp <;> with_reducible rfl)
    try simp only [Act.put, List.setIfInBounds_toArray, List.set_cons_zero, List.set_cons_succ]
    refine wpAnyH_take (i := 11) (v := ?vA5n611) (take_list rfl) (by kernel_rfl) (by kernel_rfl) (by kernel_rfl) (fun _ _ _ h => h) (Or.inl ⟨by rfl, ?hyA5n611⟩) (by assumption) ?restA5n611
    case hyA5n611 => (intro w hSw; (try dsimp only at hSw); go_simp <;> with_reducible rfl)
    try simp only [Act.put, List.setIfInBounds_toArray, List.set_cons_zero, List.set_cons_succ]
    refine wpAnyH_take (i := 12) (v := ?vA5n612) (take_list rfl) (by kernel_rfl) (by kernel_rfl) (by kernel_rfl) (fun _ _ _ h => h) (Or.inl ⟨by rfl, ?hyA5n612⟩) (by assumption) ?restA5n612
    case hyA5n612 => (intro w hSw; (try dsimp only at hSw); go_simp <;> with_reducible rfl)
    try simp only [Act.put, List.setIfInBounds_toArray, List.set_cons_zero, List.set_cons_succ]
    refine wpAnyH_take (i := 13) (v := ?vA5n613) (take_list rfl) (by kernel_rfl) (by kernel_rfl) (by kernel_rfl) (fun _ _ _ h => h) (Or.inl ⟨by rfl, ?hyA5n613⟩) (by assumption) ?restA5n613
    case hyA5n613 => (intro w hSw; (try dsimp only at hSw); go_simp <;> with_reducible rfl)
    try simp only [Act.put, List.setIfInBounds_toArray, List.set_cons_zero, List.set_cons_succ]
    refine wpAnyH_take (i := 14) (v := ?vA5n614) (take_list rfl) (by kernel_rfl) (by kernel_rfl) (by kernel_rfl) (fun _ _ _ h => h) (Or.inl ⟨by rfl, ?hyA5n614⟩) (by assumption) ?restA5n614
    case hyA5n614 => (intro w hSw; (try dsimp only at hSw); go_simp <;> with_reducible rfl)
    try simp only [Act.put, List.setIfInBounds_toArray, List.set_cons_zero, List.set_cons_succ]
    refine wpAnyH_take (i := 15) (v := ?vA5n615) (take_list rfl) (by kernel_rfl) (by kernel_rfl) (by kernel_rfl) (fun _ _ _ h => h) (Or.inl ⟨by rfl, ?hyA5n615⟩) (by assumption) ?restA5n615
    case hyA5n615 => (intro w hSw; (try dsimp only at hSw); go_simp <;> with_reducible rfl)
    try simp only [Act.put, List.setIfInBounds_toArray, List.set_cons_zero, List.set_cons_succ]
    refine wpAnyH_take (i := 16) (v := ?vA5n616) (take_list rfl) (by kernel_rfl) (by kernel_rfl) (by kernel_rfl) (fun _ _ _ h => h) (Or.inl ⟨by rfl, ?hyA5n616⟩) (by assumption) ?restA5n616
    case hyA5n616 => (intro w hSw; (try dsimp only at hSw); go_simp <;> with_reducible rfl)
    try simp only [Act.put, List.setIfInBounds_toArray, List.set_cons_zero, List.set_cons_succ]
    refine wpAnyH_take (i := 17) (v := ?vA5n617) (take_list rfl) (by kernel_rfl) (by kernel_rfl) (by kernel_rfl) (fun _ _ _ h => h) (Or.inl ⟨by rfl, ?hyA5n617⟩) (by assumption) ?restA5n617
    case hyA5n617 => (intro w hSw; (try dsimp only at hSw); go_simp <;> with_reducible rfl)
    try simp only [Act.put, List.setIfInBounds_toArray, List.set_cons_zero, List.set_cons_succ]
    refine wpAnyH_take (i := 18) (v := ?vA5n618) (take_list rfl) (by kernel_rfl) (by kernel_rfl) (by kernel_rfl) (fun _ _ _ h => h) (Or.inl ⟨by rfl, ?hyA5n618⟩) (by assumption) ?restA5n618
    case hyA5n618 => (intro w hSw; (try dsimp only at hSw); go_simp <;> with_reducible rfl)
    try simp only [Act.put, List.setIfInBounds_toArray, List.set_cons_zero, List.set_cons_succ]
    refine wpAnyH_take (i := 19) (v := ?vA5n619) (take_list rfl) (by kernel_rfl) (by kernel_rfl) (by kernel_rfl) (fun _ _ _ h => h) (Or.inl ⟨by rfl, ?hyA5n619⟩) (by assumption) ?restA5n619
    case hyA5n619 => (intro w hSw; (try dsimp only at hSw); go_simp <;> with_reducible rfl)
    try simp only [Act.put, List.setIfInBounds_toArray, List.set_cons_zero, List.set_cons_succ]
    refine wpAnyH_take (i := 20) (v := ?vA5n620) (take_list rfl) (by kernel_rfl) (by kernel_rfl) (by kernel_rfl) (fun _ _ _ h => h) (Or.inl ⟨by rfl, ?hyA5n620⟩) (by assumption) ?restA5n620
    case hyA5n620 => (intro w hSw; (try dsimp only at hSw); go_simp <;> with_reducible rfl)
    try simp only [Act.put, List.setIfInBounds_toArray, List.set_cons_zero, List.set_cons_succ]
    refine wpAnyH_take (i := 21) (v := ?vA5n621) (take_list rfl) (by kernel_rfl) (by kernel_rfl) (by kernel_rfl) (fun _ _ _ h => h) (Or.inl ⟨by rfl, ?hyA5n621⟩) (by assumption) ?restA5n621
    case hyA5n621 => (intro w hSw; (try dsimp only at hSw); go_simp <;> with_reducible rfl)
    try simp only [Act.put, List.setIfInBounds_toArray, List.set_cons_zero, List.set_cons_succ]
    refine wpAnyH_take (i := 22) (v := ?vA5n622) (take_list rfl) (by kernel_rfl) (by kernel_rfl) (by kernel_rfl) (fun _ _ _ h => h) (Or.inl ⟨by rfl, ?hyA5n622⟩) (by assumption) ?restA5n622
    case hyA5n622 => (intro w hSw; (try dsimp only at hSw); go_simp <;> with_reducible rfl)
    try simp only [Act.put, List.setIfInBounds_toArray, List.set_cons_zero, List.set_cons_succ]
    refine wpAnyH_take (i := 23) (v := ?vA5n623) (take_list rfl) (by kernel_rfl) (by kernel_rfl) (by kernel_rfl) (fun _ _ _ h => h) (Or.inl ⟨by rfl, ?hyA5n623⟩) (by assumption) ?restA5n623
    case hyA5n623 => (intro w hSw; (try dsimp only at hSw); go_simp <;> with_reducible rfl)
    try simp only [Act.put, List.setIfInBounds_toArray, List.set_cons_zero, List.set_cons_succ]
    refine wpAnyH_take (i := 24) (v := ?vA5n624) (take_list rfl) (by kernel_rfl) (by kernel_rfl) (by kernel_rfl) (fun _ _ _ h => h) (Or.inl ⟨by rfl, ?hyA5n624⟩) (by assumption) ?restA5n624
    case hyA5n624 => (intro w hSw; (try dsimp only at hSw); go_simp <;> with_reducible rfl)
    try simp only [Act.put, List.setIfInBounds_toArray, List.set_cons_zero, List.set_cons_succ]
    refine wpAnyH_take (i := 25) (v := ?vA5n625) (take_list rfl) (by kernel_rfl) (by kernel_rfl) (by kernel_rfl) (fun _ _ _ h => h) (Or.inl ⟨by rfl, ?hyA5n625⟩) (by assumption) ?restA5n625
    case hyA5n625 => (intro w hSw; (try dsimp only at hSw); go_simp <;> with_reducible rfl)
    try simp only [Act.put, List.setIfInBounds_toArray, List.set_cons_zero, List.set_cons_succ]
    refine wpAnyH_take (i := 26) (v := ?vA5n626) (take_list rfl) (by kernel_rfl) (by kernel_rfl) (by kernel_rfl) (fun _ _ _ h => h) (Or.inl ⟨by rfl, ?hyA5n626⟩) (by assumption) ?restA5n626
    case hyA5n626 => (intro w hSw; (try dsimp only at hSw); go_simp <;> with_reducible rfl)
    try simp only [Act.put, List.setIfInBounds_toArray, List.set_cons_zero, List.set_cons_succ]
    refine wpAnyH_take (i := 27) (v := ?vA5n627) (take_list rfl) (by kernel_rfl) (by kernel_rfl) (by kernel_rfl) (fun _ _ _ h => h) (Or.inl ⟨by rfl, ?hyA5n627⟩) (by assumption) ?restA5n627
    case hyA5n627 => (intro w hSw; (try dsimp only at hSw); go_simp <;> with_reducible rfl)
    try simp only [Act.put, List.setIfInBounds_toArray, List.set_cons_zero, List.set_cons_succ]
    refine wpAnyH_take (i := 28) (v := ?vA5n628) (take_list rfl) (by kernel_rfl) (by kernel_rfl) (by kernel_rfl) (fun _ _ _ h => h) (Or.inl ⟨by rfl, ?hyA5n628⟩) (by assumption) ?restA5n628
    case hyA5n628 => (intro w hSw; (try dsimp only at hSw); go_simp <;> with_reducible rfl)
    try simp only [Act.put, List.setIfInBounds_toArray, List.set_cons_zero, List.set_cons_succ]
    refine wpAnyH_take (i := 29) (v := ?vA5n629) (take_list rfl) (by kernel_rfl) (by kernel_rfl) (by kernel_rfl) (fun _ _ _ h => h) (Or.inl ⟨by rfl, ?hyA5n629⟩) (by assumption) ?restA5n629
    case hyA5n629 => (intro w hSw; (try dsimp only at hSw); go_simp <;> with_reducible rfl)
    try simp only [Act.put, List.setIfInBounds_toArray, List.set_cons_zero, List.set_cons_succ]
    refine wpAnyH_take (i := 30) (v := ?vA5n630) (take_list rfl) (by kernel_rfl) (by kernel_rfl) (by kernel_rfl) (fun _ _ _ h => h) (Or.inl ⟨by rfl, ?hyA5n630⟩) (by assumption) ?restA5n630
    case hyA5n630 => (intro w hSw; (try dsimp only at hSw); go_simp <;> with_reducible rfl)
    try simp only [Act.put, List.setIfInBounds_toArray, List.set_cons_zero, List.set_cons_succ]
    refine wpAnyH_take (i := 31) (v := ?vA5n631) (take_list rfl) (by kernel_rfl) (by kernel_rfl) (by kernel_rfl) (fun _ _ _ h => h) (Or.inl ⟨by rfl, ?hyA5n631⟩) (by assumption) ?restA5n631
    case hyA5n631 => (intro w hSw; (try dsimp only at hSw); go_simp <;> with_reducible rfl)
    try simp only [Act.put, List.setIfInBounds_toArray, List.set_cons_zero, List.set_cons_succ]
    refine wpAnyH_take (i := 32) (v := ?vA5n632) (take_list rfl) (by kernel_rfl) (by kernel_rfl) (by kernel_rfl) (fun _ _ _ h => h) (Or.inl ⟨by rfl, ?hyA5n632⟩) (by assumption) ?restA5n632
    case hyA5n632 => (intro w hSw; (try dsimp only at hSw); go_simp <;> with_reducible rfl)
    try simp only [Act.put, List.setIfInBounds_toArray, List.set_cons_zero, List.set_cons_succ]
    refine wpAnyH_take (i := 33) (v := ?vA5n633) (take_list rfl) (by kernel_rfl) (by kernel_rfl) (by kernel_rfl) (fun _ _ _ h => h) (Or.inl ⟨by rfl, ?hyA5n633⟩) (by assumption) ?restA5n633
    case hyA5n633 => (intro w hSw; (try dsimp only at hSw); go_simp <;> with_reducible rfl)
    try simp only [Act.put, List.setIfInBounds_toArray, List.set_cons_zero, List.set_cons_succ]
    refine wpAnyH_take (i := 34) (v := ?vA5n634) (take_list rfl) (by kernel_rfl) (by kernel_rfl) (by kernel_rfl) (fun _ _ _ h => h) (Or.inl ⟨by rfl, ?hyA5n634⟩) (by assumption) ?restA5n634
    case hyA5n634 => (intro w hSw; (try dsimp only at hSw); go_simp <;> with_reducible rfl)
    try simp only [Act.put, List.setIfInBounds_toArray, List.set_cons_zero, List.set_cons_succ]
    refine wpAnyH_done (by kernel_rfl) ?_ _
    go_wp2_with fail
    go_ret
    rw [HE.out]
    exact CatPost.same H.out (Nat.le_succ _) (HB1.out.trans below_drew1)
  have d5 : (decide (512 < v.size) = false) := by simp; omega
  have hno : ¬ (v.key.length < 1 ∨ 16 < v.key.length ∨ v.gen < 1 ∨ C.gen < v.gen ∨ v.size < 0 ∨ 512 < v.size) := by omega
  have HNO := Lib.hid hno
  clear hno
  refine wp_region_held_drew (S := (fun w' => w'.cell? ⟨w.heap.size, 1, none⟩ = some (encStr v.key) ∧ w'.cell? ⟨w.heap.size, 2, none⟩ = some (.int .i64 v.gen) ∧ w'.cell? ⟨w.heap.size, 6, none⟩ = some (.int .i64 v.size) ∧ w'.cell? ⟨p, 5, none⟩ = some (.int .i64 C.gen))) (by kernel_rfl) ⟨q1, q2, q6, q5⟩ (fun hHeld => ?_)
  refine wpAnyH_take (i := 0) (v := ?vBn70) (take_list rfl) (by kernel_rfl) (by kernel_rfl) (by kernel_rfl) (fun _ _ _ h => h) (Or.inl ⟨by rfl, ?hyBn70⟩) (by assumption) ?restBn70
  case hyBn70 => (intro w hSw; (try dsimp only at hSw); go_simp <;> with_reducible rfl)
  try simp only [Act.put, List.setIfInBounds_toArray, List.set_cons_zero, List.set_cons_succ]
  refine wpAnyH_take (i := 1) (v := ?vBn71) (take_list rfl) (by kernel_rfl) (by kernel_rfl) (by kernel_rfl) (fun _ _ _ h => h) (Or.inl ⟨by rfl, ?hyBn71⟩) (by assumption) ?restBn71
  case hyBn71 => (intro w hSw; (try dsimp only at hSw); go_simp <;> with_reducible rfl)
  try simp only [Act.put, List.setIfInBounds_toArray, List.set_cons_zero, List.set_cons_succ]
  refine wpAnyH_take (i := 2) (v := ?vBn72) (take_list rfl) (by kernel_rfl) (by kernel_rfl) (by kernel_rfl) (fun _ _ _ h => h) (Or.inl ⟨by rfl, ?hyBn72⟩) (by assumption) ?restBn72
  case hyBn72 => (intro w hSw; (try dsimp only at hSw); go_simp <;> with_reducible rfl)
  try simp only [Act.put, List.setIfInBounds_toArray, List.set_cons_zero, List.set_cons_succ]
  refine wpAnyH_take (i := 3) (v := ?vBn73) (take_list rfl) (by kernel_rfl) (by kernel_rfl) (by kernel_rfl) (fun _ _ _ h => h) (Or.inl ⟨by rfl, ?hyBn73⟩) (by assumption) ?restBn73
  case hyBn73 => (intro w hSw; (try dsimp only at hSw); go_simp <;> with_reducible rfl)
  try simp only [Act.put, List.setIfInBounds_toArray, List.set_cons_zero, List.set_cons_succ]
  refine wpAnyH_take (i := 4) (v := ?vBn74) (take_list rfl) (by kernel_rfl) (by kernel_rfl) (by kernel_rfl) (fun _ _ _ h => h) (Or.inl ⟨by rfl, ?hyBn74⟩) (by assumption) ?restBn74
  case hyBn74 => (intro w hSw; (try dsimp only at hSw); go_simp <;> with_reducible rfl)
  try simp only [Act.put, List.setIfInBounds_toArray, List.set_cons_zero, List.set_cons_succ]
  refine wpAnyH_take (i := 5) (v := ?vBn75) (take_list rfl) (by kernel_rfl) (by kernel_rfl) (by kernel_rfl) (fun _ _ _ h => h) (Or.inl ⟨by rfl, ?hyBn75⟩) (by assumption) ?restBn75
  case hyBn75 => (intro w hSw; (try dsimp only at hSw); go_simp <;> with_reducible rfl)
  try simp only [Act.put, List.setIfInBounds_toArray, List.set_cons_zero, List.set_cons_succ]
  refine wpAnyH_take (i := 6) (v := ?vBn76) (take_list rfl) (by kernel_rfl) (by kernel_rfl) (by kernel_rfl) (fun _ _ _ h => h) (Or.inl ⟨by rfl, ?hyBn76⟩) (by assumption) ?restBn76
  case hyBn76 => (intro w hSw; (try dsimp only at hSw); go_simp <;> with_reducible rfl)
  try simp only [Act.put, List.setIfInBounds_toArray, List.set_cons_zero, List.set_cons_succ]
  refine wpAnyH_take (i := 7) (v := ?vBn77) (take_list rfl) (by kernel_rfl) (by kernel_rfl) (by kernel_rfl) (fun _ _ _ h => h) (Or.inl ⟨by rfl, ?hyBn77⟩) (by assumption) ?restBn77
  case hyBn77 => (intro w hSw; (try dsimp only at hSw); go_simp <;> with_reducible rfl)
  try simp only [Act.put, List.setIfInBounds_toArray, List.set_cons_zero, List.set_cons_succ]
  refine wpAnyH_take (i := 8) (v := ?vBn78) (take_list rfl) (by kernel_rfl) (by kernel_rfl) (by kernel_rfl) (fun _ _ _ h => h) (Or.inl ⟨by rfl, ?hyBn78⟩) (by assumption) ?restBn78
  case hyBn78 => (intro w hSw; (try dsimp only at hSw); go_simp <;> with_reducible rfl)
  try simp only [Act.put, List.setIfInBounds_toArray, List.set_cons_zero, List.set_cons_succ]
  refine wpAnyH_take (i := 9) (v := ?vBn79) (take_list rfl) (by kernel_rfl) (by kernel_rfl) (by kernel_rfl) (fun _ _ _ h => h) (Or.inl ⟨by rfl, ?hyBn79⟩) (by assumption) ?restBn79
  case hyBn79 => (intro w hSw; (try dsimp only at hSw); go_simp <;> with_reducible rfl)
  try simp only [Act.put, List.setIfInBounds_toArray, List.set_cons_zero, List.set_cons_succ]
  refine wpAnyH_take (i := 10) (v := ?vBn710) (take_list rfl) (by kernel_rfl) (by kernel_rfl) (by kernel_rfl) (fun _ _ _ h => h) (Or.inl ⟨by rfl, ?hyBn710⟩) (by assumption) ?restBn710
  case hyBn710 => (intro w hSw; (try dsimp only at hSw); go_simp <;> with_reducible rfl)
  try simp only [Act.put, List.setIfInBounds_toArray, List.set_cons_zero, List.set_cons_succ]
  refine wpAnyH_take (i := 11) (v := ?vBn711) (take_list rfl) (by kernel_rfl) (by kernel_rfl) (by kernel_rfl) (fun _ _ _ h => h) (Or.inl ⟨by rfl, ?hyBn711⟩) (by assumption) ?restBn711
  case hyBn711 => (intro w hSw; (try dsimp only at hSw); go_simp <;> with_reducible rfl)
  try simp only [Act.put, List.setIfInBounds_toArray, List.set_cons_zero, List.set_cons_succ]
  refine wpAnyH_take (i := 12) (v := ?vBn712) (take_list rfl) (by kernel_rfl) (by kernel_rfl) (by kernel_rfl) (fun _ _ _ h => h) (Or.inl ⟨by rfl, ?hyBn712⟩) (by assumption) ?restBn712
  case hyBn712 => (intro w hSw; (try dsimp only at hSw); go_simp <;> with_reducible rfl)
  try simp only [Act.put, List.setIfInBounds_toArray, List.set_cons_zero, List.set_cons_succ]
  refine wpAnyH_take (i := 13) (v := ?vBn713) (take_list rfl) (by kernel_rfl) (by kernel_rfl) (by kernel_rfl) (fun _ _ _ h => h) (Or.inl ⟨by rfl, ?hyBn713⟩) (by assumption) ?restBn713
  case hyBn713 => (intro w hSw; (try dsimp only at hSw); go_simp <;> with_reducible rfl)
  try simp only [Act.put, List.setIfInBounds_toArray, List.set_cons_zero, List.set_cons_succ]
  refine wpAnyH_take (i := 14) (v := ?vBn714) (take_list rfl) (by kernel_rfl) (by kernel_rfl) (by kernel_rfl) (fun _ _ _ h => h) (Or.inl ⟨by rfl, ?hyBn714⟩) (by assumption) ?restBn714
  case hyBn714 => (intro w hSw; (try dsimp only at hSw); go_simp <;> with_reducible rfl)
  try simp only [Act.put, List.setIfInBounds_toArray, List.set_cons_zero, List.set_cons_succ]
  refine wpAnyH_take (i := 15) (v := ?vBn715) (take_list rfl) (by kernel_rfl) (by kernel_rfl) (by kernel_rfl) (fun _ _ _ h => h) (Or.inl ⟨by rfl, ?hyBn715⟩) (by assumption) ?restBn715
  case hyBn715 => (intro w hSw; (try dsimp only at hSw); go_simp <;> with_reducible rfl)
  try simp only [Act.put, List.setIfInBounds_toArray, List.set_cons_zero, List.set_cons_succ]
  refine wpAnyH_take (i := 16) (v := ?vBn716) (take_list rfl) (by kernel_rfl) (by kernel_rfl) (by kernel_rfl) (fun _ _ _ h => h) (Or.inl ⟨by rfl, ?hyBn716⟩) (by assumption) ?restBn716
  case hyBn716 => (intro w hSw; (try dsimp only at hSw); go_simp <;> with_reducible rfl)
  try simp only [Act.put, List.setIfInBounds_toArray, List.set_cons_zero, List.set_cons_succ]
  refine wpAnyH_take (i := 17) (v := ?vBn717) (take_list rfl) (by kernel_rfl) (by kernel_rfl) (by kernel_rfl) (fun _ _ _ h => h) (Or.inl ⟨by rfl, ?hyBn717⟩) (by assumption) ?restBn717
  case hyBn717 => (intro w hSw; (try dsimp only at hSw); go_simp <;> with_reducible rfl)
  try simp only [Act.put, List.setIfInBounds_toArray, List.set_cons_zero, List.set_cons_succ]
  refine wpAnyH_take (i := 18) (v := ?vBn718) (take_list rfl) (by kernel_rfl) (by kernel_rfl) (by kernel_rfl) (fun _ _ _ h => h) (Or.inl ⟨by rfl, ?hyBn718⟩) (by assumption) ?restBn718
  case hyBn718 => (intro w hSw; (try dsimp only at hSw); go_simp <;> with_reducible rfl)
  try simp only [Act.put, List.setIfInBounds_toArray, List.set_cons_zero, List.set_cons_succ]
  refine wpAnyH_take (i := 19) (v := ?vBn719) (take_list rfl) (by kernel_rfl) (by kernel_rfl) (by kernel_rfl) (fun _ _ _ h => h) (Or.inl ⟨by rfl, ?hyBn719⟩) (by assumption) ?restBn719
  case hyBn719 => (intro w hSw; (try dsimp only at hSw); go_simp <;> with_reducible rfl)
  try simp only [Act.put, List.setIfInBounds_toArray, List.set_cons_zero, List.set_cons_succ]
  refine wpAnyH_take (i := 20) (v := ?vBn720) (take_list rfl) (by kernel_rfl) (by kernel_rfl) (by kernel_rfl) (fun _ _ _ h => h) (Or.inl ⟨by rfl, ?hyBn720⟩) (by assumption) ?restBn720
  case hyBn720 => (intro w hSw; (try dsimp only at hSw); go_simp <;> with_reducible rfl)
  try simp only [Act.put, List.setIfInBounds_toArray, List.set_cons_zero, List.set_cons_succ]
  refine wpAnyH_take (i := 21) (v := ?vBn721) (take_list rfl) (by kernel_rfl) (by kernel_rfl) (by kernel_rfl) (fun _ _ _ h => h) (Or.inl ⟨by rfl, ?hyBn721⟩) (by assumption) ?restBn721
  case hyBn721 => (intro w hSw; (try dsimp only at hSw); go_simp <;> with_reducible rfl)
  try simp only [Act.put, List.setIfInBounds_toArray, List.set_cons_zero, List.set_cons_succ]
  refine wpAnyH_take (i := 22) (v := ?vBn722) (take_list rfl) (by kernel_rfl) (by kernel_rfl) (by kernel_rfl) (fun _ _ _ h => h) (Or.inl ⟨by rfl, ?hyBn722⟩) (by assumption) ?restBn722
  case hyBn722 => (intro w hSw; (try dsimp only at hSw); go_simp <;> with_reducible rfl)
  try simp only [Act.put, List.setIfInBounds_toArray, List.set_cons_zero, List.set_cons_succ]
  refine wpAnyH_take (i := 23) (v := ?vBn723) (take_list rfl) (by kernel_rfl) (by kernel_rfl) (by kernel_rfl) (fun _ _ _ h => h) (Or.inl ⟨by rfl, ?hyBn723⟩) (by assumption) ?restBn723
  case hyBn723 => (intro w hSw; (try dsimp only at hSw); go_simp <;> with_reducible rfl)
  try simp only [Act.put, List.setIfInBounds_toArray, List.set_cons_zero, List.set_cons_succ]
  refine wpAnyH_take (i := 24) (v := ?vBn724) (take_list rfl) (by kernel_rfl) (by kernel_rfl) (by kernel_rfl) (fun _ _ _ h => h) (Or.inl ⟨by rfl, ?hyBn724⟩) (by assumption) ?restBn724
  case hyBn724 => (intro w hSw; (try dsimp only at hSw); go_simp <;> with_reducible rfl)
  try simp only [Act.put, List.setIfInBounds_toArray, List.set_cons_zero, List.set_cons_succ]
  refine wpAnyH_take (i := 25) (v := ?vBn725) (take_list rfl) (by kernel_rfl) (by kernel_rfl) (by kernel_rfl) (fun _ _ _ h => h) (Or.inl ⟨by rfl, ?hyBn725⟩) (by assumption) ?restBn725
  case hyBn725 => (intro w hSw; (try dsimp only at hSw); go_simp <;> with_reducible rfl)
  try simp only [Act.put, List.setIfInBounds_toArray, List.set_cons_zero, List.set_cons_succ]
  refine wpAnyH_take (i := 26) (v := ?vBn726) (take_list rfl) (by kernel_rfl) (by kernel_rfl) (by kernel_rfl) (fun _ _ _ h => h) (Or.inl ⟨by rfl, ?hyBn726⟩) (by assumption) ?restBn726
  case hyBn726 => (intro w hSw; (try dsimp only at hSw); go_simp <;> with_reducible rfl)
  try simp only [Act.put, List.setIfInBounds_toArray, List.set_cons_zero, List.set_cons_succ]
  refine wpAnyH_take (i := 27) (v := ?vBn727) (take_list rfl) (by kernel_rfl) (by kernel_rfl) (by kernel_rfl) (fun _ _ _ h => h) (Or.inl ⟨by rfl, ?hyBn727⟩) (by assumption) ?restBn727
  case hyBn727 => (intro w hSw; (try dsimp only at hSw); go_simp <;> with_reducible rfl)
  try simp only [Act.put, List.setIfInBounds_toArray, List.set_cons_zero, List.set_cons_succ]
  refine wpAnyH_take (i := 28) (v := ?vBn728) (take_list rfl) (by kernel_rfl) (by kernel_rfl) (by kernel_rfl) (fun _ _ _ h => h) (Or.inl ⟨by rfl, ?hyBn728⟩) (by assumption) ?restBn728
  case hyBn728 => (intro w hSw; (try dsimp only at hSw); go_simp <;> with_reducible rfl)
  try simp only [Act.put, List.setIfInBounds_toArray, List.set_cons_zero, List.set_cons_succ]
  refine wpAnyH_take (i := 29) (v := ?vBn729) (take_list rfl) (by kernel_rfl) (by kernel_rfl) (by kernel_rfl) (fun _ _ _ h => h) (Or.inl ⟨by rfl, ?hyBn729⟩) (by assumption) ?restBn729
  case hyBn729 => (intro w hSw; (try dsimp only at hSw); go_simp <;> with_reducible rfl)
  try simp only [Act.put, List.setIfInBounds_toArray, List.set_cons_zero, List.set_cons_succ]
  refine wpAnyH_take (i := 30) (v := ?vBn730) (take_list rfl) (by kernel_rfl) (by kernel_rfl) (by kernel_rfl) (fun _ _ _ h => h) (Or.inl ⟨by rfl, ?hyBn730⟩) (by assumption) ?restBn730
  case hyBn730 => (intro w hSw; (try dsimp only at hSw); go_simp <;> with_reducible rfl)
  try simp only [Act.put, List.setIfInBounds_toArray, List.set_cons_zero, List.set_cons_succ]
  refine wpAnyH_take (i := 31) (v := ?vBn731) (take_list rfl) (by kernel_rfl) (by kernel_rfl) (by kernel_rfl) (fun _ _ _ h => h) (Or.inl ⟨by rfl, ?hyBn731⟩) (by assumption) ?restBn731
  case hyBn731 => (intro w hSw; (try dsimp only at hSw); go_simp <;> with_reducible rfl)
  try simp only [Act.put, List.setIfInBounds_toArray, List.set_cons_zero, List.set_cons_succ]
  refine wpAnyH_take (i := 32) (v := ?vBn732) (take_list rfl) (by kernel_rfl) (by kernel_rfl) (by kernel_rfl) (fun _ _ _ h => h) (Or.inl ⟨by rfl, ?hyBn732⟩) (by assumption) ?restBn732
  case hyBn732 => (intro w hSw; (try dsimp only at hSw); go_simp <;> with_reducible rfl)
  try simp only [Act.put, List.setIfInBounds_toArray, List.set_cons_zero, List.set_cons_succ]
  refine wpAnyH_take (i := 33) (v := ?vBn733) (take_list rfl) (by kernel_rfl) (by kernel_rfl) (by kernel_rfl) (fun _ _ _ h => h) (Or.inl ⟨by rfl, ?hyBn733⟩) (by assumption) ?restBn733
  case hyBn733 => (intro w hSw; (try dsimp only at hSw); go_simp <;> with_reducible rfl)
  try simp only [Act.put, List.setIfInBounds_toArray, List.set_cons_zero, List.set_cons_succ]
  refine wpAnyH_take (i := 34) (v := ?vBn734) (take_list rfl) (by kernel_rfl) (by kernel_rfl) (by kernel_rfl) (fun _ _ _ h => h) (Or.inl ⟨by rfl, ?hyBn734⟩) (by assumption) ?restBn734
  case hyBn734 => (intro w hSw; (try dsimp only at hSw); go_simp <;> with_reducible rfl)
  try simp only [Act.put, List.setIfInBounds_toArray, List.set_cons_zero, List.set_cons_succ]
  refine wpAnyH_done (by kernel_rfl) ?_ _
  go_upto_region 3 with fail
  have hg0 : 0 ≤ groupsI v.size ∧ groupsI v.size ≤ 4 := by unfold groupsI; omega
  have GI := Lib.hid (fun w' => cGroups v.size w' (by omega) (by omega))
  obtain ⟨gi, hgi⟩ : ∃ gi, groupsI v.size = gi := ⟨_, rfl⟩
  rw [hgi] at hg0
  have HGI := Lib.hid hgi
  have hga := hg0.1
  have hgb := hg0.2
  clear hgi hg0
  obtain ⟨w2, hw2⟩ : ∃ w2, w2 = w1.drew := ⟨_, rfl⟩
  rw [← hw2]
  have BB2 := Lib.hid (show Below w.heap.size w w2 by rw [hw2]; exact HB1.out.trans below_drew1)
  have R2 := Lib.hid (show CatR F w2 p N C sv tv SR ER be bb br by rw [hw2]; exact R1.out.keep (Nat.le_refl _) (fun _ _ _ => rfl))
  have BN2 := Lib.hid (show Blk w2 w.heap.size 26 (noteCells v D dn dc Q qn qc) by rw [hw2]; exact BN1.out)
  have HI2 := Lib.hid (show NoteIn w2 v D dn dc Q qn qc by rw [hw2]; exact HI1.out.below below_drew1)
  have W2 := Lib.hid hw2
  clear q1 q2 q6 q7 q5 hw2 R1 BN1
  have q6 : w2.cell? ⟨w.heap.size, 6, none⟩ = some (.int .i64 v.size) := BN2.out.cell 6
  have q7 : w2.cell? ⟨w.heap.size, 7, none⟩ = some (.slice Q qn qc) := BN2.out.cell 7
  have hw10 : IntKind.i64.wrap (gi * 10) = gi * 10 := by
    simp only [IntKind.wrap, IntKind.bits, IntKind.signed]
    simp
    omega
  by_cases hpl : (qn : Int) ≠ gi * 10
  case pos =>
    have e1 : ((qn : Int) != gi * 10) = true := by simpa using hpl
    have HE := Lib.hid (show placedC C v = (12, C) by unfold placedC; rw [if_neg HNO.out, if_pos (by rw [hql, HGI.out]; exact hpl)])
    clear hpl
    refine wp_region_held_drew (S := (fun w' => w'.cell? ⟨w.heap.size, 6, none⟩ = some (.int .i64 v.size) ∧ w'.cell? ⟨w.heap.size, 7, none⟩ = some (.slice Q qn qc))) (by kernel_rfl) ⟨q6, q7⟩ (fun hHeld => ?_)
    refine wpAnyH_take (i := 0) (v := ?vCn80) (take_list rfl) (by kernel_rfl) (by kernel_rfl) (by kernel_rfl) (fun _ _ _ h => h) (Or.inl ⟨by rfl, ?hyCn80⟩) (by assumption) ?restCn80
    case hyCn80 => (intro w hSw; (try dsimp only at hSw); go_simp <;> with_reducible rfl)
    try simp only [Act.put, List.setIfInBounds_toArray, List.set_cons_zero, List.set_cons_succ]
    refine wpAnyH_take (i := 1) (v := ?vCn81) (take_list rfl) (by kernel_rfl) (by kernel_rfl) (by kernel_rfl) (fun _ _ _ h => h) (Or.inl ⟨by rfl, ?hyCn81⟩) (by assumption) ?restCn81
    case hyCn81 => (intro w hSw; (try dsimp only at hSw); go_simp <;> with_reducible rfl)
    try simp only [Act.put, List.setIfInBounds_toArray, List.set_cons_zero, List.set_cons_succ]
    refine wpAnyH_take (i := 2) (v := ?vCn82) (take_list rfl) (by kernel_rfl) (by kernel_rfl) (by kernel_rfl) (fun _ _ _ h => h) (Or.inl ⟨by rfl, ?hyCn82⟩) (by assumption) ?restCn82
    case hyCn82 => (intro w hSw; (try dsimp only at hSw); go_simp <;> with_reducible rfl)
    try simp only [Act.put, List.setIfInBounds_toArray, List.set_cons_zero, List.set_cons_succ]
    refine wpAnyH_take (i := 3) (v := ?vCn83) (take_list rfl) (by kernel_rfl) (by kernel_rfl) (by kernel_rfl) (fun _ _ _ h => h) (Or.inl ⟨by rfl, ?hyCn83⟩) (by assumption) ?restCn83
    case hyCn83 => (intro w hSw; (try dsimp only at hSw); go_simp <;> with_reducible rfl)
    try simp only [Act.put, List.setIfInBounds_toArray, List.set_cons_zero, List.set_cons_succ]
    refine wpAnyH_take (i := 4) (v := ?vCn84) (take_list rfl) (by kernel_rfl) (by kernel_rfl) (by kernel_rfl) (fun _ _ _ h => h) (Or.inl ⟨by rfl, ?hyCn84⟩) (by assumption) ?restCn84
    case hyCn84 => (intro w hSw; (try dsimp only at hSw); go_simp <;> with_reducible rfl)
    try simp only [Act.put, List.setIfInBounds_toArray, List.set_cons_zero, List.set_cons_succ]
    refine wpAnyH_ready (rs := [5]) (by kernel_rfl) (by simp) ?_
    refine AllReadyH.cons rfl (fun K hK => ?_) AllReadyH.nil
    go_simp
    go_wp2_with (go_at_call 49; refine (GI.out _).mono ?_; rw [HGI.out]; rintro e w' ⟨rfl, rfl⟩)
    refine hK.out _ _ hHeld (fun hHeld => ?_)
    clear hK K
    refine wpAnyH_take (i := 6) (v := ?vCn86) (take_list rfl) (by kernel_rfl) (by kernel_rfl) (by kernel_rfl) (fun _ _ _ h => h) (Or.inl ⟨by rfl, ?hyCn86⟩) (by assumption) ?restCn86
    case hyCn86 => (intro w hSw; (try dsimp only at hSw); go_simp <;> with_reducible rfl)
    try simp only [Act.put, List.setIfInBounds_toArray, List.set_cons_zero, List.set_cons_succ]
    refine wpAnyH_take (i := 7) (v := ?vCn87) (take_list rfl) (by kernel_rfl) (by kernel_rfl) (by kernel_rfl) (fun _ _ _ h => h) (Or.inl ⟨by rfl, ?hyCn87⟩) (by assumption) ?restCn87
    case hyCn87 => (intro w hSw; (try dsimp only at hSw); go_simp <;> with_reducible rfl)
    try simp only [Act.put, List.setIfInBounds_toArray, List.set_cons_zero, List.set_cons_succ]
    refine wpAnyH_take (i := 8) (v := ?vCn88) (take_list rfl) (by kernel_rfl) (by kernel_rfl) (by kernel_rfl) (fun _ _ _ h => h) (Or.inl ⟨by rfl, ?hyCn88⟩) (by assumption) ?restCn88
    case hyCn88 => (intro w hSw; (try dsimp only at hSw); go_simp <;> with_reducible rfl)
    try simp only [Act.put, List.setIfInBounds_toArray, List.set_cons_zero, List.set_cons_succ]
    refine wpAnyH_done (by kernel_rfl) ?_ _
    go_wp2_with fail
    go_ret
    rw [HE.out]
    exact CatPost.same H.out (Nat.le_succ _) (BB2.out.trans below_drew1)
  have e1 : ((qn : Int) != gi * 10) = false := by simpa using hpl
  have HPL := Lib.hid hpl
  have HE := Lib.hid (show placedC C v = (0, { C with staged := delL C.staged v.key, entries := putL C.entries v.key ⟨v.gen, v.size, v.sum, v.places⟩ }) by unfold placedC; rw [if_neg HNO.out, if_neg (by rw [hql, HGI.out]; exact hpl)])
  clear hpl
  refine wp_region_held_drew (S := (fun w' => w'.cell? ⟨w.heap.size, 6, none⟩ = some (.int .i64 v.size) ∧ w'.cell? ⟨w.heap.size, 7, none⟩ = some (.slice Q qn qc))) (by kernel_rfl) ⟨q6, q7⟩ (fun hHeld => ?_)
  refine wpAnyH_take (i := 0) (v := ?vDn90) (take_list rfl) (by kernel_rfl) (by kernel_rfl) (by kernel_rfl) (fun _ _ _ h => h) (Or.inl ⟨by rfl, ?hyDn90⟩) (by assumption) ?restDn90
  case hyDn90 => (intro w hSw; (try dsimp only at hSw); go_simp <;> with_reducible rfl)
  try simp only [Act.put, List.setIfInBounds_toArray, List.set_cons_zero, List.set_cons_succ]
  refine wpAnyH_take (i := 1) (v := ?vDn91) (take_list rfl) (by kernel_rfl) (by kernel_rfl) (by kernel_rfl) (fun _ _ _ h => h) (Or.inl ⟨by rfl, ?hyDn91⟩) (by assumption) ?restDn91
  case hyDn91 => (intro w hSw; (try dsimp only at hSw); go_simp <;> with_reducible rfl)
  try simp only [Act.put, List.setIfInBounds_toArray, List.set_cons_zero, List.set_cons_succ]
  refine wpAnyH_take (i := 2) (v := ?vDn92) (take_list rfl) (by kernel_rfl) (by kernel_rfl) (by kernel_rfl) (fun _ _ _ h => h) (Or.inl ⟨by rfl, ?hyDn92⟩) (by assumption) ?restDn92
  case hyDn92 => (intro w hSw; (try dsimp only at hSw); go_simp <;> with_reducible rfl)
  try simp only [Act.put, List.setIfInBounds_toArray, List.set_cons_zero, List.set_cons_succ]
  refine wpAnyH_take (i := 3) (v := ?vDn93) (take_list rfl) (by kernel_rfl) (by kernel_rfl) (by kernel_rfl) (fun _ _ _ h => h) (Or.inl ⟨by rfl, ?hyDn93⟩) (by assumption) ?restDn93
  case hyDn93 => (intro w hSw; (try dsimp only at hSw); go_simp <;> with_reducible rfl)
  try simp only [Act.put, List.setIfInBounds_toArray, List.set_cons_zero, List.set_cons_succ]
  refine wpAnyH_take (i := 4) (v := ?vDn94) (take_list rfl) (by kernel_rfl) (by kernel_rfl) (by kernel_rfl) (fun _ _ _ h => h) (Or.inl ⟨by rfl, ?hyDn94⟩) (by assumption) ?restDn94
  case hyDn94 => (intro w hSw; (try dsimp only at hSw); go_simp <;> with_reducible rfl)
  try simp only [Act.put, List.setIfInBounds_toArray, List.set_cons_zero, List.set_cons_succ]
  refine wpAnyH_ready (rs := [5]) (by kernel_rfl) (by simp) ?_
  refine AllReadyH.cons rfl (fun K hK => ?_) AllReadyH.nil
  go_simp
  go_wp2_with (go_at_call 49; refine (GI.out _).mono ?_; rw [HGI.out]; rintro e w' ⟨rfl, rfl⟩)
  refine hK.out _ _ hHeld (fun hHeld => ?_)
  clear hK K
  refine wpAnyH_take (i := 6) (v := ?vDn96) (take_list rfl) (by kernel_rfl) (by kernel_rfl) (by kernel_rfl) (fun _ _ _ h => h) (Or.inl ⟨by rfl, ?hyDn96⟩) (by assumption) ?restDn96
  case hyDn96 => (intro w hSw; (try dsimp only at hSw); go_simp <;> with_reducible rfl)
  try simp only [Act.put, List.setIfInBounds_toArray, List.set_cons_zero, List.set_cons_succ]
  refine wpAnyH_take (i := 7) (v := ?vDn97) (take_list rfl) (by kernel_rfl) (by kernel_rfl) (by kernel_rfl) (fun _ _ _ h => h) (Or.inl ⟨by rfl, ?hyDn97⟩) (by assumption) ?restDn97
  case hyDn97 => (intro w hSw; (try dsimp only at hSw); go_simp <;> with_reducible rfl)
  try simp only [Act.put, List.setIfInBounds_toArray, List.set_cons_zero, List.set_cons_succ]
  refine wpAnyH_take (i := 8) (v := ?vDn98) (take_list rfl) (by kernel_rfl) (by kernel_rfl) (by kernel_rfl) (fun _ _ _ h => h) (Or.inl ⟨by rfl, ?hyDn98⟩) (by assumption) ?restDn98
  case hyDn98 => (intro w hSw; (try dsimp only at hSw); go_simp <;> with_reducible rfl)
  try simp only [Act.put, List.setIfInBounds_toArray, List.set_cons_zero, List.set_cons_succ]
  refine wpAnyH_done (by kernel_rfl) ?_ _
  go_upto_region 5 with fail
  obtain ⟨w3, hw3⟩ : ∃ w3, w3 = w2.drew := ⟨_, rfl⟩
  rw [← hw3]
  have BB3 := Lib.hid (show Below w.heap.size w w3 by rw [hw3]; exact BB2.out.trans below_drew1)
  have R3 := Lib.hid (show CatR F w3 p N C sv tv SR ER be bb br by rw [hw3]; exact R2.out.keep (Nat.le_refl _) (fun _ _ _ => rfl))
  have BN3 := Lib.hid (show Blk w3 w.heap.size 26 (noteCells v D dn dc Q qn qc) by rw [hw3]; exact BN2.out)
  have HI3 := Lib.hid (show NoteIn w3 v D dn dc Q qn qc by rw [hw3]; exact HI2.out.below below_drew1)
  have W3 := Lib.hid hw3
  clear q6 q7 hw3 R2 BN2 HI2
  have hsr : SR.length = C.staged.length := by rw [← R3.out.stgs, List.length_map]
  have kp0 : w3.cell? ⟨p, 0, none⟩ = some sv := R3.out.blk.cell 0
  have r1 : w3.cell? ⟨w.heap.size, 1, none⟩ = some (encStr v.key) := BN3.out.cell 1
  have IX := Lib.hid (cWaits0 F p _ sv SR v.key w3 kp0 R3.out.stg hsr)
  have hnd : (SR.map (·.key)).Nodup := by
    have h := R3.out.wf.nds
    rw [← R3.out.stgs, List.map_map] at h
    exact h
  have DC := Lib.hid (fun i hi => del_cut (key := v.key) (SR := SR) (i := i) hnd hi)
  have DN := Lib.hid (fun hi => del_none (key := v.key) (SR := SR) hi)
  have hti := idxP_ge (fun r : BlobR => decide (r.key = v.key)) SR
  obtain ⟨B0, n0, c0, hsv⟩ : ∃ B n c, sv = .slice B n c := by
    rcases R3.out.stg.form with ⟨h, _⟩ | ⟨g, cap, h, _⟩
    · exact ⟨_, _, _, h⟩
    · exact ⟨_, _, _, h⟩
  subst hsv
  generalize idxP (fun r : BlobR => decide (r.key = v.key)) SR = ti at *
  rw [R3.out.stgs] at DC DN
  have hst : C.staged.length ≤ 100000 := by have := R3.out.wf.staged; omega
  have hpz : p < w3.heap.size := R3.out.blk.size
  have hnz : w.heap.size < w3.heap.size := BN3.out.size
  have hm := R3.out.map_ne
  have WF := Lib.hid (placed_wf (k := v.key) (e := ⟨v.gen, v.size, v.sum, v.places⟩) R3.out.wf ⟨by omega, by omega⟩ ⟨by show 1 ≤ v.gen; omega, by show v.gen ≤ C.gen; omega⟩ ⟨by show 0 ≤ v.size; omega, by show v.size ≤ 512; omega⟩ (by show (v.places.length : Int) = groupsI v.size * 10; have := HPL.out; rw [hql, HGI.out]; omega) HSL.out)
  have hq40 : qn ≤ 1000000 := by have := HPL.out; omega
  clear hnd HPL
  by_cases ht : ti < 0
  case pos =>
    have d8 : decide (0 ≤ ti) = false := by simpa using ht
    have HT := Lib.hid ht
    clear ht
    go_upto_region 8 with (go_at_call 23; refine IX.out.mono ?_; rintro e wx ⟨rfl, hbx⟩; have BX := Lib.hid hbx; clear hbx)
    have HDX := Lib.hid (show Dropped F w3 wx p (.slice B0 n0 c0) SR C.staged v.key (.slice B0 n0 c0) SR from ⟨by rw [DN.out HT.out]; exact (OwnRow.owning ..).below R3.out.stg BX.out, by rw [DN.out HT.out]; exact R3.out.stgs, fun r hr => hr, Chg.of_below _ BX.out, rfl⟩)
    have BPX := Lib.hid (R3.out.blk.below BX.out hpz)
    have BNX := Lib.hid (BN3.out.below BX.out hnz)
    have PLX := Lib.hid (show PlacesIn wx Q qn v.places from (HI3.out.below BX.out).places)
    have MEX := Lib.hid (R3.out.ents.of_eq (BX.out.block be R3.out.ents.lt))
    have hpx : p < wx.heap.size := BPX.out.size
    have hnx : w.heap.size < wx.heap.size := BNX.out.size
    clear kp0 r1
    have x0 : wx.cell? ⟨p, 1, none⟩ = some (.map (some be)) := BPX.out.cell 1
    have x1 : wx.cell? ⟨w.heap.size, 1, none⟩ = some (encStr v.key) := BNX.out.cell 1
    have x2 : wx.cell? ⟨w.heap.size, 2, none⟩ = some (.int .i64 v.gen) := BNX.out.cell 2
    have x5 : wx.cell? ⟨w.heap.size, 5, none⟩ = some (encStr v.sum) := BNX.out.cell 5
    have x6 : wx.cell? ⟨w.heap.size, 6, none⟩ = some (.int .i64 v.size) := BNX.out.cell 6
    have x7 : wx.cell? ⟨w.heap.size, 7, none⟩ = some (.slice Q qn qc) := BNX.out.cell 7
    refine wp_region_held_drew (S := (fun w' => w'.cell? ⟨p, 1, none⟩ = some (.map (some be)) ∧ w'.cell? ⟨w.heap.size, 1, none⟩ = some (encStr v.key) ∧ w'.cell? ⟨w.heap.size, 2, none⟩ = some (.int .i64 v.gen) ∧ w'.cell? ⟨w.heap.size, 5, none⟩ = some (encStr v.sum) ∧ w'.cell? ⟨w.heap.size, 6, none⟩ = some (.int .i64 v.size) ∧ w'.cell? ⟨w.heap.size, 7, none⟩ = some (.slice Q qn qc))) (by kernel_rfl) ⟨x0, x1, x2, x5, x6, x7⟩ (fun hHeld => ?_)
    refine wpAnyH_take (i := 0) (v := ?vEn100) (take_list rfl) (by kernel_rfl) (by kernel_rfl) (by kernel_rfl) (fun _ _ _ h => h) (Or.inl ⟨by rfl, ?hyEn100⟩) (by assumption) ?restEn100
    case hyEn100 => (intro w hSw; (try dsimp only at hSw); go_simp <;> with_reducible rfl)
    try simp only [Act.put, List.setIfInBounds_toArray, List.set_cons_zero, List.set_cons_succ]
    refine wpAnyH_take (i := 1) (v := ?vEn101) (take_list rfl) (by kernel_rfl) (by kernel_rfl) (by kernel_rfl) (fun _ _ _ h => h) (Or.inl ⟨by rfl, ?hyEn101⟩) (by assumption) ?restEn101
    case hyEn101 => (intro w hSw; (try dsimp only at hSw); go_simp <;> with_reducible rfl)
    try simp only [Act.put, List.setIfInBounds_toArray, List.set_cons_zero, List.set_cons_succ]
    refine wpAnyH_take (i := 2) (v := ?vEn102) (take_list rfl) (by kernel_rfl) (by kernel_rfl) (by kernel_rfl) (fun _ _ _ h => h) (Or.inl ⟨by rfl, ?hyEn102⟩) (by assumption) ?restEn102
    case hyEn102 => (intro w hSw; (try dsimp only at hSw); go_simp <;> with_reducible rfl)
    try simp only [Act.put, List.setIfInBounds_toArray, List.set_cons_zero, List.set_cons_succ]
    refine wpAnyH_take (i := 3) (v := ?vEn103) (take_list rfl) (by kernel_rfl) (by kernel_rfl) (by kernel_rfl) (fun _ _ _ h => h) (Or.inl ⟨by rfl, ?hyEn103⟩) (by assumption) ?restEn103
    case hyEn103 => (intro w hSw; (try dsimp only at hSw); go_simp <;> with_reducible rfl)
    try simp only [Act.put, List.setIfInBounds_toArray, List.set_cons_zero, List.set_cons_succ]
    refine wpAnyH_take (i := 4) (v := ?vEn104) (take_list rfl) (by kernel_rfl) (by kernel_rfl) (by kernel_rfl) (fun _ _ _ h => h) (Or.inl ⟨by rfl, ?hyEn104⟩) (by assumption) ?restEn104
    case hyEn104 => (intro w hSw; (try dsimp only at hSw); go_simp <;> with_reducible rfl)
    try simp only [Act.put, List.setIfInBounds_toArray, List.set_cons_zero, List.set_cons_succ]
    refine wpAnyH_take (i := 5) (v := ?vEn105) (take_list rfl) (by kernel_rfl) (by kernel_rfl) (by kernel_rfl) (fun _ _ _ h => h) (Or.inl ⟨by rfl, ?hyEn105⟩) (by assumption) ?restEn105
    case hyEn105 => (intro w hSw; (try dsimp only at hSw); go_simp <;> with_reducible rfl)
    try simp only [Act.put, List.setIfInBounds_toArray, List.set_cons_zero, List.set_cons_succ]
    refine wpAnyH_take (i := 6) (v := ?vEn106) (take_list rfl) (by kernel_rfl) (by kernel_rfl) (by kernel_rfl) (fun _ _ _ h => h) (Or.inl ⟨by rfl, ?hyEn106⟩) (by assumption) ?restEn106
    case hyEn106 => (intro w hSw; (try dsimp only at hSw); go_simp <;> with_reducible rfl)
    try simp only [Act.put, List.setIfInBounds_toArray, List.set_cons_zero, List.set_cons_succ]
    refine wpAnyH_take (i := 7) (v := ?vEn107) (take_list rfl) (by kernel_rfl) (by kernel_rfl) (by kernel_rfl) (fun _ _ _ h => h) (Or.inl ⟨by rfl, ?hyEn107⟩) (by assumption) ?restEn107
    case hyEn107 => (intro w hSw; (try dsimp only at hSw); go_simp <;> with_reducible rfl)
    try simp only [Act.put, List.setIfInBounds_toArray, List.set_cons_zero, List.set_cons_succ]
    refine wpAnyH_take (i := 8) (v := ?vEn108) (take_list rfl) (by kernel_rfl) (by kernel_rfl) (by kernel_rfl) (fun _ _ _ h => h) (Or.inl ⟨by rfl, ?hyEn108⟩) (by assumption) ?restEn108
    case hyEn108 => (intro w hSw; (try dsimp only at hSw); go_simp <;> with_reducible rfl)
    try simp only [Act.put, List.setIfInBounds_toArray, List.set_cons_zero, List.set_cons_succ]
    refine wpAnyH_take (i := 9) (v := ?vEn109) (take_list rfl) (by kernel_rfl) (by kernel_rfl) (by kernel_rfl) (fun _ _ _ h => h) (Or.inl ⟨by rfl, ?hyEn109⟩) (by assumption) ?restEn109
    case hyEn109 => (intro w hSw; (try dsimp only at hSw); go_simp <;> with_reducible rfl)
    try simp only [Act.put, List.setIfInBounds_toArray, List.set_cons_zero, List.set_cons_succ]
    refine wpAnyH_take (i := 10) (v := ?vEn1010) (take_list rfl) (by kernel_rfl) (by kernel_rfl) (by kernel_rfl) (fun _ _ _ h => h) (Or.inl ⟨by rfl, ?hyEn1010⟩) (by assumption) ?restEn1010
    case hyEn1010 => (intro w hSw; (try dsimp only at hSw); go_simp <;> with_reducible rfl)
    try simp only [Act.put, List.setIfInBounds_toArray, List.set_cons_zero, List.set_cons_succ]
    refine wpAnyH_take (i := 11) (v := ?vEn1011) (take_list rfl) (by kernel_rfl) (by kernel_rfl) (by kernel_rfl) (fun _ _ _ h => h) (Or.inl ⟨by rfl, ?hyEn1011⟩) (by assumption) ?restEn1011
    case hyEn1011 => (intro w hSw; (try dsimp only at hSw); go_simp <;> with_reducible rfl)
    try simp only [Act.put, List.setIfInBounds_toArray, List.set_cons_zero, List.set_cons_succ]
    refine wpAnyH_take (i := 12) (v := ?vEn1012) (take_list rfl) (by kernel_rfl) (by kernel_rfl) (by kernel_rfl) (fun _ _ _ h => h) (Or.inl ⟨by rfl, ?hyEn1012⟩) (by assumption) ?restEn1012
    case hyEn1012 => (intro w hSw; (try dsimp only at hSw); go_simp <;> with_reducible rfl)
    try simp only [Act.put, List.setIfInBounds_toArray, List.set_cons_zero, List.set_cons_succ]
    refine wpAnyH_take (i := 13) (v := ?vEn1013) (take_list rfl) (by kernel_rfl) (by kernel_rfl) (by kernel_rfl) (fun _ _ _ h => h) (Or.inl ⟨by rfl, ?hyEn1013⟩) (by assumption) ?restEn1013
    case hyEn1013 => (intro w hSw; (try dsimp only at hSw); go_simp <;> with_reducible rfl)
    try simp only [Act.put, List.setIfInBounds_toArray, List.set_cons_zero, List.set_cons_succ]
    refine wpAnyH_take (i := 14) (v := ?vEn1014) (take_list rfl) (by kernel_rfl) (by kernel_rfl) (by kernel_rfl) (fun _ _ _ h => h) (Or.inl ⟨by rfl, ?hyEn1014⟩) (by assumption) ?restEn1014
    case hyEn1014 => (intro w hSw; (try dsimp only at hSw); go_simp <;> with_reducible rfl)
    try simp only [Act.put, List.setIfInBounds_toArray, List.set_cons_zero, List.set_cons_succ]
    refine wpAnyH_take (i := 15) (v := ?vEn1015) (take_list rfl) (by kernel_rfl) (by kernel_rfl) (by kernel_rfl) (fun _ _ _ h => h) (Or.inl ⟨by rfl, ?hyEn1015⟩) (by assumption) ?restEn1015
    case hyEn1015 => (intro w hSw; (try dsimp only at hSw); go_simp <;> with_reducible rfl)
    try simp only [Act.put, List.setIfInBounds_toArray, List.set_cons_zero, List.set_cons_succ]
    refine wpAnyH_ready (rs := [16]) (by kernel_rfl) (by simp) ?_
    refine AllReadyH.cons rfl (fun K hK => ?_) AllReadyH.nil
    go_simp
    go_wp2_with (go_at_call 51; refine (pclone Q qn qc v.places _ HI3.out.pform hq40 (by exact PLX.out)).mono ?_; rintro e w5 ⟨B5, c5, rfl, ho5, hb5⟩; have BE5 := Lib.hid (show Below wx.heap.size wx w5 from ⟨hb5.os, hb5.tape, hb5.output, hb5.size, hb5.block⟩); have OW5 := Lib.hid (show w5.ownsRow wx.heap.size 40 2 (.slice B5 qn c5) qn (placeVals v.places) from ho5); have BP5 := Lib.hid (BPX.out.below BE5.out hpx); have BN5 := Lib.hid (BNX.out.below BE5.out hnx); obtain ⟨w6, hrun, hm6, hg6⟩ := (MEX.out.of_eq (w' := w5) (BE5.out.block be MEX.out.lt)).store (t := 55) (e := 46) Try.underlying55 (by simp only [maxLen]; omega) (k := v.key) hkl (.agg #[encStr v.key, .int .i64 v.gen, .int .i64 v.size, encStr v.sum, .slice B5 qn c5]); have hrun' : (Instr.mapUpdate 55 (.map (some be)) (encStr v.key) (.agg #[encStr v.key, .int .i64 v.gen, .int .i64 v.size, encStr v.sum, .slice B5 qn c5])).run Try.prog w5 = .ok () w6 := hrun; have BP6 := Lib.hid (BP5.out.grown hg6 (fun e => hm.1 (Option.some.inj e).symm)); have BN6 := Lib.hid (BN5.out.grown hg6 (fun e => blk_apart BNX.out MEX.out (Option.some.inj e).symm)); have M6 := Lib.hid hm6; have G6 := Lib.hid hg6; have y0 : w5.cell? ⟨p, 1, none⟩ = some (.map (some be)) := BP5.out.cell 1; have y1 : w5.cell? ⟨w.heap.size, 1, none⟩ = some (encStr v.key) := BN5.out.cell 1; have y2 : w5.cell? ⟨w.heap.size, 2, none⟩ = some (.int .i64 v.gen) := BN5.out.cell 2; have y5 : w5.cell? ⟨w.heap.size, 5, none⟩ = some (encStr v.sum) := BN5.out.cell 5; have y6 : w5.cell? ⟨w.heap.size, 6, none⟩ = some (.int .i64 v.size) := BN5.out.cell 6; have y7 : w5.cell? ⟨w.heap.size, 7, none⟩ = some (.slice Q qn qc) := BN5.out.cell 7; have z0 : w6.cell? ⟨p, 1, none⟩ = some (.map (some be)) := BP6.out.cell 1; have z1 : w6.cell? ⟨w.heap.size, 1, none⟩ = some (encStr v.key) := BN6.out.cell 1; have z2 : w6.cell? ⟨w.heap.size, 2, none⟩ = some (.int .i64 v.gen) := BN6.out.cell 2; have z5 : w6.cell? ⟨w.heap.size, 5, none⟩ = some (encStr v.sum) := BN6.out.cell 5; have z6 : w6.cell? ⟨w.heap.size, 6, none⟩ = some (.int .i64 v.size) := BN6.out.cell 6; have z7 : w6.cell? ⟨w.heap.size, 7, none⟩ = some (.slice Q qn qc) := BN6.out.cell 7; clear hrun ho5 hb5 hm6 hg6)
    clear hHeld
    refine hK.out _ _ ⟨y0, y1, y2, y5, y6, y7⟩ (fun hHeld => ?_)
    clear hK K
    refine wpAnyH_take (i := 17) (v := ?vEn1017) (take_list rfl) (by kernel_rfl) (by kernel_rfl) (by kernel_rfl) (fun _ _ _ h => h) (Or.inl ⟨by rfl, ?hyEn1017⟩) (by assumption) ?restEn1017
    case hyEn1017 => (intro w hSw; (try dsimp only at hSw); go_simp <;> with_reducible rfl)
    try simp only [Act.put, List.setIfInBounds_toArray, List.set_cons_zero, List.set_cons_succ]
    refine wpAnyH_ready (rs := [18]) (by kernel_rfl) (by simp) ?_
    refine AllReadyH.cons rfl (fun K hK => ?_) AllReadyH.nil
    go_simp
    clear hHeld
    refine hK.out _ _ ⟨z0, z1, z2, z5, z6, z7⟩ (fun hHeld => ?_)
    clear hK K
    refine wpAnyH_done (by kernel_rfl) ?_ _
    go_wp2_with fail
    go_ret
    rw [HE.out]
    exact placed_fin R3.out BB3.out HDX.out BPX.out BE5.out OW5.out (Nat.le_trans BB3.out.size (Nat.le_trans HDX.out.chg.size (Nat.le_refl _))) M6.out G6.out WF.out
  have d8 : decide (0 ≤ ti) = true := by simp; omega
  obtain ⟨i, rfl⟩ := Int.eq_ofNat_of_zero_le (show 0 ≤ ti by omega)
  obtain ⟨hcut, hil⟩ := DC.out i rfl
  obtain ⟨m, hmm⟩ : ∃ m, C.staged.length = i + 1 + m := ⟨C.staged.length - (i + 1), by omega⟩
  obtain ⟨g, cap, hsl, hF⟩ : ∃ g cap, (.slice B0 n0 c0 : Value) = .slice (some ⟨g, 0, none⟩) (i + 1 + m) cap ∧ F g := by
    rcases R3.out.stg.form with ⟨_, h⟩ | ⟨g, cap, h, _, _, hF, _⟩
    · omega
    · exact ⟨g, cap, by rw [h, hmm], hF⟩
  obtain ⟨rfl, rfl, rfl⟩ : B0 = some ⟨g, 0, none⟩ ∧ n0 = i + 1 + m ∧ c0 = cap := by injection hsl with a b c; exact ⟨a, b, c⟩
  have TM := Lib.hid (show OwnRow F w3 61 2 (.slice (some ⟨g, 0, none⟩) (i + 1 + m) c0) (i + 1 + m) (blobVals SR) by have h := R3.out.stg; rw [hmm] at h; exact h)
  have HCUT := Lib.hid hcut
  have hgp : g ≠ p := (R3.out.stg_ne rfl).1
  have hgl : g < w3.heap.size := (TM.out.1.lt g rfl).2
  have hlen : (SR.eraseIdx i).length = i + m := by rw [List.length_eraseIdx_of_lt hil, hsr, hmm]; omega
  have hlen2 : (delL C.staged v.key).length = i + m := by rw [← hcut, List.length_map, hlen]
  have BCUT := Lib.hid (blobVals_cut SR i hil)
  have HL2 := Lib.hid hlen2
  have hi63 : (i : Int) + 1 ≤ 9223372036854775807 := by omega
  clear hsl hcut hlen hlen2 hmm hil
  go_upto_region 8 with (first
    | (go_at_call 23; refine IX.out.mono ?_; rintro e w4 ⟨rfl, hb4⟩; have B4 := Lib.hid hb4; have k4 : w4.cell? ⟨p, 0, none⟩ = some (.slice (some ⟨g, 0, none⟩) (i + 1 + m) c0) := (hb4.cell (p := ⟨p, 0, none⟩) hpz).trans kp0; clear hb4)
    | (go_at_call 50; refine (dBlob F g c0 i m (blobVals SR) _ (by exact (OwnRow.owning ..).below TM.out B4.out) (blobVals_one _)).mono ?_; rintro e w5 ⟨rfl, ho5, hc5⟩; have HO5 := Lib.hid ho5; have HC5 := Lib.hid (show Chg (fun k => k = g) w4 w5 from ⟨hc5.os, hc5.tape, hc5.output, hc5.size, hc5.block⟩); have BP5 := Lib.hid ((R3.out.blk.below B4.out hpz).of_eq (hc5.block p (Nat.lt_of_lt_of_le hpz B4.out.size) (fun e => hgp e.symm))); have f5 : w5.frozen? ⟨p, 0, none⟩ = false := BP5.out.free 0; have kp5 : w5.cell? ⟨p, 0, none⟩ = some (.slice (some ⟨g, 0, none⟩) (i + 1 + m) c0) := BP5.out.cell 0; clear ho5 hc5))
  obtain ⟨wx, hwx⟩ : ∃ wx, wx = w5.setCell ⟨p, 0, none⟩ (.slice (some ⟨g, 0, none⟩) (i + m) c0) := ⟨_, rfl⟩
  rw [← hwx]
  have hc5x : Chg (fun k => k = p) w5 wx := by rw [hwx]; exact (Chg.refl (fun k => k = p) w5).store (p := ⟨p, 0, none⟩) (.inl rfl) _
  have hcx : Chg (fun k => k = p ∨ (Value.slice (some ⟨g, 0, none⟩) (i + 1 + m) c0).ownBlock = some k) w3 wx := ((Chg.of_below _ B4.out).trans (HC5.out.mono (fun k e => .inr (by rw [e]; rfl)))).trans (hc5x.mono (fun k e => .inl e))
  have HDX := Lib.hid (show Dropped F w3 wx p (.slice (some ⟨g, 0, none⟩) (i + 1 + m) c0) SR C.staged v.key (.slice (some ⟨g, 0, none⟩) (i + m) c0) (SR.eraseIdx i) from ⟨by
    rw [HL2.out, ← BCUT.out]
    exact HO5.out.chg hc5x (fun q hq e => hgp ((Option.some.inj hq).trans e)), HCUT.out, fun r hr => (List.eraseIdx_sublist ..).subset hr, hcx, rfl⟩)
  have BPX := Lib.hid (show Blk wx p 59 #[.slice (some ⟨g, 0, none⟩) (i + m) c0, .map (some be), .map (some bb), tv, .map (some br), .int .i64 C.gen] by rw [hwx]; exact BP5.out.store 0 _)
  have hnb3 : ¬ (w.heap.size = p ∨ (Value.slice (some ⟨g, 0, none⟩) (i + 1 + m) c0).ownBlock = some w.heap.size) := fun e => e.elim hnp (fun e => by
    obtain ⟨cs, hcs⟩ := own_blk TM.out.1 e
    exact blk_ne BN3.out hcs (by decide) rfl)
  have BNX := Lib.hid (BN3.out.of_eq (hcx.block _ hnz hnb3))
  have PLX := Lib.hid (show PlacesIn wx Q qn v.places from ⟨HI3.out.places.1, by
    rcases Nat.eq_zero_or_pos qn with h0 | h0
    · exact .inl ⟨h0, by have h1 := HI3.out.places.1; rw [h0] at h1; rw [List.eq_nil_of_length_eq_zero h1]; rfl⟩
    · exact HI3.out.places.2.keep fun b off hQ hbl => hcx.block b hbl (fun e => HAP.out h0 b off hQ (e.elim (fun e => e ▸ R3.out.fp) (fun e => R3.out.stg.2 b e)))⟩)
  have MEX := Lib.hid (R3.out.ents.of_eq (hcx.block be R3.out.ents.lt (fun e => e.elim (fun e => hm.1 e.symm) (fun e => (R3.out.stg_ne e).2.2.1 rfl))))
  have hpx : p < wx.heap.size := BPX.out.size
  have hnx : w.heap.size < wx.heap.size := BNX.out.size
  clear kp0 r1 k4 f5 kp5 hwx
  have x0 : wx.cell? ⟨p, 1, none⟩ = some (.map (some be)) := BPX.out.cell 1
  have x1 : wx.cell? ⟨w.heap.size, 1, none⟩ = some (encStr v.key) := BNX.out.cell 1
  have x2 : wx.cell? ⟨w.heap.size, 2, none⟩ = some (.int .i64 v.gen) := BNX.out.cell 2
  have x5 : wx.cell? ⟨w.heap.size, 5, none⟩ = some (encStr v.sum) := BNX.out.cell 5
  have x6 : wx.cell? ⟨w.heap.size, 6, none⟩ = some (.int .i64 v.size) := BNX.out.cell 6
  have x7 : wx.cell? ⟨w.heap.size, 7, none⟩ = some (.slice Q qn qc) := BNX.out.cell 7
  refine wp_region_held_drew (S := (fun w' => w'.cell? ⟨p, 1, none⟩ = some (.map (some be)) ∧ w'.cell? ⟨w.heap.size, 1, none⟩ = some (encStr v.key) ∧ w'.cell? ⟨w.heap.size, 2, none⟩ = some (.int .i64 v.gen) ∧ w'.cell? ⟨w.heap.size, 5, none⟩ = some (encStr v.sum) ∧ w'.cell? ⟨w.heap.size, 6, none⟩ = some (.int .i64 v.size) ∧ w'.cell? ⟨w.heap.size, 7, none⟩ = some (.slice Q qn qc))) (by kernel_rfl) ⟨x0, x1, x2, x5, x6, x7⟩ (fun hHeld => ?_)
  refine wpAnyH_take (i := 0) (v := ?vGn110) (take_list rfl) (by kernel_rfl) (by kernel_rfl) (by kernel_rfl) (fun _ _ _ h => h) (Or.inl ⟨by rfl, ?hyGn110⟩) (by assumption) ?restGn110
  case hyGn110 => (intro w hSw; (try dsimp only at hSw); go_simp <;> with_reducible rfl)
  try simp only [Act.put, List.setIfInBounds_toArray, List.set_cons_zero, List.set_cons_succ]
  refine wpAnyH_take (i := 1) (v := ?vGn111) (take_list rfl) (by kernel_rfl) (by kernel_rfl) (by kernel_rfl) (fun _ _ _ h => h) (Or.inl ⟨by rfl, ?hyGn111⟩) (by assumption) ?restGn111
  case hyGn111 => (intro w hSw; (try dsimp only at hSw); go_simp <;> with_reducible rfl)
  try simp only [Act.put, List.setIfInBounds_toArray, List.set_cons_zero, List.set_cons_succ]
  refine wpAnyH_take (i := 2) (v := ?vGn112) (take_list rfl) (by kernel_rfl) (by kernel_rfl) (by kernel_rfl) (fun _ _ _ h => h) (Or.inl ⟨by rfl, ?hyGn112⟩) (by assumption) ?restGn112
  case hyGn112 => (intro w hSw; (try dsimp only at hSw); go_simp <;> with_reducible rfl)
  try simp only [Act.put, List.setIfInBounds_toArray, List.set_cons_zero, List.set_cons_succ]
  refine wpAnyH_take (i := 3) (v := ?vGn113) (take_list rfl) (by kernel_rfl) (by kernel_rfl) (by kernel_rfl) (fun _ _ _ h => h) (Or.inl ⟨by rfl, ?hyGn113⟩) (by assumption) ?restGn113
  case hyGn113 => (intro w hSw; (try dsimp only at hSw); go_simp <;> with_reducible rfl)
  try simp only [Act.put, List.setIfInBounds_toArray, List.set_cons_zero, List.set_cons_succ]
  refine wpAnyH_take (i := 4) (v := ?vGn114) (take_list rfl) (by kernel_rfl) (by kernel_rfl) (by kernel_rfl) (fun _ _ _ h => h) (Or.inl ⟨by rfl, ?hyGn114⟩) (by assumption) ?restGn114
  case hyGn114 => (intro w hSw; (try dsimp only at hSw); go_simp <;> with_reducible rfl)
  try simp only [Act.put, List.setIfInBounds_toArray, List.set_cons_zero, List.set_cons_succ]
  refine wpAnyH_take (i := 5) (v := ?vGn115) (take_list rfl) (by kernel_rfl) (by kernel_rfl) (by kernel_rfl) (fun _ _ _ h => h) (Or.inl ⟨by rfl, ?hyGn115⟩) (by assumption) ?restGn115
  case hyGn115 => (intro w hSw; (try dsimp only at hSw); go_simp <;> with_reducible rfl)
  try simp only [Act.put, List.setIfInBounds_toArray, List.set_cons_zero, List.set_cons_succ]
  refine wpAnyH_take (i := 6) (v := ?vGn116) (take_list rfl) (by kernel_rfl) (by kernel_rfl) (by kernel_rfl) (fun _ _ _ h => h) (Or.inl ⟨by rfl, ?hyGn116⟩) (by assumption) ?restGn116
  case hyGn116 => (intro w hSw; (try dsimp only at hSw); go_simp <;> with_reducible rfl)
  try simp only [Act.put, List.setIfInBounds_toArray, List.set_cons_zero, List.set_cons_succ]
  refine wpAnyH_take (i := 7) (v := ?vGn117) (take_list rfl) (by kernel_rfl) (by kernel_rfl) (by kernel_rfl) (fun _ _ _ h => h) (Or.inl ⟨by rfl, ?hyGn117⟩) (by assumption) ?restGn117
  case hyGn117 => (intro w hSw; (try dsimp only at hSw); go_simp <;> with_reducible rfl)
  try simp only [Act.put, List.setIfInBounds_toArray, List.set_cons_zero, List.set_cons_succ]
  refine wpAnyH_take (i := 8) (v := ?vGn118) (take_list rfl) (by kernel_rfl) (by kernel_rfl) (by kernel_rfl) (fun _ _ _ h => h) (Or.inl ⟨by rfl, ?hyGn118⟩) (by assumption) ?restGn118
  case hyGn118 => (intro w hSw; (try dsimp only at hSw); go_simp <;> with_reducible rfl)
  try simp only [Act.put, List.setIfInBounds_toArray, List.set_cons_zero, List.set_cons_succ]
  refine wpAnyH_take (i := 9) (v := ?vGn119) (take_list rfl) (by kernel_rfl) (by kernel_rfl) (by kernel_rfl) (fun _ _ _ h => h) (Or.inl ⟨by rfl, ?hyGn119⟩) (by assumption) ?restGn119
  case hyGn119 => (intro w hSw; (try dsimp only at hSw); go_simp <;> with_reducible rfl)
  try simp only [Act.put, List.setIfInBounds_toArray, List.set_cons_zero, List.set_cons_succ]
  refine wpAnyH_take (i := 10) (v := ?vGn1110) (take_list rfl) (by kernel_rfl) (by kernel_rfl) (by kernel_rfl) (fun _ _ _ h => h) (Or.inl ⟨by rfl, ?hyGn1110⟩) (by assumption) ?restGn1110
  case hyGn1110 => (intro w hSw; (try dsimp only at hSw); go_simp <;> with_reducible rfl)
  try simp only [Act.put, List.setIfInBounds_toArray, List.set_cons_zero, List.set_cons_succ]
  refine wpAnyH_take (i := 11) (v := ?vGn1111) (take_list rfl) (by kernel_rfl) (by kernel_rfl) (by kernel_rfl) (fun _ _ _ h => h) (Or.inl ⟨by rfl, ?hyGn1111⟩) (by assumption) ?restGn1111
  case hyGn1111 => (intro w hSw; (try dsimp only at hSw); go_simp <;> with_reducible rfl)
  try simp only [Act.put, List.setIfInBounds_toArray, List.set_cons_zero, List.set_cons_succ]
  refine wpAnyH_take (i := 12) (v := ?vGn1112) (take_list rfl) (by kernel_rfl) (by kernel_rfl) (by kernel_rfl) (fun _ _ _ h => h) (Or.inl ⟨by rfl, ?hyGn1112⟩) (by assumption) ?restGn1112
  case hyGn1112 => (intro w hSw; (try dsimp only at hSw); go_simp <;> with_reducible rfl)
  try simp only [Act.put, List.setIfInBounds_toArray, List.set_cons_zero, List.set_cons_succ]
  refine wpAnyH_take (i := 13) (v := ?vGn1113) (take_list rfl) (by kernel_rfl) (by kernel_rfl) (by kernel_rfl) (fun _ _ _ h => h) (Or.inl ⟨by rfl, ?hyGn1113⟩) (by assumption) ?restGn1113
  case hyGn1113 => (intro w hSw; (try dsimp only at hSw); go_simp <;> with_reducible rfl)
  try simp only [Act.put, List.setIfInBounds_toArray, List.set_cons_zero, List.set_cons_succ]
  refine wpAnyH_take (i := 14) (v := ?vGn1114) (take_list rfl) (by kernel_rfl) (by kernel_rfl) (by kernel_rfl) (fun _ _ _ h => h) (Or.inl ⟨by rfl, ?hyGn1114⟩) (by assumption) ?restGn1114
  case hyGn1114 => (intro w hSw; (try dsimp only at hSw); go_simp <;> with_reducible rfl)
  try simp only [Act.put, List.setIfInBounds_toArray, List.set_cons_zero, List.set_cons_succ]
  refine wpAnyH_take (i := 15) (v := ?vGn1115) (take_list rfl) (by kernel_rfl) (by kernel_rfl) (by kernel_rfl) (fun _ _ _ h => h) (Or.inl ⟨by rfl, ?hyGn1115⟩) (by assumption) ?restGn1115
  case hyGn1115 => (intro w hSw; (try dsimp only at hSw); go_simp <;> with_reducible rfl)
  try simp only [Act.put, List.setIfInBounds_toArray, List.set_cons_zero, List.set_cons_succ]
  refine wpAnyH_ready (rs := [16]) (by kernel_rfl) (by simp) ?_
  refine AllReadyH.cons rfl (fun K hK => ?_) AllReadyH.nil
  go_simp
  go_wp2_with (go_at_call 51; refine (pclone Q qn qc v.places _ HI3.out.pform hq40 (by exact PLX.out)).mono ?_; rintro e w5 ⟨B5, c5, rfl, ho5, hb5⟩; have BE5 := Lib.hid (show Below wx.heap.size wx w5 from ⟨hb5.os, hb5.tape, hb5.output, hb5.size, hb5.block⟩); have OW5 := Lib.hid (show w5.ownsRow wx.heap.size 40 2 (.slice B5 qn c5) qn (placeVals v.places) from ho5); have BP5 := Lib.hid (BPX.out.below BE5.out hpx); have BN5 := Lib.hid (BNX.out.below BE5.out hnx); obtain ⟨w6, hrun, hm6, hg6⟩ := (MEX.out.of_eq (w' := w5) (BE5.out.block be MEX.out.lt)).store (t := 55) (e := 46) Try.underlying55 (by simp only [maxLen]; omega) (k := v.key) hkl (.agg #[encStr v.key, .int .i64 v.gen, .int .i64 v.size, encStr v.sum, .slice B5 qn c5]); have hrun' : (Instr.mapUpdate 55 (.map (some be)) (encStr v.key) (.agg #[encStr v.key, .int .i64 v.gen, .int .i64 v.size, encStr v.sum, .slice B5 qn c5])).run Try.prog w5 = .ok () w6 := hrun; have BP6 := Lib.hid (BP5.out.grown hg6 (fun e => hm.1 (Option.some.inj e).symm)); have BN6 := Lib.hid (BN5.out.grown hg6 (fun e => blk_apart BNX.out MEX.out (Option.some.inj e).symm)); have M6 := Lib.hid hm6; have G6 := Lib.hid hg6; have y0 : w5.cell? ⟨p, 1, none⟩ = some (.map (some be)) := BP5.out.cell 1; have y1 : w5.cell? ⟨w.heap.size, 1, none⟩ = some (encStr v.key) := BN5.out.cell 1; have y2 : w5.cell? ⟨w.heap.size, 2, none⟩ = some (.int .i64 v.gen) := BN5.out.cell 2; have y5 : w5.cell? ⟨w.heap.size, 5, none⟩ = some (encStr v.sum) := BN5.out.cell 5; have y6 : w5.cell? ⟨w.heap.size, 6, none⟩ = some (.int .i64 v.size) := BN5.out.cell 6; have y7 : w5.cell? ⟨w.heap.size, 7, none⟩ = some (.slice Q qn qc) := BN5.out.cell 7; have z0 : w6.cell? ⟨p, 1, none⟩ = some (.map (some be)) := BP6.out.cell 1; have z1 : w6.cell? ⟨w.heap.size, 1, none⟩ = some (encStr v.key) := BN6.out.cell 1; have z2 : w6.cell? ⟨w.heap.size, 2, none⟩ = some (.int .i64 v.gen) := BN6.out.cell 2; have z5 : w6.cell? ⟨w.heap.size, 5, none⟩ = some (encStr v.sum) := BN6.out.cell 5; have z6 : w6.cell? ⟨w.heap.size, 6, none⟩ = some (.int .i64 v.size) := BN6.out.cell 6; have z7 : w6.cell? ⟨w.heap.size, 7, none⟩ = some (.slice Q qn qc) := BN6.out.cell 7; clear hrun ho5 hb5 hm6 hg6)
  clear hHeld
  refine hK.out _ _ ⟨y0, y1, y2, y5, y6, y7⟩ (fun hHeld => ?_)
  clear hK K
  refine wpAnyH_take (i := 17) (v := ?vGn1117) (take_list rfl) (by kernel_rfl) (by kernel_rfl) (by kernel_rfl) (fun _ _ _ h => h) (Or.inl ⟨by rfl, ?hyGn1117⟩) (by assumption) ?restGn1117
  case hyGn1117 => (intro w hSw; (try dsimp only at hSw); go_simp <;> with_reducible rfl)
  try simp only [Act.put, List.setIfInBounds_toArray, List.set_cons_zero, List.set_cons_succ]
  refine wpAnyH_ready (rs := [18]) (by kernel_rfl) (by simp) ?_
  refine AllReadyH.cons rfl (fun K hK => ?_) AllReadyH.nil
  go_simp
  clear hHeld
  refine hK.out _ _ ⟨z0, z1, z2, z5, z6, z7⟩ (fun hHeld => ?_)
  clear hK K
  refine wpAnyH_done (by kernel_rfl) ?_ _
  go_wp2_with fail
  go_ret
  rw [HE.out]
  exact placed_fin R3.out BB3.out HDX.out BPX.out BE5.out OW5.out (Nat.le_trans BB3.out.size (Nat.le_trans HDX.out.chg.size (Nat.le_refl _))) M6.out G6.out WF.out
end
end Go.Proofs.Ytmkccblcmiflfaa
