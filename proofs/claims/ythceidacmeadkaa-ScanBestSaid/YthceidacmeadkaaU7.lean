/- The document's best copies: the walk. No condition beyond those that each theorem states. -/
import Derived.Test.YthceidacmeadkaaU6
namespace Go.Proofs.Ythceidacmeadkaa
open Go.RowKit Go.Maps Go.WideMaps Go.Sort Go.Shelf
attribute [local go_sem] Oper.semAt_some

def refCells (x : CopyE × Nat) : List Value := [strV x.1.b.key, .int .i64 x.1.b.gen, .int .i64 x.1.b.size, strV x.1.b.sum, .slice (some ⟨x.1.g, 0, none⟩) (slotsB x.1.b) x.2]
def refVals (l : List (CopyE × Nat)) : List Value := l.flatMap refCells
theorem refVals_len (l : List (CopyE × Nat)) : (refVals l).length = l.length * 5 := flat_length (k := 5) (fun _ => rfl) l
theorem refVals_get {l : List (CopyE × Nat)} {i : Nat} {x : CopyE × Nat} (h : l[i]? = some x) {q : Nat} (hq : q < 5) : (refVals l)[i * 5 + q]? = (refCells x)[q]? := flat_get (vals := refCells) (k := 5) (fun _ => rfl) h hq
theorem refCells_one (x : CopyE × Nat) : ∀ u ∈ refCells x, u.oneCell' = true := by
  intro u hu
  simp only [refCells, List.mem_cons, List.not_mem_nil, or_false] at hu
  rcases hu with rfl | rfl | rfl | rfl | rfl <;> rfl
theorem refVals_one (l : List (CopyE × Nat)) : ∀ u ∈ refVals l, u.oneCell' = true := by
  intro u hu
  obtain ⟨x, _, hx⟩ := List.mem_flatMap.1 hu
  exact refCells_one x u hx
theorem refVals_app (a b : List (CopyE × Nat)) : refVals (a ++ b) = refVals a ++ refVals b := by simp [refVals]
structure RefI (w1 : World) (L : List FoundP) (i m : Nat) (rs : List (CopyE × Nat)) (M : List CopyE) (g k : Nat) (wr : World) : Prop where
  best : BestS L i M (rs.map Prod.fst)
  len : rs.length = m
  le : m ≤ i
  row : wr.ownsRow w1.heap.size 32 5 (.slice (some ⟨g, 0, none⟩) m k) m (refVals rs)
  places : ∀ x ∈ rs, PlcAt wr x.1.g (placesOf L x.1.b) ∧ g ≠ x.1.g
  base : Below w1.heap.size w1 wr
theorem RefI.below {w1 wr wx : World} {L : List FoundP} {i m : Nat} {rs : List (CopyE × Nat)} {M : List CopyE} {g k : Nat} (h : RefI w1 L i m rs M g k wr) (hb : Below wr.heap.size wr wx) : RefI w1 L i m rs M g k wx :=
  ⟨h.best, h.len, h.le, own_of_eq h.row (fun g1 hg1 => hb.block g1 (h.row.lt g1 hg1).2), fun x hx => ⟨(h.places x hx).1.below hb, (h.places x hx).2⟩, h.base.trans (hb.mono h.base.size)⟩
theorem RefI.to {w1 wr : World} {L : List FoundP} {i j m : Nat} {rs : List (CopyE × Nat)} {M M' : List CopyE} {g k : Nat} (h : RefI w1 L i m rs M g k wr) (hb : BestS L j M' (rs.map Prod.fst)) (hij : i ≤ j) : RefI w1 L j m rs M' g k wr :=
  ⟨hb, h.len, Nat.le_trans h.le hij, h.row, h.places, h.base⟩
theorem copy_facts {L : List FoundP} (hok : ∀ p ∈ L, okF p = true) {b : BlobV} (h : isCopy L b) : ∃ q, slotsB b = q * 10 ∧ 1 ≤ q ∧ q ≤ 4 ∧ (q : Int) = b.groups ∧ b.groups = groupsV b.size := by
  obtain ⟨p, hp, hk, rfl⟩ := h
  have hf := shard_facts (hok p hp) hk
  have hg := copy_groups hok ⟨p, hp, hk, rfl⟩
  have h1 : (slotsB (ofR p.r) : Int) = p.r.groups * 10 := hf.2.2.2.2.2.2.2.2
  have h2 : (ofR p.r).groups = p.r.groups := rfl
  rcases hf.2.1 with h | h | h | h
  · exact ⟨1, h, by omega, by omega, by omega, hg⟩
  · exact ⟨2, h, by omega, by omega, by omega, hg⟩
  · exact ⟨3, h, by omega, by omega, by omega, hg⟩
  · exact ⟨4, h, by omega, by omega, by omega, hg⟩
theorem plc_own {w : World} {base g n k : Nat} {t : TypeId} {ps : List (Int × Int)} (h : w.ownsRow base t 2 (.slice (some ⟨g, 0, none⟩) n k) n (placeVals ps)) : PlcAt w g ps := by
  refine ⟨(h.lt g rfl).2, fun i u hu => own_cell h hu⟩
theorem ref_take {l : List (CopyE × Nat)} {a j : Nat} {u : Value} (h : (refVals (l.take a))[j]? = some u) : (refVals l)[j]? = some u := by
  rw [← List.take_append_drop a l, refVals_app, List.getElem?_append_left (List.getElem?_eq_some_iff.1 h).1]
  exact h
theorem ref_drop {l : List (CopyE × Nat)} {a j : Nat} {u : Value} (ha : a ≤ l.length) (h : (refVals (l.drop a))[j]? = some u) : (refVals l)[a * 5 + j]? = some u := by
  have e : (refVals (l.take a)).length = a * 5 := by rw [refVals_len, List.length_take, Nat.min_eq_left ha]
  rw [← List.take_append_drop a l, refVals_app, List.getElem?_append_right (by omega), e, Nat.add_sub_cancel_left]
  exact h
theorem own_blk5 {w : World} {base g n k : Nat} {t : TypeId} {size : Nat} {xs : List Value} (h : w.ownsRow base t size (.slice (some ⟨g, 0, none⟩) n k) n xs) : ∃ cur, Blk w g t cur := by
  rcases h.2 with ⟨h1, _⟩ | ⟨g', cap', cur, hv, h1, h2, _⟩
  · cases h1
  · injection hv with e1
    injection e1 with e1
    injection e1 with e1
    subst e1
    exact ⟨cur, h2⟩
theorem RefI.ins {w1 wi wc : World} {L : List FoundP} {i m a : Nat} {rs : List (CopyE × Nat)} {M M' : List CopyE} {g k gN kN : Nat} {x : CopyE × Nat} (h : RefI w1 L i m rs M g k wi) (hb : Below wi.heap.size wi wc)
    (ho : wc.ownsRow wi.heap.size 32 5 (.slice (some ⟨gN, 0, none⟩) (m + 1) kN) (m + 1) (refVals (rs.take a ++ [x] ++ rs.drop a))) (hx : PlcAt wi x.1.g (placesOf L x.1.b)) (ha : a ≤ m)
    (hn : BestS L (i + 1) M' ((rs.take a ++ [x] ++ rs.drop a).map Prod.fst)) : RefI w1 L (i + 1) (m + 1) (rs.take a ++ [x] ++ rs.drop a) M' gN kN wc := by
  have hl := h.len
  have hg := (ho.lt gN rfl).1
  refine ⟨hn, by simp only [List.length_append, List.length_take, List.length_drop, List.length_singleton]; omega, Nat.succ_le_succ h.le, own_base ho h.base.size, fun y hy => ?_, h.base.trans (hb.mono h.base.size)⟩
  have hp : PlcAt wi y.1.g (placesOf L y.1.b) := by
    rcases List.mem_append.1 hy with hy | hy
    · rcases List.mem_append.1 hy with hy | hy
      · exact (h.places y (List.mem_of_mem_take hy)).1
      · rw [List.mem_singleton] at hy
        subst hy
        exact hx
    · exact (h.places y (List.mem_of_mem_drop hy)).1
  exact ⟨hp.below hb, fun e => by have := hp.1; omega⟩
theorem refVals_set : ∀ (l : List (CopyE × Nat)) (a : Nat) (x : CopyE × Nat), (((((refVals l).set (a * 5) (strV x.1.b.key)).set (a * 5 + 1) (.int .i64 x.1.b.gen)).set (a * 5 + 2) (.int .i64 x.1.b.size)).set (a * 5 + 3) (strV x.1.b.sum)).set (a * 5 + 4) (.slice (some ⟨x.1.g, 0, none⟩) (slotsB x.1.b) x.2) = refVals (l.set a x)
  | [], _, _ => rfl
  | y :: l, 0, x => rfl
  | y :: l, a + 1, x => by
    have e : refVals (y :: l) = refCells y ++ refVals l := by simp [refVals]
    have e2 : refVals ((y :: l).set (a + 1) x) = refCells y ++ refVals (l.set a x) := by simp [refVals]
    have hl : (refCells y).length = 5 := rfl
    rw [e, e2, ← refVals_set l a x]
    rw [List.set_append_right (h := by omega), List.set_append_right (h := by omega), List.set_append_right (h := by omega), List.set_append_right (h := by omega), List.set_append_right (h := by omega), hl]
    rw [show (a + 1) * 5 - 5 = a * 5 by omega, show (a + 1) * 5 + 1 - 5 = a * 5 + 1 by omega, show (a + 1) * 5 + 2 - 5 = a * 5 + 2 by omega, show (a + 1) * 5 + 3 - 5 = a * 5 + 3 by omega, show (a + 1) * 5 + 4 - 5 = a * 5 + 4 by omega]
theorem RefI.rep {w1 wi : World} {L : List FoundP} {i m a : Nat} {rs : List (CopyE × Nat)} {M M' : List CopyE} {g k : Nat} {x : CopyE × Nat} (h : RefI w1 L i m rs M g k wi) (hx : PlcAt wi x.1.g (placesOf L x.1.b)) (hne : g ≠ x.1.g)
    (hn : BestS L (i + 1) M' ((rs.set a x).map Prod.fst)) :
    RefI w1 L (i + 1) m (rs.set a x) M' g k (((((wi.setCell ⟨g, a * 5, none⟩ (strV x.1.b.key)).setCell ⟨g, a * 5 + 1, none⟩ (.int .i64 x.1.b.gen)).setCell ⟨g, a * 5 + 2, none⟩ (.int .i64 x.1.b.size)).setCell ⟨g, a * 5 + 3, none⟩ (strV x.1.b.sum)).setCell ⟨g, a * 5 + 4, none⟩ (.slice (some ⟨x.1.g, 0, none⟩) (slotsB x.1.b) x.2)) := by
  have hg : w1.heap.size ≤ g := (h.row.lt g rfl).1
  refine ⟨hn, by rw [List.length_set]; exact h.len, Nat.le_succ_of_le h.le, ?_, fun y hy => ?_, ((((h.base.setCell (p := ⟨g, _, none⟩) hg _).setCell (p := ⟨g, _, none⟩) hg _).setCell (p := ⟨g, _, none⟩) hg _).setCell (p := ⟨g, _, none⟩) hg _).setCell (p := ⟨g, _, none⟩) hg _⟩
  · rw [← refVals_set]
    exact own_store (own_store (own_store (own_store (own_store h.row _ _) _ _) _ _) _ _) _ _
  · have hp : PlcAt wi y.1.g (placesOf L y.1.b) ∧ g ≠ y.1.g := by
      rcases List.mem_or_eq_of_mem_set hy with hy | rfl
      · exact h.places y hy
      · exact ⟨hx, hne⟩
    refine ⟨⟨by simpa using hp.1.1, fun j u hu => ?_⟩, hp.2⟩
    rw [World.cell?_setCell_far _ _ _ _ hp.2, World.cell?_setCell_far _ _ _ _ hp.2, World.cell?_setCell_far _ _ _ _ hp.2, World.cell?_setCell_far _ _ _ _ hp.2, World.cell?_setCell_far _ _ _ _ hp.2]
    exact hp.1.2 j u hu
set_option maxHeartbeats 8000000
set_option maxRecDepth 100000
theorem rBest10 (A : Option Addr) (n c : Nat) (P : List FoundP) (w : World) (hP : P.length = n) (hnc : n ≤ c) (_ : c ≤ maxLen) (hn : n ≤ 1000) (hS : SrcAt w A n (foundVals P)) (hD : DataP w P) :
    Calls Try.prog 11 #[.slice A n c] w fun e w' => ∃ (g m k : Nat) (rs : List (CopyE × Nat)), e = .returned (.tuple #[.slice (some ⟨g, 0, none⟩) m k, .int .i64 (mostV (P.filter okF))]) ∧ BestV (P.filter okF) ((rs.map Prod.fst).map CopyE.b) ∧ rs.length = m ∧ m ≤ n ∧ SrcAt w' (some ⟨g, 0, none⟩) m (refVals rs) ∧ (∀ x ∈ rs, PlcAt w' x.1.g (placesOf (P.filter okF) x.1.b)) ∧ Below w.heap.size w w' := by
  obtain ⟨ie, hie, hze0, hze1, hze2⟩ := info_parts entC_info
  have CN := Lib.hid (sCounts10 A n c P w hP hnc (by omega) hS hD)
  obtain ⟨L, hL⟩ : ∃ L, P.filter okF = L := ⟨_, rfl⟩
  have hok : ∀ p ∈ L, okF p = true := fun p hp => by rw [← hL] at hp; exact (List.mem_filter.1 hp).2
  have hln : L.length ≤ n := by rw [← hL, ← hP]; exact List.length_filter_le _ _
  rw [hL] at CN ⊢
  have HOK := Lib.hid hok
  clear hP hS hD hL hok
  obtain ⟨ln, hlen⟩ : ∃ z, L.length = z := ⟨_, rfl⟩
  rw [hlen] at CN hln
  have HLN := Lib.hid hlen
  clear hlen
  go_enter Try.func11, Try.ntmps11
  go_upto_region 3 with (go_at_call 26; (refine (CN.out).mono ?_; rintro e w1 ⟨vL, rfl, hrow, hb⟩; obtain ⟨B, cB, rfl, hBc, hBm, hBn, hBs, _⟩ := own_srcv hrow (fun h => by rw [List.eq_nil_of_length_eq_zero (HLN.out.trans h)]; rfl); have S1 := Lib.hid hBs; have B1 := Lib.hid hb; clear hrow hb hBs hBn))
  clear CN
  have hw1 : w.heap.size ≤ w1.heap.size := B1.out.size
  go_wp2_with fail
  go_loopw [5, 6, 7] (fun mv v iv wr => ∃ (i m g k : Nat) (rs : List (CopyE × Nat)) (M : List CopyE), iv = .int .i64 (i : Int) ∧ mv = .int .i64 (mostV (L.take i)) ∧ v = .slice (some ⟨g, 0, none⟩) m k ∧ i ≤ ln ∧ RefI w1 L i m rs M g k wr) (fun _ _ iv _ => ln - (intOf iv).toNat)
  case atStart => exact ⟨0, 0, w1.heap.size, 0, [], [], rfl, rfl, rfl, Nat.zero_le _, BestS.start L, rfl, Nat.le_refl _, own_made _ _ 5 rfl (Nat.le_refl _), (fun x hx => by cases hx), below_al7 w1 _⟩
  obtain ⟨i, m, g, k, rs, M, rfl, rfl, rfl, hi, hri⟩ := hrel
  obtain ⟨wo, rfl⟩ : ∃ wo : World, wo = wr := ⟨_, rfl⟩
  have RI := Lib.hid hri
  have hmi := hri.le
  have hzo := hri.base.size
  clear hri
  obtain ⟨ms, hms⟩ : ∃ z, mostV (L.take i) = z := ⟨_, rfl⟩
  have HMS := Lib.hid hms
  rw [hms]
  clear hms
  by_cases hlt : i < ln
  case neg =>
    have e1 : decide (i < ln) = false := decide_eq_false hlt
    have e2 : decide ((i : Int) < (ln : Int)) = false := decide_eq_false (by omega)
    have RE := Lib.hid (show RefI w1 L L.length m rs M g k wo by have h := RI.out; rw [show i = L.length by have := HLN.out; omega] at h; exact h)
    have VM := Lib.hid (show ms = mostV L by rw [← HMS.out, List.take_of_length_le (by have := HLN.out; omega)])
    go_wp2_with fail
    refine bodyPost_ret (results_tmp2 rfl _ _ _) rfl ?_
    rw [← VM.out]
    exact ⟨g, m, k, rs, rfl, RE.out.best.done HOK.out, RE.out.len, by omega, .inr ⟨g, 0, rfl, fun j u hu => by rw [Nat.zero_add]; exact own_cell RE.out.row hu⟩, fun x hx => (RE.out.places x hx).1, B1.out.trans (RE.out.base.mono hw1)⟩
  have e1 : decide (i < ln) = true := decide_eq_true hlt
  have e2 : decide ((i : Int) < (ln : Int)) = true := decide_eq_true (by omega)
  have e3 : (i : Int) < (ln : Int) := by omega
  have e4 : (0 : Int) ≤ (i : Int) := by omega
  have p9 : IntKind.i64.wrap ((i : Int) + 1) = ((i + 1 : Nat) : Int) := by rw [IntWalk.i64_in _ (by omega)]; omega
  obtain ⟨p, hp⟩ : ∃ p, L[i]? = some p := ⟨_, List.getElem?_eq_getElem (by rw [HLN.out]; exact hlt)⟩
  have HPI := Lib.hid hp
  have hpm := List.mem_of_getElem? hp
  have HPM := Lib.hid hpm
  have MT := Lib.hid (show mostV (L.take (i + 1)) = max ms p.r.gen by rw [most_take hp, HMS.out])
  obtain ⟨bL, oL, hBe, hc⟩ := src_some (src_below S1.out RI.out.base) (by omega)
  subst hBe
  have x2 : wo.cell? ⟨bL, oL + i * 12 + 2, none⟩ = some (.int .i64 p.r.kind) := by have h := hc (i * 12 + 2) (.int .i64 p.r.kind) (by rw [foundVals_get hp (by omega)]; rfl); rw [show oL + i * 12 + 2 = oL + (i * 12 + 2) by omega]; exact h
  have x3 : wo.cell? ⟨bL, oL + i * 12 + 3, none⟩ = some (.int .i64 p.r.cart) := by have h := hc (i * 12 + 3) (.int .i64 p.r.cart) (by rw [foundVals_get hp (by omega)]; rfl); rw [show oL + i * 12 + 3 = oL + (i * 12 + 3) by omega]; exact h
  have x4 : wo.cell? ⟨bL, oL + i * 12 + 4, none⟩ = some (strV p.r.key) := by have h := hc (i * 12 + 4) (strV p.r.key) (by rw [foundVals_get hp (by omega)]; rfl); rw [show oL + i * 12 + 4 = oL + (i * 12 + 4) by omega]; exact h
  have x5 : wo.cell? ⟨bL, oL + i * 12 + 5, none⟩ = some (.int .i64 p.r.gen) := by have h := hc (i * 12 + 5) (.int .i64 p.r.gen) (by rw [foundVals_get hp (by omega)]; rfl); rw [show oL + i * 12 + 5 = oL + (i * 12 + 5) by omega]; exact h
  have x6 : wo.cell? ⟨bL, oL + i * 12 + 6, none⟩ = some (.int .i64 p.r.group) := by have h := hc (i * 12 + 6) (.int .i64 p.r.group) (by rw [foundVals_get hp (by omega)]; rfl); rw [show oL + i * 12 + 6 = oL + (i * 12 + 6) by omega]; exact h
  have x7 : wo.cell? ⟨bL, oL + i * 12 + 7, none⟩ = some (.int .i64 p.r.groups) := by have h := hc (i * 12 + 7) (.int .i64 p.r.groups) (by rw [foundVals_get hp (by omega)]; rfl); rw [show oL + i * 12 + 7 = oL + (i * 12 + 7) by omega]; exact h
  have x8 : wo.cell? ⟨bL, oL + i * 12 + 8, none⟩ = some (.int .i64 p.r.index) := by have h := hc (i * 12 + 8) (.int .i64 p.r.index) (by rw [foundVals_get hp (by omega)]; rfl); rw [show oL + i * 12 + 8 = oL + (i * 12 + 8) by omega]; exact h
  have x9 : wo.cell? ⟨bL, oL + i * 12 + 9, none⟩ = some (.int .i64 p.r.size) := by have h := hc (i * 12 + 9) (.int .i64 p.r.size) (by rw [foundVals_get hp (by omega)]; rfl); rw [show oL + i * 12 + 9 = oL + (i * 12 + 9) by omega]; exact h
  have x10 : wo.cell? ⟨bL, oL + i * 12 + 10, none⟩ = some (strV p.r.sum) := by have h := hc (i * 12 + 10) (strV p.r.sum) (by rw [foundVals_get hp (by omega)]; rfl); rw [show oL + i * 12 + 10 = oL + (i * 12 + 10) by omega]; exact h
  have x11 : wo.cell? ⟨bL, oL + i * 12 + 11, none⟩ = some (.slice p.A p.r.data.length p.c) := by have h := hc (i * 12 + 11) (.slice p.A p.r.data.length p.c) (by rw [foundVals_get hp (by omega)]; rfl); rw [show oL + i * 12 + 11 = oL + (i * 12 + 11) by omega]; exact h
  clear hc hp hpm
  go_upto_region 8 with fail
  obtain ⟨wq, hwq⟩ : ∃ z, wo.alloc (.cells #[.int .i64 p.r.kind, .int .i64 p.r.cart, strV p.r.key, .int .i64 p.r.gen, .int .i64 p.r.group, .int .i64 p.r.groups, .int .i64 p.r.index, .int .i64 p.r.size, strV p.r.sum, .slice p.A p.r.data.length p.c] 37) = z := ⟨_, rfl⟩
  have BR := Lib.hid (show Blk wq wo.heap.size 37 #[.int .i64 p.r.kind, .int .i64 p.r.cart, strV p.r.key, .int .i64 p.r.gen, .int .i64 p.r.group, .int .i64 p.r.groups, .int .i64 p.r.index, .int .i64 p.r.size, strV p.r.sum, .slice p.A p.r.data.length p.c] by rw [← hwq]; exact Blk.made _ _ _)
  have BOQ := Lib.hid (show Below wo.heap.size wo wq by rw [← hwq]; exact below_al7 _ _)
  rw [hwq]
  clear hwq x2 x3 x4 x5 x6 x7 x8 x9 x10 x11
  have RI2 := Lib.hid (RI.out.below BOQ.out)
  have hzq : wo.heap.size < wq.heap.size := BR.out.size
  have r0 : wq.cell? ⟨wo.heap.size, 0, none⟩ = some (.int .i64 p.r.kind) := BR.out.cell 0
  have r1 : wq.cell? ⟨wo.heap.size, 1, none⟩ = some (.int .i64 p.r.cart) := BR.out.cell 1
  have r2 : wq.cell? ⟨wo.heap.size, 2, none⟩ = some (strV p.r.key) := BR.out.cell 2
  have r3 : wq.cell? ⟨wo.heap.size, 3, none⟩ = some (.int .i64 p.r.gen) := BR.out.cell 3
  have r4 : wq.cell? ⟨wo.heap.size, 4, none⟩ = some (.int .i64 p.r.group) := BR.out.cell 4
  have r5 : wq.cell? ⟨wo.heap.size, 5, none⟩ = some (.int .i64 p.r.groups) := BR.out.cell 5
  have r6 : wq.cell? ⟨wo.heap.size, 6, none⟩ = some (.int .i64 p.r.index) := BR.out.cell 6
  have r7 : wq.cell? ⟨wo.heap.size, 7, none⟩ = some (.int .i64 p.r.size) := BR.out.cell 7
  have r8 : wq.cell? ⟨wo.heap.size, 8, none⟩ = some (strV p.r.sum) := BR.out.cell 8
  have r9 : wq.cell? ⟨wo.heap.size, 9, none⟩ = some (.slice p.A p.r.data.length p.c) := BR.out.cell 9
  go_upto_if 29 with fail
  go_cut [5] from 29 to 31 (fun v wx => v = .int .i64 (mostV (L.take (i + 1))) ∧ Below wq.heap.size wq wx)
  case first =>
    by_cases hgm : ms < p.r.gen
    · have f1 : decide (ms < p.r.gen) = true := decide_eq_true hgm
      have V := Lib.hid (show mostV (L.take (i + 1)) = p.r.gen by rw [MT.out]; omega)
      go_wp2_with fail
      all_goals first | (exfalso; omega) | (go_meet; exact ⟨by rw [V.out], Below.refl _ _⟩)
    · have f1 : decide (ms < p.r.gen) = false := decide_eq_false hgm
      have V := Lib.hid (show mostV (L.take (i + 1)) = ms by rw [MT.out]; omega)
      go_wp2_with fail
      all_goals first | (exfalso; omega) | (go_meet; exact ⟨by rw [V.out], Below.refl _ _⟩)
  obtain ⟨rfl, hbc⟩ := hcut
  obtain ⟨wc2, rfl⟩ : ∃ wx : World, wx = wc := ⟨_, rfl⟩
  have RI3 := Lib.hid (RI2.out.below hbc)
  have BR3 := Lib.hid (BR.out.below hbc hzq)
  have hzc := hbc.size
  have hzq3 : wo.heap.size < wc2.heap.size := BR3.out.size
  have r0 := keepc hbc hzq r0
  have r1 := keepc hbc hzq r1
  have r2 := keepc hbc hzq r2
  have r3 := keepc hbc hzq r3
  have r4 := keepc hbc hzq r4
  have r5 := keepc hbc hzq r5
  have r6 := keepc hbc hzq r6
  have r7 := keepc hbc hzq r7
  have r8 := keepc hbc hzq r8
  have r9 := keepc hbc hzq r9
  clear hbc
  obtain ⟨m2, hm2⟩ : ∃ z, mostV (L.take (i + 1)) = z := ⟨_, rfl⟩
  have HM2 := Lib.hid hm2
  rw [hm2]
  clear hm2 MT
  have S3 := Lib.hid (src_below S1.out RI3.out.base)
  have STK := Lib.hid (show SrcAt wc2 (some ⟨bL, oL, none⟩) i (foundVals (L.take i)) by have h := src_take (P := L) (k := i) (by rw [HLN.out]; omega) (by rw [HLN.out]; exact S3.out); rw [List.length_take, HLN.out, Nat.min_eq_left hi] at h; exact h)
  have TD := Lib.hid (show ∀ W, Below wc2.heap.size wc2 W → Calls Try.prog 27 #[.slice (some ⟨bL, oL, none⟩) i cB, .agg #[.int .i64 p.r.kind, .int .i64 p.r.cart, strV p.r.key, .int .i64 p.r.gen, .int .i64 p.r.group, .int .i64 p.r.groups, .int .i64 p.r.index, .int .i64 p.r.size, strV p.r.sum, .slice p.A p.r.data.length p.c]] W fun e w' => e = .returned (.bool ((L.take i).any (toldB p.r))) ∧ Below W.heap.size W w' from fun W hW => sTold10 (some ⟨bL, oL, none⟩) i cB (L.take i) p.r p.A p.c W (by rw [List.length_take, HLN.out]; omega) (by omega) (by omega) (src_below STK.out hW))
  go_upto_region 10 with fail
  go_cut [41] from 32 to 40 (fun v wx => v = .bool (!decide (p.r.kind = 2) || (L.take i).any (toldB p.r)) ∧ Below wc2.heap.size wc2 wx)
  case first =>
    have ei1 : (i : Int) ≤ (ln : Int) := by omega
    have ei2 : (ln : Int) ≤ (cB : Int) := by omega
    have ei3 : (i : Int) ≤ (cB : Int) := by omega
    have ei4 : i ≤ cB := by omega
    by_cases hk2 : p.r.kind = 2
    · have q0 : (p.r.kind != 2) = false := by simpa using hk2
      have V := Lib.hid (show (!decide (p.r.kind = 2) || (L.take i).any (toldB p.r)) = (L.take i).any (toldB p.r) by simp [hk2])
      clear hk2
      refine wp_region_held_drew (S := (fun w' => w'.cell? ⟨wo.heap.size, 0, none⟩ = some (.int .i64 p.r.kind) ∧ w'.cell? ⟨wo.heap.size, 1, none⟩ = some (.int .i64 p.r.cart) ∧ w'.cell? ⟨wo.heap.size, 2, none⟩ = some (strV p.r.key) ∧ w'.cell? ⟨wo.heap.size, 3, none⟩ = some (.int .i64 p.r.gen) ∧ w'.cell? ⟨wo.heap.size, 4, none⟩ = some (.int .i64 p.r.group) ∧ w'.cell? ⟨wo.heap.size, 5, none⟩ = some (.int .i64 p.r.groups) ∧ w'.cell? ⟨wo.heap.size, 6, none⟩ = some (.int .i64 p.r.index) ∧ w'.cell? ⟨wo.heap.size, 7, none⟩ = some (.int .i64 p.r.size) ∧ w'.cell? ⟨wo.heap.size, 8, none⟩ = some (strV p.r.sum) ∧ w'.cell? ⟨wo.heap.size, 9, none⟩ = some (.slice p.A p.r.data.length p.c))) (by kernel_rfl) ⟨r0, r1, r2, r3, r4, r5, r6, r7, r8, r9⟩ (fun hHeld => ?_)
      refine wpAnyH_take (i := 0) (v := ?vB10an10) (take_list rfl) (by kernel_rfl) (by kernel_rfl) (by kernel_rfl) (fun _ _ _ h => h) (Or.inl ⟨by rfl, ?hyB10an10⟩) (by assumption) ?restB10an10
      case hyB10an10 => (intro w hSw; (try dsimp only at hSw); go_simp <;> with_reducible rfl)
      try simp only [Act.put, List.setIfInBounds_toArray, List.set_cons_zero, List.set_cons_succ]
      refine wpAnyH_take (i := 1) (v := ?vB10an11) (take_list rfl) (by kernel_rfl) (by kernel_rfl) (by kernel_rfl) (fun _ _ _ h => h) (Or.inl ⟨by rfl, ?hyB10an11⟩) (by assumption) ?restB10an11
      case hyB10an11 => (intro w hSw; (try dsimp only at hSw); go_simp <;> with_reducible rfl)
      try simp only [Act.put, List.setIfInBounds_toArray, List.set_cons_zero, List.set_cons_succ]
      refine wpAnyH_take (i := 2) (v := ?vB10an12) (take_list rfl) (by kernel_rfl) (by kernel_rfl) (by kernel_rfl) (fun _ _ _ h => h) (Or.inl ⟨by rfl, ?hyB10an12⟩) (by assumption) ?restB10an12
      case hyB10an12 => (intro w hSw; (try dsimp only at hSw); go_simp <;> with_reducible rfl)
      try simp only [Act.put, List.setIfInBounds_toArray, List.set_cons_zero, List.set_cons_succ]
      refine wpAnyH_take (i := 3) (v := ?vB10an13) (take_list rfl) (by kernel_rfl) (by kernel_rfl) (by kernel_rfl) (fun _ _ _ h => h) (Or.inl ⟨by rfl, ?hyB10an13⟩) (by assumption) ?restB10an13
      case hyB10an13 => (intro w hSw; (try dsimp only at hSw); go_simp <;> with_reducible rfl)
      try simp only [Act.put, List.setIfInBounds_toArray, List.set_cons_zero, List.set_cons_succ]
      refine wpAnyH_take (i := 4) (v := ?vB10an14) (take_list rfl) (by kernel_rfl) (by kernel_rfl) (by kernel_rfl) (fun _ _ _ h => h) (Or.inl ⟨by rfl, ?hyB10an14⟩) (by assumption) ?restB10an14
      case hyB10an14 => (intro w hSw; (try dsimp only at hSw); go_simp <;> with_reducible rfl)
      try simp only [Act.put, List.setIfInBounds_toArray, List.set_cons_zero, List.set_cons_succ]
      refine wpAnyH_take (i := 5) (v := ?vB10an15) (take_list rfl) (by kernel_rfl) (by kernel_rfl) (by kernel_rfl) (fun _ _ _ h => h) (Or.inl ⟨by rfl, ?hyB10an15⟩) (by assumption) ?restB10an15
      case hyB10an15 => (intro w hSw; (try dsimp only at hSw); go_simp <;> with_reducible rfl)
      try simp only [Act.put, List.setIfInBounds_toArray, List.set_cons_zero, List.set_cons_succ]
      refine wpAnyH_take (i := 6) (v := ?vB10an16) (take_list rfl) (by kernel_rfl) (by kernel_rfl) (by kernel_rfl) (fun _ _ _ h => h) (Or.inl ⟨by rfl, ?hyB10an16⟩) (by assumption) ?restB10an16
      case hyB10an16 => (intro w hSw; (try dsimp only at hSw); go_simp <;> with_reducible rfl)
      try simp only [Act.put, List.setIfInBounds_toArray, List.set_cons_zero, List.set_cons_succ]
      refine wpAnyH_take (i := 7) (v := ?vB10an17) (take_list rfl) (by kernel_rfl) (by kernel_rfl) (by kernel_rfl) (fun _ _ _ h => h) (Or.inl ⟨by rfl, ?hyB10an17⟩) (by assumption) ?restB10an17
      case hyB10an17 => (intro w hSw; (try dsimp only at hSw); go_simp <;> with_reducible rfl)
      try simp only [Act.put, List.setIfInBounds_toArray, List.set_cons_zero, List.set_cons_succ]
      refine wpAnyH_ready (rs := [8]) (by kernel_rfl) (by simp) ?_
      refine AllReadyH.cons rfl (fun K hK => ?_) AllReadyH.nil
      go_simp
      go_wp2_with (go_at_call 27; refine (TD.out _ (below_drewed _ _)).mono ?_; rintro e w9 ⟨rfl, hb⟩; have BW := Lib.hid (show Below wc2.heap.size wc2 w9 from below_of_drew hb); clear hb)
      clear hHeld
      refine hK.out _ _ ⟨(have h := keepc BW.out hzq3 r0; h), (have h := keepc BW.out hzq3 r1; h), (have h := keepc BW.out hzq3 r2; h), (have h := keepc BW.out hzq3 r3; h), (have h := keepc BW.out hzq3 r4; h), (have h := keepc BW.out hzq3 r5; h), (have h := keepc BW.out hzq3 r6; h), (have h := keepc BW.out hzq3 r7; h), (have h := keepc BW.out hzq3 r8; h), (have h := keepc BW.out hzq3 r9; h)⟩ (fun hHeld => ?_)
      clear hK K
      refine wpAnyH_take (i := 9) (v := ?vB10an19) (take_list rfl) (by kernel_rfl) (by kernel_rfl) (by kernel_rfl) (fun _ _ _ h => h) (Or.inl ⟨by rfl, ?hyB10an19⟩) (by assumption) ?restB10an19
      case hyB10an19 => (intro w hSw; (try dsimp only at hSw); go_simp <;> with_reducible rfl)
      try simp only [Act.put, List.setIfInBounds_toArray, List.set_cons_zero, List.set_cons_succ]
      refine wpAnyH_done (by kernel_rfl) ?_ _
      go_wp2_with fail
      go_meet
      exact ⟨by rw [V.out], by first | exact BW.out | exact BW.out.drew⟩
    · have q0 : (p.r.kind != 2) = true := by simpa using hk2
      have V := Lib.hid (show (!decide (p.r.kind = 2) || (L.take i).any (toldB p.r)) = true by simp [hk2])
      clear hk2
      refine wp_region_held_drew (S := (fun w' => w'.cell? ⟨wo.heap.size, 0, none⟩ = some (.int .i64 p.r.kind) ∧ w'.cell? ⟨wo.heap.size, 1, none⟩ = some (.int .i64 p.r.cart) ∧ w'.cell? ⟨wo.heap.size, 2, none⟩ = some (strV p.r.key) ∧ w'.cell? ⟨wo.heap.size, 3, none⟩ = some (.int .i64 p.r.gen) ∧ w'.cell? ⟨wo.heap.size, 4, none⟩ = some (.int .i64 p.r.group) ∧ w'.cell? ⟨wo.heap.size, 5, none⟩ = some (.int .i64 p.r.groups) ∧ w'.cell? ⟨wo.heap.size, 6, none⟩ = some (.int .i64 p.r.index) ∧ w'.cell? ⟨wo.heap.size, 7, none⟩ = some (.int .i64 p.r.size) ∧ w'.cell? ⟨wo.heap.size, 8, none⟩ = some (strV p.r.sum) ∧ w'.cell? ⟨wo.heap.size, 9, none⟩ = some (.slice p.A p.r.data.length p.c))) (by kernel_rfl) ⟨r0, r1, r2, r3, r4, r5, r6, r7, r8, r9⟩ (fun hHeld => ?_)
      refine wpAnyH_take (i := 0) (v := ?vB10bn20) (take_list rfl) (by kernel_rfl) (by kernel_rfl) (by kernel_rfl) (fun _ _ _ h => h) (Or.inl ⟨by rfl, ?hyB10bn20⟩) (by assumption) ?restB10bn20
      case hyB10bn20 => (intro w hSw; (try dsimp only at hSw); go_simp <;> with_reducible rfl)
      try simp only [Act.put, List.setIfInBounds_toArray, List.set_cons_zero, List.set_cons_succ]
      refine wpAnyH_take (i := 1) (v := ?vB10bn21) (take_list rfl) (by kernel_rfl) (by kernel_rfl) (by kernel_rfl) (fun _ _ _ h => h) (Or.inl ⟨by rfl, ?hyB10bn21⟩) (by assumption) ?restB10bn21
      case hyB10bn21 => (intro w hSw; (try dsimp only at hSw); go_simp <;> with_reducible rfl)
      try simp only [Act.put, List.setIfInBounds_toArray, List.set_cons_zero, List.set_cons_succ]
      refine wpAnyH_take (i := 2) (v := ?vB10bn22) (take_list rfl) (by kernel_rfl) (by kernel_rfl) (by kernel_rfl) (fun _ _ _ h => h) (Or.inl ⟨by rfl, ?hyB10bn22⟩) (by assumption) ?restB10bn22
      case hyB10bn22 => (intro w hSw; (try dsimp only at hSw); go_simp <;> with_reducible rfl)
      try simp only [Act.put, List.setIfInBounds_toArray, List.set_cons_zero, List.set_cons_succ]
      refine wpAnyH_take (i := 3) (v := ?vB10bn23) (take_list rfl) (by kernel_rfl) (by kernel_rfl) (by kernel_rfl) (fun _ _ _ h => h) (Or.inl ⟨by rfl, ?hyB10bn23⟩) (by assumption) ?restB10bn23
      case hyB10bn23 => (intro w hSw; (try dsimp only at hSw); go_simp <;> with_reducible rfl)
      try simp only [Act.put, List.setIfInBounds_toArray, List.set_cons_zero, List.set_cons_succ]
      refine wpAnyH_take (i := 4) (v := undef) (take_list rfl) (by kernel_rfl) (by kernel_rfl) (by kernel_rfl) (fun _ _ _ h => h) (Or.inr ⟨by rfl, rfl⟩) (by assumption) ?_
      try simp only [Act.put, List.setIfInBounds_toArray, List.set_cons_zero, List.set_cons_succ]
      refine wpAnyH_take (i := 5) (v := undef) (take_list rfl) (by kernel_rfl) (by kernel_rfl) (by kernel_rfl) (fun _ _ _ h => h) (Or.inr ⟨by rfl, rfl⟩) (by assumption) ?_
      try simp only [Act.put, List.setIfInBounds_toArray, List.set_cons_zero, List.set_cons_succ]
      refine wpAnyH_take (i := 6) (v := undef) (take_list rfl) (by kernel_rfl) (by kernel_rfl) (by kernel_rfl) (fun _ _ _ h => h) (Or.inr ⟨by rfl, rfl⟩) (by assumption) ?_
      try simp only [Act.put, List.setIfInBounds_toArray, List.set_cons_zero, List.set_cons_succ]
      refine wpAnyH_take (i := 7) (v := undef) (take_list rfl) (by kernel_rfl) (by kernel_rfl) (by kernel_rfl) (fun _ _ _ h => h) (Or.inr ⟨by rfl, rfl⟩) (by assumption) ?_
      try simp only [Act.put, List.setIfInBounds_toArray, List.set_cons_zero, List.set_cons_succ]
      refine wpAnyH_take (i := 8) (v := undef) (take_list rfl) (by kernel_rfl) (by kernel_rfl) (by kernel_rfl) (fun _ _ _ h => h) (Or.inr ⟨by rfl, rfl⟩) (by assumption) ?_
      try simp only [Act.put, List.setIfInBounds_toArray, List.set_cons_zero, List.set_cons_succ]
      refine wpAnyH_take (i := 9) (v := ?vB10bn29) (take_list rfl) (by kernel_rfl) (by kernel_rfl) (by kernel_rfl) (fun _ _ _ h => h) (Or.inl ⟨by rfl, ?hyB10bn29⟩) (by assumption) ?restB10bn29
      case hyB10bn29 => (intro w hSw; (try dsimp only at hSw); go_simp <;> with_reducible rfl)
      try simp only [Act.put, List.setIfInBounds_toArray, List.set_cons_zero, List.set_cons_succ]
      refine wpAnyH_done (by kernel_rfl) ?_ _
      go_wp2_with fail
      go_meet
      exact ⟨by rw [V.out], below_drewed _ _⟩
  obtain ⟨rfl, hbc⟩ := hcut
  obtain ⟨wd, rfl⟩ : ∃ wx : World, wx = wc := ⟨_, rfl⟩
  have RI4 := Lib.hid (RI3.out.below hbc)
  have hzd := hbc.size
  have r0 := keepc hbc hzq3 r0
  have r1 := keepc hbc hzq3 r1
  have r2 := keepc hbc hzq3 r2
  have r3 := keepc hbc hzq3 r3
  have r4 := keepc hbc hzq3 r4
  have r5 := keepc hbc hzq3 r5
  have r6 := keepc hbc hzq3 r6
  have r7 := keepc hbc hzq3 r7
  have r8 := keepc hbc hzq3 r8
  have r9 := keepc hbc hzq3 r9
  have hzqd : wo.heap.size < wd.heap.size := by omega
  have S4 := Lib.hid (src_below S3.out hbc)
  clear hbc TD STK S3
  cases hst : (!decide (p.r.kind = 2) || (L.take i).any (toldB p.r)) with
  | true =>
    have RN := Lib.hid (show RefI w1 L (i + 1) m rs M g k wd from RI4.out.to (RI4.out.best.pass HPI.out (fun hk => (told_copy HOK.out HPI.out hk).1 (by rw [hk] at hst; simpa using hst))) (by omega))
    clear hst
    go_wp2_with fail
    go_roundw
    case rel => exact ⟨i + 1, m, g, k, rs, M, rfl, by rw [HM2.out], rfl, hlt, RN.out⟩
    case measure => (simp only [intOf]; omega)
  | false =>
    have hk2 : p.r.kind = 2 := by simp only [Bool.or_eq_false_iff, Bool.not_eq_false', decide_eq_true_eq] at hst; exact hst.1
    have HK2 := Lib.hid hk2
    have HCP := Lib.hid (show isCopy L (ofR p.r) from ⟨p, HPM.out, hk2, rfl⟩)
    clear hst hk2
    obtain ⟨q, hq, hq1, hq4, hqg, hqs⟩ := copy_facts HOK.out HCP.out
    obtain ⟨b, hb⟩ : ∃ b, ofR p.r = b := ⟨_, rfl⟩
    have HB := Lib.hid hb
    have HQ := Lib.hid hq
    have EN := Lib.hid (show Calls Try.prog 28 #[.slice (some ⟨bL, oL, none⟩) ln cB, .agg #[.int .i64 p.r.kind, .int .i64 p.r.cart, strV p.r.key, .int .i64 p.r.gen, .int .i64 p.r.group, .int .i64 p.r.groups, .int .i64 p.r.index, .int .i64 p.r.size, strV p.r.sum, .slice p.A p.r.data.length p.c]] wd fun e w' => ∃ V, e = .returned (.agg #[strV p.r.key, .int .i64 p.r.gen, .int .i64 p.r.size, strV p.r.sum, V]) ∧ w'.ownsRow wd.heap.size 34 2 V (q * 10) (placeVals (placesOf L (ofR p.r))) ∧ Below wd.heap.size wd w' from sEntry10 (some ⟨bL, oL, none⟩) ln cB L p.r p.A p.c q wd HLN.out (by omega) (by omega) (by omega) S4.out HOK.out hqg hq4 hqs)
    clear hqg hqs hb hq
    go_upto_region 12 with (go_at_call 28; (refine (EN.out).mono ?_; rintro e we ⟨V, rfl, hrow, hb⟩; obtain ⟨BV, kp, rfl, hkp, hkm, hkn, _, hks⟩ := own_srcv hrow (fun h => by omega); obtain ⟨gp, rfl, hgp0, hgp1⟩ : ∃ g, BV = some ⟨g, 0, none⟩ ∧ wd.heap.size ≤ g ∧ g < we.heap.size := (by rcases hks with h | h; exact absurd (hkn h) (by omega); exact h); have OWE := Lib.hid hrow; have BE := Lib.hid hb; clear hrow hb hkn hks))
    clear EN
    have hze : wd.heap.size ≤ we.heap.size := BE.out.size
    have RI5 := Lib.hid (RI4.out.below BE.out)
    obtain ⟨wf, hwf⟩ : ∃ z, we.alloc (.cells #[strV p.r.key, .int .i64 p.r.gen, .int .i64 p.r.size, strV p.r.sum, .slice (some ⟨gp, 0, none⟩) (q * 10) kp] 32) = z := ⟨_, rfl⟩
    have BX := Lib.hid (show Blk wf we.heap.size 32 #[strV p.r.key, .int .i64 p.r.gen, .int .i64 p.r.size, strV p.r.sum, .slice (some ⟨gp, 0, none⟩) (q * 10) kp] by rw [← hwf]; exact Blk.made _ _ _)
    have BF := Lib.hid (show Below we.heap.size we wf by rw [← hwf]; exact below_al7 _ _)
    rw [hwf]
    clear hwf
    have hzf : we.heap.size < wf.heap.size := BX.out.size
    have RI6 := Lib.hid (RI5.out.below BF.out)
    have PLE := Lib.hid (show PlcAt wf gp (placesOf L (ofR p.r)) from (plc_own OWE.out).below BF.out)
    have S6 := Lib.hid (src_below (src_below S4.out BE.out) BF.out)
    have hgrow : g < wd.heap.size := (RI4.out.row.lt g rfl).2
    have hnep : g ≠ gp := by omega
    have y0 : wf.cell? ⟨we.heap.size, 0, none⟩ = some (strV p.r.key) := BX.out.cell 0
    have y1 : wf.cell? ⟨we.heap.size, 1, none⟩ = some (.int .i64 p.r.gen) := BX.out.cell 1
    have y2 : wf.cell? ⟨we.heap.size, 2, none⟩ = some (.int .i64 p.r.size) := BX.out.cell 2
    have y3 : wf.cell? ⟨we.heap.size, 3, none⟩ = some (strV p.r.sum) := BX.out.cell 3
    have y4 : wf.cell? ⟨we.heap.size, 4, none⟩ = some (.slice (some ⟨gp, 0, none⟩) (q * 10) kp) := BX.out.cell 4
    clear r0 r1 r2 r3 r4 r5 r6 r7 r8 r9
    obtain ⟨ls, hls⟩ : ∃ z, leastOf L (ofR p.r) = z := ⟨_, rfl⟩
    have HLS := Lib.hid hls
    obtain ⟨dd, hdd⟩ : ∃ z, deadV L (ofR p.r) = z := ⟨_, rfl⟩
    have HDD := Lib.hid hdd
    have hpl : (placesOf L (ofR p.r)).length = q * 10 := by rw [places_len]; exact HQ.out
    have HPLN := Lib.hid hpl
    have PO := Lib.hid (show ∀ W, Below wf.heap.size wf W → Calls Try.prog 29 #[.agg #[strV p.r.key, .int .i64 p.r.gen, .int .i64 p.r.size, strV p.r.sum, .slice (some ⟨gp, 0, none⟩) (q * 10) kp]] W fun e w' => e = .returned (.int .i64 ls) ∧ Below W.heap.size W w' from fun W hW => by have h := sPoorest10 (ofR p.r) gp (q * 10) kp q (placesOf L (ofR p.r)) W HPLN.out rfl (by omega) (PLE.out.below hW); rw [show poorV (placesOf L (ofR p.r)) = ls from HLS.out] at h; exact h)
    have DE := Lib.hid (show ∀ W, Below wf.heap.size wf W → Calls Try.prog 30 #[.slice (some ⟨bL, oL, none⟩) ln cB, .agg #[strV p.r.key, .int .i64 p.r.gen, .int .i64 p.r.size, strV p.r.sum, .slice (some ⟨gp, 0, none⟩) (q * 10) kp]] W fun e w' => e = .returned (.bool dd) ∧ Below W.heap.size W w' from fun W hW => by have h := sDead10 (some ⟨bL, oL, none⟩) ln cB L p.r.key p.r.gen p.r.size p.r.sum (.slice (some ⟨gp, 0, none⟩) (q * 10) kp) W HLN.out (by omega) (by omega) (src_below S6.out hW); rw [show L.any (deadB p.r.key p.r.gen) = dd from (dead_any HOK.out (ofR p.r)).trans HDD.out] at h; exact h)
    clear hls hdd hpl
    go_cut [52] from 45 to 51 (fun v wx => v = .bool (decide (ls < 8) || dd) ∧ Below wf.heap.size wf wx)
    case first =>
      by_cases hl8 : ls < 8
      · have f1 : decide (ls < 8) = true := decide_eq_true hl8
        have V := Lib.hid (show (decide (ls < 8) || dd) = true by simp [hl8])
        clear hl8
        go_wp2_with (go_at_call 29; refine (PO.out _ (Below.refl _ _)).mono ?_; rintro e w9 ⟨rfl, hb⟩; have BW := Lib.hid hb; clear hb)
        go_meet
        exact ⟨by rw [V.out], BW.out⟩
      · have f1 : decide (ls < 8) = false := decide_eq_false hl8
        have V := Lib.hid (show (decide (ls < 8) || dd) = dd by simp [hl8])
        clear hl8
        go_wp2_with (first
          | (go_at_call 29; refine (PO.out _ (Below.refl _ _)).mono ?_; rintro e w9 ⟨rfl, hb⟩; have BW := Lib.hid hb; have yy := keepc hb hzf y0; have yy1 := keepc hb hzf y1; have yy2 := keepc hb hzf y2; have yy3 := keepc hb hzf y3; have yy4 := keepc hb hzf y4; clear hb)
          | (go_at_call 30; refine (DE.out _ BW.out).mono ?_; rintro e w9 ⟨rfl, hb⟩; have BW := Lib.hid (BW.out.trans (hb.mono BW.out.size)); clear hb))
        go_meet
        exact ⟨by rw [V.out], BW.out⟩
    obtain ⟨rfl, hbc⟩ := hcut
    obtain ⟨wg, rfl⟩ : ∃ wx : World, wx = wc := ⟨_, rfl⟩
    have RI7 := Lib.hid (RI6.out.below hbc)
    have hzg := hbc.size
    have PL7 := Lib.hid (PLE.out.below hbc)
    have BX7 := Lib.hid (BX.out.below hbc hzf)
    clear hbc PO DE
    have y0 : wg.cell? ⟨we.heap.size, 0, none⟩ = some (strV p.r.key) := BX7.out.cell 0
    have y1 : wg.cell? ⟨we.heap.size, 1, none⟩ = some (.int .i64 p.r.gen) := BX7.out.cell 1
    have y2 : wg.cell? ⟨we.heap.size, 2, none⟩ = some (.int .i64 p.r.size) := BX7.out.cell 2
    have y3 : wg.cell? ⟨we.heap.size, 3, none⟩ = some (strV p.r.sum) := BX7.out.cell 3
    have y4 : wg.cell? ⟨we.heap.size, 4, none⟩ = some (.slice (some ⟨gp, 0, none⟩) (q * 10) kp) := BX7.out.cell 4
    have hxg : we.heap.size < wg.heap.size := BX7.out.size
    have NQ := Lib.hid (show QualV L (ofR p.r) ↔ (decide (ls < 8) || dd) = false by unfold QualV; rw [HLS.out, HDD.out]; simp only [Bool.or_eq_false_iff, decide_eq_false_iff_not]; exact ⟨fun h => ⟨by omega, h.2.2⟩, fun h => ⟨HCP.out, by omega, h.2⟩⟩)
    cases hqv : (decide (ls < 8) || dd) with
    | true =>
      have RN := Lib.hid (show RefI w1 L (i + 1) m rs (M ++ [⟨ofR p.r, 0⟩]) g k wg from RI7.out.to (RI7.out.best.skip HPI.out rfl (fun h => by have := NQ.out.1 h; rw [hqv] at this; cases this)) (by omega))
      clear hqv
      go_wp2_with fail
      go_roundw
      case rel => exact ⟨i + 1, m, g, k, rs, _, rfl, by rw [HM2.out], rfl, hlt, RN.out⟩
      case measure => (simp only [intOf]; omega)
    | false =>
      have QV := Lib.hid (NQ.out.2 hqv)
      clear hqv NQ
      have HRL := Lib.hid RI7.out.len
      go_wp2_with fail
      go_loopw [10] (fun av wr => ∃ a : Nat, av = .int .i64 (a : Int) ∧ a ≤ m ∧ (∀ (j : Nat) x, j < a → rs[j]? = some x → x.1.b.key < p.r.key) ∧ Below wg.heap.size wg wr) (fun av _ => m - (intOf av).toNat)
      case atStart => exact ⟨0, rfl, Nat.zero_le _, (fun j x hj => absurd hj (Nat.not_lt_zero _)), Below.refl _ _⟩
      obtain ⟨a, rfl, ha, hlo, hba⟩ := hrel
      obtain ⟨wh, rfl⟩ : ∃ wx : World, wx = wr := ⟨_, rfl⟩
      have HLO := Lib.hid hlo
      have BA := Lib.hid hba
      have RI8 := Lib.hid (RI7.out.below hba)
      have BX8 := Lib.hid (BX7.out.below hba hxg)
      have hza := hba.size
      clear hlo hba
      have y0 : wh.cell? ⟨we.heap.size, 0, none⟩ = some (strV p.r.key) := BX8.out.cell 0
      have y1 : wh.cell? ⟨we.heap.size, 1, none⟩ = some (.int .i64 p.r.gen) := BX8.out.cell 1
      have y2 : wh.cell? ⟨we.heap.size, 2, none⟩ = some (.int .i64 p.r.size) := BX8.out.cell 2
      have y3 : wh.cell? ⟨we.heap.size, 3, none⟩ = some (strV p.r.sum) := BX8.out.cell 3
      have y4 : wh.cell? ⟨we.heap.size, 4, none⟩ = some (.slice (some ⟨gp, 0, none⟩) (q * 10) kp) := BX8.out.cell 4
      have pa : IntKind.i64.wrap ((a : Int) + 1) = ((a + 1 : Nat) : Int) := by rw [IntWalk.i64_in _ (by omega)]; omega
      by_cases ham : a < m
      case neg =>
        have f1 : decide (a < m) = false := decide_eq_false ham
        have f2 : decide ((a : Int) < (m : Int)) = false := decide_eq_false (by omega)
        have HHI := Lib.hid (show ∀ x, (rs.map Prod.fst)[a]? = some x → (ofR p.r).key < x.b.key from fun x hx => by rw [List.getElem?_eq_none (by rw [List.length_map, HRL.out]; omega)] at hx; cases hx)
        go_upto_region 14 with fail
        go_quiet (fail)
        go_upto_region 16 with fail
        go_quiet (fail)
        generalize hwi : World.drewN (World.drewN wh _) _ = wi
        have BI := Lib.hid (show Below wh.heap.size wh wi from hwi ▸ below_drewN (below_drewN (Below.refl _ _) _) _)
        clear hwi
        have hzi := BI.out.size
        have RI9 := Lib.hid (RI8.out.below BI.out)
        have BX9 := Lib.hid (BX8.out.below BI.out BX8.out.size)
        have PL9 := Lib.hid (show PlcAt wi gp (placesOf L (ofR p.r)) from (PL7.out.below BA.out).below BI.out)
        have y0 : wi.cell? ⟨we.heap.size, 0, none⟩ = some (strV p.r.key) := BX9.out.cell 0
        have y1 : wi.cell? ⟨we.heap.size, 1, none⟩ = some (.int .i64 p.r.gen) := BX9.out.cell 1
        have y2 : wi.cell? ⟨we.heap.size, 2, none⟩ = some (.int .i64 p.r.size) := BX9.out.cell 2
        have y3 : wi.cell? ⟨we.heap.size, 3, none⟩ = some (strV p.r.sum) := BX9.out.cell 3
        have y4 : wi.cell? ⟨we.heap.size, 4, none⟩ = some (.slice (some ⟨gp, 0, none⟩) (q * 10) kp) := BX9.out.cell 4
        have hxi : we.heap.size < wi.heap.size := BX9.out.size
        have hgi : g < wi.heap.size := (RI9.out.row.lt g rfl).2
        have hmk : m ≤ k := (own_cap RI9.out.row).1
        have hkm2 : k ≤ maxLen := (own_cap RI9.out.row).2
        have i1 : (a : Int) ≤ (m : Int) := by omega
        have i2 : (m : Int) ≤ (k : Int) := by omega
        have i3 : (a : Int) ≤ (k : Int) := by omega
        have i4 : (0 : Int) ≤ (a : Int) := by omega
        have i5 : a ≤ k := by omega
        by_cases hka : k = a
        case pos =>
          obtain rfl : a = k := hka.symm
          have SRT := Lib.hid (show ∀ W, Below wi.heap.size wi W → SrcAt W (some ⟨g, 0, none⟩) a (refVals (rs.take a)) from fun W hW => .inr ⟨g, 0, rfl, fun j u hu => by rw [Nat.zero_add]; exact keepc hW hgi (own_cell RI9.out.row (ref_take hu))⟩)
          have SRD := Lib.hid (show ∀ W, Below wi.heap.size wi W → SrcAt W (some ⟨g, 0, none⟩) (0) (refVals (rs.drop a)) from fun W hW => by
            refine .inl ⟨rfl, ?_⟩
            rw [List.drop_of_length_le (by rw [HRL.out]; omega)]
            rfl)
          go_upto_region 20 with (
            (at_builtin
             refine wpList_append_src _ rfl (.tmp 93) (.tmp 96) 24 rfl wi.heap.size 32 ie _ 5 72 Try.underlying24 hie hze0 hze1 hze2 rfl (by omega) _ 0 [] rfl (by exact own_made wi _ 5 rfl (Nat.le_refl _)) (some ⟨g, 0, none⟩) a a (refVals (rs.take a)) rfl (by rw [refVals_len, List.length_take, HRL.out]; omega) (fun e => by cases e) (by exact SRT.out _ (below_al7 wi _)) (refVals_one _) (by simp only [maxLen]; omega) (by omega) (by simp) ?_
             intro va wa hown hgr hat
             rw [Nat.zero_add, List.nil_append] at hown
             have OA := Lib.hid hown
             have BAA := Lib.hid (show Below wi.heap.size wi wa from (below_al7 wi _).grown hgr (by simp) (fun q hq => Nat.le_of_eq (Option.some.inj hq)))
             clear hown hgr hat))
          have hza2 := BAA.out.size
          obtain ⟨AV, kv, rfl, _, _, _⟩ := own_form OA.out
          have y0 := keepc BAA.out hxi y0
          have y1 := keepc BAA.out hxi y1
          have y2 := keepc BAA.out hxi y2
          have y3 := keepc BAA.out hxi y3
          have y4 := keepc BAA.out hxi y4
          go_upto_region 21 with (
            (at_builtin
             refine wpList_append_src _ rfl (.tmp 98) (.tmp 100) 24 rfl wi.heap.size 32 ie _ 5 72 Try.underlying24 hie hze0 hze1 hze2 rfl (by omega) _ a (refVals (rs.take a)) rfl (by exact OA.out.alloc _) (some ⟨wa.heap.size, 0, none⟩) 1 1 [strV p.r.key, .int .i64 p.r.gen, .int .i64 p.r.size, strV p.r.sum, .slice (some ⟨gp, 0, none⟩) (q * 10) kp] rfl rfl (fun e => by cases e) (by exact src_new _ _ _ _) (by intro u hu; simp only [List.mem_cons, List.not_mem_nil, or_false] at hu; rcases hu with rfl | rfl | rfl | rfl | rfl <;> rfl) (by simp only [maxLen]; omega) (by omega) (by simp; omega) ?_
             intro vb wb hown hgr hat
             have OB := Lib.hid hown
             have BBB := Lib.hid (show Below wi.heap.size wi wb from (BAA.out.alloc hza2 _).grown hgr (by simp; omega) (fun q hq => (OA.out.lt q hq).1))
             clear hown hgr hat))
          have hzb2 := BBB.out.size
          obtain ⟨AU, ku, rfl, _, _, _⟩ := own_form OB.out
          go_wp2_with (
            (at_builtin; (
             refine wpList_append_src _ rfl (.tmp 102) (.tmp 105) 24 rfl wi.heap.size 32 ie _ 5 72 Try.underlying24 hie hze0 hze1 hze2 rfl (by omega) _ (a + 1) (refVals (rs.take a) ++ [strV p.r.key, .int .i64 p.r.gen, .int .i64 p.r.size, strV p.r.sum, .slice (some ⟨gp, 0, none⟩) (q * 10) kp]) rfl (by exact OB.out) (some ⟨g, 0, none⟩) (0) (0) (refVals (rs.drop a)) (by first | rfl | (simp only [Act.eval]; simp; omega) | (simp only [Act.eval]; simp)) (by rw [refVals_len, List.length_drop, HRL.out] <;> omega) (fun e => by cases e) (by exact SRD.out _ BBB.out) (refVals_one _) (by simp only [maxLen]; omega) (by omega) (by exact hzb2) ?_
             intro vc wc hown hgr hat
             rw [show a + 1 + 0 = m + 1 by omega, show refVals (rs.take a) ++ [strV p.r.key, .int .i64 p.r.gen, .int .i64 p.r.size, strV p.r.sum, .slice (some ⟨gp, 0, none⟩) (q * 10) kp] ++ refVals (rs.drop a) = refVals (rs.take a ++ [(⟨ofR p.r, gp⟩, kp)] ++ rs.drop a) from by rw [refVals_app, refVals_app]; unfold refVals refCells; rw [List.flatMap_singleton, HQ.out]; rfl] at hown
             obtain ⟨AC, kc, rfl, _, _, hcn, _, hcs⟩ := own_srcv hown (fun h => by omega)
             obtain ⟨gc, rfl, _, _⟩ : ∃ g, AC = some ⟨g, 0, none⟩ ∧ wi.heap.size ≤ g ∧ g < wc.heap.size := (by rcases hcs with h | h; exact absurd (hcn h) (by omega); exact h)
             have BCC := Lib.hid (show Below wi.heap.size wi wc from BBB.out.grown hgr hzb2 (fun q hq => (OB.out.lt q hq).1))
             have RC := Lib.hid (RI9.out.ins (M' := M ++ [⟨ofR p.r, gp⟩]) BCC.out hown PL9.out ha (by simp only [List.map_append, List.map_take, List.map_drop, List.map_cons, List.map_nil]; exact RI9.out.best.new HPI.out rfl QV.out (fun j y hj hy => by rw [List.getElem?_map] at hy; cases hz : rs[j]? with | none => rw [hz] at hy; cases hy | some z => rw [hz] at hy; have e := Option.some.inj hy; rw [← e]; exact HLO.out j z hj hz) HHI.out))
             clear hown hgr hat hcn hcs)))
          all_goals go_roundw
          all_goals first | exact ⟨i + 1, m + 1, _, _, _, _, rfl, by rw [HM2.out], rfl, hlt, RC.out⟩ | (simp only [intOf]; omega)
        have SRT := Lib.hid (show ∀ W, Below wi.heap.size wi W → SrcAt W (some ⟨g, 0, none⟩) a (refVals (rs.take a)) from fun W hW => .inr ⟨g, 0, rfl, fun j u hu => by rw [Nat.zero_add]; exact keepc hW hgi (own_cell RI9.out.row (ref_take hu))⟩)
        have SRD := Lib.hid (show ∀ W, Below wi.heap.size wi W → SrcAt W (some ⟨g, a * 5, none⟩) (0) (refVals (rs.drop a)) from fun W hW => by
          refine .inl ⟨rfl, ?_⟩
          rw [List.drop_of_length_le (by rw [HRL.out]; omega)]
          rfl)
        go_upto_region 20 with (
          (at_builtin
           refine wpList_append_src _ rfl (.tmp 93) (.tmp 96) 24 rfl wi.heap.size 32 ie _ 5 72 Try.underlying24 hie hze0 hze1 hze2 rfl (by omega) _ 0 [] rfl (by exact own_made wi _ 5 rfl (Nat.le_refl _)) (some ⟨g, 0, none⟩) a k (refVals (rs.take a)) rfl (by rw [refVals_len, List.length_take, HRL.out]; omega) (fun e => by cases e) (by exact SRT.out _ (below_al7 wi _)) (refVals_one _) (by simp only [maxLen]; omega) (by omega) (by simp) ?_
           intro va wa hown hgr hat
           rw [Nat.zero_add, List.nil_append] at hown
           have OA := Lib.hid hown
           have BAA := Lib.hid (show Below wi.heap.size wi wa from (below_al7 wi _).grown hgr (by simp) (fun q hq => Nat.le_of_eq (Option.some.inj hq)))
           clear hown hgr hat))
        have hza2 := BAA.out.size
        obtain ⟨AV, kv, rfl, _, _, _⟩ := own_form OA.out
        have y0 := keepc BAA.out hxi y0
        have y1 := keepc BAA.out hxi y1
        have y2 := keepc BAA.out hxi y2
        have y3 := keepc BAA.out hxi y3
        have y4 := keepc BAA.out hxi y4
        go_upto_region 21 with (
          (at_builtin
           refine wpList_append_src _ rfl (.tmp 98) (.tmp 100) 24 rfl wi.heap.size 32 ie _ 5 72 Try.underlying24 hie hze0 hze1 hze2 rfl (by omega) _ a (refVals (rs.take a)) rfl (by exact OA.out.alloc _) (some ⟨wa.heap.size, 0, none⟩) 1 1 [strV p.r.key, .int .i64 p.r.gen, .int .i64 p.r.size, strV p.r.sum, .slice (some ⟨gp, 0, none⟩) (q * 10) kp] rfl rfl (fun e => by cases e) (by exact src_new _ _ _ _) (by intro u hu; simp only [List.mem_cons, List.not_mem_nil, or_false] at hu; rcases hu with rfl | rfl | rfl | rfl | rfl <;> rfl) (by simp only [maxLen]; omega) (by omega) (by simp; omega) ?_
           intro vb wb hown hgr hat
           have OB := Lib.hid hown
           have BBB := Lib.hid (show Below wi.heap.size wi wb from (BAA.out.alloc hza2 _).grown hgr (by simp; omega) (fun q hq => (OA.out.lt q hq).1))
           clear hown hgr hat))
        have hzb2 := BBB.out.size
        obtain ⟨AU, ku, rfl, _, _, _⟩ := own_form OB.out
        go_wp2_with (
          (at_builtin; (
           refine wpList_append_src _ rfl (.tmp 102) (.tmp 105) 24 rfl wi.heap.size 32 ie _ 5 72 Try.underlying24 hie hze0 hze1 hze2 rfl (by omega) _ (a + 1) (refVals (rs.take a) ++ [strV p.r.key, .int .i64 p.r.gen, .int .i64 p.r.size, strV p.r.sum, .slice (some ⟨gp, 0, none⟩) (q * 10) kp]) rfl (by exact OB.out) (some ⟨g, a * 5, none⟩) (0) (k - a) (refVals (rs.drop a)) (by first | rfl | (simp only [Act.eval]; simp; omega) | (simp only [Act.eval]; simp)) (by rw [refVals_len, List.length_drop, HRL.out] <;> omega) (fun e => by cases e) (by exact SRD.out _ BBB.out) (refVals_one _) (by simp only [maxLen]; omega) (by omega) (by exact hzb2) ?_
           intro vc wc hown hgr hat
           rw [show a + 1 + 0 = m + 1 by omega, show refVals (rs.take a) ++ [strV p.r.key, .int .i64 p.r.gen, .int .i64 p.r.size, strV p.r.sum, .slice (some ⟨gp, 0, none⟩) (q * 10) kp] ++ refVals (rs.drop a) = refVals (rs.take a ++ [(⟨ofR p.r, gp⟩, kp)] ++ rs.drop a) from by rw [refVals_app, refVals_app]; unfold refVals refCells; rw [List.flatMap_singleton, HQ.out]; rfl] at hown
           obtain ⟨AC, kc, rfl, _, _, hcn, _, hcs⟩ := own_srcv hown (fun h => by omega)
           obtain ⟨gc, rfl, _, _⟩ : ∃ g, AC = some ⟨g, 0, none⟩ ∧ wi.heap.size ≤ g ∧ g < wc.heap.size := (by rcases hcs with h | h; exact absurd (hcn h) (by omega); exact h)
           have BCC := Lib.hid (show Below wi.heap.size wi wc from BBB.out.grown hgr hzb2 (fun q hq => (OB.out.lt q hq).1))
           have RC := Lib.hid (RI9.out.ins (M' := M ++ [⟨ofR p.r, gp⟩]) BCC.out hown PL9.out ha (by simp only [List.map_append, List.map_take, List.map_drop, List.map_cons, List.map_nil]; exact RI9.out.best.new HPI.out rfl QV.out (fun j y hj hy => by rw [List.getElem?_map] at hy; cases hz : rs[j]? with | none => rw [hz] at hy; cases hy | some z => rw [hz] at hy; have e := Option.some.inj hy; rw [← e]; exact HLO.out j z hj hz) HHI.out))
           clear hown hgr hat hcn hcs)))
        all_goals go_roundw
        all_goals first | exact ⟨i + 1, m + 1, _, _, _, _, rfl, by rw [HM2.out], rfl, hlt, RC.out⟩ | (simp only [intOf]; omega)
      have f1 : decide (a < m) = true := decide_eq_true ham
      have f2 : decide ((a : Int) < (m : Int)) = true := decide_eq_true (by omega)
      have f3 : (a : Int) < (m : Int) := by omega
      have f4 : (0 : Int) ≤ (a : Int) := by omega
      obtain ⟨x, hx⟩ : ∃ x, rs[a]? = some x := ⟨_, List.getElem?_eq_getElem (by rw [HRL.out]; exact ham)⟩
      have HX := Lib.hid hx
      have z0 : wh.cell? ⟨g, a * 5, none⟩ = some (strV x.1.b.key) := own_cell RI8.out.row (by rw [← Nat.add_zero (a * 5), refVals_get hx (by omega)]; rfl)
      have z1 : wh.cell? ⟨g, a * 5 + 1, none⟩ = some (.int .i64 x.1.b.gen) := own_cell RI8.out.row (by rw [refVals_get hx (by omega)]; rfl)
      have z2 : wh.cell? ⟨g, a * 5 + 2, none⟩ = some (.int .i64 x.1.b.size) := own_cell RI8.out.row (by rw [refVals_get hx (by omega)]; rfl)
      have z3 : wh.cell? ⟨g, a * 5 + 3, none⟩ = some (strV x.1.b.sum) := own_cell RI8.out.row (by rw [refVals_get hx (by omega)]; rfl)
      have z4 : wh.cell? ⟨g, a * 5 + 4, none⟩ = some (.slice (some ⟨x.1.g, 0, none⟩) (slotsB x.1.b) x.2) := own_cell RI8.out.row (by rw [refVals_get hx (by omega)]; rfl)
      clear hx
      by_cases hkl : x.1.b.key < p.r.key
      case pos =>
        have hbl : Op.bytesLess x.1.b.key p.r.key = true := by rw [bytesLess_eq]; simpa using hkl
        have hbl2 : Op.bytesLess (ByteArray.mk x.1.b.key.toArray).toList (ByteArray.mk p.r.key.toArray).toList = true := by rw [ByteArray.toList_mk, ByteArray.toList_mk]; exact hbl
        have HN := Lib.hid (show ∀ (j : Nat) y, j < a + 1 → rs[j]? = some y → y.1.b.key < p.r.key from fun j y hj hy => by rcases Nat.lt_or_eq_of_le (Nat.le_of_lt_succ hj) with h | h; exact HLO.out j y h hy; subst h; rw [HX.out] at hy; injection hy with hy; subst hy; exact hkl)
        clear hkl
        go_upto_region 14 with fail
        go_quiet (fail)
        go_wp2_with fail
        go_roundw
        case rel => exact ⟨a + 1, rfl, by omega, HN.out, below_drewN BA.out _⟩
        case measure => (simp only [intOf]; omega)
      have hbl : Op.bytesLess x.1.b.key p.r.key = false := by rw [bytesLess_eq]; simpa using hkl
      have hbl2 : Op.bytesLess (ByteArray.mk x.1.b.key.toArray).toList (ByteArray.mk p.r.key.toArray).toList = false := by rw [ByteArray.toList_mk, ByteArray.toList_mk]; exact hbl
      go_upto_region 14 with fail
      go_quiet (fail)
      by_cases hke : x.1.b.key = p.r.key
      case neg =>
        have q0 : (x.1.b.key == p.r.key) = false := by simpa using hke
        have q1 : (⟨(x.1.b.key).toArray⟩ : ByteArray) ≠ ⟨(p.r.key).toArray⟩ := fun h => hke (by have h2 := congrArg (fun b => b.data.toList) h; simpa using h2)
        have HHI := Lib.hid (show ∀ y, (rs.map Prod.fst)[a]? = some y → (ofR p.r).key < y.b.key from fun y hy => by rw [List.getElem?_map, HX.out] at hy; have e := Option.some.inj hy; rw [← e]; exact Decidable.byContradiction fun hn => hke (List.le_antisymm (List.not_lt.1 hn) (List.not_lt.1 hkl)))
        clear hkl hke
        go_upto_region 16 with fail
        go_quiet (fail)
        generalize hwi : World.drewN (World.drewN wh _) _ = wi
        have BI := Lib.hid (show Below wh.heap.size wh wi from hwi ▸ below_drewN (below_drewN (Below.refl _ _) _) _)
        clear hwi
        have hzi := BI.out.size
        have RI9 := Lib.hid (RI8.out.below BI.out)
        have BX9 := Lib.hid (BX8.out.below BI.out BX8.out.size)
        have PL9 := Lib.hid (show PlcAt wi gp (placesOf L (ofR p.r)) from (PL7.out.below BA.out).below BI.out)
        have y0 : wi.cell? ⟨we.heap.size, 0, none⟩ = some (strV p.r.key) := BX9.out.cell 0
        have y1 : wi.cell? ⟨we.heap.size, 1, none⟩ = some (.int .i64 p.r.gen) := BX9.out.cell 1
        have y2 : wi.cell? ⟨we.heap.size, 2, none⟩ = some (.int .i64 p.r.size) := BX9.out.cell 2
        have y3 : wi.cell? ⟨we.heap.size, 3, none⟩ = some (strV p.r.sum) := BX9.out.cell 3
        have y4 : wi.cell? ⟨we.heap.size, 4, none⟩ = some (.slice (some ⟨gp, 0, none⟩) (q * 10) kp) := BX9.out.cell 4
        have hxi : we.heap.size < wi.heap.size := BX9.out.size
        have hgi : g < wi.heap.size := (RI9.out.row.lt g rfl).2
        have hmk : m ≤ k := (own_cap RI9.out.row).1
        have hkm2 : k ≤ maxLen := (own_cap RI9.out.row).2
        have i1 : (a : Int) ≤ (m : Int) := by omega
        have i2 : (m : Int) ≤ (k : Int) := by omega
        have i3 : (a : Int) ≤ (k : Int) := by omega
        have i4 : (0 : Int) ≤ (a : Int) := by omega
        have i5 : a ≤ k := by omega
        by_cases hka : k = a
        case pos =>
          omega
        have SRT := Lib.hid (show ∀ W, Below wi.heap.size wi W → SrcAt W (some ⟨g, 0, none⟩) a (refVals (rs.take a)) from fun W hW => .inr ⟨g, 0, rfl, fun j u hu => by rw [Nat.zero_add]; exact keepc hW hgi (own_cell RI9.out.row (ref_take hu))⟩)
        have SRD := Lib.hid (show ∀ W, Below wi.heap.size wi W → SrcAt W (some ⟨g, a * 5, none⟩) (m - a) (refVals (rs.drop a)) from fun W hW => by
          exact .inr ⟨g, a * 5, rfl, fun j u hu => keepc hW hgi (own_cell RI9.out.row (ref_drop (by rw [HRL.out]; omega) hu))⟩)
        go_upto_region 20 with (
          (at_builtin
           refine wpList_append_src _ rfl (.tmp 93) (.tmp 96) 24 rfl wi.heap.size 32 ie _ 5 72 Try.underlying24 hie hze0 hze1 hze2 rfl (by omega) _ 0 [] rfl (by exact own_made wi _ 5 rfl (Nat.le_refl _)) (some ⟨g, 0, none⟩) a k (refVals (rs.take a)) rfl (by rw [refVals_len, List.length_take, HRL.out]; omega) (fun e => by cases e) (by exact SRT.out _ (below_al7 wi _)) (refVals_one _) (by simp only [maxLen]; omega) (by omega) (by simp) ?_
           intro va wa hown hgr hat
           rw [Nat.zero_add, List.nil_append] at hown
           have OA := Lib.hid hown
           have BAA := Lib.hid (show Below wi.heap.size wi wa from (below_al7 wi _).grown hgr (by simp) (fun q hq => Nat.le_of_eq (Option.some.inj hq)))
           clear hown hgr hat))
        have hza2 := BAA.out.size
        obtain ⟨AV, kv, rfl, _, _, _⟩ := own_form OA.out
        have y0 := keepc BAA.out hxi y0
        have y1 := keepc BAA.out hxi y1
        have y2 := keepc BAA.out hxi y2
        have y3 := keepc BAA.out hxi y3
        have y4 := keepc BAA.out hxi y4
        go_upto_region 21 with (
          (at_builtin
           refine wpList_append_src _ rfl (.tmp 98) (.tmp 100) 24 rfl wi.heap.size 32 ie _ 5 72 Try.underlying24 hie hze0 hze1 hze2 rfl (by omega) _ a (refVals (rs.take a)) rfl (by exact OA.out.alloc _) (some ⟨wa.heap.size, 0, none⟩) 1 1 [strV p.r.key, .int .i64 p.r.gen, .int .i64 p.r.size, strV p.r.sum, .slice (some ⟨gp, 0, none⟩) (q * 10) kp] rfl rfl (fun e => by cases e) (by exact src_new _ _ _ _) (by intro u hu; simp only [List.mem_cons, List.not_mem_nil, or_false] at hu; rcases hu with rfl | rfl | rfl | rfl | rfl <;> rfl) (by simp only [maxLen]; omega) (by omega) (by simp; omega) ?_
           intro vb wb hown hgr hat
           have OB := Lib.hid hown
           have BBB := Lib.hid (show Below wi.heap.size wi wb from (BAA.out.alloc hza2 _).grown hgr (by simp; omega) (fun q hq => (OA.out.lt q hq).1))
           clear hown hgr hat))
        have hzb2 := BBB.out.size
        obtain ⟨AU, ku, rfl, _, _, _⟩ := own_form OB.out
        go_wp2_with (
          (at_builtin; (
           refine wpList_append_src _ rfl (.tmp 102) (.tmp 105) 24 rfl wi.heap.size 32 ie _ 5 72 Try.underlying24 hie hze0 hze1 hze2 rfl (by omega) _ (a + 1) (refVals (rs.take a) ++ [strV p.r.key, .int .i64 p.r.gen, .int .i64 p.r.size, strV p.r.sum, .slice (some ⟨gp, 0, none⟩) (q * 10) kp]) rfl (by exact OB.out) (some ⟨g, a * 5, none⟩) (m - a) (k - a) (refVals (rs.drop a)) (by first | rfl | (simp only [Act.eval]; simp; omega) | (simp only [Act.eval]; simp)) (by rw [refVals_len, List.length_drop, HRL.out] <;> omega) (fun e => by cases e) (by exact SRD.out _ BBB.out) (refVals_one _) (by simp only [maxLen]; omega) (by omega) (by exact hzb2) ?_
           intro vc wc hown hgr hat
           rw [show a + 1 + (m - a) = m + 1 by omega, show refVals (rs.take a) ++ [strV p.r.key, .int .i64 p.r.gen, .int .i64 p.r.size, strV p.r.sum, .slice (some ⟨gp, 0, none⟩) (q * 10) kp] ++ refVals (rs.drop a) = refVals (rs.take a ++ [(⟨ofR p.r, gp⟩, kp)] ++ rs.drop a) from by rw [refVals_app, refVals_app]; unfold refVals refCells; rw [List.flatMap_singleton, HQ.out]; rfl] at hown
           obtain ⟨AC, kc, rfl, _, _, hcn, _, hcs⟩ := own_srcv hown (fun h => by omega)
           obtain ⟨gc, rfl, _, _⟩ : ∃ g, AC = some ⟨g, 0, none⟩ ∧ wi.heap.size ≤ g ∧ g < wc.heap.size := (by rcases hcs with h | h; exact absurd (hcn h) (by omega); exact h)
           have BCC := Lib.hid (show Below wi.heap.size wi wc from BBB.out.grown hgr hzb2 (fun q hq => (OB.out.lt q hq).1))
           have RC := Lib.hid (RI9.out.ins (M' := M ++ [⟨ofR p.r, gp⟩]) BCC.out hown PL9.out ha (by simp only [List.map_append, List.map_take, List.map_drop, List.map_cons, List.map_nil]; exact RI9.out.best.new HPI.out rfl QV.out (fun j y hj hy => by rw [List.getElem?_map] at hy; cases hz : rs[j]? with | none => rw [hz] at hy; cases hy | some z => rw [hz] at hy; have e := Option.some.inj hy; rw [← e]; exact HLO.out j z hj hz) HHI.out))
           clear hown hgr hat hcn hcs)))
        all_goals go_roundw
        all_goals first | exact ⟨i + 1, m + 1, _, _, _, _, rfl, by rw [HM2.out], rfl, hlt, RC.out⟩ | (simp only [intOf]; omega)
      have q0 : (x.1.b.key == p.r.key) = true := by simpa using hke
      have HKE := Lib.hid hke
      clear hkl hke
      go_upto_region 16 with fail
      go_quiet (fail)
      generalize hwi : World.drewN (World.drewN wh _) _ = wi
      have BI := Lib.hid (show Below wh.heap.size wh wi from hwi ▸ below_drewN (below_drewN (Below.refl _ _) _) _)
      clear hwi
      have hzi := BI.out.size
      have RI9 := Lib.hid (RI8.out.below BI.out)
      have BX9 := Lib.hid (BX8.out.below BI.out BX8.out.size)
      have PL9 := Lib.hid (show PlcAt wi gp (placesOf L (ofR p.r)) from (PL7.out.below BA.out).below BI.out)
      have HXM := Lib.hid (show (rs.map Prod.fst)[a]? = some x.1 by rw [List.getElem?_map, HX.out]; rfl)
      have PLX := Lib.hid (RI9.out.places x (List.mem_of_getElem? HX.out)).1
      have HCX := Lib.hid ((RI9.out.best.best.sub x.1 (List.mem_of_getElem? HXM.out)).2.1.1)
      obtain ⟨qx, hqx, hqx1, hqx4, _, _⟩ := copy_facts HOK.out HCX.out
      rw [hqx] at z4
      have HQX := Lib.hid hqx
      have HPLX := Lib.hid (show (placesOf L x.1.b).length = qx * 10 by rw [places_len]; exact hqx)
      clear hqx
      have hgh : g < wh.heap.size := (RI8.out.row.lt g rfl).2
      have hxi : we.heap.size < wi.heap.size := BX9.out.size
      have hgi : g < wi.heap.size := by omega
      have y0 : wi.cell? ⟨we.heap.size, 0, none⟩ = some (strV p.r.key) := BX9.out.cell 0
      have y1 : wi.cell? ⟨we.heap.size, 1, none⟩ = some (.int .i64 p.r.gen) := BX9.out.cell 1
      have y2 : wi.cell? ⟨we.heap.size, 2, none⟩ = some (.int .i64 p.r.size) := BX9.out.cell 2
      have y3 : wi.cell? ⟨we.heap.size, 3, none⟩ = some (strV p.r.sum) := BX9.out.cell 3
      have y4 : wi.cell? ⟨we.heap.size, 4, none⟩ = some (.slice (some ⟨gp, 0, none⟩) (q * 10) kp) := BX9.out.cell 4
      have z0 : wi.cell? ⟨g, a * 5, none⟩ = some (strV x.1.b.key) := keepc BI.out hgh z0
      have z1 : wi.cell? ⟨g, a * 5 + 1, none⟩ = some (.int .i64 x.1.b.gen) := keepc BI.out hgh z1
      have z2 : wi.cell? ⟨g, a * 5 + 2, none⟩ = some (.int .i64 x.1.b.size) := keepc BI.out hgh z2
      have z3 : wi.cell? ⟨g, a * 5 + 3, none⟩ = some (strV x.1.b.sum) := keepc BI.out hgh z3
      have z4 : wi.cell? ⟨g, a * 5 + 4, none⟩ = some (.slice (some ⟨x.1.g, 0, none⟩) (qx * 10) x.2) := keepc BI.out hgh z4
      obtain ⟨bt, hbt⟩ : ∃ z, betterL L (ofR p.r) x.1.b = z := ⟨_, rfl⟩
      have HBT := Lib.hid hbt
      clear hbt
      have AH := Lib.hid (show ∀ W, Below wi.heap.size wi W → Calls Try.prog 31 #[.agg #[strV p.r.key, .int .i64 p.r.gen, .int .i64 p.r.size, strV p.r.sum, .slice (some ⟨gp, 0, none⟩) (q * 10) kp], .agg #[strV x.1.b.key, .int .i64 x.1.b.gen, .int .i64 x.1.b.size, strV x.1.b.sum, .slice (some ⟨x.1.g, 0, none⟩) (qx * 10) x.2]] W fun e w' => e = .returned (.bool bt) ∧ Below W.heap.size W w' from fun W hW => by have h := sAhead10 (ofR p.r) gp (q * 10) kp q (placesOf L (ofR p.r)) x.1.b x.1.g (qx * 10) x.2 qx (placesOf L x.1.b) W HPLN.out rfl (by omega) (PL9.out.below hW) HPLX.out rfl (by omega) (PLX.out.below hW); rw [show betterV (ofR p.r) (poorV (placesOf L (ofR p.r))) x.1.b (poorV (placesOf L x.1.b)) = bt from HBT.out] at h; exact h)
      go_upto_region 17 with fail
      go_cut [88] from 83 to 87 (fun v wx => v = .bool bt ∧ Below wi.heap.size wi wx)
      case first =>
        refine wp_region_held_drew (S := (fun w' => w'.cell? ⟨we.heap.size, 0, none⟩ = some (strV p.r.key) ∧ w'.cell? ⟨we.heap.size, 1, none⟩ = some (.int .i64 p.r.gen) ∧ w'.cell? ⟨we.heap.size, 2, none⟩ = some (.int .i64 p.r.size) ∧ w'.cell? ⟨we.heap.size, 3, none⟩ = some (strV p.r.sum) ∧ w'.cell? ⟨we.heap.size, 4, none⟩ = some (.slice (some ⟨gp, 0, none⟩) (q * 10) kp) ∧ w'.cell? ⟨g, a * 5, none⟩ = some (strV x.1.b.key) ∧ w'.cell? ⟨g, a * 5 + 1, none⟩ = some (.int .i64 x.1.b.gen) ∧ w'.cell? ⟨g, a * 5 + 2, none⟩ = some (.int .i64 x.1.b.size) ∧ w'.cell? ⟨g, a * 5 + 3, none⟩ = some (strV x.1.b.sum) ∧ w'.cell? ⟨g, a * 5 + 4, none⟩ = some (.slice (some ⟨x.1.g, 0, none⟩) (qx * 10) x.2))) (by kernel_rfl) ⟨y0, y1, y2, y3, y4, z0, z1, z2, z3, z4⟩ (fun hHeld => ?_)
        refine wpAnyH_take (i := 0) (v := ?vB17n30) (take_list rfl) (by kernel_rfl) (by kernel_rfl) (by kernel_rfl) (fun _ _ _ h => h) (Or.inl ⟨by rfl, ?hyB17n30⟩) (by assumption) ?restB17n30
        case hyB17n30 => (intro w hSw; (try dsimp only at hSw); go_simp <;> with_reducible rfl)
        try simp only [Act.put, List.setIfInBounds_toArray, List.set_cons_zero, List.set_cons_succ]
        refine wpAnyH_take (i := 1) (v := ?vB17n31) (take_list rfl) (by kernel_rfl) (by kernel_rfl) (by kernel_rfl) (fun _ _ _ h => h) (Or.inl ⟨by rfl, ?hyB17n31⟩) (by assumption) ?restB17n31
        case hyB17n31 => (intro w hSw; (try dsimp only at hSw); go_simp <;> with_reducible rfl)
        try simp only [Act.put, List.setIfInBounds_toArray, List.set_cons_zero, List.set_cons_succ]
        refine wpAnyH_take (i := 2) (v := ?vB17n32) (take_list rfl) (by kernel_rfl) (by kernel_rfl) (by kernel_rfl) (fun _ _ _ h => h) (Or.inl ⟨by rfl, ?hyB17n32⟩) (by assumption) ?restB17n32
        case hyB17n32 => (intro w hSw; (try dsimp only at hSw); go_simp <;> with_reducible rfl)
        try simp only [Act.put, List.setIfInBounds_toArray, List.set_cons_zero, List.set_cons_succ]
        refine wpAnyH_take (i := 3) (v := ?vB17n33) (take_list rfl) (by kernel_rfl) (by kernel_rfl) (by kernel_rfl) (fun _ _ _ h => h) (Or.inl ⟨by rfl, ?hyB17n33⟩) (by assumption) ?restB17n33
        case hyB17n33 => (intro w hSw; (try dsimp only at hSw); go_simp <;> with_reducible rfl)
        try simp only [Act.put, List.setIfInBounds_toArray, List.set_cons_zero, List.set_cons_succ]
        refine wpAnyH_take (i := 4) (v := ?vB17n34) (take_list rfl) (by kernel_rfl) (by kernel_rfl) (by kernel_rfl) (fun _ _ _ h => h) (Or.inl ⟨by rfl, ?hyB17n34⟩) (by assumption) ?restB17n34
        case hyB17n34 => (intro w hSw; (try dsimp only at hSw); go_simp <;> with_reducible rfl)
        try simp only [Act.put, List.setIfInBounds_toArray, List.set_cons_zero, List.set_cons_succ]
        refine wpAnyH_ready (rs := [5]) (by kernel_rfl) (by simp) ?_
        refine AllReadyH.cons rfl (fun K hK => ?_) AllReadyH.nil
        go_simp
        go_wp2_with (go_at_call 31; refine (AH.out _ (below_drewed _ _)).mono ?_; rintro e w9 ⟨rfl, hb⟩; have BW := Lib.hid (show Below wi.heap.size wi w9 from below_of_drew hb); clear hb)
        clear hHeld
        refine hK.out _ _ ⟨(have h := keepc BW.out hxi y0; h), (have h := keepc BW.out hxi y1; h), (have h := keepc BW.out hxi y2; h), (have h := keepc BW.out hxi y3; h), (have h := keepc BW.out hxi y4; h), (have h := keepc BW.out hgi z0; h), (have h := keepc BW.out hgi z1; h), (have h := keepc BW.out hgi z2; h), (have h := keepc BW.out hgi z3; h), (have h := keepc BW.out hgi z4; h)⟩ (fun hHeld => ?_)
        clear hK K
        refine wpAnyH_done (by kernel_rfl) ?_ _
        go_wp2_with fail
        go_meet
        exact ⟨rfl, by first | exact BW.out | exact BW.out.drew⟩
      obtain ⟨rfl, hbc⟩ := hcut
      obtain ⟨wj, rfl⟩ : ∃ wx : World, wx = wc := ⟨_, rfl⟩
      have RIA := Lib.hid (RI9.out.below hbc)
      have PLA := Lib.hid (PL9.out.below hbc)
      have y0 := keepc hbc hxi y0
      have y1 := keepc hbc hxi y1
      have y2 := keepc hbc hxi y2
      have y3 := keepc hbc hxi y3
      have y4 := keepc hbc hxi y4
      have z0 := keepc hbc hgi z0
      have z1 := keepc hbc hgi z1
      have z2 := keepc hbc hgi z2
      have z3 := keepc hbc hgi z3
      have z4 := keepc hbc hgi z4
      clear hbc AH
      cases hb : bt with
      | false =>
        have RN := Lib.hid (show RefI w1 L (i + 1) m rs (M ++ [⟨ofR p.r, gp⟩]) g k wj from RIA.out.to (RIA.out.best.lose HPI.out rfl HXM.out HKE.out (HBT.out.trans hb)) (by omega))
        clear hb
        go_wp2_with fail
        go_roundw
        case rel => exact ⟨i + 1, m, g, k, rs, _, rfl, by rw [HM2.out], rfl, hlt, RN.out⟩
        case measure => (simp only [intOf]; omega)
      | true =>
        have BS := Lib.hid (show BestS L (i + 1) (M ++ [⟨ofR p.r, gp⟩]) ((rs.set a (⟨ofR p.r, gp⟩, kp)).map Prod.fst) by rw [List.map_set]; exact RIA.out.best.win HPI.out rfl QV.out HXM.out HKE.out (HBT.out.trans hb))
        clear hb
        obtain ⟨cur, hcur⟩ := own_blk5 RIA.out.row
        have f10 : wj.frozen? ⟨g, a * 5, none⟩ = false := Blk.free hcur _
        have f11 : wj.frozen? ⟨g, a * 5 + 1, none⟩ = false := Blk.free hcur _
        have f12 : wj.frozen? ⟨g, a * 5 + 2, none⟩ = false := Blk.free hcur _
        have f13 : wj.frozen? ⟨g, a * 5 + 3, none⟩ = false := Blk.free hcur _
        have f14 : wj.frozen? ⟨g, a * 5 + 4, none⟩ = false := Blk.free hcur _
        clear hcur
        have RN := Lib.hid (RIA.out.rep (x := (⟨ofR p.r, gp⟩, kp)) PLA.out hnep BS.out)
        go_wp2_with fail
        go_roundw
        case rel => exact ⟨i + 1, m, g, k, _, _, rfl, by rw [HM2.out], rfl, hlt, by have h := RN.out; rw [show slotsB (((⟨ofR p.r, gp⟩ : CopyE), kp) : CopyE × Nat).1.b = q * 10 from HQ.out] at h; exact h⟩
        case measure => (simp only [intOf]; omega)
end Go.Proofs.Ythceidacmeadkaa
