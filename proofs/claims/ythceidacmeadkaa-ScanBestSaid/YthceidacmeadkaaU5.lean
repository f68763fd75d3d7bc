/- The document's entry of a copy. No condition beyond those that each theorem states. -/
import Derived.Test.YthceidacmeadkaaU4
import Derived.Test.YthceidacmeadkaaSU
namespace Go.Proofs.Ythceidacmeadkaa
open Go.RowKit Go.Maps Go.WideMaps Go.Sort Go.Shelf
attribute [local go_sem] Oper.semAt_some

theorem first_drop {L : List FoundP} {b : BlobV} {s i : Nat} {p : FoundP} (h : L[i]? = some p) : firstAt (L.drop i) b s = if isShard b s p then (p.cart, p.pos) else firstAt (L.drop (i + 1)) b s := by
  have hd : L.drop i = p :: L.drop (i + 1) := by rw [List.drop_eq_getElem_cons (List.getElem?_eq_some_iff.1 h).1, (List.getElem?_eq_some_iff.1 h).2]
  rw [hd]
  unfold firstAt
  rw [List.find?_cons]
  cases hp : isShard b s p <;> simp
theorem own_base {w : World} {base base' : Nat} {t : TypeId} {size n : Nat} {v : Value} {xs : List Value} (h : w.ownsRow base t size v n xs) (hb : base' ≤ base) : w.ownsRow base' t size v n xs :=
  ⟨h.1, h.2.imp id fun ⟨g, cap, cur, h1, h2, h3⟩ => ⟨g, cap, cur, h1, Nat.le_trans hb h2, h3⟩⟩
theorem first_none (L : List FoundP) (b : BlobV) (s : Nat) : firstAt (L.drop L.length) b s = (0, 1024) := by rw [List.drop_length]; rfl
def shardB (r : RecV) (g i : Int) (p : FoundP) : Bool := decide (p.r.kind = 2) && (decide (p.r.key = r.key) && (decide (p.r.gen = r.gen) && (decide (p.r.size = r.size) && (decide (p.r.sum = r.sum) && (decide (p.r.group = g) && decide (p.r.index = i))))))
theorem shardB_eq {r : RecV} {p : FoundP} {g i : Nat} (hp : okF p = true) (hg : r.groups = groupsV r.size) (hi : i < 10) : isShard (ofR r) (g * 10 + i) p = shardB r (g : Int) (i : Int) p := by
  rw [Bool.eq_iff_iff]
  simp only [isShard, shardB, Bool.and_eq_true, decide_eq_true_eq]
  constructor
  · rintro ⟨h1, h2, h3⟩
    have hf := shard_facts hp h1
    exact ⟨h1, congrArg BlobV.key h2, congrArg BlobV.gen h2, congrArg BlobV.size h2, congrArg BlobV.sum h2, by omega, by omega⟩
  · rintro ⟨h1, h2, h3, h4, h5, h6, h7⟩
    have hs := (good_shard (ok_good hp) h1).1
    have hgr : p.r.groups = groupsV p.r.size := by
      simp only [shardV, Bool.and_eq_true, decide_eq_true_eq] at hs
      exact hs.2.1
    exact ⟨h1, by unfold ofR; rw [h2, h3, h5, hgr, h4, ← hg], by omega⟩
theorem blk_two {w0 : World} {g : Nat} {t : TypeId} {a0 a1 : Value} (h : Blk w0 g t #[a0, a1]) (v0 v1 : Value) : Blk ((w0.setCell ⟨g, 0, none⟩ v0).setCell ⟨g, 1, none⟩ v1) g t #[v0, v1] := by
  have h2 := (h.store 0 v0).store 1 v1
  simp only [List.setIfInBounds_toArray, List.set_cons_zero, List.set_cons_succ] at h2
  exact h2
theorem blk_five {w0 : World} {g : Nat} {t : TypeId} {a0 a1 a2 a3 a4 : Value} (h : Blk w0 g t #[a0, a1, a2, a3, a4]) (v0 v1 v2 v3 v4 : Value) :
    Blk (((((w0.setCell ⟨g, 0, none⟩ v0).setCell ⟨g, 1, none⟩ v1).setCell ⟨g, 2, none⟩ v2).setCell ⟨g, 3, none⟩ v3).setCell ⟨g, 4, none⟩ v4) g t #[v0, v1, v2, v3, v4] := by
  have h2 := ((((h.store 0 v0).store 1 v1).store 2 v2).store 3 v3).store 4 v4
  simp only [List.setIfInBounds_toArray, List.set_cons_zero, List.set_cons_succ] at h2
  exact h2
theorem below_five {B : Nat} {w w0 : World} {g : Nat} (h : Below B w w0) (hg : B ≤ g) (v0 v1 v2 v3 v4 : Value) :
    Below B w (((((w0.setCell ⟨g, 0, none⟩ v0).setCell ⟨g, 1, none⟩ v1).setCell ⟨g, 2, none⟩ v2).setCell ⟨g, 3, none⟩ v3).setCell ⟨g, 4, none⟩ v4) :=
  ((((h.setCell hg v0).setCell hg v1).setCell hg v2).setCell hg v3).setCell hg v4
theorem own_five {w0 : World} {base g : Nat} {t : TypeId} {size n : Nat} {v : Value} {xs : List Value} (h : w0.ownsRow base t size v n xs) (hg : g < base) (v0 v1 v2 v3 v4 : Value) :
    (((((w0.setCell ⟨g, 0, none⟩ v0).setCell ⟨g, 1, none⟩ v1).setCell ⟨g, 2, none⟩ v2).setCell ⟨g, 3, none⟩ v3).setCell ⟨g, 4, none⟩ v4).ownsRow base t size v n xs :=
  own_of_eq h fun g1 hg1 => by
    have := (h.lt g1 hg1).1
    rw [Below.heap_setCell _ _ _ _ (by show g1 ≠ g; omega), Below.heap_setCell _ _ _ _ (by show g1 ≠ g; omega), Below.heap_setCell _ _ _ _ (by show g1 ≠ g; omega), Below.heap_setCell _ _ _ _ (by show g1 ≠ g; omega), Below.heap_setCell _ _ _ _ (by show g1 ≠ g; omega)]
structure EntI (w : World) (L : List FoundP) (r : RecV) (RA : Option Addr) (rc m : Nat) (v : Value) (wr : World) : Prop where
  r0 : Blk wr w.heap.size 37 #[.int .i64 r.kind, .int .i64 r.cart, strV r.key, .int .i64 r.gen, .int .i64 r.group, .int .i64 r.groups, .int .i64 r.index, .int .i64 r.size, strV r.sum, .slice RA r.data.length rc]
  e0 : Blk wr (w.heap.size + 1) 32 #[.string ⟨#[]⟩, .int .i64 0, .int .i64 0, .string ⟨#[]⟩, .slice none 0 0]
  e1 : Blk wr (w.heap.size + 2) 32 #[strV r.key, .int .i64 r.gen, .int .i64 r.size, strV r.sum, v]
  row : wr.ownsRow (w.heap.size + 3) 34 2 v m (placeVals ((List.range m).map (firstAt L (ofR r))))
  base : Below w.heap.size w wr
theorem EntI.below {w wr wx : World} {L : List FoundP} {r : RecV} {RA : Option Addr} {rc m : Nat} {v : Value} (h : EntI w L r RA rc m v wr) (hb : Below wr.heap.size wr wx) : EntI w L r RA rc m v wx :=
  ⟨h.r0.below hb h.r0.size, h.e0.below hb h.e0.size, h.e1.below hb h.e1.size, own_of_eq h.row (fun g1 hg1 => hb.block g1 (h.row.lt g1 hg1).2), h.base.trans (hb.mono h.base.size)⟩
theorem EntI.put {w wr w9 : World} {L : List FoundP} {r : RecV} {RA : Option Addr} {rc m : Nat} {v v' : Value} (h : EntI w L r RA rc m v wr) (hg : wr.grownBy w9 v.ownBlock)
    (ho : w9.ownsRow (w.heap.size + 3) 34 2 v' (m + 1) (placeVals ((List.range m).map (firstAt L (ofR r))) ++ [.int .i64 (firstAt L (ofR r) m).1, .int .i64 (firstAt L (ofR r) m).2])) :
    EntI w L r RA rc (m + 1) v' (w9.setCell ⟨w.heap.size + 2, 4, none⟩ v') := by
  have hne : ∀ k, k < w.heap.size + 3 → v.ownBlock ≠ some k := fun k hk e => by have := (h.row.lt k e).1; omega
  have b0 := h.r0.grown hg (hne _ (by omega))
  have b1 := h.e0.grown hg (hne _ (by omega))
  have b2 := h.e1.grown hg (hne _ (by omega))
  refine ⟨b0.apart (by show _ ≠ _; simp only; omega) _, b1.apart (by show _ ≠ _; simp only; omega) _, b2.store 4 v', ?_, ?_⟩
  · have e : placeVals ((List.range (m + 1)).map (firstAt L (ofR r))) = placeVals ((List.range m).map (firstAt L (ofR r))) ++ [.int .i64 (firstAt L (ofR r) m).1, .int .i64 (firstAt L (ofR r) m).2] := by
      rw [List.range_succ, List.map_append]
      simp [placeVals]
    rw [e]
    exact own_of_eq ho (fun g1 hg1 => Below.heap_setCell _ _ _ _ (by have := (ho.lt g1 hg1).1; show g1 ≠ w.heap.size + 2; omega))
  · exact (h.base.grown hg h.base.size (fun q hq => by have := (h.row.lt q hq).1; omega)).setCell (p := ⟨w.heap.size + 2, 4, none⟩) (by show _ ≤ w.heap.size + 2; omega) _
set_option maxHeartbeats 8000000
set_option maxRecDepth 100000
theorem sEntry10 (A : Option Addr) (n c : Nat) (L : List FoundP) (r : RecV) (RA : Option Addr) (rc q : Nat) (w : World) (hL : L.length = n) (_ : n ≤ c) (_ : c ≤ maxLen) (hn : n ≤ 1000000) (hS : SrcAt w A n (foundVals L)) (hok : ∀ p ∈ L, okF p = true)
    (hq : (q : Int) = r.groups) (hq4 : q ≤ 4) (hgr : r.groups = groupsV r.size) :
    Calls Try.prog 28 #[.slice A n c, recV r RA rc] w fun e w' => ∃ V, e = .returned (.agg #[strV r.key, .int .i64 r.gen, .int .i64 r.size, strV r.sum, V]) ∧ w'.ownsRow w.heap.size 34 2 V (q * 10) (placeVals (placesOf L (ofR r))) ∧ Below w.heap.size w w' := by
  obtain ⟨i0, hi0, hz0, hz1, hz2⟩ := info_parts place_info
  have HL := Lib.hid hL
  have S0 := Lib.hid hS
  have HOK := Lib.hid hok
  have HGR := Lib.hid hgr
  have hslots : slotsB (ofR r) = q * 10 := by show (r.groups * 10).toNat = _; omega
  have HSL := Lib.hid hslots
  clear hL hS hok hgr hslots
  unfold recV recCells
  go_enter Try.func28, Try.ntmps28
  go_upto_region 2 with fail
  obtain ⟨w0, hw0⟩ : ∃ z, (((w.alloc (.cells #[.int .i64 r.kind, .int .i64 r.cart, strV r.key, .int .i64 r.gen, .int .i64 r.group, .int .i64 r.groups, .int .i64 r.index, .int .i64 r.size, strV r.sum, .slice RA r.data.length rc] 37)).alloc (.cells #[.string ⟨#[]⟩, .int .i64 0, .int .i64 0, .string ⟨#[]⟩, .slice none 0 0] 32)).alloc (.cells #[strV r.key, .int .i64 r.gen, .int .i64 r.size, strV r.sum, .slice none 0 0] 32)) = z := ⟨_, rfl⟩
  have EI0 := Lib.hid (show EntI w L r RA rc 0 (.slice none 0 0) w0 by
    rw [← hw0]
    exact ⟨((Blk.made _ _ _).alloc _).alloc _, (Blk.made' _ _ _ (by simp)).alloc _, Blk.made' _ _ _ (by simp), World.ownsRow_nil _ _ _ _, ((below_al7 w _).alloc (by simp) _).alloc (by simp; omega) _⟩)
  rw [show w.heap.size + 1 + 1 = w.heap.size + 2 from rfl, hw0]
  clear hw0
  have HQ := Lib.hid hq
  clear hq
  go_wp2_with fail
  go_loopw [6] (fun gv wr => ∃ (g : Nat) (v : Value), gv = .int .i64 (g : Int) ∧ g ≤ q ∧ EntI w L r RA rc (g * 10) v wr) (fun gv _ => q - (intOf gv).toNat)
  case atStart => exact ⟨0, .slice none 0 0, rfl, Nat.zero_le _, EI0.out⟩
  obtain ⟨g, v, rfl, hg, hei⟩ := hrel
  obtain ⟨wo, rfl⟩ : ∃ wo : World, wo = wr := ⟨_, rfl⟩
  have EI := Lib.hid hei
  clear hei
  have hzo := EI.out.base.size
  have ho2 := EI.out.e1.size
  have x5 : wo.cell? ⟨w.heap.size, 5, none⟩ = some (.int .i64 (q : Int)) := by rw [HQ.out]; exact EI.out.r0.cell 5
  by_cases hlt : g < q
  case neg =>
    have e1 : decide (g < q) = false := decide_eq_false hlt
    have e2 : decide ((g : Int) < (q : Int)) = false := decide_eq_false (by omega)
    have HR := Lib.hid (show wo.ownsRow (w.heap.size + 3) 34 2 v (q * 10) (placeVals (placesOf L (ofR r))) by have h := EI.out.row; rw [show g = q by omega] at h; unfold placesOf; rw [HSL.out]; exact h)
    have t0 : wo.cell? ⟨w.heap.size + 2, 0, none⟩ = some (strV r.key) := EI.out.e1.cell 0
    have t1 : wo.cell? ⟨w.heap.size + 2, 1, none⟩ = some (.int .i64 r.gen) := EI.out.e1.cell 1
    have t2 : wo.cell? ⟨w.heap.size + 2, 2, none⟩ = some (.int .i64 r.size) := EI.out.e1.cell 2
    have t3 : wo.cell? ⟨w.heap.size + 2, 3, none⟩ = some (strV r.sum) := EI.out.e1.cell 3
    have t4 : wo.cell? ⟨w.heap.size + 2, 4, none⟩ = some (v) := EI.out.e1.cell 4
    have z0 : wo.cell? ⟨w.heap.size + 1, 0, none⟩ = some (.string ⟨#[]⟩) := EI.out.e0.cell 0
    have f0 : wo.frozen? ⟨w.heap.size + 1, 0, none⟩ = false := EI.out.e0.free 0
    have z1 : wo.cell? ⟨w.heap.size + 1, 1, none⟩ = some (.int .i64 0) := EI.out.e0.cell 1
    have f1 : wo.frozen? ⟨w.heap.size + 1, 1, none⟩ = false := EI.out.e0.free 1
    have z2 : wo.cell? ⟨w.heap.size + 1, 2, none⟩ = some (.int .i64 0) := EI.out.e0.cell 2
    have f2 : wo.frozen? ⟨w.heap.size + 1, 2, none⟩ = false := EI.out.e0.free 2
    have z3 : wo.cell? ⟨w.heap.size + 1, 3, none⟩ = some (.string ⟨#[]⟩) := EI.out.e0.cell 3
    have f3 : wo.frozen? ⟨w.heap.size + 1, 3, none⟩ = false := EI.out.e0.free 3
    have z4 : wo.cell? ⟨w.heap.size + 1, 4, none⟩ = some (.slice none 0 0) := EI.out.e0.cell 4
    have f4 : wo.frozen? ⟨w.heap.size + 1, 4, none⟩ = false := EI.out.e0.free 4
    obtain ⟨A1, k1, rfl, hn1, hc1, hA1⟩ := own_form HR.out
    go_wp2_with fail
    refine bodyPost_ret (results_cell_row rfl _ _ (w.heap.size + 1) 32 _ (0, 0) _ rfl (blk_five EI.out.e0 _ _ _ _ _) Try.underlying32 rfl (by kernel_rfl)) rfl ?_
    exact ⟨_, rfl, own_base (own_five HR.out (by omega) _ _ _ _ _) (by omega), below_five EI.out.base (by omega) _ _ _ _ _⟩
  have e1 : decide (g < q) = true := decide_eq_true hlt
  have e2 : decide ((g : Int) < (q : Int)) = true := decide_eq_true (by omega)
  have pg : IntKind.i64.wrap ((g : Int) + 1) = ((g + 1 : Nat) : Int) := by rw [IntWalk.i64_in _ (by omega)]; omega
  go_wp2_with fail
  go_loopw [7] (fun iv wr => ∃ (i : Nat) (v : Value), iv = .int .i64 (i : Int) ∧ i ≤ 10 ∧ EntI w L r RA rc (g * 10 + i) v wr) (fun iv _ => 10 - (intOf iv).toNat)
  case atStart => exact ⟨0, v, rfl, Nat.zero_le _, EI.out⟩
  obtain ⟨i, v2, rfl, hi, hei2⟩ := hrel
  obtain ⟨wp, rfl⟩ : ∃ wp : World, wp = wr := ⟨_, rfl⟩
  have EI2 := Lib.hid hei2
  clear hei2 x5
  have hzp := EI2.out.base.size
  have hp2 := EI2.out.e1.size
  by_cases hi10 : i < 10
  case neg =>
    have f1 : decide (i < 10) = false := decide_eq_false hi10
    have f2 : decide ((i : Int) < 10) = false := decide_eq_false (by omega)
    have EI3 := Lib.hid (show EntI w L r RA rc ((g + 1) * 10) v2 wp by rw [show (g + 1) * 10 = g * 10 + i by omega]; exact EI2.out)
    go_wp2_with fail
    go_roundw
    case rel => exact ⟨g + 1, v2, rfl, hlt, EI3.out⟩
    case measure => (simp only [intOf]; omega)
  have f1 : decide (i < 10) = true := decide_eq_true hi10
  have f2 : decide ((i : Int) < 10) = true := decide_eq_true (by omega)
  have pi : IntKind.i64.wrap ((i : Int) + 1) = ((i + 1 : Nat) : Int) := by rw [IntWalk.i64_in _ (by omega)]; omega
  have pn : IntKind.i64.wrap ((n : Int) - 1) = (n : Int) - 1 := IntWalk.i64_in _ (by omega)
  obtain ⟨s, hs⟩ : ∃ s, g * 10 + i = s := ⟨_, rfl⟩
  rw [hs] at EI2
  have HSS := Lib.hid hs
  clear hs
  obtain ⟨wq, hwq⟩ : ∃ z, wp.alloc (.cells #[.int .i64 0, .int .i64 1024] 34) = z := ⟨_, rfl⟩
  have BQ := Lib.hid (show Blk wq wp.heap.size 34 #[.int .i64 0, .int .i64 1024] by rw [← hwq]; exact Blk.made _ _ _)
  have BPQ := Lib.hid (show Below wp.heap.size wp wq by rw [← hwq]; exact below_al7 _ _)
  go_upto_region 9 with fail
  clear hwq
  go_wp2_with fail
  go_loopw [9] (fun kv wr => ∃ (kk : Nat) (z : Int), kv = .int .i64 z ∧ z = (kk : Int) - 1 ∧ kk ≤ n ∧ Blk wr wp.heap.size 34 #[.int .i64 (firstAt (L.drop kk) (ofR r) s).1, .int .i64 (firstAt (L.drop kk) (ofR r) s).2] ∧ Below wp.heap.size wp wr) (fun kv _ => (intOf kv + 1).toNat)
  case atStart => exact ⟨n, (n : Int) - 1, rfl, rfl, Nat.le_refl _, by have h := first_none L (ofR r) s; rw [HL.out] at h; rw [h]; exact BQ.out, BPQ.out⟩
  obtain ⟨kk, z, rfl, hz, hkk, hat, hbk⟩ := hrel
  obtain ⟨wk, rfl⟩ : ∃ wk : World, wk = wr := ⟨_, rfl⟩
  have HAT := Lib.hid hat
  have BK := Lib.hid hbk
  have EIk := Lib.hid (EI2.out.below hbk)
  have hzk := hbk.size
  have hgak := hat.size
  have hzwk := EIk.out.base.size
  clear hat hbk
  by_cases h0 : kk = 0
  case pos =>
    obtain rfl : z = -1 := by omega
    have FA := Lib.hid (show firstAt (L.drop kk) (ofR r) s = firstAt L (ofR r) s by rw [h0]; rfl)
    rw [FA.out] at HAT
    obtain ⟨⟨x, y⟩, hxy⟩ : ∃ z, firstAt L (ofR r) s = z := ⟨_, rfl⟩
    rw [hxy] at HAT
    have HXY := Lib.hid hxy
    clear hz h0 hxy
    have a0 : wk.cell? ⟨wp.heap.size, 0, none⟩ = some (.int .i64 x) := HAT.out.cell 0
    have a1 : wk.cell? ⟨wp.heap.size, 1, none⟩ = some (.int .i64 y) := HAT.out.cell 1
    obtain ⟨A1, k1, rfl, hn1, hc1, hA1⟩ := own_form EIk.out.row
    have t4 : wk.cell? ⟨w.heap.size + 2, 4, none⟩ = some (.slice A1 s k1) := EIk.out.e1.cell 4
    have hs40 : s < 40 := by have := HSS.out; omega
    have hek := EIk.out.e1.size
    go_wp2_with (
      (at_builtin
       refine wpList_append_src _ rfl (.tmp 110) (.tmp 112) 30 rfl (w.heap.size + 3) 34 i0 _ 2 16 Try.underlying30 hi0 hz0 hz1 hz2 rfl (by omega) _ _ _ rfl (by exact EIk.out.row.alloc _) (some ⟨wk.heap.size, 0, none⟩) 1 1 [.int .i64 x, .int .i64 y] rfl rfl (fun e => by cases e) (by exact src_new _ _ _ _) (by intro u hu; simp only [List.mem_cons, List.not_mem_nil, or_false] at hu; rcases hu with rfl | rfl <;> rfl) (by simp only [maxLen]; omega) (by omega) (by simp; omega) ?_
       intro v' w9 hown9 hgr9 hat9
       obtain ⟨A9, k9, rfl, _, _, _⟩ := own_form hown9
       have EI9 := Lib.hid (EntI.put (EIk.out.below (below_al7 wk _)) hgr9 (by rw [HXY.out]; exact hown9))
       have E9 := Lib.hid ((EIk.out.below (below_al7 wk _)).e1.grown hgr9 (fun e => by have := (EIk.out.row.lt _ e).1; omega))
       have m4 : w9.cell? ⟨w.heap.size + 2, 4, none⟩ = some (.slice A1 s k1) := E9.out.cell 4
       have m5 : w9.frozen? ⟨w.heap.size + 2, 4, none⟩ = false := E9.out.free 4
       clear hown9 hgr9 hat9))
    go_roundw
    case rel => exact ⟨i + 1, _, rfl, hi10, by rw [← Nat.add_assoc, HSS.out]; exact EI9.out⟩
    case measure => (simp only [intOf]; omega)
  obtain ⟨i1, rfl⟩ : ∃ i1, kk = i1 + 1 := ⟨kk - 1, by omega⟩
  obtain rfl : z = (i1 : Int) := by omega
  clear hz h0
  have hin : i1 < n := by omega
  have g1 : (i1 : Int) < (n : Int) := by omega
  have g2 : (0 : Int) ≤ (i1 : Int) := by omega
  have g3 : decide ((0 : Int) ≤ (i1 : Int)) = true := decide_eq_true (by omega)
  have pk : IntKind.i64.wrap ((i1 : Int) - 1) = (i1 : Int) - 1 := IntWalk.i64_in _ (by omega)
  obtain ⟨p, hp⟩ : ∃ p, L[i1]? = some p := ⟨_, List.getElem?_eq_getElem (by rw [HL.out]; exact hin)⟩
  have FD := Lib.hid (show firstAt (L.drop i1) (ofR r) s = if shardB r (g : Int) (i : Int) p then (p.cart, p.pos) else firstAt (L.drop (i1 + 1)) (ofR r) s by rw [first_drop hp, ← HSS.out, shardB_eq (HOK.out p (List.mem_of_getElem? hp)) HGR.out hi10])
  obtain ⟨b, o, hAe, hc⟩ := src_some (src_below S0.out EIk.out.base) (by omega)
  subst hAe
  have x0 : wk.cell? ⟨b, o + i1 * 12, none⟩ = some (.int .i64 p.cart) := by have h := hc (i1 * 12 + 0) (.int .i64 p.cart) (by rw [foundVals_get hp (by omega)]; rfl); rw [show o + i1 * 12 = o + (i1 * 12 + 0) by omega]; exact h
  have x1 : wk.cell? ⟨b, o + i1 * 12 + 1, none⟩ = some (.int .i64 p.pos) := by have h := hc (i1 * 12 + 1) (.int .i64 p.pos) (by rw [foundVals_get hp (by omega)]; rfl); rw [show o + i1 * 12 + 1 = o + (i1 * 12 + 1) by omega]; exact h
  have x2 : wk.cell? ⟨b, o + i1 * 12 + 2, none⟩ = some (.int .i64 p.r.kind) := by have h := hc (i1 * 12 + 2) (.int .i64 p.r.kind) (by rw [foundVals_get hp (by omega)]; rfl); rw [show o + i1 * 12 + 2 = o + (i1 * 12 + 2) by omega]; exact h
  have x3 : wk.cell? ⟨b, o + i1 * 12 + 3, none⟩ = some (.int .i64 p.r.cart) := by have h := hc (i1 * 12 + 3) (.int .i64 p.r.cart) (by rw [foundVals_get hp (by omega)]; rfl); rw [show o + i1 * 12 + 3 = o + (i1 * 12 + 3) by omega]; exact h
  have x4 : wk.cell? ⟨b, o + i1 * 12 + 4, none⟩ = some (strV p.r.key) := by have h := hc (i1 * 12 + 4) (strV p.r.key) (by rw [foundVals_get hp (by omega)]; rfl); rw [show o + i1 * 12 + 4 = o + (i1 * 12 + 4) by omega]; exact h
  have x5 : wk.cell? ⟨b, o + i1 * 12 + 5, none⟩ = some (.int .i64 p.r.gen) := by have h := hc (i1 * 12 + 5) (.int .i64 p.r.gen) (by rw [foundVals_get hp (by omega)]; rfl); rw [show o + i1 * 12 + 5 = o + (i1 * 12 + 5) by omega]; exact h
  have x6 : wk.cell? ⟨b, o + i1 * 12 + 6, none⟩ = some (.int .i64 p.r.group) := by have h := hc (i1 * 12 + 6) (.int .i64 p.r.group) (by rw [foundVals_get hp (by omega)]; rfl); rw [show o + i1 * 12 + 6 = o + (i1 * 12 + 6) by omega]; exact h
  have x7 : wk.cell? ⟨b, o + i1 * 12 + 7, none⟩ = some (.int .i64 p.r.groups) := by have h := hc (i1 * 12 + 7) (.int .i64 p.r.groups) (by rw [foundVals_get hp (by omega)]; rfl); rw [show o + i1 * 12 + 7 = o + (i1 * 12 + 7) by omega]; exact h
  have x8 : wk.cell? ⟨b, o + i1 * 12 + 8, none⟩ = some (.int .i64 p.r.index) := by have h := hc (i1 * 12 + 8) (.int .i64 p.r.index) (by rw [foundVals_get hp (by omega)]; rfl); rw [show o + i1 * 12 + 8 = o + (i1 * 12 + 8) by omega]; exact h
  have x9 : wk.cell? ⟨b, o + i1 * 12 + 9, none⟩ = some (.int .i64 p.r.size) := by have h := hc (i1 * 12 + 9) (.int .i64 p.r.size) (by rw [foundVals_get hp (by omega)]; rfl); rw [show o + i1 * 12 + 9 = o + (i1 * 12 + 9) by omega]; exact h
  have x10 : wk.cell? ⟨b, o + i1 * 12 + 10, none⟩ = some (strV p.r.sum) := by have h := hc (i1 * 12 + 10) (strV p.r.sum) (by rw [foundVals_get hp (by omega)]; rfl); rw [show o + i1 * 12 + 10 = o + (i1 * 12 + 10) by omega]; exact h
  have x11 : wk.cell? ⟨b, o + i1 * 12 + 11, none⟩ = some (.slice p.A p.r.data.length p.c) := by have h := hc (i1 * 12 + 11) (.slice p.A p.r.data.length p.c) (by rw [foundVals_get hp (by omega)]; rfl); rw [show o + i1 * 12 + 11 = o + (i1 * 12 + 11) by omega]; exact h
  have hbk2 : b < wk.heap.size := World.block_lt_of_cell? _ _ x0
  clear hc hp
  have r0 : wk.cell? ⟨w.heap.size, 0, none⟩ = some (.int .i64 r.kind) := EIk.out.r0.cell 0
  have r1 : wk.cell? ⟨w.heap.size, 1, none⟩ = some (.int .i64 r.cart) := EIk.out.r0.cell 1
  have r2 : wk.cell? ⟨w.heap.size, 2, none⟩ = some (strV r.key) := EIk.out.r0.cell 2
  have r3 : wk.cell? ⟨w.heap.size, 3, none⟩ = some (.int .i64 r.gen) := EIk.out.r0.cell 3
  have r4 : wk.cell? ⟨w.heap.size, 4, none⟩ = some (.int .i64 r.group) := EIk.out.r0.cell 4
  have r5 : wk.cell? ⟨w.heap.size, 5, none⟩ = some (.int .i64 r.groups) := EIk.out.r0.cell 5
  have r6 : wk.cell? ⟨w.heap.size, 6, none⟩ = some (.int .i64 r.index) := EIk.out.r0.cell 6
  have r7 : wk.cell? ⟨w.heap.size, 7, none⟩ = some (.int .i64 r.size) := EIk.out.r0.cell 7
  have r8 : wk.cell? ⟨w.heap.size, 8, none⟩ = some (strV r.sum) := EIk.out.r0.cell 8
  have r9 : wk.cell? ⟨w.heap.size, 9, none⟩ = some (.slice RA r.data.length rc) := EIk.out.r0.cell 9
  have hwk : w.heap.size < wk.heap.size := EIk.out.r0.size
  by_cases c0 : p.r.group = (g : Int)
  · have q0 : (p.r.group == (g : Int)) = true := by simpa using c0
    have n0 : (p.r.group != (g : Int)) = false := by simpa using c0
    by_cases c1 : p.r.index = (i : Int)
    · have q1 : (p.r.index == (i : Int)) = true := by simpa using c1
      have n1 : (p.r.index != (i : Int)) = false := by simpa using c1
      by_cases c2 : p.r.kind = 2
      · have q2 : (p.r.kind == 2) = true := by simpa using c2
        by_cases c3 : p.r.key = r.key
        · have q3 : (p.r.key == r.key) = true := by simpa using c3
          by_cases c4 : p.r.gen = r.gen
          · have q4 : (p.r.gen == r.gen) = true := by simpa using c4
            by_cases c5 : p.r.size = r.size
            · have q5 : (p.r.size == r.size) = true := by simpa using c5
              by_cases c6 : p.r.sum = r.sum
              · have q6 : (p.r.sum == r.sum) = true := by simpa using c6
                have V := Lib.hid (show firstAt (L.drop i1) (ofR r) s = (p.cart, p.pos) by rw [FD.out, if_pos (by unfold shardB; simp only [decide_eq_true c0, decide_eq_true c1, decide_eq_true c2, decide_eq_true c3, decide_eq_true c4, decide_eq_true c5, decide_eq_true c6, Bool.and_true])])
                clear c0 c1 c2 c3 c4 c5 c6
                obtain ⟨⟨x, y⟩, hxy⟩ : ∃ z, firstAt (L.drop (i1 + 1)) (ofR r) s = z := ⟨_, rfl⟩
                rw [hxy] at HAT
                clear hxy
                have a0 : wk.cell? ⟨wp.heap.size, 0, none⟩ = some (.int .i64 x) := HAT.out.cell 0
                have a1 : wk.cell? ⟨wp.heap.size, 1, none⟩ = some (.int .i64 y) := HAT.out.cell 1
                have b0 : wk.frozen? ⟨wp.heap.size, 0, none⟩ = false := HAT.out.free 0
                have b1 : wk.frozen? ⟨wp.heap.size, 1, none⟩ = false := HAT.out.free 1
                go_wp2_with fail
                go_roundw
                case rel => exact ⟨i1, (i1 : Int) - 1, rfl, rfl, Nat.le_of_lt hin, by rw [V.out]; exact (blk_two HAT.out _ _).alloc _, ((BK.out.setCell (p := ⟨wp.heap.size, 0, none⟩) (Nat.le_refl _) _).setCell (p := ⟨wp.heap.size, 1, none⟩) (Nat.le_refl _) _).alloc (by simp; exact hzk) _⟩
                case measure => (simp only [intOf]; omega)
              · have q6 : (p.r.sum == r.sum) = false := by simpa using c6
                have p6 : (⟨(p.r.sum).toArray⟩ : ByteArray) ≠ ⟨(r.sum).toArray⟩ := fun h => c6 (by have h2 := congrArg (fun b => b.data.toList) h; simpa using h2)
                have V := Lib.hid (show firstAt (L.drop i1) (ofR r) s = firstAt (L.drop (i1 + 1)) (ofR r) s by rw [FD.out, if_neg (by unfold shardB; simp only [decide_eq_false c6, Bool.false_and, Bool.and_false]; exact Bool.false_ne_true)])
                clear c0 c1 c2 c3 c4 c5 c6
                go_wp2_with fail
                go_roundw
                case rel => exact ⟨i1, (i1 : Int) - 1, rfl, rfl, Nat.le_of_lt hin, by rw [V.out]; exact HAT.out.alloc _, BK.out.alloc hzk _⟩
                case measure => (simp only [intOf]; omega)
            · have q5 : (p.r.size == r.size) = false := by simpa using c5
              have V := Lib.hid (show firstAt (L.drop i1) (ofR r) s = firstAt (L.drop (i1 + 1)) (ofR r) s by rw [FD.out, if_neg (by unfold shardB; simp only [decide_eq_false c5, Bool.false_and, Bool.and_false]; exact Bool.false_ne_true)])
              clear c0 c1 c2 c3 c4 c5
              go_wp2_with fail
              go_roundw
              case rel => exact ⟨i1, (i1 : Int) - 1, rfl, rfl, Nat.le_of_lt hin, by rw [V.out]; exact HAT.out.alloc _, BK.out.alloc hzk _⟩
              case measure => (simp only [intOf]; omega)
          · have q4 : (p.r.gen == r.gen) = false := by simpa using c4
            have V := Lib.hid (show firstAt (L.drop i1) (ofR r) s = firstAt (L.drop (i1 + 1)) (ofR r) s by rw [FD.out, if_neg (by unfold shardB; simp only [decide_eq_false c4, Bool.false_and, Bool.and_false]; exact Bool.false_ne_true)])
            clear c0 c1 c2 c3 c4
            go_wp2_with fail
            go_roundw
            case rel => exact ⟨i1, (i1 : Int) - 1, rfl, rfl, Nat.le_of_lt hin, by rw [V.out]; exact HAT.out.alloc _, BK.out.alloc hzk _⟩
            case measure => (simp only [intOf]; omega)
        · have q3 : (p.r.key == r.key) = false := by simpa using c3
          have p3 : (⟨(p.r.key).toArray⟩ : ByteArray) ≠ ⟨(r.key).toArray⟩ := fun h => c3 (by have h2 := congrArg (fun b => b.data.toList) h; simpa using h2)
          have V := Lib.hid (show firstAt (L.drop i1) (ofR r) s = firstAt (L.drop (i1 + 1)) (ofR r) s by rw [FD.out, if_neg (by unfold shardB; simp only [decide_eq_false c3, Bool.false_and, Bool.and_false]; exact Bool.false_ne_true)])
          clear c0 c1 c2 c3
          go_wp2_with fail
          go_roundw
          case rel => exact ⟨i1, (i1 : Int) - 1, rfl, rfl, Nat.le_of_lt hin, by rw [V.out]; exact HAT.out.alloc _, BK.out.alloc hzk _⟩
          case measure => (simp only [intOf]; omega)
      · have q2 : (p.r.kind == 2) = false := by simpa using c2
        have V := Lib.hid (show firstAt (L.drop i1) (ofR r) s = firstAt (L.drop (i1 + 1)) (ofR r) s by rw [FD.out, if_neg (by unfold shardB; simp only [decide_eq_false c2, Bool.false_and]; exact Bool.false_ne_true)])
        clear c0 c1 c2
        go_wp2_with fail
        go_roundw
        case rel => exact ⟨i1, (i1 : Int) - 1, rfl, rfl, Nat.le_of_lt hin, by rw [V.out]; exact HAT.out.alloc _, BK.out.alloc hzk _⟩
        case measure => (simp only [intOf]; omega)
    · have q1 : (p.r.index == (i : Int)) = false := by simpa using c1
      have n1 : (p.r.index != (i : Int)) = true := by simpa using c1
      have V := Lib.hid (show firstAt (L.drop i1) (ofR r) s = firstAt (L.drop (i1 + 1)) (ofR r) s by rw [FD.out, if_neg (by unfold shardB; simp only [decide_eq_false c1, Bool.and_false]; exact Bool.false_ne_true)])
      clear c0 c1
      go_wp2_with fail
      go_roundw
      case rel => exact ⟨i1, (i1 : Int) - 1, rfl, rfl, Nat.le_of_lt hin, by rw [V.out]; exact HAT.out, BK.out⟩
      case measure => (simp only [intOf]; omega)
  · have q0 : (p.r.group == (g : Int)) = false := by simpa using c0
    have n0 : (p.r.group != (g : Int)) = true := by simpa using c0
    have V := Lib.hid (show firstAt (L.drop i1) (ofR r) s = firstAt (L.drop (i1 + 1)) (ofR r) s by rw [FD.out, if_neg (by unfold shardB; simp only [decide_eq_false c0, Bool.false_and, Bool.and_false]; exact Bool.false_ne_true)])
    clear c0
    go_wp2_with fail
    go_roundw
    case rel => exact ⟨i1, (i1 : Int) - 1, rfl, rfl, Nat.le_of_lt hin, by rw [V.out]; exact HAT.out, BK.out⟩
    case measure => (simp only [intOf]; omega)
end Go.Proofs.Ythceidacmeadkaa
