/- The document's question whether a record may be. No condition beyond those that each theorem states. -/
import Derived.Test.YthceidacmeadkaaU1
import Derived.Test.YthceidacmeadkaaSF
import Derived.BigQuiet
import Derived.Deep.DeepCutAuto
import Derived.Deep.CutBlock
namespace Go.Proofs.Ythceidacmeadkaa
open Go.RowKit Go.Maps Go.WideMaps Go.Sort Go.Shelf
attribute [local go_sem] Oper.semAt_some

def chain9 (r : RecV) : Bool := inV r.size 0 512 && (decide (r.groups = groupsV r.size) && (decide (0 ≤ r.group) && (decide (r.group < r.groups) && (inV r.index 0 9 && (decide (r.sum.length = 32) && decide (r.data.length = 16))))))
def good9V (r : RecV) : Bool := inV r.kind 1 3 && sameR r (bareR r) && (if r.kind = 1 then inV r.cart 0 31 else inV (r.key.length : Int) 1 16 && (inV r.gen 0 1099511627776 && (if r.kind = 3 then true else chain9 r)))
theorem good9_eq (r : RecV) : good9V r = goodV r := by
  rw [Bool.eq_iff_iff]
  unfold good9V goodV
  by_cases k1 : r.kind = 1
  · simp [inV, sameR, bareR, k1, withinV, noneV]
    constructor <;> intro h <;> simp_all <;> omega
  · by_cases k3 : r.kind = 3
    · simp [inV, sameR, bareR, k3, withinV, noneV, keyV]
      constructor <;> intro h <;> simp_all <;> omega
    · by_cases k2 : r.kind = 2
      · simp [inV, sameR, bareR, k2, withinV, keyV, shardV, chain9]
        intro _
        constructor <;> intro h <;> simp_all <;> omega
      · simp [inV, k1, k2, k3]
        omega
set_option maxHeartbeats 8000000
set_option maxRecDepth 100000
theorem sGood9 (r : RecV) (A : Option Addr) (c : Nat) (w : World) (hA : BytesIn w A r.data.length r.data) :
    Calls Try.prog 49 #[recV r A c] w fun e w' => e = .returned (.bool (goodV r)) ∧ Below w.heap.size w w' := by
  rw [← good9_eq]
  have HA := Lib.hid hA
  clear hA
  obtain ⟨w0, hw0⟩ : ∃ z, w.alloc (.cells (recCells r A c) 37) = z := ⟨_, rfl⟩
  have B0 := Lib.hid (show Below w.heap.size w w0 by rw [← hw0]; exact below_al7 w _)
  have BR := Lib.hid (show Blk w0 w.heap.size 37 (recCells r A c) by rw [← hw0]; exact Blk.made _ _ _)
  have HA0 := Lib.hid (HA.out.belowU B0.out)
  have hb0 := BR.out.size
  have SB := Lib.hid (show ∀ W, Below w0.heap.size w0 W → Calls Try.prog 67 #[.agg #[.int .i64 r.kind, .int .i64 r.cart, strV r.key, .int .i64 r.gen, .int .i64 r.group, .int .i64 r.groups, .int .i64 r.index, .int .i64 r.size, strV r.sum, .slice A r.data.length c]] W fun e w' => ∃ B d, e = .returned (recV (bareR r) B d) ∧ BytesIn w' B (bareR r).data.length (bareR r).data ∧ Below W.heap.size W w' from fun W h => sBare9 r A c W (HA0.out.belowU h))
  have SS := Lib.hid (show ∀ W B d, Below w0.heap.size w0 W → BytesIn W B (bareR r).data.length (bareR r).data → Calls Try.prog 66 #[.agg #[.int .i64 r.kind, .int .i64 r.cart, strV r.key, .int .i64 r.gen, .int .i64 r.group, .int .i64 r.groups, .int .i64 r.index, .int .i64 r.size, strV r.sum, .slice A r.data.length c], recV (bareR r) B d] W fun e w' => e = .returned (.bool (sameR r (bareR r))) ∧ Below W.heap.size W w' from fun W B d h hB => sSame9 r A c (bareR r) B d W (HA0.out.belowU h) hB)
  simp only [recCells] at hw0
  unfold recV recCells
  go_enter Try.func49, Try.ntmps49
  go_upto_region 1 with fail
  clear hw0
  have x0 : w0.cell? ⟨w.heap.size, 0, none⟩ = some (.int .i64 r.kind) := BR.out.cell 0
  have x1 : w0.cell? ⟨w.heap.size, 1, none⟩ = some (.int .i64 r.cart) := BR.out.cell 1
  have x2 : w0.cell? ⟨w.heap.size, 2, none⟩ = some (strV r.key) := BR.out.cell 2
  have x3 : w0.cell? ⟨w.heap.size, 3, none⟩ = some (.int .i64 r.gen) := BR.out.cell 3
  have x4 : w0.cell? ⟨w.heap.size, 4, none⟩ = some (.int .i64 r.group) := BR.out.cell 4
  have x5 : w0.cell? ⟨w.heap.size, 5, none⟩ = some (.int .i64 r.groups) := BR.out.cell 5
  have x6 : w0.cell? ⟨w.heap.size, 6, none⟩ = some (.int .i64 r.index) := BR.out.cell 6
  have x7 : w0.cell? ⟨w.heap.size, 7, none⟩ = some (.int .i64 r.size) := BR.out.cell 7
  have x8 : w0.cell? ⟨w.heap.size, 8, none⟩ = some (strV r.sum) := BR.out.cell 8
  have x9 : w0.cell? ⟨w.heap.size, 9, none⟩ = some (.slice A r.data.length c) := BR.out.cell 9
  go_cut [13] from 3 to 12 (fun v wx => v = .bool (!(inV r.kind 1 3 && sameR r (bareR r))) ∧ Below w0.heap.size w0 wx)
  case first =>
    have BW := Lib.hid (Below.refl w0.heap.size w0)
    cases qi : inV r.kind 1 3 with
    | false =>
      refine wp_region_held_drew (S := (fun w' => w'.cell? ⟨w.heap.size, 0, none⟩ = some (.int .i64 r.kind) ∧ w'.cell? ⟨w.heap.size, 1, none⟩ = some (.int .i64 r.cart) ∧ w'.cell? ⟨w.heap.size, 2, none⟩ = some (strV r.key) ∧ w'.cell? ⟨w.heap.size, 3, none⟩ = some (.int .i64 r.gen) ∧ w'.cell? ⟨w.heap.size, 4, none⟩ = some (.int .i64 r.group) ∧ w'.cell? ⟨w.heap.size, 5, none⟩ = some (.int .i64 r.groups) ∧ w'.cell? ⟨w.heap.size, 6, none⟩ = some (.int .i64 r.index) ∧ w'.cell? ⟨w.heap.size, 7, none⟩ = some (.int .i64 r.size) ∧ w'.cell? ⟨w.heap.size, 8, none⟩ = some (strV r.sum) ∧ w'.cell? ⟨w.heap.size, 9, none⟩ = some (.slice A r.data.length c))) (by kernel_rfl) ⟨x0, x1, x2, x3, x4, x5, x6, x7, x8, x9⟩ (fun hHeld => ?_)
      refine wpAnyH_take (i := 0) (v := ?vG9an10) (take_list rfl) (by kernel_rfl) (by kernel_rfl) (by kernel_rfl) (fun _ _ _ h => h) (Or.inl ⟨by rfl, ?hyG9an10⟩) (by assumption) ?restG9an10
      case hyG9an10 => (intro w hSw; (try dsimp only at hSw); go_simp <;> with_reducible rfl)
      try simp only [Act.put, List.setIfInBounds_toArray, List.set_cons_zero, List.set_cons_succ]
      refine wpAnyH_take (i := 1) (v := ?vG9an11) (take_list rfl) (by kernel_rfl) (by kernel_rfl) (by kernel_rfl) (fun _ _ _ h => h) (Or.inl ⟨by rfl, ?hyG9an11⟩) (by assumption) ?restG9an11
      case hyG9an11 => (intro w hSw; (try dsimp only at hSw); go_simp <;> with_reducible rfl)
      try simp only [Act.put, List.setIfInBounds_toArray, List.set_cons_zero, List.set_cons_succ]
      refine wpAnyH_ready (rs := [2]) (by kernel_rfl) (by simp) ?_
      refine AllReadyH.cons rfl (fun K hK => ?_) AllReadyH.nil
      go_simp
      go_wp2_with (go_at_call 65; refine (sIn9 _ _ _ _).mono ?_; rintro e w9 ⟨rfl, rfl⟩; rw [qi])
      clear hHeld
      refine hK.out _ _ ⟨(have h := keepc BW.out hb0 x0; h), (have h := keepc BW.out hb0 x1; h), (have h := keepc BW.out hb0 x2; h), (have h := keepc BW.out hb0 x3; h), (have h := keepc BW.out hb0 x4; h), (have h := keepc BW.out hb0 x5; h), (have h := keepc BW.out hb0 x6; h), (have h := keepc BW.out hb0 x7; h), (have h := keepc BW.out hb0 x8; h), (have h := keepc BW.out hb0 x9; h)⟩ (fun hHeld => ?_)
      clear hK K
      refine wpAnyH_take (i := 3) (v := ?vG9an13) (take_list rfl) (by kernel_rfl) (by kernel_rfl) (by kernel_rfl) (fun _ _ _ h => h) (Or.inl ⟨by rfl, ?hyG9an13⟩) (by assumption) ?restG9an13
      case hyG9an13 => (intro w hSw; (try dsimp only at hSw); go_simp <;> with_reducible rfl)
      try simp only [Act.put, List.setIfInBounds_toArray, List.set_cons_zero, List.set_cons_succ]
      refine wpAnyH_take (i := 4) (v := ?vG9an14) (take_list rfl) (by kernel_rfl) (by kernel_rfl) (by kernel_rfl) (fun _ _ _ h => h) (Or.inl ⟨by rfl, ?hyG9an14⟩) (by assumption) ?restG9an14
      case hyG9an14 => (intro w hSw; (try dsimp only at hSw); go_simp <;> with_reducible rfl)
      try simp only [Act.put, List.setIfInBounds_toArray, List.set_cons_zero, List.set_cons_succ]
      refine wpAnyH_take (i := 5) (v := undef) (take_list rfl) (by kernel_rfl) (by kernel_rfl) (by kernel_rfl) (fun _ _ _ h => h) (Or.inr ⟨by rfl, rfl⟩) (by assumption) ?_
      try simp only [Act.put, List.setIfInBounds_toArray, List.set_cons_zero, List.set_cons_succ]
      refine wpAnyH_take (i := 6) (v := undef) (take_list rfl) (by kernel_rfl) (by kernel_rfl) (by kernel_rfl) (fun _ _ _ h => h) (Or.inr ⟨by rfl, rfl⟩) (by assumption) ?_
      try simp only [Act.put, List.setIfInBounds_toArray, List.set_cons_zero, List.set_cons_succ]
      refine wpAnyH_take (i := 7) (v := undef) (take_list rfl) (by kernel_rfl) (by kernel_rfl) (by kernel_rfl) (fun _ _ _ h => h) (Or.inr ⟨by rfl, rfl⟩) (by assumption) ?_
      try simp only [Act.put, List.setIfInBounds_toArray, List.set_cons_zero, List.set_cons_succ]
      refine wpAnyH_take (i := 8) (v := undef) (take_list rfl) (by kernel_rfl) (by kernel_rfl) (by kernel_rfl) (fun _ _ _ h => h) (Or.inr ⟨by rfl, rfl⟩) (by assumption) ?_
      try simp only [Act.put, List.setIfInBounds_toArray, List.set_cons_zero, List.set_cons_succ]
      refine wpAnyH_take (i := 9) (v := undef) (take_list rfl) (by kernel_rfl) (by kernel_rfl) (by kernel_rfl) (fun _ _ _ h => h) (Or.inr ⟨by rfl, rfl⟩) (by assumption) ?_
      try simp only [Act.put, List.setIfInBounds_toArray, List.set_cons_zero, List.set_cons_succ]
      refine wpAnyH_take (i := 10) (v := ?vG9an110) (take_list rfl) (by kernel_rfl) (by kernel_rfl) (by kernel_rfl) (fun _ _ _ h => h) (Or.inl ⟨by rfl, ?hyG9an110⟩) (by assumption) ?restG9an110
      case hyG9an110 => (intro w hSw; (try dsimp only at hSw); go_simp <;> with_reducible rfl)
      try simp only [Act.put, List.setIfInBounds_toArray, List.set_cons_zero, List.set_cons_succ]
      refine wpAnyH_done (by kernel_rfl) ?_ _
      go_wp2_with fail
      go_meet
      exact ⟨by rw [qi]; rfl, below_drewed _ _⟩
    | true =>
      cases qs : sameR r (bareR r)
      case false =>
        refine wp_region_held_drew (S := (fun w' => w'.cell? ⟨w.heap.size, 0, none⟩ = some (.int .i64 r.kind) ∧ w'.cell? ⟨w.heap.size, 1, none⟩ = some (.int .i64 r.cart) ∧ w'.cell? ⟨w.heap.size, 2, none⟩ = some (strV r.key) ∧ w'.cell? ⟨w.heap.size, 3, none⟩ = some (.int .i64 r.gen) ∧ w'.cell? ⟨w.heap.size, 4, none⟩ = some (.int .i64 r.group) ∧ w'.cell? ⟨w.heap.size, 5, none⟩ = some (.int .i64 r.groups) ∧ w'.cell? ⟨w.heap.size, 6, none⟩ = some (.int .i64 r.index) ∧ w'.cell? ⟨w.heap.size, 7, none⟩ = some (.int .i64 r.size) ∧ w'.cell? ⟨w.heap.size, 8, none⟩ = some (strV r.sum) ∧ w'.cell? ⟨w.heap.size, 9, none⟩ = some (.slice A r.data.length c))) (by kernel_rfl) ⟨x0, x1, x2, x3, x4, x5, x6, x7, x8, x9⟩ (fun hHeld => ?_)
        refine wpAnyH_take (i := 0) (v := ?vG9fn20) (take_list rfl) (by kernel_rfl) (by kernel_rfl) (by kernel_rfl) (fun _ _ _ h => h) (Or.inl ⟨by rfl, ?hyG9fn20⟩) (by assumption) ?restG9fn20
        case hyG9fn20 => (intro w hSw; (try dsimp only at hSw); go_simp <;> with_reducible rfl)
        try simp only [Act.put, List.setIfInBounds_toArray, List.set_cons_zero, List.set_cons_succ]
        refine wpAnyH_take (i := 1) (v := ?vG9fn21) (take_list rfl) (by kernel_rfl) (by kernel_rfl) (by kernel_rfl) (fun _ _ _ h => h) (Or.inl ⟨by rfl, ?hyG9fn21⟩) (by assumption) ?restG9fn21
        case hyG9fn21 => (intro w hSw; (try dsimp only at hSw); go_simp <;> with_reducible rfl)
        try simp only [Act.put, List.setIfInBounds_toArray, List.set_cons_zero, List.set_cons_succ]
        refine wpAnyH_ready (rs := [2]) (by kernel_rfl) (by simp) ?_
        refine AllReadyH.cons rfl (fun K hK => ?_) AllReadyH.nil
        go_simp
        go_wp2_with (go_at_call 65; refine (sIn9 _ _ _ _).mono ?_; rintro e w9 ⟨rfl, rfl⟩; rw [qi])
        clear hHeld
        refine hK.out _ _ ⟨(have h := keepc BW.out hb0 x0; h), (have h := keepc BW.out hb0 x1; h), (have h := keepc BW.out hb0 x2; h), (have h := keepc BW.out hb0 x3; h), (have h := keepc BW.out hb0 x4; h), (have h := keepc BW.out hb0 x5; h), (have h := keepc BW.out hb0 x6; h), (have h := keepc BW.out hb0 x7; h), (have h := keepc BW.out hb0 x8; h), (have h := keepc BW.out hb0 x9; h)⟩ (fun hHeld => ?_)
        clear hK K
        refine wpAnyH_take (i := 3) (v := ?vG9fn23) (take_list rfl) (by kernel_rfl) (by kernel_rfl) (by kernel_rfl) (fun _ _ _ h => h) (Or.inl ⟨by rfl, ?hyG9fn23⟩) (by assumption) ?restG9fn23
        case hyG9fn23 => (intro w hSw; (try dsimp only at hSw); go_simp <;> with_reducible rfl)
        try simp only [Act.put, List.setIfInBounds_toArray, List.set_cons_zero, List.set_cons_succ]
        refine wpAnyH_take (i := 4) (v := ?vG9fn24) (take_list rfl) (by kernel_rfl) (by kernel_rfl) (by kernel_rfl) (fun _ _ _ h => h) (Or.inl ⟨by rfl, ?hyG9fn24⟩) (by assumption) ?restG9fn24
        case hyG9fn24 => (intro w hSw; (try dsimp only at hSw); go_simp <;> with_reducible rfl)
        try simp only [Act.put, List.setIfInBounds_toArray, List.set_cons_zero, List.set_cons_succ]
        refine wpAnyH_take (i := 5) (v := ?vG9fn25) (take_list rfl) (by kernel_rfl) (by kernel_rfl) (by kernel_rfl) (fun _ _ _ h => h) (Or.inl ⟨by rfl, ?hyG9fn25⟩) (by assumption) ?restG9fn25
        case hyG9fn25 => (intro w hSw; (try dsimp only at hSw); go_simp <;> with_reducible rfl)
        try simp only [Act.put, List.setIfInBounds_toArray, List.set_cons_zero, List.set_cons_succ]
        refine wpAnyH_take (i := 6) (v := ?vG9fn26) (take_list rfl) (by kernel_rfl) (by kernel_rfl) (by kernel_rfl) (fun _ _ _ h => h) (Or.inl ⟨by rfl, ?hyG9fn26⟩) (by assumption) ?restG9fn26
        case hyG9fn26 => (intro w hSw; (try dsimp only at hSw); go_simp <;> with_reducible rfl)
        try simp only [Act.put, List.setIfInBounds_toArray, List.set_cons_zero, List.set_cons_succ]
        refine wpAnyH_ready (rs := [7]) (by kernel_rfl) (by simp) ?_
        refine AllReadyH.cons rfl (fun K hK => ?_) AllReadyH.nil
        go_simp
        go_wp2_with (go_at_call 67; refine (SB.out _ (below_drewed _ _)).mono ?_; rintro e w1 ⟨B, d, rfl, hB, hb⟩; have BW := Lib.hid (show Below w0.heap.size w0 w1 from below_of_drew hb); have HB := Lib.hid hB; clear hB hb)
        clear hHeld
        refine hK.out _ _ ⟨(have h := keepc BW.out hb0 x0; h), (have h := keepc BW.out hb0 x1; h), (have h := keepc BW.out hb0 x2; h), (have h := keepc BW.out hb0 x3; h), (have h := keepc BW.out hb0 x4; h), (have h := keepc BW.out hb0 x5; h), (have h := keepc BW.out hb0 x6; h), (have h := keepc BW.out hb0 x7; h), (have h := keepc BW.out hb0 x8; h), (have h := keepc BW.out hb0 x9; h)⟩ (fun hHeld => ?_)
        clear hK K
        refine wpAnyH_ready (rs := [8]) (by kernel_rfl) (by simp) ?_
        refine AllReadyH.cons rfl (fun K hK => ?_) AllReadyH.nil
        go_simp
        go_wp2_with (go_at_call 66; refine (SS.out _ B d BW.out HB.out).mono ?_; rintro e w2 ⟨rfl, hb⟩; rw [qs]; have BW := Lib.hid (BW.out.trans (hb.mono BW.out.size)); clear hb)
        clear hHeld
        refine hK.out _ _ ⟨(have h := keepc BW.out hb0 x0; h), (have h := keepc BW.out hb0 x1; h), (have h := keepc BW.out hb0 x2; h), (have h := keepc BW.out hb0 x3; h), (have h := keepc BW.out hb0 x4; h), (have h := keepc BW.out hb0 x5; h), (have h := keepc BW.out hb0 x6; h), (have h := keepc BW.out hb0 x7; h), (have h := keepc BW.out hb0 x8; h), (have h := keepc BW.out hb0 x9; h)⟩ (fun hHeld => ?_)
        clear hK K
        refine wpAnyH_take (i := 9) (v := ?vG9fn29) (take_list rfl) (by kernel_rfl) (by kernel_rfl) (by kernel_rfl) (fun _ _ _ h => h) (Or.inl ⟨by rfl, ?hyG9fn29⟩) (by assumption) ?restG9fn29
        case hyG9fn29 => (intro w hSw; (try dsimp only at hSw); go_simp <;> with_reducible rfl)
        try simp only [Act.put, List.setIfInBounds_toArray, List.set_cons_zero, List.set_cons_succ]
        refine wpAnyH_take (i := 10) (v := ?vG9fn210) (take_list rfl) (by kernel_rfl) (by kernel_rfl) (by kernel_rfl) (fun _ _ _ h => h) (Or.inl ⟨by rfl, ?hyG9fn210⟩) (by assumption) ?restG9fn210
        case hyG9fn210 => (intro w hSw; (try dsimp only at hSw); go_simp <;> with_reducible rfl)
        try simp only [Act.put, List.setIfInBounds_toArray, List.set_cons_zero, List.set_cons_succ]
        refine wpAnyH_done (by kernel_rfl) ?_ _
        go_wp2_with fail
        go_meet
        exact ⟨by rw [qi, qs]; rfl, by first | exact BW.out | exact BW.out.drew⟩
      case true =>
        refine wp_region_held_drew (S := (fun w' => w'.cell? ⟨w.heap.size, 0, none⟩ = some (.int .i64 r.kind) ∧ w'.cell? ⟨w.heap.size, 1, none⟩ = some (.int .i64 r.cart) ∧ w'.cell? ⟨w.heap.size, 2, none⟩ = some (strV r.key) ∧ w'.cell? ⟨w.heap.size, 3, none⟩ = some (.int .i64 r.gen) ∧ w'.cell? ⟨w.heap.size, 4, none⟩ = some (.int .i64 r.group) ∧ w'.cell? ⟨w.heap.size, 5, none⟩ = some (.int .i64 r.groups) ∧ w'.cell? ⟨w.heap.size, 6, none⟩ = some (.int .i64 r.index) ∧ w'.cell? ⟨w.heap.size, 7, none⟩ = some (.int .i64 r.size) ∧ w'.cell? ⟨w.heap.size, 8, none⟩ = some (strV r.sum) ∧ w'.cell? ⟨w.heap.size, 9, none⟩ = some (.slice A r.data.length c))) (by kernel_rfl) ⟨x0, x1, x2, x3, x4, x5, x6, x7, x8, x9⟩ (fun hHeld => ?_)
        refine wpAnyH_take (i := 0) (v := ?vG9tn30) (take_list rfl) (by kernel_rfl) (by kernel_rfl) (by kernel_rfl) (fun _ _ _ h => h) (Or.inl ⟨by rfl, ?hyG9tn30⟩) (by assumption) ?restG9tn30
        case hyG9tn30 => (intro w hSw; (try dsimp only at hSw); go_simp <;> with_reducible rfl)
        try simp only [Act.put, List.setIfInBounds_toArray, List.set_cons_zero, List.set_cons_succ]
        refine wpAnyH_take (i := 1) (v := ?vG9tn31) (take_list rfl) (by kernel_rfl) (by kernel_rfl) (by kernel_rfl) (fun _ _ _ h => h) (Or.inl ⟨by rfl, ?hyG9tn31⟩) (by assumption) ?restG9tn31
        case hyG9tn31 => (intro w hSw; (try dsimp only at hSw); go_simp <;> with_reducible rfl)
        try simp only [Act.put, List.setIfInBounds_toArray, List.set_cons_zero, List.set_cons_succ]
        refine wpAnyH_ready (rs := [2]) (by kernel_rfl) (by simp) ?_
        refine AllReadyH.cons rfl (fun K hK => ?_) AllReadyH.nil
        go_simp
        go_wp2_with (go_at_call 65; refine (sIn9 _ _ _ _).mono ?_; rintro e w9 ⟨rfl, rfl⟩; rw [qi])
        clear hHeld
        refine hK.out _ _ ⟨(have h := keepc BW.out hb0 x0; h), (have h := keepc BW.out hb0 x1; h), (have h := keepc BW.out hb0 x2; h), (have h := keepc BW.out hb0 x3; h), (have h := keepc BW.out hb0 x4; h), (have h := keepc BW.out hb0 x5; h), (have h := keepc BW.out hb0 x6; h), (have h := keepc BW.out hb0 x7; h), (have h := keepc BW.out hb0 x8; h), (have h := keepc BW.out hb0 x9; h)⟩ (fun hHeld => ?_)
        clear hK K
        refine wpAnyH_take (i := 3) (v := ?vG9tn33) (take_list rfl) (by kernel_rfl) (by kernel_rfl) (by kernel_rfl) (fun _ _ _ h => h) (Or.inl ⟨by rfl, ?hyG9tn33⟩) (by assumption) ?restG9tn33
        case hyG9tn33 => (intro w hSw; (try dsimp only at hSw); go_simp <;> with_reducible rfl)
        try simp only [Act.put, List.setIfInBounds_toArray, List.set_cons_zero, List.set_cons_succ]
        refine wpAnyH_take (i := 4) (v := ?vG9tn34) (take_list rfl) (by kernel_rfl) (by kernel_rfl) (by kernel_rfl) (fun _ _ _ h => h) (Or.inl ⟨by rfl, ?hyG9tn34⟩) (by assumption) ?restG9tn34
        case hyG9tn34 => (intro w hSw; (try dsimp only at hSw); go_simp <;> with_reducible rfl)
        try simp only [Act.put, List.setIfInBounds_toArray, List.set_cons_zero, List.set_cons_succ]
        refine wpAnyH_take (i := 5) (v := ?vG9tn35) (take_list rfl) (by kernel_rfl) (by kernel_rfl) (by kernel_rfl) (fun _ _ _ h => h) (Or.inl ⟨by rfl, ?hyG9tn35⟩) (by assumption) ?restG9tn35
        case hyG9tn35 => (intro w hSw; (try dsimp only at hSw); go_simp <;> with_reducible rfl)
        try simp only [Act.put, List.setIfInBounds_toArray, List.set_cons_zero, List.set_cons_succ]
        refine wpAnyH_take (i := 6) (v := ?vG9tn36) (take_list rfl) (by kernel_rfl) (by kernel_rfl) (by kernel_rfl) (fun _ _ _ h => h) (Or.inl ⟨by rfl, ?hyG9tn36⟩) (by assumption) ?restG9tn36
        case hyG9tn36 => (intro w hSw; (try dsimp only at hSw); go_simp <;> with_reducible rfl)
        try simp only [Act.put, List.setIfInBounds_toArray, List.set_cons_zero, List.set_cons_succ]
        refine wpAnyH_ready (rs := [7]) (by kernel_rfl) (by simp) ?_
        refine AllReadyH.cons rfl (fun K hK => ?_) AllReadyH.nil
        go_simp
        go_wp2_with (go_at_call 67; refine (SB.out _ (below_drewed _ _)).mono ?_; rintro e w1 ⟨B, d, rfl, hB, hb⟩; have BW := Lib.hid (show Below w0.heap.size w0 w1 from below_of_drew hb); have HB := Lib.hid hB; clear hB hb)
        clear hHeld
        refine hK.out _ _ ⟨(have h := keepc BW.out hb0 x0; h), (have h := keepc BW.out hb0 x1; h), (have h := keepc BW.out hb0 x2; h), (have h := keepc BW.out hb0 x3; h), (have h := keepc BW.out hb0 x4; h), (have h := keepc BW.out hb0 x5; h), (have h := keepc BW.out hb0 x6; h), (have h := keepc BW.out hb0 x7; h), (have h := keepc BW.out hb0 x8; h), (have h := keepc BW.out hb0 x9; h)⟩ (fun hHeld => ?_)
        clear hK K
        refine wpAnyH_ready (rs := [8]) (by kernel_rfl) (by simp) ?_
        refine AllReadyH.cons rfl (fun K hK => ?_) AllReadyH.nil
        go_simp
        go_wp2_with (go_at_call 66; refine (SS.out _ B d BW.out HB.out).mono ?_; rintro e w2 ⟨rfl, hb⟩; rw [qs]; have BW := Lib.hid (BW.out.trans (hb.mono BW.out.size)); clear hb)
        clear hHeld
        refine hK.out _ _ ⟨(have h := keepc BW.out hb0 x0; h), (have h := keepc BW.out hb0 x1; h), (have h := keepc BW.out hb0 x2; h), (have h := keepc BW.out hb0 x3; h), (have h := keepc BW.out hb0 x4; h), (have h := keepc BW.out hb0 x5; h), (have h := keepc BW.out hb0 x6; h), (have h := keepc BW.out hb0 x7; h), (have h := keepc BW.out hb0 x8; h), (have h := keepc BW.out hb0 x9; h)⟩ (fun hHeld => ?_)
        clear hK K
        refine wpAnyH_take (i := 9) (v := ?vG9tn39) (take_list rfl) (by kernel_rfl) (by kernel_rfl) (by kernel_rfl) (fun _ _ _ h => h) (Or.inl ⟨by rfl, ?hyG9tn39⟩) (by assumption) ?restG9tn39
        case hyG9tn39 => (intro w hSw; (try dsimp only at hSw); go_simp <;> with_reducible rfl)
        try simp only [Act.put, List.setIfInBounds_toArray, List.set_cons_zero, List.set_cons_succ]
        refine wpAnyH_take (i := 10) (v := ?vG9tn310) (take_list rfl) (by kernel_rfl) (by kernel_rfl) (by kernel_rfl) (fun _ _ _ h => h) (Or.inl ⟨by rfl, ?hyG9tn310⟩) (by assumption) ?restG9tn310
        case hyG9tn310 => (intro w hSw; (try dsimp only at hSw); go_simp <;> with_reducible rfl)
        try simp only [Act.put, List.setIfInBounds_toArray, List.set_cons_zero, List.set_cons_succ]
        refine wpAnyH_done (by kernel_rfl) ?_ _
        go_wp2_with fail
        go_meet
        exact ⟨by rw [qi, qs]; rfl, by first | exact BW.out | exact BW.out.drew⟩
  case rest =>
    obtain ⟨rfl, hbc⟩ := hcut
    obtain ⟨w1, rfl⟩ : ∃ w1 : World, w1 = wc := ⟨_, rfl⟩
    have BC := Lib.hid (show Below w.heap.size w w1 from B0.out.trans (hbc.mono B0.out.size))
    have x0 := keepc hbc hb0 x0
    have x1 := keepc hbc hb0 x1
    have x2 := keepc hbc hb0 x2
    have x3 := keepc hbc hb0 x3
    have x4 := keepc hbc hb0 x4
    have x5 := keepc hbc hb0 x5
    have x6 := keepc hbc hb0 x6
    have x7 := keepc hbc hb0 x7
    have x8 := keepc hbc hb0 x8
    have x9 := keepc hbc hb0 x9
    clear hbc
    cases qh : inV r.kind 1 3 && sameR r (bareR r) with
    | false =>
      have V := Lib.hid (show good9V r = false by unfold good9V; rw [qh]; rfl)
      go_wp2_with fail
      go_ret
      rw [V.out]
      exact ⟨rfl, BC.out⟩
    | true =>
      by_cases k1 : r.kind = 1
      · have qk : (r.kind == 1) = true := by simpa using k1
        have V := Lib.hid (show good9V r = inV r.cart 0 31 by unfold good9V; rw [qh, if_pos k1]; rfl)
        clear k1
        go_wp2_with (go_at_call 65; refine (sIn9 _ _ _ _).mono ?_; rintro e w9 ⟨rfl, rfl⟩)
        go_ret
        rw [V.out]
        exact ⟨rfl, BC.out⟩
      · have qk : (r.kind == 1) = false := by simpa using k1
        cases qa : inV (r.key.length : Int) 1 16 with
        | false =>
          have V := Lib.hid (show good9V r = false by unfold good9V; rw [qh, if_neg k1]; rw [qa]; rfl)
          clear k1
          go_wp2_with (go_at_call 65; refine (sIn9 _ _ _ _).mono ?_; rintro e w9 ⟨rfl, rfl⟩; first | rw [qa] | rw [qb])
          go_ret
          rw [V.out]
          exact ⟨rfl, BC.out⟩
        | true =>
          cases qb : inV r.gen 0 1099511627776 with
          | false =>
            have V := Lib.hid (show good9V r = false by unfold good9V; rw [qh, if_neg k1]; rw [qa, qb]; rfl)
            clear k1
            go_wp2_with (go_at_call 65; refine (sIn9 _ _ _ _).mono ?_; rintro e w9 ⟨rfl, rfl⟩; first | rw [qa] | rw [qb])
            go_ret
            rw [V.out]
            exact ⟨rfl, BC.out⟩
          | true =>
            by_cases k3 : r.kind = 3
            · have qk3 : (r.kind == 3) = true := by simpa using k3
              have V := Lib.hid (show good9V r = true by unfold good9V; rw [qh, if_neg k1]; rw [qa, qb, if_pos k3]; rfl)
              clear k1 k3
              go_wp2_with (go_at_call 65; refine (sIn9 _ _ _ _).mono ?_; rintro e w9 ⟨rfl, rfl⟩; first | rw [qa] | rw [qb])
              go_ret
              rw [V.out]
              exact ⟨rfl, BC.out⟩
            · have qk3 : (r.kind == 3) = false := by simpa using k3
              have V := Lib.hid (show good9V r = chain9 r by unfold good9V; rw [qh, if_neg k1]; rw [qa, qb, if_neg k3]; rfl)
              clear k1 k3
              go_upto_region 9 with (go_at_call 65; refine (sIn9 _ _ _ _).mono ?_; rintro e w9 ⟨rfl, rfl⟩; first | rw [qa] | rw [qb])
              have V0 := V
              clear V qa qb qh
              by_cases c0 : inV r.size 0 512 = true
              · obtain ⟨sz, hsz⟩ : ∃ z : Nat, (z : Int) = r.size := ⟨r.size.toNat, by simp only [inV, Bool.and_eq_true, decide_eq_true_eq] at c0; omega⟩
                have hs5 : sz ≤ 512 := by simp only [inV, Bool.and_eq_true, decide_eq_true_eq] at c0; omega
                rw [← hsz] at x7 c0
                have HSZ := Lib.hid hsz
                clear hsz
                by_cases c1 : r.groups = groupsV sz
                · have q1 : (r.groups == groupsV sz) = true := by simpa using c1
                  by_cases c2 : 0 ≤ r.group
                  · have q2 : decide (0 ≤ r.group) = true := decide_eq_true c2
                    by_cases c3 : r.group < r.groups
                    · have q3 : decide (r.group < r.groups) = true := decide_eq_true c3
                      by_cases c4 : inV r.index 0 9 = true
                      · skip
                        by_cases c5 : r.sum.length = 32
                        · have q5 : ((r.sum.length : Int) == 32) = true := by rw [c5]; rfl
                          by_cases c6 : r.data.length = 16
                          · have q6 : ((r.data.length : Int) == 16) = true := by rw [c6]; rfl
                            have V := Lib.hid (show chain9 r = true by unfold chain9; rw [← HSZ.out]; simp only [c0, decide_eq_true c1, decide_eq_true c2, decide_eq_true c3, c4, decide_eq_true c5, decide_eq_true c6, Bool.true_and])
                            clear c1 c2 c3 c5 c6
                            go_quiet (first
                              | (go_at_call 65; exact quiet_eq (sIn9 _ _ _ _))
                              | (go_at_call 37; exact quiet_eq (sGroups9 _ (by omega) _)))
                            go_wp2_with fail
                            go_ret
                            rw [V0.out, V.out]
                            exact ⟨rfl, below_drewN BC.out _⟩
                          · have q6 : ((r.data.length : Int) == 16) = false := by rw [beq_eq_false_iff_ne]; omega
                            have V := Lib.hid (show chain9 r = false by unfold chain9; rw [← HSZ.out]; simp only [c0, decide_eq_true c1, decide_eq_true c2, decide_eq_true c3, c4, decide_eq_true c5, decide_eq_false c6, Bool.true_and])
                            clear c1 c2 c3 c5 c6
                            go_quiet (first
                              | (go_at_call 65; exact quiet_eq (sIn9 _ _ _ _))
                              | (go_at_call 37; exact quiet_eq (sGroups9 _ (by omega) _)))
                            go_wp2_with fail
                            go_ret
                            rw [V0.out, V.out]
                            exact ⟨rfl, below_drewN BC.out _⟩
                        · have q5 : ((r.sum.length : Int) == 32) = false := by rw [beq_eq_false_iff_ne]; omega
                          have V := Lib.hid (show chain9 r = false by unfold chain9; rw [← HSZ.out]; simp only [c0, decide_eq_true c1, decide_eq_true c2, decide_eq_true c3, c4, decide_eq_false c5, Bool.true_and, Bool.false_and])
                          clear c1 c2 c3 c5
                          go_quiet (first
                            | (go_at_call 65; exact quiet_eq (sIn9 _ _ _ _))
                            | (go_at_call 37; exact quiet_eq (sGroups9 _ (by omega) _)))
                          go_wp2_with fail
                          go_ret
                          rw [V0.out, V.out]
                          exact ⟨rfl, below_drewN BC.out _⟩
                      · have q4 : inV r.index 0 9 = false := by simpa using c4
                        have V := Lib.hid (show chain9 r = false by unfold chain9; rw [← HSZ.out]; simp only [c0, decide_eq_true c1, decide_eq_true c2, decide_eq_true c3, (by simpa using c4 : inV r.index 0 9 = false), Bool.true_and, Bool.false_and])
                        clear c1 c2 c3
                        go_quiet (first
                          | (go_at_call 65; exact quiet_eq (sIn9 _ _ _ _))
                          | (go_at_call 37; exact quiet_eq (sGroups9 _ (by omega) _)))
                        go_wp2_with fail
                        go_ret
                        rw [V0.out, V.out]
                        exact ⟨rfl, below_drewN BC.out _⟩
                    · have q3 : decide (r.group < r.groups) = false := decide_eq_false c3
                      have V := Lib.hid (show chain9 r = false by unfold chain9; rw [← HSZ.out]; simp only [c0, decide_eq_true c1, decide_eq_true c2, decide_eq_false c3, Bool.true_and, Bool.false_and])
                      clear c1 c2 c3
                      go_quiet (first
                        | (go_at_call 65; exact quiet_eq (sIn9 _ _ _ _))
                        | (go_at_call 37; exact quiet_eq (sGroups9 _ (by omega) _)))
                      go_wp2_with fail
                      go_ret
                      rw [V0.out, V.out]
                      exact ⟨rfl, below_drewN BC.out _⟩
                  · have q2 : decide (0 ≤ r.group) = false := decide_eq_false c2
                    have V := Lib.hid (show chain9 r = false by unfold chain9; rw [← HSZ.out]; simp only [c0, decide_eq_true c1, decide_eq_false c2, Bool.true_and, Bool.false_and])
                    clear c1 c2
                    go_quiet (first
                      | (go_at_call 65; exact quiet_eq (sIn9 _ _ _ _))
                      | (go_at_call 37; exact quiet_eq (sGroups9 _ (by omega) _)))
                    go_wp2_with fail
                    go_ret
                    rw [V0.out, V.out]
                    exact ⟨rfl, below_drewN BC.out _⟩
                · have q1 : (r.groups == groupsV sz) = false := by simpa using c1
                  have V := Lib.hid (show chain9 r = false by unfold chain9; rw [← HSZ.out]; simp only [c0, decide_eq_false c1, Bool.true_and, Bool.false_and])
                  clear c1
                  go_quiet (first
                    | (go_at_call 65; exact quiet_eq (sIn9 _ _ _ _))
                    | (go_at_call 37; exact quiet_eq (sGroups9 _ (by omega) _)))
                  go_wp2_with fail
                  go_ret
                  rw [V0.out, V.out]
                  exact ⟨rfl, below_drewN BC.out _⟩
              · have q0 : inV r.size 0 512 = false := by simpa using c0
                have V := Lib.hid (show chain9 r = false by unfold chain9; simp only [(by simpa using c0 : inV r.size 0 512 = false), Bool.false_and])
                skip
                go_quiet (first
                  | (go_at_call 65; exact quiet_eq (sIn9 _ _ _ _))
                  | (go_at_call 37; exact quiet_eq (sGroups9 _ (by omega) _)))
                go_wp2_with fail
                go_ret
                rw [V0.out, V.out]
                exact ⟨rfl, below_drewN BC.out _⟩
end Go.Proofs.Ythceidacmeadkaa
