/- Whether a shard of an entry was found at its place. No condition beyond those that each theorem states. -/
import Derived.Test.YthceidacmeadkaaSL
import Derived.Deep.DeepCutAuto
import Derived.Deep.CutBlock
namespace Go.Proofs.Ythceidacmeadkaa
open Go.RowKit Go.Maps Go.WideMaps Go.Sort
attribute [local go_sem] Oper.semAt_some

theorem blk_drew {w : World} {g : Nat} {t : TypeId} {cs : Array Value} (h : Blk w g t cs) : Blk w.drew g t cs := h
def matchB (k : Str) (gn sz : Int) (sm : Str) (x y : Int) (j t : Int) (p : FoundP) : Bool :=
  decide (p.cart = x) && (decide (p.pos = y) && (decide (p.pos < 1024) && (goodV p.r && (decide (p.r.kind = 2) && (decide (p.r.key = k) && (decide (p.r.gen = gn) && (decide (p.r.size = sz) && (decide (p.r.sum = sm) && (decide (p.r.group = j) && decide (p.r.index = t))))))))))
theorem any_take {P : List FoundP} {f : FoundP → Bool} {i : Nat} {p : FoundP} (h : P[i]? = some p) : (P.take (i + 1)).any f = ((P.take i).any f || f p) := by
  rw [List.take_add_one, h]
  simp [List.any_append]
theorem any_here {P : List FoundP} {f : FoundP → Bool} {i : Nat} {p : FoundP} (h : P[i]? = some p) (hf : f p = true) : P.any f = true := List.any_eq_true.2 ⟨p, List.mem_of_getElem? h, hf⟩
section
variable {P : Program} {ops : Array Oper} {Q : Exit → Act → World → Prop} {md : Region.Mode} {S : World → Prop}
theorem hT {i : Nat} {oi : Oper} {v : Value} {fuel : Nat} {listed : Array Bool} {a : Act} {w : World} (hi : ops[i]? = some oi)
    (hb : (Region.noSelect ops && (Region.free md ops listed i && (Region.ready md ops listed).contains i)) = true)
    (hQ : ∀ c a w, Q (.panic c) (a.put oi.dst v) w → Q (.panic c) a w) (hw : Region.wanted oi (yielded ops a.tmps) = true) (hy : ∀ w, S w → (execOp a.eval oi).run P w = .ok (.value v) w) (hS : S w)
    (h : wpAnyH P md ops Q S fuel (listed.setIfInBounds i true) (a.put oi.dst v) w) : wpAnyH P md ops Q S (fuel + 1) listed a w := by
  simp only [Bool.and_eq_true] at hb
  exact wpAnyH_take hi hb.1 hb.2.1 hb.2.2 hQ (.inl ⟨hw, hy⟩) hS h
theorem hU {i : Nat} {oi : Oper} {fuel : Nat} {listed : Array Bool} {a : Act} {w : World} (hi : ops[i]? = some oi)
    (hb : (Region.noSelect ops && (Region.free md ops listed i && (Region.ready md ops listed).contains i)) = true)
    (hQ : ∀ c a w, Q (.panic c) (a.put oi.dst undef) w → Q (.panic c) a w) (hw : Region.wanted oi (yielded ops a.tmps) = false) (hS : S w)
    (h : wpAnyH P md ops Q S fuel (listed.setIfInBounds i true) (a.put oi.dst undef) w) : wpAnyH P md ops Q S (fuel + 1) listed a w := by
  simp only [Bool.and_eq_true] at hb
  exact wpAnyH_take hi hb.1 hb.2.1 hb.2.2 hQ (.inr ⟨hw, rfl⟩) hS h
end
set_option maxHeartbeats 8000000 in
set_option maxRecDepth 100000 in
theorem sHolds (A : Option Addr) (n c : Nat) (P : List FoundP) (k : Str) (gn sz : Int) (sm : Str) (g q s : Nat) (x y : Int) (w : World) (hP : P.length = n) (_ : n ≤ c) (hn : n ≤ 1000000) (hS : SrcAt w A n (foundVals P))
    (hsq : s < q) (hq : q ≤ 1000000) (h0 : w.cell? ⟨g, s * 2, none⟩ = some (.int .i64 x)) (h1 : w.cell? ⟨g, s * 2 + 1, none⟩ = some (.int .i64 y)) :
    Calls Try.prog 15 #[.slice A n c, .agg #[strV k, .int .i64 gn, .int .i64 sz, strV sm, .slice (some ⟨g, 0, none⟩) q q], .int .i64 (s : Int)] w fun e w' => e = .returned (.bool (P.any (matchB k gn sz sm x y ((s / 10 : Nat) : Int) ((s % 10 : Nat) : Int)))) ∧ Below w.heap.size w w' := by
  have HP := Lib.hid hP
  have S0 := Lib.hid hS
  have p1 : (s : Int).tdiv 10 = ((s / 10 : Nat) : Int) := by rw [Int.tdiv_eq_ediv_of_nonneg (by omega)]; omega
  have p2 : (s : Int).tmod 10 = ((s % 10 : Nat) : Int) := by rw [Int.tmod_eq_emod_of_nonneg (by omega)]; omega
  have p3 : IntKind.i64.wrap (((s / 10 : Nat) : Int)) = ((s / 10 : Nat) : Int) := IntWalk.i64_in _ (by omega)
  obtain ⟨j, hj⟩ : ∃ j, s / 10 = j := ⟨_, rfl⟩
  obtain ⟨t, ht⟩ : ∃ t, s % 10 = t := ⟨_, rfl⟩
  rw [hj] at p1 p3
  rw [ht] at p2
  rw [hj, ht]
  obtain ⟨F, hF⟩ : ∃ F, matchB k gn sz sm x y (j : Int) (t : Int) = F := ⟨_, rfl⟩
  rw [hF]
  have HF := Lib.hid hF
  clear hP hS hj ht hF
  obtain ⟨w0, hw0⟩ : ∃ z, w.alloc (.cells #[strV k, .int .i64 gn, .int .i64 sz, strV sm, .slice (some ⟨g, 0, none⟩) q q] 32) = z := ⟨_, rfl⟩
  have BX := Lib.hid (show Blk w0 w.heap.size 32 #[strV k, .int .i64 gn, .int .i64 sz, strV sm, .slice (some ⟨g, 0, none⟩) q q] by rw [← hw0]; exact Blk.made _ _ _)
  have B0 := Lib.hid (show Below w.heap.size w w0 by rw [← hw0]; exact (Below.refl _ w).alloc (Nat.le_refl _) _)
  have hz0 : w.heap.size < w0.heap.size := by rw [← hw0]; simp
  have hgw : g < w.heap.size := World.block_lt_of_cell? _ _ h0
  have S1 := Lib.hid (src_below S0.out B0.out)
  have q0 := keepc B0.out hgw h0
  have q1 := keepc B0.out hgw h1
  have Q0 := Lib.hid q0
  have Q1 := Lib.hid q1
  clear h0 h1 q0 q1 S0
  go_enter Try.func15, Try.ntmps15
  go_upto_region 1 with fail
  clear hw0
  go_wp2_with fail
  go_loopw [7] (fun iv wr => ∃ i : Nat, iv = .int .i64 (i : Int) ∧ i ≤ n ∧ (P.take i).any F = false ∧ Below w0.heap.size w0 wr) (fun iv _ => n - (intOf iv).toNat)
  case atStart => exact ⟨0, rfl, Nat.zero_le _, rfl, Below.refl _ _⟩
  obtain ⟨i, rfl, hi, hfi, hbl⟩ := hrel
  obtain ⟨wo, rfl⟩ : ∃ wo : World, wo = wr := ⟨_, rfl⟩
  have FI := Lib.hid hfi
  have BL := Lib.hid hbl
  have hzo := hbl.size
  clear hfi hbl
  by_cases hlt : i < n
  case neg =>
    have e1 : decide (i < n) = false := decide_eq_false hlt
    have e2 : decide ((i : Int) < (n : Int)) = false := decide_eq_false (by omega)
    have VF := Lib.hid (show P.any F = false by have h := FI.out; rwa [List.take_of_length_le (by rw [HP.out]; omega)] at h)
    go_wp2_with fail
    go_ret
    rw [VF.out]
    exact ⟨rfl, B0.out.trans (BL.out.mono (by omega))⟩
  have e1 : decide (i < n) = true := decide_eq_true hlt
  have e2 : decide ((i : Int) < (n : Int)) = true := decide_eq_true (by omega)
  have e3 : (i : Int) < (n : Int) := by omega
  have e4 : (0 : Int) ≤ (i : Int) := by omega
  have e5 : (0 : Int) ≤ (s : Int) := by omega
  have e6 : (s : Int) < (q : Int) := by omega
  have p9 : IntKind.i64.wrap ((i : Int) + 1) = ((i + 1 : Nat) : Int) := by rw [IntWalk.i64_in _ (by omega)]; omega
  obtain ⟨p, hp⟩ : ∃ p, P[i]? = some p := ⟨_, List.getElem?_eq_getElem (by rw [HP.out]; exact hlt)⟩
  obtain ⟨b, o, hAe, hc⟩ := src_some S1.out (by omega)
  subst hAe
  have y0 := hc (i * 12 + 0) (.int .i64 p.cart) (by rw [foundVals_get hp (by omega)]; rfl)
  have x0 : wo.cell? ⟨b, o + i * 12, none⟩ = some (.int .i64 p.cart) := keepc BL.out (World.block_lt_of_cell? _ _ y0) (by rw [show o + i * 12 = o + (i * 12 + 0) by omega]; exact y0)
  have y1 := hc (i * 12 + 1) (.int .i64 p.pos) (by rw [foundVals_get hp (by omega)]; rfl)
  have x1 : wo.cell? ⟨b, o + i * 12 + 1, none⟩ = some (.int .i64 p.pos) := keepc BL.out (World.block_lt_of_cell? _ _ y1) (by rw [show o + i * 12 + 1 = o + (i * 12 + 1) by omega]; exact y1)
  have y2 := hc (i * 12 + 2) (.int .i64 p.r.kind) (by rw [foundVals_get hp (by omega)]; rfl)
  have x2 : wo.cell? ⟨b, o + i * 12 + 2, none⟩ = some (.int .i64 p.r.kind) := keepc BL.out (World.block_lt_of_cell? _ _ y2) (by rw [show o + i * 12 + 2 = o + (i * 12 + 2) by omega]; exact y2)
  have y3 := hc (i * 12 + 3) (.int .i64 p.r.cart) (by rw [foundVals_get hp (by omega)]; rfl)
  have x3 : wo.cell? ⟨b, o + i * 12 + 3, none⟩ = some (.int .i64 p.r.cart) := keepc BL.out (World.block_lt_of_cell? _ _ y3) (by rw [show o + i * 12 + 3 = o + (i * 12 + 3) by omega]; exact y3)
  have y4 := hc (i * 12 + 4) (strV p.r.key) (by rw [foundVals_get hp (by omega)]; rfl)
  have x4 : wo.cell? ⟨b, o + i * 12 + 4, none⟩ = some (strV p.r.key) := keepc BL.out (World.block_lt_of_cell? _ _ y4) (by rw [show o + i * 12 + 4 = o + (i * 12 + 4) by omega]; exact y4)
  have y5 := hc (i * 12 + 5) (.int .i64 p.r.gen) (by rw [foundVals_get hp (by omega)]; rfl)
  have x5 : wo.cell? ⟨b, o + i * 12 + 5, none⟩ = some (.int .i64 p.r.gen) := keepc BL.out (World.block_lt_of_cell? _ _ y5) (by rw [show o + i * 12 + 5 = o + (i * 12 + 5) by omega]; exact y5)
  have y6 := hc (i * 12 + 6) (.int .i64 p.r.group) (by rw [foundVals_get hp (by omega)]; rfl)
  have x6 : wo.cell? ⟨b, o + i * 12 + 6, none⟩ = some (.int .i64 p.r.group) := keepc BL.out (World.block_lt_of_cell? _ _ y6) (by rw [show o + i * 12 + 6 = o + (i * 12 + 6) by omega]; exact y6)
  have y7 := hc (i * 12 + 7) (.int .i64 p.r.groups) (by rw [foundVals_get hp (by omega)]; rfl)
  have x7 : wo.cell? ⟨b, o + i * 12 + 7, none⟩ = some (.int .i64 p.r.groups) := keepc BL.out (World.block_lt_of_cell? _ _ y7) (by rw [show o + i * 12 + 7 = o + (i * 12 + 7) by omega]; exact y7)
  have y8 := hc (i * 12 + 8) (.int .i64 p.r.index) (by rw [foundVals_get hp (by omega)]; rfl)
  have x8 : wo.cell? ⟨b, o + i * 12 + 8, none⟩ = some (.int .i64 p.r.index) := keepc BL.out (World.block_lt_of_cell? _ _ y8) (by rw [show o + i * 12 + 8 = o + (i * 12 + 8) by omega]; exact y8)
  have y9 := hc (i * 12 + 9) (.int .i64 p.r.size) (by rw [foundVals_get hp (by omega)]; rfl)
  have x9 : wo.cell? ⟨b, o + i * 12 + 9, none⟩ = some (.int .i64 p.r.size) := keepc BL.out (World.block_lt_of_cell? _ _ y9) (by rw [show o + i * 12 + 9 = o + (i * 12 + 9) by omega]; exact y9)
  have y10 := hc (i * 12 + 10) (strV p.r.sum) (by rw [foundVals_get hp (by omega)]; rfl)
  have x10 : wo.cell? ⟨b, o + i * 12 + 10, none⟩ = some (strV p.r.sum) := keepc BL.out (World.block_lt_of_cell? _ _ y10) (by rw [show o + i * 12 + 10 = o + (i * 12 + 10) by omega]; exact y10)
  have y11 := hc (i * 12 + 11) (.slice p.A p.r.data.length p.c) (by rw [foundVals_get hp (by omega)]; rfl)
  have x11 : wo.cell? ⟨b, o + i * 12 + 11, none⟩ = some (.slice p.A p.r.data.length p.c) := keepc BL.out (World.block_lt_of_cell? _ _ y11) (by rw [show o + i * 12 + 11 = o + (i * 12 + 11) by omega]; exact y11)
  have hbo : b < wo.heap.size := World.block_lt_of_cell? _ _ x0
  clear y0 y1 y2 y3 y4 y5 y6 y7 y8 y9 y10 y11
  have HPI := Lib.hid hp
  clear hc hp
  go_upto_region 4 with fail
  go_cut [8, 9] from 16 to 101 (fun rv pv wx => ∃ gr gp, rv = .pointer (some ⟨gr, 0, none⟩) ∧ pv = .pointer (some ⟨gp, 0, none⟩) ∧ Blk wx gr 37 #[.int .i64 p.r.kind, .int .i64 p.r.cart, strV p.r.key, .int .i64 p.r.gen, .int .i64 p.r.group, .int .i64 p.r.groups, .int .i64 p.r.index, .int .i64 p.r.size, strV p.r.sum, .slice p.A p.r.data.length p.c] ∧ Blk wx gp 34 #[.int .i64 p.cart, .int .i64 p.pos] ∧ Below wo.heap.size wo wx)
  case first =>
    refine wp_region_held_drew (S := (fun w' => w'.cell? ⟨b, o + i * 12, none⟩ = some (.int .i64 p.cart) ∧ w'.cell? ⟨b, o + i * 12 + 1, none⟩ = some (.int .i64 p.pos) ∧ w'.cell? ⟨b, o + i * 12 + 2, none⟩ = some (.int .i64 p.r.kind) ∧ w'.cell? ⟨b, o + i * 12 + 3, none⟩ = some (.int .i64 p.r.cart) ∧ w'.cell? ⟨b, o + i * 12 + 4, none⟩ = some (strV p.r.key) ∧ w'.cell? ⟨b, o + i * 12 + 5, none⟩ = some (.int .i64 p.r.gen) ∧ w'.cell? ⟨b, o + i * 12 + 6, none⟩ = some (.int .i64 p.r.group) ∧ w'.cell? ⟨b, o + i * 12 + 7, none⟩ = some (.int .i64 p.r.groups) ∧ w'.cell? ⟨b, o + i * 12 + 8, none⟩ = some (.int .i64 p.r.index) ∧ w'.cell? ⟨b, o + i * 12 + 9, none⟩ = some (.int .i64 p.r.size) ∧ w'.cell? ⟨b, o + i * 12 + 10, none⟩ = some (strV p.r.sum) ∧ w'.cell? ⟨b, o + i * 12 + 11, none⟩ = some (.slice p.A p.r.data.length p.c))) (by kernel_rfl) ⟨x0, x1, x2, x3, x4, x5, x6, x7, x8, x9, x10, x11⟩ (fun hHeld => ?_)
    refine wpAnyH_take (i := 0) (v := ?vY4n10) (take_list rfl) (by kernel_rfl) (by kernel_rfl) (by kernel_rfl) (fun _ _ _ h => h) (Or.inl ⟨by rfl, ?hyY4n10⟩) (by assumption) ?restY4n10
    case hyY4n10 => (intro w hSw; (try dsimp only at hSw); go_simp <;> with_reducible rfl)
    try simp only [Act.put, List.setIfInBounds_toArray, List.set_cons_zero, List.set_cons_succ]
    refine wpAnyH_take (i := 1) (v := ?vY4n11) (take_list rfl) (by kernel_rfl) (by kernel_rfl) (by kernel_rfl) (fun _ _ _ h => h) (Or.inl ⟨by rfl, ?hyY4n11⟩) (by assumption) ?restY4n11
    case hyY4n11 => (intro w hSw; (try dsimp only at hSw); go_simp <;> with_reducible rfl)
    try simp only [Act.put, List.setIfInBounds_toArray, List.set_cons_zero, List.set_cons_succ]
    refine wpAnyH_take (i := 2) (v := ?vY4n12) (take_list rfl) (by kernel_rfl) (by kernel_rfl) (by kernel_rfl) (fun _ _ _ h => h) (Or.inl ⟨by rfl, ?hyY4n12⟩) (by assumption) ?restY4n12
    case hyY4n12 => (intro w hSw; (try dsimp only at hSw); go_simp <;> with_reducible rfl)
    try simp only [Act.put, List.setIfInBounds_toArray, List.set_cons_zero, List.set_cons_succ]
    refine wpAnyH_take (i := 3) (v := ?vY4n13) (take_list rfl) (by kernel_rfl) (by kernel_rfl) (by kernel_rfl) (fun _ _ _ h => h) (Or.inl ⟨by rfl, ?hyY4n13⟩) (by assumption) ?restY4n13
    case hyY4n13 => (intro w hSw; (try dsimp only at hSw); go_simp <;> with_reducible rfl)
    try simp only [Act.put, List.setIfInBounds_toArray, List.set_cons_zero, List.set_cons_succ]
    refine wpAnyH_take (i := 4) (v := ?vY4n14) (take_list rfl) (by kernel_rfl) (by kernel_rfl) (by kernel_rfl) (fun _ _ _ h => h) (Or.inl ⟨by rfl, ?hyY4n14⟩) (by assumption) ?restY4n14
    case hyY4n14 => (intro w hSw; (try dsimp only at hSw); go_simp <;> with_reducible rfl)
    try simp only [Act.put, List.setIfInBounds_toArray, List.set_cons_zero, List.set_cons_succ]
    refine wpAnyH_take (i := 5) (v := ?vY4n15) (take_list rfl) (by kernel_rfl) (by kernel_rfl) (by kernel_rfl) (fun _ _ _ h => h) (Or.inl ⟨by rfl, ?hyY4n15⟩) (by assumption) ?restY4n15
    case hyY4n15 => (intro w hSw; (try dsimp only at hSw); go_simp <;> with_reducible rfl)
    try simp only [Act.put, List.setIfInBounds_toArray, List.set_cons_zero, List.set_cons_succ]
    refine wpAnyH_take (i := 6) (v := ?vY4n16) (take_list rfl) (by kernel_rfl) (by kernel_rfl) (by kernel_rfl) (fun _ _ _ h => h) (Or.inl ⟨by rfl, ?hyY4n16⟩) (by assumption) ?restY4n16
    case hyY4n16 => (intro w hSw; (try dsimp only at hSw); go_simp <;> with_reducible rfl)
    try simp only [Act.put, List.setIfInBounds_toArray, List.set_cons_zero, List.set_cons_succ]
    refine wpAnyH_take (i := 7) (v := ?vY4n17) (take_list rfl) (by kernel_rfl) (by kernel_rfl) (by kernel_rfl) (fun _ _ _ h => h) (Or.inl ⟨by rfl, ?hyY4n17⟩) (by assumption) ?restY4n17
    case hyY4n17 => (intro w hSw; (try dsimp only at hSw); go_simp <;> with_reducible rfl)
    try simp only [Act.put, List.setIfInBounds_toArray, List.set_cons_zero, List.set_cons_succ]
    refine wpAnyH_take (i := 8) (v := ?vY4n18) (take_list rfl) (by kernel_rfl) (by kernel_rfl) (by kernel_rfl) (fun _ _ _ h => h) (Or.inl ⟨by rfl, ?hyY4n18⟩) (by assumption) ?restY4n18
    case hyY4n18 => (intro w hSw; (try dsimp only at hSw); go_simp <;> with_reducible rfl)
    try simp only [Act.put, List.setIfInBounds_toArray, List.set_cons_zero, List.set_cons_succ]
    refine wpAnyH_take (i := 9) (v := ?vY4n19) (take_list rfl) (by kernel_rfl) (by kernel_rfl) (by kernel_rfl) (fun _ _ _ h => h) (Or.inl ⟨by rfl, ?hyY4n19⟩) (by assumption) ?restY4n19
    case hyY4n19 => (intro w hSw; (try dsimp only at hSw); go_simp <;> with_reducible rfl)
    try simp only [Act.put, List.setIfInBounds_toArray, List.set_cons_zero, List.set_cons_succ]
    refine wpAnyH_ready (rs := [10, 11]) (by kernel_rfl) (by simp) ?_
    refine AllReadyH.cons rfl (fun K hK => ?_) (AllReadyH.cons rfl (fun K hK => ?_) AllReadyH.nil)
    · go_simp
      clear hHeld
      refine hK.out _ _ (by first | with_reducible exact ⟨keepc (below_ad wo _) hbo x0, keepc (below_ad wo _) hbo x1, keepc (below_ad wo _) hbo x2, keepc (below_ad wo _) hbo x3, keepc (below_ad wo _) hbo x4, keepc (below_ad wo _) hbo x5, keepc (below_ad wo _) hbo x6, keepc (below_ad wo _) hbo x7, keepc (below_ad wo _) hbo x8, keepc (below_ad wo _) hbo x9, keepc (below_ad wo _) hbo x10, keepc (below_ad wo _) hbo x11⟩ | with_reducible exact ⟨keepc (below_aad wo _ _) hbo x0, keepc (below_aad wo _ _) hbo x1, keepc (below_aad wo _ _) hbo x2, keepc (below_aad wo _ _) hbo x3, keepc (below_aad wo _ _) hbo x4, keepc (below_aad wo _ _) hbo x5, keepc (below_aad wo _ _) hbo x6, keepc (below_aad wo _ _) hbo x7, keepc (below_aad wo _ _) hbo x8, keepc (below_aad wo _ _) hbo x9, keepc (below_aad wo _ _) hbo x10, keepc (below_aad wo _ _) hbo x11⟩ | exact ⟨keepc (show Below wo.heap.size wo _ from (below_drewed _ wo)) hbo x0, keepc (show Below wo.heap.size wo _ from (below_drewed _ wo)) hbo x1, keepc (show Below wo.heap.size wo _ from (below_drewed _ wo)) hbo x2, keepc (show Below wo.heap.size wo _ from (below_drewed _ wo)) hbo x3, keepc (show Below wo.heap.size wo _ from (below_drewed _ wo)) hbo x4, keepc (show Below wo.heap.size wo _ from (below_drewed _ wo)) hbo x5, keepc (show Below wo.heap.size wo _ from (below_drewed _ wo)) hbo x6, keepc (show Below wo.heap.size wo _ from (below_drewed _ wo)) hbo x7, keepc (show Below wo.heap.size wo _ from (below_drewed _ wo)) hbo x8, keepc (show Below wo.heap.size wo _ from (below_drewed _ wo)) hbo x9, keepc (show Below wo.heap.size wo _ from (below_drewed _ wo)) hbo x10, keepc (show Below wo.heap.size wo _ from (below_drewed _ wo)) hbo x11⟩) (fun hHeld => ?_)
      clear hK K
      refine wpAnyH_ready (rs := [11]) (by kernel_rfl) (by simp) ?_
      refine AllReadyH.cons rfl (fun K hK => ?_) AllReadyH.nil
      go_simp
      clear hHeld
      refine hK.out _ _ (by first | with_reducible exact ⟨keepc (below_ad wo _) hbo x0, keepc (below_ad wo _) hbo x1, keepc (below_ad wo _) hbo x2, keepc (below_ad wo _) hbo x3, keepc (below_ad wo _) hbo x4, keepc (below_ad wo _) hbo x5, keepc (below_ad wo _) hbo x6, keepc (below_ad wo _) hbo x7, keepc (below_ad wo _) hbo x8, keepc (below_ad wo _) hbo x9, keepc (below_ad wo _) hbo x10, keepc (below_ad wo _) hbo x11⟩ | with_reducible exact ⟨keepc (below_aad wo _ _) hbo x0, keepc (below_aad wo _ _) hbo x1, keepc (below_aad wo _ _) hbo x2, keepc (below_aad wo _ _) hbo x3, keepc (below_aad wo _ _) hbo x4, keepc (below_aad wo _ _) hbo x5, keepc (below_aad wo _ _) hbo x6, keepc (below_aad wo _ _) hbo x7, keepc (below_aad wo _ _) hbo x8, keepc (below_aad wo _ _) hbo x9, keepc (below_aad wo _ _) hbo x10, keepc (below_aad wo _ _) hbo x11⟩ | exact ⟨keepc (show Below wo.heap.size wo _ from (below_drewed _ wo)) hbo x0, keepc (show Below wo.heap.size wo _ from (below_drewed _ wo)) hbo x1, keepc (show Below wo.heap.size wo _ from (below_drewed _ wo)) hbo x2, keepc (show Below wo.heap.size wo _ from (below_drewed _ wo)) hbo x3, keepc (show Below wo.heap.size wo _ from (below_drewed _ wo)) hbo x4, keepc (show Below wo.heap.size wo _ from (below_drewed _ wo)) hbo x5, keepc (show Below wo.heap.size wo _ from (below_drewed _ wo)) hbo x6, keepc (show Below wo.heap.size wo _ from (below_drewed _ wo)) hbo x7, keepc (show Below wo.heap.size wo _ from (below_drewed _ wo)) hbo x8, keepc (show Below wo.heap.size wo _ from (below_drewed _ wo)) hbo x9, keepc (show Below wo.heap.size wo _ from (below_drewed _ wo)) hbo x10, keepc (show Below wo.heap.size wo _ from (below_drewed _ wo)) hbo x11⟩) (fun hHeld => ?_)
      clear hK K
      refine wpAnyH_ready (rs := [12]) (by kernel_rfl) (by simp) ?_
      refine AllReadyH.cons rfl (fun K hK => ?_) AllReadyH.nil
      go_simp
      clear hHeld
      refine hK.out _ _ (by first | with_reducible exact ⟨keepc (below_ad wo _) hbo x0, keepc (below_ad wo _) hbo x1, keepc (below_ad wo _) hbo x2, keepc (below_ad wo _) hbo x3, keepc (below_ad wo _) hbo x4, keepc (below_ad wo _) hbo x5, keepc (below_ad wo _) hbo x6, keepc (below_ad wo _) hbo x7, keepc (below_ad wo _) hbo x8, keepc (below_ad wo _) hbo x9, keepc (below_ad wo _) hbo x10, keepc (below_ad wo _) hbo x11⟩ | with_reducible exact ⟨keepc (below_aad wo _ _) hbo x0, keepc (below_aad wo _ _) hbo x1, keepc (below_aad wo _ _) hbo x2, keepc (below_aad wo _ _) hbo x3, keepc (below_aad wo _ _) hbo x4, keepc (below_aad wo _ _) hbo x5, keepc (below_aad wo _ _) hbo x6, keepc (below_aad wo _ _) hbo x7, keepc (below_aad wo _ _) hbo x8, keepc (below_aad wo _ _) hbo x9, keepc (below_aad wo _ _) hbo x10, keepc (below_aad wo _ _) hbo x11⟩ | exact ⟨keepc (show Below wo.heap.size wo _ from (below_drewed _ wo)) hbo x0, keepc (show Below wo.heap.size wo _ from (below_drewed _ wo)) hbo x1, keepc (show Below wo.heap.size wo _ from (below_drewed _ wo)) hbo x2, keepc (show Below wo.heap.size wo _ from (below_drewed _ wo)) hbo x3, keepc (show Below wo.heap.size wo _ from (below_drewed _ wo)) hbo x4, keepc (show Below wo.heap.size wo _ from (below_drewed _ wo)) hbo x5, keepc (show Below wo.heap.size wo _ from (below_drewed _ wo)) hbo x6, keepc (show Below wo.heap.size wo _ from (below_drewed _ wo)) hbo x7, keepc (show Below wo.heap.size wo _ from (below_drewed _ wo)) hbo x8, keepc (show Below wo.heap.size wo _ from (below_drewed _ wo)) hbo x9, keepc (show Below wo.heap.size wo _ from (below_drewed _ wo)) hbo x10, keepc (show Below wo.heap.size wo _ from (below_drewed _ wo)) hbo x11⟩) (fun hHeld => ?_)
      clear hK K
      refine wpAnyH_ready (rs := [13]) (by kernel_rfl) (by simp) ?_
      refine AllReadyH.cons rfl (fun K hK => ?_) AllReadyH.nil
      go_simp
      clear hHeld
      refine hK.out _ _ (by first | with_reducible exact ⟨keepc (below_ad wo _) hbo x0, keepc (below_ad wo _) hbo x1, keepc (below_ad wo _) hbo x2, keepc (below_ad wo _) hbo x3, keepc (below_ad wo _) hbo x4, keepc (below_ad wo _) hbo x5, keepc (below_ad wo _) hbo x6, keepc (below_ad wo _) hbo x7, keepc (below_ad wo _) hbo x8, keepc (below_ad wo _) hbo x9, keepc (below_ad wo _) hbo x10, keepc (below_ad wo _) hbo x11⟩ | with_reducible exact ⟨keepc (below_aad wo _ _) hbo x0, keepc (below_aad wo _ _) hbo x1, keepc (below_aad wo _ _) hbo x2, keepc (below_aad wo _ _) hbo x3, keepc (below_aad wo _ _) hbo x4, keepc (below_aad wo _ _) hbo x5, keepc (below_aad wo _ _) hbo x6, keepc (below_aad wo _ _) hbo x7, keepc (below_aad wo _ _) hbo x8, keepc (below_aad wo _ _) hbo x9, keepc (below_aad wo _ _) hbo x10, keepc (below_aad wo _ _) hbo x11⟩ | exact ⟨keepc (show Below wo.heap.size wo _ from (below_drewed _ wo)) hbo x0, keepc (show Below wo.heap.size wo _ from (below_drewed _ wo)) hbo x1, keepc (show Below wo.heap.size wo _ from (below_drewed _ wo)) hbo x2, keepc (show Below wo.heap.size wo _ from (below_drewed _ wo)) hbo x3, keepc (show Below wo.heap.size wo _ from (below_drewed _ wo)) hbo x4, keepc (show Below wo.heap.size wo _ from (below_drewed _ wo)) hbo x5, keepc (show Below wo.heap.size wo _ from (below_drewed _ wo)) hbo x6, keepc (show Below wo.heap.size wo _ from (below_drewed _ wo)) hbo x7, keepc (show Below wo.heap.size wo _ from (below_drewed _ wo)) hbo x8, keepc (show Below wo.heap.size wo _ from (below_drewed _ wo)) hbo x9, keepc (show Below wo.heap.size wo _ from (below_drewed _ wo)) hbo x10, keepc (show Below wo.heap.size wo _ from (below_drewed _ wo)) hbo x11⟩) (fun hHeld => ?_)
      clear hK K
      refine wpAnyH_done (by kernel_rfl) ?_ _
      go_wp2_with fail
      go_meet
      first
        | (refine ⟨wo.heap.size, wo.heap.size + 1, ?_, ?_, ?_⟩; (with_reducible rfl); (with_reducible rfl); exact ⟨blk_drew ((Blk.made _ _ _).alloc _), blk_drew (Blk.made' _ _ _ (by simp)), below_aad _ _ _⟩)
        | (refine ⟨wo.heap.size + 1, wo.heap.size, ?_, ?_, ?_⟩; (with_reducible rfl); (with_reducible rfl); exact ⟨blk_drew (Blk.made' _ _ _ (by simp)), blk_drew ((Blk.made _ _ _).alloc _), below_aad _ _ _⟩)
    · go_simp
      clear hHeld
      refine hK.out _ _ (by first | with_reducible exact ⟨keepc (below_ad wo _) hbo x0, keepc (below_ad wo _) hbo x1, keepc (below_ad wo _) hbo x2, keepc (below_ad wo _) hbo x3, keepc (below_ad wo _) hbo x4, keepc (below_ad wo _) hbo x5, keepc (below_ad wo _) hbo x6, keepc (below_ad wo _) hbo x7, keepc (below_ad wo _) hbo x8, keepc (below_ad wo _) hbo x9, keepc (below_ad wo _) hbo x10, keepc (below_ad wo _) hbo x11⟩ | with_reducible exact ⟨keepc (below_aad wo _ _) hbo x0, keepc (below_aad wo _ _) hbo x1, keepc (below_aad wo _ _) hbo x2, keepc (below_aad wo _ _) hbo x3, keepc (below_aad wo _ _) hbo x4, keepc (below_aad wo _ _) hbo x5, keepc (below_aad wo _ _) hbo x6, keepc (below_aad wo _ _) hbo x7, keepc (below_aad wo _ _) hbo x8, keepc (below_aad wo _ _) hbo x9, keepc (below_aad wo _ _) hbo x10, keepc (below_aad wo _ _) hbo x11⟩ | exact ⟨keepc (show Below wo.heap.size wo _ from (below_drewed _ wo)) hbo x0, keepc (show Below wo.heap.size wo _ from (below_drewed _ wo)) hbo x1, keepc (show Below wo.heap.size wo _ from (below_drewed _ wo)) hbo x2, keepc (show Below wo.heap.size wo _ from (below_drewed _ wo)) hbo x3, keepc (show Below wo.heap.size wo _ from (below_drewed _ wo)) hbo x4, keepc (show Below wo.heap.size wo _ from (below_drewed _ wo)) hbo x5, keepc (show Below wo.heap.size wo _ from (below_drewed _ wo)) hbo x6, keepc (show Below wo.heap.size wo _ from (below_drewed _ wo)) hbo x7, keepc (show Below wo.heap.size wo _ from (below_drewed _ wo)) hbo x8, keepc (show Below wo.heap.size wo _ from (below_drewed _ wo)) hbo x9, keepc (show Below wo.heap.size wo _ from (below_drewed _ wo)) hbo x10, keepc (show Below wo.heap.size wo _ from (below_drewed _ wo)) hbo x11⟩) (fun hHeld => ?_)
      clear hK K
      refine wpAnyH_ready (rs := [10]) (by kernel_rfl) (by simp) ?_
      refine AllReadyH.cons rfl (fun K hK => ?_) AllReadyH.nil
      go_simp
      clear hHeld
      refine hK.out _ _ (by first | with_reducible exact ⟨keepc (below_ad wo _) hbo x0, keepc (below_ad wo _) hbo x1, keepc (below_ad wo _) hbo x2, keepc (below_ad wo _) hbo x3, keepc (below_ad wo _) hbo x4, keepc (below_ad wo _) hbo x5, keepc (below_ad wo _) hbo x6, keepc (below_ad wo _) hbo x7, keepc (below_ad wo _) hbo x8, keepc (below_ad wo _) hbo x9, keepc (below_ad wo _) hbo x10, keepc (below_ad wo _) hbo x11⟩ | with_reducible exact ⟨keepc (below_aad wo _ _) hbo x0, keepc (below_aad wo _ _) hbo x1, keepc (below_aad wo _ _) hbo x2, keepc (below_aad wo _ _) hbo x3, keepc (below_aad wo _ _) hbo x4, keepc (below_aad wo _ _) hbo x5, keepc (below_aad wo _ _) hbo x6, keepc (below_aad wo _ _) hbo x7, keepc (below_aad wo _ _) hbo x8, keepc (below_aad wo _ _) hbo x9, keepc (below_aad wo _ _) hbo x10, keepc (below_aad wo _ _) hbo x11⟩ | exact ⟨keepc (show Below wo.heap.size wo _ from (below_drewed _ wo)) hbo x0, keepc (show Below wo.heap.size wo _ from (below_drewed _ wo)) hbo x1, keepc (show Below wo.heap.size wo _ from (below_drewed _ wo)) hbo x2, keepc (show Below wo.heap.size wo _ from (below_drewed _ wo)) hbo x3, keepc (show Below wo.heap.size wo _ from (below_drewed _ wo)) hbo x4, keepc (show Below wo.heap.size wo _ from (below_drewed _ wo)) hbo x5, keepc (show Below wo.heap.size wo _ from (below_drewed _ wo)) hbo x6, keepc (show Below wo.heap.size wo _ from (below_drewed _ wo)) hbo x7, keepc (show Below wo.heap.size wo _ from (below_drewed _ wo)) hbo x8, keepc (show Below wo.heap.size wo _ from (below_drewed _ wo)) hbo x9, keepc (show Below wo.heap.size wo _ from (below_drewed _ wo)) hbo x10, keepc (show Below wo.heap.size wo _ from (below_drewed _ wo)) hbo x11⟩) (fun hHeld => ?_)
      clear hK K
      refine wpAnyH_ready (rs := [12]) (by kernel_rfl) (by simp) ?_
      refine AllReadyH.cons rfl (fun K hK => ?_) AllReadyH.nil
      go_simp
      clear hHeld
      refine hK.out _ _ (by first | with_reducible exact ⟨keepc (below_ad wo _) hbo x0, keepc (below_ad wo _) hbo x1, keepc (below_ad wo _) hbo x2, keepc (below_ad wo _) hbo x3, keepc (below_ad wo _) hbo x4, keepc (below_ad wo _) hbo x5, keepc (below_ad wo _) hbo x6, keepc (below_ad wo _) hbo x7, keepc (below_ad wo _) hbo x8, keepc (below_ad wo _) hbo x9, keepc (below_ad wo _) hbo x10, keepc (below_ad wo _) hbo x11⟩ | with_reducible exact ⟨keepc (below_aad wo _ _) hbo x0, keepc (below_aad wo _ _) hbo x1, keepc (below_aad wo _ _) hbo x2, keepc (below_aad wo _ _) hbo x3, keepc (below_aad wo _ _) hbo x4, keepc (below_aad wo _ _) hbo x5, keepc (below_aad wo _ _) hbo x6, keepc (below_aad wo _ _) hbo x7, keepc (below_aad wo _ _) hbo x8, keepc (below_aad wo _ _) hbo x9, keepc (below_aad wo _ _) hbo x10, keepc (below_aad wo _ _) hbo x11⟩ | exact ⟨keepc (show Below wo.heap.size wo _ from (below_drewed _ wo)) hbo x0, keepc (show Below wo.heap.size wo _ from (below_drewed _ wo)) hbo x1, keepc (show Below wo.heap.size wo _ from (below_drewed _ wo)) hbo x2, keepc (show Below wo.heap.size wo _ from (below_drewed _ wo)) hbo x3, keepc (show Below wo.heap.size wo _ from (below_drewed _ wo)) hbo x4, keepc (show Below wo.heap.size wo _ from (below_drewed _ wo)) hbo x5, keepc (show Below wo.heap.size wo _ from (below_drewed _ wo)) hbo x6, keepc (show Below wo.heap.size wo _ from (below_drewed _ wo)) hbo x7, keepc (show Below wo.heap.size wo _ from (below_drewed _ wo)) hbo x8, keepc (show Below wo.heap.size wo _ from (below_drewed _ wo)) hbo x9, keepc (show Below wo.heap.size wo _ from (below_drewed _ wo)) hbo x10, keepc (show Below wo.heap.size wo _ from (below_drewed _ wo)) hbo x11⟩) (fun hHeld => ?_)
      clear hK K
      refine wpAnyH_ready (rs := [13]) (by kernel_rfl) (by simp) ?_
      refine AllReadyH.cons rfl (fun K hK => ?_) AllReadyH.nil
      go_simp
      clear hHeld
      refine hK.out _ _ (by first | with_reducible exact ⟨keepc (below_ad wo _) hbo x0, keepc (below_ad wo _) hbo x1, keepc (below_ad wo _) hbo x2, keepc (below_ad wo _) hbo x3, keepc (below_ad wo _) hbo x4, keepc (below_ad wo _) hbo x5, keepc (below_ad wo _) hbo x6, keepc (below_ad wo _) hbo x7, keepc (below_ad wo _) hbo x8, keepc (below_ad wo _) hbo x9, keepc (below_ad wo _) hbo x10, keepc (below_ad wo _) hbo x11⟩ | with_reducible exact ⟨keepc (below_aad wo _ _) hbo x0, keepc (below_aad wo _ _) hbo x1, keepc (below_aad wo _ _) hbo x2, keepc (below_aad wo _ _) hbo x3, keepc (below_aad wo _ _) hbo x4, keepc (below_aad wo _ _) hbo x5, keepc (below_aad wo _ _) hbo x6, keepc (below_aad wo _ _) hbo x7, keepc (below_aad wo _ _) hbo x8, keepc (below_aad wo _ _) hbo x9, keepc (below_aad wo _ _) hbo x10, keepc (below_aad wo _ _) hbo x11⟩ | exact ⟨keepc (show Below wo.heap.size wo _ from (below_drewed _ wo)) hbo x0, keepc (show Below wo.heap.size wo _ from (below_drewed _ wo)) hbo x1, keepc (show Below wo.heap.size wo _ from (below_drewed _ wo)) hbo x2, keepc (show Below wo.heap.size wo _ from (below_drewed _ wo)) hbo x3, keepc (show Below wo.heap.size wo _ from (below_drewed _ wo)) hbo x4, keepc (show Below wo.heap.size wo _ from (below_drewed _ wo)) hbo x5, keepc (show Below wo.heap.size wo _ from (below_drewed _ wo)) hbo x6, keepc (show Below wo.heap.size wo _ from (below_drewed _ wo)) hbo x7, keepc (show Below wo.heap.size wo _ from (below_drewed _ wo)) hbo x8, keepc (show Below wo.heap.size wo _ from (below_drewed _ wo)) hbo x9, keepc (show Below wo.heap.size wo _ from (below_drewed _ wo)) hbo x10, keepc (show Below wo.heap.size wo _ from (below_drewed _ wo)) hbo x11⟩) (fun hHeld => ?_)
      clear hK K
      refine wpAnyH_done (by kernel_rfl) ?_ _
      go_wp2_with fail
      go_meet
      first
        | (refine ⟨wo.heap.size, wo.heap.size + 1, ?_, ?_, ?_⟩; (with_reducible rfl); (with_reducible rfl); exact ⟨blk_drew ((Blk.made _ _ _).alloc _), blk_drew (Blk.made' _ _ _ (by simp)), below_aad _ _ _⟩)
        | (refine ⟨wo.heap.size + 1, wo.heap.size, ?_, ?_, ?_⟩; (with_reducible rfl); (with_reducible rfl); exact ⟨blk_drew (Blk.made' _ _ _ (by simp)), blk_drew ((Blk.made _ _ _).alloc _), below_aad _ _ _⟩)
  obtain ⟨gr, gp, rfl, rfl, hgr, hgp, hbc⟩ := hcut
  obtain ⟨wm, rfl⟩ : ∃ wm : World, wm = wc := ⟨_, rfl⟩
  have BM := Lib.hid hbc
  have hgrz := hgr.size
  have hgpz := hgp.size
  have hzm : wo.heap.size ≤ wm.heap.size := hbc.size
  clear x0 x1 x2 x3 x4 x5 x6 x7 x8 x9 x10 x11
  have r0 : wm.cell? ⟨gr, 0, none⟩ = some (.int .i64 p.r.kind) := hgr.cell 0
  have r1 : wm.cell? ⟨gr, 1, none⟩ = some (.int .i64 p.r.cart) := hgr.cell 1
  have r2 : wm.cell? ⟨gr, 2, none⟩ = some (strV p.r.key) := hgr.cell 2
  have r3 : wm.cell? ⟨gr, 3, none⟩ = some (.int .i64 p.r.gen) := hgr.cell 3
  have r4 : wm.cell? ⟨gr, 4, none⟩ = some (.int .i64 p.r.group) := hgr.cell 4
  have r5 : wm.cell? ⟨gr, 5, none⟩ = some (.int .i64 p.r.groups) := hgr.cell 5
  have r6 : wm.cell? ⟨gr, 6, none⟩ = some (.int .i64 p.r.index) := hgr.cell 6
  have r7 : wm.cell? ⟨gr, 7, none⟩ = some (.int .i64 p.r.size) := hgr.cell 7
  have r8 : wm.cell? ⟨gr, 8, none⟩ = some (strV p.r.sum) := hgr.cell 8
  have r9 : wm.cell? ⟨gr, 9, none⟩ = some (.slice p.A p.r.data.length p.c) := hgr.cell 9
  have g0 : wm.cell? ⟨gp, 0, none⟩ = some (.int .i64 p.cart) := hgp.cell 0
  have g1 : wm.cell? ⟨gp, 1, none⟩ = some (.int .i64 p.pos) := hgp.cell 1
  have BM0 := Lib.hid (show Below w0.heap.size w0 wm from BL.out.trans (hbc.mono hzo))
  have t0 : wm.cell? ⟨w.heap.size, 0, none⟩ = some (strV k) := keepc BM0.out hz0 (BX.out.cell 0)
  have t1 : wm.cell? ⟨w.heap.size, 1, none⟩ = some (.int .i64 gn) := keepc BM0.out hz0 (BX.out.cell 1)
  have t2 : wm.cell? ⟨w.heap.size, 2, none⟩ = some (.int .i64 sz) := keepc BM0.out hz0 (BX.out.cell 2)
  have t3 : wm.cell? ⟨w.heap.size, 3, none⟩ = some (strV sm) := keepc BM0.out hz0 (BX.out.cell 3)
  have t4 : wm.cell? ⟨w.heap.size, 4, none⟩ = some (.slice (some ⟨g, 0, none⟩) q q) := keepc BM0.out hz0 (BX.out.cell 4)
  have v0 : wm.cell? ⟨g, s * 2, none⟩ = some (.int .i64 x) := keepc BM0.out (Nat.lt_trans hgw hz0) Q0.out
  have v1 : wm.cell? ⟨g, s * 2 + 1, none⟩ = some (.int .i64 y) := keepc BM0.out (Nat.lt_trans hgw hz0) Q1.out
  have hzt : w.heap.size < wm.heap.size := World.block_lt_of_cell? _ _ t0
  have hgz : g < wm.heap.size := World.block_lt_of_cell? _ _ v0
  clear hgr hgp hbc
  have FP := Lib.hid (show F p = matchB k gn sz sm x y (j : Int) (t : Int) p by rw [HF.out])
  go_upto_region 5 with fail
  by_cases cY50 : p.cart = x
  case neg =>
    have qcY50 : (p.cart == x) = false := by simpa using cY50
    have V := Lib.hid (show F p = false by rw [FP.out]; unfold matchB; simp only [decide_eq_false cY50, Bool.false_and])
    clear cY50
    refine wp_region_held_drew (S := (fun w' => w'.cell? ⟨gr, 0, none⟩ = some (.int .i64 p.r.kind) ∧ w'.cell? ⟨gr, 1, none⟩ = some (.int .i64 p.r.cart) ∧ w'.cell? ⟨gr, 2, none⟩ = some (strV p.r.key) ∧ w'.cell? ⟨gr, 3, none⟩ = some (.int .i64 p.r.gen) ∧ w'.cell? ⟨gr, 4, none⟩ = some (.int .i64 p.r.group) ∧ w'.cell? ⟨gr, 5, none⟩ = some (.int .i64 p.r.groups) ∧ w'.cell? ⟨gr, 6, none⟩ = some (.int .i64 p.r.index) ∧ w'.cell? ⟨gr, 7, none⟩ = some (.int .i64 p.r.size) ∧ w'.cell? ⟨gr, 8, none⟩ = some (strV p.r.sum) ∧ w'.cell? ⟨gr, 9, none⟩ = some (.slice p.A p.r.data.length p.c) ∧ w'.cell? ⟨gp, 0, none⟩ = some (.int .i64 p.cart) ∧ w'.cell? ⟨gp, 1, none⟩ = some (.int .i64 p.pos) ∧ w'.cell? ⟨w.heap.size, 0, none⟩ = some (strV k) ∧ w'.cell? ⟨w.heap.size, 1, none⟩ = some (.int .i64 gn) ∧ w'.cell? ⟨w.heap.size, 2, none⟩ = some (.int .i64 sz) ∧ w'.cell? ⟨w.heap.size, 3, none⟩ = some (strV sm) ∧ w'.cell? ⟨w.heap.size, 4, none⟩ = some (.slice (some ⟨g, 0, none⟩) q q) ∧ w'.cell? ⟨g, s * 2, none⟩ = some (.int .i64 x) ∧ w'.cell? ⟨g, s * 2 + 1, none⟩ = some (.int .i64 y))) (by kernel_rfl) ⟨r0, r1, r2, r3, r4, r5, r6, r7, r8, r9, g0, g1, t0, t1, t2, t3, t4, v0, v1⟩ (fun hHeld => ?_)
    refine hT (i := 0) (v := ?vY50q20) (take_list rfl) (by as_aux_lemma => kernel_rfl) (fun _ _ _ h => h) rfl ?yY50q20 (by assumption) ?rY50q20
    case yY50q20 => (intro w h; go_simp <;> with_reducible rfl)
    refine hT (i := 1) (v := ?vY50q21) (take_list rfl) (by as_aux_lemma => kernel_rfl) (fun _ _ _ h => h) rfl ?yY50q21 (by assumption) ?rY50q21
    case yY50q21 => (intro w h; go_simp <;> with_reducible rfl)
    refine hT (i := 2) (v := ?vY50q22) (take_list rfl) (by as_aux_lemma => kernel_rfl) (fun _ _ _ h => h) rfl ?yY50q22 (by assumption) ?rY50q22
    case yY50q22 => (intro w h; go_simp <;> with_reducible rfl)
    try simp only [Act.put, List.setIfInBounds_toArray, List.set_cons_zero, List.set_cons_succ]
    refine hT (i := 3) (v := ?vY50q23) (take_list rfl) (by as_aux_lemma => kernel_rfl) (fun _ _ _ h => h) rfl ?yY50q23 (by assumption) ?rY50q23
    case yY50q23 => (intro w h; go_simp <;> with_reducible rfl)
    refine hT (i := 4) (v := ?vY50q24) (take_list rfl) (by as_aux_lemma => kernel_rfl) (fun _ _ _ h => h) rfl ?yY50q24 (by assumption) ?rY50q24
    case yY50q24 => (intro w h; go_simp <;> with_reducible rfl)
    refine hT (i := 5) (v := ?vY50q25) (take_list rfl) (by as_aux_lemma => kernel_rfl) (fun _ _ _ h => h) rfl ?yY50q25 (by assumption) ?rY50q25
    case yY50q25 => (intro w h; go_simp <;> with_reducible rfl)
    try simp only [Act.put, List.setIfInBounds_toArray, List.set_cons_zero, List.set_cons_succ]
    refine hT (i := 6) (v := ?vY50q26) (take_list rfl) (by as_aux_lemma => kernel_rfl) (fun _ _ _ h => h) rfl ?yY50q26 (by assumption) ?rY50q26
    case yY50q26 => (intro w h; go_simp <;> with_reducible rfl)
    refine hT (i := 7) (v := ?vY50q27) (take_list rfl) (by as_aux_lemma => kernel_rfl) (fun _ _ _ h => h) rfl ?yY50q27 (by assumption) ?rY50q27
    case yY50q27 => (intro w h; go_simp <;> with_reducible rfl)
    refine hT (i := 8) (v := ?vY50q28) (take_list rfl) (by as_aux_lemma => kernel_rfl) (fun _ _ _ h => h) rfl ?yY50q28 (by assumption) ?rY50q28
    case yY50q28 => (intro w h; go_simp <;> with_reducible rfl)
    try simp only [Act.put, List.setIfInBounds_toArray, List.set_cons_zero, List.set_cons_succ]
    refine hT (i := 9) (v := ?vY50q29) (take_list rfl) (by as_aux_lemma => kernel_rfl) (fun _ _ _ h => h) rfl ?yY50q29 (by assumption) ?rY50q29
    case yY50q29 => (intro w h; go_simp <;> with_reducible rfl)
    refine hU (i := 10) (take_list rfl) (by as_aux_lemma => kernel_rfl) (fun _ _ _ h => h) rfl (by assumption) ?_
    refine hU (i := 11) (take_list rfl) (by as_aux_lemma => kernel_rfl) (fun _ _ _ h => h) rfl (by assumption) ?_
    try simp only [Act.put, List.setIfInBounds_toArray, List.set_cons_zero, List.set_cons_succ]
    refine hU (i := 12) (take_list rfl) (by as_aux_lemma => kernel_rfl) (fun _ _ _ h => h) rfl (by assumption) ?_
    refine hU (i := 13) (take_list rfl) (by as_aux_lemma => kernel_rfl) (fun _ _ _ h => h) rfl (by assumption) ?_
    refine hU (i := 14) (take_list rfl) (by as_aux_lemma => kernel_rfl) (fun _ _ _ h => h) rfl (by assumption) ?_
    try simp only [Act.put, List.setIfInBounds_toArray, List.set_cons_zero, List.set_cons_succ]
    refine hU (i := 15) (take_list rfl) (by as_aux_lemma => kernel_rfl) (fun _ _ _ h => h) rfl (by assumption) ?_
    refine hU (i := 16) (take_list rfl) (by as_aux_lemma => kernel_rfl) (fun _ _ _ h => h) rfl (by assumption) ?_
    refine hU (i := 17) (take_list rfl) (by as_aux_lemma => kernel_rfl) (fun _ _ _ h => h) rfl (by assumption) ?_
    try simp only [Act.put, List.setIfInBounds_toArray, List.set_cons_zero, List.set_cons_succ]
    refine hU (i := 18) (take_list rfl) (by as_aux_lemma => kernel_rfl) (fun _ _ _ h => h) rfl (by assumption) ?_
    refine hT (i := 19) (v := ?vY50q219) (take_list rfl) (by as_aux_lemma => kernel_rfl) (fun _ _ _ h => h) rfl ?yY50q219 (by assumption) ?rY50q219
    case yY50q219 => (intro w h; go_simp <;> with_reducible rfl)
    refine hT (i := 20) (v := ?vY50q220) (take_list rfl) (by as_aux_lemma => kernel_rfl) (fun _ _ _ h => h) rfl ?yY50q220 (by assumption) ?rY50q220
    case yY50q220 => (intro w h; go_simp <;> with_reducible rfl)
    try simp only [Act.put, List.setIfInBounds_toArray, List.set_cons_zero, List.set_cons_succ]
    refine hU (i := 21) (take_list rfl) (by as_aux_lemma => kernel_rfl) (fun _ _ _ h => h) rfl (by assumption) ?_
    refine hU (i := 22) (take_list rfl) (by as_aux_lemma => kernel_rfl) (fun _ _ _ h => h) rfl (by assumption) ?_
    refine hU (i := 23) (take_list rfl) (by as_aux_lemma => kernel_rfl) (fun _ _ _ h => h) rfl (by assumption) ?_
    try simp only [Act.put, List.setIfInBounds_toArray, List.set_cons_zero, List.set_cons_succ]
    refine hT (i := 24) (v := ?vY50q224) (take_list rfl) (by as_aux_lemma => kernel_rfl) (fun _ _ _ h => h) rfl ?yY50q224 (by assumption) ?rY50q224
    case yY50q224 => (intro w h; go_simp <;> with_reducible rfl)
    refine hT (i := 25) (v := ?vY50q225) (take_list rfl) (by as_aux_lemma => kernel_rfl) (fun _ _ _ h => h) rfl ?yY50q225 (by assumption) ?rY50q225
    case yY50q225 => (intro w h; go_simp <;> with_reducible rfl)
    refine hU (i := 26) (take_list rfl) (by as_aux_lemma => kernel_rfl) (fun _ _ _ h => h) rfl (by assumption) ?_
    try simp only [Act.put, List.setIfInBounds_toArray, List.set_cons_zero, List.set_cons_succ]
    refine hU (i := 27) (take_list rfl) (by as_aux_lemma => kernel_rfl) (fun _ _ _ h => h) rfl (by assumption) ?_
    refine hT (i := 28) (v := ?vY50q228) (take_list rfl) (by as_aux_lemma => kernel_rfl) (fun _ _ _ h => h) rfl ?yY50q228 (by assumption) ?rY50q228
    case yY50q228 => (intro w h; go_simp <;> with_reducible rfl)
    refine hT (i := 29) (v := ?vY50q229) (take_list rfl) (by as_aux_lemma => kernel_rfl) (fun _ _ _ h => h) rfl ?yY50q229 (by assumption) ?rY50q229
    case yY50q229 => (intro w h; go_simp <;> with_reducible rfl)
    try simp only [Act.put, List.setIfInBounds_toArray, List.set_cons_zero, List.set_cons_succ]
    refine hU (i := 30) (take_list rfl) (by as_aux_lemma => kernel_rfl) (fun _ _ _ h => h) rfl (by assumption) ?_
    refine hU (i := 31) (take_list rfl) (by as_aux_lemma => kernel_rfl) (fun _ _ _ h => h) rfl (by assumption) ?_
    refine hU (i := 32) (take_list rfl) (by as_aux_lemma => kernel_rfl) (fun _ _ _ h => h) rfl (by assumption) ?_
    try simp only [Act.put, List.setIfInBounds_toArray, List.set_cons_zero, List.set_cons_succ]
    refine hT (i := 33) (v := ?vY50q233) (take_list rfl) (by as_aux_lemma => kernel_rfl) (fun _ _ _ h => h) rfl ?yY50q233 (by assumption) ?rY50q233
    case yY50q233 => (intro w h; go_simp <;> with_reducible rfl)
    refine hT (i := 34) (v := ?vY50q234) (take_list rfl) (by as_aux_lemma => kernel_rfl) (fun _ _ _ h => h) rfl ?yY50q234 (by assumption) ?rY50q234
    case yY50q234 => (intro w h; go_simp <;> with_reducible rfl)
    refine hU (i := 35) (take_list rfl) (by as_aux_lemma => kernel_rfl) (fun _ _ _ h => h) rfl (by assumption) ?_
    try simp only [Act.put, List.setIfInBounds_toArray, List.set_cons_zero, List.set_cons_succ]
    refine hU (i := 36) (take_list rfl) (by as_aux_lemma => kernel_rfl) (fun _ _ _ h => h) rfl (by assumption) ?_
    refine hU (i := 37) (take_list rfl) (by as_aux_lemma => kernel_rfl) (fun _ _ _ h => h) rfl (by assumption) ?_
    refine hU (i := 38) (take_list rfl) (by as_aux_lemma => kernel_rfl) (fun _ _ _ h => h) rfl (by assumption) ?_
    try simp only [Act.put, List.setIfInBounds_toArray, List.set_cons_zero, List.set_cons_succ]
    refine hU (i := 39) (take_list rfl) (by as_aux_lemma => kernel_rfl) (fun _ _ _ h => h) rfl (by assumption) ?_
    refine hT (i := 40) (v := ?vY50q240) (take_list rfl) (by as_aux_lemma => kernel_rfl) (fun _ _ _ h => h) rfl ?yY50q240 (by assumption) ?rY50q240
    case yY50q240 => (intro w h; go_simp <;> with_reducible rfl)
    refine hT (i := 41) (v := ?vY50q241) (take_list rfl) (by as_aux_lemma => kernel_rfl) (fun _ _ _ h => h) rfl ?yY50q241 (by assumption) ?rY50q241
    case yY50q241 => (intro w h; go_simp <;> with_reducible rfl)
    try simp only [Act.put, List.setIfInBounds_toArray, List.set_cons_zero, List.set_cons_succ]
    refine hU (i := 42) (take_list rfl) (by as_aux_lemma => kernel_rfl) (fun _ _ _ h => h) rfl (by assumption) ?_
    refine hU (i := 43) (take_list rfl) (by as_aux_lemma => kernel_rfl) (fun _ _ _ h => h) rfl (by assumption) ?_
    refine hU (i := 44) (take_list rfl) (by as_aux_lemma => kernel_rfl) (fun _ _ _ h => h) rfl (by assumption) ?_
    try simp only [Act.put, List.setIfInBounds_toArray, List.set_cons_zero, List.set_cons_succ]
    refine hU (i := 45) (take_list rfl) (by as_aux_lemma => kernel_rfl) (fun _ _ _ h => h) rfl (by assumption) ?_
    refine hU (i := 46) (take_list rfl) (by as_aux_lemma => kernel_rfl) (fun _ _ _ h => h) rfl (by assumption) ?_
    refine hT (i := 47) (v := ?vY50q247) (take_list rfl) (by as_aux_lemma => kernel_rfl) (fun _ _ _ h => h) rfl ?yY50q247 (by assumption) ?rY50q247
    case yY50q247 => (intro w h; go_simp <;> with_reducible rfl)
    try simp only [Act.put, List.setIfInBounds_toArray, List.set_cons_zero, List.set_cons_succ]
    refine hT (i := 48) (v := ?vY50q248) (take_list rfl) (by as_aux_lemma => kernel_rfl) (fun _ _ _ h => h) rfl ?yY50q248 (by assumption) ?rY50q248
    case yY50q248 => (intro w h; go_simp <;> with_reducible rfl)
    refine hU (i := 49) (take_list rfl) (by as_aux_lemma => kernel_rfl) (fun _ _ _ h => h) rfl (by assumption) ?_
    refine hU (i := 50) (take_list rfl) (by as_aux_lemma => kernel_rfl) (fun _ _ _ h => h) rfl (by assumption) ?_
    try simp only [Act.put, List.setIfInBounds_toArray, List.set_cons_zero, List.set_cons_succ]
    refine hU (i := 51) (take_list rfl) (by as_aux_lemma => kernel_rfl) (fun _ _ _ h => h) rfl (by assumption) ?_
    refine hU (i := 52) (take_list rfl) (by as_aux_lemma => kernel_rfl) (fun _ _ _ h => h) rfl (by assumption) ?_
    refine hU (i := 53) (take_list rfl) (by as_aux_lemma => kernel_rfl) (fun _ _ _ h => h) rfl (by assumption) ?_
    try simp only [Act.put, List.setIfInBounds_toArray, List.set_cons_zero, List.set_cons_succ]
    refine hT (i := 54) (v := ?vY50q254) (take_list rfl) (by as_aux_lemma => kernel_rfl) (fun _ _ _ h => h) rfl ?yY50q254 (by assumption) ?rY50q254
    case yY50q254 => (intro w h; go_simp <;> with_reducible rfl)
    refine hT (i := 55) (v := ?vY50q255) (take_list rfl) (by as_aux_lemma => kernel_rfl) (fun _ _ _ h => h) rfl ?yY50q255 (by assumption) ?rY50q255
    case yY50q255 => (intro w h; go_simp <;> with_reducible rfl)
    refine hU (i := 56) (take_list rfl) (by as_aux_lemma => kernel_rfl) (fun _ _ _ h => h) rfl (by assumption) ?_
    try simp only [Act.put, List.setIfInBounds_toArray, List.set_cons_zero, List.set_cons_succ]
    refine hU (i := 57) (take_list rfl) (by as_aux_lemma => kernel_rfl) (fun _ _ _ h => h) rfl (by assumption) ?_
    refine hU (i := 58) (take_list rfl) (by as_aux_lemma => kernel_rfl) (fun _ _ _ h => h) rfl (by assumption) ?_
    refine hU (i := 59) (take_list rfl) (by as_aux_lemma => kernel_rfl) (fun _ _ _ h => h) rfl (by assumption) ?_
    try simp only [Act.put, List.setIfInBounds_toArray, List.set_cons_zero, List.set_cons_succ]
    refine hU (i := 60) (take_list rfl) (by as_aux_lemma => kernel_rfl) (fun _ _ _ h => h) rfl (by assumption) ?_
    refine hT (i := 61) (v := ?vY50q261) (take_list rfl) (by as_aux_lemma => kernel_rfl) (fun _ _ _ h => h) rfl ?yY50q261 (by assumption) ?rY50q261
    case yY50q261 => (intro w h; go_simp <;> with_reducible rfl)
    refine hT (i := 62) (v := ?vY50q262) (take_list rfl) (by as_aux_lemma => kernel_rfl) (fun _ _ _ h => h) rfl ?yY50q262 (by assumption) ?rY50q262
    case yY50q262 => (intro w h; go_simp <;> with_reducible rfl)
    try simp only [Act.put, List.setIfInBounds_toArray, List.set_cons_zero, List.set_cons_succ]
    refine hU (i := 63) (take_list rfl) (by as_aux_lemma => kernel_rfl) (fun _ _ _ h => h) rfl (by assumption) ?_
    refine hU (i := 64) (take_list rfl) (by as_aux_lemma => kernel_rfl) (fun _ _ _ h => h) rfl (by assumption) ?_
    refine hU (i := 65) (take_list rfl) (by as_aux_lemma => kernel_rfl) (fun _ _ _ h => h) rfl (by assumption) ?_
    try simp only [Act.put, List.setIfInBounds_toArray, List.set_cons_zero, List.set_cons_succ]
    refine hU (i := 66) (take_list rfl) (by as_aux_lemma => kernel_rfl) (fun _ _ _ h => h) rfl (by assumption) ?_
    refine hU (i := 67) (take_list rfl) (by as_aux_lemma => kernel_rfl) (fun _ _ _ h => h) rfl (by assumption) ?_
    refine hT (i := 68) (v := ?vY50q268) (take_list rfl) (by as_aux_lemma => kernel_rfl) (fun _ _ _ h => h) rfl ?yY50q268 (by assumption) ?rY50q268
    case yY50q268 => (intro w h; go_simp <;> with_reducible rfl)
    try simp only [Act.put, List.setIfInBounds_toArray, List.set_cons_zero, List.set_cons_succ]
    refine hT (i := 69) (v := ?vY50q269) (take_list rfl) (by as_aux_lemma => kernel_rfl) (fun _ _ _ h => h) rfl ?yY50q269 (by assumption) ?rY50q269
    case yY50q269 => (intro w h; go_simp <;> with_reducible rfl)
    refine hU (i := 70) (take_list rfl) (by as_aux_lemma => kernel_rfl) (fun _ _ _ h => h) rfl (by assumption) ?_
    refine hU (i := 71) (take_list rfl) (by as_aux_lemma => kernel_rfl) (fun _ _ _ h => h) rfl (by assumption) ?_
    try simp only [Act.put, List.setIfInBounds_toArray, List.set_cons_zero, List.set_cons_succ]
    refine hU (i := 72) (take_list rfl) (by as_aux_lemma => kernel_rfl) (fun _ _ _ h => h) rfl (by assumption) ?_
    refine hU (i := 73) (take_list rfl) (by as_aux_lemma => kernel_rfl) (fun _ _ _ h => h) rfl (by assumption) ?_
    refine hU (i := 74) (take_list rfl) (by as_aux_lemma => kernel_rfl) (fun _ _ _ h => h) rfl (by assumption) ?_
    try simp only [Act.put, List.setIfInBounds_toArray, List.set_cons_zero, List.set_cons_succ]
    refine hT (i := 75) (v := ?vY50q275) (take_list rfl) (by as_aux_lemma => kernel_rfl) (fun _ _ _ h => h) rfl ?yY50q275 (by assumption) ?rY50q275
    case yY50q275 => (intro w h; go_simp <;> with_reducible rfl)
    refine wpAnyH_done (by kernel_rfl) ?_ _
    go_wp2_with fail
    go_roundw
    case rel => first | exact ⟨i + 1, rfl, hlt, by rw [any_take HPI.out, FI.out, V.out]; rfl, BM0.out.trans ((below_drewed _ wm).mono (by omega))⟩ | ((repeat apply Exists.intro); exact ⟨⟨i + 1, rfl, hlt, by rw [any_take HPI.out, FI.out, V.out]; rfl, BM0.out.trans ((below_drewed _ wm).mono (by omega))⟩, rfl⟩)
    case measure => (simp only [intOf]; omega)
  have qcY50 : (p.cart == x) = true := by simpa using cY50
  by_cases cY51 : p.pos = y
  case neg =>
    have qcY51 : (p.pos == y) = false := by simpa using cY51
    have V := Lib.hid (show F p = false by rw [FP.out]; unfold matchB; simp only [decide_eq_true cY50, decide_eq_false cY51, Bool.true_and, Bool.false_and])
    clear cY50 cY51
    refine wp_region_held_drew (S := (fun w' => w'.cell? ⟨gr, 0, none⟩ = some (.int .i64 p.r.kind) ∧ w'.cell? ⟨gr, 1, none⟩ = some (.int .i64 p.r.cart) ∧ w'.cell? ⟨gr, 2, none⟩ = some (strV p.r.key) ∧ w'.cell? ⟨gr, 3, none⟩ = some (.int .i64 p.r.gen) ∧ w'.cell? ⟨gr, 4, none⟩ = some (.int .i64 p.r.group) ∧ w'.cell? ⟨gr, 5, none⟩ = some (.int .i64 p.r.groups) ∧ w'.cell? ⟨gr, 6, none⟩ = some (.int .i64 p.r.index) ∧ w'.cell? ⟨gr, 7, none⟩ = some (.int .i64 p.r.size) ∧ w'.cell? ⟨gr, 8, none⟩ = some (strV p.r.sum) ∧ w'.cell? ⟨gr, 9, none⟩ = some (.slice p.A p.r.data.length p.c) ∧ w'.cell? ⟨gp, 0, none⟩ = some (.int .i64 p.cart) ∧ w'.cell? ⟨gp, 1, none⟩ = some (.int .i64 p.pos) ∧ w'.cell? ⟨w.heap.size, 0, none⟩ = some (strV k) ∧ w'.cell? ⟨w.heap.size, 1, none⟩ = some (.int .i64 gn) ∧ w'.cell? ⟨w.heap.size, 2, none⟩ = some (.int .i64 sz) ∧ w'.cell? ⟨w.heap.size, 3, none⟩ = some (strV sm) ∧ w'.cell? ⟨w.heap.size, 4, none⟩ = some (.slice (some ⟨g, 0, none⟩) q q) ∧ w'.cell? ⟨g, s * 2, none⟩ = some (.int .i64 x) ∧ w'.cell? ⟨g, s * 2 + 1, none⟩ = some (.int .i64 y))) (by kernel_rfl) ⟨r0, r1, r2, r3, r4, r5, r6, r7, r8, r9, g0, g1, t0, t1, t2, t3, t4, v0, v1⟩ (fun hHeld => ?_)
    refine hT (i := 0) (v := ?vY51q30) (take_list rfl) (by as_aux_lemma => kernel_rfl) (fun _ _ _ h => h) rfl ?yY51q30 (by assumption) ?rY51q30
    case yY51q30 => (intro w h; go_simp <;> with_reducible rfl)
    refine hT (i := 1) (v := ?vY51q31) (take_list rfl) (by as_aux_lemma => kernel_rfl) (fun _ _ _ h => h) rfl ?yY51q31 (by assumption) ?rY51q31
    case yY51q31 => (intro w h; go_simp <;> with_reducible rfl)
    refine hT (i := 2) (v := ?vY51q32) (take_list rfl) (by as_aux_lemma => kernel_rfl) (fun _ _ _ h => h) rfl ?yY51q32 (by assumption) ?rY51q32
    case yY51q32 => (intro w h; go_simp <;> with_reducible rfl)
    try simp only [Act.put, List.setIfInBounds_toArray, List.set_cons_zero, List.set_cons_succ]
    refine hT (i := 3) (v := ?vY51q33) (take_list rfl) (by as_aux_lemma => kernel_rfl) (fun _ _ _ h => h) rfl ?yY51q33 (by assumption) ?rY51q33
    case yY51q33 => (intro w h; go_simp <;> with_reducible rfl)
    refine hT (i := 4) (v := ?vY51q34) (take_list rfl) (by as_aux_lemma => kernel_rfl) (fun _ _ _ h => h) rfl ?yY51q34 (by assumption) ?rY51q34
    case yY51q34 => (intro w h; go_simp <;> with_reducible rfl)
    refine hT (i := 5) (v := ?vY51q35) (take_list rfl) (by as_aux_lemma => kernel_rfl) (fun _ _ _ h => h) rfl ?yY51q35 (by assumption) ?rY51q35
    case yY51q35 => (intro w h; go_simp <;> with_reducible rfl)
    try simp only [Act.put, List.setIfInBounds_toArray, List.set_cons_zero, List.set_cons_succ]
    refine hT (i := 6) (v := ?vY51q36) (take_list rfl) (by as_aux_lemma => kernel_rfl) (fun _ _ _ h => h) rfl ?yY51q36 (by assumption) ?rY51q36
    case yY51q36 => (intro w h; go_simp <;> with_reducible rfl)
    refine hT (i := 7) (v := ?vY51q37) (take_list rfl) (by as_aux_lemma => kernel_rfl) (fun _ _ _ h => h) rfl ?yY51q37 (by assumption) ?rY51q37
    case yY51q37 => (intro w h; go_simp <;> with_reducible rfl)
    refine hT (i := 8) (v := ?vY51q38) (take_list rfl) (by as_aux_lemma => kernel_rfl) (fun _ _ _ h => h) rfl ?yY51q38 (by assumption) ?rY51q38
    case yY51q38 => (intro w h; go_simp <;> with_reducible rfl)
    try simp only [Act.put, List.setIfInBounds_toArray, List.set_cons_zero, List.set_cons_succ]
    refine hT (i := 9) (v := ?vY51q39) (take_list rfl) (by as_aux_lemma => kernel_rfl) (fun _ _ _ h => h) rfl ?yY51q39 (by assumption) ?rY51q39
    case yY51q39 => (intro w h; go_simp <;> with_reducible rfl)
    refine hT (i := 10) (v := ?vY51q310) (take_list rfl) (by as_aux_lemma => kernel_rfl) (fun _ _ _ h => h) rfl ?yY51q310 (by assumption) ?rY51q310
    case yY51q310 => (intro w h; go_simp <;> with_reducible rfl)
    refine hT (i := 11) (v := ?vY51q311) (take_list rfl) (by as_aux_lemma => kernel_rfl) (fun _ _ _ h => h) rfl ?yY51q311 (by assumption) ?rY51q311
    case yY51q311 => (intro w h; go_simp <;> with_reducible rfl)
    try simp only [Act.put, List.setIfInBounds_toArray, List.set_cons_zero, List.set_cons_succ]
    refine hT (i := 12) (v := ?vY51q312) (take_list rfl) (by as_aux_lemma => kernel_rfl) (fun _ _ _ h => h) rfl ?yY51q312 (by assumption) ?rY51q312
    case yY51q312 => (intro w h; go_simp <;> with_reducible rfl)
    refine hT (i := 13) (v := ?vY51q313) (take_list rfl) (by as_aux_lemma => kernel_rfl) (fun _ _ _ h => h) rfl ?yY51q313 (by assumption) ?rY51q313
    case yY51q313 => (intro w h; go_simp <;> with_reducible rfl)
    refine hT (i := 14) (v := ?vY51q314) (take_list rfl) (by as_aux_lemma => kernel_rfl) (fun _ _ _ h => h) rfl ?yY51q314 (by assumption) ?rY51q314
    case yY51q314 => (intro w h; go_simp <;> with_reducible rfl)
    try simp only [Act.put, List.setIfInBounds_toArray, List.set_cons_zero, List.set_cons_succ]
    refine hT (i := 15) (v := ?vY51q315) (take_list rfl) (by as_aux_lemma => kernel_rfl) (fun _ _ _ h => h) rfl ?yY51q315 (by assumption) ?rY51q315
    case yY51q315 => (intro w h; go_simp <;> with_reducible rfl)
    refine hT (i := 16) (v := ?vY51q316) (take_list rfl) (by as_aux_lemma => kernel_rfl) (fun _ _ _ h => h) rfl ?yY51q316 (by assumption) ?rY51q316
    case yY51q316 => (intro w h; go_simp <;> with_reducible rfl)
    refine hT (i := 17) (v := ?vY51q317) (take_list rfl) (by as_aux_lemma => kernel_rfl) (fun _ _ _ h => h) rfl ?yY51q317 (by assumption) ?rY51q317
    case yY51q317 => (intro w h; go_simp <;> with_reducible rfl)
    try simp only [Act.put, List.setIfInBounds_toArray, List.set_cons_zero, List.set_cons_succ]
    refine hT (i := 18) (v := ?vY51q318) (take_list rfl) (by as_aux_lemma => kernel_rfl) (fun _ _ _ h => h) rfl ?yY51q318 (by assumption) ?rY51q318
    case yY51q318 => (intro w h; go_simp <;> with_reducible rfl)
    refine hT (i := 19) (v := ?vY51q319) (take_list rfl) (by as_aux_lemma => kernel_rfl) (fun _ _ _ h => h) rfl ?yY51q319 (by assumption) ?rY51q319
    case yY51q319 => (intro w h; go_simp <;> with_reducible rfl)
    refine hT (i := 20) (v := ?vY51q320) (take_list rfl) (by as_aux_lemma => kernel_rfl) (fun _ _ _ h => h) rfl ?yY51q320 (by assumption) ?rY51q320
    case yY51q320 => (intro w h; go_simp <;> with_reducible rfl)
    try simp only [Act.put, List.setIfInBounds_toArray, List.set_cons_zero, List.set_cons_succ]
    refine hU (i := 21) (take_list rfl) (by as_aux_lemma => kernel_rfl) (fun _ _ _ h => h) rfl (by assumption) ?_
    refine hU (i := 22) (take_list rfl) (by as_aux_lemma => kernel_rfl) (fun _ _ _ h => h) rfl (by assumption) ?_
    refine hU (i := 23) (take_list rfl) (by as_aux_lemma => kernel_rfl) (fun _ _ _ h => h) rfl (by assumption) ?_
    try simp only [Act.put, List.setIfInBounds_toArray, List.set_cons_zero, List.set_cons_succ]
    refine hT (i := 24) (v := ?vY51q324) (take_list rfl) (by as_aux_lemma => kernel_rfl) (fun _ _ _ h => h) rfl ?yY51q324 (by assumption) ?rY51q324
    case yY51q324 => (intro w h; go_simp <;> with_reducible rfl)
    refine hT (i := 25) (v := ?vY51q325) (take_list rfl) (by as_aux_lemma => kernel_rfl) (fun _ _ _ h => h) rfl ?yY51q325 (by assumption) ?rY51q325
    case yY51q325 => (intro w h; go_simp <;> with_reducible rfl)
    refine hU (i := 26) (take_list rfl) (by as_aux_lemma => kernel_rfl) (fun _ _ _ h => h) rfl (by assumption) ?_
    try simp only [Act.put, List.setIfInBounds_toArray, List.set_cons_zero, List.set_cons_succ]
    refine hU (i := 27) (take_list rfl) (by as_aux_lemma => kernel_rfl) (fun _ _ _ h => h) rfl (by assumption) ?_
    refine hT (i := 28) (v := ?vY51q328) (take_list rfl) (by as_aux_lemma => kernel_rfl) (fun _ _ _ h => h) rfl ?yY51q328 (by assumption) ?rY51q328
    case yY51q328 => (intro w h; go_simp <;> with_reducible rfl)
    refine hT (i := 29) (v := ?vY51q329) (take_list rfl) (by as_aux_lemma => kernel_rfl) (fun _ _ _ h => h) rfl ?yY51q329 (by assumption) ?rY51q329
    case yY51q329 => (intro w h; go_simp <;> with_reducible rfl)
    try simp only [Act.put, List.setIfInBounds_toArray, List.set_cons_zero, List.set_cons_succ]
    refine hU (i := 30) (take_list rfl) (by as_aux_lemma => kernel_rfl) (fun _ _ _ h => h) rfl (by assumption) ?_
    refine hU (i := 31) (take_list rfl) (by as_aux_lemma => kernel_rfl) (fun _ _ _ h => h) rfl (by assumption) ?_
    refine hU (i := 32) (take_list rfl) (by as_aux_lemma => kernel_rfl) (fun _ _ _ h => h) rfl (by assumption) ?_
    try simp only [Act.put, List.setIfInBounds_toArray, List.set_cons_zero, List.set_cons_succ]
    refine hT (i := 33) (v := ?vY51q333) (take_list rfl) (by as_aux_lemma => kernel_rfl) (fun _ _ _ h => h) rfl ?yY51q333 (by assumption) ?rY51q333
    case yY51q333 => (intro w h; go_simp <;> with_reducible rfl)
    refine hT (i := 34) (v := ?vY51q334) (take_list rfl) (by as_aux_lemma => kernel_rfl) (fun _ _ _ h => h) rfl ?yY51q334 (by assumption) ?rY51q334
    case yY51q334 => (intro w h; go_simp <;> with_reducible rfl)
    refine hU (i := 35) (take_list rfl) (by as_aux_lemma => kernel_rfl) (fun _ _ _ h => h) rfl (by assumption) ?_
    try simp only [Act.put, List.setIfInBounds_toArray, List.set_cons_zero, List.set_cons_succ]
    refine hU (i := 36) (take_list rfl) (by as_aux_lemma => kernel_rfl) (fun _ _ _ h => h) rfl (by assumption) ?_
    refine hU (i := 37) (take_list rfl) (by as_aux_lemma => kernel_rfl) (fun _ _ _ h => h) rfl (by assumption) ?_
    refine hU (i := 38) (take_list rfl) (by as_aux_lemma => kernel_rfl) (fun _ _ _ h => h) rfl (by assumption) ?_
    try simp only [Act.put, List.setIfInBounds_toArray, List.set_cons_zero, List.set_cons_succ]
    refine hU (i := 39) (take_list rfl) (by as_aux_lemma => kernel_rfl) (fun _ _ _ h => h) rfl (by assumption) ?_
    refine hT (i := 40) (v := ?vY51q340) (take_list rfl) (by as_aux_lemma => kernel_rfl) (fun _ _ _ h => h) rfl ?yY51q340 (by assumption) ?rY51q340
    case yY51q340 => (intro w h; go_simp <;> with_reducible rfl)
    refine hT (i := 41) (v := ?vY51q341) (take_list rfl) (by as_aux_lemma => kernel_rfl) (fun _ _ _ h => h) rfl ?yY51q341 (by assumption) ?rY51q341
    case yY51q341 => (intro w h; go_simp <;> with_reducible rfl)
    try simp only [Act.put, List.setIfInBounds_toArray, List.set_cons_zero, List.set_cons_succ]
    refine hU (i := 42) (take_list rfl) (by as_aux_lemma => kernel_rfl) (fun _ _ _ h => h) rfl (by assumption) ?_
    refine hU (i := 43) (take_list rfl) (by as_aux_lemma => kernel_rfl) (fun _ _ _ h => h) rfl (by assumption) ?_
    refine hU (i := 44) (take_list rfl) (by as_aux_lemma => kernel_rfl) (fun _ _ _ h => h) rfl (by assumption) ?_
    try simp only [Act.put, List.setIfInBounds_toArray, List.set_cons_zero, List.set_cons_succ]
    refine hU (i := 45) (take_list rfl) (by as_aux_lemma => kernel_rfl) (fun _ _ _ h => h) rfl (by assumption) ?_
    refine hU (i := 46) (take_list rfl) (by as_aux_lemma => kernel_rfl) (fun _ _ _ h => h) rfl (by assumption) ?_
    refine hT (i := 47) (v := ?vY51q347) (take_list rfl) (by as_aux_lemma => kernel_rfl) (fun _ _ _ h => h) rfl ?yY51q347 (by assumption) ?rY51q347
    case yY51q347 => (intro w h; go_simp <;> with_reducible rfl)
    try simp only [Act.put, List.setIfInBounds_toArray, List.set_cons_zero, List.set_cons_succ]
    refine hT (i := 48) (v := ?vY51q348) (take_list rfl) (by as_aux_lemma => kernel_rfl) (fun _ _ _ h => h) rfl ?yY51q348 (by assumption) ?rY51q348
    case yY51q348 => (intro w h; go_simp <;> with_reducible rfl)
    refine hU (i := 49) (take_list rfl) (by as_aux_lemma => kernel_rfl) (fun _ _ _ h => h) rfl (by assumption) ?_
    refine hU (i := 50) (take_list rfl) (by as_aux_lemma => kernel_rfl) (fun _ _ _ h => h) rfl (by assumption) ?_
    try simp only [Act.put, List.setIfInBounds_toArray, List.set_cons_zero, List.set_cons_succ]
    refine hU (i := 51) (take_list rfl) (by as_aux_lemma => kernel_rfl) (fun _ _ _ h => h) rfl (by assumption) ?_
    refine hU (i := 52) (take_list rfl) (by as_aux_lemma => kernel_rfl) (fun _ _ _ h => h) rfl (by assumption) ?_
    refine hU (i := 53) (take_list rfl) (by as_aux_lemma => kernel_rfl) (fun _ _ _ h => h) rfl (by assumption) ?_
    try simp only [Act.put, List.setIfInBounds_toArray, List.set_cons_zero, List.set_cons_succ]
    refine hT (i := 54) (v := ?vY51q354) (take_list rfl) (by as_aux_lemma => kernel_rfl) (fun _ _ _ h => h) rfl ?yY51q354 (by assumption) ?rY51q354
    case yY51q354 => (intro w h; go_simp <;> with_reducible rfl)
    refine hT (i := 55) (v := ?vY51q355) (take_list rfl) (by as_aux_lemma => kernel_rfl) (fun _ _ _ h => h) rfl ?yY51q355 (by assumption) ?rY51q355
    case yY51q355 => (intro w h; go_simp <;> with_reducible rfl)
    refine hU (i := 56) (take_list rfl) (by as_aux_lemma => kernel_rfl) (fun _ _ _ h => h) rfl (by assumption) ?_
    try simp only [Act.put, List.setIfInBounds_toArray, List.set_cons_zero, List.set_cons_succ]
    refine hU (i := 57) (take_list rfl) (by as_aux_lemma => kernel_rfl) (fun _ _ _ h => h) rfl (by assumption) ?_
    refine hU (i := 58) (take_list rfl) (by as_aux_lemma => kernel_rfl) (fun _ _ _ h => h) rfl (by assumption) ?_
    refine hU (i := 59) (take_list rfl) (by as_aux_lemma => kernel_rfl) (fun _ _ _ h => h) rfl (by assumption) ?_
    try simp only [Act.put, List.setIfInBounds_toArray, List.set_cons_zero, List.set_cons_succ]
    refine hU (i := 60) (take_list rfl) (by as_aux_lemma => kernel_rfl) (fun _ _ _ h => h) rfl (by assumption) ?_
    refine hT (i := 61) (v := ?vY51q361) (take_list rfl) (by as_aux_lemma => kernel_rfl) (fun _ _ _ h => h) rfl ?yY51q361 (by assumption) ?rY51q361
    case yY51q361 => (intro w h; go_simp <;> with_reducible rfl)
    refine hT (i := 62) (v := ?vY51q362) (take_list rfl) (by as_aux_lemma => kernel_rfl) (fun _ _ _ h => h) rfl ?yY51q362 (by assumption) ?rY51q362
    case yY51q362 => (intro w h; go_simp <;> with_reducible rfl)
    try simp only [Act.put, List.setIfInBounds_toArray, List.set_cons_zero, List.set_cons_succ]
    refine hU (i := 63) (take_list rfl) (by as_aux_lemma => kernel_rfl) (fun _ _ _ h => h) rfl (by assumption) ?_
    refine hU (i := 64) (take_list rfl) (by as_aux_lemma => kernel_rfl) (fun _ _ _ h => h) rfl (by assumption) ?_
    refine hU (i := 65) (take_list rfl) (by as_aux_lemma => kernel_rfl) (fun _ _ _ h => h) rfl (by assumption) ?_
    try simp only [Act.put, List.setIfInBounds_toArray, List.set_cons_zero, List.set_cons_succ]
    refine hU (i := 66) (take_list rfl) (by as_aux_lemma => kernel_rfl) (fun _ _ _ h => h) rfl (by assumption) ?_
    refine hU (i := 67) (take_list rfl) (by as_aux_lemma => kernel_rfl) (fun _ _ _ h => h) rfl (by assumption) ?_
    refine hT (i := 68) (v := ?vY51q368) (take_list rfl) (by as_aux_lemma => kernel_rfl) (fun _ _ _ h => h) rfl ?yY51q368 (by assumption) ?rY51q368
    case yY51q368 => (intro w h; go_simp <;> with_reducible rfl)
    try simp only [Act.put, List.setIfInBounds_toArray, List.set_cons_zero, List.set_cons_succ]
    refine hT (i := 69) (v := ?vY51q369) (take_list rfl) (by as_aux_lemma => kernel_rfl) (fun _ _ _ h => h) rfl ?yY51q369 (by assumption) ?rY51q369
    case yY51q369 => (intro w h; go_simp <;> with_reducible rfl)
    refine hU (i := 70) (take_list rfl) (by as_aux_lemma => kernel_rfl) (fun _ _ _ h => h) rfl (by assumption) ?_
    refine hU (i := 71) (take_list rfl) (by as_aux_lemma => kernel_rfl) (fun _ _ _ h => h) rfl (by assumption) ?_
    try simp only [Act.put, List.setIfInBounds_toArray, List.set_cons_zero, List.set_cons_succ]
    refine hU (i := 72) (take_list rfl) (by as_aux_lemma => kernel_rfl) (fun _ _ _ h => h) rfl (by assumption) ?_
    refine hU (i := 73) (take_list rfl) (by as_aux_lemma => kernel_rfl) (fun _ _ _ h => h) rfl (by assumption) ?_
    refine hU (i := 74) (take_list rfl) (by as_aux_lemma => kernel_rfl) (fun _ _ _ h => h) rfl (by assumption) ?_
    try simp only [Act.put, List.setIfInBounds_toArray, List.set_cons_zero, List.set_cons_succ]
    refine hT (i := 75) (v := ?vY51q375) (take_list rfl) (by as_aux_lemma => kernel_rfl) (fun _ _ _ h => h) rfl ?yY51q375 (by assumption) ?rY51q375
    case yY51q375 => (intro w h; go_simp <;> with_reducible rfl)
    refine wpAnyH_done (by kernel_rfl) ?_ _
    go_wp2_with fail
    go_roundw
    case rel => first | exact ⟨i + 1, rfl, hlt, by rw [any_take HPI.out, FI.out, V.out]; rfl, BM0.out.trans ((below_drewed _ wm).mono (by omega))⟩ | ((repeat apply Exists.intro); exact ⟨⟨i + 1, rfl, hlt, by rw [any_take HPI.out, FI.out, V.out]; rfl, BM0.out.trans ((below_drewed _ wm).mono (by omega))⟩, rfl⟩)
    case measure => (simp only [intOf]; omega)
  have qcY51 : (p.pos == y) = true := by simpa using cY51
  by_cases cY52 : p.pos < 1024
  case neg =>
    have qcY52 : decide (p.pos < 1024) = false := decide_eq_false cY52
    have V := Lib.hid (show F p = false by rw [FP.out]; unfold matchB; simp only [decide_eq_true cY50, decide_eq_true cY51, decide_eq_false cY52, Bool.true_and, Bool.false_and])
    clear cY50 cY51 cY52
    refine wp_region_held_drew (S := (fun w' => w'.cell? ⟨gr, 0, none⟩ = some (.int .i64 p.r.kind) ∧ w'.cell? ⟨gr, 1, none⟩ = some (.int .i64 p.r.cart) ∧ w'.cell? ⟨gr, 2, none⟩ = some (strV p.r.key) ∧ w'.cell? ⟨gr, 3, none⟩ = some (.int .i64 p.r.gen) ∧ w'.cell? ⟨gr, 4, none⟩ = some (.int .i64 p.r.group) ∧ w'.cell? ⟨gr, 5, none⟩ = some (.int .i64 p.r.groups) ∧ w'.cell? ⟨gr, 6, none⟩ = some (.int .i64 p.r.index) ∧ w'.cell? ⟨gr, 7, none⟩ = some (.int .i64 p.r.size) ∧ w'.cell? ⟨gr, 8, none⟩ = some (strV p.r.sum) ∧ w'.cell? ⟨gr, 9, none⟩ = some (.slice p.A p.r.data.length p.c) ∧ w'.cell? ⟨gp, 0, none⟩ = some (.int .i64 p.cart) ∧ w'.cell? ⟨gp, 1, none⟩ = some (.int .i64 p.pos) ∧ w'.cell? ⟨w.heap.size, 0, none⟩ = some (strV k) ∧ w'.cell? ⟨w.heap.size, 1, none⟩ = some (.int .i64 gn) ∧ w'.cell? ⟨w.heap.size, 2, none⟩ = some (.int .i64 sz) ∧ w'.cell? ⟨w.heap.size, 3, none⟩ = some (strV sm) ∧ w'.cell? ⟨w.heap.size, 4, none⟩ = some (.slice (some ⟨g, 0, none⟩) q q) ∧ w'.cell? ⟨g, s * 2, none⟩ = some (.int .i64 x) ∧ w'.cell? ⟨g, s * 2 + 1, none⟩ = some (.int .i64 y))) (by kernel_rfl) ⟨r0, r1, r2, r3, r4, r5, r6, r7, r8, r9, g0, g1, t0, t1, t2, t3, t4, v0, v1⟩ (fun hHeld => ?_)
    refine hT (i := 0) (v := ?vY52q40) (take_list rfl) (by as_aux_lemma => kernel_rfl) (fun _ _ _ h => h) rfl ?yY52q40 (by assumption) ?rY52q40
    case yY52q40 => (intro w h; go_simp <;> with_reducible rfl)
    refine hT (i := 1) (v := ?vY52q41) (take_list rfl) (by as_aux_lemma => kernel_rfl) (fun _ _ _ h => h) rfl ?yY52q41 (by assumption) ?rY52q41
    case yY52q41 => (intro w h; go_simp <;> with_reducible rfl)
    refine hT (i := 2) (v := ?vY52q42) (take_list rfl) (by as_aux_lemma => kernel_rfl) (fun _ _ _ h => h) rfl ?yY52q42 (by assumption) ?rY52q42
    case yY52q42 => (intro w h; go_simp <;> with_reducible rfl)
    try simp only [Act.put, List.setIfInBounds_toArray, List.set_cons_zero, List.set_cons_succ]
    refine hT (i := 3) (v := ?vY52q43) (take_list rfl) (by as_aux_lemma => kernel_rfl) (fun _ _ _ h => h) rfl ?yY52q43 (by assumption) ?rY52q43
    case yY52q43 => (intro w h; go_simp <;> with_reducible rfl)
    refine hT (i := 4) (v := ?vY52q44) (take_list rfl) (by as_aux_lemma => kernel_rfl) (fun _ _ _ h => h) rfl ?yY52q44 (by assumption) ?rY52q44
    case yY52q44 => (intro w h; go_simp <;> with_reducible rfl)
    refine hT (i := 5) (v := ?vY52q45) (take_list rfl) (by as_aux_lemma => kernel_rfl) (fun _ _ _ h => h) rfl ?yY52q45 (by assumption) ?rY52q45
    case yY52q45 => (intro w h; go_simp <;> with_reducible rfl)
    try simp only [Act.put, List.setIfInBounds_toArray, List.set_cons_zero, List.set_cons_succ]
    refine hT (i := 6) (v := ?vY52q46) (take_list rfl) (by as_aux_lemma => kernel_rfl) (fun _ _ _ h => h) rfl ?yY52q46 (by assumption) ?rY52q46
    case yY52q46 => (intro w h; go_simp <;> with_reducible rfl)
    refine hT (i := 7) (v := ?vY52q47) (take_list rfl) (by as_aux_lemma => kernel_rfl) (fun _ _ _ h => h) rfl ?yY52q47 (by assumption) ?rY52q47
    case yY52q47 => (intro w h; go_simp <;> with_reducible rfl)
    refine hT (i := 8) (v := ?vY52q48) (take_list rfl) (by as_aux_lemma => kernel_rfl) (fun _ _ _ h => h) rfl ?yY52q48 (by assumption) ?rY52q48
    case yY52q48 => (intro w h; go_simp <;> with_reducible rfl)
    try simp only [Act.put, List.setIfInBounds_toArray, List.set_cons_zero, List.set_cons_succ]
    refine hT (i := 9) (v := ?vY52q49) (take_list rfl) (by as_aux_lemma => kernel_rfl) (fun _ _ _ h => h) rfl ?yY52q49 (by assumption) ?rY52q49
    case yY52q49 => (intro w h; go_simp <;> with_reducible rfl)
    refine hT (i := 10) (v := ?vY52q410) (take_list rfl) (by as_aux_lemma => kernel_rfl) (fun _ _ _ h => h) rfl ?yY52q410 (by assumption) ?rY52q410
    case yY52q410 => (intro w h; go_simp <;> with_reducible rfl)
    refine hT (i := 11) (v := ?vY52q411) (take_list rfl) (by as_aux_lemma => kernel_rfl) (fun _ _ _ h => h) rfl ?yY52q411 (by assumption) ?rY52q411
    case yY52q411 => (intro w h; go_simp <;> with_reducible rfl)
    try simp only [Act.put, List.setIfInBounds_toArray, List.set_cons_zero, List.set_cons_succ]
    refine hT (i := 12) (v := ?vY52q412) (take_list rfl) (by as_aux_lemma => kernel_rfl) (fun _ _ _ h => h) rfl ?yY52q412 (by assumption) ?rY52q412
    case yY52q412 => (intro w h; go_simp <;> with_reducible rfl)
    refine hT (i := 13) (v := ?vY52q413) (take_list rfl) (by as_aux_lemma => kernel_rfl) (fun _ _ _ h => h) rfl ?yY52q413 (by assumption) ?rY52q413
    case yY52q413 => (intro w h; go_simp <;> with_reducible rfl)
    refine hT (i := 14) (v := ?vY52q414) (take_list rfl) (by as_aux_lemma => kernel_rfl) (fun _ _ _ h => h) rfl ?yY52q414 (by assumption) ?rY52q414
    case yY52q414 => (intro w h; go_simp <;> with_reducible rfl)
    try simp only [Act.put, List.setIfInBounds_toArray, List.set_cons_zero, List.set_cons_succ]
    refine hT (i := 15) (v := ?vY52q415) (take_list rfl) (by as_aux_lemma => kernel_rfl) (fun _ _ _ h => h) rfl ?yY52q415 (by assumption) ?rY52q415
    case yY52q415 => (intro w h; go_simp <;> with_reducible rfl)
    refine hT (i := 16) (v := ?vY52q416) (take_list rfl) (by as_aux_lemma => kernel_rfl) (fun _ _ _ h => h) rfl ?yY52q416 (by assumption) ?rY52q416
    case yY52q416 => (intro w h; go_simp <;> with_reducible rfl)
    refine hT (i := 17) (v := ?vY52q417) (take_list rfl) (by as_aux_lemma => kernel_rfl) (fun _ _ _ h => h) rfl ?yY52q417 (by assumption) ?rY52q417
    case yY52q417 => (intro w h; go_simp <;> with_reducible rfl)
    try simp only [Act.put, List.setIfInBounds_toArray, List.set_cons_zero, List.set_cons_succ]
    refine hT (i := 18) (v := ?vY52q418) (take_list rfl) (by as_aux_lemma => kernel_rfl) (fun _ _ _ h => h) rfl ?yY52q418 (by assumption) ?rY52q418
    case yY52q418 => (intro w h; go_simp <;> with_reducible rfl)
    refine hT (i := 19) (v := ?vY52q419) (take_list rfl) (by as_aux_lemma => kernel_rfl) (fun _ _ _ h => h) rfl ?yY52q419 (by assumption) ?rY52q419
    case yY52q419 => (intro w h; go_simp <;> with_reducible rfl)
    refine hT (i := 20) (v := ?vY52q420) (take_list rfl) (by as_aux_lemma => kernel_rfl) (fun _ _ _ h => h) rfl ?yY52q420 (by assumption) ?rY52q420
    case yY52q420 => (intro w h; go_simp <;> with_reducible rfl)
    try simp only [Act.put, List.setIfInBounds_toArray, List.set_cons_zero, List.set_cons_succ]
    refine hT (i := 21) (v := ?vY52q421) (take_list rfl) (by as_aux_lemma => kernel_rfl) (fun _ _ _ h => h) rfl ?yY52q421 (by assumption) ?rY52q421
    case yY52q421 => (intro w h; go_simp <;> with_reducible rfl)
    refine hT (i := 22) (v := ?vY52q422) (take_list rfl) (by as_aux_lemma => kernel_rfl) (fun _ _ _ h => h) rfl ?yY52q422 (by assumption) ?rY52q422
    case yY52q422 => (intro w h; go_simp <;> with_reducible rfl)
    refine hT (i := 23) (v := ?vY52q423) (take_list rfl) (by as_aux_lemma => kernel_rfl) (fun _ _ _ h => h) rfl ?yY52q423 (by assumption) ?rY52q423
    case yY52q423 => (intro w h; go_simp <;> with_reducible rfl)
    try simp only [Act.put, List.setIfInBounds_toArray, List.set_cons_zero, List.set_cons_succ]
    refine hT (i := 24) (v := ?vY52q424) (take_list rfl) (by as_aux_lemma => kernel_rfl) (fun _ _ _ h => h) rfl ?yY52q424 (by assumption) ?rY52q424
    case yY52q424 => (intro w h; go_simp <;> with_reducible rfl)
    refine hT (i := 25) (v := ?vY52q425) (take_list rfl) (by as_aux_lemma => kernel_rfl) (fun _ _ _ h => h) rfl ?yY52q425 (by assumption) ?rY52q425
    case yY52q425 => (intro w h; go_simp <;> with_reducible rfl)
    refine hU (i := 26) (take_list rfl) (by as_aux_lemma => kernel_rfl) (fun _ _ _ h => h) rfl (by assumption) ?_
    try simp only [Act.put, List.setIfInBounds_toArray, List.set_cons_zero, List.set_cons_succ]
    refine hU (i := 27) (take_list rfl) (by as_aux_lemma => kernel_rfl) (fun _ _ _ h => h) rfl (by assumption) ?_
    refine hT (i := 28) (v := ?vY52q428) (take_list rfl) (by as_aux_lemma => kernel_rfl) (fun _ _ _ h => h) rfl ?yY52q428 (by assumption) ?rY52q428
    case yY52q428 => (intro w h; go_simp <;> with_reducible rfl)
    refine hT (i := 29) (v := ?vY52q429) (take_list rfl) (by as_aux_lemma => kernel_rfl) (fun _ _ _ h => h) rfl ?yY52q429 (by assumption) ?rY52q429
    case yY52q429 => (intro w h; go_simp <;> with_reducible rfl)
    try simp only [Act.put, List.setIfInBounds_toArray, List.set_cons_zero, List.set_cons_succ]
    refine hU (i := 30) (take_list rfl) (by as_aux_lemma => kernel_rfl) (fun _ _ _ h => h) rfl (by assumption) ?_
    refine hU (i := 31) (take_list rfl) (by as_aux_lemma => kernel_rfl) (fun _ _ _ h => h) rfl (by assumption) ?_
    refine hU (i := 32) (take_list rfl) (by as_aux_lemma => kernel_rfl) (fun _ _ _ h => h) rfl (by assumption) ?_
    try simp only [Act.put, List.setIfInBounds_toArray, List.set_cons_zero, List.set_cons_succ]
    refine hT (i := 33) (v := ?vY52q433) (take_list rfl) (by as_aux_lemma => kernel_rfl) (fun _ _ _ h => h) rfl ?yY52q433 (by assumption) ?rY52q433
    case yY52q433 => (intro w h; go_simp <;> with_reducible rfl)
    refine hT (i := 34) (v := ?vY52q434) (take_list rfl) (by as_aux_lemma => kernel_rfl) (fun _ _ _ h => h) rfl ?yY52q434 (by assumption) ?rY52q434
    case yY52q434 => (intro w h; go_simp <;> with_reducible rfl)
    refine hU (i := 35) (take_list rfl) (by as_aux_lemma => kernel_rfl) (fun _ _ _ h => h) rfl (by assumption) ?_
    try simp only [Act.put, List.setIfInBounds_toArray, List.set_cons_zero, List.set_cons_succ]
    refine hU (i := 36) (take_list rfl) (by as_aux_lemma => kernel_rfl) (fun _ _ _ h => h) rfl (by assumption) ?_
    refine hU (i := 37) (take_list rfl) (by as_aux_lemma => kernel_rfl) (fun _ _ _ h => h) rfl (by assumption) ?_
    refine hU (i := 38) (take_list rfl) (by as_aux_lemma => kernel_rfl) (fun _ _ _ h => h) rfl (by assumption) ?_
    try simp only [Act.put, List.setIfInBounds_toArray, List.set_cons_zero, List.set_cons_succ]
    refine hU (i := 39) (take_list rfl) (by as_aux_lemma => kernel_rfl) (fun _ _ _ h => h) rfl (by assumption) ?_
    refine hT (i := 40) (v := ?vY52q440) (take_list rfl) (by as_aux_lemma => kernel_rfl) (fun _ _ _ h => h) rfl ?yY52q440 (by assumption) ?rY52q440
    case yY52q440 => (intro w h; go_simp <;> with_reducible rfl)
    refine hT (i := 41) (v := ?vY52q441) (take_list rfl) (by as_aux_lemma => kernel_rfl) (fun _ _ _ h => h) rfl ?yY52q441 (by assumption) ?rY52q441
    case yY52q441 => (intro w h; go_simp <;> with_reducible rfl)
    try simp only [Act.put, List.setIfInBounds_toArray, List.set_cons_zero, List.set_cons_succ]
    refine hU (i := 42) (take_list rfl) (by as_aux_lemma => kernel_rfl) (fun _ _ _ h => h) rfl (by assumption) ?_
    refine hU (i := 43) (take_list rfl) (by as_aux_lemma => kernel_rfl) (fun _ _ _ h => h) rfl (by assumption) ?_
    refine hU (i := 44) (take_list rfl) (by as_aux_lemma => kernel_rfl) (fun _ _ _ h => h) rfl (by assumption) ?_
    try simp only [Act.put, List.setIfInBounds_toArray, List.set_cons_zero, List.set_cons_succ]
    refine hU (i := 45) (take_list rfl) (by as_aux_lemma => kernel_rfl) (fun _ _ _ h => h) rfl (by assumption) ?_
    refine hU (i := 46) (take_list rfl) (by as_aux_lemma => kernel_rfl) (fun _ _ _ h => h) rfl (by assumption) ?_
    refine hT (i := 47) (v := ?vY52q447) (take_list rfl) (by as_aux_lemma => kernel_rfl) (fun _ _ _ h => h) rfl ?yY52q447 (by assumption) ?rY52q447
    case yY52q447 => (intro w h; go_simp <;> with_reducible rfl)
    try simp only [Act.put, List.setIfInBounds_toArray, List.set_cons_zero, List.set_cons_succ]
    refine hT (i := 48) (v := ?vY52q448) (take_list rfl) (by as_aux_lemma => kernel_rfl) (fun _ _ _ h => h) rfl ?yY52q448 (by assumption) ?rY52q448
    case yY52q448 => (intro w h; go_simp <;> with_reducible rfl)
    refine hU (i := 49) (take_list rfl) (by as_aux_lemma => kernel_rfl) (fun _ _ _ h => h) rfl (by assumption) ?_
    refine hU (i := 50) (take_list rfl) (by as_aux_lemma => kernel_rfl) (fun _ _ _ h => h) rfl (by assumption) ?_
    try simp only [Act.put, List.setIfInBounds_toArray, List.set_cons_zero, List.set_cons_succ]
    refine hU (i := 51) (take_list rfl) (by as_aux_lemma => kernel_rfl) (fun _ _ _ h => h) rfl (by assumption) ?_
    refine hU (i := 52) (take_list rfl) (by as_aux_lemma => kernel_rfl) (fun _ _ _ h => h) rfl (by assumption) ?_
    refine hU (i := 53) (take_list rfl) (by as_aux_lemma => kernel_rfl) (fun _ _ _ h => h) rfl (by assumption) ?_
    try simp only [Act.put, List.setIfInBounds_toArray, List.set_cons_zero, List.set_cons_succ]
    refine hT (i := 54) (v := ?vY52q454) (take_list rfl) (by as_aux_lemma => kernel_rfl) (fun _ _ _ h => h) rfl ?yY52q454 (by assumption) ?rY52q454
    case yY52q454 => (intro w h; go_simp <;> with_reducible rfl)
    refine hT (i := 55) (v := ?vY52q455) (take_list rfl) (by as_aux_lemma => kernel_rfl) (fun _ _ _ h => h) rfl ?yY52q455 (by assumption) ?rY52q455
    case yY52q455 => (intro w h; go_simp <;> with_reducible rfl)
    refine hU (i := 56) (take_list rfl) (by as_aux_lemma => kernel_rfl) (fun _ _ _ h => h) rfl (by assumption) ?_
    try simp only [Act.put, List.setIfInBounds_toArray, List.set_cons_zero, List.set_cons_succ]
    refine hU (i := 57) (take_list rfl) (by as_aux_lemma => kernel_rfl) (fun _ _ _ h => h) rfl (by assumption) ?_
    refine hU (i := 58) (take_list rfl) (by as_aux_lemma => kernel_rfl) (fun _ _ _ h => h) rfl (by assumption) ?_
    refine hU (i := 59) (take_list rfl) (by as_aux_lemma => kernel_rfl) (fun _ _ _ h => h) rfl (by assumption) ?_
    try simp only [Act.put, List.setIfInBounds_toArray, List.set_cons_zero, List.set_cons_succ]
    refine hU (i := 60) (take_list rfl) (by as_aux_lemma => kernel_rfl) (fun _ _ _ h => h) rfl (by assumption) ?_
    refine hT (i := 61) (v := ?vY52q461) (take_list rfl) (by as_aux_lemma => kernel_rfl) (fun _ _ _ h => h) rfl ?yY52q461 (by assumption) ?rY52q461
    case yY52q461 => (intro w h; go_simp <;> with_reducible rfl)
    refine hT (i := 62) (v := ?vY52q462) (take_list rfl) (by as_aux_lemma => kernel_rfl) (fun _ _ _ h => h) rfl ?yY52q462 (by assumption) ?rY52q462
    case yY52q462 => (intro w h; go_simp <;> with_reducible rfl)
    try simp only [Act.put, List.setIfInBounds_toArray, List.set_cons_zero, List.set_cons_succ]
    refine hU (i := 63) (take_list rfl) (by as_aux_lemma => kernel_rfl) (fun _ _ _ h => h) rfl (by assumption) ?_
    refine hU (i := 64) (take_list rfl) (by as_aux_lemma => kernel_rfl) (fun _ _ _ h => h) rfl (by assumption) ?_
    refine hU (i := 65) (take_list rfl) (by as_aux_lemma => kernel_rfl) (fun _ _ _ h => h) rfl (by assumption) ?_
    try simp only [Act.put, List.setIfInBounds_toArray, List.set_cons_zero, List.set_cons_succ]
    refine hU (i := 66) (take_list rfl) (by as_aux_lemma => kernel_rfl) (fun _ _ _ h => h) rfl (by assumption) ?_
    refine hU (i := 67) (take_list rfl) (by as_aux_lemma => kernel_rfl) (fun _ _ _ h => h) rfl (by assumption) ?_
    refine hT (i := 68) (v := ?vY52q468) (take_list rfl) (by as_aux_lemma => kernel_rfl) (fun _ _ _ h => h) rfl ?yY52q468 (by assumption) ?rY52q468
    case yY52q468 => (intro w h; go_simp <;> with_reducible rfl)
    try simp only [Act.put, List.setIfInBounds_toArray, List.set_cons_zero, List.set_cons_succ]
    refine hT (i := 69) (v := ?vY52q469) (take_list rfl) (by as_aux_lemma => kernel_rfl) (fun _ _ _ h => h) rfl ?yY52q469 (by assumption) ?rY52q469
    case yY52q469 => (intro w h; go_simp <;> with_reducible rfl)
    refine hU (i := 70) (take_list rfl) (by as_aux_lemma => kernel_rfl) (fun _ _ _ h => h) rfl (by assumption) ?_
    refine hU (i := 71) (take_list rfl) (by as_aux_lemma => kernel_rfl) (fun _ _ _ h => h) rfl (by assumption) ?_
    try simp only [Act.put, List.setIfInBounds_toArray, List.set_cons_zero, List.set_cons_succ]
    refine hU (i := 72) (take_list rfl) (by as_aux_lemma => kernel_rfl) (fun _ _ _ h => h) rfl (by assumption) ?_
    refine hU (i := 73) (take_list rfl) (by as_aux_lemma => kernel_rfl) (fun _ _ _ h => h) rfl (by assumption) ?_
    refine hU (i := 74) (take_list rfl) (by as_aux_lemma => kernel_rfl) (fun _ _ _ h => h) rfl (by assumption) ?_
    try simp only [Act.put, List.setIfInBounds_toArray, List.set_cons_zero, List.set_cons_succ]
    refine hT (i := 75) (v := ?vY52q475) (take_list rfl) (by as_aux_lemma => kernel_rfl) (fun _ _ _ h => h) rfl ?yY52q475 (by assumption) ?rY52q475
    case yY52q475 => (intro w h; go_simp <;> with_reducible rfl)
    refine wpAnyH_done (by kernel_rfl) ?_ _
    go_wp2_with fail
    go_roundw
    case rel => first | exact ⟨i + 1, rfl, hlt, by rw [any_take HPI.out, FI.out, V.out]; rfl, BM0.out.trans ((below_drewed _ wm).mono (by omega))⟩ | ((repeat apply Exists.intro); exact ⟨⟨i + 1, rfl, hlt, by rw [any_take HPI.out, FI.out, V.out]; rfl, BM0.out.trans ((below_drewed _ wm).mono (by omega))⟩, rfl⟩)
    case measure => (simp only [intOf]; omega)
  have qcY52 : decide (p.pos < 1024) = true := decide_eq_true cY52
  by_cases cY53 : goodV p.r = true
  case neg =>
    have qcY53 : goodV p.r = false := by simpa using cY53
    have V := Lib.hid (show F p = false by rw [FP.out]; unfold matchB; simp only [decide_eq_true cY50, decide_eq_true cY51, decide_eq_true cY52, qcY53, Bool.true_and, Bool.false_and])
    clear cY50 cY51 cY52 cY53
    refine wp_region_held_drew (S := (fun w' => w'.cell? ⟨gr, 0, none⟩ = some (.int .i64 p.r.kind) ∧ w'.cell? ⟨gr, 1, none⟩ = some (.int .i64 p.r.cart) ∧ w'.cell? ⟨gr, 2, none⟩ = some (strV p.r.key) ∧ w'.cell? ⟨gr, 3, none⟩ = some (.int .i64 p.r.gen) ∧ w'.cell? ⟨gr, 4, none⟩ = some (.int .i64 p.r.group) ∧ w'.cell? ⟨gr, 5, none⟩ = some (.int .i64 p.r.groups) ∧ w'.cell? ⟨gr, 6, none⟩ = some (.int .i64 p.r.index) ∧ w'.cell? ⟨gr, 7, none⟩ = some (.int .i64 p.r.size) ∧ w'.cell? ⟨gr, 8, none⟩ = some (strV p.r.sum) ∧ w'.cell? ⟨gr, 9, none⟩ = some (.slice p.A p.r.data.length p.c) ∧ w'.cell? ⟨gp, 0, none⟩ = some (.int .i64 p.cart) ∧ w'.cell? ⟨gp, 1, none⟩ = some (.int .i64 p.pos) ∧ w'.cell? ⟨w.heap.size, 0, none⟩ = some (strV k) ∧ w'.cell? ⟨w.heap.size, 1, none⟩ = some (.int .i64 gn) ∧ w'.cell? ⟨w.heap.size, 2, none⟩ = some (.int .i64 sz) ∧ w'.cell? ⟨w.heap.size, 3, none⟩ = some (strV sm) ∧ w'.cell? ⟨w.heap.size, 4, none⟩ = some (.slice (some ⟨g, 0, none⟩) q q) ∧ w'.cell? ⟨g, s * 2, none⟩ = some (.int .i64 x) ∧ w'.cell? ⟨g, s * 2 + 1, none⟩ = some (.int .i64 y))) (by kernel_rfl) ⟨r0, r1, r2, r3, r4, r5, r6, r7, r8, r9, g0, g1, t0, t1, t2, t3, t4, v0, v1⟩ (fun hHeld => ?_)
    refine hT (i := 0) (v := ?vY53q50) (take_list rfl) (by as_aux_lemma => kernel_rfl) (fun _ _ _ h => h) rfl ?yY53q50 (by assumption) ?rY53q50
    case yY53q50 => (intro w h; go_simp <;> with_reducible rfl)
    refine hT (i := 1) (v := ?vY53q51) (take_list rfl) (by as_aux_lemma => kernel_rfl) (fun _ _ _ h => h) rfl ?yY53q51 (by assumption) ?rY53q51
    case yY53q51 => (intro w h; go_simp <;> with_reducible rfl)
    refine hT (i := 2) (v := ?vY53q52) (take_list rfl) (by as_aux_lemma => kernel_rfl) (fun _ _ _ h => h) rfl ?yY53q52 (by assumption) ?rY53q52
    case yY53q52 => (intro w h; go_simp <;> with_reducible rfl)
    try simp only [Act.put, List.setIfInBounds_toArray, List.set_cons_zero, List.set_cons_succ]
    refine hT (i := 3) (v := ?vY53q53) (take_list rfl) (by as_aux_lemma => kernel_rfl) (fun _ _ _ h => h) rfl ?yY53q53 (by assumption) ?rY53q53
    case yY53q53 => (intro w h; go_simp <;> with_reducible rfl)
    refine hT (i := 4) (v := ?vY53q54) (take_list rfl) (by as_aux_lemma => kernel_rfl) (fun _ _ _ h => h) rfl ?yY53q54 (by assumption) ?rY53q54
    case yY53q54 => (intro w h; go_simp <;> with_reducible rfl)
    refine hT (i := 5) (v := ?vY53q55) (take_list rfl) (by as_aux_lemma => kernel_rfl) (fun _ _ _ h => h) rfl ?yY53q55 (by assumption) ?rY53q55
    case yY53q55 => (intro w h; go_simp <;> with_reducible rfl)
    try simp only [Act.put, List.setIfInBounds_toArray, List.set_cons_zero, List.set_cons_succ]
    refine hT (i := 6) (v := ?vY53q56) (take_list rfl) (by as_aux_lemma => kernel_rfl) (fun _ _ _ h => h) rfl ?yY53q56 (by assumption) ?rY53q56
    case yY53q56 => (intro w h; go_simp <;> with_reducible rfl)
    refine hT (i := 7) (v := ?vY53q57) (take_list rfl) (by as_aux_lemma => kernel_rfl) (fun _ _ _ h => h) rfl ?yY53q57 (by assumption) ?rY53q57
    case yY53q57 => (intro w h; go_simp <;> with_reducible rfl)
    refine hT (i := 8) (v := ?vY53q58) (take_list rfl) (by as_aux_lemma => kernel_rfl) (fun _ _ _ h => h) rfl ?yY53q58 (by assumption) ?rY53q58
    case yY53q58 => (intro w h; go_simp <;> with_reducible rfl)
    try simp only [Act.put, List.setIfInBounds_toArray, List.set_cons_zero, List.set_cons_succ]
    refine hT (i := 9) (v := ?vY53q59) (take_list rfl) (by as_aux_lemma => kernel_rfl) (fun _ _ _ h => h) rfl ?yY53q59 (by assumption) ?rY53q59
    case yY53q59 => (intro w h; go_simp <;> with_reducible rfl)
    refine hT (i := 10) (v := ?vY53q510) (take_list rfl) (by as_aux_lemma => kernel_rfl) (fun _ _ _ h => h) rfl ?yY53q510 (by assumption) ?rY53q510
    case yY53q510 => (intro w h; go_simp <;> with_reducible rfl)
    refine hT (i := 11) (v := ?vY53q511) (take_list rfl) (by as_aux_lemma => kernel_rfl) (fun _ _ _ h => h) rfl ?yY53q511 (by assumption) ?rY53q511
    case yY53q511 => (intro w h; go_simp <;> with_reducible rfl)
    try simp only [Act.put, List.setIfInBounds_toArray, List.set_cons_zero, List.set_cons_succ]
    refine hT (i := 12) (v := ?vY53q512) (take_list rfl) (by as_aux_lemma => kernel_rfl) (fun _ _ _ h => h) rfl ?yY53q512 (by assumption) ?rY53q512
    case yY53q512 => (intro w h; go_simp <;> with_reducible rfl)
    refine hT (i := 13) (v := ?vY53q513) (take_list rfl) (by as_aux_lemma => kernel_rfl) (fun _ _ _ h => h) rfl ?yY53q513 (by assumption) ?rY53q513
    case yY53q513 => (intro w h; go_simp <;> with_reducible rfl)
    refine hT (i := 14) (v := ?vY53q514) (take_list rfl) (by as_aux_lemma => kernel_rfl) (fun _ _ _ h => h) rfl ?yY53q514 (by assumption) ?rY53q514
    case yY53q514 => (intro w h; go_simp <;> with_reducible rfl)
    try simp only [Act.put, List.setIfInBounds_toArray, List.set_cons_zero, List.set_cons_succ]
    refine hT (i := 15) (v := ?vY53q515) (take_list rfl) (by as_aux_lemma => kernel_rfl) (fun _ _ _ h => h) rfl ?yY53q515 (by assumption) ?rY53q515
    case yY53q515 => (intro w h; go_simp <;> with_reducible rfl)
    refine hT (i := 16) (v := ?vY53q516) (take_list rfl) (by as_aux_lemma => kernel_rfl) (fun _ _ _ h => h) rfl ?yY53q516 (by assumption) ?rY53q516
    case yY53q516 => (intro w h; go_simp <;> with_reducible rfl)
    refine hT (i := 17) (v := ?vY53q517) (take_list rfl) (by as_aux_lemma => kernel_rfl) (fun _ _ _ h => h) rfl ?yY53q517 (by assumption) ?rY53q517
    case yY53q517 => (intro w h; go_simp <;> with_reducible rfl)
    try simp only [Act.put, List.setIfInBounds_toArray, List.set_cons_zero, List.set_cons_succ]
    refine hT (i := 18) (v := ?vY53q518) (take_list rfl) (by as_aux_lemma => kernel_rfl) (fun _ _ _ h => h) rfl ?yY53q518 (by assumption) ?rY53q518
    case yY53q518 => (intro w h; go_simp <;> with_reducible rfl)
    refine hT (i := 19) (v := ?vY53q519) (take_list rfl) (by as_aux_lemma => kernel_rfl) (fun _ _ _ h => h) rfl ?yY53q519 (by assumption) ?rY53q519
    case yY53q519 => (intro w h; go_simp <;> with_reducible rfl)
    refine hT (i := 20) (v := ?vY53q520) (take_list rfl) (by as_aux_lemma => kernel_rfl) (fun _ _ _ h => h) rfl ?yY53q520 (by assumption) ?rY53q520
    case yY53q520 => (intro w h; go_simp <;> with_reducible rfl)
    try simp only [Act.put, List.setIfInBounds_toArray, List.set_cons_zero, List.set_cons_succ]
    refine hT (i := 21) (v := ?vY53q521) (take_list rfl) (by as_aux_lemma => kernel_rfl) (fun _ _ _ h => h) rfl ?yY53q521 (by assumption) ?rY53q521
    case yY53q521 => (intro w h; go_simp <;> with_reducible rfl)
    refine hT (i := 22) (v := ?vY53q522) (take_list rfl) (by as_aux_lemma => kernel_rfl) (fun _ _ _ h => h) rfl ?yY53q522 (by assumption) ?rY53q522
    case yY53q522 => (intro w h; go_simp <;> with_reducible rfl)
    refine hT (i := 23) (v := ?vY53q523) (take_list rfl) (by as_aux_lemma => kernel_rfl) (fun _ _ _ h => h) rfl ?yY53q523 (by assumption) ?rY53q523
    case yY53q523 => (intro w h; go_simp <;> with_reducible rfl)
    try simp only [Act.put, List.setIfInBounds_toArray, List.set_cons_zero, List.set_cons_succ]
    refine hT (i := 24) (v := ?vY53q524) (take_list rfl) (by as_aux_lemma => kernel_rfl) (fun _ _ _ h => h) rfl ?yY53q524 (by assumption) ?rY53q524
    case yY53q524 => (intro w h; go_simp <;> with_reducible rfl)
    refine hT (i := 25) (v := ?vY53q525) (take_list rfl) (by as_aux_lemma => kernel_rfl) (fun _ _ _ h => h) rfl ?yY53q525 (by assumption) ?rY53q525
    case yY53q525 => (intro w h; go_simp <;> with_reducible rfl)
    refine hT (i := 26) (v := ?vY53q526) (take_list rfl) (by as_aux_lemma => kernel_rfl) (fun _ _ _ h => h) rfl ?yY53q526 (by assumption) ?rY53q526
    case yY53q526 => (intro w h; go_simp <;> with_reducible rfl)
    try simp only [Act.put, List.setIfInBounds_toArray, List.set_cons_zero, List.set_cons_succ]
    refine wpAnyH_ready (rs := [27]) (by kernel_rfl) (by simp) ?_
    refine AllReadyH.cons rfl (fun K hK => ?_) AllReadyH.nil
    go_simp
    go_wp2_with (go_at_call 14; refine (sGood p.r p.A p.c _).mono ?_; rintro e wg ⟨rfl, hb⟩; rw [qcY53]; have KB := Lib.hid (show Below wm.heap.size wm wg from (by first | exact hb | exact below_of_drew hb)); clear hb)
    clear hHeld
    refine hK.out _ _ ⟨keepc KB.out hgrz r0, keepc KB.out hgrz r1, keepc KB.out hgrz r2, keepc KB.out hgrz r3, keepc KB.out hgrz r4, keepc KB.out hgrz r5, keepc KB.out hgrz r6, keepc KB.out hgrz r7, keepc KB.out hgrz r8, keepc KB.out hgrz r9, keepc KB.out hgpz g0, keepc KB.out hgpz g1, keepc KB.out hzt t0, keepc KB.out hzt t1, keepc KB.out hzt t2, keepc KB.out hzt t3, keepc KB.out hzt t4, keepc KB.out hgz v0, keepc KB.out hgz v1⟩ (fun hHeld => ?_)
    clear hK K
    refine hT (i := 28) (v := ?vY53q528) (take_list rfl) (by as_aux_lemma => kernel_rfl) (fun _ _ _ h => h) rfl ?yY53q528 (by assumption) ?rY53q528
    case yY53q528 => (intro w h; go_simp <;> with_reducible rfl)
    refine hT (i := 29) (v := ?vY53q529) (take_list rfl) (by as_aux_lemma => kernel_rfl) (fun _ _ _ h => h) rfl ?yY53q529 (by assumption) ?rY53q529
    case yY53q529 => (intro w h; go_simp <;> with_reducible rfl)
    try simp only [Act.put, List.setIfInBounds_toArray, List.set_cons_zero, List.set_cons_succ]
    refine hU (i := 30) (take_list rfl) (by as_aux_lemma => kernel_rfl) (fun _ _ _ h => h) rfl (by assumption) ?_
    refine hU (i := 31) (take_list rfl) (by as_aux_lemma => kernel_rfl) (fun _ _ _ h => h) rfl (by assumption) ?_
    refine hU (i := 32) (take_list rfl) (by as_aux_lemma => kernel_rfl) (fun _ _ _ h => h) rfl (by assumption) ?_
    try simp only [Act.put, List.setIfInBounds_toArray, List.set_cons_zero, List.set_cons_succ]
    refine hT (i := 33) (v := ?vY53q533) (take_list rfl) (by as_aux_lemma => kernel_rfl) (fun _ _ _ h => h) rfl ?yY53q533 (by assumption) ?rY53q533
    case yY53q533 => (intro w h; go_simp <;> with_reducible rfl)
    refine hT (i := 34) (v := ?vY53q534) (take_list rfl) (by as_aux_lemma => kernel_rfl) (fun _ _ _ h => h) rfl ?yY53q534 (by assumption) ?rY53q534
    case yY53q534 => (intro w h; go_simp <;> with_reducible rfl)
    refine hU (i := 35) (take_list rfl) (by as_aux_lemma => kernel_rfl) (fun _ _ _ h => h) rfl (by assumption) ?_
    try simp only [Act.put, List.setIfInBounds_toArray, List.set_cons_zero, List.set_cons_succ]
    refine hU (i := 36) (take_list rfl) (by as_aux_lemma => kernel_rfl) (fun _ _ _ h => h) rfl (by assumption) ?_
    refine hU (i := 37) (take_list rfl) (by as_aux_lemma => kernel_rfl) (fun _ _ _ h => h) rfl (by assumption) ?_
    refine hU (i := 38) (take_list rfl) (by as_aux_lemma => kernel_rfl) (fun _ _ _ h => h) rfl (by assumption) ?_
    try simp only [Act.put, List.setIfInBounds_toArray, List.set_cons_zero, List.set_cons_succ]
    refine hU (i := 39) (take_list rfl) (by as_aux_lemma => kernel_rfl) (fun _ _ _ h => h) rfl (by assumption) ?_
    refine hT (i := 40) (v := ?vY53q540) (take_list rfl) (by as_aux_lemma => kernel_rfl) (fun _ _ _ h => h) rfl ?yY53q540 (by assumption) ?rY53q540
    case yY53q540 => (intro w h; go_simp <;> with_reducible rfl)
    refine hT (i := 41) (v := ?vY53q541) (take_list rfl) (by as_aux_lemma => kernel_rfl) (fun _ _ _ h => h) rfl ?yY53q541 (by assumption) ?rY53q541
    case yY53q541 => (intro w h; go_simp <;> with_reducible rfl)
    try simp only [Act.put, List.setIfInBounds_toArray, List.set_cons_zero, List.set_cons_succ]
    refine hU (i := 42) (take_list rfl) (by as_aux_lemma => kernel_rfl) (fun _ _ _ h => h) rfl (by assumption) ?_
    refine hU (i := 43) (take_list rfl) (by as_aux_lemma => kernel_rfl) (fun _ _ _ h => h) rfl (by assumption) ?_
    refine hU (i := 44) (take_list rfl) (by as_aux_lemma => kernel_rfl) (fun _ _ _ h => h) rfl (by assumption) ?_
    try simp only [Act.put, List.setIfInBounds_toArray, List.set_cons_zero, List.set_cons_succ]
    refine hU (i := 45) (take_list rfl) (by as_aux_lemma => kernel_rfl) (fun _ _ _ h => h) rfl (by assumption) ?_
    refine hU (i := 46) (take_list rfl) (by as_aux_lemma => kernel_rfl) (fun _ _ _ h => h) rfl (by assumption) ?_
    refine hT (i := 47) (v := ?vY53q547) (take_list rfl) (by as_aux_lemma => kernel_rfl) (fun _ _ _ h => h) rfl ?yY53q547 (by assumption) ?rY53q547
    case yY53q547 => (intro w h; go_simp <;> with_reducible rfl)
    try simp only [Act.put, List.setIfInBounds_toArray, List.set_cons_zero, List.set_cons_succ]
    refine hT (i := 48) (v := ?vY53q548) (take_list rfl) (by as_aux_lemma => kernel_rfl) (fun _ _ _ h => h) rfl ?yY53q548 (by assumption) ?rY53q548
    case yY53q548 => (intro w h; go_simp <;> with_reducible rfl)
    refine hU (i := 49) (take_list rfl) (by as_aux_lemma => kernel_rfl) (fun _ _ _ h => h) rfl (by assumption) ?_
    refine hU (i := 50) (take_list rfl) (by as_aux_lemma => kernel_rfl) (fun _ _ _ h => h) rfl (by assumption) ?_
    try simp only [Act.put, List.setIfInBounds_toArray, List.set_cons_zero, List.set_cons_succ]
    refine hU (i := 51) (take_list rfl) (by as_aux_lemma => kernel_rfl) (fun _ _ _ h => h) rfl (by assumption) ?_
    refine hU (i := 52) (take_list rfl) (by as_aux_lemma => kernel_rfl) (fun _ _ _ h => h) rfl (by assumption) ?_
    refine hU (i := 53) (take_list rfl) (by as_aux_lemma => kernel_rfl) (fun _ _ _ h => h) rfl (by assumption) ?_
    try simp only [Act.put, List.setIfInBounds_toArray, List.set_cons_zero, List.set_cons_succ]
    refine hT (i := 54) (v := ?vY53q554) (take_list rfl) (by as_aux_lemma => kernel_rfl) (fun _ _ _ h => h) rfl ?yY53q554 (by assumption) ?rY53q554
    case yY53q554 => (intro w h; go_simp <;> with_reducible rfl)
    refine hT (i := 55) (v := ?vY53q555) (take_list rfl) (by as_aux_lemma => kernel_rfl) (fun _ _ _ h => h) rfl ?yY53q555 (by assumption) ?rY53q555
    case yY53q555 => (intro w h; go_simp <;> with_reducible rfl)
    refine hU (i := 56) (take_list rfl) (by as_aux_lemma => kernel_rfl) (fun _ _ _ h => h) rfl (by assumption) ?_
    try simp only [Act.put, List.setIfInBounds_toArray, List.set_cons_zero, List.set_cons_succ]
    refine hU (i := 57) (take_list rfl) (by as_aux_lemma => kernel_rfl) (fun _ _ _ h => h) rfl (by assumption) ?_
    refine hU (i := 58) (take_list rfl) (by as_aux_lemma => kernel_rfl) (fun _ _ _ h => h) rfl (by assumption) ?_
    refine hU (i := 59) (take_list rfl) (by as_aux_lemma => kernel_rfl) (fun _ _ _ h => h) rfl (by assumption) ?_
    try simp only [Act.put, List.setIfInBounds_toArray, List.set_cons_zero, List.set_cons_succ]
    refine hU (i := 60) (take_list rfl) (by as_aux_lemma => kernel_rfl) (fun _ _ _ h => h) rfl (by assumption) ?_
    refine hT (i := 61) (v := ?vY53q561) (take_list rfl) (by as_aux_lemma => kernel_rfl) (fun _ _ _ h => h) rfl ?yY53q561 (by assumption) ?rY53q561
    case yY53q561 => (intro w h; go_simp <;> with_reducible rfl)
    refine hT (i := 62) (v := ?vY53q562) (take_list rfl) (by as_aux_lemma => kernel_rfl) (fun _ _ _ h => h) rfl ?yY53q562 (by assumption) ?rY53q562
    case yY53q562 => (intro w h; go_simp <;> with_reducible rfl)
    try simp only [Act.put, List.setIfInBounds_toArray, List.set_cons_zero, List.set_cons_succ]
    refine hU (i := 63) (take_list rfl) (by as_aux_lemma => kernel_rfl) (fun _ _ _ h => h) rfl (by assumption) ?_
    refine hU (i := 64) (take_list rfl) (by as_aux_lemma => kernel_rfl) (fun _ _ _ h => h) rfl (by assumption) ?_
    refine hU (i := 65) (take_list rfl) (by as_aux_lemma => kernel_rfl) (fun _ _ _ h => h) rfl (by assumption) ?_
    try simp only [Act.put, List.setIfInBounds_toArray, List.set_cons_zero, List.set_cons_succ]
    refine hU (i := 66) (take_list rfl) (by as_aux_lemma => kernel_rfl) (fun _ _ _ h => h) rfl (by assumption) ?_
    refine hU (i := 67) (take_list rfl) (by as_aux_lemma => kernel_rfl) (fun _ _ _ h => h) rfl (by assumption) ?_
    refine hT (i := 68) (v := ?vY53q568) (take_list rfl) (by as_aux_lemma => kernel_rfl) (fun _ _ _ h => h) rfl ?yY53q568 (by assumption) ?rY53q568
    case yY53q568 => (intro w h; go_simp <;> with_reducible rfl)
    try simp only [Act.put, List.setIfInBounds_toArray, List.set_cons_zero, List.set_cons_succ]
    refine hT (i := 69) (v := ?vY53q569) (take_list rfl) (by as_aux_lemma => kernel_rfl) (fun _ _ _ h => h) rfl ?yY53q569 (by assumption) ?rY53q569
    case yY53q569 => (intro w h; go_simp <;> with_reducible rfl)
    refine hU (i := 70) (take_list rfl) (by as_aux_lemma => kernel_rfl) (fun _ _ _ h => h) rfl (by assumption) ?_
    refine hU (i := 71) (take_list rfl) (by as_aux_lemma => kernel_rfl) (fun _ _ _ h => h) rfl (by assumption) ?_
    try simp only [Act.put, List.setIfInBounds_toArray, List.set_cons_zero, List.set_cons_succ]
    refine hU (i := 72) (take_list rfl) (by as_aux_lemma => kernel_rfl) (fun _ _ _ h => h) rfl (by assumption) ?_
    refine hU (i := 73) (take_list rfl) (by as_aux_lemma => kernel_rfl) (fun _ _ _ h => h) rfl (by assumption) ?_
    refine hU (i := 74) (take_list rfl) (by as_aux_lemma => kernel_rfl) (fun _ _ _ h => h) rfl (by assumption) ?_
    try simp only [Act.put, List.setIfInBounds_toArray, List.set_cons_zero, List.set_cons_succ]
    refine hT (i := 75) (v := ?vY53q575) (take_list rfl) (by as_aux_lemma => kernel_rfl) (fun _ _ _ h => h) rfl ?yY53q575 (by assumption) ?rY53q575
    case yY53q575 => (intro w h; go_simp <;> with_reducible rfl)
    refine wpAnyH_done (by kernel_rfl) ?_ _
    go_wp2_with fail
    go_roundw
    case rel => first | exact ⟨i + 1, rfl, hlt, by rw [any_take HPI.out, FI.out, V.out]; rfl, BM0.out.trans ((show Below wm.heap.size wm _ from by first | exact KB.out | exact below_drewed _ wm | exact below_of_drew KB.out).mono (by omega))⟩ | ((repeat apply Exists.intro); exact ⟨⟨i + 1, rfl, hlt, by rw [any_take HPI.out, FI.out, V.out]; rfl, BM0.out.trans ((show Below wm.heap.size wm _ from by first | exact KB.out | exact below_drewed _ wm | exact below_of_drew KB.out).mono (by omega))⟩, rfl⟩)
    case measure => (simp only [intOf]; omega)
  have qcY53 : goodV p.r = true := cY53
  by_cases cY54 : p.r.kind = 2
  case neg =>
    have qcY54 : (p.r.kind == 2) = false := by simpa using cY54
    have V := Lib.hid (show F p = false by rw [FP.out]; unfold matchB; simp only [decide_eq_true cY50, decide_eq_true cY51, decide_eq_true cY52, qcY53, decide_eq_false cY54, Bool.true_and, Bool.false_and])
    clear cY50 cY51 cY52 cY53 cY54
    refine wp_region_held_drew (S := (fun w' => w'.cell? ⟨gr, 0, none⟩ = some (.int .i64 p.r.kind) ∧ w'.cell? ⟨gr, 1, none⟩ = some (.int .i64 p.r.cart) ∧ w'.cell? ⟨gr, 2, none⟩ = some (strV p.r.key) ∧ w'.cell? ⟨gr, 3, none⟩ = some (.int .i64 p.r.gen) ∧ w'.cell? ⟨gr, 4, none⟩ = some (.int .i64 p.r.group) ∧ w'.cell? ⟨gr, 5, none⟩ = some (.int .i64 p.r.groups) ∧ w'.cell? ⟨gr, 6, none⟩ = some (.int .i64 p.r.index) ∧ w'.cell? ⟨gr, 7, none⟩ = some (.int .i64 p.r.size) ∧ w'.cell? ⟨gr, 8, none⟩ = some (strV p.r.sum) ∧ w'.cell? ⟨gr, 9, none⟩ = some (.slice p.A p.r.data.length p.c) ∧ w'.cell? ⟨gp, 0, none⟩ = some (.int .i64 p.cart) ∧ w'.cell? ⟨gp, 1, none⟩ = some (.int .i64 p.pos) ∧ w'.cell? ⟨w.heap.size, 0, none⟩ = some (strV k) ∧ w'.cell? ⟨w.heap.size, 1, none⟩ = some (.int .i64 gn) ∧ w'.cell? ⟨w.heap.size, 2, none⟩ = some (.int .i64 sz) ∧ w'.cell? ⟨w.heap.size, 3, none⟩ = some (strV sm) ∧ w'.cell? ⟨w.heap.size, 4, none⟩ = some (.slice (some ⟨g, 0, none⟩) q q) ∧ w'.cell? ⟨g, s * 2, none⟩ = some (.int .i64 x) ∧ w'.cell? ⟨g, s * 2 + 1, none⟩ = some (.int .i64 y))) (by kernel_rfl) ⟨r0, r1, r2, r3, r4, r5, r6, r7, r8, r9, g0, g1, t0, t1, t2, t3, t4, v0, v1⟩ (fun hHeld => ?_)
    refine hT (i := 0) (v := ?vY54q60) (take_list rfl) (by as_aux_lemma => kernel_rfl) (fun _ _ _ h => h) rfl ?yY54q60 (by assumption) ?rY54q60
    case yY54q60 => (intro w h; go_simp <;> with_reducible rfl)
    refine hT (i := 1) (v := ?vY54q61) (take_list rfl) (by as_aux_lemma => kernel_rfl) (fun _ _ _ h => h) rfl ?yY54q61 (by assumption) ?rY54q61
    case yY54q61 => (intro w h; go_simp <;> with_reducible rfl)
    refine hT (i := 2) (v := ?vY54q62) (take_list rfl) (by as_aux_lemma => kernel_rfl) (fun _ _ _ h => h) rfl ?yY54q62 (by assumption) ?rY54q62
    case yY54q62 => (intro w h; go_simp <;> with_reducible rfl)
    try simp only [Act.put, List.setIfInBounds_toArray, List.set_cons_zero, List.set_cons_succ]
    refine hT (i := 3) (v := ?vY54q63) (take_list rfl) (by as_aux_lemma => kernel_rfl) (fun _ _ _ h => h) rfl ?yY54q63 (by assumption) ?rY54q63
    case yY54q63 => (intro w h; go_simp <;> with_reducible rfl)
    refine hT (i := 4) (v := ?vY54q64) (take_list rfl) (by as_aux_lemma => kernel_rfl) (fun _ _ _ h => h) rfl ?yY54q64 (by assumption) ?rY54q64
    case yY54q64 => (intro w h; go_simp <;> with_reducible rfl)
    refine hT (i := 5) (v := ?vY54q65) (take_list rfl) (by as_aux_lemma => kernel_rfl) (fun _ _ _ h => h) rfl ?yY54q65 (by assumption) ?rY54q65
    case yY54q65 => (intro w h; go_simp <;> with_reducible rfl)
    try simp only [Act.put, List.setIfInBounds_toArray, List.set_cons_zero, List.set_cons_succ]
    refine hT (i := 6) (v := ?vY54q66) (take_list rfl) (by as_aux_lemma => kernel_rfl) (fun _ _ _ h => h) rfl ?yY54q66 (by assumption) ?rY54q66
    case yY54q66 => (intro w h; go_simp <;> with_reducible rfl)
    refine hT (i := 7) (v := ?vY54q67) (take_list rfl) (by as_aux_lemma => kernel_rfl) (fun _ _ _ h => h) rfl ?yY54q67 (by assumption) ?rY54q67
    case yY54q67 => (intro w h; go_simp <;> with_reducible rfl)
    refine hT (i := 8) (v := ?vY54q68) (take_list rfl) (by as_aux_lemma => kernel_rfl) (fun _ _ _ h => h) rfl ?yY54q68 (by assumption) ?rY54q68
    case yY54q68 => (intro w h; go_simp <;> with_reducible rfl)
    try simp only [Act.put, List.setIfInBounds_toArray, List.set_cons_zero, List.set_cons_succ]
    refine hT (i := 9) (v := ?vY54q69) (take_list rfl) (by as_aux_lemma => kernel_rfl) (fun _ _ _ h => h) rfl ?yY54q69 (by assumption) ?rY54q69
    case yY54q69 => (intro w h; go_simp <;> with_reducible rfl)
    refine hT (i := 10) (v := ?vY54q610) (take_list rfl) (by as_aux_lemma => kernel_rfl) (fun _ _ _ h => h) rfl ?yY54q610 (by assumption) ?rY54q610
    case yY54q610 => (intro w h; go_simp <;> with_reducible rfl)
    refine hT (i := 11) (v := ?vY54q611) (take_list rfl) (by as_aux_lemma => kernel_rfl) (fun _ _ _ h => h) rfl ?yY54q611 (by assumption) ?rY54q611
    case yY54q611 => (intro w h; go_simp <;> with_reducible rfl)
    try simp only [Act.put, List.setIfInBounds_toArray, List.set_cons_zero, List.set_cons_succ]
    refine hT (i := 12) (v := ?vY54q612) (take_list rfl) (by as_aux_lemma => kernel_rfl) (fun _ _ _ h => h) rfl ?yY54q612 (by assumption) ?rY54q612
    case yY54q612 => (intro w h; go_simp <;> with_reducible rfl)
    refine hT (i := 13) (v := ?vY54q613) (take_list rfl) (by as_aux_lemma => kernel_rfl) (fun _ _ _ h => h) rfl ?yY54q613 (by assumption) ?rY54q613
    case yY54q613 => (intro w h; go_simp <;> with_reducible rfl)
    refine hT (i := 14) (v := ?vY54q614) (take_list rfl) (by as_aux_lemma => kernel_rfl) (fun _ _ _ h => h) rfl ?yY54q614 (by assumption) ?rY54q614
    case yY54q614 => (intro w h; go_simp <;> with_reducible rfl)
    try simp only [Act.put, List.setIfInBounds_toArray, List.set_cons_zero, List.set_cons_succ]
    refine hT (i := 15) (v := ?vY54q615) (take_list rfl) (by as_aux_lemma => kernel_rfl) (fun _ _ _ h => h) rfl ?yY54q615 (by assumption) ?rY54q615
    case yY54q615 => (intro w h; go_simp <;> with_reducible rfl)
    refine hT (i := 16) (v := ?vY54q616) (take_list rfl) (by as_aux_lemma => kernel_rfl) (fun _ _ _ h => h) rfl ?yY54q616 (by assumption) ?rY54q616
    case yY54q616 => (intro w h; go_simp <;> with_reducible rfl)
    refine hT (i := 17) (v := ?vY54q617) (take_list rfl) (by as_aux_lemma => kernel_rfl) (fun _ _ _ h => h) rfl ?yY54q617 (by assumption) ?rY54q617
    case yY54q617 => (intro w h; go_simp <;> with_reducible rfl)
    try simp only [Act.put, List.setIfInBounds_toArray, List.set_cons_zero, List.set_cons_succ]
    refine hT (i := 18) (v := ?vY54q618) (take_list rfl) (by as_aux_lemma => kernel_rfl) (fun _ _ _ h => h) rfl ?yY54q618 (by assumption) ?rY54q618
    case yY54q618 => (intro w h; go_simp <;> with_reducible rfl)
    refine hT (i := 19) (v := ?vY54q619) (take_list rfl) (by as_aux_lemma => kernel_rfl) (fun _ _ _ h => h) rfl ?yY54q619 (by assumption) ?rY54q619
    case yY54q619 => (intro w h; go_simp <;> with_reducible rfl)
    refine hT (i := 20) (v := ?vY54q620) (take_list rfl) (by as_aux_lemma => kernel_rfl) (fun _ _ _ h => h) rfl ?yY54q620 (by assumption) ?rY54q620
    case yY54q620 => (intro w h; go_simp <;> with_reducible rfl)
    try simp only [Act.put, List.setIfInBounds_toArray, List.set_cons_zero, List.set_cons_succ]
    refine hT (i := 21) (v := ?vY54q621) (take_list rfl) (by as_aux_lemma => kernel_rfl) (fun _ _ _ h => h) rfl ?yY54q621 (by assumption) ?rY54q621
    case yY54q621 => (intro w h; go_simp <;> with_reducible rfl)
    refine hT (i := 22) (v := ?vY54q622) (take_list rfl) (by as_aux_lemma => kernel_rfl) (fun _ _ _ h => h) rfl ?yY54q622 (by assumption) ?rY54q622
    case yY54q622 => (intro w h; go_simp <;> with_reducible rfl)
    refine hT (i := 23) (v := ?vY54q623) (take_list rfl) (by as_aux_lemma => kernel_rfl) (fun _ _ _ h => h) rfl ?yY54q623 (by assumption) ?rY54q623
    case yY54q623 => (intro w h; go_simp <;> with_reducible rfl)
    try simp only [Act.put, List.setIfInBounds_toArray, List.set_cons_zero, List.set_cons_succ]
    refine hT (i := 24) (v := ?vY54q624) (take_list rfl) (by as_aux_lemma => kernel_rfl) (fun _ _ _ h => h) rfl ?yY54q624 (by assumption) ?rY54q624
    case yY54q624 => (intro w h; go_simp <;> with_reducible rfl)
    refine hT (i := 25) (v := ?vY54q625) (take_list rfl) (by as_aux_lemma => kernel_rfl) (fun _ _ _ h => h) rfl ?yY54q625 (by assumption) ?rY54q625
    case yY54q625 => (intro w h; go_simp <;> with_reducible rfl)
    refine hT (i := 26) (v := ?vY54q626) (take_list rfl) (by as_aux_lemma => kernel_rfl) (fun _ _ _ h => h) rfl ?yY54q626 (by assumption) ?rY54q626
    case yY54q626 => (intro w h; go_simp <;> with_reducible rfl)
    try simp only [Act.put, List.setIfInBounds_toArray, List.set_cons_zero, List.set_cons_succ]
    refine wpAnyH_ready (rs := [27]) (by kernel_rfl) (by simp) ?_
    refine AllReadyH.cons rfl (fun K hK => ?_) AllReadyH.nil
    go_simp
    go_wp2_with (go_at_call 14; refine (sGood p.r p.A p.c _).mono ?_; rintro e wg ⟨rfl, hb⟩; rw [qcY53]; have KB := Lib.hid (show Below wm.heap.size wm wg from (by first | exact hb | exact below_of_drew hb)); clear hb)
    clear hHeld
    refine hK.out _ _ ⟨keepc KB.out hgrz r0, keepc KB.out hgrz r1, keepc KB.out hgrz r2, keepc KB.out hgrz r3, keepc KB.out hgrz r4, keepc KB.out hgrz r5, keepc KB.out hgrz r6, keepc KB.out hgrz r7, keepc KB.out hgrz r8, keepc KB.out hgrz r9, keepc KB.out hgpz g0, keepc KB.out hgpz g1, keepc KB.out hzt t0, keepc KB.out hzt t1, keepc KB.out hzt t2, keepc KB.out hzt t3, keepc KB.out hzt t4, keepc KB.out hgz v0, keepc KB.out hgz v1⟩ (fun hHeld => ?_)
    clear hK K
    refine hT (i := 28) (v := ?vY54q628) (take_list rfl) (by as_aux_lemma => kernel_rfl) (fun _ _ _ h => h) rfl ?yY54q628 (by assumption) ?rY54q628
    case yY54q628 => (intro w h; go_simp <;> with_reducible rfl)
    refine hT (i := 29) (v := ?vY54q629) (take_list rfl) (by as_aux_lemma => kernel_rfl) (fun _ _ _ h => h) rfl ?yY54q629 (by assumption) ?rY54q629
    case yY54q629 => (intro w h; go_simp <;> with_reducible rfl)
    try simp only [Act.put, List.setIfInBounds_toArray, List.set_cons_zero, List.set_cons_succ]
    refine hT (i := 30) (v := ?vY54q630) (take_list rfl) (by as_aux_lemma => kernel_rfl) (fun _ _ _ h => h) rfl ?yY54q630 (by assumption) ?rY54q630
    case yY54q630 => (intro w h; go_simp <;> with_reducible rfl)
    refine hT (i := 31) (v := ?vY54q631) (take_list rfl) (by as_aux_lemma => kernel_rfl) (fun _ _ _ h => h) rfl ?yY54q631 (by assumption) ?rY54q631
    case yY54q631 => (intro w h; go_simp <;> with_reducible rfl)
    refine hT (i := 32) (v := ?vY54q632) (take_list rfl) (by as_aux_lemma => kernel_rfl) (fun _ _ _ h => h) rfl ?yY54q632 (by assumption) ?rY54q632
    case yY54q632 => (intro w h; go_simp <;> with_reducible rfl)
    try simp only [Act.put, List.setIfInBounds_toArray, List.set_cons_zero, List.set_cons_succ]
    refine hT (i := 33) (v := ?vY54q633) (take_list rfl) (by as_aux_lemma => kernel_rfl) (fun _ _ _ h => h) rfl ?yY54q633 (by assumption) ?rY54q633
    case yY54q633 => (intro w h; go_simp <;> with_reducible rfl)
    refine hT (i := 34) (v := ?vY54q634) (take_list rfl) (by as_aux_lemma => kernel_rfl) (fun _ _ _ h => h) rfl ?yY54q634 (by assumption) ?rY54q634
    case yY54q634 => (intro w h; go_simp <;> with_reducible rfl)
    refine hU (i := 35) (take_list rfl) (by as_aux_lemma => kernel_rfl) (fun _ _ _ h => h) rfl (by assumption) ?_
    try simp only [Act.put, List.setIfInBounds_toArray, List.set_cons_zero, List.set_cons_succ]
    refine hU (i := 36) (take_list rfl) (by as_aux_lemma => kernel_rfl) (fun _ _ _ h => h) rfl (by assumption) ?_
    refine hU (i := 37) (take_list rfl) (by as_aux_lemma => kernel_rfl) (fun _ _ _ h => h) rfl (by assumption) ?_
    refine hU (i := 38) (take_list rfl) (by as_aux_lemma => kernel_rfl) (fun _ _ _ h => h) rfl (by assumption) ?_
    try simp only [Act.put, List.setIfInBounds_toArray, List.set_cons_zero, List.set_cons_succ]
    refine hU (i := 39) (take_list rfl) (by as_aux_lemma => kernel_rfl) (fun _ _ _ h => h) rfl (by assumption) ?_
    refine hT (i := 40) (v := ?vY54q640) (take_list rfl) (by as_aux_lemma => kernel_rfl) (fun _ _ _ h => h) rfl ?yY54q640 (by assumption) ?rY54q640
    case yY54q640 => (intro w h; go_simp <;> with_reducible rfl)
    refine hT (i := 41) (v := ?vY54q641) (take_list rfl) (by as_aux_lemma => kernel_rfl) (fun _ _ _ h => h) rfl ?yY54q641 (by assumption) ?rY54q641
    case yY54q641 => (intro w h; go_simp <;> with_reducible rfl)
    try simp only [Act.put, List.setIfInBounds_toArray, List.set_cons_zero, List.set_cons_succ]
    refine hU (i := 42) (take_list rfl) (by as_aux_lemma => kernel_rfl) (fun _ _ _ h => h) rfl (by assumption) ?_
    refine hU (i := 43) (take_list rfl) (by as_aux_lemma => kernel_rfl) (fun _ _ _ h => h) rfl (by assumption) ?_
    refine hU (i := 44) (take_list rfl) (by as_aux_lemma => kernel_rfl) (fun _ _ _ h => h) rfl (by assumption) ?_
    try simp only [Act.put, List.setIfInBounds_toArray, List.set_cons_zero, List.set_cons_succ]
    refine hU (i := 45) (take_list rfl) (by as_aux_lemma => kernel_rfl) (fun _ _ _ h => h) rfl (by assumption) ?_
    refine hU (i := 46) (take_list rfl) (by as_aux_lemma => kernel_rfl) (fun _ _ _ h => h) rfl (by assumption) ?_
    refine hT (i := 47) (v := ?vY54q647) (take_list rfl) (by as_aux_lemma => kernel_rfl) (fun _ _ _ h => h) rfl ?yY54q647 (by assumption) ?rY54q647
    case yY54q647 => (intro w h; go_simp <;> with_reducible rfl)
    try simp only [Act.put, List.setIfInBounds_toArray, List.set_cons_zero, List.set_cons_succ]
    refine hT (i := 48) (v := ?vY54q648) (take_list rfl) (by as_aux_lemma => kernel_rfl) (fun _ _ _ h => h) rfl ?yY54q648 (by assumption) ?rY54q648
    case yY54q648 => (intro w h; go_simp <;> with_reducible rfl)
    refine hU (i := 49) (take_list rfl) (by as_aux_lemma => kernel_rfl) (fun _ _ _ h => h) rfl (by assumption) ?_
    refine hU (i := 50) (take_list rfl) (by as_aux_lemma => kernel_rfl) (fun _ _ _ h => h) rfl (by assumption) ?_
    try simp only [Act.put, List.setIfInBounds_toArray, List.set_cons_zero, List.set_cons_succ]
    refine hU (i := 51) (take_list rfl) (by as_aux_lemma => kernel_rfl) (fun _ _ _ h => h) rfl (by assumption) ?_
    refine hU (i := 52) (take_list rfl) (by as_aux_lemma => kernel_rfl) (fun _ _ _ h => h) rfl (by assumption) ?_
    refine hU (i := 53) (take_list rfl) (by as_aux_lemma => kernel_rfl) (fun _ _ _ h => h) rfl (by assumption) ?_
    try simp only [Act.put, List.setIfInBounds_toArray, List.set_cons_zero, List.set_cons_succ]
    refine hT (i := 54) (v := ?vY54q654) (take_list rfl) (by as_aux_lemma => kernel_rfl) (fun _ _ _ h => h) rfl ?yY54q654 (by assumption) ?rY54q654
    case yY54q654 => (intro w h; go_simp <;> with_reducible rfl)
    refine hT (i := 55) (v := ?vY54q655) (take_list rfl) (by as_aux_lemma => kernel_rfl) (fun _ _ _ h => h) rfl ?yY54q655 (by assumption) ?rY54q655
    case yY54q655 => (intro w h; go_simp <;> with_reducible rfl)
    refine hU (i := 56) (take_list rfl) (by as_aux_lemma => kernel_rfl) (fun _ _ _ h => h) rfl (by assumption) ?_
    try simp only [Act.put, List.setIfInBounds_toArray, List.set_cons_zero, List.set_cons_succ]
    refine hU (i := 57) (take_list rfl) (by as_aux_lemma => kernel_rfl) (fun _ _ _ h => h) rfl (by assumption) ?_
    refine hU (i := 58) (take_list rfl) (by as_aux_lemma => kernel_rfl) (fun _ _ _ h => h) rfl (by assumption) ?_
    refine hU (i := 59) (take_list rfl) (by as_aux_lemma => kernel_rfl) (fun _ _ _ h => h) rfl (by assumption) ?_
    try simp only [Act.put, List.setIfInBounds_toArray, List.set_cons_zero, List.set_cons_succ]
    refine hU (i := 60) (take_list rfl) (by as_aux_lemma => kernel_rfl) (fun _ _ _ h => h) rfl (by assumption) ?_
    refine hT (i := 61) (v := ?vY54q661) (take_list rfl) (by as_aux_lemma => kernel_rfl) (fun _ _ _ h => h) rfl ?yY54q661 (by assumption) ?rY54q661
    case yY54q661 => (intro w h; go_simp <;> with_reducible rfl)
    refine hT (i := 62) (v := ?vY54q662) (take_list rfl) (by as_aux_lemma => kernel_rfl) (fun _ _ _ h => h) rfl ?yY54q662 (by assumption) ?rY54q662
    case yY54q662 => (intro w h; go_simp <;> with_reducible rfl)
    try simp only [Act.put, List.setIfInBounds_toArray, List.set_cons_zero, List.set_cons_succ]
    refine hU (i := 63) (take_list rfl) (by as_aux_lemma => kernel_rfl) (fun _ _ _ h => h) rfl (by assumption) ?_
    refine hU (i := 64) (take_list rfl) (by as_aux_lemma => kernel_rfl) (fun _ _ _ h => h) rfl (by assumption) ?_
    refine hU (i := 65) (take_list rfl) (by as_aux_lemma => kernel_rfl) (fun _ _ _ h => h) rfl (by assumption) ?_
    try simp only [Act.put, List.setIfInBounds_toArray, List.set_cons_zero, List.set_cons_succ]
    refine hU (i := 66) (take_list rfl) (by as_aux_lemma => kernel_rfl) (fun _ _ _ h => h) rfl (by assumption) ?_
    refine hU (i := 67) (take_list rfl) (by as_aux_lemma => kernel_rfl) (fun _ _ _ h => h) rfl (by assumption) ?_
    refine hT (i := 68) (v := ?vY54q668) (take_list rfl) (by as_aux_lemma => kernel_rfl) (fun _ _ _ h => h) rfl ?yY54q668 (by assumption) ?rY54q668
    case yY54q668 => (intro w h; go_simp <;> with_reducible rfl)
    try simp only [Act.put, List.setIfInBounds_toArray, List.set_cons_zero, List.set_cons_succ]
    refine hT (i := 69) (v := ?vY54q669) (take_list rfl) (by as_aux_lemma => kernel_rfl) (fun _ _ _ h => h) rfl ?yY54q669 (by assumption) ?rY54q669
    case yY54q669 => (intro w h; go_simp <;> with_reducible rfl)
    refine hU (i := 70) (take_list rfl) (by as_aux_lemma => kernel_rfl) (fun _ _ _ h => h) rfl (by assumption) ?_
    refine hU (i := 71) (take_list rfl) (by as_aux_lemma => kernel_rfl) (fun _ _ _ h => h) rfl (by assumption) ?_
    try simp only [Act.put, List.setIfInBounds_toArray, List.set_cons_zero, List.set_cons_succ]
    refine hU (i := 72) (take_list rfl) (by as_aux_lemma => kernel_rfl) (fun _ _ _ h => h) rfl (by assumption) ?_
    refine hU (i := 73) (take_list rfl) (by as_aux_lemma => kernel_rfl) (fun _ _ _ h => h) rfl (by assumption) ?_
    refine hU (i := 74) (take_list rfl) (by as_aux_lemma => kernel_rfl) (fun _ _ _ h => h) rfl (by assumption) ?_
    try simp only [Act.put, List.setIfInBounds_toArray, List.set_cons_zero, List.set_cons_succ]
    refine hT (i := 75) (v := ?vY54q675) (take_list rfl) (by as_aux_lemma => kernel_rfl) (fun _ _ _ h => h) rfl ?yY54q675 (by assumption) ?rY54q675
    case yY54q675 => (intro w h; go_simp <;> with_reducible rfl)
    refine wpAnyH_done (by kernel_rfl) ?_ _
    go_wp2_with fail
    go_roundw
    case rel => first | exact ⟨i + 1, rfl, hlt, by rw [any_take HPI.out, FI.out, V.out]; rfl, BM0.out.trans ((show Below wm.heap.size wm _ from by first | exact KB.out | exact below_drewed _ wm | exact below_of_drew KB.out).mono (by omega))⟩ | ((repeat apply Exists.intro); exact ⟨⟨i + 1, rfl, hlt, by rw [any_take HPI.out, FI.out, V.out]; rfl, BM0.out.trans ((show Below wm.heap.size wm _ from by first | exact KB.out | exact below_drewed _ wm | exact below_of_drew KB.out).mono (by omega))⟩, rfl⟩)
    case measure => (simp only [intOf]; omega)
  have qcY54 : (p.r.kind == 2) = true := by simpa using cY54
  by_cases cY55 : p.r.key = k
  case neg =>
    have qcY55 : (p.r.key == k) = false := by simpa using cY55
    have pcY55 : (⟨(p.r.key).toArray⟩ : ByteArray) ≠ ⟨(k).toArray⟩ := fun h => cY55 (by have h2 := congrArg (fun b => b.data.toList) h; simpa using h2)
    have V := Lib.hid (show F p = false by rw [FP.out]; unfold matchB; simp only [decide_eq_true cY50, decide_eq_true cY51, decide_eq_true cY52, qcY53, decide_eq_true cY54, decide_eq_false cY55, Bool.true_and, Bool.false_and])
    clear cY50 cY51 cY52 cY53 cY54 cY55
    refine wp_region_held_drew (S := (fun w' => w'.cell? ⟨gr, 0, none⟩ = some (.int .i64 p.r.kind) ∧ w'.cell? ⟨gr, 1, none⟩ = some (.int .i64 p.r.cart) ∧ w'.cell? ⟨gr, 2, none⟩ = some (strV p.r.key) ∧ w'.cell? ⟨gr, 3, none⟩ = some (.int .i64 p.r.gen) ∧ w'.cell? ⟨gr, 4, none⟩ = some (.int .i64 p.r.group) ∧ w'.cell? ⟨gr, 5, none⟩ = some (.int .i64 p.r.groups) ∧ w'.cell? ⟨gr, 6, none⟩ = some (.int .i64 p.r.index) ∧ w'.cell? ⟨gr, 7, none⟩ = some (.int .i64 p.r.size) ∧ w'.cell? ⟨gr, 8, none⟩ = some (strV p.r.sum) ∧ w'.cell? ⟨gr, 9, none⟩ = some (.slice p.A p.r.data.length p.c) ∧ w'.cell? ⟨gp, 0, none⟩ = some (.int .i64 p.cart) ∧ w'.cell? ⟨gp, 1, none⟩ = some (.int .i64 p.pos) ∧ w'.cell? ⟨w.heap.size, 0, none⟩ = some (strV k) ∧ w'.cell? ⟨w.heap.size, 1, none⟩ = some (.int .i64 gn) ∧ w'.cell? ⟨w.heap.size, 2, none⟩ = some (.int .i64 sz) ∧ w'.cell? ⟨w.heap.size, 3, none⟩ = some (strV sm) ∧ w'.cell? ⟨w.heap.size, 4, none⟩ = some (.slice (some ⟨g, 0, none⟩) q q) ∧ w'.cell? ⟨g, s * 2, none⟩ = some (.int .i64 x) ∧ w'.cell? ⟨g, s * 2 + 1, none⟩ = some (.int .i64 y))) (by kernel_rfl) ⟨r0, r1, r2, r3, r4, r5, r6, r7, r8, r9, g0, g1, t0, t1, t2, t3, t4, v0, v1⟩ (fun hHeld => ?_)
    refine hT (i := 0) (v := ?vY55q70) (take_list rfl) (by as_aux_lemma => kernel_rfl) (fun _ _ _ h => h) rfl ?yY55q70 (by assumption) ?rY55q70
    case yY55q70 => (intro w h; go_simp <;> with_reducible rfl)
    refine hT (i := 1) (v := ?vY55q71) (take_list rfl) (by as_aux_lemma => kernel_rfl) (fun _ _ _ h => h) rfl ?yY55q71 (by assumption) ?rY55q71
    case yY55q71 => (intro w h; go_simp <;> with_reducible rfl)
    refine hT (i := 2) (v := ?vY55q72) (take_list rfl) (by as_aux_lemma => kernel_rfl) (fun _ _ _ h => h) rfl ?yY55q72 (by assumption) ?rY55q72
    case yY55q72 => (intro w h; go_simp <;> with_reducible rfl)
    try simp only [Act.put, List.setIfInBounds_toArray, List.set_cons_zero, List.set_cons_succ]
    refine hT (i := 3) (v := ?vY55q73) (take_list rfl) (by as_aux_lemma => kernel_rfl) (fun _ _ _ h => h) rfl ?yY55q73 (by assumption) ?rY55q73
    case yY55q73 => (intro w h; go_simp <;> with_reducible rfl)
    refine hT (i := 4) (v := ?vY55q74) (take_list rfl) (by as_aux_lemma => kernel_rfl) (fun _ _ _ h => h) rfl ?yY55q74 (by assumption) ?rY55q74
    case yY55q74 => (intro w h; go_simp <;> with_reducible rfl)
    refine hT (i := 5) (v := ?vY55q75) (take_list rfl) (by as_aux_lemma => kernel_rfl) (fun _ _ _ h => h) rfl ?yY55q75 (by assumption) ?rY55q75
    case yY55q75 => (intro w h; go_simp <;> with_reducible rfl)
    try simp only [Act.put, List.setIfInBounds_toArray, List.set_cons_zero, List.set_cons_succ]
    refine hT (i := 6) (v := ?vY55q76) (take_list rfl) (by as_aux_lemma => kernel_rfl) (fun _ _ _ h => h) rfl ?yY55q76 (by assumption) ?rY55q76
    case yY55q76 => (intro w h; go_simp <;> with_reducible rfl)
    refine hT (i := 7) (v := ?vY55q77) (take_list rfl) (by as_aux_lemma => kernel_rfl) (fun _ _ _ h => h) rfl ?yY55q77 (by assumption) ?rY55q77
    case yY55q77 => (intro w h; go_simp <;> with_reducible rfl)
    refine hT (i := 8) (v := ?vY55q78) (take_list rfl) (by as_aux_lemma => kernel_rfl) (fun _ _ _ h => h) rfl ?yY55q78 (by assumption) ?rY55q78
    case yY55q78 => (intro w h; go_simp <;> with_reducible rfl)
    try simp only [Act.put, List.setIfInBounds_toArray, List.set_cons_zero, List.set_cons_succ]
    refine hT (i := 9) (v := ?vY55q79) (take_list rfl) (by as_aux_lemma => kernel_rfl) (fun _ _ _ h => h) rfl ?yY55q79 (by assumption) ?rY55q79
    case yY55q79 => (intro w h; go_simp <;> with_reducible rfl)
    refine hT (i := 10) (v := ?vY55q710) (take_list rfl) (by as_aux_lemma => kernel_rfl) (fun _ _ _ h => h) rfl ?yY55q710 (by assumption) ?rY55q710
    case yY55q710 => (intro w h; go_simp <;> with_reducible rfl)
    refine hT (i := 11) (v := ?vY55q711) (take_list rfl) (by as_aux_lemma => kernel_rfl) (fun _ _ _ h => h) rfl ?yY55q711 (by assumption) ?rY55q711
    case yY55q711 => (intro w h; go_simp <;> with_reducible rfl)
    try simp only [Act.put, List.setIfInBounds_toArray, List.set_cons_zero, List.set_cons_succ]
    refine hT (i := 12) (v := ?vY55q712) (take_list rfl) (by as_aux_lemma => kernel_rfl) (fun _ _ _ h => h) rfl ?yY55q712 (by assumption) ?rY55q712
    case yY55q712 => (intro w h; go_simp <;> with_reducible rfl)
    refine hT (i := 13) (v := ?vY55q713) (take_list rfl) (by as_aux_lemma => kernel_rfl) (fun _ _ _ h => h) rfl ?yY55q713 (by assumption) ?rY55q713
    case yY55q713 => (intro w h; go_simp <;> with_reducible rfl)
    refine hT (i := 14) (v := ?vY55q714) (take_list rfl) (by as_aux_lemma => kernel_rfl) (fun _ _ _ h => h) rfl ?yY55q714 (by assumption) ?rY55q714
    case yY55q714 => (intro w h; go_simp <;> with_reducible rfl)
    try simp only [Act.put, List.setIfInBounds_toArray, List.set_cons_zero, List.set_cons_succ]
    refine hT (i := 15) (v := ?vY55q715) (take_list rfl) (by as_aux_lemma => kernel_rfl) (fun _ _ _ h => h) rfl ?yY55q715 (by assumption) ?rY55q715
    case yY55q715 => (intro w h; go_simp <;> with_reducible rfl)
    refine hT (i := 16) (v := ?vY55q716) (take_list rfl) (by as_aux_lemma => kernel_rfl) (fun _ _ _ h => h) rfl ?yY55q716 (by assumption) ?rY55q716
    case yY55q716 => (intro w h; go_simp <;> with_reducible rfl)
    refine hT (i := 17) (v := ?vY55q717) (take_list rfl) (by as_aux_lemma => kernel_rfl) (fun _ _ _ h => h) rfl ?yY55q717 (by assumption) ?rY55q717
    case yY55q717 => (intro w h; go_simp <;> with_reducible rfl)
    try simp only [Act.put, List.setIfInBounds_toArray, List.set_cons_zero, List.set_cons_succ]
    refine hT (i := 18) (v := ?vY55q718) (take_list rfl) (by as_aux_lemma => kernel_rfl) (fun _ _ _ h => h) rfl ?yY55q718 (by assumption) ?rY55q718
    case yY55q718 => (intro w h; go_simp <;> with_reducible rfl)
    refine hT (i := 19) (v := ?vY55q719) (take_list rfl) (by as_aux_lemma => kernel_rfl) (fun _ _ _ h => h) rfl ?yY55q719 (by assumption) ?rY55q719
    case yY55q719 => (intro w h; go_simp <;> with_reducible rfl)
    refine hT (i := 20) (v := ?vY55q720) (take_list rfl) (by as_aux_lemma => kernel_rfl) (fun _ _ _ h => h) rfl ?yY55q720 (by assumption) ?rY55q720
    case yY55q720 => (intro w h; go_simp <;> with_reducible rfl)
    try simp only [Act.put, List.setIfInBounds_toArray, List.set_cons_zero, List.set_cons_succ]
    refine hT (i := 21) (v := ?vY55q721) (take_list rfl) (by as_aux_lemma => kernel_rfl) (fun _ _ _ h => h) rfl ?yY55q721 (by assumption) ?rY55q721
    case yY55q721 => (intro w h; go_simp <;> with_reducible rfl)
    refine hT (i := 22) (v := ?vY55q722) (take_list rfl) (by as_aux_lemma => kernel_rfl) (fun _ _ _ h => h) rfl ?yY55q722 (by assumption) ?rY55q722
    case yY55q722 => (intro w h; go_simp <;> with_reducible rfl)
    refine hT (i := 23) (v := ?vY55q723) (take_list rfl) (by as_aux_lemma => kernel_rfl) (fun _ _ _ h => h) rfl ?yY55q723 (by assumption) ?rY55q723
    case yY55q723 => (intro w h; go_simp <;> with_reducible rfl)
    try simp only [Act.put, List.setIfInBounds_toArray, List.set_cons_zero, List.set_cons_succ]
    refine hT (i := 24) (v := ?vY55q724) (take_list rfl) (by as_aux_lemma => kernel_rfl) (fun _ _ _ h => h) rfl ?yY55q724 (by assumption) ?rY55q724
    case yY55q724 => (intro w h; go_simp <;> with_reducible rfl)
    refine hT (i := 25) (v := ?vY55q725) (take_list rfl) (by as_aux_lemma => kernel_rfl) (fun _ _ _ h => h) rfl ?yY55q725 (by assumption) ?rY55q725
    case yY55q725 => (intro w h; go_simp <;> with_reducible rfl)
    refine hT (i := 26) (v := ?vY55q726) (take_list rfl) (by as_aux_lemma => kernel_rfl) (fun _ _ _ h => h) rfl ?yY55q726 (by assumption) ?rY55q726
    case yY55q726 => (intro w h; go_simp <;> with_reducible rfl)
    try simp only [Act.put, List.setIfInBounds_toArray, List.set_cons_zero, List.set_cons_succ]
    refine wpAnyH_ready (rs := [27]) (by kernel_rfl) (by simp) ?_
    refine AllReadyH.cons rfl (fun K hK => ?_) AllReadyH.nil
    go_simp
    go_wp2_with (go_at_call 14; refine (sGood p.r p.A p.c _).mono ?_; rintro e wg ⟨rfl, hb⟩; rw [qcY53]; have KB := Lib.hid (show Below wm.heap.size wm wg from (by first | exact hb | exact below_of_drew hb)); clear hb)
    clear hHeld
    refine hK.out _ _ ⟨keepc KB.out hgrz r0, keepc KB.out hgrz r1, keepc KB.out hgrz r2, keepc KB.out hgrz r3, keepc KB.out hgrz r4, keepc KB.out hgrz r5, keepc KB.out hgrz r6, keepc KB.out hgrz r7, keepc KB.out hgrz r8, keepc KB.out hgrz r9, keepc KB.out hgpz g0, keepc KB.out hgpz g1, keepc KB.out hzt t0, keepc KB.out hzt t1, keepc KB.out hzt t2, keepc KB.out hzt t3, keepc KB.out hzt t4, keepc KB.out hgz v0, keepc KB.out hgz v1⟩ (fun hHeld => ?_)
    clear hK K
    refine hT (i := 28) (v := ?vY55q728) (take_list rfl) (by as_aux_lemma => kernel_rfl) (fun _ _ _ h => h) rfl ?yY55q728 (by assumption) ?rY55q728
    case yY55q728 => (intro w h; go_simp <;> with_reducible rfl)
    refine hT (i := 29) (v := ?vY55q729) (take_list rfl) (by as_aux_lemma => kernel_rfl) (fun _ _ _ h => h) rfl ?yY55q729 (by assumption) ?rY55q729
    case yY55q729 => (intro w h; go_simp <;> with_reducible rfl)
    try simp only [Act.put, List.setIfInBounds_toArray, List.set_cons_zero, List.set_cons_succ]
    refine hT (i := 30) (v := ?vY55q730) (take_list rfl) (by as_aux_lemma => kernel_rfl) (fun _ _ _ h => h) rfl ?yY55q730 (by assumption) ?rY55q730
    case yY55q730 => (intro w h; go_simp <;> with_reducible rfl)
    refine hT (i := 31) (v := ?vY55q731) (take_list rfl) (by as_aux_lemma => kernel_rfl) (fun _ _ _ h => h) rfl ?yY55q731 (by assumption) ?rY55q731
    case yY55q731 => (intro w h; go_simp <;> with_reducible rfl)
    refine hT (i := 32) (v := ?vY55q732) (take_list rfl) (by as_aux_lemma => kernel_rfl) (fun _ _ _ h => h) rfl ?yY55q732 (by assumption) ?rY55q732
    case yY55q732 => (intro w h; go_simp <;> with_reducible rfl)
    try simp only [Act.put, List.setIfInBounds_toArray, List.set_cons_zero, List.set_cons_succ]
    refine hT (i := 33) (v := ?vY55q733) (take_list rfl) (by as_aux_lemma => kernel_rfl) (fun _ _ _ h => h) rfl ?yY55q733 (by assumption) ?rY55q733
    case yY55q733 => (intro w h; go_simp <;> with_reducible rfl)
    refine hT (i := 34) (v := ?vY55q734) (take_list rfl) (by as_aux_lemma => kernel_rfl) (fun _ _ _ h => h) rfl ?yY55q734 (by assumption) ?rY55q734
    case yY55q734 => (intro w h; go_simp <;> with_reducible rfl)
    refine hT (i := 35) (v := ?vY55q735) (take_list rfl) (by as_aux_lemma => kernel_rfl) (fun _ _ _ h => h) rfl ?yY55q735 (by assumption) ?rY55q735
    case yY55q735 => (intro w h; go_simp <;> with_reducible rfl)
    try simp only [Act.put, List.setIfInBounds_toArray, List.set_cons_zero, List.set_cons_succ]
    refine hT (i := 36) (v := ?vY55q736) (take_list rfl) (by as_aux_lemma => kernel_rfl) (fun _ _ _ h => h) rfl ?yY55q736 (by assumption) ?rY55q736
    case yY55q736 => (intro w h; go_simp <;> with_reducible rfl)
    refine hT (i := 37) (v := ?vY55q737) (take_list rfl) (by as_aux_lemma => kernel_rfl) (fun _ _ _ h => h) rfl ?yY55q737 (by assumption) ?rY55q737
    case yY55q737 => (intro w h; go_simp <;> with_reducible rfl)
    refine hT (i := 38) (v := ?vY55q738) (take_list rfl) (by as_aux_lemma => kernel_rfl) (fun _ _ _ h => h) rfl ?yY55q738 (by assumption) ?rY55q738
    case yY55q738 => (intro w h; go_simp <;> with_reducible rfl)
    try simp only [Act.put, List.setIfInBounds_toArray, List.set_cons_zero, List.set_cons_succ]
    refine hT (i := 39) (v := ?vY55q739) (take_list rfl) (by as_aux_lemma => kernel_rfl) (fun _ _ _ h => h) rfl ?yY55q739 (by assumption) ?rY55q739
    case yY55q739 => (intro w h; go_simp <;> with_reducible rfl)
    refine hT (i := 40) (v := ?vY55q740) (take_list rfl) (by as_aux_lemma => kernel_rfl) (fun _ _ _ h => h) rfl ?yY55q740 (by assumption) ?rY55q740
    case yY55q740 => (intro w h; go_simp <;> with_reducible rfl)
    refine hT (i := 41) (v := ?vY55q741) (take_list rfl) (by as_aux_lemma => kernel_rfl) (fun _ _ _ h => h) rfl ?yY55q741 (by assumption) ?rY55q741
    case yY55q741 => (intro w h; go_simp <;> with_reducible rfl)
    try simp only [Act.put, List.setIfInBounds_toArray, List.set_cons_zero, List.set_cons_succ]
    refine hU (i := 42) (take_list rfl) (by as_aux_lemma => kernel_rfl) (fun _ _ _ h => h) rfl (by assumption) ?_
    refine hU (i := 43) (take_list rfl) (by as_aux_lemma => kernel_rfl) (fun _ _ _ h => h) rfl (by assumption) ?_
    refine hU (i := 44) (take_list rfl) (by as_aux_lemma => kernel_rfl) (fun _ _ _ h => h) rfl (by assumption) ?_
    try simp only [Act.put, List.setIfInBounds_toArray, List.set_cons_zero, List.set_cons_succ]
    refine hU (i := 45) (take_list rfl) (by as_aux_lemma => kernel_rfl) (fun _ _ _ h => h) rfl (by assumption) ?_
    refine hU (i := 46) (take_list rfl) (by as_aux_lemma => kernel_rfl) (fun _ _ _ h => h) rfl (by assumption) ?_
    refine hT (i := 47) (v := ?vY55q747) (take_list rfl) (by as_aux_lemma => kernel_rfl) (fun _ _ _ h => h) rfl ?yY55q747 (by assumption) ?rY55q747
    case yY55q747 => (intro w h; go_simp <;> with_reducible rfl)
    try simp only [Act.put, List.setIfInBounds_toArray, List.set_cons_zero, List.set_cons_succ]
    refine hT (i := 48) (v := ?vY55q748) (take_list rfl) (by as_aux_lemma => kernel_rfl) (fun _ _ _ h => h) rfl ?yY55q748 (by assumption) ?rY55q748
    case yY55q748 => (intro w h; go_simp <;> with_reducible rfl)
    refine hU (i := 49) (take_list rfl) (by as_aux_lemma => kernel_rfl) (fun _ _ _ h => h) rfl (by assumption) ?_
    refine hU (i := 50) (take_list rfl) (by as_aux_lemma => kernel_rfl) (fun _ _ _ h => h) rfl (by assumption) ?_
    try simp only [Act.put, List.setIfInBounds_toArray, List.set_cons_zero, List.set_cons_succ]
    refine hU (i := 51) (take_list rfl) (by as_aux_lemma => kernel_rfl) (fun _ _ _ h => h) rfl (by assumption) ?_
    refine hU (i := 52) (take_list rfl) (by as_aux_lemma => kernel_rfl) (fun _ _ _ h => h) rfl (by assumption) ?_
    refine hU (i := 53) (take_list rfl) (by as_aux_lemma => kernel_rfl) (fun _ _ _ h => h) rfl (by assumption) ?_
    try simp only [Act.put, List.setIfInBounds_toArray, List.set_cons_zero, List.set_cons_succ]
    refine hT (i := 54) (v := ?vY55q754) (take_list rfl) (by as_aux_lemma => kernel_rfl) (fun _ _ _ h => h) rfl ?yY55q754 (by assumption) ?rY55q754
    case yY55q754 => (intro w h; go_simp <;> with_reducible rfl)
    refine hT (i := 55) (v := ?vY55q755) (take_list rfl) (by as_aux_lemma => kernel_rfl) (fun _ _ _ h => h) rfl ?yY55q755 (by assumption) ?rY55q755
    case yY55q755 => (intro w h; go_simp <;> with_reducible rfl)
    refine hU (i := 56) (take_list rfl) (by as_aux_lemma => kernel_rfl) (fun _ _ _ h => h) rfl (by assumption) ?_
    try simp only [Act.put, List.setIfInBounds_toArray, List.set_cons_zero, List.set_cons_succ]
    refine hU (i := 57) (take_list rfl) (by as_aux_lemma => kernel_rfl) (fun _ _ _ h => h) rfl (by assumption) ?_
    refine hU (i := 58) (take_list rfl) (by as_aux_lemma => kernel_rfl) (fun _ _ _ h => h) rfl (by assumption) ?_
    refine hU (i := 59) (take_list rfl) (by as_aux_lemma => kernel_rfl) (fun _ _ _ h => h) rfl (by assumption) ?_
    try simp only [Act.put, List.setIfInBounds_toArray, List.set_cons_zero, List.set_cons_succ]
    refine hU (i := 60) (take_list rfl) (by as_aux_lemma => kernel_rfl) (fun _ _ _ h => h) rfl (by assumption) ?_
    refine hT (i := 61) (v := ?vY55q761) (take_list rfl) (by as_aux_lemma => kernel_rfl) (fun _ _ _ h => h) rfl ?yY55q761 (by assumption) ?rY55q761
    case yY55q761 => (intro w h; go_simp <;> with_reducible rfl)
    refine hT (i := 62) (v := ?vY55q762) (take_list rfl) (by as_aux_lemma => kernel_rfl) (fun _ _ _ h => h) rfl ?yY55q762 (by assumption) ?rY55q762
    case yY55q762 => (intro w h; go_simp <;> with_reducible rfl)
    try simp only [Act.put, List.setIfInBounds_toArray, List.set_cons_zero, List.set_cons_succ]
    refine hU (i := 63) (take_list rfl) (by as_aux_lemma => kernel_rfl) (fun _ _ _ h => h) rfl (by assumption) ?_
    refine hU (i := 64) (take_list rfl) (by as_aux_lemma => kernel_rfl) (fun _ _ _ h => h) rfl (by assumption) ?_
    refine hU (i := 65) (take_list rfl) (by as_aux_lemma => kernel_rfl) (fun _ _ _ h => h) rfl (by assumption) ?_
    try simp only [Act.put, List.setIfInBounds_toArray, List.set_cons_zero, List.set_cons_succ]
    refine hU (i := 66) (take_list rfl) (by as_aux_lemma => kernel_rfl) (fun _ _ _ h => h) rfl (by assumption) ?_
    refine hU (i := 67) (take_list rfl) (by as_aux_lemma => kernel_rfl) (fun _ _ _ h => h) rfl (by assumption) ?_
    refine hT (i := 68) (v := ?vY55q768) (take_list rfl) (by as_aux_lemma => kernel_rfl) (fun _ _ _ h => h) rfl ?yY55q768 (by assumption) ?rY55q768
    case yY55q768 => (intro w h; go_simp <;> with_reducible rfl)
    try simp only [Act.put, List.setIfInBounds_toArray, List.set_cons_zero, List.set_cons_succ]
    refine hT (i := 69) (v := ?vY55q769) (take_list rfl) (by as_aux_lemma => kernel_rfl) (fun _ _ _ h => h) rfl ?yY55q769 (by assumption) ?rY55q769
    case yY55q769 => (intro w h; go_simp <;> with_reducible rfl)
    refine hU (i := 70) (take_list rfl) (by as_aux_lemma => kernel_rfl) (fun _ _ _ h => h) rfl (by assumption) ?_
    refine hU (i := 71) (take_list rfl) (by as_aux_lemma => kernel_rfl) (fun _ _ _ h => h) rfl (by assumption) ?_
    try simp only [Act.put, List.setIfInBounds_toArray, List.set_cons_zero, List.set_cons_succ]
    refine hU (i := 72) (take_list rfl) (by as_aux_lemma => kernel_rfl) (fun _ _ _ h => h) rfl (by assumption) ?_
    refine hU (i := 73) (take_list rfl) (by as_aux_lemma => kernel_rfl) (fun _ _ _ h => h) rfl (by assumption) ?_
    refine hU (i := 74) (take_list rfl) (by as_aux_lemma => kernel_rfl) (fun _ _ _ h => h) rfl (by assumption) ?_
    try simp only [Act.put, List.setIfInBounds_toArray, List.set_cons_zero, List.set_cons_succ]
    refine hT (i := 75) (v := ?vY55q775) (take_list rfl) (by as_aux_lemma => kernel_rfl) (fun _ _ _ h => h) rfl ?yY55q775 (by assumption) ?rY55q775
    case yY55q775 => (intro w h; go_simp <;> with_reducible rfl)
    refine wpAnyH_done (by kernel_rfl) ?_ _
    go_wp2_with fail
    go_roundw
    case rel => first | exact ⟨i + 1, rfl, hlt, by rw [any_take HPI.out, FI.out, V.out]; rfl, BM0.out.trans ((show Below wm.heap.size wm _ from by first | exact KB.out | exact below_drewed _ wm | exact below_of_drew KB.out).mono (by omega))⟩ | ((repeat apply Exists.intro); exact ⟨⟨i + 1, rfl, hlt, by rw [any_take HPI.out, FI.out, V.out]; rfl, BM0.out.trans ((show Below wm.heap.size wm _ from by first | exact KB.out | exact below_drewed _ wm | exact below_of_drew KB.out).mono (by omega))⟩, rfl⟩)
    case measure => (simp only [intOf]; omega)
  have qcY55 : (p.r.key == k) = true := by simpa using cY55
  by_cases cY56 : p.r.gen = gn
  case neg =>
    have qcY56 : (p.r.gen == gn) = false := by simpa using cY56
    have V := Lib.hid (show F p = false by rw [FP.out]; unfold matchB; simp only [decide_eq_true cY50, decide_eq_true cY51, decide_eq_true cY52, qcY53, decide_eq_true cY54, decide_eq_true cY55, decide_eq_false cY56, Bool.true_and, Bool.false_and])
    clear cY50 cY51 cY52 cY53 cY54 cY55 cY56
    refine wp_region_held_drew (S := (fun w' => w'.cell? ⟨gr, 0, none⟩ = some (.int .i64 p.r.kind) ∧ w'.cell? ⟨gr, 1, none⟩ = some (.int .i64 p.r.cart) ∧ w'.cell? ⟨gr, 2, none⟩ = some (strV p.r.key) ∧ w'.cell? ⟨gr, 3, none⟩ = some (.int .i64 p.r.gen) ∧ w'.cell? ⟨gr, 4, none⟩ = some (.int .i64 p.r.group) ∧ w'.cell? ⟨gr, 5, none⟩ = some (.int .i64 p.r.groups) ∧ w'.cell? ⟨gr, 6, none⟩ = some (.int .i64 p.r.index) ∧ w'.cell? ⟨gr, 7, none⟩ = some (.int .i64 p.r.size) ∧ w'.cell? ⟨gr, 8, none⟩ = some (strV p.r.sum) ∧ w'.cell? ⟨gr, 9, none⟩ = some (.slice p.A p.r.data.length p.c) ∧ w'.cell? ⟨gp, 0, none⟩ = some (.int .i64 p.cart) ∧ w'.cell? ⟨gp, 1, none⟩ = some (.int .i64 p.pos) ∧ w'.cell? ⟨w.heap.size, 0, none⟩ = some (strV k) ∧ w'.cell? ⟨w.heap.size, 1, none⟩ = some (.int .i64 gn) ∧ w'.cell? ⟨w.heap.size, 2, none⟩ = some (.int .i64 sz) ∧ w'.cell? ⟨w.heap.size, 3, none⟩ = some (strV sm) ∧ w'.cell? ⟨w.heap.size, 4, none⟩ = some (.slice (some ⟨g, 0, none⟩) q q) ∧ w'.cell? ⟨g, s * 2, none⟩ = some (.int .i64 x) ∧ w'.cell? ⟨g, s * 2 + 1, none⟩ = some (.int .i64 y))) (by kernel_rfl) ⟨r0, r1, r2, r3, r4, r5, r6, r7, r8, r9, g0, g1, t0, t1, t2, t3, t4, v0, v1⟩ (fun hHeld => ?_)
    refine hT (i := 0) (v := ?vY56q80) (take_list rfl) (by as_aux_lemma => kernel_rfl) (fun _ _ _ h => h) rfl ?yY56q80 (by assumption) ?rY56q80
    case yY56q80 => (intro w h; go_simp <;> with_reducible rfl)
    refine hT (i := 1) (v := ?vY56q81) (take_list rfl) (by as_aux_lemma => kernel_rfl) (fun _ _ _ h => h) rfl ?yY56q81 (by assumption) ?rY56q81
    case yY56q81 => (intro w h; go_simp <;> with_reducible rfl)
    refine hT (i := 2) (v := ?vY56q82) (take_list rfl) (by as_aux_lemma => kernel_rfl) (fun _ _ _ h => h) rfl ?yY56q82 (by assumption) ?rY56q82
    case yY56q82 => (intro w h; go_simp <;> with_reducible rfl)
    try simp only [Act.put, List.setIfInBounds_toArray, List.set_cons_zero, List.set_cons_succ]
    refine hT (i := 3) (v := ?vY56q83) (take_list rfl) (by as_aux_lemma => kernel_rfl) (fun _ _ _ h => h) rfl ?yY56q83 (by assumption) ?rY56q83
    case yY56q83 => (intro w h; go_simp <;> with_reducible rfl)
    refine hT (i := 4) (v := ?vY56q84) (take_list rfl) (by as_aux_lemma => kernel_rfl) (fun _ _ _ h => h) rfl ?yY56q84 (by assumption) ?rY56q84
    case yY56q84 => (intro w h; go_simp <;> with_reducible rfl)
    refine hT (i := 5) (v := ?vY56q85) (take_list rfl) (by as_aux_lemma => kernel_rfl) (fun _ _ _ h => h) rfl ?yY56q85 (by assumption) ?rY56q85
    case yY56q85 => (intro w h; go_simp <;> with_reducible rfl)
    try simp only [Act.put, List.setIfInBounds_toArray, List.set_cons_zero, List.set_cons_succ]
    refine hT (i := 6) (v := ?vY56q86) (take_list rfl) (by as_aux_lemma => kernel_rfl) (fun _ _ _ h => h) rfl ?yY56q86 (by assumption) ?rY56q86
    case yY56q86 => (intro w h; go_simp <;> with_reducible rfl)
    refine hT (i := 7) (v := ?vY56q87) (take_list rfl) (by as_aux_lemma => kernel_rfl) (fun _ _ _ h => h) rfl ?yY56q87 (by assumption) ?rY56q87
    case yY56q87 => (intro w h; go_simp <;> with_reducible rfl)
    refine hT (i := 8) (v := ?vY56q88) (take_list rfl) (by as_aux_lemma => kernel_rfl) (fun _ _ _ h => h) rfl ?yY56q88 (by assumption) ?rY56q88
    case yY56q88 => (intro w h; go_simp <;> with_reducible rfl)
    try simp only [Act.put, List.setIfInBounds_toArray, List.set_cons_zero, List.set_cons_succ]
    refine hT (i := 9) (v := ?vY56q89) (take_list rfl) (by as_aux_lemma => kernel_rfl) (fun _ _ _ h => h) rfl ?yY56q89 (by assumption) ?rY56q89
    case yY56q89 => (intro w h; go_simp <;> with_reducible rfl)
    refine hT (i := 10) (v := ?vY56q810) (take_list rfl) (by as_aux_lemma => kernel_rfl) (fun _ _ _ h => h) rfl ?yY56q810 (by assumption) ?rY56q810
    case yY56q810 => (intro w h; go_simp <;> with_reducible rfl)
    refine hT (i := 11) (v := ?vY56q811) (take_list rfl) (by as_aux_lemma => kernel_rfl) (fun _ _ _ h => h) rfl ?yY56q811 (by assumption) ?rY56q811
    case yY56q811 => (intro w h; go_simp <;> with_reducible rfl)
    try simp only [Act.put, List.setIfInBounds_toArray, List.set_cons_zero, List.set_cons_succ]
    refine hT (i := 12) (v := ?vY56q812) (take_list rfl) (by as_aux_lemma => kernel_rfl) (fun _ _ _ h => h) rfl ?yY56q812 (by assumption) ?rY56q812
    case yY56q812 => (intro w h; go_simp <;> with_reducible rfl)
    refine hT (i := 13) (v := ?vY56q813) (take_list rfl) (by as_aux_lemma => kernel_rfl) (fun _ _ _ h => h) rfl ?yY56q813 (by assumption) ?rY56q813
    case yY56q813 => (intro w h; go_simp <;> with_reducible rfl)
    refine hT (i := 14) (v := ?vY56q814) (take_list rfl) (by as_aux_lemma => kernel_rfl) (fun _ _ _ h => h) rfl ?yY56q814 (by assumption) ?rY56q814
    case yY56q814 => (intro w h; go_simp <;> with_reducible rfl)
    try simp only [Act.put, List.setIfInBounds_toArray, List.set_cons_zero, List.set_cons_succ]
    refine hT (i := 15) (v := ?vY56q815) (take_list rfl) (by as_aux_lemma => kernel_rfl) (fun _ _ _ h => h) rfl ?yY56q815 (by assumption) ?rY56q815
    case yY56q815 => (intro w h; go_simp <;> with_reducible rfl)
    refine hT (i := 16) (v := ?vY56q816) (take_list rfl) (by as_aux_lemma => kernel_rfl) (fun _ _ _ h => h) rfl ?yY56q816 (by assumption) ?rY56q816
    case yY56q816 => (intro w h; go_simp <;> with_reducible rfl)
    refine hT (i := 17) (v := ?vY56q817) (take_list rfl) (by as_aux_lemma => kernel_rfl) (fun _ _ _ h => h) rfl ?yY56q817 (by assumption) ?rY56q817
    case yY56q817 => (intro w h; go_simp <;> with_reducible rfl)
    try simp only [Act.put, List.setIfInBounds_toArray, List.set_cons_zero, List.set_cons_succ]
    refine hT (i := 18) (v := ?vY56q818) (take_list rfl) (by as_aux_lemma => kernel_rfl) (fun _ _ _ h => h) rfl ?yY56q818 (by assumption) ?rY56q818
    case yY56q818 => (intro w h; go_simp <;> with_reducible rfl)
    refine hT (i := 19) (v := ?vY56q819) (take_list rfl) (by as_aux_lemma => kernel_rfl) (fun _ _ _ h => h) rfl ?yY56q819 (by assumption) ?rY56q819
    case yY56q819 => (intro w h; go_simp <;> with_reducible rfl)
    refine hT (i := 20) (v := ?vY56q820) (take_list rfl) (by as_aux_lemma => kernel_rfl) (fun _ _ _ h => h) rfl ?yY56q820 (by assumption) ?rY56q820
    case yY56q820 => (intro w h; go_simp <;> with_reducible rfl)
    try simp only [Act.put, List.setIfInBounds_toArray, List.set_cons_zero, List.set_cons_succ]
    refine hT (i := 21) (v := ?vY56q821) (take_list rfl) (by as_aux_lemma => kernel_rfl) (fun _ _ _ h => h) rfl ?yY56q821 (by assumption) ?rY56q821
    case yY56q821 => (intro w h; go_simp <;> with_reducible rfl)
    refine hT (i := 22) (v := ?vY56q822) (take_list rfl) (by as_aux_lemma => kernel_rfl) (fun _ _ _ h => h) rfl ?yY56q822 (by assumption) ?rY56q822
    case yY56q822 => (intro w h; go_simp <;> with_reducible rfl)
    refine hT (i := 23) (v := ?vY56q823) (take_list rfl) (by as_aux_lemma => kernel_rfl) (fun _ _ _ h => h) rfl ?yY56q823 (by assumption) ?rY56q823
    case yY56q823 => (intro w h; go_simp <;> with_reducible rfl)
    try simp only [Act.put, List.setIfInBounds_toArray, List.set_cons_zero, List.set_cons_succ]
    refine hT (i := 24) (v := ?vY56q824) (take_list rfl) (by as_aux_lemma => kernel_rfl) (fun _ _ _ h => h) rfl ?yY56q824 (by assumption) ?rY56q824
    case yY56q824 => (intro w h; go_simp <;> with_reducible rfl)
    refine hT (i := 25) (v := ?vY56q825) (take_list rfl) (by as_aux_lemma => kernel_rfl) (fun _ _ _ h => h) rfl ?yY56q825 (by assumption) ?rY56q825
    case yY56q825 => (intro w h; go_simp <;> with_reducible rfl)
    refine hT (i := 26) (v := ?vY56q826) (take_list rfl) (by as_aux_lemma => kernel_rfl) (fun _ _ _ h => h) rfl ?yY56q826 (by assumption) ?rY56q826
    case yY56q826 => (intro w h; go_simp <;> with_reducible rfl)
    try simp only [Act.put, List.setIfInBounds_toArray, List.set_cons_zero, List.set_cons_succ]
    refine wpAnyH_ready (rs := [27]) (by kernel_rfl) (by simp) ?_
    refine AllReadyH.cons rfl (fun K hK => ?_) AllReadyH.nil
    go_simp
    go_wp2_with (go_at_call 14; refine (sGood p.r p.A p.c _).mono ?_; rintro e wg ⟨rfl, hb⟩; rw [qcY53]; have KB := Lib.hid (show Below wm.heap.size wm wg from (by first | exact hb | exact below_of_drew hb)); clear hb)
    clear hHeld
    refine hK.out _ _ ⟨keepc KB.out hgrz r0, keepc KB.out hgrz r1, keepc KB.out hgrz r2, keepc KB.out hgrz r3, keepc KB.out hgrz r4, keepc KB.out hgrz r5, keepc KB.out hgrz r6, keepc KB.out hgrz r7, keepc KB.out hgrz r8, keepc KB.out hgrz r9, keepc KB.out hgpz g0, keepc KB.out hgpz g1, keepc KB.out hzt t0, keepc KB.out hzt t1, keepc KB.out hzt t2, keepc KB.out hzt t3, keepc KB.out hzt t4, keepc KB.out hgz v0, keepc KB.out hgz v1⟩ (fun hHeld => ?_)
    clear hK K
    refine hT (i := 28) (v := ?vY56q828) (take_list rfl) (by as_aux_lemma => kernel_rfl) (fun _ _ _ h => h) rfl ?yY56q828 (by assumption) ?rY56q828
    case yY56q828 => (intro w h; go_simp <;> with_reducible rfl)
    refine hT (i := 29) (v := ?vY56q829) (take_list rfl) (by as_aux_lemma => kernel_rfl) (fun _ _ _ h => h) rfl ?yY56q829 (by assumption) ?rY56q829
    case yY56q829 => (intro w h; go_simp <;> with_reducible rfl)
    try simp only [Act.put, List.setIfInBounds_toArray, List.set_cons_zero, List.set_cons_succ]
    refine hT (i := 30) (v := ?vY56q830) (take_list rfl) (by as_aux_lemma => kernel_rfl) (fun _ _ _ h => h) rfl ?yY56q830 (by assumption) ?rY56q830
    case yY56q830 => (intro w h; go_simp <;> with_reducible rfl)
    refine hT (i := 31) (v := ?vY56q831) (take_list rfl) (by as_aux_lemma => kernel_rfl) (fun _ _ _ h => h) rfl ?yY56q831 (by assumption) ?rY56q831
    case yY56q831 => (intro w h; go_simp <;> with_reducible rfl)
    refine hT (i := 32) (v := ?vY56q832) (take_list rfl) (by as_aux_lemma => kernel_rfl) (fun _ _ _ h => h) rfl ?yY56q832 (by assumption) ?rY56q832
    case yY56q832 => (intro w h; go_simp <;> with_reducible rfl)
    try simp only [Act.put, List.setIfInBounds_toArray, List.set_cons_zero, List.set_cons_succ]
    refine hT (i := 33) (v := ?vY56q833) (take_list rfl) (by as_aux_lemma => kernel_rfl) (fun _ _ _ h => h) rfl ?yY56q833 (by assumption) ?rY56q833
    case yY56q833 => (intro w h; go_simp <;> with_reducible rfl)
    refine hT (i := 34) (v := ?vY56q834) (take_list rfl) (by as_aux_lemma => kernel_rfl) (fun _ _ _ h => h) rfl ?yY56q834 (by assumption) ?rY56q834
    case yY56q834 => (intro w h; go_simp <;> with_reducible rfl)
    refine hT (i := 35) (v := ?vY56q835) (take_list rfl) (by as_aux_lemma => kernel_rfl) (fun _ _ _ h => h) rfl ?yY56q835 (by assumption) ?rY56q835
    case yY56q835 => (intro w h; go_simp <;> with_reducible rfl)
    try simp only [Act.put, List.setIfInBounds_toArray, List.set_cons_zero, List.set_cons_succ]
    refine hT (i := 36) (v := ?vY56q836) (take_list rfl) (by as_aux_lemma => kernel_rfl) (fun _ _ _ h => h) rfl ?yY56q836 (by assumption) ?rY56q836
    case yY56q836 => (intro w h; go_simp <;> with_reducible rfl)
    refine hT (i := 37) (v := ?vY56q837) (take_list rfl) (by as_aux_lemma => kernel_rfl) (fun _ _ _ h => h) rfl ?yY56q837 (by assumption) ?rY56q837
    case yY56q837 => (intro w h; go_simp <;> with_reducible rfl)
    refine hT (i := 38) (v := ?vY56q838) (take_list rfl) (by as_aux_lemma => kernel_rfl) (fun _ _ _ h => h) rfl ?yY56q838 (by assumption) ?rY56q838
    case yY56q838 => (intro w h; go_simp <;> with_reducible rfl)
    try simp only [Act.put, List.setIfInBounds_toArray, List.set_cons_zero, List.set_cons_succ]
    refine hT (i := 39) (v := ?vY56q839) (take_list rfl) (by as_aux_lemma => kernel_rfl) (fun _ _ _ h => h) rfl ?yY56q839 (by assumption) ?rY56q839
    case yY56q839 => (intro w h; go_simp <;> with_reducible rfl)
    refine hT (i := 40) (v := ?vY56q840) (take_list rfl) (by as_aux_lemma => kernel_rfl) (fun _ _ _ h => h) rfl ?yY56q840 (by assumption) ?rY56q840
    case yY56q840 => (intro w h; go_simp <;> with_reducible rfl)
    refine hT (i := 41) (v := ?vY56q841) (take_list rfl) (by as_aux_lemma => kernel_rfl) (fun _ _ _ h => h) rfl ?yY56q841 (by assumption) ?rY56q841
    case yY56q841 => (intro w h; go_simp <;> with_reducible rfl)
    try simp only [Act.put, List.setIfInBounds_toArray, List.set_cons_zero, List.set_cons_succ]
    refine hT (i := 42) (v := ?vY56q842) (take_list rfl) (by as_aux_lemma => kernel_rfl) (fun _ _ _ h => h) rfl ?yY56q842 (by assumption) ?rY56q842
    case yY56q842 => (intro w h; go_simp <;> with_reducible rfl)
    refine hT (i := 43) (v := ?vY56q843) (take_list rfl) (by as_aux_lemma => kernel_rfl) (fun _ _ _ h => h) rfl ?yY56q843 (by assumption) ?rY56q843
    case yY56q843 => (intro w h; go_simp <;> with_reducible rfl)
    refine hT (i := 44) (v := ?vY56q844) (take_list rfl) (by as_aux_lemma => kernel_rfl) (fun _ _ _ h => h) rfl ?yY56q844 (by assumption) ?rY56q844
    case yY56q844 => (intro w h; go_simp <;> with_reducible rfl)
    try simp only [Act.put, List.setIfInBounds_toArray, List.set_cons_zero, List.set_cons_succ]
    refine hT (i := 45) (v := ?vY56q845) (take_list rfl) (by as_aux_lemma => kernel_rfl) (fun _ _ _ h => h) rfl ?yY56q845 (by assumption) ?rY56q845
    case yY56q845 => (intro w h; go_simp <;> with_reducible rfl)
    refine hT (i := 46) (v := ?vY56q846) (take_list rfl) (by as_aux_lemma => kernel_rfl) (fun _ _ _ h => h) rfl ?yY56q846 (by assumption) ?rY56q846
    case yY56q846 => (intro w h; go_simp <;> with_reducible rfl)
    refine hT (i := 47) (v := ?vY56q847) (take_list rfl) (by as_aux_lemma => kernel_rfl) (fun _ _ _ h => h) rfl ?yY56q847 (by assumption) ?rY56q847
    case yY56q847 => (intro w h; go_simp <;> with_reducible rfl)
    try simp only [Act.put, List.setIfInBounds_toArray, List.set_cons_zero, List.set_cons_succ]
    refine hT (i := 48) (v := ?vY56q848) (take_list rfl) (by as_aux_lemma => kernel_rfl) (fun _ _ _ h => h) rfl ?yY56q848 (by assumption) ?rY56q848
    case yY56q848 => (intro w h; go_simp <;> with_reducible rfl)
    refine hU (i := 49) (take_list rfl) (by as_aux_lemma => kernel_rfl) (fun _ _ _ h => h) rfl (by assumption) ?_
    refine hU (i := 50) (take_list rfl) (by as_aux_lemma => kernel_rfl) (fun _ _ _ h => h) rfl (by assumption) ?_
    try simp only [Act.put, List.setIfInBounds_toArray, List.set_cons_zero, List.set_cons_succ]
    refine hU (i := 51) (take_list rfl) (by as_aux_lemma => kernel_rfl) (fun _ _ _ h => h) rfl (by assumption) ?_
    refine hU (i := 52) (take_list rfl) (by as_aux_lemma => kernel_rfl) (fun _ _ _ h => h) rfl (by assumption) ?_
    refine hU (i := 53) (take_list rfl) (by as_aux_lemma => kernel_rfl) (fun _ _ _ h => h) rfl (by assumption) ?_
    try simp only [Act.put, List.setIfInBounds_toArray, List.set_cons_zero, List.set_cons_succ]
    refine hT (i := 54) (v := ?vY56q854) (take_list rfl) (by as_aux_lemma => kernel_rfl) (fun _ _ _ h => h) rfl ?yY56q854 (by assumption) ?rY56q854
    case yY56q854 => (intro w h; go_simp <;> with_reducible rfl)
    refine hT (i := 55) (v := ?vY56q855) (take_list rfl) (by as_aux_lemma => kernel_rfl) (fun _ _ _ h => h) rfl ?yY56q855 (by assumption) ?rY56q855
    case yY56q855 => (intro w h; go_simp <;> with_reducible rfl)
    refine hU (i := 56) (take_list rfl) (by as_aux_lemma => kernel_rfl) (fun _ _ _ h => h) rfl (by assumption) ?_
    try simp only [Act.put, List.setIfInBounds_toArray, List.set_cons_zero, List.set_cons_succ]
    refine hU (i := 57) (take_list rfl) (by as_aux_lemma => kernel_rfl) (fun _ _ _ h => h) rfl (by assumption) ?_
    refine hU (i := 58) (take_list rfl) (by as_aux_lemma => kernel_rfl) (fun _ _ _ h => h) rfl (by assumption) ?_
    refine hU (i := 59) (take_list rfl) (by as_aux_lemma => kernel_rfl) (fun _ _ _ h => h) rfl (by assumption) ?_
    try simp only [Act.put, List.setIfInBounds_toArray, List.set_cons_zero, List.set_cons_succ]
    refine hU (i := 60) (take_list rfl) (by as_aux_lemma => kernel_rfl) (fun _ _ _ h => h) rfl (by assumption) ?_
    refine hT (i := 61) (v := ?vY56q861) (take_list rfl) (by as_aux_lemma => kernel_rfl) (fun _ _ _ h => h) rfl ?yY56q861 (by assumption) ?rY56q861
    case yY56q861 => (intro w h; go_simp <;> with_reducible rfl)
    refine hT (i := 62) (v := ?vY56q862) (take_list rfl) (by as_aux_lemma => kernel_rfl) (fun _ _ _ h => h) rfl ?yY56q862 (by assumption) ?rY56q862
    case yY56q862 => (intro w h; go_simp <;> with_reducible rfl)
    try simp only [Act.put, List.setIfInBounds_toArray, List.set_cons_zero, List.set_cons_succ]
    refine hU (i := 63) (take_list rfl) (by as_aux_lemma => kernel_rfl) (fun _ _ _ h => h) rfl (by assumption) ?_
    refine hU (i := 64) (take_list rfl) (by as_aux_lemma => kernel_rfl) (fun _ _ _ h => h) rfl (by assumption) ?_
    refine hU (i := 65) (take_list rfl) (by as_aux_lemma => kernel_rfl) (fun _ _ _ h => h) rfl (by assumption) ?_
    try simp only [Act.put, List.setIfInBounds_toArray, List.set_cons_zero, List.set_cons_succ]
    refine hU (i := 66) (take_list rfl) (by as_aux_lemma => kernel_rfl) (fun _ _ _ h => h) rfl (by assumption) ?_
    refine hU (i := 67) (take_list rfl) (by as_aux_lemma => kernel_rfl) (fun _ _ _ h => h) rfl (by assumption) ?_
    refine hT (i := 68) (v := ?vY56q868) (take_list rfl) (by as_aux_lemma => kernel_rfl) (fun _ _ _ h => h) rfl ?yY56q868 (by assumption) ?rY56q868
    case yY56q868 => (intro w h; go_simp <;> with_reducible rfl)
    try simp only [Act.put, List.setIfInBounds_toArray, List.set_cons_zero, List.set_cons_succ]
    refine hT (i := 69) (v := ?vY56q869) (take_list rfl) (by as_aux_lemma => kernel_rfl) (fun _ _ _ h => h) rfl ?yY56q869 (by assumption) ?rY56q869
    case yY56q869 => (intro w h; go_simp <;> with_reducible rfl)
    refine hU (i := 70) (take_list rfl) (by as_aux_lemma => kernel_rfl) (fun _ _ _ h => h) rfl (by assumption) ?_
    refine hU (i := 71) (take_list rfl) (by as_aux_lemma => kernel_rfl) (fun _ _ _ h => h) rfl (by assumption) ?_
    try simp only [Act.put, List.setIfInBounds_toArray, List.set_cons_zero, List.set_cons_succ]
    refine hU (i := 72) (take_list rfl) (by as_aux_lemma => kernel_rfl) (fun _ _ _ h => h) rfl (by assumption) ?_
    refine hU (i := 73) (take_list rfl) (by as_aux_lemma => kernel_rfl) (fun _ _ _ h => h) rfl (by assumption) ?_
    refine hU (i := 74) (take_list rfl) (by as_aux_lemma => kernel_rfl) (fun _ _ _ h => h) rfl (by assumption) ?_
    try simp only [Act.put, List.setIfInBounds_toArray, List.set_cons_zero, List.set_cons_succ]
    refine hT (i := 75) (v := ?vY56q875) (take_list rfl) (by as_aux_lemma => kernel_rfl) (fun _ _ _ h => h) rfl ?yY56q875 (by assumption) ?rY56q875
    case yY56q875 => (intro w h; go_simp <;> with_reducible rfl)
    refine wpAnyH_done (by kernel_rfl) ?_ _
    go_wp2_with fail
    go_roundw
    case rel => first | exact ⟨i + 1, rfl, hlt, by rw [any_take HPI.out, FI.out, V.out]; rfl, BM0.out.trans ((show Below wm.heap.size wm _ from by first | exact KB.out | exact below_drewed _ wm | exact below_of_drew KB.out).mono (by omega))⟩ | ((repeat apply Exists.intro); exact ⟨⟨i + 1, rfl, hlt, by rw [any_take HPI.out, FI.out, V.out]; rfl, BM0.out.trans ((show Below wm.heap.size wm _ from by first | exact KB.out | exact below_drewed _ wm | exact below_of_drew KB.out).mono (by omega))⟩, rfl⟩)
    case measure => (simp only [intOf]; omega)
  have qcY56 : (p.r.gen == gn) = true := by simpa using cY56
  by_cases cY57 : p.r.size = sz
  case neg =>
    have qcY57 : (p.r.size == sz) = false := by simpa using cY57
    have V := Lib.hid (show F p = false by rw [FP.out]; unfold matchB; simp only [decide_eq_true cY50, decide_eq_true cY51, decide_eq_true cY52, qcY53, decide_eq_true cY54, decide_eq_true cY55, decide_eq_true cY56, decide_eq_false cY57, Bool.true_and, Bool.false_and])
    clear cY50 cY51 cY52 cY53 cY54 cY55 cY56 cY57
    refine wp_region_held_drew (S := (fun w' => w'.cell? ⟨gr, 0, none⟩ = some (.int .i64 p.r.kind) ∧ w'.cell? ⟨gr, 1, none⟩ = some (.int .i64 p.r.cart) ∧ w'.cell? ⟨gr, 2, none⟩ = some (strV p.r.key) ∧ w'.cell? ⟨gr, 3, none⟩ = some (.int .i64 p.r.gen) ∧ w'.cell? ⟨gr, 4, none⟩ = some (.int .i64 p.r.group) ∧ w'.cell? ⟨gr, 5, none⟩ = some (.int .i64 p.r.groups) ∧ w'.cell? ⟨gr, 6, none⟩ = some (.int .i64 p.r.index) ∧ w'.cell? ⟨gr, 7, none⟩ = some (.int .i64 p.r.size) ∧ w'.cell? ⟨gr, 8, none⟩ = some (strV p.r.sum) ∧ w'.cell? ⟨gr, 9, none⟩ = some (.slice p.A p.r.data.length p.c) ∧ w'.cell? ⟨gp, 0, none⟩ = some (.int .i64 p.cart) ∧ w'.cell? ⟨gp, 1, none⟩ = some (.int .i64 p.pos) ∧ w'.cell? ⟨w.heap.size, 0, none⟩ = some (strV k) ∧ w'.cell? ⟨w.heap.size, 1, none⟩ = some (.int .i64 gn) ∧ w'.cell? ⟨w.heap.size, 2, none⟩ = some (.int .i64 sz) ∧ w'.cell? ⟨w.heap.size, 3, none⟩ = some (strV sm) ∧ w'.cell? ⟨w.heap.size, 4, none⟩ = some (.slice (some ⟨g, 0, none⟩) q q) ∧ w'.cell? ⟨g, s * 2, none⟩ = some (.int .i64 x) ∧ w'.cell? ⟨g, s * 2 + 1, none⟩ = some (.int .i64 y))) (by kernel_rfl) ⟨r0, r1, r2, r3, r4, r5, r6, r7, r8, r9, g0, g1, t0, t1, t2, t3, t4, v0, v1⟩ (fun hHeld => ?_)
    refine hT (i := 0) (v := ?vY57q90) (take_list rfl) (by as_aux_lemma => kernel_rfl) (fun _ _ _ h => h) rfl ?yY57q90 (by assumption) ?rY57q90
    case yY57q90 => (intro w h; go_simp <;> with_reducible rfl)
    refine hT (i := 1) (v := ?vY57q91) (take_list rfl) (by as_aux_lemma => kernel_rfl) (fun _ _ _ h => h) rfl ?yY57q91 (by assumption) ?rY57q91
    case yY57q91 => (intro w h; go_simp <;> with_reducible rfl)
    refine hT (i := 2) (v := ?vY57q92) (take_list rfl) (by as_aux_lemma => kernel_rfl) (fun _ _ _ h => h) rfl ?yY57q92 (by assumption) ?rY57q92
    case yY57q92 => (intro w h; go_simp <;> with_reducible rfl)
    try simp only [Act.put, List.setIfInBounds_toArray, List.set_cons_zero, List.set_cons_succ]
    refine hT (i := 3) (v := ?vY57q93) (take_list rfl) (by as_aux_lemma => kernel_rfl) (fun _ _ _ h => h) rfl ?yY57q93 (by assumption) ?rY57q93
    case yY57q93 => (intro w h; go_simp <;> with_reducible rfl)
    refine hT (i := 4) (v := ?vY57q94) (take_list rfl) (by as_aux_lemma => kernel_rfl) (fun _ _ _ h => h) rfl ?yY57q94 (by assumption) ?rY57q94
    case yY57q94 => (intro w h; go_simp <;> with_reducible rfl)
    refine hT (i := 5) (v := ?vY57q95) (take_list rfl) (by as_aux_lemma => kernel_rfl) (fun _ _ _ h => h) rfl ?yY57q95 (by assumption) ?rY57q95
    case yY57q95 => (intro w h; go_simp <;> with_reducible rfl)
    try simp only [Act.put, List.setIfInBounds_toArray, List.set_cons_zero, List.set_cons_succ]
    refine hT (i := 6) (v := ?vY57q96) (take_list rfl) (by as_aux_lemma => kernel_rfl) (fun _ _ _ h => h) rfl ?yY57q96 (by assumption) ?rY57q96
    case yY57q96 => (intro w h; go_simp <;> with_reducible rfl)
    refine hT (i := 7) (v := ?vY57q97) (take_list rfl) (by as_aux_lemma => kernel_rfl) (fun _ _ _ h => h) rfl ?yY57q97 (by assumption) ?rY57q97
    case yY57q97 => (intro w h; go_simp <;> with_reducible rfl)
    refine hT (i := 8) (v := ?vY57q98) (take_list rfl) (by as_aux_lemma => kernel_rfl) (fun _ _ _ h => h) rfl ?yY57q98 (by assumption) ?rY57q98
    case yY57q98 => (intro w h; go_simp <;> with_reducible rfl)
    try simp only [Act.put, List.setIfInBounds_toArray, List.set_cons_zero, List.set_cons_succ]
    refine hT (i := 9) (v := ?vY57q99) (take_list rfl) (by as_aux_lemma => kernel_rfl) (fun _ _ _ h => h) rfl ?yY57q99 (by assumption) ?rY57q99
    case yY57q99 => (intro w h; go_simp <;> with_reducible rfl)
    refine hT (i := 10) (v := ?vY57q910) (take_list rfl) (by as_aux_lemma => kernel_rfl) (fun _ _ _ h => h) rfl ?yY57q910 (by assumption) ?rY57q910
    case yY57q910 => (intro w h; go_simp <;> with_reducible rfl)
    refine hT (i := 11) (v := ?vY57q911) (take_list rfl) (by as_aux_lemma => kernel_rfl) (fun _ _ _ h => h) rfl ?yY57q911 (by assumption) ?rY57q911
    case yY57q911 => (intro w h; go_simp <;> with_reducible rfl)
    try simp only [Act.put, List.setIfInBounds_toArray, List.set_cons_zero, List.set_cons_succ]
    refine hT (i := 12) (v := ?vY57q912) (take_list rfl) (by as_aux_lemma => kernel_rfl) (fun _ _ _ h => h) rfl ?yY57q912 (by assumption) ?rY57q912
    case yY57q912 => (intro w h; go_simp <;> with_reducible rfl)
    refine hT (i := 13) (v := ?vY57q913) (take_list rfl) (by as_aux_lemma => kernel_rfl) (fun _ _ _ h => h) rfl ?yY57q913 (by assumption) ?rY57q913
    case yY57q913 => (intro w h; go_simp <;> with_reducible rfl)
    refine hT (i := 14) (v := ?vY57q914) (take_list rfl) (by as_aux_lemma => kernel_rfl) (fun _ _ _ h => h) rfl ?yY57q914 (by assumption) ?rY57q914
    case yY57q914 => (intro w h; go_simp <;> with_reducible rfl)
    try simp only [Act.put, List.setIfInBounds_toArray, List.set_cons_zero, List.set_cons_succ]
    refine hT (i := 15) (v := ?vY57q915) (take_list rfl) (by as_aux_lemma => kernel_rfl) (fun _ _ _ h => h) rfl ?yY57q915 (by assumption) ?rY57q915
    case yY57q915 => (intro w h; go_simp <;> with_reducible rfl)
    refine hT (i := 16) (v := ?vY57q916) (take_list rfl) (by as_aux_lemma => kernel_rfl) (fun _ _ _ h => h) rfl ?yY57q916 (by assumption) ?rY57q916
    case yY57q916 => (intro w h; go_simp <;> with_reducible rfl)
    refine hT (i := 17) (v := ?vY57q917) (take_list rfl) (by as_aux_lemma => kernel_rfl) (fun _ _ _ h => h) rfl ?yY57q917 (by assumption) ?rY57q917
    case yY57q917 => (intro w h; go_simp <;> with_reducible rfl)
    try simp only [Act.put, List.setIfInBounds_toArray, List.set_cons_zero, List.set_cons_succ]
    refine hT (i := 18) (v := ?vY57q918) (take_list rfl) (by as_aux_lemma => kernel_rfl) (fun _ _ _ h => h) rfl ?yY57q918 (by assumption) ?rY57q918
    case yY57q918 => (intro w h; go_simp <;> with_reducible rfl)
    refine hT (i := 19) (v := ?vY57q919) (take_list rfl) (by as_aux_lemma => kernel_rfl) (fun _ _ _ h => h) rfl ?yY57q919 (by assumption) ?rY57q919
    case yY57q919 => (intro w h; go_simp <;> with_reducible rfl)
    refine hT (i := 20) (v := ?vY57q920) (take_list rfl) (by as_aux_lemma => kernel_rfl) (fun _ _ _ h => h) rfl ?yY57q920 (by assumption) ?rY57q920
    case yY57q920 => (intro w h; go_simp <;> with_reducible rfl)
    try simp only [Act.put, List.setIfInBounds_toArray, List.set_cons_zero, List.set_cons_succ]
    refine hT (i := 21) (v := ?vY57q921) (take_list rfl) (by as_aux_lemma => kernel_rfl) (fun _ _ _ h => h) rfl ?yY57q921 (by assumption) ?rY57q921
    case yY57q921 => (intro w h; go_simp <;> with_reducible rfl)
    refine hT (i := 22) (v := ?vY57q922) (take_list rfl) (by as_aux_lemma => kernel_rfl) (fun _ _ _ h => h) rfl ?yY57q922 (by assumption) ?rY57q922
    case yY57q922 => (intro w h; go_simp <;> with_reducible rfl)
    refine hT (i := 23) (v := ?vY57q923) (take_list rfl) (by as_aux_lemma => kernel_rfl) (fun _ _ _ h => h) rfl ?yY57q923 (by assumption) ?rY57q923
    case yY57q923 => (intro w h; go_simp <;> with_reducible rfl)
    try simp only [Act.put, List.setIfInBounds_toArray, List.set_cons_zero, List.set_cons_succ]
    refine hT (i := 24) (v := ?vY57q924) (take_list rfl) (by as_aux_lemma => kernel_rfl) (fun _ _ _ h => h) rfl ?yY57q924 (by assumption) ?rY57q924
    case yY57q924 => (intro w h; go_simp <;> with_reducible rfl)
    refine hT (i := 25) (v := ?vY57q925) (take_list rfl) (by as_aux_lemma => kernel_rfl) (fun _ _ _ h => h) rfl ?yY57q925 (by assumption) ?rY57q925
    case yY57q925 => (intro w h; go_simp <;> with_reducible rfl)
    refine hT (i := 26) (v := ?vY57q926) (take_list rfl) (by as_aux_lemma => kernel_rfl) (fun _ _ _ h => h) rfl ?yY57q926 (by assumption) ?rY57q926
    case yY57q926 => (intro w h; go_simp <;> with_reducible rfl)
    try simp only [Act.put, List.setIfInBounds_toArray, List.set_cons_zero, List.set_cons_succ]
    refine wpAnyH_ready (rs := [27]) (by kernel_rfl) (by simp) ?_
    refine AllReadyH.cons rfl (fun K hK => ?_) AllReadyH.nil
    go_simp
    go_wp2_with (go_at_call 14; refine (sGood p.r p.A p.c _).mono ?_; rintro e wg ⟨rfl, hb⟩; rw [qcY53]; have KB := Lib.hid (show Below wm.heap.size wm wg from (by first | exact hb | exact below_of_drew hb)); clear hb)
    clear hHeld
    refine hK.out _ _ ⟨keepc KB.out hgrz r0, keepc KB.out hgrz r1, keepc KB.out hgrz r2, keepc KB.out hgrz r3, keepc KB.out hgrz r4, keepc KB.out hgrz r5, keepc KB.out hgrz r6, keepc KB.out hgrz r7, keepc KB.out hgrz r8, keepc KB.out hgrz r9, keepc KB.out hgpz g0, keepc KB.out hgpz g1, keepc KB.out hzt t0, keepc KB.out hzt t1, keepc KB.out hzt t2, keepc KB.out hzt t3, keepc KB.out hzt t4, keepc KB.out hgz v0, keepc KB.out hgz v1⟩ (fun hHeld => ?_)
    clear hK K
    refine hT (i := 28) (v := ?vY57q928) (take_list rfl) (by as_aux_lemma => kernel_rfl) (fun _ _ _ h => h) rfl ?yY57q928 (by assumption) ?rY57q928
    case yY57q928 => (intro w h; go_simp <;> with_reducible rfl)
    refine hT (i := 29) (v := ?vY57q929) (take_list rfl) (by as_aux_lemma => kernel_rfl) (fun _ _ _ h => h) rfl ?yY57q929 (by assumption) ?rY57q929
    case yY57q929 => (intro w h; go_simp <;> with_reducible rfl)
    try simp only [Act.put, List.setIfInBounds_toArray, List.set_cons_zero, List.set_cons_succ]
    refine hT (i := 30) (v := ?vY57q930) (take_list rfl) (by as_aux_lemma => kernel_rfl) (fun _ _ _ h => h) rfl ?yY57q930 (by assumption) ?rY57q930
    case yY57q930 => (intro w h; go_simp <;> with_reducible rfl)
    refine hT (i := 31) (v := ?vY57q931) (take_list rfl) (by as_aux_lemma => kernel_rfl) (fun _ _ _ h => h) rfl ?yY57q931 (by assumption) ?rY57q931
    case yY57q931 => (intro w h; go_simp <;> with_reducible rfl)
    refine hT (i := 32) (v := ?vY57q932) (take_list rfl) (by as_aux_lemma => kernel_rfl) (fun _ _ _ h => h) rfl ?yY57q932 (by assumption) ?rY57q932
    case yY57q932 => (intro w h; go_simp <;> with_reducible rfl)
    try simp only [Act.put, List.setIfInBounds_toArray, List.set_cons_zero, List.set_cons_succ]
    refine hT (i := 33) (v := ?vY57q933) (take_list rfl) (by as_aux_lemma => kernel_rfl) (fun _ _ _ h => h) rfl ?yY57q933 (by assumption) ?rY57q933
    case yY57q933 => (intro w h; go_simp <;> with_reducible rfl)
    refine hT (i := 34) (v := ?vY57q934) (take_list rfl) (by as_aux_lemma => kernel_rfl) (fun _ _ _ h => h) rfl ?yY57q934 (by assumption) ?rY57q934
    case yY57q934 => (intro w h; go_simp <;> with_reducible rfl)
    refine hT (i := 35) (v := ?vY57q935) (take_list rfl) (by as_aux_lemma => kernel_rfl) (fun _ _ _ h => h) rfl ?yY57q935 (by assumption) ?rY57q935
    case yY57q935 => (intro w h; go_simp <;> with_reducible rfl)
    try simp only [Act.put, List.setIfInBounds_toArray, List.set_cons_zero, List.set_cons_succ]
    refine hT (i := 36) (v := ?vY57q936) (take_list rfl) (by as_aux_lemma => kernel_rfl) (fun _ _ _ h => h) rfl ?yY57q936 (by assumption) ?rY57q936
    case yY57q936 => (intro w h; go_simp <;> with_reducible rfl)
    refine hT (i := 37) (v := ?vY57q937) (take_list rfl) (by as_aux_lemma => kernel_rfl) (fun _ _ _ h => h) rfl ?yY57q937 (by assumption) ?rY57q937
    case yY57q937 => (intro w h; go_simp <;> with_reducible rfl)
    refine hT (i := 38) (v := ?vY57q938) (take_list rfl) (by as_aux_lemma => kernel_rfl) (fun _ _ _ h => h) rfl ?yY57q938 (by assumption) ?rY57q938
    case yY57q938 => (intro w h; go_simp <;> with_reducible rfl)
    try simp only [Act.put, List.setIfInBounds_toArray, List.set_cons_zero, List.set_cons_succ]
    refine hT (i := 39) (v := ?vY57q939) (take_list rfl) (by as_aux_lemma => kernel_rfl) (fun _ _ _ h => h) rfl ?yY57q939 (by assumption) ?rY57q939
    case yY57q939 => (intro w h; go_simp <;> with_reducible rfl)
    refine hT (i := 40) (v := ?vY57q940) (take_list rfl) (by as_aux_lemma => kernel_rfl) (fun _ _ _ h => h) rfl ?yY57q940 (by assumption) ?rY57q940
    case yY57q940 => (intro w h; go_simp <;> with_reducible rfl)
    refine hT (i := 41) (v := ?vY57q941) (take_list rfl) (by as_aux_lemma => kernel_rfl) (fun _ _ _ h => h) rfl ?yY57q941 (by assumption) ?rY57q941
    case yY57q941 => (intro w h; go_simp <;> with_reducible rfl)
    try simp only [Act.put, List.setIfInBounds_toArray, List.set_cons_zero, List.set_cons_succ]
    refine hT (i := 42) (v := ?vY57q942) (take_list rfl) (by as_aux_lemma => kernel_rfl) (fun _ _ _ h => h) rfl ?yY57q942 (by assumption) ?rY57q942
    case yY57q942 => (intro w h; go_simp <;> with_reducible rfl)
    refine hT (i := 43) (v := ?vY57q943) (take_list rfl) (by as_aux_lemma => kernel_rfl) (fun _ _ _ h => h) rfl ?yY57q943 (by assumption) ?rY57q943
    case yY57q943 => (intro w h; go_simp <;> with_reducible rfl)
    refine hT (i := 44) (v := ?vY57q944) (take_list rfl) (by as_aux_lemma => kernel_rfl) (fun _ _ _ h => h) rfl ?yY57q944 (by assumption) ?rY57q944
    case yY57q944 => (intro w h; go_simp <;> with_reducible rfl)
    try simp only [Act.put, List.setIfInBounds_toArray, List.set_cons_zero, List.set_cons_succ]
    refine hT (i := 45) (v := ?vY57q945) (take_list rfl) (by as_aux_lemma => kernel_rfl) (fun _ _ _ h => h) rfl ?yY57q945 (by assumption) ?rY57q945
    case yY57q945 => (intro w h; go_simp <;> with_reducible rfl)
    refine hT (i := 46) (v := ?vY57q946) (take_list rfl) (by as_aux_lemma => kernel_rfl) (fun _ _ _ h => h) rfl ?yY57q946 (by assumption) ?rY57q946
    case yY57q946 => (intro w h; go_simp <;> with_reducible rfl)
    refine hT (i := 47) (v := ?vY57q947) (take_list rfl) (by as_aux_lemma => kernel_rfl) (fun _ _ _ h => h) rfl ?yY57q947 (by assumption) ?rY57q947
    case yY57q947 => (intro w h; go_simp <;> with_reducible rfl)
    try simp only [Act.put, List.setIfInBounds_toArray, List.set_cons_zero, List.set_cons_succ]
    refine hT (i := 48) (v := ?vY57q948) (take_list rfl) (by as_aux_lemma => kernel_rfl) (fun _ _ _ h => h) rfl ?yY57q948 (by assumption) ?rY57q948
    case yY57q948 => (intro w h; go_simp <;> with_reducible rfl)
    refine hT (i := 49) (v := ?vY57q949) (take_list rfl) (by as_aux_lemma => kernel_rfl) (fun _ _ _ h => h) rfl ?yY57q949 (by assumption) ?rY57q949
    case yY57q949 => (intro w h; go_simp <;> with_reducible rfl)
    refine hT (i := 50) (v := ?vY57q950) (take_list rfl) (by as_aux_lemma => kernel_rfl) (fun _ _ _ h => h) rfl ?yY57q950 (by assumption) ?rY57q950
    case yY57q950 => (intro w h; go_simp <;> with_reducible rfl)
    try simp only [Act.put, List.setIfInBounds_toArray, List.set_cons_zero, List.set_cons_succ]
    refine hT (i := 51) (v := ?vY57q951) (take_list rfl) (by as_aux_lemma => kernel_rfl) (fun _ _ _ h => h) rfl ?yY57q951 (by assumption) ?rY57q951
    case yY57q951 => (intro w h; go_simp <;> with_reducible rfl)
    refine hT (i := 52) (v := ?vY57q952) (take_list rfl) (by as_aux_lemma => kernel_rfl) (fun _ _ _ h => h) rfl ?yY57q952 (by assumption) ?rY57q952
    case yY57q952 => (intro w h; go_simp <;> with_reducible rfl)
    refine hT (i := 53) (v := ?vY57q953) (take_list rfl) (by as_aux_lemma => kernel_rfl) (fun _ _ _ h => h) rfl ?yY57q953 (by assumption) ?rY57q953
    case yY57q953 => (intro w h; go_simp <;> with_reducible rfl)
    try simp only [Act.put, List.setIfInBounds_toArray, List.set_cons_zero, List.set_cons_succ]
    refine hT (i := 54) (v := ?vY57q954) (take_list rfl) (by as_aux_lemma => kernel_rfl) (fun _ _ _ h => h) rfl ?yY57q954 (by assumption) ?rY57q954
    case yY57q954 => (intro w h; go_simp <;> with_reducible rfl)
    refine hT (i := 55) (v := ?vY57q955) (take_list rfl) (by as_aux_lemma => kernel_rfl) (fun _ _ _ h => h) rfl ?yY57q955 (by assumption) ?rY57q955
    case yY57q955 => (intro w h; go_simp <;> with_reducible rfl)
    refine hU (i := 56) (take_list rfl) (by as_aux_lemma => kernel_rfl) (fun _ _ _ h => h) rfl (by assumption) ?_
    try simp only [Act.put, List.setIfInBounds_toArray, List.set_cons_zero, List.set_cons_succ]
    refine hU (i := 57) (take_list rfl) (by as_aux_lemma => kernel_rfl) (fun _ _ _ h => h) rfl (by assumption) ?_
    refine hU (i := 58) (take_list rfl) (by as_aux_lemma => kernel_rfl) (fun _ _ _ h => h) rfl (by assumption) ?_
    refine hU (i := 59) (take_list rfl) (by as_aux_lemma => kernel_rfl) (fun _ _ _ h => h) rfl (by assumption) ?_
    try simp only [Act.put, List.setIfInBounds_toArray, List.set_cons_zero, List.set_cons_succ]
    refine hU (i := 60) (take_list rfl) (by as_aux_lemma => kernel_rfl) (fun _ _ _ h => h) rfl (by assumption) ?_
    refine hT (i := 61) (v := ?vY57q961) (take_list rfl) (by as_aux_lemma => kernel_rfl) (fun _ _ _ h => h) rfl ?yY57q961 (by assumption) ?rY57q961
    case yY57q961 => (intro w h; go_simp <;> with_reducible rfl)
    refine hT (i := 62) (v := ?vY57q962) (take_list rfl) (by as_aux_lemma => kernel_rfl) (fun _ _ _ h => h) rfl ?yY57q962 (by assumption) ?rY57q962
    case yY57q962 => (intro w h; go_simp <;> with_reducible rfl)
    try simp only [Act.put, List.setIfInBounds_toArray, List.set_cons_zero, List.set_cons_succ]
    refine hU (i := 63) (take_list rfl) (by as_aux_lemma => kernel_rfl) (fun _ _ _ h => h) rfl (by assumption) ?_
    refine hU (i := 64) (take_list rfl) (by as_aux_lemma => kernel_rfl) (fun _ _ _ h => h) rfl (by assumption) ?_
    refine hU (i := 65) (take_list rfl) (by as_aux_lemma => kernel_rfl) (fun _ _ _ h => h) rfl (by assumption) ?_
    try simp only [Act.put, List.setIfInBounds_toArray, List.set_cons_zero, List.set_cons_succ]
    refine hU (i := 66) (take_list rfl) (by as_aux_lemma => kernel_rfl) (fun _ _ _ h => h) rfl (by assumption) ?_
    refine hU (i := 67) (take_list rfl) (by as_aux_lemma => kernel_rfl) (fun _ _ _ h => h) rfl (by assumption) ?_
    refine hT (i := 68) (v := ?vY57q968) (take_list rfl) (by as_aux_lemma => kernel_rfl) (fun _ _ _ h => h) rfl ?yY57q968 (by assumption) ?rY57q968
    case yY57q968 => (intro w h; go_simp <;> with_reducible rfl)
    try simp only [Act.put, List.setIfInBounds_toArray, List.set_cons_zero, List.set_cons_succ]
    refine hT (i := 69) (v := ?vY57q969) (take_list rfl) (by as_aux_lemma => kernel_rfl) (fun _ _ _ h => h) rfl ?yY57q969 (by assumption) ?rY57q969
    case yY57q969 => (intro w h; go_simp <;> with_reducible rfl)
    refine hU (i := 70) (take_list rfl) (by as_aux_lemma => kernel_rfl) (fun _ _ _ h => h) rfl (by assumption) ?_
    refine hU (i := 71) (take_list rfl) (by as_aux_lemma => kernel_rfl) (fun _ _ _ h => h) rfl (by assumption) ?_
    try simp only [Act.put, List.setIfInBounds_toArray, List.set_cons_zero, List.set_cons_succ]
    refine hU (i := 72) (take_list rfl) (by as_aux_lemma => kernel_rfl) (fun _ _ _ h => h) rfl (by assumption) ?_
    refine hU (i := 73) (take_list rfl) (by as_aux_lemma => kernel_rfl) (fun _ _ _ h => h) rfl (by assumption) ?_
    refine hU (i := 74) (take_list rfl) (by as_aux_lemma => kernel_rfl) (fun _ _ _ h => h) rfl (by assumption) ?_
    try simp only [Act.put, List.setIfInBounds_toArray, List.set_cons_zero, List.set_cons_succ]
    refine hT (i := 75) (v := ?vY57q975) (take_list rfl) (by as_aux_lemma => kernel_rfl) (fun _ _ _ h => h) rfl ?yY57q975 (by assumption) ?rY57q975
    case yY57q975 => (intro w h; go_simp <;> with_reducible rfl)
    refine wpAnyH_done (by kernel_rfl) ?_ _
    go_wp2_with fail
    go_roundw
    case rel => first | exact ⟨i + 1, rfl, hlt, by rw [any_take HPI.out, FI.out, V.out]; rfl, BM0.out.trans ((show Below wm.heap.size wm _ from by first | exact KB.out | exact below_drewed _ wm | exact below_of_drew KB.out).mono (by omega))⟩ | ((repeat apply Exists.intro); exact ⟨⟨i + 1, rfl, hlt, by rw [any_take HPI.out, FI.out, V.out]; rfl, BM0.out.trans ((show Below wm.heap.size wm _ from by first | exact KB.out | exact below_drewed _ wm | exact below_of_drew KB.out).mono (by omega))⟩, rfl⟩)
    case measure => (simp only [intOf]; omega)
  have qcY57 : (p.r.size == sz) = true := by simpa using cY57
  by_cases cY58 : p.r.sum = sm
  case neg =>
    have qcY58 : (p.r.sum == sm) = false := by simpa using cY58
    have pcY58 : (⟨(p.r.sum).toArray⟩ : ByteArray) ≠ ⟨(sm).toArray⟩ := fun h => cY58 (by have h2 := congrArg (fun b => b.data.toList) h; simpa using h2)
    have V := Lib.hid (show F p = false by rw [FP.out]; unfold matchB; simp only [decide_eq_true cY50, decide_eq_true cY51, decide_eq_true cY52, qcY53, decide_eq_true cY54, decide_eq_true cY55, decide_eq_true cY56, decide_eq_true cY57, decide_eq_false cY58, Bool.true_and, Bool.false_and])
    clear cY50 cY51 cY52 cY53 cY54 cY55 cY56 cY57 cY58
    refine wp_region_held_drew (S := (fun w' => w'.cell? ⟨gr, 0, none⟩ = some (.int .i64 p.r.kind) ∧ w'.cell? ⟨gr, 1, none⟩ = some (.int .i64 p.r.cart) ∧ w'.cell? ⟨gr, 2, none⟩ = some (strV p.r.key) ∧ w'.cell? ⟨gr, 3, none⟩ = some (.int .i64 p.r.gen) ∧ w'.cell? ⟨gr, 4, none⟩ = some (.int .i64 p.r.group) ∧ w'.cell? ⟨gr, 5, none⟩ = some (.int .i64 p.r.groups) ∧ w'.cell? ⟨gr, 6, none⟩ = some (.int .i64 p.r.index) ∧ w'.cell? ⟨gr, 7, none⟩ = some (.int .i64 p.r.size) ∧ w'.cell? ⟨gr, 8, none⟩ = some (strV p.r.sum) ∧ w'.cell? ⟨gr, 9, none⟩ = some (.slice p.A p.r.data.length p.c) ∧ w'.cell? ⟨gp, 0, none⟩ = some (.int .i64 p.cart) ∧ w'.cell? ⟨gp, 1, none⟩ = some (.int .i64 p.pos) ∧ w'.cell? ⟨w.heap.size, 0, none⟩ = some (strV k) ∧ w'.cell? ⟨w.heap.size, 1, none⟩ = some (.int .i64 gn) ∧ w'.cell? ⟨w.heap.size, 2, none⟩ = some (.int .i64 sz) ∧ w'.cell? ⟨w.heap.size, 3, none⟩ = some (strV sm) ∧ w'.cell? ⟨w.heap.size, 4, none⟩ = some (.slice (some ⟨g, 0, none⟩) q q) ∧ w'.cell? ⟨g, s * 2, none⟩ = some (.int .i64 x) ∧ w'.cell? ⟨g, s * 2 + 1, none⟩ = some (.int .i64 y))) (by kernel_rfl) ⟨r0, r1, r2, r3, r4, r5, r6, r7, r8, r9, g0, g1, t0, t1, t2, t3, t4, v0, v1⟩ (fun hHeld => ?_)
    refine hT (i := 0) (v := ?vY58q100) (take_list rfl) (by as_aux_lemma => kernel_rfl) (fun _ _ _ h => h) rfl ?yY58q100 (by assumption) ?rY58q100
    case yY58q100 => (intro w h; go_simp <;> with_reducible rfl)
    refine hT (i := 1) (v := ?vY58q101) (take_list rfl) (by as_aux_lemma => kernel_rfl) (fun _ _ _ h => h) rfl ?yY58q101 (by assumption) ?rY58q101
    case yY58q101 => (intro w h; go_simp <;> with_reducible rfl)
    refine hT (i := 2) (v := ?vY58q102) (take_list rfl) (by as_aux_lemma => kernel_rfl) (fun _ _ _ h => h) rfl ?yY58q102 (by assumption) ?rY58q102
    case yY58q102 => (intro w h; go_simp <;> with_reducible rfl)
    try simp only [Act.put, List.setIfInBounds_toArray, List.set_cons_zero, List.set_cons_succ]
    refine hT (i := 3) (v := ?vY58q103) (take_list rfl) (by as_aux_lemma => kernel_rfl) (fun _ _ _ h => h) rfl ?yY58q103 (by assumption) ?rY58q103
    case yY58q103 => (intro w h; go_simp <;> with_reducible rfl)
    refine hT (i := 4) (v := ?vY58q104) (take_list rfl) (by as_aux_lemma => kernel_rfl) (fun _ _ _ h => h) rfl ?yY58q104 (by assumption) ?rY58q104
    case yY58q104 => (intro w h; go_simp <;> with_reducible rfl)
    refine hT (i := 5) (v := ?vY58q105) (take_list rfl) (by as_aux_lemma => kernel_rfl) (fun _ _ _ h => h) rfl ?yY58q105 (by assumption) ?rY58q105
    case yY58q105 => (intro w h; go_simp <;> with_reducible rfl)
    try simp only [Act.put, List.setIfInBounds_toArray, List.set_cons_zero, List.set_cons_succ]
    refine hT (i := 6) (v := ?vY58q106) (take_list rfl) (by as_aux_lemma => kernel_rfl) (fun _ _ _ h => h) rfl ?yY58q106 (by assumption) ?rY58q106
    case yY58q106 => (intro w h; go_simp <;> with_reducible rfl)
    refine hT (i := 7) (v := ?vY58q107) (take_list rfl) (by as_aux_lemma => kernel_rfl) (fun _ _ _ h => h) rfl ?yY58q107 (by assumption) ?rY58q107
    case yY58q107 => (intro w h; go_simp <;> with_reducible rfl)
    refine hT (i := 8) (v := ?vY58q108) (take_list rfl) (by as_aux_lemma => kernel_rfl) (fun _ _ _ h => h) rfl ?yY58q108 (by assumption) ?rY58q108
    case yY58q108 => (intro w h; go_simp <;> with_reducible rfl)
    try simp only [Act.put, List.setIfInBounds_toArray, List.set_cons_zero, List.set_cons_succ]
    refine hT (i := 9) (v := ?vY58q109) (take_list rfl) (by as_aux_lemma => kernel_rfl) (fun _ _ _ h => h) rfl ?yY58q109 (by assumption) ?rY58q109
    case yY58q109 => (intro w h; go_simp <;> with_reducible rfl)
    refine hT (i := 10) (v := ?vY58q1010) (take_list rfl) (by as_aux_lemma => kernel_rfl) (fun _ _ _ h => h) rfl ?yY58q1010 (by assumption) ?rY58q1010
    case yY58q1010 => (intro w h; go_simp <;> with_reducible rfl)
    refine hT (i := 11) (v := ?vY58q1011) (take_list rfl) (by as_aux_lemma => kernel_rfl) (fun _ _ _ h => h) rfl ?yY58q1011 (by assumption) ?rY58q1011
    case yY58q1011 => (intro w h; go_simp <;> with_reducible rfl)
    try simp only [Act.put, List.setIfInBounds_toArray, List.set_cons_zero, List.set_cons_succ]
    refine hT (i := 12) (v := ?vY58q1012) (take_list rfl) (by as_aux_lemma => kernel_rfl) (fun _ _ _ h => h) rfl ?yY58q1012 (by assumption) ?rY58q1012
    case yY58q1012 => (intro w h; go_simp <;> with_reducible rfl)
    refine hT (i := 13) (v := ?vY58q1013) (take_list rfl) (by as_aux_lemma => kernel_rfl) (fun _ _ _ h => h) rfl ?yY58q1013 (by assumption) ?rY58q1013
    case yY58q1013 => (intro w h; go_simp <;> with_reducible rfl)
    refine hT (i := 14) (v := ?vY58q1014) (take_list rfl) (by as_aux_lemma => kernel_rfl) (fun _ _ _ h => h) rfl ?yY58q1014 (by assumption) ?rY58q1014
    case yY58q1014 => (intro w h; go_simp <;> with_reducible rfl)
    try simp only [Act.put, List.setIfInBounds_toArray, List.set_cons_zero, List.set_cons_succ]
    refine hT (i := 15) (v := ?vY58q1015) (take_list rfl) (by as_aux_lemma => kernel_rfl) (fun _ _ _ h => h) rfl ?yY58q1015 (by assumption) ?rY58q1015
    case yY58q1015 => (intro w h; go_simp <;> with_reducible rfl)
    refine hT (i := 16) (v := ?vY58q1016) (take_list rfl) (by as_aux_lemma => kernel_rfl) (fun _ _ _ h => h) rfl ?yY58q1016 (by assumption) ?rY58q1016
    case yY58q1016 => (intro w h; go_simp <;> with_reducible rfl)
    refine hT (i := 17) (v := ?vY58q1017) (take_list rfl) (by as_aux_lemma => kernel_rfl) (fun _ _ _ h => h) rfl ?yY58q1017 (by assumption) ?rY58q1017
    case yY58q1017 => (intro w h; go_simp <;> with_reducible rfl)
    try simp only [Act.put, List.setIfInBounds_toArray, List.set_cons_zero, List.set_cons_succ]
    refine hT (i := 18) (v := ?vY58q1018) (take_list rfl) (by as_aux_lemma => kernel_rfl) (fun _ _ _ h => h) rfl ?yY58q1018 (by assumption) ?rY58q1018
    case yY58q1018 => (intro w h; go_simp <;> with_reducible rfl)
    refine hT (i := 19) (v := ?vY58q1019) (take_list rfl) (by as_aux_lemma => kernel_rfl) (fun _ _ _ h => h) rfl ?yY58q1019 (by assumption) ?rY58q1019
    case yY58q1019 => (intro w h; go_simp <;> with_reducible rfl)
    refine hT (i := 20) (v := ?vY58q1020) (take_list rfl) (by as_aux_lemma => kernel_rfl) (fun _ _ _ h => h) rfl ?yY58q1020 (by assumption) ?rY58q1020
    case yY58q1020 => (intro w h; go_simp <;> with_reducible rfl)
    try simp only [Act.put, List.setIfInBounds_toArray, List.set_cons_zero, List.set_cons_succ]
    refine hT (i := 21) (v := ?vY58q1021) (take_list rfl) (by as_aux_lemma => kernel_rfl) (fun _ _ _ h => h) rfl ?yY58q1021 (by assumption) ?rY58q1021
    case yY58q1021 => (intro w h; go_simp <;> with_reducible rfl)
    refine hT (i := 22) (v := ?vY58q1022) (take_list rfl) (by as_aux_lemma => kernel_rfl) (fun _ _ _ h => h) rfl ?yY58q1022 (by assumption) ?rY58q1022
    case yY58q1022 => (intro w h; go_simp <;> with_reducible rfl)
    refine hT (i := 23) (v := ?vY58q1023) (take_list rfl) (by as_aux_lemma => kernel_rfl) (fun _ _ _ h => h) rfl ?yY58q1023 (by assumption) ?rY58q1023
    case yY58q1023 => (intro w h; go_simp <;> with_reducible rfl)
    try simp only [Act.put, List.setIfInBounds_toArray, List.set_cons_zero, List.set_cons_succ]
    refine hT (i := 24) (v := ?vY58q1024) (take_list rfl) (by as_aux_lemma => kernel_rfl) (fun _ _ _ h => h) rfl ?yY58q1024 (by assumption) ?rY58q1024
    case yY58q1024 => (intro w h; go_simp <;> with_reducible rfl)
    refine hT (i := 25) (v := ?vY58q1025) (take_list rfl) (by as_aux_lemma => kernel_rfl) (fun _ _ _ h => h) rfl ?yY58q1025 (by assumption) ?rY58q1025
    case yY58q1025 => (intro w h; go_simp <;> with_reducible rfl)
    refine hT (i := 26) (v := ?vY58q1026) (take_list rfl) (by as_aux_lemma => kernel_rfl) (fun _ _ _ h => h) rfl ?yY58q1026 (by assumption) ?rY58q1026
    case yY58q1026 => (intro w h; go_simp <;> with_reducible rfl)
    try simp only [Act.put, List.setIfInBounds_toArray, List.set_cons_zero, List.set_cons_succ]
    refine wpAnyH_ready (rs := [27]) (by kernel_rfl) (by simp) ?_
    refine AllReadyH.cons rfl (fun K hK => ?_) AllReadyH.nil
    go_simp
    go_wp2_with (go_at_call 14; refine (sGood p.r p.A p.c _).mono ?_; rintro e wg ⟨rfl, hb⟩; rw [qcY53]; have KB := Lib.hid (show Below wm.heap.size wm wg from (by first | exact hb | exact below_of_drew hb)); clear hb)
    clear hHeld
    refine hK.out _ _ ⟨keepc KB.out hgrz r0, keepc KB.out hgrz r1, keepc KB.out hgrz r2, keepc KB.out hgrz r3, keepc KB.out hgrz r4, keepc KB.out hgrz r5, keepc KB.out hgrz r6, keepc KB.out hgrz r7, keepc KB.out hgrz r8, keepc KB.out hgrz r9, keepc KB.out hgpz g0, keepc KB.out hgpz g1, keepc KB.out hzt t0, keepc KB.out hzt t1, keepc KB.out hzt t2, keepc KB.out hzt t3, keepc KB.out hzt t4, keepc KB.out hgz v0, keepc KB.out hgz v1⟩ (fun hHeld => ?_)
    clear hK K
    refine hT (i := 28) (v := ?vY58q1028) (take_list rfl) (by as_aux_lemma => kernel_rfl) (fun _ _ _ h => h) rfl ?yY58q1028 (by assumption) ?rY58q1028
    case yY58q1028 => (intro w h; go_simp <;> with_reducible rfl)
    refine hT (i := 29) (v := ?vY58q1029) (take_list rfl) (by as_aux_lemma => kernel_rfl) (fun _ _ _ h => h) rfl ?yY58q1029 (by assumption) ?rY58q1029
    case yY58q1029 => (intro w h; go_simp <;> with_reducible rfl)
    try simp only [Act.put, List.setIfInBounds_toArray, List.set_cons_zero, List.set_cons_succ]
    refine hT (i := 30) (v := ?vY58q1030) (take_list rfl) (by as_aux_lemma => kernel_rfl) (fun _ _ _ h => h) rfl ?yY58q1030 (by assumption) ?rY58q1030
    case yY58q1030 => (intro w h; go_simp <;> with_reducible rfl)
    refine hT (i := 31) (v := ?vY58q1031) (take_list rfl) (by as_aux_lemma => kernel_rfl) (fun _ _ _ h => h) rfl ?yY58q1031 (by assumption) ?rY58q1031
    case yY58q1031 => (intro w h; go_simp <;> with_reducible rfl)
    refine hT (i := 32) (v := ?vY58q1032) (take_list rfl) (by as_aux_lemma => kernel_rfl) (fun _ _ _ h => h) rfl ?yY58q1032 (by assumption) ?rY58q1032
    case yY58q1032 => (intro w h; go_simp <;> with_reducible rfl)
    try simp only [Act.put, List.setIfInBounds_toArray, List.set_cons_zero, List.set_cons_succ]
    refine hT (i := 33) (v := ?vY58q1033) (take_list rfl) (by as_aux_lemma => kernel_rfl) (fun _ _ _ h => h) rfl ?yY58q1033 (by assumption) ?rY58q1033
    case yY58q1033 => (intro w h; go_simp <;> with_reducible rfl)
    refine hT (i := 34) (v := ?vY58q1034) (take_list rfl) (by as_aux_lemma => kernel_rfl) (fun _ _ _ h => h) rfl ?yY58q1034 (by assumption) ?rY58q1034
    case yY58q1034 => (intro w h; go_simp <;> with_reducible rfl)
    refine hT (i := 35) (v := ?vY58q1035) (take_list rfl) (by as_aux_lemma => kernel_rfl) (fun _ _ _ h => h) rfl ?yY58q1035 (by assumption) ?rY58q1035
    case yY58q1035 => (intro w h; go_simp <;> with_reducible rfl)
    try simp only [Act.put, List.setIfInBounds_toArray, List.set_cons_zero, List.set_cons_succ]
    refine hT (i := 36) (v := ?vY58q1036) (take_list rfl) (by as_aux_lemma => kernel_rfl) (fun _ _ _ h => h) rfl ?yY58q1036 (by assumption) ?rY58q1036
    case yY58q1036 => (intro w h; go_simp <;> with_reducible rfl)
    refine hT (i := 37) (v := ?vY58q1037) (take_list rfl) (by as_aux_lemma => kernel_rfl) (fun _ _ _ h => h) rfl ?yY58q1037 (by assumption) ?rY58q1037
    case yY58q1037 => (intro w h; go_simp <;> with_reducible rfl)
    refine hT (i := 38) (v := ?vY58q1038) (take_list rfl) (by as_aux_lemma => kernel_rfl) (fun _ _ _ h => h) rfl ?yY58q1038 (by assumption) ?rY58q1038
    case yY58q1038 => (intro w h; go_simp <;> with_reducible rfl)
    try simp only [Act.put, List.setIfInBounds_toArray, List.set_cons_zero, List.set_cons_succ]
    refine hT (i := 39) (v := ?vY58q1039) (take_list rfl) (by as_aux_lemma => kernel_rfl) (fun _ _ _ h => h) rfl ?yY58q1039 (by assumption) ?rY58q1039
    case yY58q1039 => (intro w h; go_simp <;> with_reducible rfl)
    refine hT (i := 40) (v := ?vY58q1040) (take_list rfl) (by as_aux_lemma => kernel_rfl) (fun _ _ _ h => h) rfl ?yY58q1040 (by assumption) ?rY58q1040
    case yY58q1040 => (intro w h; go_simp <;> with_reducible rfl)
    refine hT (i := 41) (v := ?vY58q1041) (take_list rfl) (by as_aux_lemma => kernel_rfl) (fun _ _ _ h => h) rfl ?yY58q1041 (by assumption) ?rY58q1041
    case yY58q1041 => (intro w h; go_simp <;> with_reducible rfl)
    try simp only [Act.put, List.setIfInBounds_toArray, List.set_cons_zero, List.set_cons_succ]
    refine hT (i := 42) (v := ?vY58q1042) (take_list rfl) (by as_aux_lemma => kernel_rfl) (fun _ _ _ h => h) rfl ?yY58q1042 (by assumption) ?rY58q1042
    case yY58q1042 => (intro w h; go_simp <;> with_reducible rfl)
    refine hT (i := 43) (v := ?vY58q1043) (take_list rfl) (by as_aux_lemma => kernel_rfl) (fun _ _ _ h => h) rfl ?yY58q1043 (by assumption) ?rY58q1043
    case yY58q1043 => (intro w h; go_simp <;> with_reducible rfl)
    refine hT (i := 44) (v := ?vY58q1044) (take_list rfl) (by as_aux_lemma => kernel_rfl) (fun _ _ _ h => h) rfl ?yY58q1044 (by assumption) ?rY58q1044
    case yY58q1044 => (intro w h; go_simp <;> with_reducible rfl)
    try simp only [Act.put, List.setIfInBounds_toArray, List.set_cons_zero, List.set_cons_succ]
    refine hT (i := 45) (v := ?vY58q1045) (take_list rfl) (by as_aux_lemma => kernel_rfl) (fun _ _ _ h => h) rfl ?yY58q1045 (by assumption) ?rY58q1045
    case yY58q1045 => (intro w h; go_simp <;> with_reducible rfl)
    refine hT (i := 46) (v := ?vY58q1046) (take_list rfl) (by as_aux_lemma => kernel_rfl) (fun _ _ _ h => h) rfl ?yY58q1046 (by assumption) ?rY58q1046
    case yY58q1046 => (intro w h; go_simp <;> with_reducible rfl)
    refine hT (i := 47) (v := ?vY58q1047) (take_list rfl) (by as_aux_lemma => kernel_rfl) (fun _ _ _ h => h) rfl ?yY58q1047 (by assumption) ?rY58q1047
    case yY58q1047 => (intro w h; go_simp <;> with_reducible rfl)
    try simp only [Act.put, List.setIfInBounds_toArray, List.set_cons_zero, List.set_cons_succ]
    refine hT (i := 48) (v := ?vY58q1048) (take_list rfl) (by as_aux_lemma => kernel_rfl) (fun _ _ _ h => h) rfl ?yY58q1048 (by assumption) ?rY58q1048
    case yY58q1048 => (intro w h; go_simp <;> with_reducible rfl)
    refine hT (i := 49) (v := ?vY58q1049) (take_list rfl) (by as_aux_lemma => kernel_rfl) (fun _ _ _ h => h) rfl ?yY58q1049 (by assumption) ?rY58q1049
    case yY58q1049 => (intro w h; go_simp <;> with_reducible rfl)
    refine hT (i := 50) (v := ?vY58q1050) (take_list rfl) (by as_aux_lemma => kernel_rfl) (fun _ _ _ h => h) rfl ?yY58q1050 (by assumption) ?rY58q1050
    case yY58q1050 => (intro w h; go_simp <;> with_reducible rfl)
    try simp only [Act.put, List.setIfInBounds_toArray, List.set_cons_zero, List.set_cons_succ]
    refine hT (i := 51) (v := ?vY58q1051) (take_list rfl) (by as_aux_lemma => kernel_rfl) (fun _ _ _ h => h) rfl ?yY58q1051 (by assumption) ?rY58q1051
    case yY58q1051 => (intro w h; go_simp <;> with_reducible rfl)
    refine hT (i := 52) (v := ?vY58q1052) (take_list rfl) (by as_aux_lemma => kernel_rfl) (fun _ _ _ h => h) rfl ?yY58q1052 (by assumption) ?rY58q1052
    case yY58q1052 => (intro w h; go_simp <;> with_reducible rfl)
    refine hT (i := 53) (v := ?vY58q1053) (take_list rfl) (by as_aux_lemma => kernel_rfl) (fun _ _ _ h => h) rfl ?yY58q1053 (by assumption) ?rY58q1053
    case yY58q1053 => (intro w h; go_simp <;> with_reducible rfl)
    try simp only [Act.put, List.setIfInBounds_toArray, List.set_cons_zero, List.set_cons_succ]
    refine hT (i := 54) (v := ?vY58q1054) (take_list rfl) (by as_aux_lemma => kernel_rfl) (fun _ _ _ h => h) rfl ?yY58q1054 (by assumption) ?rY58q1054
    case yY58q1054 => (intro w h; go_simp <;> with_reducible rfl)
    refine hT (i := 55) (v := ?vY58q1055) (take_list rfl) (by as_aux_lemma => kernel_rfl) (fun _ _ _ h => h) rfl ?yY58q1055 (by assumption) ?rY58q1055
    case yY58q1055 => (intro w h; go_simp <;> with_reducible rfl)
    refine hT (i := 56) (v := ?vY58q1056) (take_list rfl) (by as_aux_lemma => kernel_rfl) (fun _ _ _ h => h) rfl ?yY58q1056 (by assumption) ?rY58q1056
    case yY58q1056 => (intro w h; go_simp <;> with_reducible rfl)
    try simp only [Act.put, List.setIfInBounds_toArray, List.set_cons_zero, List.set_cons_succ]
    refine hT (i := 57) (v := ?vY58q1057) (take_list rfl) (by as_aux_lemma => kernel_rfl) (fun _ _ _ h => h) rfl ?yY58q1057 (by assumption) ?rY58q1057
    case yY58q1057 => (intro w h; go_simp <;> with_reducible rfl)
    refine hT (i := 58) (v := ?vY58q1058) (take_list rfl) (by as_aux_lemma => kernel_rfl) (fun _ _ _ h => h) rfl ?yY58q1058 (by assumption) ?rY58q1058
    case yY58q1058 => (intro w h; go_simp <;> with_reducible rfl)
    refine hT (i := 59) (v := ?vY58q1059) (take_list rfl) (by as_aux_lemma => kernel_rfl) (fun _ _ _ h => h) rfl ?yY58q1059 (by assumption) ?rY58q1059
    case yY58q1059 => (intro w h; go_simp <;> with_reducible rfl)
    try simp only [Act.put, List.setIfInBounds_toArray, List.set_cons_zero, List.set_cons_succ]
    refine hT (i := 60) (v := ?vY58q1060) (take_list rfl) (by as_aux_lemma => kernel_rfl) (fun _ _ _ h => h) rfl ?yY58q1060 (by assumption) ?rY58q1060
    case yY58q1060 => (intro w h; go_simp <;> with_reducible rfl)
    refine hT (i := 61) (v := ?vY58q1061) (take_list rfl) (by as_aux_lemma => kernel_rfl) (fun _ _ _ h => h) rfl ?yY58q1061 (by assumption) ?rY58q1061
    case yY58q1061 => (intro w h; go_simp <;> with_reducible rfl)
    refine hT (i := 62) (v := ?vY58q1062) (take_list rfl) (by as_aux_lemma => kernel_rfl) (fun _ _ _ h => h) rfl ?yY58q1062 (by assumption) ?rY58q1062
    case yY58q1062 => (intro w h; go_simp <;> with_reducible rfl)
    try simp only [Act.put, List.setIfInBounds_toArray, List.set_cons_zero, List.set_cons_succ]
    refine hU (i := 63) (take_list rfl) (by as_aux_lemma => kernel_rfl) (fun _ _ _ h => h) rfl (by assumption) ?_
    refine hU (i := 64) (take_list rfl) (by as_aux_lemma => kernel_rfl) (fun _ _ _ h => h) rfl (by assumption) ?_
    refine hU (i := 65) (take_list rfl) (by as_aux_lemma => kernel_rfl) (fun _ _ _ h => h) rfl (by assumption) ?_
    try simp only [Act.put, List.setIfInBounds_toArray, List.set_cons_zero, List.set_cons_succ]
    refine hU (i := 66) (take_list rfl) (by as_aux_lemma => kernel_rfl) (fun _ _ _ h => h) rfl (by assumption) ?_
    refine hU (i := 67) (take_list rfl) (by as_aux_lemma => kernel_rfl) (fun _ _ _ h => h) rfl (by assumption) ?_
    refine hT (i := 68) (v := ?vY58q1068) (take_list rfl) (by as_aux_lemma => kernel_rfl) (fun _ _ _ h => h) rfl ?yY58q1068 (by assumption) ?rY58q1068
    case yY58q1068 => (intro w h; go_simp <;> with_reducible rfl)
    try simp only [Act.put, List.setIfInBounds_toArray, List.set_cons_zero, List.set_cons_succ]
    refine hT (i := 69) (v := ?vY58q1069) (take_list rfl) (by as_aux_lemma => kernel_rfl) (fun _ _ _ h => h) rfl ?yY58q1069 (by assumption) ?rY58q1069
    case yY58q1069 => (intro w h; go_simp <;> with_reducible rfl)
    refine hU (i := 70) (take_list rfl) (by as_aux_lemma => kernel_rfl) (fun _ _ _ h => h) rfl (by assumption) ?_
    refine hU (i := 71) (take_list rfl) (by as_aux_lemma => kernel_rfl) (fun _ _ _ h => h) rfl (by assumption) ?_
    try simp only [Act.put, List.setIfInBounds_toArray, List.set_cons_zero, List.set_cons_succ]
    refine hU (i := 72) (take_list rfl) (by as_aux_lemma => kernel_rfl) (fun _ _ _ h => h) rfl (by assumption) ?_
    refine hU (i := 73) (take_list rfl) (by as_aux_lemma => kernel_rfl) (fun _ _ _ h => h) rfl (by assumption) ?_
    refine hU (i := 74) (take_list rfl) (by as_aux_lemma => kernel_rfl) (fun _ _ _ h => h) rfl (by assumption) ?_
    try simp only [Act.put, List.setIfInBounds_toArray, List.set_cons_zero, List.set_cons_succ]
    refine hT (i := 75) (v := ?vY58q1075) (take_list rfl) (by as_aux_lemma => kernel_rfl) (fun _ _ _ h => h) rfl ?yY58q1075 (by assumption) ?rY58q1075
    case yY58q1075 => (intro w h; go_simp <;> with_reducible rfl)
    refine wpAnyH_done (by kernel_rfl) ?_ _
    go_wp2_with fail
    go_roundw
    case rel => first | exact ⟨i + 1, rfl, hlt, by rw [any_take HPI.out, FI.out, V.out]; rfl, BM0.out.trans ((show Below wm.heap.size wm _ from by first | exact KB.out | exact below_drewed _ wm | exact below_of_drew KB.out).mono (by omega))⟩ | ((repeat apply Exists.intro); exact ⟨⟨i + 1, rfl, hlt, by rw [any_take HPI.out, FI.out, V.out]; rfl, BM0.out.trans ((show Below wm.heap.size wm _ from by first | exact KB.out | exact below_drewed _ wm | exact below_of_drew KB.out).mono (by omega))⟩, rfl⟩)
    case measure => (simp only [intOf]; omega)
  have qcY58 : (p.r.sum == sm) = true := by simpa using cY58
  by_cases cY59 : p.r.group = (j : Int)
  case neg =>
    have qcY59 : (p.r.group == (j : Int)) = false := by simpa using cY59
    have V := Lib.hid (show F p = false by rw [FP.out]; unfold matchB; simp only [decide_eq_true cY50, decide_eq_true cY51, decide_eq_true cY52, qcY53, decide_eq_true cY54, decide_eq_true cY55, decide_eq_true cY56, decide_eq_true cY57, decide_eq_true cY58, decide_eq_false cY59, Bool.true_and, Bool.false_and])
    clear cY50 cY51 cY52 cY53 cY54 cY55 cY56 cY57 cY58 cY59
    refine wp_region_held_drew (S := (fun w' => w'.cell? ⟨gr, 0, none⟩ = some (.int .i64 p.r.kind) ∧ w'.cell? ⟨gr, 1, none⟩ = some (.int .i64 p.r.cart) ∧ w'.cell? ⟨gr, 2, none⟩ = some (strV p.r.key) ∧ w'.cell? ⟨gr, 3, none⟩ = some (.int .i64 p.r.gen) ∧ w'.cell? ⟨gr, 4, none⟩ = some (.int .i64 p.r.group) ∧ w'.cell? ⟨gr, 5, none⟩ = some (.int .i64 p.r.groups) ∧ w'.cell? ⟨gr, 6, none⟩ = some (.int .i64 p.r.index) ∧ w'.cell? ⟨gr, 7, none⟩ = some (.int .i64 p.r.size) ∧ w'.cell? ⟨gr, 8, none⟩ = some (strV p.r.sum) ∧ w'.cell? ⟨gr, 9, none⟩ = some (.slice p.A p.r.data.length p.c) ∧ w'.cell? ⟨gp, 0, none⟩ = some (.int .i64 p.cart) ∧ w'.cell? ⟨gp, 1, none⟩ = some (.int .i64 p.pos) ∧ w'.cell? ⟨w.heap.size, 0, none⟩ = some (strV k) ∧ w'.cell? ⟨w.heap.size, 1, none⟩ = some (.int .i64 gn) ∧ w'.cell? ⟨w.heap.size, 2, none⟩ = some (.int .i64 sz) ∧ w'.cell? ⟨w.heap.size, 3, none⟩ = some (strV sm) ∧ w'.cell? ⟨w.heap.size, 4, none⟩ = some (.slice (some ⟨g, 0, none⟩) q q) ∧ w'.cell? ⟨g, s * 2, none⟩ = some (.int .i64 x) ∧ w'.cell? ⟨g, s * 2 + 1, none⟩ = some (.int .i64 y))) (by kernel_rfl) ⟨r0, r1, r2, r3, r4, r5, r6, r7, r8, r9, g0, g1, t0, t1, t2, t3, t4, v0, v1⟩ (fun hHeld => ?_)
    refine hT (i := 0) (v := ?vY59q110) (take_list rfl) (by as_aux_lemma => kernel_rfl) (fun _ _ _ h => h) rfl ?yY59q110 (by assumption) ?rY59q110
    case yY59q110 => (intro w h; go_simp <;> with_reducible rfl)
    refine hT (i := 1) (v := ?vY59q111) (take_list rfl) (by as_aux_lemma => kernel_rfl) (fun _ _ _ h => h) rfl ?yY59q111 (by assumption) ?rY59q111
    case yY59q111 => (intro w h; go_simp <;> with_reducible rfl)
    refine hT (i := 2) (v := ?vY59q112) (take_list rfl) (by as_aux_lemma => kernel_rfl) (fun _ _ _ h => h) rfl ?yY59q112 (by assumption) ?rY59q112
    case yY59q112 => (intro w h; go_simp <;> with_reducible rfl)
    try simp only [Act.put, List.setIfInBounds_toArray, List.set_cons_zero, List.set_cons_succ]
    refine hT (i := 3) (v := ?vY59q113) (take_list rfl) (by as_aux_lemma => kernel_rfl) (fun _ _ _ h => h) rfl ?yY59q113 (by assumption) ?rY59q113
    case yY59q113 => (intro w h; go_simp <;> with_reducible rfl)
    refine hT (i := 4) (v := ?vY59q114) (take_list rfl) (by as_aux_lemma => kernel_rfl) (fun _ _ _ h => h) rfl ?yY59q114 (by assumption) ?rY59q114
    case yY59q114 => (intro w h; go_simp <;> with_reducible rfl)
    refine hT (i := 5) (v := ?vY59q115) (take_list rfl) (by as_aux_lemma => kernel_rfl) (fun _ _ _ h => h) rfl ?yY59q115 (by assumption) ?rY59q115
    case yY59q115 => (intro w h; go_simp <;> with_reducible rfl)
    try simp only [Act.put, List.setIfInBounds_toArray, List.set_cons_zero, List.set_cons_succ]
    refine hT (i := 6) (v := ?vY59q116) (take_list rfl) (by as_aux_lemma => kernel_rfl) (fun _ _ _ h => h) rfl ?yY59q116 (by assumption) ?rY59q116
    case yY59q116 => (intro w h; go_simp <;> with_reducible rfl)
    refine hT (i := 7) (v := ?vY59q117) (take_list rfl) (by as_aux_lemma => kernel_rfl) (fun _ _ _ h => h) rfl ?yY59q117 (by assumption) ?rY59q117
    case yY59q117 => (intro w h; go_simp <;> with_reducible rfl)
    refine hT (i := 8) (v := ?vY59q118) (take_list rfl) (by as_aux_lemma => kernel_rfl) (fun _ _ _ h => h) rfl ?yY59q118 (by assumption) ?rY59q118
    case yY59q118 => (intro w h; go_simp <;> with_reducible rfl)
    try simp only [Act.put, List.setIfInBounds_toArray, List.set_cons_zero, List.set_cons_succ]
    refine hT (i := 9) (v := ?vY59q119) (take_list rfl) (by as_aux_lemma => kernel_rfl) (fun _ _ _ h => h) rfl ?yY59q119 (by assumption) ?rY59q119
    case yY59q119 => (intro w h; go_simp <;> with_reducible rfl)
    refine hT (i := 10) (v := ?vY59q1110) (take_list rfl) (by as_aux_lemma => kernel_rfl) (fun _ _ _ h => h) rfl ?yY59q1110 (by assumption) ?rY59q1110
    case yY59q1110 => (intro w h; go_simp <;> with_reducible rfl)
    refine hT (i := 11) (v := ?vY59q1111) (take_list rfl) (by as_aux_lemma => kernel_rfl) (fun _ _ _ h => h) rfl ?yY59q1111 (by assumption) ?rY59q1111
    case yY59q1111 => (intro w h; go_simp <;> with_reducible rfl)
    try simp only [Act.put, List.setIfInBounds_toArray, List.set_cons_zero, List.set_cons_succ]
    refine hT (i := 12) (v := ?vY59q1112) (take_list rfl) (by as_aux_lemma => kernel_rfl) (fun _ _ _ h => h) rfl ?yY59q1112 (by assumption) ?rY59q1112
    case yY59q1112 => (intro w h; go_simp <;> with_reducible rfl)
    refine hT (i := 13) (v := ?vY59q1113) (take_list rfl) (by as_aux_lemma => kernel_rfl) (fun _ _ _ h => h) rfl ?yY59q1113 (by assumption) ?rY59q1113
    case yY59q1113 => (intro w h; go_simp <;> with_reducible rfl)
    refine hT (i := 14) (v := ?vY59q1114) (take_list rfl) (by as_aux_lemma => kernel_rfl) (fun _ _ _ h => h) rfl ?yY59q1114 (by assumption) ?rY59q1114
    case yY59q1114 => (intro w h; go_simp <;> with_reducible rfl)
    try simp only [Act.put, List.setIfInBounds_toArray, List.set_cons_zero, List.set_cons_succ]
    refine hT (i := 15) (v := ?vY59q1115) (take_list rfl) (by as_aux_lemma => kernel_rfl) (fun _ _ _ h => h) rfl ?yY59q1115 (by assumption) ?rY59q1115
    case yY59q1115 => (intro w h; go_simp <;> with_reducible rfl)
    refine hT (i := 16) (v := ?vY59q1116) (take_list rfl) (by as_aux_lemma => kernel_rfl) (fun _ _ _ h => h) rfl ?yY59q1116 (by assumption) ?rY59q1116
    case yY59q1116 => (intro w h; go_simp <;> with_reducible rfl)
    refine hT (i := 17) (v := ?vY59q1117) (take_list rfl) (by as_aux_lemma => kernel_rfl) (fun _ _ _ h => h) rfl ?yY59q1117 (by assumption) ?rY59q1117
    case yY59q1117 => (intro w h; go_simp <;> with_reducible rfl)
    try simp only [Act.put, List.setIfInBounds_toArray, List.set_cons_zero, List.set_cons_succ]
    refine hT (i := 18) (v := ?vY59q1118) (take_list rfl) (by as_aux_lemma => kernel_rfl) (fun _ _ _ h => h) rfl ?yY59q1118 (by assumption) ?rY59q1118
    case yY59q1118 => (intro w h; go_simp <;> with_reducible rfl)
    refine hT (i := 19) (v := ?vY59q1119) (take_list rfl) (by as_aux_lemma => kernel_rfl) (fun _ _ _ h => h) rfl ?yY59q1119 (by assumption) ?rY59q1119
    case yY59q1119 => (intro w h; go_simp <;> with_reducible rfl)
    refine hT (i := 20) (v := ?vY59q1120) (take_list rfl) (by as_aux_lemma => kernel_rfl) (fun _ _ _ h => h) rfl ?yY59q1120 (by assumption) ?rY59q1120
    case yY59q1120 => (intro w h; go_simp <;> with_reducible rfl)
    try simp only [Act.put, List.setIfInBounds_toArray, List.set_cons_zero, List.set_cons_succ]
    refine hT (i := 21) (v := ?vY59q1121) (take_list rfl) (by as_aux_lemma => kernel_rfl) (fun _ _ _ h => h) rfl ?yY59q1121 (by assumption) ?rY59q1121
    case yY59q1121 => (intro w h; go_simp <;> with_reducible rfl)
    refine hT (i := 22) (v := ?vY59q1122) (take_list rfl) (by as_aux_lemma => kernel_rfl) (fun _ _ _ h => h) rfl ?yY59q1122 (by assumption) ?rY59q1122
    case yY59q1122 => (intro w h; go_simp <;> with_reducible rfl)
    refine hT (i := 23) (v := ?vY59q1123) (take_list rfl) (by as_aux_lemma => kernel_rfl) (fun _ _ _ h => h) rfl ?yY59q1123 (by assumption) ?rY59q1123
    case yY59q1123 => (intro w h; go_simp <;> with_reducible rfl)
    try simp only [Act.put, List.setIfInBounds_toArray, List.set_cons_zero, List.set_cons_succ]
    refine hT (i := 24) (v := ?vY59q1124) (take_list rfl) (by as_aux_lemma => kernel_rfl) (fun _ _ _ h => h) rfl ?yY59q1124 (by assumption) ?rY59q1124
    case yY59q1124 => (intro w h; go_simp <;> with_reducible rfl)
    refine hT (i := 25) (v := ?vY59q1125) (take_list rfl) (by as_aux_lemma => kernel_rfl) (fun _ _ _ h => h) rfl ?yY59q1125 (by assumption) ?rY59q1125
    case yY59q1125 => (intro w h; go_simp <;> with_reducible rfl)
    refine hT (i := 26) (v := ?vY59q1126) (take_list rfl) (by as_aux_lemma => kernel_rfl) (fun _ _ _ h => h) rfl ?yY59q1126 (by assumption) ?rY59q1126
    case yY59q1126 => (intro w h; go_simp <;> with_reducible rfl)
    try simp only [Act.put, List.setIfInBounds_toArray, List.set_cons_zero, List.set_cons_succ]
    refine wpAnyH_ready (rs := [27]) (by kernel_rfl) (by simp) ?_
    refine AllReadyH.cons rfl (fun K hK => ?_) AllReadyH.nil
    go_simp
    go_wp2_with (go_at_call 14; refine (sGood p.r p.A p.c _).mono ?_; rintro e wg ⟨rfl, hb⟩; rw [qcY53]; have KB := Lib.hid (show Below wm.heap.size wm wg from (by first | exact hb | exact below_of_drew hb)); clear hb)
    clear hHeld
    refine hK.out _ _ ⟨keepc KB.out hgrz r0, keepc KB.out hgrz r1, keepc KB.out hgrz r2, keepc KB.out hgrz r3, keepc KB.out hgrz r4, keepc KB.out hgrz r5, keepc KB.out hgrz r6, keepc KB.out hgrz r7, keepc KB.out hgrz r8, keepc KB.out hgrz r9, keepc KB.out hgpz g0, keepc KB.out hgpz g1, keepc KB.out hzt t0, keepc KB.out hzt t1, keepc KB.out hzt t2, keepc KB.out hzt t3, keepc KB.out hzt t4, keepc KB.out hgz v0, keepc KB.out hgz v1⟩ (fun hHeld => ?_)
    clear hK K
    refine hT (i := 28) (v := ?vY59q1128) (take_list rfl) (by as_aux_lemma => kernel_rfl) (fun _ _ _ h => h) rfl ?yY59q1128 (by assumption) ?rY59q1128
    case yY59q1128 => (intro w h; go_simp <;> with_reducible rfl)
    refine hT (i := 29) (v := ?vY59q1129) (take_list rfl) (by as_aux_lemma => kernel_rfl) (fun _ _ _ h => h) rfl ?yY59q1129 (by assumption) ?rY59q1129
    case yY59q1129 => (intro w h; go_simp <;> with_reducible rfl)
    try simp only [Act.put, List.setIfInBounds_toArray, List.set_cons_zero, List.set_cons_succ]
    refine hT (i := 30) (v := ?vY59q1130) (take_list rfl) (by as_aux_lemma => kernel_rfl) (fun _ _ _ h => h) rfl ?yY59q1130 (by assumption) ?rY59q1130
    case yY59q1130 => (intro w h; go_simp <;> with_reducible rfl)
    refine hT (i := 31) (v := ?vY59q1131) (take_list rfl) (by as_aux_lemma => kernel_rfl) (fun _ _ _ h => h) rfl ?yY59q1131 (by assumption) ?rY59q1131
    case yY59q1131 => (intro w h; go_simp <;> with_reducible rfl)
    refine hT (i := 32) (v := ?vY59q1132) (take_list rfl) (by as_aux_lemma => kernel_rfl) (fun _ _ _ h => h) rfl ?yY59q1132 (by assumption) ?rY59q1132
    case yY59q1132 => (intro w h; go_simp <;> with_reducible rfl)
    try simp only [Act.put, List.setIfInBounds_toArray, List.set_cons_zero, List.set_cons_succ]
    refine hT (i := 33) (v := ?vY59q1133) (take_list rfl) (by as_aux_lemma => kernel_rfl) (fun _ _ _ h => h) rfl ?yY59q1133 (by assumption) ?rY59q1133
    case yY59q1133 => (intro w h; go_simp <;> with_reducible rfl)
    refine hT (i := 34) (v := ?vY59q1134) (take_list rfl) (by as_aux_lemma => kernel_rfl) (fun _ _ _ h => h) rfl ?yY59q1134 (by assumption) ?rY59q1134
    case yY59q1134 => (intro w h; go_simp <;> with_reducible rfl)
    refine hT (i := 35) (v := ?vY59q1135) (take_list rfl) (by as_aux_lemma => kernel_rfl) (fun _ _ _ h => h) rfl ?yY59q1135 (by assumption) ?rY59q1135
    case yY59q1135 => (intro w h; go_simp <;> with_reducible rfl)
    try simp only [Act.put, List.setIfInBounds_toArray, List.set_cons_zero, List.set_cons_succ]
    refine hT (i := 36) (v := ?vY59q1136) (take_list rfl) (by as_aux_lemma => kernel_rfl) (fun _ _ _ h => h) rfl ?yY59q1136 (by assumption) ?rY59q1136
    case yY59q1136 => (intro w h; go_simp <;> with_reducible rfl)
    refine hT (i := 37) (v := ?vY59q1137) (take_list rfl) (by as_aux_lemma => kernel_rfl) (fun _ _ _ h => h) rfl ?yY59q1137 (by assumption) ?rY59q1137
    case yY59q1137 => (intro w h; go_simp <;> with_reducible rfl)
    refine hT (i := 38) (v := ?vY59q1138) (take_list rfl) (by as_aux_lemma => kernel_rfl) (fun _ _ _ h => h) rfl ?yY59q1138 (by assumption) ?rY59q1138
    case yY59q1138 => (intro w h; go_simp <;> with_reducible rfl)
    try simp only [Act.put, List.setIfInBounds_toArray, List.set_cons_zero, List.set_cons_succ]
    refine hT (i := 39) (v := ?vY59q1139) (take_list rfl) (by as_aux_lemma => kernel_rfl) (fun _ _ _ h => h) rfl ?yY59q1139 (by assumption) ?rY59q1139
    case yY59q1139 => (intro w h; go_simp <;> with_reducible rfl)
    refine hT (i := 40) (v := ?vY59q1140) (take_list rfl) (by as_aux_lemma => kernel_rfl) (fun _ _ _ h => h) rfl ?yY59q1140 (by assumption) ?rY59q1140
    case yY59q1140 => (intro w h; go_simp <;> with_reducible rfl)
    refine hT (i := 41) (v := ?vY59q1141) (take_list rfl) (by as_aux_lemma => kernel_rfl) (fun _ _ _ h => h) rfl ?yY59q1141 (by assumption) ?rY59q1141
    case yY59q1141 => (intro w h; go_simp <;> with_reducible rfl)
    try simp only [Act.put, List.setIfInBounds_toArray, List.set_cons_zero, List.set_cons_succ]
    refine hT (i := 42) (v := ?vY59q1142) (take_list rfl) (by as_aux_lemma => kernel_rfl) (fun _ _ _ h => h) rfl ?yY59q1142 (by assumption) ?rY59q1142
    case yY59q1142 => (intro w h; go_simp <;> with_reducible rfl)
    refine hT (i := 43) (v := ?vY59q1143) (take_list rfl) (by as_aux_lemma => kernel_rfl) (fun _ _ _ h => h) rfl ?yY59q1143 (by assumption) ?rY59q1143
    case yY59q1143 => (intro w h; go_simp <;> with_reducible rfl)
    refine hT (i := 44) (v := ?vY59q1144) (take_list rfl) (by as_aux_lemma => kernel_rfl) (fun _ _ _ h => h) rfl ?yY59q1144 (by assumption) ?rY59q1144
    case yY59q1144 => (intro w h; go_simp <;> with_reducible rfl)
    try simp only [Act.put, List.setIfInBounds_toArray, List.set_cons_zero, List.set_cons_succ]
    refine hT (i := 45) (v := ?vY59q1145) (take_list rfl) (by as_aux_lemma => kernel_rfl) (fun _ _ _ h => h) rfl ?yY59q1145 (by assumption) ?rY59q1145
    case yY59q1145 => (intro w h; go_simp <;> with_reducible rfl)
    refine hT (i := 46) (v := ?vY59q1146) (take_list rfl) (by as_aux_lemma => kernel_rfl) (fun _ _ _ h => h) rfl ?yY59q1146 (by assumption) ?rY59q1146
    case yY59q1146 => (intro w h; go_simp <;> with_reducible rfl)
    refine hT (i := 47) (v := ?vY59q1147) (take_list rfl) (by as_aux_lemma => kernel_rfl) (fun _ _ _ h => h) rfl ?yY59q1147 (by assumption) ?rY59q1147
    case yY59q1147 => (intro w h; go_simp <;> with_reducible rfl)
    try simp only [Act.put, List.setIfInBounds_toArray, List.set_cons_zero, List.set_cons_succ]
    refine hT (i := 48) (v := ?vY59q1148) (take_list rfl) (by as_aux_lemma => kernel_rfl) (fun _ _ _ h => h) rfl ?yY59q1148 (by assumption) ?rY59q1148
    case yY59q1148 => (intro w h; go_simp <;> with_reducible rfl)
    refine hT (i := 49) (v := ?vY59q1149) (take_list rfl) (by as_aux_lemma => kernel_rfl) (fun _ _ _ h => h) rfl ?yY59q1149 (by assumption) ?rY59q1149
    case yY59q1149 => (intro w h; go_simp <;> with_reducible rfl)
    refine hT (i := 50) (v := ?vY59q1150) (take_list rfl) (by as_aux_lemma => kernel_rfl) (fun _ _ _ h => h) rfl ?yY59q1150 (by assumption) ?rY59q1150
    case yY59q1150 => (intro w h; go_simp <;> with_reducible rfl)
    try simp only [Act.put, List.setIfInBounds_toArray, List.set_cons_zero, List.set_cons_succ]
    refine hT (i := 51) (v := ?vY59q1151) (take_list rfl) (by as_aux_lemma => kernel_rfl) (fun _ _ _ h => h) rfl ?yY59q1151 (by assumption) ?rY59q1151
    case yY59q1151 => (intro w h; go_simp <;> with_reducible rfl)
    refine hT (i := 52) (v := ?vY59q1152) (take_list rfl) (by as_aux_lemma => kernel_rfl) (fun _ _ _ h => h) rfl ?yY59q1152 (by assumption) ?rY59q1152
    case yY59q1152 => (intro w h; go_simp <;> with_reducible rfl)
    refine hT (i := 53) (v := ?vY59q1153) (take_list rfl) (by as_aux_lemma => kernel_rfl) (fun _ _ _ h => h) rfl ?yY59q1153 (by assumption) ?rY59q1153
    case yY59q1153 => (intro w h; go_simp <;> with_reducible rfl)
    try simp only [Act.put, List.setIfInBounds_toArray, List.set_cons_zero, List.set_cons_succ]
    refine hT (i := 54) (v := ?vY59q1154) (take_list rfl) (by as_aux_lemma => kernel_rfl) (fun _ _ _ h => h) rfl ?yY59q1154 (by assumption) ?rY59q1154
    case yY59q1154 => (intro w h; go_simp <;> with_reducible rfl)
    refine hT (i := 55) (v := ?vY59q1155) (take_list rfl) (by as_aux_lemma => kernel_rfl) (fun _ _ _ h => h) rfl ?yY59q1155 (by assumption) ?rY59q1155
    case yY59q1155 => (intro w h; go_simp <;> with_reducible rfl)
    refine hT (i := 56) (v := ?vY59q1156) (take_list rfl) (by as_aux_lemma => kernel_rfl) (fun _ _ _ h => h) rfl ?yY59q1156 (by assumption) ?rY59q1156
    case yY59q1156 => (intro w h; go_simp <;> with_reducible rfl)
    try simp only [Act.put, List.setIfInBounds_toArray, List.set_cons_zero, List.set_cons_succ]
    refine hT (i := 57) (v := ?vY59q1157) (take_list rfl) (by as_aux_lemma => kernel_rfl) (fun _ _ _ h => h) rfl ?yY59q1157 (by assumption) ?rY59q1157
    case yY59q1157 => (intro w h; go_simp <;> with_reducible rfl)
    refine hT (i := 58) (v := ?vY59q1158) (take_list rfl) (by as_aux_lemma => kernel_rfl) (fun _ _ _ h => h) rfl ?yY59q1158 (by assumption) ?rY59q1158
    case yY59q1158 => (intro w h; go_simp <;> with_reducible rfl)
    refine hT (i := 59) (v := ?vY59q1159) (take_list rfl) (by as_aux_lemma => kernel_rfl) (fun _ _ _ h => h) rfl ?yY59q1159 (by assumption) ?rY59q1159
    case yY59q1159 => (intro w h; go_simp <;> with_reducible rfl)
    try simp only [Act.put, List.setIfInBounds_toArray, List.set_cons_zero, List.set_cons_succ]
    refine hT (i := 60) (v := ?vY59q1160) (take_list rfl) (by as_aux_lemma => kernel_rfl) (fun _ _ _ h => h) rfl ?yY59q1160 (by assumption) ?rY59q1160
    case yY59q1160 => (intro w h; go_simp <;> with_reducible rfl)
    refine hT (i := 61) (v := ?vY59q1161) (take_list rfl) (by as_aux_lemma => kernel_rfl) (fun _ _ _ h => h) rfl ?yY59q1161 (by assumption) ?rY59q1161
    case yY59q1161 => (intro w h; go_simp <;> with_reducible rfl)
    refine hT (i := 62) (v := ?vY59q1162) (take_list rfl) (by as_aux_lemma => kernel_rfl) (fun _ _ _ h => h) rfl ?yY59q1162 (by assumption) ?rY59q1162
    case yY59q1162 => (intro w h; go_simp <;> with_reducible rfl)
    try simp only [Act.put, List.setIfInBounds_toArray, List.set_cons_zero, List.set_cons_succ]
    refine hT (i := 63) (v := ?vY59q1163) (take_list rfl) (by as_aux_lemma => kernel_rfl) (fun _ _ _ h => h) rfl ?yY59q1163 (by assumption) ?rY59q1163
    case yY59q1163 => (intro w h; go_simp <;> with_reducible rfl)
    refine hT (i := 64) (v := ?vY59q1164) (take_list rfl) (by as_aux_lemma => kernel_rfl) (fun _ _ _ h => h) rfl ?yY59q1164 (by assumption) ?rY59q1164
    case yY59q1164 => (intro w h; go_simp <;> with_reducible rfl)
    refine hT (i := 65) (v := ?vY59q1165) (take_list rfl) (by as_aux_lemma => kernel_rfl) (fun _ _ _ h => h) rfl ?yY59q1165 (by assumption) ?rY59q1165
    case yY59q1165 => (intro w h; go_simp <;> with_reducible rfl)
    try simp only [Act.put, List.setIfInBounds_toArray, List.set_cons_zero, List.set_cons_succ]
    refine hT (i := 66) (v := ?vY59q1166) (take_list rfl) (by as_aux_lemma => kernel_rfl) (fun _ _ _ h => h) rfl ?yY59q1166 (by assumption) ?rY59q1166
    case yY59q1166 => (intro w h; go_simp <;> with_reducible rfl)
    refine hT (i := 67) (v := ?vY59q1167) (take_list rfl) (by as_aux_lemma => kernel_rfl) (fun _ _ _ h => h) rfl ?yY59q1167 (by assumption) ?rY59q1167
    case yY59q1167 => (intro w h; go_simp <;> with_reducible rfl)
    refine hT (i := 68) (v := ?vY59q1168) (take_list rfl) (by as_aux_lemma => kernel_rfl) (fun _ _ _ h => h) rfl ?yY59q1168 (by assumption) ?rY59q1168
    case yY59q1168 => (intro w h; go_simp <;> with_reducible rfl)
    try simp only [Act.put, List.setIfInBounds_toArray, List.set_cons_zero, List.set_cons_succ]
    refine hT (i := 69) (v := ?vY59q1169) (take_list rfl) (by as_aux_lemma => kernel_rfl) (fun _ _ _ h => h) rfl ?yY59q1169 (by assumption) ?rY59q1169
    case yY59q1169 => (intro w h; go_simp <;> with_reducible rfl)
    refine hU (i := 70) (take_list rfl) (by as_aux_lemma => kernel_rfl) (fun _ _ _ h => h) rfl (by assumption) ?_
    refine hU (i := 71) (take_list rfl) (by as_aux_lemma => kernel_rfl) (fun _ _ _ h => h) rfl (by assumption) ?_
    try simp only [Act.put, List.setIfInBounds_toArray, List.set_cons_zero, List.set_cons_succ]
    refine hU (i := 72) (take_list rfl) (by as_aux_lemma => kernel_rfl) (fun _ _ _ h => h) rfl (by assumption) ?_
    refine hU (i := 73) (take_list rfl) (by as_aux_lemma => kernel_rfl) (fun _ _ _ h => h) rfl (by assumption) ?_
    refine hU (i := 74) (take_list rfl) (by as_aux_lemma => kernel_rfl) (fun _ _ _ h => h) rfl (by assumption) ?_
    try simp only [Act.put, List.setIfInBounds_toArray, List.set_cons_zero, List.set_cons_succ]
    refine hT (i := 75) (v := ?vY59q1175) (take_list rfl) (by as_aux_lemma => kernel_rfl) (fun _ _ _ h => h) rfl ?yY59q1175 (by assumption) ?rY59q1175
    case yY59q1175 => (intro w h; go_simp <;> with_reducible rfl)
    refine wpAnyH_done (by kernel_rfl) ?_ _
    go_wp2_with fail
    go_roundw
    case rel => first | exact ⟨i + 1, rfl, hlt, by rw [any_take HPI.out, FI.out, V.out]; rfl, BM0.out.trans ((show Below wm.heap.size wm _ from by first | exact KB.out | exact below_drewed _ wm | exact below_of_drew KB.out).mono (by omega))⟩ | ((repeat apply Exists.intro); exact ⟨⟨i + 1, rfl, hlt, by rw [any_take HPI.out, FI.out, V.out]; rfl, BM0.out.trans ((show Below wm.heap.size wm _ from by first | exact KB.out | exact below_drewed _ wm | exact below_of_drew KB.out).mono (by omega))⟩, rfl⟩)
    case measure => (simp only [intOf]; omega)
  have qcY59 : (p.r.group == (j : Int)) = true := by simpa using cY59
  by_cases cY510 : p.r.index = (t : Int)
  case neg =>
    have qcY510 : (p.r.index == (t : Int)) = false := by simpa using cY510
    have V := Lib.hid (show F p = false by rw [FP.out]; unfold matchB; simp only [decide_eq_true cY50, decide_eq_true cY51, decide_eq_true cY52, qcY53, decide_eq_true cY54, decide_eq_true cY55, decide_eq_true cY56, decide_eq_true cY57, decide_eq_true cY58, decide_eq_true cY59, decide_eq_false cY510, Bool.true_and])
    clear cY50 cY51 cY52 cY53 cY54 cY55 cY56 cY57 cY58 cY59 cY510
    refine wp_region_held_drew (S := (fun w' => w'.cell? ⟨gr, 0, none⟩ = some (.int .i64 p.r.kind) ∧ w'.cell? ⟨gr, 1, none⟩ = some (.int .i64 p.r.cart) ∧ w'.cell? ⟨gr, 2, none⟩ = some (strV p.r.key) ∧ w'.cell? ⟨gr, 3, none⟩ = some (.int .i64 p.r.gen) ∧ w'.cell? ⟨gr, 4, none⟩ = some (.int .i64 p.r.group) ∧ w'.cell? ⟨gr, 5, none⟩ = some (.int .i64 p.r.groups) ∧ w'.cell? ⟨gr, 6, none⟩ = some (.int .i64 p.r.index) ∧ w'.cell? ⟨gr, 7, none⟩ = some (.int .i64 p.r.size) ∧ w'.cell? ⟨gr, 8, none⟩ = some (strV p.r.sum) ∧ w'.cell? ⟨gr, 9, none⟩ = some (.slice p.A p.r.data.length p.c) ∧ w'.cell? ⟨gp, 0, none⟩ = some (.int .i64 p.cart) ∧ w'.cell? ⟨gp, 1, none⟩ = some (.int .i64 p.pos) ∧ w'.cell? ⟨w.heap.size, 0, none⟩ = some (strV k) ∧ w'.cell? ⟨w.heap.size, 1, none⟩ = some (.int .i64 gn) ∧ w'.cell? ⟨w.heap.size, 2, none⟩ = some (.int .i64 sz) ∧ w'.cell? ⟨w.heap.size, 3, none⟩ = some (strV sm) ∧ w'.cell? ⟨w.heap.size, 4, none⟩ = some (.slice (some ⟨g, 0, none⟩) q q) ∧ w'.cell? ⟨g, s * 2, none⟩ = some (.int .i64 x) ∧ w'.cell? ⟨g, s * 2 + 1, none⟩ = some (.int .i64 y))) (by kernel_rfl) ⟨r0, r1, r2, r3, r4, r5, r6, r7, r8, r9, g0, g1, t0, t1, t2, t3, t4, v0, v1⟩ (fun hHeld => ?_)
    refine hT (i := 0) (v := ?vY510q120) (take_list rfl) (by as_aux_lemma => kernel_rfl) (fun _ _ _ h => h) rfl ?yY510q120 (by assumption) ?rY510q120
    case yY510q120 => (intro w h; go_simp <;> with_reducible rfl)
    refine hT (i := 1) (v := ?vY510q121) (take_list rfl) (by as_aux_lemma => kernel_rfl) (fun _ _ _ h => h) rfl ?yY510q121 (by assumption) ?rY510q121
    case yY510q121 => (intro w h; go_simp <;> with_reducible rfl)
    refine hT (i := 2) (v := ?vY510q122) (take_list rfl) (by as_aux_lemma => kernel_rfl) (fun _ _ _ h => h) rfl ?yY510q122 (by assumption) ?rY510q122
    case yY510q122 => (intro w h; go_simp <;> with_reducible rfl)
    try simp only [Act.put, List.setIfInBounds_toArray, List.set_cons_zero, List.set_cons_succ]
    refine hT (i := 3) (v := ?vY510q123) (take_list rfl) (by as_aux_lemma => kernel_rfl) (fun _ _ _ h => h) rfl ?yY510q123 (by assumption) ?rY510q123
    case yY510q123 => (intro w h; go_simp <;> with_reducible rfl)
    refine hT (i := 4) (v := ?vY510q124) (take_list rfl) (by as_aux_lemma => kernel_rfl) (fun _ _ _ h => h) rfl ?yY510q124 (by assumption) ?rY510q124
    case yY510q124 => (intro w h; go_simp <;> with_reducible rfl)
    refine hT (i := 5) (v := ?vY510q125) (take_list rfl) (by as_aux_lemma => kernel_rfl) (fun _ _ _ h => h) rfl ?yY510q125 (by assumption) ?rY510q125
    case yY510q125 => (intro w h; go_simp <;> with_reducible rfl)
    try simp only [Act.put, List.setIfInBounds_toArray, List.set_cons_zero, List.set_cons_succ]
    refine hT (i := 6) (v := ?vY510q126) (take_list rfl) (by as_aux_lemma => kernel_rfl) (fun _ _ _ h => h) rfl ?yY510q126 (by assumption) ?rY510q126
    case yY510q126 => (intro w h; go_simp <;> with_reducible rfl)
    refine hT (i := 7) (v := ?vY510q127) (take_list rfl) (by as_aux_lemma => kernel_rfl) (fun _ _ _ h => h) rfl ?yY510q127 (by assumption) ?rY510q127
    case yY510q127 => (intro w h; go_simp <;> with_reducible rfl)
    refine hT (i := 8) (v := ?vY510q128) (take_list rfl) (by as_aux_lemma => kernel_rfl) (fun _ _ _ h => h) rfl ?yY510q128 (by assumption) ?rY510q128
    case yY510q128 => (intro w h; go_simp <;> with_reducible rfl)
    try simp only [Act.put, List.setIfInBounds_toArray, List.set_cons_zero, List.set_cons_succ]
    refine hT (i := 9) (v := ?vY510q129) (take_list rfl) (by as_aux_lemma => kernel_rfl) (fun _ _ _ h => h) rfl ?yY510q129 (by assumption) ?rY510q129
    case yY510q129 => (intro w h; go_simp <;> with_reducible rfl)
    refine hT (i := 10) (v := ?vY510q1210) (take_list rfl) (by as_aux_lemma => kernel_rfl) (fun _ _ _ h => h) rfl ?yY510q1210 (by assumption) ?rY510q1210
    case yY510q1210 => (intro w h; go_simp <;> with_reducible rfl)
    refine hT (i := 11) (v := ?vY510q1211) (take_list rfl) (by as_aux_lemma => kernel_rfl) (fun _ _ _ h => h) rfl ?yY510q1211 (by assumption) ?rY510q1211
    case yY510q1211 => (intro w h; go_simp <;> with_reducible rfl)
    try simp only [Act.put, List.setIfInBounds_toArray, List.set_cons_zero, List.set_cons_succ]
    refine hT (i := 12) (v := ?vY510q1212) (take_list rfl) (by as_aux_lemma => kernel_rfl) (fun _ _ _ h => h) rfl ?yY510q1212 (by assumption) ?rY510q1212
    case yY510q1212 => (intro w h; go_simp <;> with_reducible rfl)
    refine hT (i := 13) (v := ?vY510q1213) (take_list rfl) (by as_aux_lemma => kernel_rfl) (fun _ _ _ h => h) rfl ?yY510q1213 (by assumption) ?rY510q1213
    case yY510q1213 => (intro w h; go_simp <;> with_reducible rfl)
    refine hT (i := 14) (v := ?vY510q1214) (take_list rfl) (by as_aux_lemma => kernel_rfl) (fun _ _ _ h => h) rfl ?yY510q1214 (by assumption) ?rY510q1214
    case yY510q1214 => (intro w h; go_simp <;> with_reducible rfl)
    try simp only [Act.put, List.setIfInBounds_toArray, List.set_cons_zero, List.set_cons_succ]
    refine hT (i := 15) (v := ?vY510q1215) (take_list rfl) (by as_aux_lemma => kernel_rfl) (fun _ _ _ h => h) rfl ?yY510q1215 (by assumption) ?rY510q1215
    case yY510q1215 => (intro w h; go_simp <;> with_reducible rfl)
    refine hT (i := 16) (v := ?vY510q1216) (take_list rfl) (by as_aux_lemma => kernel_rfl) (fun _ _ _ h => h) rfl ?yY510q1216 (by assumption) ?rY510q1216
    case yY510q1216 => (intro w h; go_simp <;> with_reducible rfl)
    refine hT (i := 17) (v := ?vY510q1217) (take_list rfl) (by as_aux_lemma => kernel_rfl) (fun _ _ _ h => h) rfl ?yY510q1217 (by assumption) ?rY510q1217
    case yY510q1217 => (intro w h; go_simp <;> with_reducible rfl)
    try simp only [Act.put, List.setIfInBounds_toArray, List.set_cons_zero, List.set_cons_succ]
    refine hT (i := 18) (v := ?vY510q1218) (take_list rfl) (by as_aux_lemma => kernel_rfl) (fun _ _ _ h => h) rfl ?yY510q1218 (by assumption) ?rY510q1218
    case yY510q1218 => (intro w h; go_simp <;> with_reducible rfl)
    refine hT (i := 19) (v := ?vY510q1219) (take_list rfl) (by as_aux_lemma => kernel_rfl) (fun _ _ _ h => h) rfl ?yY510q1219 (by assumption) ?rY510q1219
    case yY510q1219 => (intro w h; go_simp <;> with_reducible rfl)
    refine hT (i := 20) (v := ?vY510q1220) (take_list rfl) (by as_aux_lemma => kernel_rfl) (fun _ _ _ h => h) rfl ?yY510q1220 (by assumption) ?rY510q1220
    case yY510q1220 => (intro w h; go_simp <;> with_reducible rfl)
    try simp only [Act.put, List.setIfInBounds_toArray, List.set_cons_zero, List.set_cons_succ]
    refine hT (i := 21) (v := ?vY510q1221) (take_list rfl) (by as_aux_lemma => kernel_rfl) (fun _ _ _ h => h) rfl ?yY510q1221 (by assumption) ?rY510q1221
    case yY510q1221 => (intro w h; go_simp <;> with_reducible rfl)
    refine hT (i := 22) (v := ?vY510q1222) (take_list rfl) (by as_aux_lemma => kernel_rfl) (fun _ _ _ h => h) rfl ?yY510q1222 (by assumption) ?rY510q1222
    case yY510q1222 => (intro w h; go_simp <;> with_reducible rfl)
    refine hT (i := 23) (v := ?vY510q1223) (take_list rfl) (by as_aux_lemma => kernel_rfl) (fun _ _ _ h => h) rfl ?yY510q1223 (by assumption) ?rY510q1223
    case yY510q1223 => (intro w h; go_simp <;> with_reducible rfl)
    try simp only [Act.put, List.setIfInBounds_toArray, List.set_cons_zero, List.set_cons_succ]
    refine hT (i := 24) (v := ?vY510q1224) (take_list rfl) (by as_aux_lemma => kernel_rfl) (fun _ _ _ h => h) rfl ?yY510q1224 (by assumption) ?rY510q1224
    case yY510q1224 => (intro w h; go_simp <;> with_reducible rfl)
    refine hT (i := 25) (v := ?vY510q1225) (take_list rfl) (by as_aux_lemma => kernel_rfl) (fun _ _ _ h => h) rfl ?yY510q1225 (by assumption) ?rY510q1225
    case yY510q1225 => (intro w h; go_simp <;> with_reducible rfl)
    refine hT (i := 26) (v := ?vY510q1226) (take_list rfl) (by as_aux_lemma => kernel_rfl) (fun _ _ _ h => h) rfl ?yY510q1226 (by assumption) ?rY510q1226
    case yY510q1226 => (intro w h; go_simp <;> with_reducible rfl)
    try simp only [Act.put, List.setIfInBounds_toArray, List.set_cons_zero, List.set_cons_succ]
    refine wpAnyH_ready (rs := [27]) (by kernel_rfl) (by simp) ?_
    refine AllReadyH.cons rfl (fun K hK => ?_) AllReadyH.nil
    go_simp
    go_wp2_with (go_at_call 14; refine (sGood p.r p.A p.c _).mono ?_; rintro e wg ⟨rfl, hb⟩; rw [qcY53]; have KB := Lib.hid (show Below wm.heap.size wm wg from (by first | exact hb | exact below_of_drew hb)); clear hb)
    clear hHeld
    refine hK.out _ _ ⟨keepc KB.out hgrz r0, keepc KB.out hgrz r1, keepc KB.out hgrz r2, keepc KB.out hgrz r3, keepc KB.out hgrz r4, keepc KB.out hgrz r5, keepc KB.out hgrz r6, keepc KB.out hgrz r7, keepc KB.out hgrz r8, keepc KB.out hgrz r9, keepc KB.out hgpz g0, keepc KB.out hgpz g1, keepc KB.out hzt t0, keepc KB.out hzt t1, keepc KB.out hzt t2, keepc KB.out hzt t3, keepc KB.out hzt t4, keepc KB.out hgz v0, keepc KB.out hgz v1⟩ (fun hHeld => ?_)
    clear hK K
    refine hT (i := 28) (v := ?vY510q1228) (take_list rfl) (by as_aux_lemma => kernel_rfl) (fun _ _ _ h => h) rfl ?yY510q1228 (by assumption) ?rY510q1228
    case yY510q1228 => (intro w h; go_simp <;> with_reducible rfl)
    refine hT (i := 29) (v := ?vY510q1229) (take_list rfl) (by as_aux_lemma => kernel_rfl) (fun _ _ _ h => h) rfl ?yY510q1229 (by assumption) ?rY510q1229
    case yY510q1229 => (intro w h; go_simp <;> with_reducible rfl)
    try simp only [Act.put, List.setIfInBounds_toArray, List.set_cons_zero, List.set_cons_succ]
    refine hT (i := 30) (v := ?vY510q1230) (take_list rfl) (by as_aux_lemma => kernel_rfl) (fun _ _ _ h => h) rfl ?yY510q1230 (by assumption) ?rY510q1230
    case yY510q1230 => (intro w h; go_simp <;> with_reducible rfl)
    refine hT (i := 31) (v := ?vY510q1231) (take_list rfl) (by as_aux_lemma => kernel_rfl) (fun _ _ _ h => h) rfl ?yY510q1231 (by assumption) ?rY510q1231
    case yY510q1231 => (intro w h; go_simp <;> with_reducible rfl)
    refine hT (i := 32) (v := ?vY510q1232) (take_list rfl) (by as_aux_lemma => kernel_rfl) (fun _ _ _ h => h) rfl ?yY510q1232 (by assumption) ?rY510q1232
    case yY510q1232 => (intro w h; go_simp <;> with_reducible rfl)
    try simp only [Act.put, List.setIfInBounds_toArray, List.set_cons_zero, List.set_cons_succ]
    refine hT (i := 33) (v := ?vY510q1233) (take_list rfl) (by as_aux_lemma => kernel_rfl) (fun _ _ _ h => h) rfl ?yY510q1233 (by assumption) ?rY510q1233
    case yY510q1233 => (intro w h; go_simp <;> with_reducible rfl)
    refine hT (i := 34) (v := ?vY510q1234) (take_list rfl) (by as_aux_lemma => kernel_rfl) (fun _ _ _ h => h) rfl ?yY510q1234 (by assumption) ?rY510q1234
    case yY510q1234 => (intro w h; go_simp <;> with_reducible rfl)
    refine hT (i := 35) (v := ?vY510q1235) (take_list rfl) (by as_aux_lemma => kernel_rfl) (fun _ _ _ h => h) rfl ?yY510q1235 (by assumption) ?rY510q1235
    case yY510q1235 => (intro w h; go_simp <;> with_reducible rfl)
    try simp only [Act.put, List.setIfInBounds_toArray, List.set_cons_zero, List.set_cons_succ]
    refine hT (i := 36) (v := ?vY510q1236) (take_list rfl) (by as_aux_lemma => kernel_rfl) (fun _ _ _ h => h) rfl ?yY510q1236 (by assumption) ?rY510q1236
    case yY510q1236 => (intro w h; go_simp <;> with_reducible rfl)
    refine hT (i := 37) (v := ?vY510q1237) (take_list rfl) (by as_aux_lemma => kernel_rfl) (fun _ _ _ h => h) rfl ?yY510q1237 (by assumption) ?rY510q1237
    case yY510q1237 => (intro w h; go_simp <;> with_reducible rfl)
    refine hT (i := 38) (v := ?vY510q1238) (take_list rfl) (by as_aux_lemma => kernel_rfl) (fun _ _ _ h => h) rfl ?yY510q1238 (by assumption) ?rY510q1238
    case yY510q1238 => (intro w h; go_simp <;> with_reducible rfl)
    try simp only [Act.put, List.setIfInBounds_toArray, List.set_cons_zero, List.set_cons_succ]
    refine hT (i := 39) (v := ?vY510q1239) (take_list rfl) (by as_aux_lemma => kernel_rfl) (fun _ _ _ h => h) rfl ?yY510q1239 (by assumption) ?rY510q1239
    case yY510q1239 => (intro w h; go_simp <;> with_reducible rfl)
    refine hT (i := 40) (v := ?vY510q1240) (take_list rfl) (by as_aux_lemma => kernel_rfl) (fun _ _ _ h => h) rfl ?yY510q1240 (by assumption) ?rY510q1240
    case yY510q1240 => (intro w h; go_simp <;> with_reducible rfl)
    refine hT (i := 41) (v := ?vY510q1241) (take_list rfl) (by as_aux_lemma => kernel_rfl) (fun _ _ _ h => h) rfl ?yY510q1241 (by assumption) ?rY510q1241
    case yY510q1241 => (intro w h; go_simp <;> with_reducible rfl)
    try simp only [Act.put, List.setIfInBounds_toArray, List.set_cons_zero, List.set_cons_succ]
    refine hT (i := 42) (v := ?vY510q1242) (take_list rfl) (by as_aux_lemma => kernel_rfl) (fun _ _ _ h => h) rfl ?yY510q1242 (by assumption) ?rY510q1242
    case yY510q1242 => (intro w h; go_simp <;> with_reducible rfl)
    refine hT (i := 43) (v := ?vY510q1243) (take_list rfl) (by as_aux_lemma => kernel_rfl) (fun _ _ _ h => h) rfl ?yY510q1243 (by assumption) ?rY510q1243
    case yY510q1243 => (intro w h; go_simp <;> with_reducible rfl)
    refine hT (i := 44) (v := ?vY510q1244) (take_list rfl) (by as_aux_lemma => kernel_rfl) (fun _ _ _ h => h) rfl ?yY510q1244 (by assumption) ?rY510q1244
    case yY510q1244 => (intro w h; go_simp <;> with_reducible rfl)
    try simp only [Act.put, List.setIfInBounds_toArray, List.set_cons_zero, List.set_cons_succ]
    refine hT (i := 45) (v := ?vY510q1245) (take_list rfl) (by as_aux_lemma => kernel_rfl) (fun _ _ _ h => h) rfl ?yY510q1245 (by assumption) ?rY510q1245
    case yY510q1245 => (intro w h; go_simp <;> with_reducible rfl)
    refine hT (i := 46) (v := ?vY510q1246) (take_list rfl) (by as_aux_lemma => kernel_rfl) (fun _ _ _ h => h) rfl ?yY510q1246 (by assumption) ?rY510q1246
    case yY510q1246 => (intro w h; go_simp <;> with_reducible rfl)
    refine hT (i := 47) (v := ?vY510q1247) (take_list rfl) (by as_aux_lemma => kernel_rfl) (fun _ _ _ h => h) rfl ?yY510q1247 (by assumption) ?rY510q1247
    case yY510q1247 => (intro w h; go_simp <;> with_reducible rfl)
    try simp only [Act.put, List.setIfInBounds_toArray, List.set_cons_zero, List.set_cons_succ]
    refine hT (i := 48) (v := ?vY510q1248) (take_list rfl) (by as_aux_lemma => kernel_rfl) (fun _ _ _ h => h) rfl ?yY510q1248 (by assumption) ?rY510q1248
    case yY510q1248 => (intro w h; go_simp <;> with_reducible rfl)
    refine hT (i := 49) (v := ?vY510q1249) (take_list rfl) (by as_aux_lemma => kernel_rfl) (fun _ _ _ h => h) rfl ?yY510q1249 (by assumption) ?rY510q1249
    case yY510q1249 => (intro w h; go_simp <;> with_reducible rfl)
    refine hT (i := 50) (v := ?vY510q1250) (take_list rfl) (by as_aux_lemma => kernel_rfl) (fun _ _ _ h => h) rfl ?yY510q1250 (by assumption) ?rY510q1250
    case yY510q1250 => (intro w h; go_simp <;> with_reducible rfl)
    try simp only [Act.put, List.setIfInBounds_toArray, List.set_cons_zero, List.set_cons_succ]
    refine hT (i := 51) (v := ?vY510q1251) (take_list rfl) (by as_aux_lemma => kernel_rfl) (fun _ _ _ h => h) rfl ?yY510q1251 (by assumption) ?rY510q1251
    case yY510q1251 => (intro w h; go_simp <;> with_reducible rfl)
    refine hT (i := 52) (v := ?vY510q1252) (take_list rfl) (by as_aux_lemma => kernel_rfl) (fun _ _ _ h => h) rfl ?yY510q1252 (by assumption) ?rY510q1252
    case yY510q1252 => (intro w h; go_simp <;> with_reducible rfl)
    refine hT (i := 53) (v := ?vY510q1253) (take_list rfl) (by as_aux_lemma => kernel_rfl) (fun _ _ _ h => h) rfl ?yY510q1253 (by assumption) ?rY510q1253
    case yY510q1253 => (intro w h; go_simp <;> with_reducible rfl)
    try simp only [Act.put, List.setIfInBounds_toArray, List.set_cons_zero, List.set_cons_succ]
    refine hT (i := 54) (v := ?vY510q1254) (take_list rfl) (by as_aux_lemma => kernel_rfl) (fun _ _ _ h => h) rfl ?yY510q1254 (by assumption) ?rY510q1254
    case yY510q1254 => (intro w h; go_simp <;> with_reducible rfl)
    refine hT (i := 55) (v := ?vY510q1255) (take_list rfl) (by as_aux_lemma => kernel_rfl) (fun _ _ _ h => h) rfl ?yY510q1255 (by assumption) ?rY510q1255
    case yY510q1255 => (intro w h; go_simp <;> with_reducible rfl)
    refine hT (i := 56) (v := ?vY510q1256) (take_list rfl) (by as_aux_lemma => kernel_rfl) (fun _ _ _ h => h) rfl ?yY510q1256 (by assumption) ?rY510q1256
    case yY510q1256 => (intro w h; go_simp <;> with_reducible rfl)
    try simp only [Act.put, List.setIfInBounds_toArray, List.set_cons_zero, List.set_cons_succ]
    refine hT (i := 57) (v := ?vY510q1257) (take_list rfl) (by as_aux_lemma => kernel_rfl) (fun _ _ _ h => h) rfl ?yY510q1257 (by assumption) ?rY510q1257
    case yY510q1257 => (intro w h; go_simp <;> with_reducible rfl)
    refine hT (i := 58) (v := ?vY510q1258) (take_list rfl) (by as_aux_lemma => kernel_rfl) (fun _ _ _ h => h) rfl ?yY510q1258 (by assumption) ?rY510q1258
    case yY510q1258 => (intro w h; go_simp <;> with_reducible rfl)
    refine hT (i := 59) (v := ?vY510q1259) (take_list rfl) (by as_aux_lemma => kernel_rfl) (fun _ _ _ h => h) rfl ?yY510q1259 (by assumption) ?rY510q1259
    case yY510q1259 => (intro w h; go_simp <;> with_reducible rfl)
    try simp only [Act.put, List.setIfInBounds_toArray, List.set_cons_zero, List.set_cons_succ]
    refine hT (i := 60) (v := ?vY510q1260) (take_list rfl) (by as_aux_lemma => kernel_rfl) (fun _ _ _ h => h) rfl ?yY510q1260 (by assumption) ?rY510q1260
    case yY510q1260 => (intro w h; go_simp <;> with_reducible rfl)
    refine hT (i := 61) (v := ?vY510q1261) (take_list rfl) (by as_aux_lemma => kernel_rfl) (fun _ _ _ h => h) rfl ?yY510q1261 (by assumption) ?rY510q1261
    case yY510q1261 => (intro w h; go_simp <;> with_reducible rfl)
    refine hT (i := 62) (v := ?vY510q1262) (take_list rfl) (by as_aux_lemma => kernel_rfl) (fun _ _ _ h => h) rfl ?yY510q1262 (by assumption) ?rY510q1262
    case yY510q1262 => (intro w h; go_simp <;> with_reducible rfl)
    try simp only [Act.put, List.setIfInBounds_toArray, List.set_cons_zero, List.set_cons_succ]
    refine hT (i := 63) (v := ?vY510q1263) (take_list rfl) (by as_aux_lemma => kernel_rfl) (fun _ _ _ h => h) rfl ?yY510q1263 (by assumption) ?rY510q1263
    case yY510q1263 => (intro w h; go_simp <;> with_reducible rfl)
    refine hT (i := 64) (v := ?vY510q1264) (take_list rfl) (by as_aux_lemma => kernel_rfl) (fun _ _ _ h => h) rfl ?yY510q1264 (by assumption) ?rY510q1264
    case yY510q1264 => (intro w h; go_simp <;> with_reducible rfl)
    refine hT (i := 65) (v := ?vY510q1265) (take_list rfl) (by as_aux_lemma => kernel_rfl) (fun _ _ _ h => h) rfl ?yY510q1265 (by assumption) ?rY510q1265
    case yY510q1265 => (intro w h; go_simp <;> with_reducible rfl)
    try simp only [Act.put, List.setIfInBounds_toArray, List.set_cons_zero, List.set_cons_succ]
    refine hT (i := 66) (v := ?vY510q1266) (take_list rfl) (by as_aux_lemma => kernel_rfl) (fun _ _ _ h => h) rfl ?yY510q1266 (by assumption) ?rY510q1266
    case yY510q1266 => (intro w h; go_simp <;> with_reducible rfl)
    refine hT (i := 67) (v := ?vY510q1267) (take_list rfl) (by as_aux_lemma => kernel_rfl) (fun _ _ _ h => h) rfl ?yY510q1267 (by assumption) ?rY510q1267
    case yY510q1267 => (intro w h; go_simp <;> with_reducible rfl)
    refine hT (i := 68) (v := ?vY510q1268) (take_list rfl) (by as_aux_lemma => kernel_rfl) (fun _ _ _ h => h) rfl ?yY510q1268 (by assumption) ?rY510q1268
    case yY510q1268 => (intro w h; go_simp <;> with_reducible rfl)
    try simp only [Act.put, List.setIfInBounds_toArray, List.set_cons_zero, List.set_cons_succ]
    refine hT (i := 69) (v := ?vY510q1269) (take_list rfl) (by as_aux_lemma => kernel_rfl) (fun _ _ _ h => h) rfl ?yY510q1269 (by assumption) ?rY510q1269
    case yY510q1269 => (intro w h; go_simp <;> with_reducible rfl)
    refine hT (i := 70) (v := ?vY510q1270) (take_list rfl) (by as_aux_lemma => kernel_rfl) (fun _ _ _ h => h) rfl ?yY510q1270 (by assumption) ?rY510q1270
    case yY510q1270 => (intro w h; go_simp <;> with_reducible rfl)
    refine hT (i := 71) (v := ?vY510q1271) (take_list rfl) (by as_aux_lemma => kernel_rfl) (fun _ _ _ h => h) rfl ?yY510q1271 (by assumption) ?rY510q1271
    case yY510q1271 => (intro w h; go_simp <;> with_reducible rfl)
    try simp only [Act.put, List.setIfInBounds_toArray, List.set_cons_zero, List.set_cons_succ]
    refine hT (i := 72) (v := ?vY510q1272) (take_list rfl) (by as_aux_lemma => kernel_rfl) (fun _ _ _ h => h) rfl ?yY510q1272 (by assumption) ?rY510q1272
    case yY510q1272 => (intro w h; go_simp <;> with_reducible rfl)
    refine hT (i := 73) (v := ?vY510q1273) (take_list rfl) (by as_aux_lemma => kernel_rfl) (fun _ _ _ h => h) rfl ?yY510q1273 (by assumption) ?rY510q1273
    case yY510q1273 => (intro w h; go_simp <;> with_reducible rfl)
    refine hT (i := 74) (v := ?vY510q1274) (take_list rfl) (by as_aux_lemma => kernel_rfl) (fun _ _ _ h => h) rfl ?yY510q1274 (by assumption) ?rY510q1274
    case yY510q1274 => (intro w h; go_simp <;> with_reducible rfl)
    try simp only [Act.put, List.setIfInBounds_toArray, List.set_cons_zero, List.set_cons_succ]
    refine hT (i := 75) (v := ?vY510q1275) (take_list rfl) (by as_aux_lemma => kernel_rfl) (fun _ _ _ h => h) rfl ?yY510q1275 (by assumption) ?rY510q1275
    case yY510q1275 => (intro w h; go_simp <;> with_reducible rfl)
    refine wpAnyH_done (by kernel_rfl) ?_ _
    go_wp2_with fail
    go_roundw
    case rel => first | exact ⟨i + 1, rfl, hlt, by rw [any_take HPI.out, FI.out, V.out]; rfl, BM0.out.trans ((show Below wm.heap.size wm _ from by first | exact KB.out | exact below_drewed _ wm | exact below_of_drew KB.out).mono (by omega))⟩ | ((repeat apply Exists.intro); exact ⟨⟨i + 1, rfl, hlt, by rw [any_take HPI.out, FI.out, V.out]; rfl, BM0.out.trans ((show Below wm.heap.size wm _ from by first | exact KB.out | exact below_drewed _ wm | exact below_of_drew KB.out).mono (by omega))⟩, rfl⟩)
    case measure => (simp only [intOf]; omega)
  have qcY510 : (p.r.index == (t : Int)) = true := by simpa using cY510
  have V := Lib.hid (show F p = true by rw [FP.out]; unfold matchB; simp only [decide_eq_true cY50, decide_eq_true cY51, decide_eq_true cY52, qcY53, decide_eq_true cY54, decide_eq_true cY55, decide_eq_true cY56, decide_eq_true cY57, decide_eq_true cY58, decide_eq_true cY59, decide_eq_true cY510, Bool.true_and])
  clear cY50 cY51 cY52 cY53 cY54 cY55 cY56 cY57 cY58 cY59 cY510
  refine wp_region_held_drew (S := (fun w' => w'.cell? ⟨gr, 0, none⟩ = some (.int .i64 p.r.kind) ∧ w'.cell? ⟨gr, 1, none⟩ = some (.int .i64 p.r.cart) ∧ w'.cell? ⟨gr, 2, none⟩ = some (strV p.r.key) ∧ w'.cell? ⟨gr, 3, none⟩ = some (.int .i64 p.r.gen) ∧ w'.cell? ⟨gr, 4, none⟩ = some (.int .i64 p.r.group) ∧ w'.cell? ⟨gr, 5, none⟩ = some (.int .i64 p.r.groups) ∧ w'.cell? ⟨gr, 6, none⟩ = some (.int .i64 p.r.index) ∧ w'.cell? ⟨gr, 7, none⟩ = some (.int .i64 p.r.size) ∧ w'.cell? ⟨gr, 8, none⟩ = some (strV p.r.sum) ∧ w'.cell? ⟨gr, 9, none⟩ = some (.slice p.A p.r.data.length p.c) ∧ w'.cell? ⟨gp, 0, none⟩ = some (.int .i64 p.cart) ∧ w'.cell? ⟨gp, 1, none⟩ = some (.int .i64 p.pos) ∧ w'.cell? ⟨w.heap.size, 0, none⟩ = some (strV k) ∧ w'.cell? ⟨w.heap.size, 1, none⟩ = some (.int .i64 gn) ∧ w'.cell? ⟨w.heap.size, 2, none⟩ = some (.int .i64 sz) ∧ w'.cell? ⟨w.heap.size, 3, none⟩ = some (strV sm) ∧ w'.cell? ⟨w.heap.size, 4, none⟩ = some (.slice (some ⟨g, 0, none⟩) q q) ∧ w'.cell? ⟨g, s * 2, none⟩ = some (.int .i64 x) ∧ w'.cell? ⟨g, s * 2 + 1, none⟩ = some (.int .i64 y))) (by kernel_rfl) ⟨r0, r1, r2, r3, r4, r5, r6, r7, r8, r9, g0, g1, t0, t1, t2, t3, t4, v0, v1⟩ (fun hHeld => ?_)
  refine hT (i := 0) (v := ?vY511q130) (take_list rfl) (by as_aux_lemma => kernel_rfl) (fun _ _ _ h => h) rfl ?yY511q130 (by assumption) ?rY511q130
  case yY511q130 => (intro w h; go_simp <;> with_reducible rfl)
  refine hT (i := 1) (v := ?vY511q131) (take_list rfl) (by as_aux_lemma => kernel_rfl) (fun _ _ _ h => h) rfl ?yY511q131 (by assumption) ?rY511q131
  case yY511q131 => (intro w h; go_simp <;> with_reducible rfl)
  refine hT (i := 2) (v := ?vY511q132) (take_list rfl) (by as_aux_lemma => kernel_rfl) (fun _ _ _ h => h) rfl ?yY511q132 (by assumption) ?rY511q132
  case yY511q132 => (intro w h; go_simp <;> with_reducible rfl)
  try simp only [Act.put, List.setIfInBounds_toArray, List.set_cons_zero, List.set_cons_succ]
  refine hT (i := 3) (v := ?vY511q133) (take_list rfl) (by as_aux_lemma => kernel_rfl) (fun _ _ _ h => h) rfl ?yY511q133 (by assumption) ?rY511q133
  case yY511q133 => (intro w h; go_simp <;> with_reducible rfl)
  refine hT (i := 4) (v := ?vY511q134) (take_list rfl) (by as_aux_lemma => kernel_rfl) (fun _ _ _ h => h) rfl ?yY511q134 (by assumption) ?rY511q134
  case yY511q134 => (intro w h; go_simp <;> with_reducible rfl)
  refine hT (i := 5) (v := ?vY511q135) (take_list rfl) (by as_aux_lemma => kernel_rfl) (fun _ _ _ h => h) rfl ?yY511q135 (by assumption) ?rY511q135
  case yY511q135 => (intro w h; go_simp <;> with_reducible rfl)
  try simp only [Act.put, List.setIfInBounds_toArray, List.set_cons_zero, List.set_cons_succ]
  refine hT (i := 6) (v := ?vY511q136) (take_list rfl) (by as_aux_lemma => kernel_rfl) (fun _ _ _ h => h) rfl ?yY511q136 (by assumption) ?rY511q136
  case yY511q136 => (intro w h; go_simp <;> with_reducible rfl)
  refine hT (i := 7) (v := ?vY511q137) (take_list rfl) (by as_aux_lemma => kernel_rfl) (fun _ _ _ h => h) rfl ?yY511q137 (by assumption) ?rY511q137
  case yY511q137 => (intro w h; go_simp <;> with_reducible rfl)
  refine hT (i := 8) (v := ?vY511q138) (take_list rfl) (by as_aux_lemma => kernel_rfl) (fun _ _ _ h => h) rfl ?yY511q138 (by assumption) ?rY511q138
  case yY511q138 => (intro w h; go_simp <;> with_reducible rfl)
  try simp only [Act.put, List.setIfInBounds_toArray, List.set_cons_zero, List.set_cons_succ]
  refine hT (i := 9) (v := ?vY511q139) (take_list rfl) (by as_aux_lemma => kernel_rfl) (fun _ _ _ h => h) rfl ?yY511q139 (by assumption) ?rY511q139
  case yY511q139 => (intro w h; go_simp <;> with_reducible rfl)
  refine hT (i := 10) (v := ?vY511q1310) (take_list rfl) (by as_aux_lemma => kernel_rfl) (fun _ _ _ h => h) rfl ?yY511q1310 (by assumption) ?rY511q1310
  case yY511q1310 => (intro w h; go_simp <;> with_reducible rfl)
  refine hT (i := 11) (v := ?vY511q1311) (take_list rfl) (by as_aux_lemma => kernel_rfl) (fun _ _ _ h => h) rfl ?yY511q1311 (by assumption) ?rY511q1311
  case yY511q1311 => (intro w h; go_simp <;> with_reducible rfl)
  try simp only [Act.put, List.setIfInBounds_toArray, List.set_cons_zero, List.set_cons_succ]
  refine hT (i := 12) (v := ?vY511q1312) (take_list rfl) (by as_aux_lemma => kernel_rfl) (fun _ _ _ h => h) rfl ?yY511q1312 (by assumption) ?rY511q1312
  case yY511q1312 => (intro w h; go_simp <;> with_reducible rfl)
  refine hT (i := 13) (v := ?vY511q1313) (take_list rfl) (by as_aux_lemma => kernel_rfl) (fun _ _ _ h => h) rfl ?yY511q1313 (by assumption) ?rY511q1313
  case yY511q1313 => (intro w h; go_simp <;> with_reducible rfl)
  refine hT (i := 14) (v := ?vY511q1314) (take_list rfl) (by as_aux_lemma => kernel_rfl) (fun _ _ _ h => h) rfl ?yY511q1314 (by assumption) ?rY511q1314
  case yY511q1314 => (intro w h; go_simp <;> with_reducible rfl)
  try simp only [Act.put, List.setIfInBounds_toArray, List.set_cons_zero, List.set_cons_succ]
  refine hT (i := 15) (v := ?vY511q1315) (take_list rfl) (by as_aux_lemma => kernel_rfl) (fun _ _ _ h => h) rfl ?yY511q1315 (by assumption) ?rY511q1315
  case yY511q1315 => (intro w h; go_simp <;> with_reducible rfl)
  refine hT (i := 16) (v := ?vY511q1316) (take_list rfl) (by as_aux_lemma => kernel_rfl) (fun _ _ _ h => h) rfl ?yY511q1316 (by assumption) ?rY511q1316
  case yY511q1316 => (intro w h; go_simp <;> with_reducible rfl)
  refine hT (i := 17) (v := ?vY511q1317) (take_list rfl) (by as_aux_lemma => kernel_rfl) (fun _ _ _ h => h) rfl ?yY511q1317 (by assumption) ?rY511q1317
  case yY511q1317 => (intro w h; go_simp <;> with_reducible rfl)
  try simp only [Act.put, List.setIfInBounds_toArray, List.set_cons_zero, List.set_cons_succ]
  refine hT (i := 18) (v := ?vY511q1318) (take_list rfl) (by as_aux_lemma => kernel_rfl) (fun _ _ _ h => h) rfl ?yY511q1318 (by assumption) ?rY511q1318
  case yY511q1318 => (intro w h; go_simp <;> with_reducible rfl)
  refine hT (i := 19) (v := ?vY511q1319) (take_list rfl) (by as_aux_lemma => kernel_rfl) (fun _ _ _ h => h) rfl ?yY511q1319 (by assumption) ?rY511q1319
  case yY511q1319 => (intro w h; go_simp <;> with_reducible rfl)
  refine hT (i := 20) (v := ?vY511q1320) (take_list rfl) (by as_aux_lemma => kernel_rfl) (fun _ _ _ h => h) rfl ?yY511q1320 (by assumption) ?rY511q1320
  case yY511q1320 => (intro w h; go_simp <;> with_reducible rfl)
  try simp only [Act.put, List.setIfInBounds_toArray, List.set_cons_zero, List.set_cons_succ]
  refine hT (i := 21) (v := ?vY511q1321) (take_list rfl) (by as_aux_lemma => kernel_rfl) (fun _ _ _ h => h) rfl ?yY511q1321 (by assumption) ?rY511q1321
  case yY511q1321 => (intro w h; go_simp <;> with_reducible rfl)
  refine hT (i := 22) (v := ?vY511q1322) (take_list rfl) (by as_aux_lemma => kernel_rfl) (fun _ _ _ h => h) rfl ?yY511q1322 (by assumption) ?rY511q1322
  case yY511q1322 => (intro w h; go_simp <;> with_reducible rfl)
  refine hT (i := 23) (v := ?vY511q1323) (take_list rfl) (by as_aux_lemma => kernel_rfl) (fun _ _ _ h => h) rfl ?yY511q1323 (by assumption) ?rY511q1323
  case yY511q1323 => (intro w h; go_simp <;> with_reducible rfl)
  try simp only [Act.put, List.setIfInBounds_toArray, List.set_cons_zero, List.set_cons_succ]
  refine hT (i := 24) (v := ?vY511q1324) (take_list rfl) (by as_aux_lemma => kernel_rfl) (fun _ _ _ h => h) rfl ?yY511q1324 (by assumption) ?rY511q1324
  case yY511q1324 => (intro w h; go_simp <;> with_reducible rfl)
  refine hT (i := 25) (v := ?vY511q1325) (take_list rfl) (by as_aux_lemma => kernel_rfl) (fun _ _ _ h => h) rfl ?yY511q1325 (by assumption) ?rY511q1325
  case yY511q1325 => (intro w h; go_simp <;> with_reducible rfl)
  refine hT (i := 26) (v := ?vY511q1326) (take_list rfl) (by as_aux_lemma => kernel_rfl) (fun _ _ _ h => h) rfl ?yY511q1326 (by assumption) ?rY511q1326
  case yY511q1326 => (intro w h; go_simp <;> with_reducible rfl)
  try simp only [Act.put, List.setIfInBounds_toArray, List.set_cons_zero, List.set_cons_succ]
  refine wpAnyH_ready (rs := [27]) (by kernel_rfl) (by simp) ?_
  refine AllReadyH.cons rfl (fun K hK => ?_) AllReadyH.nil
  go_simp
  go_wp2_with (go_at_call 14; refine (sGood p.r p.A p.c _).mono ?_; rintro e wg ⟨rfl, hb⟩; rw [qcY53]; have KB := Lib.hid (show Below wm.heap.size wm wg from (by first | exact hb | exact below_of_drew hb)); clear hb)
  clear hHeld
  refine hK.out _ _ ⟨keepc KB.out hgrz r0, keepc KB.out hgrz r1, keepc KB.out hgrz r2, keepc KB.out hgrz r3, keepc KB.out hgrz r4, keepc KB.out hgrz r5, keepc KB.out hgrz r6, keepc KB.out hgrz r7, keepc KB.out hgrz r8, keepc KB.out hgrz r9, keepc KB.out hgpz g0, keepc KB.out hgpz g1, keepc KB.out hzt t0, keepc KB.out hzt t1, keepc KB.out hzt t2, keepc KB.out hzt t3, keepc KB.out hzt t4, keepc KB.out hgz v0, keepc KB.out hgz v1⟩ (fun hHeld => ?_)
  clear hK K
  refine hT (i := 28) (v := ?vY511q1328) (take_list rfl) (by as_aux_lemma => kernel_rfl) (fun _ _ _ h => h) rfl ?yY511q1328 (by assumption) ?rY511q1328
  case yY511q1328 => (intro w h; go_simp <;> with_reducible rfl)
  refine hT (i := 29) (v := ?vY511q1329) (take_list rfl) (by as_aux_lemma => kernel_rfl) (fun _ _ _ h => h) rfl ?yY511q1329 (by assumption) ?rY511q1329
  case yY511q1329 => (intro w h; go_simp <;> with_reducible rfl)
  try simp only [Act.put, List.setIfInBounds_toArray, List.set_cons_zero, List.set_cons_succ]
  refine hT (i := 30) (v := ?vY511q1330) (take_list rfl) (by as_aux_lemma => kernel_rfl) (fun _ _ _ h => h) rfl ?yY511q1330 (by assumption) ?rY511q1330
  case yY511q1330 => (intro w h; go_simp <;> with_reducible rfl)
  refine hT (i := 31) (v := ?vY511q1331) (take_list rfl) (by as_aux_lemma => kernel_rfl) (fun _ _ _ h => h) rfl ?yY511q1331 (by assumption) ?rY511q1331
  case yY511q1331 => (intro w h; go_simp <;> with_reducible rfl)
  refine hT (i := 32) (v := ?vY511q1332) (take_list rfl) (by as_aux_lemma => kernel_rfl) (fun _ _ _ h => h) rfl ?yY511q1332 (by assumption) ?rY511q1332
  case yY511q1332 => (intro w h; go_simp <;> with_reducible rfl)
  try simp only [Act.put, List.setIfInBounds_toArray, List.set_cons_zero, List.set_cons_succ]
  refine hT (i := 33) (v := ?vY511q1333) (take_list rfl) (by as_aux_lemma => kernel_rfl) (fun _ _ _ h => h) rfl ?yY511q1333 (by assumption) ?rY511q1333
  case yY511q1333 => (intro w h; go_simp <;> with_reducible rfl)
  refine hT (i := 34) (v := ?vY511q1334) (take_list rfl) (by as_aux_lemma => kernel_rfl) (fun _ _ _ h => h) rfl ?yY511q1334 (by assumption) ?rY511q1334
  case yY511q1334 => (intro w h; go_simp <;> with_reducible rfl)
  refine hT (i := 35) (v := ?vY511q1335) (take_list rfl) (by as_aux_lemma => kernel_rfl) (fun _ _ _ h => h) rfl ?yY511q1335 (by assumption) ?rY511q1335
  case yY511q1335 => (intro w h; go_simp <;> with_reducible rfl)
  try simp only [Act.put, List.setIfInBounds_toArray, List.set_cons_zero, List.set_cons_succ]
  refine hT (i := 36) (v := ?vY511q1336) (take_list rfl) (by as_aux_lemma => kernel_rfl) (fun _ _ _ h => h) rfl ?yY511q1336 (by assumption) ?rY511q1336
  case yY511q1336 => (intro w h; go_simp <;> with_reducible rfl)
  refine hT (i := 37) (v := ?vY511q1337) (take_list rfl) (by as_aux_lemma => kernel_rfl) (fun _ _ _ h => h) rfl ?yY511q1337 (by assumption) ?rY511q1337
  case yY511q1337 => (intro w h; go_simp <;> with_reducible rfl)
  refine hT (i := 38) (v := ?vY511q1338) (take_list rfl) (by as_aux_lemma => kernel_rfl) (fun _ _ _ h => h) rfl ?yY511q1338 (by assumption) ?rY511q1338
  case yY511q1338 => (intro w h; go_simp <;> with_reducible rfl)
  try simp only [Act.put, List.setIfInBounds_toArray, List.set_cons_zero, List.set_cons_succ]
  refine hT (i := 39) (v := ?vY511q1339) (take_list rfl) (by as_aux_lemma => kernel_rfl) (fun _ _ _ h => h) rfl ?yY511q1339 (by assumption) ?rY511q1339
  case yY511q1339 => (intro w h; go_simp <;> with_reducible rfl)
  refine hT (i := 40) (v := ?vY511q1340) (take_list rfl) (by as_aux_lemma => kernel_rfl) (fun _ _ _ h => h) rfl ?yY511q1340 (by assumption) ?rY511q1340
  case yY511q1340 => (intro w h; go_simp <;> with_reducible rfl)
  refine hT (i := 41) (v := ?vY511q1341) (take_list rfl) (by as_aux_lemma => kernel_rfl) (fun _ _ _ h => h) rfl ?yY511q1341 (by assumption) ?rY511q1341
  case yY511q1341 => (intro w h; go_simp <;> with_reducible rfl)
  try simp only [Act.put, List.setIfInBounds_toArray, List.set_cons_zero, List.set_cons_succ]
  refine hT (i := 42) (v := ?vY511q1342) (take_list rfl) (by as_aux_lemma => kernel_rfl) (fun _ _ _ h => h) rfl ?yY511q1342 (by assumption) ?rY511q1342
  case yY511q1342 => (intro w h; go_simp <;> with_reducible rfl)
  refine hT (i := 43) (v := ?vY511q1343) (take_list rfl) (by as_aux_lemma => kernel_rfl) (fun _ _ _ h => h) rfl ?yY511q1343 (by assumption) ?rY511q1343
  case yY511q1343 => (intro w h; go_simp <;> with_reducible rfl)
  refine hT (i := 44) (v := ?vY511q1344) (take_list rfl) (by as_aux_lemma => kernel_rfl) (fun _ _ _ h => h) rfl ?yY511q1344 (by assumption) ?rY511q1344
  case yY511q1344 => (intro w h; go_simp <;> with_reducible rfl)
  try simp only [Act.put, List.setIfInBounds_toArray, List.set_cons_zero, List.set_cons_succ]
  refine hT (i := 45) (v := ?vY511q1345) (take_list rfl) (by as_aux_lemma => kernel_rfl) (fun _ _ _ h => h) rfl ?yY511q1345 (by assumption) ?rY511q1345
  case yY511q1345 => (intro w h; go_simp <;> with_reducible rfl)
  refine hT (i := 46) (v := ?vY511q1346) (take_list rfl) (by as_aux_lemma => kernel_rfl) (fun _ _ _ h => h) rfl ?yY511q1346 (by assumption) ?rY511q1346
  case yY511q1346 => (intro w h; go_simp <;> with_reducible rfl)
  refine hT (i := 47) (v := ?vY511q1347) (take_list rfl) (by as_aux_lemma => kernel_rfl) (fun _ _ _ h => h) rfl ?yY511q1347 (by assumption) ?rY511q1347
  case yY511q1347 => (intro w h; go_simp <;> with_reducible rfl)
  try simp only [Act.put, List.setIfInBounds_toArray, List.set_cons_zero, List.set_cons_succ]
  refine hT (i := 48) (v := ?vY511q1348) (take_list rfl) (by as_aux_lemma => kernel_rfl) (fun _ _ _ h => h) rfl ?yY511q1348 (by assumption) ?rY511q1348
  case yY511q1348 => (intro w h; go_simp <;> with_reducible rfl)
  refine hT (i := 49) (v := ?vY511q1349) (take_list rfl) (by as_aux_lemma => kernel_rfl) (fun _ _ _ h => h) rfl ?yY511q1349 (by assumption) ?rY511q1349
  case yY511q1349 => (intro w h; go_simp <;> with_reducible rfl)
  refine hT (i := 50) (v := ?vY511q1350) (take_list rfl) (by as_aux_lemma => kernel_rfl) (fun _ _ _ h => h) rfl ?yY511q1350 (by assumption) ?rY511q1350
  case yY511q1350 => (intro w h; go_simp <;> with_reducible rfl)
  try simp only [Act.put, List.setIfInBounds_toArray, List.set_cons_zero, List.set_cons_succ]
  refine hT (i := 51) (v := ?vY511q1351) (take_list rfl) (by as_aux_lemma => kernel_rfl) (fun _ _ _ h => h) rfl ?yY511q1351 (by assumption) ?rY511q1351
  case yY511q1351 => (intro w h; go_simp <;> with_reducible rfl)
  refine hT (i := 52) (v := ?vY511q1352) (take_list rfl) (by as_aux_lemma => kernel_rfl) (fun _ _ _ h => h) rfl ?yY511q1352 (by assumption) ?rY511q1352
  case yY511q1352 => (intro w h; go_simp <;> with_reducible rfl)
  refine hT (i := 53) (v := ?vY511q1353) (take_list rfl) (by as_aux_lemma => kernel_rfl) (fun _ _ _ h => h) rfl ?yY511q1353 (by assumption) ?rY511q1353
  case yY511q1353 => (intro w h; go_simp <;> with_reducible rfl)
  try simp only [Act.put, List.setIfInBounds_toArray, List.set_cons_zero, List.set_cons_succ]
  refine hT (i := 54) (v := ?vY511q1354) (take_list rfl) (by as_aux_lemma => kernel_rfl) (fun _ _ _ h => h) rfl ?yY511q1354 (by assumption) ?rY511q1354
  case yY511q1354 => (intro w h; go_simp <;> with_reducible rfl)
  refine hT (i := 55) (v := ?vY511q1355) (take_list rfl) (by as_aux_lemma => kernel_rfl) (fun _ _ _ h => h) rfl ?yY511q1355 (by assumption) ?rY511q1355
  case yY511q1355 => (intro w h; go_simp <;> with_reducible rfl)
  refine hT (i := 56) (v := ?vY511q1356) (take_list rfl) (by as_aux_lemma => kernel_rfl) (fun _ _ _ h => h) rfl ?yY511q1356 (by assumption) ?rY511q1356
  case yY511q1356 => (intro w h; go_simp <;> with_reducible rfl)
  try simp only [Act.put, List.setIfInBounds_toArray, List.set_cons_zero, List.set_cons_succ]
  refine hT (i := 57) (v := ?vY511q1357) (take_list rfl) (by as_aux_lemma => kernel_rfl) (fun _ _ _ h => h) rfl ?yY511q1357 (by assumption) ?rY511q1357
  case yY511q1357 => (intro w h; go_simp <;> with_reducible rfl)
  refine hT (i := 58) (v := ?vY511q1358) (take_list rfl) (by as_aux_lemma => kernel_rfl) (fun _ _ _ h => h) rfl ?yY511q1358 (by assumption) ?rY511q1358
  case yY511q1358 => (intro w h; go_simp <;> with_reducible rfl)
  refine hT (i := 59) (v := ?vY511q1359) (take_list rfl) (by as_aux_lemma => kernel_rfl) (fun _ _ _ h => h) rfl ?yY511q1359 (by assumption) ?rY511q1359
  case yY511q1359 => (intro w h; go_simp <;> with_reducible rfl)
  try simp only [Act.put, List.setIfInBounds_toArray, List.set_cons_zero, List.set_cons_succ]
  refine hT (i := 60) (v := ?vY511q1360) (take_list rfl) (by as_aux_lemma => kernel_rfl) (fun _ _ _ h => h) rfl ?yY511q1360 (by assumption) ?rY511q1360
  case yY511q1360 => (intro w h; go_simp <;> with_reducible rfl)
  refine hT (i := 61) (v := ?vY511q1361) (take_list rfl) (by as_aux_lemma => kernel_rfl) (fun _ _ _ h => h) rfl ?yY511q1361 (by assumption) ?rY511q1361
  case yY511q1361 => (intro w h; go_simp <;> with_reducible rfl)
  refine hT (i := 62) (v := ?vY511q1362) (take_list rfl) (by as_aux_lemma => kernel_rfl) (fun _ _ _ h => h) rfl ?yY511q1362 (by assumption) ?rY511q1362
  case yY511q1362 => (intro w h; go_simp <;> with_reducible rfl)
  try simp only [Act.put, List.setIfInBounds_toArray, List.set_cons_zero, List.set_cons_succ]
  refine hT (i := 63) (v := ?vY511q1363) (take_list rfl) (by as_aux_lemma => kernel_rfl) (fun _ _ _ h => h) rfl ?yY511q1363 (by assumption) ?rY511q1363
  case yY511q1363 => (intro w h; go_simp <;> with_reducible rfl)
  refine hT (i := 64) (v := ?vY511q1364) (take_list rfl) (by as_aux_lemma => kernel_rfl) (fun _ _ _ h => h) rfl ?yY511q1364 (by assumption) ?rY511q1364
  case yY511q1364 => (intro w h; go_simp <;> with_reducible rfl)
  refine hT (i := 65) (v := ?vY511q1365) (take_list rfl) (by as_aux_lemma => kernel_rfl) (fun _ _ _ h => h) rfl ?yY511q1365 (by assumption) ?rY511q1365
  case yY511q1365 => (intro w h; go_simp <;> with_reducible rfl)
  try simp only [Act.put, List.setIfInBounds_toArray, List.set_cons_zero, List.set_cons_succ]
  refine hT (i := 66) (v := ?vY511q1366) (take_list rfl) (by as_aux_lemma => kernel_rfl) (fun _ _ _ h => h) rfl ?yY511q1366 (by assumption) ?rY511q1366
  case yY511q1366 => (intro w h; go_simp <;> with_reducible rfl)
  refine hT (i := 67) (v := ?vY511q1367) (take_list rfl) (by as_aux_lemma => kernel_rfl) (fun _ _ _ h => h) rfl ?yY511q1367 (by assumption) ?rY511q1367
  case yY511q1367 => (intro w h; go_simp <;> with_reducible rfl)
  refine hT (i := 68) (v := ?vY511q1368) (take_list rfl) (by as_aux_lemma => kernel_rfl) (fun _ _ _ h => h) rfl ?yY511q1368 (by assumption) ?rY511q1368
  case yY511q1368 => (intro w h; go_simp <;> with_reducible rfl)
  try simp only [Act.put, List.setIfInBounds_toArray, List.set_cons_zero, List.set_cons_succ]
  refine hT (i := 69) (v := ?vY511q1369) (take_list rfl) (by as_aux_lemma => kernel_rfl) (fun _ _ _ h => h) rfl ?yY511q1369 (by assumption) ?rY511q1369
  case yY511q1369 => (intro w h; go_simp <;> with_reducible rfl)
  refine hT (i := 70) (v := ?vY511q1370) (take_list rfl) (by as_aux_lemma => kernel_rfl) (fun _ _ _ h => h) rfl ?yY511q1370 (by assumption) ?rY511q1370
  case yY511q1370 => (intro w h; go_simp <;> with_reducible rfl)
  refine hT (i := 71) (v := ?vY511q1371) (take_list rfl) (by as_aux_lemma => kernel_rfl) (fun _ _ _ h => h) rfl ?yY511q1371 (by assumption) ?rY511q1371
  case yY511q1371 => (intro w h; go_simp <;> with_reducible rfl)
  try simp only [Act.put, List.setIfInBounds_toArray, List.set_cons_zero, List.set_cons_succ]
  refine hT (i := 72) (v := ?vY511q1372) (take_list rfl) (by as_aux_lemma => kernel_rfl) (fun _ _ _ h => h) rfl ?yY511q1372 (by assumption) ?rY511q1372
  case yY511q1372 => (intro w h; go_simp <;> with_reducible rfl)
  refine hT (i := 73) (v := ?vY511q1373) (take_list rfl) (by as_aux_lemma => kernel_rfl) (fun _ _ _ h => h) rfl ?yY511q1373 (by assumption) ?rY511q1373
  case yY511q1373 => (intro w h; go_simp <;> with_reducible rfl)
  refine hT (i := 74) (v := ?vY511q1374) (take_list rfl) (by as_aux_lemma => kernel_rfl) (fun _ _ _ h => h) rfl ?yY511q1374 (by assumption) ?rY511q1374
  case yY511q1374 => (intro w h; go_simp <;> with_reducible rfl)
  try simp only [Act.put, List.setIfInBounds_toArray, List.set_cons_zero, List.set_cons_succ]
  refine hT (i := 75) (v := ?vY511q1375) (take_list rfl) (by as_aux_lemma => kernel_rfl) (fun _ _ _ h => h) rfl ?yY511q1375 (by assumption) ?rY511q1375
  case yY511q1375 => (intro w h; go_simp <;> with_reducible rfl)
  refine wpAnyH_done (by kernel_rfl) ?_ _
  go_wp2_with fail
  go_ret
  rw [any_here HPI.out V.out]
  exact ⟨rfl, B0.out.trans ((BM0.out.trans ((show Below wm.heap.size wm _ from by first | exact KB.out | exact below_drewed _ wm | exact below_of_drew KB.out).mono (by omega))).mono (by omega))⟩
end Go.Proofs.Ythceidacmeadkaa
