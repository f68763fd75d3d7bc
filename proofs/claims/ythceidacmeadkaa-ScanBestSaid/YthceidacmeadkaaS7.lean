/- The copies that records come to: the walk. No condition beyond those that each theorem states. -/
import Derived.Test.YthceidacmeadkaaS7a
import Derived.Test.YthceidacmeadkaaSI2
import Derived.Stop.RegionWithIn
namespace Go.Proofs.Ythceidacmeadkaa
open Go.RowKit Go.Maps Go.WideMaps
attribute [local go_sem] Oper.semAt_some

theorem cell_far5 {w : World} {b i g : Nat} {v v0 v1 v2 v3 v4 : Value} (h : w.cell? ⟨b, i, none⟩ = some v) (hne : g ≠ b) :
    (((((w.setCell ⟨g, 0, none⟩ v0).setCell ⟨g, 1, none⟩ v1).setCell ⟨g, 2, none⟩ v2).setCell ⟨g, 3, none⟩ v3).setCell ⟨g, 4, none⟩ v4).cell? ⟨b, i, none⟩ = some v := by
  rw [World.cell?_setCell_far _ _ _ _ hne, World.cell?_setCell_far _ _ _ _ hne, World.cell?_setCell_far _ _ _ _ hne, World.cell?_setCell_far _ _ _ _ hne, World.cell?_setCell_far _ _ _ _ hne]
  exact h
theorem cell_keptd {w : World} {b i : Nat} {v : Value} (h : w.cell? ⟨b, i, none⟩ = some v) (o : Obj) : (w.alloc o).drew.cell? ⟨b, i, none⟩ = some v := cell_kept h o
def CopiesI (w : World) (A : Option Addr) (n c : Nat) (G : Nat → FoundP) (pre : List FoundP) (W : World) : Prop := ∃ CL, CopiesAt w A n c G pre pre CL W
set_option maxHeartbeats 8000000 in
set_option maxRecDepth 100000 in
theorem sCopies (A : Option Addr) (n c : Nat) (G : Nat → FoundP) (w : World) (hin : FoundsIn w A n G) (hn : n ≤ 1000000) :
    Calls Try.prog 19 #[.slice A n c] w fun e w' => e = .returned (.map (some w.heap.size)) ∧ CopiesI w A n c G (sel G n) w' := by
  have IN := Lib.hid hin
  clear hin
  have hmm := @run_makeMap Try.prog
  refine (callsIn_wide (n := 3)).1 (callsIn_of_wp_marks Try.func19 rfl trivial ?_ rfl)
  simp only [Try.ntmps19, List.size_toArray, List.length_cons, List.length_nil, Nat.reduceAdd, Nat.reduceSub, Array.replicate_succ, Array.replicate_zero, List.push_toArray, List.append_toArray, List.nil_append, List.cons_append]
  gi_wp2_with (refine ⟨trivial, ?_⟩; gi_at_call 39; refine (callsIn_wide.2 (sCounts A n c _)).mono ?_; rintro e w1 ⟨rfl, rfl⟩)
  obtain ⟨v, hv⟩ : ∃ v, (((w.alloc (.map #[] 0)).alloc (.cells #[.map (some w.heap.size)] 56)).alloc (.cells #[.slice A n c] 22)) = v := ⟨_, rfl⟩
  have hvs : v.heap.size = w.heap.size + 3 := by rw [← hv]; simp
  have GA0 := Lib.hid (show CopiesI w A n c G [] v by
    rw [← hv]
    have hb : Below w.heap.size w ((w.alloc (.map #[] 0)).alloc (.cells #[.map (some w.heap.size)] 56) |>.alloc (.cells #[.slice A n c] 22)) := (((Below.refl _ w).alloc (Nat.le_refl _) _).alloc (by simp) _).alloc (by simp; omega) _
    refine ⟨[], ⟨0, ?_, Nat.le_refl _⟩, ?_, ?_, IN.out.below hb, fun e he => (by cases he), by simp, fun e he => (by cases he), fun p hp => (by cases hp), hb⟩
    · have h := MapAt.made (blobKey ()) (.slice none 0 0) w
      exact (h.of_eq (Below.heap_alloc _ _ _ h.lt)).of_eq (Below.heap_alloc _ _ _ (by simp; omega))
    · exact (Blk.made' _ _ _ (by simp)).alloc _
    · exact Blk.made' _ _ _ (by simp))
  rw [hv]
  clear hv hmm
  refine range_iter (w := v) (enters_of Try.func51 (by kernel_rfl) rfl) (counts_it (w.heap.size + 2) A n c G (by omega)) rfl (fun _ => rfl) (CopiesI w A n c G) (fun _ _ => False) (fun _ _ _ ⟨CL, h⟩ hb => ⟨CL, h.below hb⟩) (fun _ _ ⟨CL, h⟩ => ⟨h.box, h.list⟩) ?hIp (fun _ _ _ _ _ _ _ h => h) GA0.out
    (fun x W => W.alloc (.cells (foundCells x) 39)) (fun _ W => (Below.refl _ W).alloc (Nat.le_refl _) _)
    (fun x W => { tmps := #[.slice A n c, undef, .map none, .pointer (some ⟨w.heap.size + 1, 0, none⟩), .pointer (some ⟨W.heap.size, 0, none⟩), undef, undef, .map (some w.heap.size), .slice A n c, .func (.func 51) #[] #[.pointer (some ⟨w.heap.size + 1 + 1, 0, none⟩)], .agg (foundCells x), undef, undef, undef, undef, undef, undef, undef, undef, undef, undef, undef, undef, undef, undef, undef, undef, undef, undef, undef, undef, undef, undef, undef, undef, undef, undef, undef, undef, undef, undef, undef, undef, undef, undef, undef, undef, undef, undef, undef, undef, undef, undef, undef], defers := [] }) ?assign ?body ?done (fun _ _ _ h _ => h.elim)
  case hIp =>
    intro pre W k o h1 h2 _ ⟨CL, ⟨N, hm, hN⟩, a2, a3, a4, a5, a6, a7, a8, a9⟩
    rw [hvs] at h1 h2
    have hb : Below w.heap.size W (W.putObj k o) := ⟨rfl, rfl, rfl, by simp, fun j hj => World.putObj_heap_other (by omega)⟩
    exact ⟨CL, ⟨N, hm.of_eq (World.putObj_heap_other (by omega)), hN⟩, a2.of_eq (World.putObj_heap_other (by omega)), a3.of_eq (World.putObj_heap_other (by omega)), IN.out.below (a9.trans hb), fun e he => ⟨(a5 e he).1, (a5 e he).2.of_eq (World.putObj_heap_other (by have := (a5 e he).1; omega))⟩, a6, a7, a8, a9.trans hb⟩
  case assign =>
    intro l x W K hK
    unfold foundCells at *
    gi_wp2
    exact hK
  case body =>
    intro l pre x W0 W hpf _ hI hz hsz hblk
    obtain ⟨CL, hI⟩ := hI
    rw [hvs] at hz hblk
    have GA := Lib.hid hI
    obtain ⟨N, hmap, hN⟩ := hI.map
    have hpl : pre.length ≤ n := by
      have h1 := hpf.length_le
      have h2 : (sel G n).length ≤ n := by unfold sel; exact Nat.le_trans (List.length_filter_le _ _) (by simp)
      simp only [List.length_append, List.length_singleton] at h1
      omega
    have hokx := sel_ok (pre_mem hpf)
    have hokp : ∀ p ∈ pre, okF p = true := fun p hp => sel_ok (hpf.subset (List.mem_append_left _ hp))
    have OKP := Lib.hid hokp
    have XF := Lib.hid (show Blk W W0.heap.size 39 (foundCells x) from (Blk.made _ _ _).of_eq (hblk _ (by omega)))
    have hWs : W0.heap.size < W.heap.size := XF.out.size
    have y0 : W.cell? ⟨W0.heap.size, 0, none⟩ = some (.int .i64 x.cart) := XF.out.cell 0
    have y1 : W.cell? ⟨W0.heap.size, 1, none⟩ = some (.int .i64 x.pos) := XF.out.cell 1
    have y2 : W.cell? ⟨W0.heap.size, 2, none⟩ = some (.int .i64 x.r.kind) := XF.out.cell 2
    have y3 : W.cell? ⟨W0.heap.size, 3, none⟩ = some (.int .i64 x.r.cart) := XF.out.cell 3
    have y4 : W.cell? ⟨W0.heap.size, 4, none⟩ = some (strV x.r.key) := XF.out.cell 4
    have y5 : W.cell? ⟨W0.heap.size, 5, none⟩ = some (.int .i64 x.r.gen) := XF.out.cell 5
    have y6 : W.cell? ⟨W0.heap.size, 6, none⟩ = some (.int .i64 x.r.group) := XF.out.cell 6
    have y7 : W.cell? ⟨W0.heap.size, 7, none⟩ = some (.int .i64 x.r.groups) := XF.out.cell 7
    have y8 : W.cell? ⟨W0.heap.size, 8, none⟩ = some (.int .i64 x.r.index) := XF.out.cell 8
    have y9 : W.cell? ⟨W0.heap.size, 9, none⟩ = some (.int .i64 x.r.size) := XF.out.cell 9
    have y10 : W.cell? ⟨W0.heap.size, 10, none⟩ = some (strV x.r.sum) := XF.out.cell 10
    have y11 : W.cell? ⟨W0.heap.size, 11, none⟩ = some (.slice x.A x.r.data.length x.c) := XF.out.cell 11
    have k1 : W.cell? ⟨w.heap.size + 1, 0, none⟩ = some (.map (some w.heap.size)) := hI.cm.cell 0
    clear hI hsz hblk hokp
    rw [hvs]
    by_cases hk : x.r.kind = 2
    · have qk : (x.r.kind != 2) = false := by simpa using hk
      obtain ⟨hob, hsl, hg0, hi0, hss, hpos, hi9, hg9, hsg⟩ := shard_facts hokx hk
      obtain ⟨s, hs⟩ : ∃ s : Nat, x.r.group * 10 + x.r.index = (s : Int) := ⟨(x.r.group * 10 + x.r.index).toNat, by omega⟩
      obtain ⟨b, hb⟩ : ∃ b, ofR x.r = b := ⟨_, rfl⟩
      rw [hb] at hob hsl hss hsg
      have HB := Lib.hid hb
      have HK := Lib.hid hk
      have HS := Lib.hid hs
      have HSG := Lib.hid hsg
      obtain ⟨k, hkk⟩ : ∃ k, slotsB b = k := ⟨_, rfl⟩
      have HKK := Lib.hid hkk
      rw [hkk] at hsl hss
      have hsk : s < k := by omega
      have pm1 : IntKind.i64.wrap (x.r.group * 10) = x.r.group * 10 := IntWalk.i64_in _ (by omega)
      have pm2 : IntKind.i64.wrap (x.r.group * 10 + x.r.index) = (s : Int) := by rw [IntWalk.i64_in _ (by omega)]; exact hs
      have SO := Lib.hid (show ∀ W, Calls Try.prog 40 #[recV x.r x.A x.c] W fun e w' => e = .returned (.agg (blobCells b)) ∧ Below W.heap.size W w' by rw [← hb]; exact fun W => sOf x.r x.A x.c W)
      simp only [recV, recCells, blobCells] at SO
      clear hb hk hs hsg hkk hokx
      have hneW : W.heap.size ≠ W0.heap.size := by omega
      gi_upto_region 5 with fail
      gi_cut [5, 6] from 15 (fun pv sv wx => ∃ g, pv = .pointer (some ⟨g, 0, none⟩) ∧ sv = .int .i64 (s : Int) ∧ Blk wx g 59 (blobCells b) ∧ W.heap.size ≤ g ∧ Below W.heap.size W wx)
      case first =>
        refine wpIn_region_held (S := (fun w' => w'.cell? ⟨W0.heap.size, 2, none⟩ = some (.int .i64 x.r.kind) ∧ w'.cell? ⟨W0.heap.size, 3, none⟩ = some (.int .i64 x.r.cart) ∧ w'.cell? ⟨W0.heap.size, 4, none⟩ = some (strV x.r.key) ∧ w'.cell? ⟨W0.heap.size, 5, none⟩ = some (.int .i64 x.r.gen) ∧ w'.cell? ⟨W0.heap.size, 6, none⟩ = some (.int .i64 x.r.group) ∧ w'.cell? ⟨W0.heap.size, 7, none⟩ = some (.int .i64 x.r.groups) ∧ w'.cell? ⟨W0.heap.size, 8, none⟩ = some (.int .i64 x.r.index) ∧ w'.cell? ⟨W0.heap.size, 9, none⟩ = some (.int .i64 x.r.size) ∧ w'.cell? ⟨W0.heap.size, 10, none⟩ = some (strV x.r.sum) ∧ w'.cell? ⟨W0.heap.size, 11, none⟩ = some (.slice x.A x.r.data.length x.c))) (by kernel_rfl) (fun ⟨_, _, h⟩ => h) (by kernel_rfl) ⟨y2, y3, y4, y5, y6, y7, y8, y9, y10, y11⟩ (fun hHeld => ?_)
        refine wpAnyH_take (i := 0) (v := ?vC5n10) (take_list rfl) (by kernel_rfl) (by kernel_rfl) (by kernel_rfl) (fun _ _ _ h => h) (Or.inl ⟨by rfl, ?hyC5n10⟩) (by assumption) ?restC5n10
        case hyC5n10 => (intro w hSw; (try dsimp only at hSw); go_simp <;> with_reducible rfl)
        try simp only [Act.put, List.setIfInBounds_toArray, List.set_cons_zero, List.set_cons_succ]
        refine wpAnyH_take (i := 1) (v := ?vC5n11) (take_list rfl) (by kernel_rfl) (by kernel_rfl) (by kernel_rfl) (fun _ _ _ h => h) (Or.inl ⟨by rfl, ?hyC5n11⟩) (by assumption) ?restC5n11
        case hyC5n11 => (intro w hSw; (try dsimp only at hSw); go_simp <;> with_reducible rfl)
        try simp only [Act.put, List.setIfInBounds_toArray, List.set_cons_zero, List.set_cons_succ]
        refine wpAnyH_take (i := 3) (v := ?vC5n13) (take_list rfl) (by kernel_rfl) (by kernel_rfl) (by kernel_rfl) (fun _ _ _ h => h) (Or.inl ⟨by rfl, ?hyC5n13⟩) (by assumption) ?restC5n13
        case hyC5n13 => (intro w hSw; (try dsimp only at hSw); go_simp <;> with_reducible rfl)
        try simp only [Act.put, List.setIfInBounds_toArray, List.set_cons_zero, List.set_cons_succ]
        refine wpAnyH_take (i := 4) (v := ?vC5n14) (take_list rfl) (by kernel_rfl) (by kernel_rfl) (by kernel_rfl) (fun _ _ _ h => h) (Or.inl ⟨by rfl, ?hyC5n14⟩) (by assumption) ?restC5n14
        case hyC5n14 => (intro w hSw; (try dsimp only at hSw); go_simp <;> with_reducible rfl)
        try simp only [Act.put, List.setIfInBounds_toArray, List.set_cons_zero, List.set_cons_succ]
        refine wpAnyH_take (i := 5) (v := ?vC5n15) (take_list rfl) (by kernel_rfl) (by kernel_rfl) (by kernel_rfl) (fun _ _ _ h => h) (Or.inl ⟨by rfl, ?hyC5n15⟩) (by assumption) ?restC5n15
        case hyC5n15 => (intro w hSw; (try dsimp only at hSw); go_simp <;> with_reducible rfl)
        try simp only [Act.put, List.setIfInBounds_toArray, List.set_cons_zero, List.set_cons_succ]
        refine wpAnyH_take (i := 6) (v := ?vC5n16) (take_list rfl) (by kernel_rfl) (by kernel_rfl) (by kernel_rfl) (fun _ _ _ h => h) (Or.inl ⟨by rfl, ?hyC5n16⟩) (by assumption) ?restC5n16
        case hyC5n16 => (intro w hSw; (try dsimp only at hSw); go_simp <;> with_reducible rfl)
        try simp only [Act.put, List.setIfInBounds_toArray, List.set_cons_zero, List.set_cons_succ]
        refine wpAnyH_take (i := 7) (v := ?vC5n17) (take_list rfl) (by kernel_rfl) (by kernel_rfl) (by kernel_rfl) (fun _ _ _ h => h) (Or.inl ⟨by rfl, ?hyC5n17⟩) (by assumption) ?restC5n17
        case hyC5n17 => (intro w hSw; (try dsimp only at hSw); go_simp <;> with_reducible rfl)
        try simp only [Act.put, List.setIfInBounds_toArray, List.set_cons_zero, List.set_cons_succ]
        refine wpAnyH_take (i := 8) (v := ?vC5n18) (take_list rfl) (by kernel_rfl) (by kernel_rfl) (by kernel_rfl) (fun _ _ _ h => h) (Or.inl ⟨by rfl, ?hyC5n18⟩) (by assumption) ?restC5n18
        case hyC5n18 => (intro w hSw; (try dsimp only at hSw); go_simp <;> with_reducible rfl)
        try simp only [Act.put, List.setIfInBounds_toArray, List.set_cons_zero, List.set_cons_succ]
        refine wpAnyH_take (i := 9) (v := ?vC5n19) (take_list rfl) (by kernel_rfl) (by kernel_rfl) (by kernel_rfl) (fun _ _ _ h => h) (Or.inl ⟨by rfl, ?hyC5n19⟩) (by assumption) ?restC5n19
        case hyC5n19 => (intro w hSw; (try dsimp only at hSw); go_simp <;> with_reducible rfl)
        try simp only [Act.put, List.setIfInBounds_toArray, List.set_cons_zero, List.set_cons_succ]
        refine wpAnyH_take (i := 10) (v := ?vC5n110) (take_list rfl) (by kernel_rfl) (by kernel_rfl) (by kernel_rfl) (fun _ _ _ h => h) (Or.inl ⟨by rfl, ?hyC5n110⟩) (by assumption) ?restC5n110
        case hyC5n110 => (intro w hSw; (try dsimp only at hSw); go_simp <;> with_reducible rfl)
        try simp only [Act.put, List.setIfInBounds_toArray, List.set_cons_zero, List.set_cons_succ]
        refine wpAnyH_ready (rs := [2, 11]) (by kernel_rfl) (by simp) ?_
        refine AllReadyH.cons rfl (fun K hK => ?_) (AllReadyH.cons rfl (fun K hK => ?_) AllReadyH.nil)
        · have hKp := PLift.up hK
          clear hK
          go_simp
          go_wp2_with (go_at_call 40; refine (SO.out _).mono ?_; rintro e w5 ⟨rfl, hb5⟩; have X5 := Lib.hid (show Blk w5 W0.heap.size 39 (foundCells x) by first | exact (show Blk W.drew W0.heap.size 39 (foundCells x) from XF.out).below hb5 XF.out.size | exact ((show Blk W.drew W0.heap.size 39 (foundCells x) from XF.out).alloc _).below hb5 ((show Blk W.drew W0.heap.size 39 (foundCells x) from XF.out).alloc _).size); have hlt5 : W0.heap.size < w5.heap.size := X5.out.size; have z2 : w5.cell? ⟨W0.heap.size, 2, none⟩ = some (.int .i64 x.r.kind) := X5.out.cell 2; have z3 : w5.cell? ⟨W0.heap.size, 3, none⟩ = some (.int .i64 x.r.cart) := X5.out.cell 3; have z4 : w5.cell? ⟨W0.heap.size, 4, none⟩ = some (strV x.r.key) := X5.out.cell 4; have z5 : w5.cell? ⟨W0.heap.size, 5, none⟩ = some (.int .i64 x.r.gen) := X5.out.cell 5; have z6 : w5.cell? ⟨W0.heap.size, 6, none⟩ = some (.int .i64 x.r.group) := X5.out.cell 6; have z7 : w5.cell? ⟨W0.heap.size, 7, none⟩ = some (.int .i64 x.r.groups) := X5.out.cell 7; have z8 : w5.cell? ⟨W0.heap.size, 8, none⟩ = some (.int .i64 x.r.index) := X5.out.cell 8; have z9 : w5.cell? ⟨W0.heap.size, 9, none⟩ = some (.int .i64 x.r.size) := X5.out.cell 9; have z10 : w5.cell? ⟨W0.heap.size, 10, none⟩ = some (strV x.r.sum) := X5.out.cell 10; have z11 : w5.cell? ⟨W0.heap.size, 11, none⟩ = some (.slice x.A x.r.data.length x.c) := X5.out.cell 11; have B5 := Lib.hid (show Below W.heap.size W w5 by first | exact below_of_drew hb5 | exact ((below_drew3 (Below.refl W.heap.size W)).alloc (Nat.le_refl _) _).trans (hb5.mono (by simp))); first | (have Q5 := Lib.hid (show Blk w5 W.heap.size 59 #[.string ⟨#[]⟩, .int .i64 0, .int .i64 0, .int .i64 0, .string ⟨#[]⟩] from (Blk.made W.drew _ _).below hb5 (by simp)); have q0 : w5.cell? ⟨W.heap.size, 0, none⟩ = some (.string ⟨#[]⟩) := Q5.out.cell 0; have g0 : w5.frozen? ⟨W.heap.size, 0, none⟩ = false := Q5.out.free 0; have q1 : w5.cell? ⟨W.heap.size, 1, none⟩ = some (.int .i64 0) := Q5.out.cell 1; have g1 : w5.frozen? ⟨W.heap.size, 1, none⟩ = false := Q5.out.free 1; have q2 : w5.cell? ⟨W.heap.size, 2, none⟩ = some (.int .i64 0) := Q5.out.cell 2; have g2 : w5.frozen? ⟨W.heap.size, 2, none⟩ = false := Q5.out.free 2; have q3 : w5.cell? ⟨W.heap.size, 3, none⟩ = some (.int .i64 0) := Q5.out.cell 3; have g3 : w5.frozen? ⟨W.heap.size, 3, none⟩ = false := Q5.out.free 3; have q4 : w5.cell? ⟨W.heap.size, 4, none⟩ = some (.string ⟨#[]⟩) := Q5.out.cell 4; have g4 : w5.frozen? ⟨W.heap.size, 4, none⟩ = false := Q5.out.free 4) | skip; clear hb5)
          have hK := hKp.down
          clear hKp
          clear hHeld
          refine hK.out _ _ ⟨z2, z3, z4, z5, z6, z7, z8, z9, z10, z11⟩ (fun hHeld => ?_)
          clear hK K
          refine wpAnyH_ready (rs := [11]) (by kernel_rfl) (by simp) ?_
          refine AllReadyH.cons rfl (fun K hK => ?_) AllReadyH.nil
          have hKp := PLift.up hK
          clear hK
          go_simp
          have hK := hKp.down
          clear hKp
          clear hHeld
          refine hK.out _ _ (by first | with_reducible exact ⟨cell_kept z2 _, cell_kept z3 _, cell_kept z4 _, cell_kept z5 _, cell_kept z6 _, cell_kept z7 _, cell_kept z8 _, cell_kept z9 _, cell_kept z10 _, cell_kept z11 _⟩ | with_reducible exact ⟨cell_keptd y2 _, cell_keptd y3 _, cell_keptd y4 _, cell_keptd y5 _, cell_keptd y6 _, cell_keptd y7 _, cell_keptd y8 _, cell_keptd y9 _, cell_keptd y10 _, cell_keptd y11 _⟩) (fun hHeld => ?_)
          clear hK K
          refine wpAnyH_ready (rs := [12]) (by kernel_rfl) (by simp) ?_
          refine AllReadyH.cons rfl (fun K hK => ?_) AllReadyH.nil
          have hKp := PLift.up hK
          clear hK
          go_simp
          have hK := hKp.down
          clear hKp
          clear hHeld
          refine hK.out _ _ (by first | with_reducible exact ⟨cell_kept z2 _, cell_kept z3 _, cell_kept z4 _, cell_kept z5 _, cell_kept z6 _, cell_kept z7 _, cell_kept z8 _, cell_kept z9 _, cell_kept z10 _, cell_kept z11 _⟩ | with_reducible exact ⟨cell_far5 z2 hneW, cell_far5 z3 hneW, cell_far5 z4 hneW, cell_far5 z5 hneW, cell_far5 z6 hneW, cell_far5 z7 hneW, cell_far5 z8 hneW, cell_far5 z9 hneW, cell_far5 z10 hneW, cell_far5 z11 hneW⟩) (fun hHeld => ?_)
          clear hK K
          refine wpAnyH_take (i := 13) (v := ?vC5n1b213) (take_list rfl) (by kernel_rfl) (by kernel_rfl) (by kernel_rfl) (fun _ _ _ h => h) (Or.inl ⟨by rfl, ?hyC5n1b213⟩) (by assumption) ?restC5n1b213
          case hyC5n1b213 => (intro w hSw; (try dsimp only at hSw); go_simp <;> with_reducible rfl)
          try simp only [Act.put, List.setIfInBounds_toArray, List.set_cons_zero, List.set_cons_succ]
          refine wpAnyH_done (by kernel_rfl) ?_ _
          gi_step
          gi_step
          gi_meet
          first
            | (refine ⟨w5.heap.size, ?_, ?_⟩; (with_reducible rfl); exact ⟨rfl, Blk.made _ _ _, B5.out.size, B5.out.alloc B5.out.size _⟩)
            | (refine ⟨W.heap.size, ?_, ?_⟩; (with_reducible rfl); exact ⟨rfl, ((((Q5.out.store 0 _).store 1 _).store 2 _).store 3 _).store 4 _, Nat.le_refl _, ((((B5.out.setCell (p := ⟨W.heap.size, 0, none⟩) (Nat.le_refl _) _).setCell (p := ⟨W.heap.size, 1, none⟩) (Nat.le_refl _) _).setCell (p := ⟨W.heap.size, 2, none⟩) (Nat.le_refl _) _).setCell (p := ⟨W.heap.size, 3, none⟩) (Nat.le_refl _) _).setCell (p := ⟨W.heap.size, 4, none⟩) (Nat.le_refl _) _⟩)
        · have hKp := PLift.up hK
          clear hK
          go_simp
          have hK := hKp.down
          clear hKp
          clear hHeld
          refine hK.out _ _ (by first | with_reducible exact ⟨cell_kept z2 _, cell_kept z3 _, cell_kept z4 _, cell_kept z5 _, cell_kept z6 _, cell_kept z7 _, cell_kept z8 _, cell_kept z9 _, cell_kept z10 _, cell_kept z11 _⟩ | with_reducible exact ⟨cell_keptd y2 _, cell_keptd y3 _, cell_keptd y4 _, cell_keptd y5 _, cell_keptd y6 _, cell_keptd y7 _, cell_keptd y8 _, cell_keptd y9 _, cell_keptd y10 _, cell_keptd y11 _⟩) (fun hHeld => ?_)
          clear hK K
          refine wpAnyH_ready (rs := [2]) (by kernel_rfl) (by simp) ?_
          refine AllReadyH.cons rfl (fun K hK => ?_) AllReadyH.nil
          have hKp := PLift.up hK
          clear hK
          go_simp
          go_wp2_with (go_at_call 40; refine (SO.out _).mono ?_; rintro e w5 ⟨rfl, hb5⟩; have X5 := Lib.hid (show Blk w5 W0.heap.size 39 (foundCells x) by first | exact (show Blk W.drew W0.heap.size 39 (foundCells x) from XF.out).below hb5 XF.out.size | exact ((show Blk W.drew W0.heap.size 39 (foundCells x) from XF.out).alloc _).below hb5 ((show Blk W.drew W0.heap.size 39 (foundCells x) from XF.out).alloc _).size); have hlt5 : W0.heap.size < w5.heap.size := X5.out.size; have z2 : w5.cell? ⟨W0.heap.size, 2, none⟩ = some (.int .i64 x.r.kind) := X5.out.cell 2; have z3 : w5.cell? ⟨W0.heap.size, 3, none⟩ = some (.int .i64 x.r.cart) := X5.out.cell 3; have z4 : w5.cell? ⟨W0.heap.size, 4, none⟩ = some (strV x.r.key) := X5.out.cell 4; have z5 : w5.cell? ⟨W0.heap.size, 5, none⟩ = some (.int .i64 x.r.gen) := X5.out.cell 5; have z6 : w5.cell? ⟨W0.heap.size, 6, none⟩ = some (.int .i64 x.r.group) := X5.out.cell 6; have z7 : w5.cell? ⟨W0.heap.size, 7, none⟩ = some (.int .i64 x.r.groups) := X5.out.cell 7; have z8 : w5.cell? ⟨W0.heap.size, 8, none⟩ = some (.int .i64 x.r.index) := X5.out.cell 8; have z9 : w5.cell? ⟨W0.heap.size, 9, none⟩ = some (.int .i64 x.r.size) := X5.out.cell 9; have z10 : w5.cell? ⟨W0.heap.size, 10, none⟩ = some (strV x.r.sum) := X5.out.cell 10; have z11 : w5.cell? ⟨W0.heap.size, 11, none⟩ = some (.slice x.A x.r.data.length x.c) := X5.out.cell 11; have B5 := Lib.hid (show Below W.heap.size W w5 by first | exact below_of_drew hb5 | exact ((below_drew3 (Below.refl W.heap.size W)).alloc (Nat.le_refl _) _).trans (hb5.mono (by simp))); first | (have Q5 := Lib.hid (show Blk w5 W.heap.size 59 #[.string ⟨#[]⟩, .int .i64 0, .int .i64 0, .int .i64 0, .string ⟨#[]⟩] from (Blk.made W.drew _ _).below hb5 (by simp)); have q0 : w5.cell? ⟨W.heap.size, 0, none⟩ = some (.string ⟨#[]⟩) := Q5.out.cell 0; have g0 : w5.frozen? ⟨W.heap.size, 0, none⟩ = false := Q5.out.free 0; have q1 : w5.cell? ⟨W.heap.size, 1, none⟩ = some (.int .i64 0) := Q5.out.cell 1; have g1 : w5.frozen? ⟨W.heap.size, 1, none⟩ = false := Q5.out.free 1; have q2 : w5.cell? ⟨W.heap.size, 2, none⟩ = some (.int .i64 0) := Q5.out.cell 2; have g2 : w5.frozen? ⟨W.heap.size, 2, none⟩ = false := Q5.out.free 2; have q3 : w5.cell? ⟨W.heap.size, 3, none⟩ = some (.int .i64 0) := Q5.out.cell 3; have g3 : w5.frozen? ⟨W.heap.size, 3, none⟩ = false := Q5.out.free 3; have q4 : w5.cell? ⟨W.heap.size, 4, none⟩ = some (.string ⟨#[]⟩) := Q5.out.cell 4; have g4 : w5.frozen? ⟨W.heap.size, 4, none⟩ = false := Q5.out.free 4) | skip; clear hb5)
          have hK := hKp.down
          clear hKp
          clear hHeld
          refine hK.out _ _ ⟨z2, z3, z4, z5, z6, z7, z8, z9, z10, z11⟩ (fun hHeld => ?_)
          clear hK K
          refine wpAnyH_ready (rs := [12]) (by kernel_rfl) (by simp) ?_
          refine AllReadyH.cons rfl (fun K hK => ?_) AllReadyH.nil
          have hKp := PLift.up hK
          clear hK
          go_simp
          have hK := hKp.down
          clear hKp
          clear hHeld
          refine hK.out _ _ (by first | with_reducible exact ⟨cell_kept z2 _, cell_kept z3 _, cell_kept z4 _, cell_kept z5 _, cell_kept z6 _, cell_kept z7 _, cell_kept z8 _, cell_kept z9 _, cell_kept z10 _, cell_kept z11 _⟩ | with_reducible exact ⟨cell_far5 z2 hneW, cell_far5 z3 hneW, cell_far5 z4 hneW, cell_far5 z5 hneW, cell_far5 z6 hneW, cell_far5 z7 hneW, cell_far5 z8 hneW, cell_far5 z9 hneW, cell_far5 z10 hneW, cell_far5 z11 hneW⟩) (fun hHeld => ?_)
          clear hK K
          refine wpAnyH_take (i := 13) (v := ?vC5n1b1113) (take_list rfl) (by kernel_rfl) (by kernel_rfl) (by kernel_rfl) (fun _ _ _ h => h) (Or.inl ⟨by rfl, ?hyC5n1b1113⟩) (by assumption) ?restC5n1b1113
          case hyC5n1b1113 => (intro w hSw; (try dsimp only at hSw); go_simp <;> with_reducible rfl)
          try simp only [Act.put, List.setIfInBounds_toArray, List.set_cons_zero, List.set_cons_succ]
          refine wpAnyH_done (by kernel_rfl) ?_ _
          gi_step
          gi_step
          gi_meet
          first
            | (refine ⟨w5.heap.size, ?_, ?_⟩; (with_reducible rfl); exact ⟨rfl, Blk.made _ _ _, B5.out.size, B5.out.alloc B5.out.size _⟩)
            | (refine ⟨W.heap.size, ?_, ?_⟩; (with_reducible rfl); exact ⟨rfl, ((((Q5.out.store 0 _).store 1 _).store 2 _).store 3 _).store 4 _, Nat.le_refl _, ((((B5.out.setCell (p := ⟨W.heap.size, 0, none⟩) (Nat.le_refl _) _).setCell (p := ⟨W.heap.size, 1, none⟩) (Nat.le_refl _) _).setCell (p := ⟨W.heap.size, 2, none⟩) (Nat.le_refl _) _).setCell (p := ⟨W.heap.size, 3, none⟩) (Nat.le_refl _) _).setCell (p := ⟨W.heap.size, 4, none⟩) (Nat.le_refl _) _⟩)
      case rest =>
        obtain ⟨g, rfl, rfl, hbg, hgW, hbl⟩ := hcut
        have BL := Lib.hid hbl
        have XB := Lib.hid hbg
        have hgz0 := hbg.size
        have GB := Lib.hid (GA.out.below hbl)
        have XW := Lib.hid (XF.out.below hbl hWs)
        have hwz : W.heap.size ≤ wc.heap.size := hbl.size
        have OB := Lib.hid hob
        clear hbl hbg hob y0 y1 y2 y3 y4 y5 y6 y7 y8 y9 y10 y11 k1 SO
        have k1 : wc.cell? ⟨w.heap.size + 1, 0, none⟩ = some (.map (some w.heap.size)) := GB.out.cm.cell 0
        have x0 : wc.cell? ⟨g, 0, none⟩ = some (strV b.key) := XB.out.cell 0
        have x1 : wc.cell? ⟨g, 1, none⟩ = some (.int .i64 b.gen) := XB.out.cell 1
        have x2 : wc.cell? ⟨g, 2, none⟩ = some (.int .i64 b.groups) := XB.out.cell 2
        have x3 : wc.cell? ⟨g, 3, none⟩ = some (.int .i64 b.size) := XB.out.cell 3
        have x4 : wc.cell? ⟨g, 4, none⟩ = some (strV b.sum) := XB.out.cell 4
        have hnil := nil_places
        have KP := Lib.hid (show ∀ q, w.heap.size + 3 ≤ q → q < w.heap.size + 3 + 2 → wc.heap[q]? = W.heap[q]? from fun q h1 h2 => BL.out.block q (by omega))
        have NG := Lib.hid (show ∀ e ∈ CL, e.g ≠ g from fun e he hc => by have h := (GA.out.rows e he).2.size; omega)
        have NW := Lib.hid (show ∀ e ∈ CL, e.g ≠ W0.heap.size from fun e he hc => by have h := (GA.out.rows e he).2; rw [hc] at h; unfold Blk at h; have h2 := XF.out; unfold Blk at h2; rw [h2] at h; injection h with h; injection h with _ ht; exact absurd ht (by decide))
        cases hh : hasL (CL.map entV) b with
        | true =>
          obtain ⟨e, he, heb⟩ := (has_ent CL b).1 hh
          have HE := Lib.hid he
          have HEB := Lib.hid heb
          have GM := Lib.hid (GB.out.have_ (x := x))
          clear he heb hh
          obtain ⟨⟨p1, p2⟩, hp⟩ : ∃ p, firstAt pre b s = p := ⟨_, rfl⟩
          have HP := Lib.hid hp
          have hrow := (GM.out.rows e HE.out).2
          rw [HEB.out] at hrow
          have ROW := Lib.hid hrow
          obtain ⟨v0, v1⟩ := place_at hrow (show s < slotsB b by rw [HKK.out]; exact hsk) hp
          dsimp only at v0 v1
          have hgz : e.g < wc.heap.size := hrow.size
          have hge : w.heap.size + 5 ≤ e.g := (GM.out.rows e HE.out).1
          have hneg : e.g ≠ g := NG.out e HE.out
          have hneW0 : e.g ≠ W0.heap.size := NW.out e HE.out
          have hnk : e.g ≠ w.heap.size + 1 := by omega
          have hnm : w.heap.size ≠ e.g := by omega
          clear hrow hp
          obtain ⟨M, hmM, _⟩ := GM.out.map
          have MM := Lib.hid hmM
          clear hmM
          have hlk : (Instr.lookup 56 (.map (some w.heap.size)) (.agg #[strV b.key, .int .i64 b.gen, .int .i64 b.groups, .int .i64 b.size, strV b.sum]) false).run Try.prog wc = .ok (.slice (some ⟨e.g, 0, none⟩) k k) wc := ent_look MM.out HE.out HEB.out HKK.out OB.out
          have s0 : (0 : Int) ≤ (s : Int) := by omega
          have s1 : (s : Int) < (k : Int) := by omega
          gi_upto_region 8 with fail
          by_cases h0 : p1 = 0 ∧ p2 = 1024
          · obtain ⟨rfl, rfl⟩ := h0
            refine wpIn_region_held (S := (fun w' => w'.cell? ⟨w.heap.size + 1, 0, none⟩ = some (.map (some w.heap.size)) ∧ w'.cell? ⟨g, 0, none⟩ = some (strV b.key) ∧ w'.cell? ⟨g, 1, none⟩ = some (.int .i64 b.gen) ∧ w'.cell? ⟨g, 2, none⟩ = some (.int .i64 b.groups) ∧ w'.cell? ⟨g, 3, none⟩ = some (.int .i64 b.size) ∧ w'.cell? ⟨g, 4, none⟩ = some (strV b.sum) ∧ (Instr.lookup 56 (.map (some w.heap.size)) (.agg #[strV b.key, .int .i64 b.gen, .int .i64 b.groups, .int .i64 b.size, strV b.sum]) false).run Try.prog w' = .ok (.slice (some ⟨e.g, 0, none⟩) k k) w' ∧ w'.cell? ⟨e.g, s * 2, none⟩ = some (.int .i64 0) ∧ w'.cell? ⟨e.g, s * 2 + 1, none⟩ = some (.int .i64 1024))) (by kernel_rfl) (fun ⟨_, _, h⟩ => h) (by kernel_rfl) ⟨k1, x0, x1, x2, x3, x4, (ent_look (MM.out.of_eq rfl) HE.out HEB.out HKK.out OB.out), v0, v1⟩ (fun hHeld => ?_)
            refine wpAnyH_take (i := 0) (v := ?vC8n20) (take_list rfl) (by kernel_rfl) (by kernel_rfl) (by kernel_rfl) (fun _ _ _ h => h) (Or.inl ⟨by rfl, ?hyC8n20⟩) (by assumption) ?restC8n20
            case hyC8n20 => (intro w hSw; (try dsimp only at hSw); go_simp <;> with_reducible rfl)
            try simp only [Act.put, List.setIfInBounds_toArray, List.set_cons_zero, List.set_cons_succ]
            refine wpAnyH_take (i := 1) (v := ?vC8n21) (take_list rfl) (by kernel_rfl) (by kernel_rfl) (by kernel_rfl) (fun _ _ _ h => h) (Or.inl ⟨by rfl, ?hyC8n21⟩) (by assumption) ?restC8n21
            case hyC8n21 => (intro w hSw; (try dsimp only at hSw); go_simp <;> with_reducible rfl)
            try simp only [Act.put, List.setIfInBounds_toArray, List.set_cons_zero, List.set_cons_succ]
            refine wpAnyH_take (i := 2) (v := ?vC8n22) (take_list rfl) (by kernel_rfl) (by kernel_rfl) (by kernel_rfl) (fun _ _ _ h => h) (Or.inl ⟨by rfl, ?hyC8n22⟩) (by assumption) ?restC8n22
            case hyC8n22 => (intro w hSw; (try dsimp only at hSw); go_simp <;> with_reducible rfl)
            try simp only [Act.put, List.setIfInBounds_toArray, List.set_cons_zero, List.set_cons_succ]
            refine wpAnyH_take (i := 3) (v := ?vC8n23) (take_list rfl) (by kernel_rfl) (by kernel_rfl) (by kernel_rfl) (fun _ _ _ h => h) (Or.inl ⟨by rfl, ?hyC8n23⟩) (by assumption) ?restC8n23
            case hyC8n23 => (intro w hSw; (try dsimp only at hSw); go_simp <;> with_reducible rfl)
            try simp only [Act.put, List.setIfInBounds_toArray, List.set_cons_zero, List.set_cons_succ]
            refine wpAnyH_take (i := 4) (v := ?vC8n24) (take_list rfl) (by kernel_rfl) (by kernel_rfl) (by kernel_rfl) (fun _ _ _ h => h) (Or.inl ⟨by rfl, ?hyC8n24⟩) (by assumption) ?restC8n24
            case hyC8n24 => (intro w hSw; (try dsimp only at hSw); go_simp <;> with_reducible rfl)
            try simp only [Act.put, List.setIfInBounds_toArray, List.set_cons_zero, List.set_cons_succ]
            refine wpAnyH_take (i := 5) (v := ?vC8n25) (take_list rfl) (by kernel_rfl) (by kernel_rfl) (by kernel_rfl) (fun _ _ _ h => h) (Or.inl ⟨by rfl, ?hyC8n25⟩) (by assumption) ?restC8n25
            case hyC8n25 => (intro w hSw; (try dsimp only at hSw); go_simp <;> with_reducible rfl)
            try simp only [Act.put, List.setIfInBounds_toArray, List.set_cons_zero, List.set_cons_succ]
            refine wpAnyH_ready (rs := [6]) (by kernel_rfl) (by simp) ?_
            refine AllReadyH.cons rfl (fun K hK => ?_) AllReadyH.nil
            have hKp := PLift.up hK
            clear hK
            go_simp
            go_wp2_with (go_at_call 42; refine (sNowhere _).mono ?_; rintro e5 w5 ⟨rfl, hb5⟩; have B5 := Lib.hid (show Below wc.heap.size wc w5 from below_of_drew hb5); clear hb5; have G5 := Lib.hid (GM.out.below B5.out); have X5 := Lib.hid (XB.out.below B5.out hgz0); have k1z : w5.cell? ⟨w.heap.size + 1, 0, none⟩ = some (.map (some w.heap.size)) := G5.out.cm.cell 0; have x0z : w5.cell? ⟨g, 0, none⟩ = some (strV b.key) := X5.out.cell 0; have x1z : w5.cell? ⟨g, 1, none⟩ = some (.int .i64 b.gen) := X5.out.cell 1; have x2z : w5.cell? ⟨g, 2, none⟩ = some (.int .i64 b.groups) := X5.out.cell 2; have x3z : w5.cell? ⟨g, 3, none⟩ = some (.int .i64 b.size) := X5.out.cell 3; have x4z : w5.cell? ⟨g, 4, none⟩ = some (strV b.sum) := X5.out.cell 4; have ROW5 := Lib.hid (ROW.out.below B5.out hgz); have hlkz : (Instr.lookup 56 (.map (some w.heap.size)) (.agg #[strV b.key, .int .i64 b.gen, .int .i64 b.groups, .int .i64 b.size, strV b.sum]) false).run Try.prog w5 = .ok (.slice (some ⟨e.g, 0, none⟩) k k) w5 := ent_look (MM.out.of_eq (B5.out.block _ MM.out.lt)) HE.out HEB.out HKK.out OB.out; have v0z : w5.cell? ⟨e.g, s * 2, none⟩ = some (.int .i64 0) := keepc B5.out hgz v0; have v1z : w5.cell? ⟨e.g, s * 2 + 1, none⟩ = some (.int .i64 1024) := keepc B5.out hgz v1)
            have hK := hKp.down
            clear hKp
            clear hHeld
            refine hK.out _ _ ⟨k1z, x0z, x1z, x2z, x3z, x4z, hlkz, v0z, v1z⟩ (fun hHeld => ?_)
            clear hK K
            refine wpAnyH_take (i := 7) (v := ?vC8n27) (take_list rfl) (by kernel_rfl) (by kernel_rfl) (by kernel_rfl) (fun _ _ _ h => h) (Or.inl ⟨by rfl, ?hyC8n27⟩) (by assumption) ?restC8n27
            case hyC8n27 => (intro w hSw; (try dsimp only at hSw); go_simp <;> with_reducible rfl)
            try simp only [Act.put, List.setIfInBounds_toArray, List.set_cons_zero, List.set_cons_succ]
            refine wpAnyH_done (by kernel_rfl) ?_ _
            have XW5 := Lib.hid (XW.out.below B5.out (by omega))
            have y0z : w5.cell? ⟨W0.heap.size, 0, none⟩ = some (.int .i64 x.cart) := XW5.out.cell 0
            have y1z : w5.cell? ⟨W0.heap.size, 1, none⟩ = some (.int .i64 x.pos) := XW5.out.cell 1
            have fr0 : w5.frozen? ⟨e.g, s * 2, none⟩ = false := ROW5.out.free _
            have fr1 : w5.frozen? ⟨e.g, s * 2 + 1, none⟩ = false := ROW5.out.free _
            gi_upto_region 9 with fail
            refine wpIn_region_held (S := (fun w' => w'.cell? ⟨w.heap.size + 1, 0, none⟩ = some (.map (some w.heap.size)) ∧ w'.cell? ⟨g, 0, none⟩ = some (strV b.key) ∧ w'.cell? ⟨g, 1, none⟩ = some (.int .i64 b.gen) ∧ w'.cell? ⟨g, 2, none⟩ = some (.int .i64 b.groups) ∧ w'.cell? ⟨g, 3, none⟩ = some (.int .i64 b.size) ∧ w'.cell? ⟨g, 4, none⟩ = some (strV b.sum) ∧ (Instr.lookup 56 (.map (some w.heap.size)) (.agg #[strV b.key, .int .i64 b.gen, .int .i64 b.groups, .int .i64 b.size, strV b.sum]) false).run Try.prog w' = .ok (.slice (some ⟨e.g, 0, none⟩) k k) w' ∧ w'.cell? ⟨W0.heap.size, 0, none⟩ = some (.int .i64 x.cart) ∧ w'.cell? ⟨W0.heap.size, 1, none⟩ = some (.int .i64 x.pos))) (by kernel_rfl) (fun ⟨_, _, h⟩ => h) (by kernel_rfl) ⟨k1z, x0z, x1z, x2z, x3z, x4z, (ent_look ((MM.out.of_eq (B5.out.block _ MM.out.lt)).of_eq rfl) HE.out HEB.out HKK.out OB.out), y0z, y1z⟩ (fun hHeld => ?_)
            refine wpAnyH_take (i := 0) (v := ?vC9n60) (take_list rfl) (by kernel_rfl) (by kernel_rfl) (by kernel_rfl) (fun _ _ _ h => h) (Or.inl ⟨by rfl, ?hyC9n60⟩) (by assumption) ?restC9n60
            case hyC9n60 => (intro w hSw; (try dsimp only at hSw); go_simp <;> with_reducible rfl)
            try simp only [Act.put, List.setIfInBounds_toArray, List.set_cons_zero, List.set_cons_succ]
            refine wpAnyH_take (i := 1) (v := ?vC9n61) (take_list rfl) (by kernel_rfl) (by kernel_rfl) (by kernel_rfl) (fun _ _ _ h => h) (Or.inl ⟨by rfl, ?hyC9n61⟩) (by assumption) ?restC9n61
            case hyC9n61 => (intro w hSw; (try dsimp only at hSw); go_simp <;> with_reducible rfl)
            try simp only [Act.put, List.setIfInBounds_toArray, List.set_cons_zero, List.set_cons_succ]
            refine wpAnyH_take (i := 2) (v := ?vC9n62) (take_list rfl) (by kernel_rfl) (by kernel_rfl) (by kernel_rfl) (fun _ _ _ h => h) (Or.inl ⟨by rfl, ?hyC9n62⟩) (by assumption) ?restC9n62
            case hyC9n62 => (intro w hSw; (try dsimp only at hSw); go_simp <;> with_reducible rfl)
            try simp only [Act.put, List.setIfInBounds_toArray, List.set_cons_zero, List.set_cons_succ]
            refine wpAnyH_take (i := 3) (v := ?vC9n63) (take_list rfl) (by kernel_rfl) (by kernel_rfl) (by kernel_rfl) (fun _ _ _ h => h) (Or.inl ⟨by rfl, ?hyC9n63⟩) (by assumption) ?restC9n63
            case hyC9n63 => (intro w hSw; (try dsimp only at hSw); go_simp <;> with_reducible rfl)
            try simp only [Act.put, List.setIfInBounds_toArray, List.set_cons_zero, List.set_cons_succ]
            refine wpAnyH_take (i := 4) (v := ?vC9n64) (take_list rfl) (by kernel_rfl) (by kernel_rfl) (by kernel_rfl) (fun _ _ _ h => h) (Or.inl ⟨by rfl, ?hyC9n64⟩) (by assumption) ?restC9n64
            case hyC9n64 => (intro w hSw; (try dsimp only at hSw); go_simp <;> with_reducible rfl)
            try simp only [Act.put, List.setIfInBounds_toArray, List.set_cons_zero, List.set_cons_succ]
            refine wpAnyH_take (i := 5) (v := ?vC9n65) (take_list rfl) (by kernel_rfl) (by kernel_rfl) (by kernel_rfl) (fun _ _ _ h => h) (Or.inl ⟨by rfl, ?hyC9n65⟩) (by assumption) ?restC9n65
            case hyC9n65 => (intro w hSw; (try dsimp only at hSw); go_simp <;> with_reducible rfl)
            try simp only [Act.put, List.setIfInBounds_toArray, List.set_cons_zero, List.set_cons_succ]
            refine wpAnyH_take (i := 6) (v := ?vC9n66) (take_list rfl) (by kernel_rfl) (by kernel_rfl) (by kernel_rfl) (fun _ _ _ h => h) (Or.inl ⟨by rfl, ?hyC9n66⟩) (by assumption) ?restC9n66
            case hyC9n66 => (intro w hSw; (try dsimp only at hSw); go_simp <;> with_reducible rfl)
            try simp only [Act.put, List.setIfInBounds_toArray, List.set_cons_zero, List.set_cons_succ]
            refine wpAnyH_ready (rs := [7]) (by kernel_rfl) (by simp) ?_
            refine AllReadyH.cons rfl (fun K hK => ?_) AllReadyH.nil
            have hKp := PLift.up hK
            clear hK
            go_simp
            have hK := hKp.down
            clear hKp
            clear hHeld
            refine hK.out _ _ (by exact ⟨far2 k1z hnk, far2 x0z hneg, far2 x1z hneg, far2 x2z hneg, far2 x3z hneg, far2 x4z hneg, (ent_look ((map_far2 (MM.out.of_eq (B5.out.block _ MM.out.lt)) hnm).of_eq rfl) HE.out HEB.out HKK.out OB.out), far2 y0z hneW0, far2 y1z hneW0⟩) (fun hHeld => ?_)
            clear hK K
            refine wpAnyH_done (by kernel_rfl) ?_ _
            gi_wp2
            refine ⟨fun q h1 h2 => ?_, ⟨CL, ((G5.out.stored IN.out HE.out (by rw [HB.out, HEB.out]) HK.out HS.out (by rw [HEB.out, HP.out]) OKP.out).below (below_drewed _ _))⟩⟩
            exact (far2_heap (w := w5) (by omega)).trans ((B5.out.block q (by omega)).trans (KP.out q h1 h2))
          · by_cases ha : p1 = 0
            · have hb : ¬ p2 = 1024 := fun h => h0 ⟨ha, h⟩
              subst ha
              have PNE := Lib.hid (show ((0 : Int), p2) ≠ (0, 1024) from fun h => hb (congrArg Prod.snd h))
              have qb : (p2 == 1024) = false := by simpa using hb
              clear h0
              refine wpIn_region_held (S := (fun w' => w'.cell? ⟨w.heap.size + 1, 0, none⟩ = some (.map (some w.heap.size)) ∧ w'.cell? ⟨g, 0, none⟩ = some (strV b.key) ∧ w'.cell? ⟨g, 1, none⟩ = some (.int .i64 b.gen) ∧ w'.cell? ⟨g, 2, none⟩ = some (.int .i64 b.groups) ∧ w'.cell? ⟨g, 3, none⟩ = some (.int .i64 b.size) ∧ w'.cell? ⟨g, 4, none⟩ = some (strV b.sum) ∧ (Instr.lookup 56 (.map (some w.heap.size)) (.agg #[strV b.key, .int .i64 b.gen, .int .i64 b.groups, .int .i64 b.size, strV b.sum]) false).run Try.prog w' = .ok (.slice (some ⟨e.g, 0, none⟩) k k) w' ∧ w'.cell? ⟨e.g, s * 2, none⟩ = some (.int .i64 0) ∧ w'.cell? ⟨e.g, s * 2 + 1, none⟩ = some (.int .i64 p2))) (by kernel_rfl) (fun ⟨_, _, h⟩ => h) (by kernel_rfl) ⟨k1, x0, x1, x2, x3, x4, (ent_look (MM.out.of_eq rfl) HE.out HEB.out HKK.out OB.out), v0, v1⟩ (fun hHeld => ?_)
              refine wpAnyH_take (i := 0) (v := ?vC8n30) (take_list rfl) (by kernel_rfl) (by kernel_rfl) (by kernel_rfl) (fun _ _ _ h => h) (Or.inl ⟨by rfl, ?hyC8n30⟩) (by assumption) ?restC8n30
              case hyC8n30 => (intro w hSw; (try dsimp only at hSw); go_simp <;> with_reducible rfl)
              try simp only [Act.put, List.setIfInBounds_toArray, List.set_cons_zero, List.set_cons_succ]
              refine wpAnyH_take (i := 1) (v := ?vC8n31) (take_list rfl) (by kernel_rfl) (by kernel_rfl) (by kernel_rfl) (fun _ _ _ h => h) (Or.inl ⟨by rfl, ?hyC8n31⟩) (by assumption) ?restC8n31
              case hyC8n31 => (intro w hSw; (try dsimp only at hSw); go_simp <;> with_reducible rfl)
              try simp only [Act.put, List.setIfInBounds_toArray, List.set_cons_zero, List.set_cons_succ]
              refine wpAnyH_take (i := 2) (v := ?vC8n32) (take_list rfl) (by kernel_rfl) (by kernel_rfl) (by kernel_rfl) (fun _ _ _ h => h) (Or.inl ⟨by rfl, ?hyC8n32⟩) (by assumption) ?restC8n32
              case hyC8n32 => (intro w hSw; (try dsimp only at hSw); go_simp <;> with_reducible rfl)
              try simp only [Act.put, List.setIfInBounds_toArray, List.set_cons_zero, List.set_cons_succ]
              refine wpAnyH_take (i := 3) (v := ?vC8n33) (take_list rfl) (by kernel_rfl) (by kernel_rfl) (by kernel_rfl) (fun _ _ _ h => h) (Or.inl ⟨by rfl, ?hyC8n33⟩) (by assumption) ?restC8n33
              case hyC8n33 => (intro w hSw; (try dsimp only at hSw); go_simp <;> with_reducible rfl)
              try simp only [Act.put, List.setIfInBounds_toArray, List.set_cons_zero, List.set_cons_succ]
              refine wpAnyH_take (i := 4) (v := ?vC8n34) (take_list rfl) (by kernel_rfl) (by kernel_rfl) (by kernel_rfl) (fun _ _ _ h => h) (Or.inl ⟨by rfl, ?hyC8n34⟩) (by assumption) ?restC8n34
              case hyC8n34 => (intro w hSw; (try dsimp only at hSw); go_simp <;> with_reducible rfl)
              try simp only [Act.put, List.setIfInBounds_toArray, List.set_cons_zero, List.set_cons_succ]
              refine wpAnyH_take (i := 5) (v := ?vC8n35) (take_list rfl) (by kernel_rfl) (by kernel_rfl) (by kernel_rfl) (fun _ _ _ h => h) (Or.inl ⟨by rfl, ?hyC8n35⟩) (by assumption) ?restC8n35
              case hyC8n35 => (intro w hSw; (try dsimp only at hSw); go_simp <;> with_reducible rfl)
              try simp only [Act.put, List.setIfInBounds_toArray, List.set_cons_zero, List.set_cons_succ]
              refine wpAnyH_ready (rs := [6]) (by kernel_rfl) (by simp) ?_
              refine AllReadyH.cons rfl (fun K hK => ?_) AllReadyH.nil
              have hKp := PLift.up hK
              clear hK
              go_simp
              go_wp2_with (go_at_call 42; refine (sNowhere _).mono ?_; rintro e5 w5 ⟨rfl, hb5⟩; have B5 := Lib.hid (show Below wc.heap.size wc w5 from below_of_drew hb5); clear hb5; have G5 := Lib.hid (GM.out.below B5.out); have X5 := Lib.hid (XB.out.below B5.out hgz0); have k1z : w5.cell? ⟨w.heap.size + 1, 0, none⟩ = some (.map (some w.heap.size)) := G5.out.cm.cell 0; have x0z : w5.cell? ⟨g, 0, none⟩ = some (strV b.key) := X5.out.cell 0; have x1z : w5.cell? ⟨g, 1, none⟩ = some (.int .i64 b.gen) := X5.out.cell 1; have x2z : w5.cell? ⟨g, 2, none⟩ = some (.int .i64 b.groups) := X5.out.cell 2; have x3z : w5.cell? ⟨g, 3, none⟩ = some (.int .i64 b.size) := X5.out.cell 3; have x4z : w5.cell? ⟨g, 4, none⟩ = some (strV b.sum) := X5.out.cell 4; have ROW5 := Lib.hid (ROW.out.below B5.out hgz); have hlkz : (Instr.lookup 56 (.map (some w.heap.size)) (.agg #[strV b.key, .int .i64 b.gen, .int .i64 b.groups, .int .i64 b.size, strV b.sum]) false).run Try.prog w5 = .ok (.slice (some ⟨e.g, 0, none⟩) k k) w5 := ent_look (MM.out.of_eq (B5.out.block _ MM.out.lt)) HE.out HEB.out HKK.out OB.out; have v0z : w5.cell? ⟨e.g, s * 2, none⟩ = some (.int .i64 0) := keepc B5.out hgz v0; have v1z : w5.cell? ⟨e.g, s * 2 + 1, none⟩ = some (.int .i64 p2) := keepc B5.out hgz v1)
              have hK := hKp.down
              clear hKp
              clear hHeld
              refine hK.out _ _ ⟨k1z, x0z, x1z, x2z, x3z, x4z, hlkz, v0z, v1z⟩ (fun hHeld => ?_)
              clear hK K
              refine wpAnyH_take (i := 7) (v := ?vC8n37) (take_list rfl) (by kernel_rfl) (by kernel_rfl) (by kernel_rfl) (fun _ _ _ h => h) (Or.inl ⟨by rfl, ?hyC8n37⟩) (by assumption) ?restC8n37
              case hyC8n37 => (intro w hSw; (try dsimp only at hSw); go_simp <;> with_reducible rfl)
              try simp only [Act.put, List.setIfInBounds_toArray, List.set_cons_zero, List.set_cons_succ]
              refine wpAnyH_done (by kernel_rfl) ?_ _
              gi_wp2
              refine ⟨fun q h1 h2 => (B5.out.block q (by omega)).trans (KP.out q h1 h2), ⟨CL, (G5.out.same_ IN.out HE.out (by rw [HB.out, HEB.out]) HS.out (by rw [HEB.out, HP.out]; exact PNE.out) OKP.out)⟩⟩
            · have qa : (p1 == 0) = false := by simpa using ha
              have PNE := Lib.hid (show (p1, p2) ≠ ((0 : Int), (1024 : Int)) from fun h => ha (congrArg Prod.fst h))
              clear h0
              refine wpIn_region_held (S := (fun w' => w'.cell? ⟨w.heap.size + 1, 0, none⟩ = some (.map (some w.heap.size)) ∧ w'.cell? ⟨g, 0, none⟩ = some (strV b.key) ∧ w'.cell? ⟨g, 1, none⟩ = some (.int .i64 b.gen) ∧ w'.cell? ⟨g, 2, none⟩ = some (.int .i64 b.groups) ∧ w'.cell? ⟨g, 3, none⟩ = some (.int .i64 b.size) ∧ w'.cell? ⟨g, 4, none⟩ = some (strV b.sum) ∧ (Instr.lookup 56 (.map (some w.heap.size)) (.agg #[strV b.key, .int .i64 b.gen, .int .i64 b.groups, .int .i64 b.size, strV b.sum]) false).run Try.prog w' = .ok (.slice (some ⟨e.g, 0, none⟩) k k) w' ∧ w'.cell? ⟨e.g, s * 2, none⟩ = some (.int .i64 p1) ∧ w'.cell? ⟨e.g, s * 2 + 1, none⟩ = some (.int .i64 p2))) (by kernel_rfl) (fun ⟨_, _, h⟩ => h) (by kernel_rfl) ⟨k1, x0, x1, x2, x3, x4, (ent_look (MM.out.of_eq rfl) HE.out HEB.out HKK.out OB.out), v0, v1⟩ (fun hHeld => ?_)
              refine wpAnyH_take (i := 0) (v := ?vC8n40) (take_list rfl) (by kernel_rfl) (by kernel_rfl) (by kernel_rfl) (fun _ _ _ h => h) (Or.inl ⟨by rfl, ?hyC8n40⟩) (by assumption) ?restC8n40
              case hyC8n40 => (intro w hSw; (try dsimp only at hSw); go_simp <;> with_reducible rfl)
              try simp only [Act.put, List.setIfInBounds_toArray, List.set_cons_zero, List.set_cons_succ]
              refine wpAnyH_take (i := 1) (v := ?vC8n41) (take_list rfl) (by kernel_rfl) (by kernel_rfl) (by kernel_rfl) (fun _ _ _ h => h) (Or.inl ⟨by rfl, ?hyC8n41⟩) (by assumption) ?restC8n41
              case hyC8n41 => (intro w hSw; (try dsimp only at hSw); go_simp <;> with_reducible rfl)
              try simp only [Act.put, List.setIfInBounds_toArray, List.set_cons_zero, List.set_cons_succ]
              refine wpAnyH_take (i := 2) (v := ?vC8n42) (take_list rfl) (by kernel_rfl) (by kernel_rfl) (by kernel_rfl) (fun _ _ _ h => h) (Or.inl ⟨by rfl, ?hyC8n42⟩) (by assumption) ?restC8n42
              case hyC8n42 => (intro w hSw; (try dsimp only at hSw); go_simp <;> with_reducible rfl)
              try simp only [Act.put, List.setIfInBounds_toArray, List.set_cons_zero, List.set_cons_succ]
              refine wpAnyH_take (i := 3) (v := ?vC8n43) (take_list rfl) (by kernel_rfl) (by kernel_rfl) (by kernel_rfl) (fun _ _ _ h => h) (Or.inl ⟨by rfl, ?hyC8n43⟩) (by assumption) ?restC8n43
              case hyC8n43 => (intro w hSw; (try dsimp only at hSw); go_simp <;> with_reducible rfl)
              try simp only [Act.put, List.setIfInBounds_toArray, List.set_cons_zero, List.set_cons_succ]
              refine wpAnyH_take (i := 4) (v := ?vC8n44) (take_list rfl) (by kernel_rfl) (by kernel_rfl) (by kernel_rfl) (fun _ _ _ h => h) (Or.inl ⟨by rfl, ?hyC8n44⟩) (by assumption) ?restC8n44
              case hyC8n44 => (intro w hSw; (try dsimp only at hSw); go_simp <;> with_reducible rfl)
              try simp only [Act.put, List.setIfInBounds_toArray, List.set_cons_zero, List.set_cons_succ]
              refine wpAnyH_take (i := 5) (v := ?vC8n45) (take_list rfl) (by kernel_rfl) (by kernel_rfl) (by kernel_rfl) (fun _ _ _ h => h) (Or.inl ⟨by rfl, ?hyC8n45⟩) (by assumption) ?restC8n45
              case hyC8n45 => (intro w hSw; (try dsimp only at hSw); go_simp <;> with_reducible rfl)
              try simp only [Act.put, List.setIfInBounds_toArray, List.set_cons_zero, List.set_cons_succ]
              refine wpAnyH_ready (rs := [6]) (by kernel_rfl) (by simp) ?_
              refine AllReadyH.cons rfl (fun K hK => ?_) AllReadyH.nil
              have hKp := PLift.up hK
              clear hK
              go_simp
              go_wp2_with (go_at_call 42; refine (sNowhere _).mono ?_; rintro e5 w5 ⟨rfl, hb5⟩; have B5 := Lib.hid (show Below wc.heap.size wc w5 from below_of_drew hb5); clear hb5; have G5 := Lib.hid (GM.out.below B5.out); have X5 := Lib.hid (XB.out.below B5.out hgz0); have k1z : w5.cell? ⟨w.heap.size + 1, 0, none⟩ = some (.map (some w.heap.size)) := G5.out.cm.cell 0; have x0z : w5.cell? ⟨g, 0, none⟩ = some (strV b.key) := X5.out.cell 0; have x1z : w5.cell? ⟨g, 1, none⟩ = some (.int .i64 b.gen) := X5.out.cell 1; have x2z : w5.cell? ⟨g, 2, none⟩ = some (.int .i64 b.groups) := X5.out.cell 2; have x3z : w5.cell? ⟨g, 3, none⟩ = some (.int .i64 b.size) := X5.out.cell 3; have x4z : w5.cell? ⟨g, 4, none⟩ = some (strV b.sum) := X5.out.cell 4; have ROW5 := Lib.hid (ROW.out.below B5.out hgz); have hlkz : (Instr.lookup 56 (.map (some w.heap.size)) (.agg #[strV b.key, .int .i64 b.gen, .int .i64 b.groups, .int .i64 b.size, strV b.sum]) false).run Try.prog w5 = .ok (.slice (some ⟨e.g, 0, none⟩) k k) w5 := ent_look (MM.out.of_eq (B5.out.block _ MM.out.lt)) HE.out HEB.out HKK.out OB.out; have v0z : w5.cell? ⟨e.g, s * 2, none⟩ = some (.int .i64 p1) := keepc B5.out hgz v0; have v1z : w5.cell? ⟨e.g, s * 2 + 1, none⟩ = some (.int .i64 p2) := keepc B5.out hgz v1)
              have hK := hKp.down
              clear hKp
              clear hHeld
              refine hK.out _ _ ⟨k1z, x0z, x1z, x2z, x3z, x4z, hlkz, v0z, v1z⟩ (fun hHeld => ?_)
              clear hK K
              refine wpAnyH_take (i := 7) (v := ?vC8n47) (take_list rfl) (by kernel_rfl) (by kernel_rfl) (by kernel_rfl) (fun _ _ _ h => h) (Or.inl ⟨by rfl, ?hyC8n47⟩) (by assumption) ?restC8n47
              case hyC8n47 => (intro w hSw; (try dsimp only at hSw); go_simp <;> with_reducible rfl)
              try simp only [Act.put, List.setIfInBounds_toArray, List.set_cons_zero, List.set_cons_succ]
              refine wpAnyH_done (by kernel_rfl) ?_ _
              gi_wp2
              refine ⟨fun q h1 h2 => (B5.out.block q (by omega)).trans (KP.out q h1 h2), ⟨CL, (G5.out.same_ IN.out HE.out (by rw [HB.out, HEB.out]) HS.out (by rw [HEB.out, HP.out]; exact PNE.out) OKP.out)⟩⟩
        | false =>
          have hlk0 : (Instr.lookup 56 (.map (some w.heap.size)) (.agg #[strV b.key, .int .i64 b.gen, .int .i64 b.groups, .int .i64 b.size, strV b.sum]) false).run Try.prog wc = .ok (.slice none 0 0) wc := new_look (hmap.of_eq (BL.out.block _ hmap.lt)) hh OB.out
          have pm3 : IntKind.i64.wrap (b.groups * 10) = (k : Int) := by rw [show b.groups = x.r.groups by rw [← HB.out]; rfl, ← HSG.out, HKK.out]; exact IntWalk.i64_in _ (by omega)
          gi_upto_region 7 with fail
          clear hlk0
          refine wpIn_region_held (S := (fun w' => w'.cell? ⟨w.heap.size + 1, 0, none⟩ = some (.map (some w.heap.size)) ∧ w'.cell? ⟨g, 0, none⟩ = some (strV b.key) ∧ w'.cell? ⟨g, 1, none⟩ = some (.int .i64 b.gen) ∧ w'.cell? ⟨g, 2, none⟩ = some (.int .i64 b.groups) ∧ w'.cell? ⟨g, 3, none⟩ = some (.int .i64 b.size) ∧ w'.cell? ⟨g, 4, none⟩ = some (strV b.sum))) (by kernel_rfl) (fun ⟨_, _, h⟩ => h) (by kernel_rfl) ⟨k1, x0, x1, x2, x3, x4⟩ (fun hHeld => ?_)
          refine wpAnyH_take (i := 0) (v := ?vC7n50) (take_list rfl) (by kernel_rfl) (by kernel_rfl) (by kernel_rfl) (fun _ _ _ h => h) (Or.inl ⟨by rfl, ?hyC7n50⟩) (by assumption) ?restC7n50
          case hyC7n50 => (intro w hSw; (try dsimp only at hSw); go_simp <;> with_reducible rfl)
          try simp only [Act.put, List.setIfInBounds_toArray, List.set_cons_zero, List.set_cons_succ]
          refine wpAnyH_take (i := 1) (v := ?vC7n51) (take_list rfl) (by kernel_rfl) (by kernel_rfl) (by kernel_rfl) (fun _ _ _ h => h) (Or.inl ⟨by rfl, ?hyC7n51⟩) (by assumption) ?restC7n51
          case hyC7n51 => (intro w hSw; (try dsimp only at hSw); go_simp <;> with_reducible rfl)
          try simp only [Act.put, List.setIfInBounds_toArray, List.set_cons_zero, List.set_cons_succ]
          refine wpAnyH_take (i := 4) (v := ?vC7n54) (take_list rfl) (by kernel_rfl) (by kernel_rfl) (by kernel_rfl) (fun _ _ _ h => h) (Or.inl ⟨by rfl, ?hyC7n54⟩) (by assumption) ?restC7n54
          case hyC7n54 => (intro w hSw; (try dsimp only at hSw); go_simp <;> with_reducible rfl)
          try simp only [Act.put, List.setIfInBounds_toArray, List.set_cons_zero, List.set_cons_succ]
          refine wpAnyH_take (i := 5) (v := ?vC7n55) (take_list rfl) (by kernel_rfl) (by kernel_rfl) (by kernel_rfl) (fun _ _ _ h => h) (Or.inl ⟨by rfl, ?hyC7n55⟩) (by assumption) ?restC7n55
          case hyC7n55 => (intro w hSw; (try dsimp only at hSw); go_simp <;> with_reducible rfl)
          try simp only [Act.put, List.setIfInBounds_toArray, List.set_cons_zero, List.set_cons_succ]
          refine wpAnyH_take (i := 6) (v := ?vC7n56) (take_list rfl) (by kernel_rfl) (by kernel_rfl) (by kernel_rfl) (fun _ _ _ h => h) (Or.inl ⟨by rfl, ?hyC7n56⟩) (by assumption) ?restC7n56
          case hyC7n56 => (intro w hSw; (try dsimp only at hSw); go_simp <;> with_reducible rfl)
          try simp only [Act.put, List.setIfInBounds_toArray, List.set_cons_zero, List.set_cons_succ]
          refine wpAnyH_ready (rs := [2]) (by kernel_rfl) (by simp) ?_
          refine AllReadyH.cons rfl (fun K hK => ?_) AllReadyH.nil
          have hKp := PLift.up hK
          clear hK
          go_simp
          go_wp2_with (go_at_call 42; refine (sNowhere _).mono ?_; rintro e5 w5 ⟨rfl, hb5⟩; have B5 := Lib.hid (show Below wc.heap.size wc w5 from below_of_drew hb5); clear hb5; have G5 := Lib.hid (GB.out.below B5.out); have X5 := Lib.hid (XB.out.below B5.out hgz0); have hz5 : wc.heap.size ≤ w5.heap.size := B5.out.size; have k1z : w5.cell? ⟨w.heap.size + 1, 0, none⟩ = some (.map (some w.heap.size)) := G5.out.cm.cell 0; have x0z : w5.cell? ⟨g, 0, none⟩ = some (strV b.key) := X5.out.cell 0; have x1z : w5.cell? ⟨g, 1, none⟩ = some (.int .i64 b.gen) := X5.out.cell 1; have x2z : w5.cell? ⟨g, 2, none⟩ = some (.int .i64 b.groups) := X5.out.cell 2; have x3z : w5.cell? ⟨g, 3, none⟩ = some (.int .i64 b.size) := X5.out.cell 3; have x4z : w5.cell? ⟨g, 4, none⟩ = some (strV b.sum) := X5.out.cell 4)
          have hK := hKp.down
          clear hKp
          clear hHeld
          refine hK.out _ _ ⟨k1z, x0z, x1z, x2z, x3z, x4z⟩ (fun hHeld => ?_)
          clear hK K
          refine wpAnyH_ready (rs := [3]) (by kernel_rfl) (by simp) ?_
          refine AllReadyH.cons rfl (fun K hK => ?_) AllReadyH.nil
          have hKp := PLift.up hK
          clear hK
          go_simp
          have hK := hKp.down
          clear hKp
          clear hHeld
          refine hK.out _ _ (by first | with_reducible exact ⟨cell_kept k1z _, cell_kept x0z _, cell_kept x1z _, cell_kept x2z _, cell_kept x3z _, cell_kept x4z _⟩ | with_reducible exact ⟨cell_keptd k1z _, cell_keptd x0z _, cell_keptd x1z _, cell_keptd x2z _, cell_keptd x3z _, cell_keptd x4z _⟩) (fun hHeld => ?_)
          clear hK K
          refine wpAnyH_ready (rs := [7]) (by kernel_rfl) (by simp) ?_
          refine AllReadyH.cons rfl (fun K hK => ?_) AllReadyH.nil
          have hKp := PLift.up hK
          clear hK
          go_simp
          go_wp2_with (go_at_call 41; refine (sRepeat w5.heap.size k _ (by exact (Blk.made w5 34 #[.int .i64 0, .int .i64 1024]).cell 0) (by exact (Blk.made w5 34 #[.int .i64 0, .int .i64 1024]).cell 1) hsl).mono ?_; rintro e6 w6 ⟨rfl, hg6, hb6⟩; obtain ⟨gn, hgn⟩ : ∃ z, (w5.alloc (.cells #[.int .i64 0, .int .i64 1024] 34)).heap.size = z := ⟨_, rfl⟩; have hgn5 : w5.heap.size ≤ gn := Nat.le_trans (Nat.le_of_lt (by simp)) (Nat.le_of_eq hgn); rw [hgn] at hg6 hb6 ⊢; have B6 := Lib.hid (show Below w5.heap.size w5 w6 from ((Below.refl _ w5).alloc (Nat.le_refl _) _).trans (hb6.mono (by omega))); have hz6 : gn < w6.heap.size := hg6.size; have G6 := Lib.hid (G5.out.below B6.out); have X6 := Lib.hid (X5.out.below B6.out (Nat.lt_of_lt_of_le hgz0 hz5)); have XW6 := Lib.hid ((XW.out.below B5.out (Nat.lt_of_lt_of_le hWs hwz)).below B6.out (Nat.lt_of_lt_of_le (Nat.lt_of_lt_of_le hWs hwz) hz5)); have k1y : w6.cell? ⟨w.heap.size + 1, 0, none⟩ = some (.map (some w.heap.size)) := G6.out.cm.cell 0; have x0y : w6.cell? ⟨g, 0, none⟩ = some (strV b.key) := X6.out.cell 0; have x1y : w6.cell? ⟨g, 1, none⟩ = some (.int .i64 b.gen) := X6.out.cell 1; have x2y : w6.cell? ⟨g, 2, none⟩ = some (.int .i64 b.groups) := X6.out.cell 2; have x3y : w6.cell? ⟨g, 3, none⟩ = some (.int .i64 b.size) := X6.out.cell 3; have x4y : w6.cell? ⟨g, 4, none⟩ = some (strV b.sum) := X6.out.cell 4; have hm6 := ((hmap.of_eq (BL.out.block _ hmap.lt)).of_eq (B5.out.block _ (Nat.lt_of_lt_of_le hmap.lt hwz))).of_eq (B6.out.block _ (Nat.lt_of_lt_of_le (Nat.lt_of_lt_of_le hmap.lt hwz) hz5)); obtain ⟨w7, hrun, hm7, hg7⟩ := hm6.store (t := 56) (e := 30) Try.underlying56 (by simp only [maxLen]; omega) (k := b) OB.out (.slice (some ⟨gn, 0, none⟩) k k); have NE := Lib.hid (show ∀ q, q < w6.heap.size → q ≠ w.heap.size → w7.heap[q]? = w6.heap[q]? from fun q h1 h2 => hg7.block q h1 (fun e => h2 (Option.some.inj e))); have hwW : w.heap.size + 5 ≤ W.heap.size := (by omega); have B67 := Lib.hid (show Below w.heap.size w w7 from G6.out.base.grown hg7 G6.out.base.size (fun q hq => Nat.le_of_eq (Option.some.inj hq))); have hz7 : w6.heap.size ≤ w7.heap.size := hg7.size; have G7 := Lib.hid (GB.out.add (x := x) IN.out hh HK.out HB.out (g' := gn) (by rw [HKK.out]; exact hm7) hN (fun q h1 h2 => (NE.out q (by omega) h2).trans ((B6.out.block q (by omega)).trans (B5.out.block q h1))) (by omega) (by omega) (by rw [HKK.out]; exact hg6.of_eq (NE.out _ hz6 (by omega))) B67.out); have X7 := Lib.hid (X6.out.of_eq (NE.out _ (by omega) (by omega))); have XW7 := Lib.hid (XW6.out.of_eq (NE.out _ (by omega) (by omega))); have KP7 := Lib.hid (show ∀ q, w.heap.size + 3 ≤ q → q < w.heap.size + 3 + 2 → w7.heap[q]? = W.heap[q]? from fun q h1 h2 => (NE.out q (by omega) (by omega)).trans ((B6.out.block q (by omega)).trans ((B5.out.block q (by omega)).trans (KP.out q h1 h2)))); have hrun2 : (Instr.mapUpdate 56 (.map (some w.heap.size)) (.agg #[strV b.key, .int .i64 b.gen, .int .i64 b.groups, .int .i64 b.size, strV b.sum]) (.slice (some ⟨gn, 0, none⟩) k k)).run Try.prog w6 = .ok () w7 := hrun; clear hm6 hrun hm7 hg7 hg6 hb6 hgn)
          have hK := hKp.down
          clear hKp
          clear hHeld
          refine hK.out _ _ ⟨k1y, x0y, x1y, x2y, x3y, x4y⟩ (fun hHeld => ?_)
          clear hK K
          refine wpAnyH_ready (rs := [8]) (by kernel_rfl) (by simp) ?_
          refine AllReadyH.cons rfl (fun K hK => ?_) AllReadyH.nil
          have hKp := PLift.up hK
          clear hK
          go_simp
          have hK := hKp.down
          clear hKp
          clear hHeld
          refine hK.out _ _ ⟨(G6.out.cm.of_eq (NE.out _ G6.out.cm.size (by omega))).cell 0, X7.out.cell 0, X7.out.cell 1, X7.out.cell 2, X7.out.cell 3, X7.out.cell 4⟩ (fun hHeld => ?_)
          clear hK K
          refine wpAnyH_done (by kernel_rfl) ?_ _
          clear hHeld hrun2 k1 x0 x1 x2 x3 x4 k1z x0z x1z x2z x3z x4z k1y x0y x1y x2y x3y x4y pm3
          obtain ⟨e, hee⟩ : ∃ e : CopyE, e = ⟨b, gn⟩ := ⟨_, rfl⟩
          have hegn : e.g = gn := by rw [hee]
          have HEB := Lib.hid (show e.b = b by rw [hee])
          obtain ⟨CL2, hcl⟩ : ∃ L, CL ++ [⟨b, gn⟩] = L := ⟨_, rfl⟩
          have HE := Lib.hid (show e ∈ CL2 by rw [← hcl, hee]; simp)
          have GM := Lib.hid (show CopiesAt w A n c G pre (pre ++ [x]) CL2 w7 by rw [← hcl]; exact G7.out)
          have hneg0 : e.g ≠ g := by omega
          have hne0 : e.g ≠ W0.heap.size := by omega
          have hw7 : wc.heap.size ≤ w7.heap.size := by omega
          have hgz7 : g < w7.heap.size := by omega
          clear hee hcl hegn hgz0 B5 G5 X5 B6 G6 X6 XW6 NE B67 G7 hgn5 hz6 hz5 hz7
          have hgz0 := hgz7
          clear hgz7
          have k1 : w7.cell? ⟨w.heap.size + 1, 0, none⟩ = some (.map (some w.heap.size)) := GM.out.cm.cell 0
          have x0 : w7.cell? ⟨g, 0, none⟩ = some (strV b.key) := X7.out.cell 0
          have x1 : w7.cell? ⟨g, 1, none⟩ = some (.int .i64 b.gen) := X7.out.cell 1
          have x2 : w7.cell? ⟨g, 2, none⟩ = some (.int .i64 b.groups) := X7.out.cell 2
          have x3 : w7.cell? ⟨g, 3, none⟩ = some (.int .i64 b.size) := X7.out.cell 3
          have x4 : w7.cell? ⟨g, 4, none⟩ = some (strV b.sum) := X7.out.cell 4
          obtain ⟨⟨p1, p2⟩, hp⟩ : ∃ p, firstAt pre b s = p := ⟨_, rfl⟩
          have HP := Lib.hid hp
          have hrow := (GM.out.rows e HE.out).2
          rw [HEB.out] at hrow
          have ROW := Lib.hid hrow
          obtain ⟨v0, v1⟩ := place_at hrow (show s < slotsB b by rw [HKK.out]; exact hsk) hp
          dsimp only at v0 v1
          have hgz : e.g < w7.heap.size := hrow.size
          have hge : w.heap.size + 5 ≤ e.g := (GM.out.rows e HE.out).1
          have hneg : e.g ≠ g := hneg0
          have hneW0 : e.g ≠ W0.heap.size := hne0
          have hnk : e.g ≠ w.heap.size + 1 := by omega
          have hnm : w.heap.size ≠ e.g := by omega
          clear hrow hp
          obtain ⟨M, hmM, _⟩ := GM.out.map
          have MM := Lib.hid hmM
          clear hmM
          have hlk : (Instr.lookup 56 (.map (some w.heap.size)) (.agg #[strV b.key, .int .i64 b.gen, .int .i64 b.groups, .int .i64 b.size, strV b.sum]) false).run Try.prog w7 = .ok (.slice (some ⟨e.g, 0, none⟩) k k) w7 := ent_look MM.out HE.out HEB.out HKK.out OB.out
          have s0 : (0 : Int) ≤ (s : Int) := by omega
          have s1 : (s : Int) < (k : Int) := by omega
          gi_upto_region 8 with fail
          by_cases h0 : p1 = 0 ∧ p2 = 1024
          · obtain ⟨rfl, rfl⟩ := h0
            refine wpIn_region_held (S := (fun w' => w'.cell? ⟨w.heap.size + 1, 0, none⟩ = some (.map (some w.heap.size)) ∧ w'.cell? ⟨g, 0, none⟩ = some (strV b.key) ∧ w'.cell? ⟨g, 1, none⟩ = some (.int .i64 b.gen) ∧ w'.cell? ⟨g, 2, none⟩ = some (.int .i64 b.groups) ∧ w'.cell? ⟨g, 3, none⟩ = some (.int .i64 b.size) ∧ w'.cell? ⟨g, 4, none⟩ = some (strV b.sum) ∧ (Instr.lookup 56 (.map (some w.heap.size)) (.agg #[strV b.key, .int .i64 b.gen, .int .i64 b.groups, .int .i64 b.size, strV b.sum]) false).run Try.prog w' = .ok (.slice (some ⟨e.g, 0, none⟩) k k) w' ∧ w'.cell? ⟨e.g, s * 2, none⟩ = some (.int .i64 0) ∧ w'.cell? ⟨e.g, s * 2 + 1, none⟩ = some (.int .i64 1024))) (by kernel_rfl) (fun ⟨_, _, h⟩ => h) (by kernel_rfl) ⟨k1, x0, x1, x2, x3, x4, (ent_look (MM.out.of_eq rfl) HE.out HEB.out HKK.out OB.out), v0, v1⟩ (fun hHeld => ?_)
            refine wpAnyH_take (i := 0) (v := ?vC8n70) (take_list rfl) (by kernel_rfl) (by kernel_rfl) (by kernel_rfl) (fun _ _ _ h => h) (Or.inl ⟨by rfl, ?hyC8n70⟩) (by assumption) ?restC8n70
            case hyC8n70 => (intro w hSw; (try dsimp only at hSw); go_simp <;> with_reducible rfl)
            try simp only [Act.put, List.setIfInBounds_toArray, List.set_cons_zero, List.set_cons_succ]
            refine wpAnyH_take (i := 1) (v := ?vC8n71) (take_list rfl) (by kernel_rfl) (by kernel_rfl) (by kernel_rfl) (fun _ _ _ h => h) (Or.inl ⟨by rfl, ?hyC8n71⟩) (by assumption) ?restC8n71
            case hyC8n71 => (intro w hSw; (try dsimp only at hSw); go_simp <;> with_reducible rfl)
            try simp only [Act.put, List.setIfInBounds_toArray, List.set_cons_zero, List.set_cons_succ]
            refine wpAnyH_take (i := 2) (v := ?vC8n72) (take_list rfl) (by kernel_rfl) (by kernel_rfl) (by kernel_rfl) (fun _ _ _ h => h) (Or.inl ⟨by rfl, ?hyC8n72⟩) (by assumption) ?restC8n72
            case hyC8n72 => (intro w hSw; (try dsimp only at hSw); go_simp <;> with_reducible rfl)
            try simp only [Act.put, List.setIfInBounds_toArray, List.set_cons_zero, List.set_cons_succ]
            refine wpAnyH_take (i := 3) (v := ?vC8n73) (take_list rfl) (by kernel_rfl) (by kernel_rfl) (by kernel_rfl) (fun _ _ _ h => h) (Or.inl ⟨by rfl, ?hyC8n73⟩) (by assumption) ?restC8n73
            case hyC8n73 => (intro w hSw; (try dsimp only at hSw); go_simp <;> with_reducible rfl)
            try simp only [Act.put, List.setIfInBounds_toArray, List.set_cons_zero, List.set_cons_succ]
            refine wpAnyH_take (i := 4) (v := ?vC8n74) (take_list rfl) (by kernel_rfl) (by kernel_rfl) (by kernel_rfl) (fun _ _ _ h => h) (Or.inl ⟨by rfl, ?hyC8n74⟩) (by assumption) ?restC8n74
            case hyC8n74 => (intro w hSw; (try dsimp only at hSw); go_simp <;> with_reducible rfl)
            try simp only [Act.put, List.setIfInBounds_toArray, List.set_cons_zero, List.set_cons_succ]
            refine wpAnyH_take (i := 5) (v := ?vC8n75) (take_list rfl) (by kernel_rfl) (by kernel_rfl) (by kernel_rfl) (fun _ _ _ h => h) (Or.inl ⟨by rfl, ?hyC8n75⟩) (by assumption) ?restC8n75
            case hyC8n75 => (intro w hSw; (try dsimp only at hSw); go_simp <;> with_reducible rfl)
            try simp only [Act.put, List.setIfInBounds_toArray, List.set_cons_zero, List.set_cons_succ]
            refine wpAnyH_ready (rs := [6]) (by kernel_rfl) (by simp) ?_
            refine AllReadyH.cons rfl (fun K hK => ?_) AllReadyH.nil
            have hKp := PLift.up hK
            clear hK
            go_simp
            go_wp2_with (go_at_call 42; refine (sNowhere _).mono ?_; rintro e5 w5 ⟨rfl, hb5⟩; have B5 := Lib.hid (show Below w7.heap.size w7 w5 from below_of_drew hb5); clear hb5; have G5 := Lib.hid (GM.out.below B5.out); have X5 := Lib.hid (X7.out.below B5.out hgz0); have k1z : w5.cell? ⟨w.heap.size + 1, 0, none⟩ = some (.map (some w.heap.size)) := G5.out.cm.cell 0; have x0z : w5.cell? ⟨g, 0, none⟩ = some (strV b.key) := X5.out.cell 0; have x1z : w5.cell? ⟨g, 1, none⟩ = some (.int .i64 b.gen) := X5.out.cell 1; have x2z : w5.cell? ⟨g, 2, none⟩ = some (.int .i64 b.groups) := X5.out.cell 2; have x3z : w5.cell? ⟨g, 3, none⟩ = some (.int .i64 b.size) := X5.out.cell 3; have x4z : w5.cell? ⟨g, 4, none⟩ = some (strV b.sum) := X5.out.cell 4; have ROW5 := Lib.hid (ROW.out.below B5.out hgz); have hlkz : (Instr.lookup 56 (.map (some w.heap.size)) (.agg #[strV b.key, .int .i64 b.gen, .int .i64 b.groups, .int .i64 b.size, strV b.sum]) false).run Try.prog w5 = .ok (.slice (some ⟨e.g, 0, none⟩) k k) w5 := ent_look (MM.out.of_eq (B5.out.block _ MM.out.lt)) HE.out HEB.out HKK.out OB.out; have v0z : w5.cell? ⟨e.g, s * 2, none⟩ = some (.int .i64 0) := keepc B5.out hgz v0; have v1z : w5.cell? ⟨e.g, s * 2 + 1, none⟩ = some (.int .i64 1024) := keepc B5.out hgz v1)
            have hK := hKp.down
            clear hKp
            clear hHeld
            refine hK.out _ _ ⟨k1z, x0z, x1z, x2z, x3z, x4z, hlkz, v0z, v1z⟩ (fun hHeld => ?_)
            clear hK K
            refine wpAnyH_take (i := 7) (v := ?vC8n77) (take_list rfl) (by kernel_rfl) (by kernel_rfl) (by kernel_rfl) (fun _ _ _ h => h) (Or.inl ⟨by rfl, ?hyC8n77⟩) (by assumption) ?restC8n77
            case hyC8n77 => (intro w hSw; (try dsimp only at hSw); go_simp <;> with_reducible rfl)
            try simp only [Act.put, List.setIfInBounds_toArray, List.set_cons_zero, List.set_cons_succ]
            refine wpAnyH_done (by kernel_rfl) ?_ _
            have XW5 := Lib.hid (XW7.out.below B5.out (by omega))
            have y0z : w5.cell? ⟨W0.heap.size, 0, none⟩ = some (.int .i64 x.cart) := XW5.out.cell 0
            have y1z : w5.cell? ⟨W0.heap.size, 1, none⟩ = some (.int .i64 x.pos) := XW5.out.cell 1
            have fr0 : w5.frozen? ⟨e.g, s * 2, none⟩ = false := ROW5.out.free _
            have fr1 : w5.frozen? ⟨e.g, s * 2 + 1, none⟩ = false := ROW5.out.free _
            gi_upto_region 9 with fail
            refine wpIn_region_held (S := (fun w' => w'.cell? ⟨w.heap.size + 1, 0, none⟩ = some (.map (some w.heap.size)) ∧ w'.cell? ⟨g, 0, none⟩ = some (strV b.key) ∧ w'.cell? ⟨g, 1, none⟩ = some (.int .i64 b.gen) ∧ w'.cell? ⟨g, 2, none⟩ = some (.int .i64 b.groups) ∧ w'.cell? ⟨g, 3, none⟩ = some (.int .i64 b.size) ∧ w'.cell? ⟨g, 4, none⟩ = some (strV b.sum) ∧ (Instr.lookup 56 (.map (some w.heap.size)) (.agg #[strV b.key, .int .i64 b.gen, .int .i64 b.groups, .int .i64 b.size, strV b.sum]) false).run Try.prog w' = .ok (.slice (some ⟨e.g, 0, none⟩) k k) w' ∧ w'.cell? ⟨W0.heap.size, 0, none⟩ = some (.int .i64 x.cart) ∧ w'.cell? ⟨W0.heap.size, 1, none⟩ = some (.int .i64 x.pos))) (by kernel_rfl) (fun ⟨_, _, h⟩ => h) (by kernel_rfl) ⟨k1z, x0z, x1z, x2z, x3z, x4z, (ent_look ((MM.out.of_eq (B5.out.block _ MM.out.lt)).of_eq rfl) HE.out HEB.out HKK.out OB.out), y0z, y1z⟩ (fun hHeld => ?_)
            refine wpAnyH_take (i := 0) (v := ?vC9n100) (take_list rfl) (by kernel_rfl) (by kernel_rfl) (by kernel_rfl) (fun _ _ _ h => h) (Or.inl ⟨by rfl, ?hyC9n100⟩) (by assumption) ?restC9n100
            case hyC9n100 => (intro w hSw; (try dsimp only at hSw); go_simp <;> with_reducible rfl)
            try simp only [Act.put, List.setIfInBounds_toArray, List.set_cons_zero, List.set_cons_succ]
            refine wpAnyH_take (i := 1) (v := ?vC9n101) (take_list rfl) (by kernel_rfl) (by kernel_rfl) (by kernel_rfl) (fun _ _ _ h => h) (Or.inl ⟨by rfl, ?hyC9n101⟩) (by assumption) ?restC9n101
            case hyC9n101 => (intro w hSw; (try dsimp only at hSw); go_simp <;> with_reducible rfl)
            try simp only [Act.put, List.setIfInBounds_toArray, List.set_cons_zero, List.set_cons_succ]
            refine wpAnyH_take (i := 2) (v := ?vC9n102) (take_list rfl) (by kernel_rfl) (by kernel_rfl) (by kernel_rfl) (fun _ _ _ h => h) (Or.inl ⟨by rfl, ?hyC9n102⟩) (by assumption) ?restC9n102
            case hyC9n102 => (intro w hSw; (try dsimp only at hSw); go_simp <;> with_reducible rfl)
            try simp only [Act.put, List.setIfInBounds_toArray, List.set_cons_zero, List.set_cons_succ]
            refine wpAnyH_take (i := 3) (v := ?vC9n103) (take_list rfl) (by kernel_rfl) (by kernel_rfl) (by kernel_rfl) (fun _ _ _ h => h) (Or.inl ⟨by rfl, ?hyC9n103⟩) (by assumption) ?restC9n103
            case hyC9n103 => (intro w hSw; (try dsimp only at hSw); go_simp <;> with_reducible rfl)
            try simp only [Act.put, List.setIfInBounds_toArray, List.set_cons_zero, List.set_cons_succ]
            refine wpAnyH_take (i := 4) (v := ?vC9n104) (take_list rfl) (by kernel_rfl) (by kernel_rfl) (by kernel_rfl) (fun _ _ _ h => h) (Or.inl ⟨by rfl, ?hyC9n104⟩) (by assumption) ?restC9n104
            case hyC9n104 => (intro w hSw; (try dsimp only at hSw); go_simp <;> with_reducible rfl)
            try simp only [Act.put, List.setIfInBounds_toArray, List.set_cons_zero, List.set_cons_succ]
            refine wpAnyH_take (i := 5) (v := ?vC9n105) (take_list rfl) (by kernel_rfl) (by kernel_rfl) (by kernel_rfl) (fun _ _ _ h => h) (Or.inl ⟨by rfl, ?hyC9n105⟩) (by assumption) ?restC9n105
            case hyC9n105 => (intro w hSw; (try dsimp only at hSw); go_simp <;> with_reducible rfl)
            try simp only [Act.put, List.setIfInBounds_toArray, List.set_cons_zero, List.set_cons_succ]
            refine wpAnyH_take (i := 6) (v := ?vC9n106) (take_list rfl) (by kernel_rfl) (by kernel_rfl) (by kernel_rfl) (fun _ _ _ h => h) (Or.inl ⟨by rfl, ?hyC9n106⟩) (by assumption) ?restC9n106
            case hyC9n106 => (intro w hSw; (try dsimp only at hSw); go_simp <;> with_reducible rfl)
            try simp only [Act.put, List.setIfInBounds_toArray, List.set_cons_zero, List.set_cons_succ]
            refine wpAnyH_ready (rs := [7]) (by kernel_rfl) (by simp) ?_
            refine AllReadyH.cons rfl (fun K hK => ?_) AllReadyH.nil
            have hKp := PLift.up hK
            clear hK
            go_simp
            have hK := hKp.down
            clear hKp
            clear hHeld
            refine hK.out _ _ (by exact ⟨far2 k1z hnk, far2 x0z hneg, far2 x1z hneg, far2 x2z hneg, far2 x3z hneg, far2 x4z hneg, (ent_look ((map_far2 (MM.out.of_eq (B5.out.block _ MM.out.lt)) hnm).of_eq rfl) HE.out HEB.out HKK.out OB.out), far2 y0z hneW0, far2 y1z hneW0⟩) (fun hHeld => ?_)
            clear hK K
            refine wpAnyH_done (by kernel_rfl) ?_ _
            gi_wp2
            refine ⟨fun q h1 h2 => ?_, ⟨CL2, ((G5.out.stored IN.out HE.out (by rw [HB.out, HEB.out]) HK.out HS.out (by rw [HEB.out, HP.out]) OKP.out).below (below_drewed _ _))⟩⟩
            exact (far2_heap (w := w5) (by omega)).trans ((B5.out.block q (by omega)).trans (KP7.out q h1 h2))
          · by_cases ha : p1 = 0
            · have hb : ¬ p2 = 1024 := fun h => h0 ⟨ha, h⟩
              subst ha
              have PNE := Lib.hid (show ((0 : Int), p2) ≠ (0, 1024) from fun h => hb (congrArg Prod.snd h))
              have qb : (p2 == 1024) = false := by simpa using hb
              clear h0
              refine wpIn_region_held (S := (fun w' => w'.cell? ⟨w.heap.size + 1, 0, none⟩ = some (.map (some w.heap.size)) ∧ w'.cell? ⟨g, 0, none⟩ = some (strV b.key) ∧ w'.cell? ⟨g, 1, none⟩ = some (.int .i64 b.gen) ∧ w'.cell? ⟨g, 2, none⟩ = some (.int .i64 b.groups) ∧ w'.cell? ⟨g, 3, none⟩ = some (.int .i64 b.size) ∧ w'.cell? ⟨g, 4, none⟩ = some (strV b.sum) ∧ (Instr.lookup 56 (.map (some w.heap.size)) (.agg #[strV b.key, .int .i64 b.gen, .int .i64 b.groups, .int .i64 b.size, strV b.sum]) false).run Try.prog w' = .ok (.slice (some ⟨e.g, 0, none⟩) k k) w' ∧ w'.cell? ⟨e.g, s * 2, none⟩ = some (.int .i64 0) ∧ w'.cell? ⟨e.g, s * 2 + 1, none⟩ = some (.int .i64 p2))) (by kernel_rfl) (fun ⟨_, _, h⟩ => h) (by kernel_rfl) ⟨k1, x0, x1, x2, x3, x4, (ent_look (MM.out.of_eq rfl) HE.out HEB.out HKK.out OB.out), v0, v1⟩ (fun hHeld => ?_)
              refine wpAnyH_take (i := 0) (v := ?vC8n80) (take_list rfl) (by kernel_rfl) (by kernel_rfl) (by kernel_rfl) (fun _ _ _ h => h) (Or.inl ⟨by rfl, ?hyC8n80⟩) (by assumption) ?restC8n80
              case hyC8n80 => (intro w hSw; (try dsimp only at hSw); go_simp <;> with_reducible rfl)
              try simp only [Act.put, List.setIfInBounds_toArray, List.set_cons_zero, List.set_cons_succ]
              refine wpAnyH_take (i := 1) (v := ?vC8n81) (take_list rfl) (by kernel_rfl) (by kernel_rfl) (by kernel_rfl) (fun _ _ _ h => h) (Or.inl ⟨by rfl, ?hyC8n81⟩) (by assumption) ?restC8n81
              case hyC8n81 => (intro w hSw; (try dsimp only at hSw); go_simp <;> with_reducible rfl)
              try simp only [Act.put, List.setIfInBounds_toArray, List.set_cons_zero, List.set_cons_succ]
              refine wpAnyH_take (i := 2) (v := ?vC8n82) (take_list rfl) (by kernel_rfl) (by kernel_rfl) (by kernel_rfl) (fun _ _ _ h => h) (Or.inl ⟨by rfl, ?hyC8n82⟩) (by assumption) ?restC8n82
              case hyC8n82 => (intro w hSw; (try dsimp only at hSw); go_simp <;> with_reducible rfl)
              try simp only [Act.put, List.setIfInBounds_toArray, List.set_cons_zero, List.set_cons_succ]
              refine wpAnyH_take (i := 3) (v := ?vC8n83) (take_list rfl) (by kernel_rfl) (by kernel_rfl) (by kernel_rfl) (fun _ _ _ h => h) (Or.inl ⟨by rfl, ?hyC8n83⟩) (by assumption) ?restC8n83
              case hyC8n83 => (intro w hSw; (try dsimp only at hSw); go_simp <;> with_reducible rfl)
              try simp only [Act.put, List.setIfInBounds_toArray, List.set_cons_zero, List.set_cons_succ]
              refine wpAnyH_take (i := 4) (v := ?vC8n84) (take_list rfl) (by kernel_rfl) (by kernel_rfl) (by kernel_rfl) (fun _ _ _ h => h) (Or.inl ⟨by rfl, ?hyC8n84⟩) (by assumption) ?restC8n84
              case hyC8n84 => (intro w hSw; (try dsimp only at hSw); go_simp <;> with_reducible rfl)
              try simp only [Act.put, List.setIfInBounds_toArray, List.set_cons_zero, List.set_cons_succ]
              refine wpAnyH_take (i := 5) (v := ?vC8n85) (take_list rfl) (by kernel_rfl) (by kernel_rfl) (by kernel_rfl) (fun _ _ _ h => h) (Or.inl ⟨by rfl, ?hyC8n85⟩) (by assumption) ?restC8n85
              case hyC8n85 => (intro w hSw; (try dsimp only at hSw); go_simp <;> with_reducible rfl)
              try simp only [Act.put, List.setIfInBounds_toArray, List.set_cons_zero, List.set_cons_succ]
              refine wpAnyH_ready (rs := [6]) (by kernel_rfl) (by simp) ?_
              refine AllReadyH.cons rfl (fun K hK => ?_) AllReadyH.nil
              have hKp := PLift.up hK
              clear hK
              go_simp
              go_wp2_with (go_at_call 42; refine (sNowhere _).mono ?_; rintro e5 w5 ⟨rfl, hb5⟩; have B5 := Lib.hid (show Below w7.heap.size w7 w5 from below_of_drew hb5); clear hb5; have G5 := Lib.hid (GM.out.below B5.out); have X5 := Lib.hid (X7.out.below B5.out hgz0); have k1z : w5.cell? ⟨w.heap.size + 1, 0, none⟩ = some (.map (some w.heap.size)) := G5.out.cm.cell 0; have x0z : w5.cell? ⟨g, 0, none⟩ = some (strV b.key) := X5.out.cell 0; have x1z : w5.cell? ⟨g, 1, none⟩ = some (.int .i64 b.gen) := X5.out.cell 1; have x2z : w5.cell? ⟨g, 2, none⟩ = some (.int .i64 b.groups) := X5.out.cell 2; have x3z : w5.cell? ⟨g, 3, none⟩ = some (.int .i64 b.size) := X5.out.cell 3; have x4z : w5.cell? ⟨g, 4, none⟩ = some (strV b.sum) := X5.out.cell 4; have ROW5 := Lib.hid (ROW.out.below B5.out hgz); have hlkz : (Instr.lookup 56 (.map (some w.heap.size)) (.agg #[strV b.key, .int .i64 b.gen, .int .i64 b.groups, .int .i64 b.size, strV b.sum]) false).run Try.prog w5 = .ok (.slice (some ⟨e.g, 0, none⟩) k k) w5 := ent_look (MM.out.of_eq (B5.out.block _ MM.out.lt)) HE.out HEB.out HKK.out OB.out; have v0z : w5.cell? ⟨e.g, s * 2, none⟩ = some (.int .i64 0) := keepc B5.out hgz v0; have v1z : w5.cell? ⟨e.g, s * 2 + 1, none⟩ = some (.int .i64 p2) := keepc B5.out hgz v1)
              have hK := hKp.down
              clear hKp
              clear hHeld
              refine hK.out _ _ ⟨k1z, x0z, x1z, x2z, x3z, x4z, hlkz, v0z, v1z⟩ (fun hHeld => ?_)
              clear hK K
              refine wpAnyH_take (i := 7) (v := ?vC8n87) (take_list rfl) (by kernel_rfl) (by kernel_rfl) (by kernel_rfl) (fun _ _ _ h => h) (Or.inl ⟨by rfl, ?hyC8n87⟩) (by assumption) ?restC8n87
              case hyC8n87 => (intro w hSw; (try dsimp only at hSw); go_simp <;> with_reducible rfl)
              try simp only [Act.put, List.setIfInBounds_toArray, List.set_cons_zero, List.set_cons_succ]
              refine wpAnyH_done (by kernel_rfl) ?_ _
              gi_wp2
              refine ⟨fun q h1 h2 => (B5.out.block q (by omega)).trans (KP7.out q h1 h2), ⟨CL2, (G5.out.same_ IN.out HE.out (by rw [HB.out, HEB.out]) HS.out (by rw [HEB.out, HP.out]; exact PNE.out) OKP.out)⟩⟩
            · have qa : (p1 == 0) = false := by simpa using ha
              have PNE := Lib.hid (show (p1, p2) ≠ ((0 : Int), (1024 : Int)) from fun h => ha (congrArg Prod.fst h))
              clear h0
              refine wpIn_region_held (S := (fun w' => w'.cell? ⟨w.heap.size + 1, 0, none⟩ = some (.map (some w.heap.size)) ∧ w'.cell? ⟨g, 0, none⟩ = some (strV b.key) ∧ w'.cell? ⟨g, 1, none⟩ = some (.int .i64 b.gen) ∧ w'.cell? ⟨g, 2, none⟩ = some (.int .i64 b.groups) ∧ w'.cell? ⟨g, 3, none⟩ = some (.int .i64 b.size) ∧ w'.cell? ⟨g, 4, none⟩ = some (strV b.sum) ∧ (Instr.lookup 56 (.map (some w.heap.size)) (.agg #[strV b.key, .int .i64 b.gen, .int .i64 b.groups, .int .i64 b.size, strV b.sum]) false).run Try.prog w' = .ok (.slice (some ⟨e.g, 0, none⟩) k k) w' ∧ w'.cell? ⟨e.g, s * 2, none⟩ = some (.int .i64 p1) ∧ w'.cell? ⟨e.g, s * 2 + 1, none⟩ = some (.int .i64 p2))) (by kernel_rfl) (fun ⟨_, _, h⟩ => h) (by kernel_rfl) ⟨k1, x0, x1, x2, x3, x4, (ent_look (MM.out.of_eq rfl) HE.out HEB.out HKK.out OB.out), v0, v1⟩ (fun hHeld => ?_)
              refine wpAnyH_take (i := 0) (v := ?vC8n90) (take_list rfl) (by kernel_rfl) (by kernel_rfl) (by kernel_rfl) (fun _ _ _ h => h) (Or.inl ⟨by rfl, ?hyC8n90⟩) (by assumption) ?restC8n90
              case hyC8n90 => (intro w hSw; (try dsimp only at hSw); go_simp <;> with_reducible rfl)
              try simp only [Act.put, List.setIfInBounds_toArray, List.set_cons_zero, List.set_cons_succ]
              refine wpAnyH_take (i := 1) (v := ?vC8n91) (take_list rfl) (by kernel_rfl) (by kernel_rfl) (by kernel_rfl) (fun _ _ _ h => h) (Or.inl ⟨by rfl, ?hyC8n91⟩) (by assumption) ?restC8n91
              case hyC8n91 => (intro w hSw; (try dsimp only at hSw); go_simp <;> with_reducible rfl)
              try simp only [Act.put, List.setIfInBounds_toArray, List.set_cons_zero, List.set_cons_succ]
              refine wpAnyH_take (i := 2) (v := ?vC8n92) (take_list rfl) (by kernel_rfl) (by kernel_rfl) (by kernel_rfl) (fun _ _ _ h => h) (Or.inl ⟨by rfl, ?hyC8n92⟩) (by assumption) ?restC8n92
              case hyC8n92 => (intro w hSw; (try dsimp only at hSw); go_simp <;> with_reducible rfl)
              try simp only [Act.put, List.setIfInBounds_toArray, List.set_cons_zero, List.set_cons_succ]
              refine wpAnyH_take (i := 3) (v := ?vC8n93) (take_list rfl) (by kernel_rfl) (by kernel_rfl) (by kernel_rfl) (fun _ _ _ h => h) (Or.inl ⟨by rfl, ?hyC8n93⟩) (by assumption) ?restC8n93
              case hyC8n93 => (intro w hSw; (try dsimp only at hSw); go_simp <;> with_reducible rfl)
              try simp only [Act.put, List.setIfInBounds_toArray, List.set_cons_zero, List.set_cons_succ]
              refine wpAnyH_take (i := 4) (v := ?vC8n94) (take_list rfl) (by kernel_rfl) (by kernel_rfl) (by kernel_rfl) (fun _ _ _ h => h) (Or.inl ⟨by rfl, ?hyC8n94⟩) (by assumption) ?restC8n94
              case hyC8n94 => (intro w hSw; (try dsimp only at hSw); go_simp <;> with_reducible rfl)
              try simp only [Act.put, List.setIfInBounds_toArray, List.set_cons_zero, List.set_cons_succ]
              refine wpAnyH_take (i := 5) (v := ?vC8n95) (take_list rfl) (by kernel_rfl) (by kernel_rfl) (by kernel_rfl) (fun _ _ _ h => h) (Or.inl ⟨by rfl, ?hyC8n95⟩) (by assumption) ?restC8n95
              case hyC8n95 => (intro w hSw; (try dsimp only at hSw); go_simp <;> with_reducible rfl)
              try simp only [Act.put, List.setIfInBounds_toArray, List.set_cons_zero, List.set_cons_succ]
              refine wpAnyH_ready (rs := [6]) (by kernel_rfl) (by simp) ?_
              refine AllReadyH.cons rfl (fun K hK => ?_) AllReadyH.nil
              have hKp := PLift.up hK
              clear hK
              go_simp
              go_wp2_with (go_at_call 42; refine (sNowhere _).mono ?_; rintro e5 w5 ⟨rfl, hb5⟩; have B5 := Lib.hid (show Below w7.heap.size w7 w5 from below_of_drew hb5); clear hb5; have G5 := Lib.hid (GM.out.below B5.out); have X5 := Lib.hid (X7.out.below B5.out hgz0); have k1z : w5.cell? ⟨w.heap.size + 1, 0, none⟩ = some (.map (some w.heap.size)) := G5.out.cm.cell 0; have x0z : w5.cell? ⟨g, 0, none⟩ = some (strV b.key) := X5.out.cell 0; have x1z : w5.cell? ⟨g, 1, none⟩ = some (.int .i64 b.gen) := X5.out.cell 1; have x2z : w5.cell? ⟨g, 2, none⟩ = some (.int .i64 b.groups) := X5.out.cell 2; have x3z : w5.cell? ⟨g, 3, none⟩ = some (.int .i64 b.size) := X5.out.cell 3; have x4z : w5.cell? ⟨g, 4, none⟩ = some (strV b.sum) := X5.out.cell 4; have ROW5 := Lib.hid (ROW.out.below B5.out hgz); have hlkz : (Instr.lookup 56 (.map (some w.heap.size)) (.agg #[strV b.key, .int .i64 b.gen, .int .i64 b.groups, .int .i64 b.size, strV b.sum]) false).run Try.prog w5 = .ok (.slice (some ⟨e.g, 0, none⟩) k k) w5 := ent_look (MM.out.of_eq (B5.out.block _ MM.out.lt)) HE.out HEB.out HKK.out OB.out; have v0z : w5.cell? ⟨e.g, s * 2, none⟩ = some (.int .i64 p1) := keepc B5.out hgz v0; have v1z : w5.cell? ⟨e.g, s * 2 + 1, none⟩ = some (.int .i64 p2) := keepc B5.out hgz v1)
              have hK := hKp.down
              clear hKp
              clear hHeld
              refine hK.out _ _ ⟨k1z, x0z, x1z, x2z, x3z, x4z, hlkz, v0z, v1z⟩ (fun hHeld => ?_)
              clear hK K
              refine wpAnyH_take (i := 7) (v := ?vC8n97) (take_list rfl) (by kernel_rfl) (by kernel_rfl) (by kernel_rfl) (fun _ _ _ h => h) (Or.inl ⟨by rfl, ?hyC8n97⟩) (by assumption) ?restC8n97
              case hyC8n97 => (intro w hSw; (try dsimp only at hSw); go_simp <;> with_reducible rfl)
              try simp only [Act.put, List.setIfInBounds_toArray, List.set_cons_zero, List.set_cons_succ]
              refine wpAnyH_done (by kernel_rfl) ?_ _
              gi_wp2
              refine ⟨fun q h1 h2 => (B5.out.block q (by omega)).trans (KP7.out q h1 h2), ⟨CL2, (G5.out.same_ IN.out HE.out (by rw [HB.out, HEB.out]) HS.out (by rw [HEB.out, HP.out]; exact PNE.out) OKP.out)⟩⟩
    · have qk : (x.r.kind != 2) = true := by simpa using hk
      have HK := Lib.hid hk
      clear hk
      gi_wp2
      exact ⟨fun _ _ _ => rfl, ⟨CL, GA.out.skip HK.out⟩⟩
  case done =>
    intro W hI hD
    have HI := Lib.hid hI
    obtain ⟨CL, hI⟩ := hI
    have k1 : W.cell? ⟨w.heap.size + 1, 0, none⟩ = some (.map (some w.heap.size)) := hI.cm.cell 0
    clear hI
    have HD := Lib.hid hD
    clear hD
    gi_wp2
    refine ⟨by simp, .inl ⟨_, _, rfl, run_takeDeferred (ds := []) HD.out, ?_⟩⟩
    have hb : Below w.heap.size W (W.putObj v.heap.size (.deferred none)) := ⟨rfl, rfl, rfl, by simp [World.putObj_size], fun j hj => World.putObj_heap_other (by omega)⟩
    refine ⟨_, results_tmp rfl _ _ _, rfl, ?_⟩
    obtain ⟨CL, ⟨N, hm, hN⟩, a2, a3, a4, a5, a6, a7, a8, a9⟩ := HI.out
    exact ⟨CL, ⟨N, hm.of_eq (World.putObj_heap_other (by omega)), hN⟩, a2.of_eq (World.putObj_heap_other (by omega)), a3.of_eq (World.putObj_heap_other (by omega)), IN.out.below (a9.trans hb), fun e he => ⟨(a5 e he).1, (a5 e he).2.of_eq (World.putObj_heap_other (by have := (a5 e he).1; omega))⟩, a6, a7, a8, a9.trans hb⟩
end Go.Proofs.Ythceidacmeadkaa
