/- How many shards the poorest group has. No condition beyond those that each theorem states. -/
import Derived.Test.YthceidacmeadkaaS6
import Derived.Sort.QuietIn
import Derived.Sort.CutIn
import Derived.Stop.RegionWithIn
namespace Go.Proofs.Ythceidacmeadkaa
open Go.RowKit
attribute [local go_sem] Oper.semAt_some

theorem sChunk (g k c : Nat) (w : World) : Calls Try.prog 43 #[.slice (some ⟨g, 0, none⟩) k c, .int .i64 10] w fun e w' => e = .returned (.func (.func 53) #[] #[.pointer (some ⟨w.heap.size, 0, none⟩), .pointer (some ⟨w.heap.size + 1, 0, none⟩)]) ∧ w' = (w.alloc (.cells #[.slice (some ⟨g, 0, none⟩) k c] 30)).alloc (.cells #[.int .i64 10] 3) := by
  go_enter Try.func43, Try.ntmps43
  go_wp2_with fail
  go_ret
  exact ⟨rfl, rfl⟩
def chunkInv (b1 b2 g k c : Nat) (W : World) : Prop := Blk W b1 30 #[.slice (some ⟨g, 0, none⟩) k c] ∧ Blk W b2 3 #[.int .i64 10]
section
set_option maxHeartbeats 8000000
set_option maxRecDepth 100000
theorem chunk_it (b1 b2 g k c q : Nat) (hk : k = q * 10) (hkc : k ≤ c) (hc : c ≤ 100000) :
    Iterates 53 #[.pointer (some ⟨b1, 0, none⟩), .pointer (some ⟨b2, 0, none⟩)] (fun j => #[.slice (some ⟨g, j * 10 * 2, none⟩) 10 10]) (List.range q) (chunkInv b1 b2 g k c) := by
  intro l J Jx W hJb hInv hY h0
  have JB := Lib.hid hJb
  have IV := Lib.hid hInv
  have HY := Lib.hid hY
  have H0 := Lib.hid h0
  have HK := Lib.hid hk
  clear hJb hInv hY h0
  refine callsIn_of_wp Try.func53 rfl trivial ?_ rfl
  simp only [Try.ntmps53, List.size_toArray, List.length_cons, List.length_nil, Nat.reduceAdd, Nat.reduceSub, Array.replicate_succ, Array.replicate_zero, List.push_toArray, List.append_toArray, List.nil_append, List.cons_append]
  gi_wp2
  gi_loopw [4] (fun v wr => ∃ j i : Nat, v = .int .i64 i ∧ i = j * 10 ∧ j ≤ q ∧ J (List.range j) wr) (fun v _ => k - (intOf v).toNat)
  case atStart => exact ⟨0, 0, rfl, rfl, Nat.zero_le _, H0.out⟩
  case round =>
    obtain ⟨j, i, rfl, hi, hjq, hj⟩ := hrel
    have HJ := Lib.hid hj
    obtain ⟨i1, i2⟩ := IV.out _ _ hj
    have V1 := Lib.hid i1
    have V2 := Lib.hid i2
    have k1 : wr.cell? ⟨b1, 0, none⟩ = some (.slice (some ⟨g, 0, none⟩) k c) := i1.cell 0
    have k2 : wr.cell? ⟨b2, 0, none⟩ = some (.int .i64 10) := i2.cell 0
    have HI := Lib.hid hi
    clear hj i1 i2
    by_cases hlt : j < q
    · have hik : i + 10 ≤ k := by omega
      have f1 : decide ((i : Int) < (k : Int)) = true := decide_eq_true (by omega)
      have f2 : (i : Int) < (k : Int) := by omega
      have f3 : (0 : Int) ≤ (i : Int) := by omega
      have f4 : (i : Int) ≤ (c : Int) := by omega
      have f5 : (i : Int) ≤ (k : Int) := by omega
      have f6 : i ≤ k := by omega
      have hne : ¬ c = i := by omega
      have p1 : IntKind.i64.wrap ((i : Int) + 10) = ((i + 10 : Nat) : Int) := by rw [IntWalk.i64_in _ (by omega)]; omega
      have m1 : ¬ ((k - i : Nat) : Int) < 10 := by omega
      have m2 : ¬ (((k : Int) - (i : Int)) < 10) := by omega
      have PF := Lib.hid (show List.range j ++ [j] <+: List.range q by
        rw [← List.range_succ]
        obtain ⟨r, hr⟩ : ∃ r, q = (j + 1) + r := ⟨q - (j + 1), by omega⟩
        rw [hr, show List.range (j + 1 + r) = List.range (j + 1) ++ _ from List.range_add]
        exact List.prefix_append _ _)
      have hmin : min (10 : Int) ((k - i : Nat) : Int) = 10 := by omega
      have g1 : (0 : Int) ≤ ((i + 10 : Nat) : Int) := by omega
      have g2 : ((i + 10 : Nat) : Int) ≤ (c : Int) := by omega
      have g3 : (i : Int) ≤ ((i + 10 : Nat) : Int) := by omega
      have g4 : i ≤ i + 10 := by omega
      have g5 : i + 10 - i = 10 := by omega
      clear hi hk
      gi_upto_region 3 with fail
      gi_quiet (fail)
      have HJ2 := Lib.hid (JB.out _ _ _ HJ.out (show Below wr.heap.size wr (wr.drewN nq) from ⟨rfl, rfl, rfl, Nat.le_refl _, fun _ _ => rfl⟩))
      obtain ⟨fn, tmps, assign, body, hy, hR⟩ := HY.out (List.range j) j (wr.drewN nq) PF.out HJ2.out
      have RR := Lib.hid hR
      rw [← HI.out] at hy
      clear hR
      gi_wp2
      refine RR.out.mono ?_
      rintro e W2 (⟨rfl, hJ3⟩ | ⟨rfl, hx3⟩)
      · have J3 := Lib.hid hJ3
        have K2 := Lib.hid ((IV.out _ _ hJ3).2)
        have k3 : W2.cell? ⟨b2, 0, none⟩ = some (.int .i64 10) := K2.out.cell 0
        clear hJ3 RR hy
        gi_wp2
        go_roundw
        case rel => exact ⟨j + 1, i + 10, by simp, by have := HI.out; omega, hlt, by rw [List.range_succ]; exact J3.out⟩
        case measure =>
          simp only [intOf]
          omega
      · have X3 := Lib.hid hx3
        clear hx3 RR hy
        gi_wp2
        refine bodyPost_ret (results_none rfl _ _ _) rfl ?_
        exact ⟨⟨_, rfl⟩, .inr ⟨List.range j ++ [j], PF.out, X3.out⟩⟩
    · have hjq2 : j = q := by omega
      have f1 : decide ((i : Int) < (k : Int)) = false := decide_eq_false (by omega)
      have f2 : ¬ (i : Int) < (k : Int) := by omega
      have HE := Lib.hid (show J (List.range q) wr by rw [← hjq2]; exact HJ.out)
      clear hjq2 hi
      gi_wp2
      go_end0
      exact ⟨⟨_, rfl⟩, .inl HE.out⟩
def thereP (p : Int × Int) : Bool := !(decide (p.1 = 0) && decide (p.2 = 1024))
def cntTo (ps : List (Int × Int)) (j i : Nat) : Nat := ((ps.drop (j * 10)).take i).countP thereP
def poorL (ps : List (Int × Int)) (pre : List Nat) : Int := pre.foldl (fun m j => min m (cntTo ps j 10 : Int)) 10
def poorV (ps : List (Int × Int)) : Int := poorL ps (List.range (ps.length / 10))
theorem poor_snoc (ps : List (Int × Int)) (pre : List Nat) (j : Nat) : poorL ps (pre ++ [j]) = min (poorL ps pre) (cntTo ps j 10 : Int) := by simp [poorL, List.foldl_append]
theorem cnt_succ {ps : List (Int × Int)} {j i : Nat} {p : Int × Int} (h : ps[j * 10 + i]? = some p) : cntTo ps j (i + 1) = cntTo ps j i + (if thereP p then 1 else 0) := by
  unfold cntTo
  have h2 : (ps.drop (j * 10))[i]? = some p := by rw [List.getElem?_drop]; exact h
  rw [List.take_add_one, h2, List.countP_append]
  congr 1
  cases hp : thereP p <;> simp [hp]
structure PoorAt (w : World) (g k c : Nat) (ps : List (Int × Int)) (pre : List Nat) (W : World) : Prop where
  ci : Blk W w.heap.size 3 #[.int .i64 (poorL ps pre)]
  b1 : Blk W (w.heap.size + 1) 30 #[.slice (some ⟨g, 0, none⟩) k c]
  b2 : Blk W (w.heap.size + 2) 3 #[.int .i64 10]
  base : Below w.heap.size w W
theorem PoorAt.below {w W W' : World} {g k c : Nat} {ps : List (Int × Int)} {pre : List Nat} (h : PoorAt w g k c ps pre W) (hb : Below W.heap.size W W') : PoorAt w g k c ps pre W' :=
  ⟨h.ci.below hb h.ci.size, h.b1.below hb h.b1.size, h.b2.below hb h.b2.size, h.base.trans (hb.mono h.base.size)⟩
theorem sPoorest (g k c q : Nat) (ps : List (Int × Int)) (hps : ps.length = k) (hk : k = q * 10) (hkc : k ≤ c) (hc : c ≤ 100000) (w : World) (hg : ∀ i u, (placeVals ps)[i]? = some u → w.cell? ⟨g, i, none⟩ = some u) (hgw : g < w.heap.size) :
    Calls Try.prog 20 #[.slice (some ⟨g, 0, none⟩) k c] w fun e w' => e = .returned (.int .i64 (poorV ps)) ∧ Below w.heap.size w w' := by
  have HG := Lib.hid hg
  have HP := Lib.hid hps
  have HK := Lib.hid hk
  clear hg hps hk
  refine (callsIn_wide (n := 3)).1 (callsIn_of_wp_marks Try.func20 rfl trivial ?_ rfl)
  simp only [Try.ntmps20, List.size_toArray, List.length_cons, List.length_nil, Nat.reduceAdd, Nat.reduceSub, Array.replicate_succ, Array.replicate_zero, List.push_toArray, List.append_toArray, List.nil_append, List.cons_append]
  gi_wp2_with (refine ⟨trivial, ?_⟩; gi_at_call 43; refine (callsIn_wide.2 (sChunk g k c _)).mono ?_; rintro e w1 ⟨rfl, rfl⟩)
  obtain ⟨v, hv⟩ : ∃ v, (((w.alloc (.cells #[.int .i64 10] 3)).alloc (.cells #[.slice (some ⟨g, 0, none⟩) k c] 30)).alloc (.cells #[.int .i64 10] 3)) = v := ⟨_, rfl⟩
  have hvs : v.heap.size = w.heap.size + 3 := by rw [← hv]; simp
  have GA0 := Lib.hid (show PoorAt w g k c ps [] v by
    rw [← hv]
    exact ⟨((Blk.made _ _ _).alloc _).alloc _, (Blk.made' _ _ _ (by simp)).alloc _, Blk.made' _ _ _ (by simp), (((Below.refl _ w).alloc (Nat.le_refl _) _).alloc (by simp) _).alloc (by simp; omega) _⟩)
  rw [hv]
  clear hv
  refine range_iter (w := v) (enters_of Try.func53 (by kernel_rfl) rfl) (chunk_it (w.heap.size + 1) (w.heap.size + 2) g k c q HK.out hkc hc) rfl (fun _ => rfl) (PoorAt w g k c ps) (fun _ _ => False) (fun _ _ _ h hb => h.below hb) (fun _ _ h => ⟨h.b1, h.b2⟩) ?hIp (fun _ _ _ _ _ _ _ h => h) GA0.out
    (fun _ W => W) (fun _ W => Below.refl _ W)
    (fun x W => { tmps := #[.slice (some ⟨g, 0, none⟩) k c, undef, .int .i64 0, .pointer (some ⟨w.heap.size, 0, none⟩), .slice (some ⟨g, x * 10 * 2, none⟩) 10 10, undef, undef, undef, .slice (some ⟨g, 0, none⟩) k c, .func (.func 53) #[] #[.pointer (some ⟨w.heap.size + 1, 0, none⟩), .pointer (some ⟨w.heap.size + 1 + 1, 0, none⟩)], .slice (some ⟨g, x * 10 * 2, none⟩) 10 10, undef, undef, undef, undef, undef, undef, undef, undef, undef, undef, undef, undef, undef, undef, undef, undef], defers := [] }) ?assign ?body ?done (fun _ _ _ h _ => h.elim)
  case hIp =>
    intro pre W kk o h1 h2 _ h
    rw [hvs] at h1 h2
    exact ⟨h.ci.of_eq (World.putObj_heap_other (by omega)), h.b1.of_eq (World.putObj_heap_other (by omega)), h.b2.of_eq (World.putObj_heap_other (by omega)), h.base.trans ⟨rfl, rfl, rfl, by simp, fun j hj => World.putObj_heap_other (by omega)⟩⟩
  case assign =>
    intro l x W K hK
    gi_wp2
    exact hK
  case body =>
    intro l pre x W0 W hpf _ hI hz hsz hblk
    rw [hvs] at hz
    have GA := Lib.hid hI
    have hxq : x < q := List.mem_range.1 (pre_mem hpf)
    have hzw : w.heap.size + 5 ≤ W.heap.size := by rw [hsz]; exact hz
    clear hI hsz hblk
    obtain ⟨o, ho⟩ : ∃ o, x * 10 = o := ⟨_, rfl⟩
    have HO := Lib.hid ho
    have hok : o + 10 ≤ k := by have := HK.out; omega
    rw [hvs, ho]
    clear ho
    gi_upto_region 6 with fail
    gi_loopw [5, 13] (fun nv iv wr => ∃ i nn : Nat, iv = .int .i64 i ∧ nv = .int .i64 nn ∧ i ≤ 10 ∧ nn = cntTo ps x i ∧ nn ≤ i ∧ Below W.heap.size W wr) (fun _ iv _ => 10 - (intOf iv).toNat)
    case atStart => exact ⟨0, 0, rfl, rfl, by omega, rfl, by omega, Below.refl _ _⟩
    case round =>
      obtain ⟨i, nn, rfl, rfl, hi10, hnn, hni, hbl⟩ := hrel
      have BL := Lib.hid hbl
      have HN := Lib.hid hnn
      have hzr := hbl.size
      have BW := Lib.hid (GA.out.base.trans (hbl.mono GA.out.base.size))
      clear hbl hnn
      by_cases hlt : i < 10
      · obtain ⟨p, hp⟩ : ∃ p, ps[o + i]? = some p := ⟨_, List.getElem?_eq_getElem (by rw [HP.out]; omega)⟩
        have hpv := placeVals_get hp
        obtain ⟨a, b⟩ := p
        have x0 : wr.cell? ⟨g, o * 2 + i * 2, none⟩ = some (.int .i64 a) := keepc BW.out hgw (HG.out _ _ (by have h := hpv.1; rw [Nat.add_mul] at h; exact h))
        have x1 : wr.cell? ⟨g, o * 2 + i * 2 + 1, none⟩ = some (.int .i64 b) := keepc BW.out hgw (HG.out _ _ (by have h := hpv.2; rw [Nat.add_mul] at h; exact h))
        have HPI := Lib.hid hp
        have f1 : decide ((i : Int) < 10) = true := decide_eq_true (by omega)
        have f2 : (i : Int) < 10 := by omega
        have f3 : (0 : Int) ≤ (i : Int) := by omega
        have p1 : IntKind.i64.wrap ((i : Int) + 1) = ((i + 1 : Nat) : Int) := by rw [IntWalk.i64_in _ (by omega)]; omega
        have p2 : IntKind.i64.wrap ((nn : Int) + 1) = ((nn + 1 : Nat) : Int) := by rw [IntWalk.i64_in _ (by omega)]; omega
        have hgr : g < wr.heap.size := Nat.lt_of_lt_of_le hgw BW.out.size
        clear hp hpv
        gi_upto_region 8 with fail
        obtain ⟨w4, hw4⟩ : ∃ z, wr.alloc (.cells #[.int .i64 a, .int .i64 b] 34) = z := ⟨_, rfl⟩
        have X4 := Lib.hid (show Blk w4 wr.heap.size 34 #[.int .i64 a, .int .i64 b] by rw [← hw4]; exact Blk.made _ _ _)
        have B4 := Lib.hid (show Below W.heap.size W w4 by rw [← hw4]; exact BL.out.alloc BL.out.size _)
        rw [hw4]
        clear hw4
        have y0 : w4.cell? ⟨wr.heap.size, 0, none⟩ = some (.int .i64 a) := X4.out.cell 0
        have y1 : w4.cell? ⟨wr.heap.size, 1, none⟩ = some (.int .i64 b) := X4.out.cell 1
        have CS := Lib.hid (cnt_succ (ps := ps) (j := x) (i := i) (p := (a, b)) (by rw [HO.out]; exact HPI.out))
        by_cases h0 : a = 0 ∧ b = 1024
        · obtain ⟨rfl, rfl⟩ := h0
          have TH := Lib.hid (show nn = cntTo ps x (i + 1) by rw [CS.out, ← HN.out]; simp [thereP])
          gi_region_with (
            refine ⟨trivial, ?_⟩
            gi_at_call 42
            refine (CallsIn.inRound l (callsIn_wide.2 (sNowhere _))).mono ?_
            rintro e w5 ⟨rfl, hb5⟩
            have X5 := Lib.hid ((show Blk w4.drew wr.heap.size 34 #[.int .i64 0, .int .i64 1024] from X4.out).below hb5 X4.out.size)
            have z0 : w5.cell? ⟨wr.heap.size, 0, none⟩ = some (.int .i64 0) := X5.out.cell 0
            have z1 : w5.cell? ⟨wr.heap.size, 1, none⟩ = some (.int .i64 1024) := X5.out.cell 1
            have B5 := Lib.hid (B4.out.trans ((below_of_drew hb5).mono B4.out.size))
            clear hb5)
          all_goals
            gi_wp2
            go_roundw
            case rel => exact ⟨i + 1, nn, by simp, rfl, hlt, TH.out, by omega, B5.out⟩
            case measure =>
              simp only [intOf]
              omega
        · have TH := Lib.hid (show nn + 1 = cntTo ps x (i + 1) by rw [CS.out, ← HN.out]; have : thereP (a, b) = true := (by simp only [thereP, Bool.not_eq_true', Bool.and_eq_false_imp, decide_eq_true_eq, decide_eq_false_iff_not]; exact fun h1 h2 => h0 ⟨h1, h2⟩); rw [this]; rfl)
          by_cases ha : a = 0
          · have hb : ¬ b = 1024 := fun h => h0 ⟨ha, h⟩
            subst ha
            have qb : (b == 1024) = false := by simpa using hb
            clear h0
            gi_region_with (
              refine ⟨trivial, ?_⟩
              gi_at_call 42
              refine (CallsIn.inRound l (callsIn_wide.2 (sNowhere _))).mono ?_
              rintro e w5 ⟨rfl, hb5⟩
              have X5 := Lib.hid ((show Blk w4.drew wr.heap.size 34 #[.int .i64 0, .int .i64 b] from X4.out).below hb5 X4.out.size)
              have z0 : w5.cell? ⟨wr.heap.size, 0, none⟩ = some (.int .i64 0) := X5.out.cell 0
              have z1 : w5.cell? ⟨wr.heap.size, 1, none⟩ = some (.int .i64 b) := X5.out.cell 1
              have B5 := Lib.hid (B4.out.trans ((below_of_drew hb5).mono B4.out.size))
              clear hb5)
            all_goals
              gi_wp2
              go_roundw
              case rel => exact ⟨i + 1, nn + 1, by simp, by simp, hlt, TH.out, by omega, B5.out⟩
              case measure =>
                simp only [intOf]
                omega
          · have qa : (a == 0) = false := by simpa using ha
            clear h0
            gi_region_with (
              refine ⟨trivial, ?_⟩
              gi_at_call 42
              refine (CallsIn.inRound l (callsIn_wide.2 (sNowhere _))).mono ?_
              rintro e w5 ⟨rfl, hb5⟩
              have X5 := Lib.hid ((show Blk w4.drew wr.heap.size 34 #[.int .i64 a, .int .i64 b] from X4.out).below hb5 X4.out.size)
              have z0 : w5.cell? ⟨wr.heap.size, 0, none⟩ = some (.int .i64 a) := X5.out.cell 0
              have z1 : w5.cell? ⟨wr.heap.size, 1, none⟩ = some (.int .i64 b) := X5.out.cell 1
              have B5 := Lib.hid (B4.out.trans ((below_of_drew hb5).mono B4.out.size))
              clear hb5)
            all_goals
              gi_wp2
              go_roundw
              case rel => exact ⟨i + 1, nn + 1, by simp, by simp, hlt, TH.out, by omega, B5.out⟩
              case measure =>
                simp only [intOf]
                omega
      · have hie : i = 10 := by omega
        have f1 : decide ((i : Int) < 10) = false := decide_eq_false (by omega)
        have f2 : ¬ (i : Int) < 10 := by omega
        have CR := Lib.hid (GA.out.ci.of_eq (BL.out.block _ GA.out.ci.size))
        have k2 : wr.cell? ⟨w.heap.size, 0, none⟩ = some (.int .i64 (poorL ps pre)) := CR.out.cell 0
        have fr2 : wr.frozen? ⟨w.heap.size, 0, none⟩ = false := CR.out.free 0
        have HT := Lib.hid (show (nn : Int) = (cntTo ps x 10 : Int) by rw [HN.out, hie])
        clear hie
        gi_wp2
        have CG : Chg (fun kk => kk = w.heap.size) wr (wr.setCell ⟨w.heap.size, 0, none⟩ (.int .i64 (min (poorL ps pre) (nn : Int)))) := (Chg.refl (fun kk => kk = w.heap.size) wr).store (p := ⟨w.heap.size, 0, none⟩) (.inl rfl) _
        have PR := GA.out.below BL.out
        refine ⟨fun kk h1 h2 => (CG.block kk (by omega) (by omega)).trans (BL.out.block kk (by omega)), ?_, PR.b1.of_eq (CG.block _ PR.b1.size (by omega)), PR.b2.of_eq (CG.block _ PR.b2.size (by omega)), PR.base.trans (CG.below PR.base.size (fun kk hk => by omega))⟩
        rw [poor_snoc, ← HT.out]
        exact CR.out.store 0 _
  case done =>
    intro W hI hD
    have HD := Lib.hid hD
    have GA := Lib.hid hI
    have k2 : W.cell? ⟨w.heap.size, 0, none⟩ = some (.int .i64 (poorL ps (List.range q))) := hI.ci.cell 0
    have V := Lib.hid (show poorV ps = poorL ps (List.range q) by unfold poorV; rw [HP.out, HK.out, Nat.mul_div_cancel _ (by omega)])
    clear hI hD
    gi_wp2
    refine ⟨by simp, .inl ⟨_, _, rfl, run_takeDeferred (ds := []) HD.out, ?_⟩⟩
    have hb : Below w.heap.size W (W.putObj v.heap.size (.deferred none)) := ⟨rfl, rfl, rfl, by simp [World.putObj_size], fun j hj => World.putObj_heap_other (by omega)⟩
    refine ⟨_, results_tmp rfl _ _ _, ?_, GA.out.base.trans hb⟩
    rw [V.out]
    rfl
end
end Go.Proofs.Ythceidacmeadkaa
