/- Of each key the best copy: the walk. No condition beyond those that each theorem states. -/
import Derived.Test.YthceidacmeadkaaSD
import Derived.Test.YthceidacmeadkaaSB
import Derived.Deep.DeepCutAuto
import Derived.Deep.CutBlock
namespace Go.Proofs.Ythceidacmeadkaa
open Go.RowKit Go.Maps Go.WideMaps Go.Sort
attribute [local go_sem] Oper.semAt_some

theorem slots_q {n : Nat} (h : n = 10 ∨ n = 20 ∨ n = 30 ∨ n = 40) : ∃ q, n = q * 10 := by
  rcases h with rfl | rfl | rfl | rfl
  · exact ⟨1, rfl⟩
  · exact ⟨2, rfl⟩
  · exact ⟨3, rfl⟩
  · exact ⟨4, rfl⟩
theorem cell_far7 {w : World} {b i g : Nat} {v v0 v1 v2 v3 v4 v5 v6 : Value} (h : w.cell? ⟨b, i, none⟩ = some v) (hne : g ≠ b) :
    (((((((w.setCell ⟨g, 0, none⟩ v0).setCell ⟨g, 1, none⟩ v1).setCell ⟨g, 2, none⟩ v2).setCell ⟨g, 3, none⟩ v3).setCell ⟨g, 4, none⟩ v4).setCell ⟨g, 5, none⟩ v5).setCell ⟨g, 6, none⟩ v6).cell? ⟨b, i, none⟩ = some v := by
  rw [World.cell?_setCell_far _ _ _ _ hne, World.cell?_setCell_far _ _ _ _ hne, World.cell?_setCell_far _ _ _ _ hne, World.cell?_setCell_far _ _ _ _ hne, World.cell?_setCell_far _ _ _ _ hne, World.cell?_setCell_far _ _ _ _ hne, World.cell?_setCell_far _ _ _ _ hne]
  exact h
theorem below_da (w : World) (o : Obj) : Below w.heap.size w (w.drew.alloc o) := (below_drewed _ w).alloc (Nat.le_refl _) _
theorem below_ad (w : World) (o : Obj) : Below w.heap.size w (w.alloc o).drew := ((Below.refl _ w).alloc (Nat.le_refl _) o).trans (below_drewed _ _)
theorem below_then {w W w' : World} (h : Below w.heap.size w W) (k : Below W.heap.size W w') : Below w.heap.size w w' := h.trans (k.mono h.size)
set_option maxHeartbeats 8000000 in
set_option maxRecDepth 100000 in
theorem sBest (A : Option Addr) (n c : Nat) (G : Nat → FoundP) (w : World) (hin : FoundsIn w A n G) (hn : n ≤ 1000000) :
    Calls Try.prog 10 #[.slice A n c] w fun e w' => ∃ B es, e = .returned (.tuple #[.slice B es.length es.length, .int .i64 (mostV (sel G n))]) ∧ BestV (sel G n) (es.map CopyE.b) ∧ SrcAt w' B es.length (entVals es) ∧
      (∀ e ∈ es, w.heap.size ≤ e.g ∧ Blk w' e.g 34 (placeVals (placesOf (sel G n) e.b)).toArray) ∧ es.length ≤ n ∧ (∀ g o, B = some ⟨g, o, none⟩ → w.heap.size ≤ g) ∧ Below w.heap.size w w' := by
  obtain ⟨L, hL⟩ : ∃ L, sel G n = L := ⟨_, rfl⟩
  have hln : L.length ≤ n := by rw [← hL]; unfold sel; exact Nat.le_trans (List.length_filter_le _ _) (by simp)
  have hokL : ∀ p ∈ L, okF p = true := fun p hp => by rw [← hL] at hp; exact sel_ok hp
  have OKL := Lib.hid hokL
  have IN := Lib.hid hin
  clear hin hokL
  have hmm := @run_makeMap Try.prog
  rw [hL]
  have SG := Lib.hid (fun w (IN : FoundsIn w A n G) => (hL ▸ sGone A n c G w IN hn : Calls Try.prog 18 #[.slice A n c] w fun e w' => e = .returned (.tuple #[.map (some w.heap.size), .int .i64 (mostV L)]) ∧ (∃ N, MapAt strK (.int .i64 0) w' w.heap.size N (encM (goneM L)) ∧ N ≤ n) ∧ Below w.heap.size w w'))
  have SP := Lib.hid (fun w (IN : FoundsIn w A n G) => (hL ▸ sCopies A n c G w IN hn : Calls Try.prog 19 #[.slice A n c] w fun e w' => e = .returned (.map (some w.heap.size)) ∧ CopiesI w A n c G L w'))
  clear hL
  go_enter Try.func10, Try.ntmps10
  go_wp2_with (first
      | (go_at_call 18; refine (SG.out w IN.out).mono ?_; rintro e w1 ⟨rfl, ⟨Nt, hmt, hNt⟩, hb1⟩; have MT1 := Lib.hid hmt; have B1 := Lib.hid hb1; have hs1 : w.heap.size < w1.heap.size := hmt.lt; clear hmt hb1)
      | (go_at_call 19; go_loud (refine (SP.out _ (IN.out.below (B1.out.alloc (Nat.le_of_lt hs1) _))).mono ?_; rintro e w3 ⟨rfl, hc3⟩; obtain ⟨w2, hw2⟩ : ∃ z, w1.alloc (.map #[] 0) = z := ⟨_, rfl⟩; rw [hw2] at hc3 ⊢; have h12a : w2.heap.size = w1.heap.size + 1 := (by rw [← hw2]; exact World.size_alloc _ _); obtain ⟨CL, ⟨N, hm3, hN⟩, a2, a3, a4, rows3, gs3, keys3, alls3, b3⟩ := hc3; have h23 : w2.heap.size < w3.heap.size := hm3.lt; obtain ⟨w4, hrun, hrg, hg4, hs4⟩ := hm3.range (t := 56) (e := 30) Try.underlying56; have B4 := Lib.hid (show Below w3.heap.size w3 w4 from ⟨hg4.os, hg4.tape, hg4.output, hg4.size, fun k hk => hg4.block k hk (by simp)⟩); have BW4 := Lib.hid (show Below w.heap.size w w4 from (B1.out.alloc (Nat.le_of_lt hs1) (.map #[] 0)).trans (((hw2 ▸ b3 : Below (w1.alloc (.map #[] 0)).heap.size (w1.alloc (.map #[] 0)) w3).mono (by simp; omega)).trans (B4.out.mono (by omega)))); have hk24 : ∀ q, q < w2.heap.size → w4.heap[q]? = w2.heap[q]? := fun q hq => (B4.out.block q (by omega)).trans (b3.block q hq); have CORE := Lib.hid (show CoreL w.heap.size w1.heap.size w2.heap.size w3.heap.size N Nt L CL (hasL (CL.map entV)) [] w w4 from ⟨hrg, fun e he => (by cases he), List.nodup_nil, fun e he => .inl ((has_ent CL e.b).2 ⟨e, he, rfl⟩), (MT1.out.of_eq (by rw [hk24 _ (by omega), ← hw2]; exact Below.heap_alloc _ _ _ hs1)), fun e he => ⟨by have := (rows3 e he).1; omega, (rows3 e he).2.size, (rows3 e he).2.of_eq (B4.out.block _ (rows3 e he).2.size)⟩, BW4.out⟩); have BEST := Lib.hid (show BestAt w1.heap.size 0 L [] w4 from ⟨0, (by have h := MapAt.made strK zeroC w1; rw [hw2] at h; exact h.of_eq (hk24 _ (by omega))), Nat.le_refl _⟩); have COPY := Lib.hid (show ∀ e ∈ CL, isCopy L e.b ∧ OkB e.b ∧ (slotsB e.b = 10 ∨ slotsB e.b = 20 ∨ slotsB e.b = 30 ∨ slotsB e.b = 40) from fun e he => (by obtain ⟨p, hp, hk, hpe⟩ := keys3 e he; have h := shard_facts (OKL.out p hp) hk; rw [hpe] at h; exact ⟨⟨p, hp, hk, hpe⟩, h.1, h.2.1⟩)); have ALLS := Lib.hid (show ∀ b, isCopy L b → ∃ e ∈ CL, e.b = b from fun b ⟨p, hp, hk, hpb⟩ => hpb ▸ alls3 p hp hk); have hcln : CL.length ≤ n := (by have h1 := hm3.nd; rw [List.map_map] at h1; have h2 := List.Nodup.length_le_of_subset (l₂ := L.map fun p => ofR p.r) h1 (fun x hx => by obtain ⟨e, he, rfl⟩ := List.mem_map.1 hx; obtain ⟨p, hp, _, hpe⟩ := keys3 e he; exact List.mem_map.2 ⟨p, hp, hpe⟩); simp only [List.length_map] at h2; omega); have h34 : w3.heap.size < w4.heap.size := (by omega); have h12 : w1.heap.size < w2.heap.size := (by omega); clear a2 a3 a4 rows3 gs3 keys3 alls3 b3 hm3 hrg hg4 hk24 hw2 B4 BW4 hs4 h12a))
      | fail)
  clear hrun hmm
  go_loopw [] (fun wr => ∃ (left : BlobV → Bool) (M BL : List CopyE), CoreL w.heap.size w1.heap.size w2.heap.size w3.heap.size N Nt L CL left M w wr ∧ BestI L M BL ∧ BestAt w1.heap.size M.length L BL wr ∧ w4.heap.size ≤ wr.heap.size) (fun wr => wr.rangeLeft w2.heap.size w3.heap.size)
  case atStart => exact ⟨_, [], [], CORE.out, BestI.start L, BEST.out, Nat.le_refl _⟩
  case round =>
    obtain ⟨left, M, BL, hcore, hbi, hba, hzr⟩ := hrel
    obtain ⟨wo, rfl⟩ : ∃ wo : World, wo = wr := ⟨_, rfl⟩
    have CORE0 := Lib.hid hcore
    have BI := Lib.hid hbi
    have BA := Lib.hid hba
    rcases hcore.rng.next 0 with ⟨h0, hrun⟩ | ⟨k, v, w5, hok, hkv, hlk, hrun, hrg5, hlt, hg5, hs5, hen⟩
    · have MET := Lib.hid (hcore.met h0)
      clear h0 hcore hbi hba
      obtain ⟨NB, hbm, hNB⟩ := BA.out.ex
      have HN := Lib.hid BA.out.keys
      have hbl1 : BL.length ≤ n := Nat.le_trans (List.Nodup.length_le_of_subset (l₁ := BL) (l₂ := M) (by have h := HN.out; unfold List.Nodup at *; rw [List.pairwise_map] at h; exact h.imp fun h e => h (by rw [e])) (fun x hx => (BI.out.sub x hx).1)) (Nat.le_trans (List.Nodup.length_le_of_subset CORE0.out.nd fun x hx => (CORE0.out.sub x hx).1) hcln)
      have hmb := hbm.lt
      have hswo : w.heap.size ≤ wo.heap.size := CORE0.out.base.size
      obtain ⟨w5, hrun5, hrg5, hg5, hs5⟩ := hbm.range (t := 55) (e := 62) Try.underlying55
      have RG5 := Lib.hid hrg5
      have B5 := Lib.hid (show Below wo.heap.size wo w5 from ⟨hg5.os, hg5.tape, hg5.output, hg5.size, fun k hk => hg5.block k hk (by simp)⟩)
      obtain ⟨i0, hi0, hz0, hz1, hz2⟩ := info_parts entC_info
      clear hrg5 hg5 hs5 hbm
      go_wp2_with fail
      clear hrun hrun5
      go_loopw [14] (fun v wr => ∃ (left : Str → Bool) (m : Nat) (PL : List CopyE), RangeAt strK zeroC wr w1.heap.size wo.heap.size NB (BL.map (encC L)) left ∧ MetB BL PL left ∧ PL.length = m ∧ wr.ownsRow (wo.heap.size + 1) 32 5 v m (entVals PL) ∧ Below wo.heap.size wo wr) (fun _ wr => wr.rangeLeft w1.heap.size wo.heap.size)
      case atStart => exact ⟨_, 0, [], RG5.out, MetB.start, rfl, World.ownsRow_nil _ _ _ _, B5.out⟩
      case round =>
        obtain ⟨left2, m, PL, hrg, hmet, hPm, hrow, hbl⟩ := hrel
        obtain ⟨wn, rfl⟩ : ∃ wn : World, wn = wr := ⟨_, rfl⟩
        have MT := Lib.hid hmet
        have HPM := Lib.hid hPm
        have RW := Lib.hid hrow
        have BL2 := Lib.hid hbl
        have hzo := hbl.size
        have hzr := hrg.lt
        have HRG := Lib.hid hrg
        obtain ⟨A1, k1, rfl, hn1, hc1, hA1⟩ := own_form hrow
        clear hmet hPm hrow hbl
        rcases hrg.next 0 with ⟨h0, hrun⟩ | ⟨k, v, w7, hok, hkv, hlk, hrun, hrg7, hlt, hg7, hs7, hen⟩
        · have PERM := Lib.hid (MT.out.perm HN.out h0)
          clear h0 hrg
          go_wp2_with (first
              | (go_at_call 22; go_loud (refine (sortEnts PL (((PERM.out.map _).nodup_iff).2 HN.out) (by have h := PERM.out.length_eq; omega) _ _ _ (by rw [HPM.out]; exact RW.out)).mono ?_; rintro e w9 ⟨rfl, es, hp, hs, ho, hg⟩; have HES := Lib.hid hp; have SRT := Lib.hid hs; have OWN := Lib.hid ho; have GR := Lib.hid hg; clear hp hs ho hg))
              | (go_at_call 25; go_loud (refine (sClip A1 m k1 _ hn1 hc1 hA1).mono ?_; rintro e w10 ⟨rfl, rfl⟩))
              | fail)
          have hes : es.length = m := HES.out.length_eq.trans HPM.out
          have OW := OWN.out
          rw [hes] at OW
          have hlm := PERM.out.length_eq
          refine bodyPost_ret (results_tmp2 rfl _ _ _) rfl ⟨A1, es, by rw [hes]; rfl, BI.out.done OKL.out (fun b hb => by obtain ⟨x, hx, hxb⟩ := ALLS.out b hb; exact ⟨x, MET.out x hx, hxb⟩) (HES.out.trans PERM.out) SRT.out, ?_, ?_, by have := HPM.out; omega, ?_, ?_⟩
          · rcases hA1 with ⟨rfl, h0, _⟩ | ⟨g, rfl⟩
            · left
              have hz : es = [] := List.eq_nil_of_length_eq_zero (by omega)
              rw [hz]
              exact ⟨rfl, rfl⟩
            · right
              exact ⟨g, 0, rfl, fun j u hu => by rw [Nat.zero_add]; exact own_cell OW hu⟩
          · intro x hx
            have hxr := CORE0.out.rows x (CORE0.out.sub x (BI.out.sub x (PERM.out.subset (HES.out.subset hx))).1).1
            have hxs := hxr.2.2.size
            exact ⟨by omega, ((hxr.2.2.below BL2.out hxs)).grown GR.out (fun hq => by have := (RW.out.lt _ hq).1; omega)⟩
          · intro g o hg
            rcases hA1 with ⟨rfl, _⟩ | ⟨g2, rfl⟩
            · cases hg
            · injection hg with hg
              injection hg with hg
              subst hg
              have := (RW.out.lt g2 rfl).1
              omega
          · exact (CORE0.out.base.trans (BL2.out.mono hswo)).grown GR.out (by omega) (fun q hq => by have := (RW.out.lt q hq).1; omega)
        · obtain ⟨e, he, hev⟩ := List.mem_map.1 hkv
          injection hev with h1 h2
          subst h1 h2
          have MT1 := Lib.hid (MT.out.step HN.out he hlk)
          have RW7 := Lib.hid (own_of_eq RW.out (w' := w7) (fun g' hg' => hg7.block g' (RW.out.lt g' hg').2 (fun e => by have := (RW.out.lt g' hg').1; have e := Option.some.inj e; omega)))
          have RG7 := Lib.hid hrg7
          have BL7 := Lib.hid (BL2.out.grown hg7 hzo (fun q hq => by have := Option.some.inj hq; omega))
          have LT7 := Lib.hid hlt
          have hz7 : wo.heap.size + 1 ≤ w7.heap.size := by omega
          have hPB : PL.length + 1 ≤ BL.length := (by have h := List.Nodup.length_le_of_subset MT1.out.nd (fun x hx => (MT1.out.sub x hx).1); simpa using h)
          have hPm : m = PL.length := HPM.out.symm
          have hm1 : m + 1 ≤ 1000000 := by omega
          have hrun5 : (Instr.next (.pointer (some ⟨wo.heap.size, 0, none⟩)) false 0).run Try.prog wn = .ok (.tuple #[.bool true, strV e.b.key, .agg #[strV e.b.key, .int .i64 e.b.gen, .int .i64 e.b.groups, .int .i64 e.b.size, strV e.b.sum, .slice (some ⟨e.g, 0, none⟩) (slotsB e.b) (slotsB e.b), .int .i64 (leastOf L e.b)]]) w7 := hrun
          have hen5 : (Instr.entry (.pointer (some ⟨wo.heap.size, 0, none⟩))).run Try.prog w7 = .ok (.tuple #[strV e.b.key, .agg #[strV e.b.key, .int .i64 e.b.gen, .int .i64 e.b.groups, .int .i64 e.b.size, strV e.b.sum, .slice (some ⟨e.g, 0, none⟩) (slotsB e.b) (slotsB e.b), .int .i64 (leastOf L e.b)]]) w7 := hen
          clear hrun hen hok hkv hlk hrg7 hg7 hs7 hrg hlt hPm he
          go_upto_region 16 with fail
          clear hrun5 hen5
          obtain ⟨w8, hw8⟩ : ∃ z, w7.alloc (.cells #[strV e.b.key, .int .i64 e.b.gen, .int .i64 e.b.groups, .int .i64 e.b.size, strV e.b.sum, .slice (some ⟨e.g, 0, none⟩) (slotsB e.b) (slotsB e.b), .int .i64 (leastOf L e.b)] 62) = z := ⟨_, rfl⟩
          have X8 := Lib.hid (show Blk w8 w7.heap.size 62 #[strV e.b.key, .int .i64 e.b.gen, .int .i64 e.b.groups, .int .i64 e.b.size, strV e.b.sum, .slice (some ⟨e.g, 0, none⟩) (slotsB e.b) (slotsB e.b), .int .i64 (leastOf L e.b)] by rw [← hw8]; exact Blk.made _ _ _)
          have RW8 := Lib.hid (show w8.ownsRow (wo.heap.size + 1) 32 5 (.slice A1 m k1) m (entVals PL) by rw [← hw8]; exact RW7.out.alloc _)
          have BB8 := Lib.hid (show Below w7.heap.size w7 w8 by rw [← hw8]; exact (Below.refl _ w7).alloc (Nat.le_refl _) _)
          rw [hw8]
          clear hw8
          have hz8 : w7.heap.size < w8.heap.size := X8.out.size
          have RG8 := Lib.hid (RG7.out.kept (grown_of_below BB8.out) (by simp) (by simp))
          have BL8 := Lib.hid (BL7.out.trans (BB8.out.mono (by omega)))
          have LT8 := Lib.hid (show w8.rangeLeft w1.heap.size wo.heap.size < wn.rangeLeft w1.heap.size wo.heap.size from by rw [RG7.out.same_left (grown_of_below BB8.out) (by simp) (by simp)]; exact LT7.out)
          clear RW7 BL7 BB8
          have d0 : w8.cell? ⟨w7.heap.size, 0, none⟩ = some (strV e.b.key) := X8.out.cell 0
          have d1 : w8.cell? ⟨w7.heap.size, 1, none⟩ = some (.int .i64 e.b.gen) := X8.out.cell 1
          have d2 : w8.cell? ⟨w7.heap.size, 2, none⟩ = some (.int .i64 e.b.groups) := X8.out.cell 2
          have d3 : w8.cell? ⟨w7.heap.size, 3, none⟩ = some (.int .i64 e.b.size) := X8.out.cell 3
          have d4 : w8.cell? ⟨w7.heap.size, 4, none⟩ = some (strV e.b.sum) := X8.out.cell 4
          have d5 : w8.cell? ⟨w7.heap.size, 5, none⟩ = some (.slice (some ⟨e.g, 0, none⟩) (slotsB e.b) (slotsB e.b)) := X8.out.cell 5
          have d6 : w8.cell? ⟨w7.heap.size, 6, none⟩ = some (.int .i64 (leastOf L e.b)) := X8.out.cell 6
          go_wp2_with (
            (at_builtin
             refine wpList_append_src _ rfl (.tmp 80) (.tmp 94) 24 rfl (wo.heap.size + 1) 32 i0 _ 5 72 Try.underlying24 hi0 hz0 hz1 hz2 rfl (by omega) _ _ _ rfl (by exact RW8.out.alloc _) (some ⟨w8.heap.size, 0, none⟩) 1 1 (entCells e) rfl rfl (fun e => by cases e) (by exact src_new _ _ _ _) (entCells_one _) (by simp only [maxLen]; omega) (by omega) (by simp; omega) ?_
             intro v' w9 hown9 hgr9 hat9
             have OW9 := Lib.hid hown9
             have RG8a := Lib.hid (RG8.out.kept (grown_of_below ((Below.refl _ w8).alloc (Nat.le_refl _) (.cells (entCells e).toArray 32))) (by simp) (by simp))
             have n1 : some w1.heap.size ≠ (Value.slice A1 m k1).ownBlock := (fun e => by have := (RW8.out.lt _ e.symm).1; omega)
             have n2 : some wo.heap.size ≠ (Value.slice A1 m k1).ownBlock := (fun e => by have := (RW8.out.lt _ e.symm).1; omega)
             have RG9 := Lib.hid (RG8a.out.kept hgr9 n1 n2)
             have LT9 := Lib.hid (show w9.rangeLeft w1.heap.size wo.heap.size < wn.rangeLeft w1.heap.size wo.heap.size from by rw [RG8a.out.same_left hgr9 n1 n2, RG8.out.same_left (grown_of_below ((Below.refl _ w8).alloc (Nat.le_refl _) (.cells (entCells e).toArray 32))) (by simp) (by simp)]; exact LT8.out)
             have HB9 := Lib.hid ((BL8.out.alloc (by omega) _).grown hgr9 (by simp; omega) (fun q hq => by have := (RW8.out.lt q hq).1; omega))
             clear hown9 hgr9 hat9 n1 n2))
          go_roundw
          case rel => exact ⟨_, m + 1, PL ++ [e], RG9.out, MT1.out, by rw [List.length_append, HPM.out]; rfl, by rw [entVals_snoc]; exact OW9.out, HB9.out⟩
          case measure => exact LT9.out
    · have hML : M.length ≤ n := Nat.le_trans (List.Nodup.length_le_of_subset CORE0.out.nd fun x hx => (CORE0.out.sub x hx).1) hcln
      have hkL := hlk
      obtain ⟨e, he, heM, rfl, rfl, hcore5⟩ := hcore.next h23 (by omega) hkv hlk hrg5 hg5
      have HLT := Lib.hid hlt
      have HE := Lib.hid he
      have hba5 := hba.of_eq (hg5.block _ hba.lt (fun e => by have := Option.some.inj e; omega))
      have hrun5 : (Instr.next (.pointer (some ⟨w3.heap.size, 0, none⟩)) false 0).run Try.prog wo = .ok (.tuple #[.bool true, .agg #[strV e.b.key, .int .i64 e.b.gen, .int .i64 e.b.groups, .int .i64 e.b.size, strV e.b.sum], .slice (some ⟨e.g, 0, none⟩) (slotsB e.b) (slotsB e.b)]) w5 := hrun
      have hen5 : (Instr.entry (.pointer (some ⟨w3.heap.size, 0, none⟩))).run Try.prog w5 = .ok (.tuple #[.agg #[strV e.b.key, .int .i64 e.b.gen, .int .i64 e.b.groups, .int .i64 e.b.size, strV e.b.sum], .slice (some ⟨e.g, 0, none⟩) (slotsB e.b) (slotsB e.b)]) w5 := hen
      have hz5 : w4.heap.size ≤ w5.heap.size := by omega
      have CORE5 := Lib.hid hcore5
      have BA5 := Lib.hid hba5
      clear hrun hen hok hkv hlk hrg5 hg5 hs5 hcore hbi hba hcore5 hba5 hlt hkL he
      go_upto_region 6 with fail
      clear hrun5 hen5
      obtain ⟨w6, hw6⟩ : ∃ z, w5.alloc (.cells #[strV e.b.key, .int .i64 e.b.gen, .int .i64 e.b.groups, .int .i64 e.b.size, strV e.b.sum] 59) = z := ⟨_, rfl⟩
      have X6 := Lib.hid (show Blk w6 w5.heap.size 59 (blobCells e.b) by rw [← hw6]; exact Blk.made _ _ _)
      have BW6 := Lib.hid (show Below w5.heap.size w5 w6 by rw [← hw6]; exact (Below.refl _ w5).alloc (Nat.le_refl _) _)
      have hz6 : w5.heap.size < w6.heap.size := X6.out.size
      rw [hw6]
      clear hw6
      have CORE6 := Lib.hid (CORE5.out.below BW6.out)
      have BA6 := Lib.hid (BA5.out.of_eq (BW6.out.block _ BA5.out.lt))
      clear BA5
      have PO := Lib.hid (show ∀ W, Below w6.heap.size w6 W → Calls Try.prog 20 #[.slice (some ⟨e.g, 0, none⟩) (slotsB e.b) (slotsB e.b)] W fun e7 w7 => e7 = .returned (.int .i64 (leastOf L e.b)) ∧ Below W.heap.size W w7 from fun W hW => by
        obtain ⟨q, hq⟩ : ∃ q, slotsB e.b = q * 10 := slots_q (COPY.out e HE.out).2.2
        have hb := (CORE6.out.rows e HE.out).2.2
        have hb2 := hb.below hW hb.size
        exact sPoorest e.g (slotsB e.b) (slotsB e.b) q (placesOf L e.b) (places_len _ _) hq (Nat.le_refl _) (by have := (COPY.out e HE.out).2.2; omega) W (fun i u hu => (hb2.cell i).trans (by rw [List.getElem?_toArray]; exact hu)) hb2.size)
      have x0 : w6.cell? ⟨w5.heap.size, 0, none⟩ = some (strV e.b.key) := X6.out.cell 0
      have x1 : w6.cell? ⟨w5.heap.size, 1, none⟩ = some (.int .i64 e.b.gen) := X6.out.cell 1
      have x2 : w6.cell? ⟨w5.heap.size, 2, none⟩ = some (.int .i64 e.b.groups) := X6.out.cell 2
      have x3 : w6.cell? ⟨w5.heap.size, 3, none⟩ = some (.int .i64 e.b.size) := X6.out.cell 3
      have x4 : w6.cell? ⟨w5.heap.size, 4, none⟩ = some (strV e.b.sum) := X6.out.cell 4
      have hne6 : w6.heap.size ≠ w5.heap.size := by omega
      go_cut [9] from 31 to 72 (fun pv wx => ∃ g, pv = .pointer (some ⟨g, 0, none⟩) ∧ Blk wx g 62 #[strV e.b.key, .int .i64 e.b.gen, .int .i64 e.b.groups, .int .i64 e.b.size, strV e.b.sum, .slice (some ⟨e.g, 0, none⟩) (slotsB e.b) (slotsB e.b), .int .i64 (leastOf L e.b)] ∧ w6.heap.size ≤ g ∧ Below w6.heap.size w6 wx)
      case first =>
        refine wp_region_held_drew (S := (fun w' => w'.cell? ⟨w5.heap.size, 0, none⟩ = some (strV e.b.key) ∧ w'.cell? ⟨w5.heap.size, 1, none⟩ = some (.int .i64 e.b.gen) ∧ w'.cell? ⟨w5.heap.size, 2, none⟩ = some (.int .i64 e.b.groups) ∧ w'.cell? ⟨w5.heap.size, 3, none⟩ = some (.int .i64 e.b.size) ∧ w'.cell? ⟨w5.heap.size, 4, none⟩ = some (strV e.b.sum))) (by kernel_rfl) ⟨x0, x1, x2, x3, x4⟩ (fun hHeld => ?_)
        refine wpAnyH_take (i := 0) (v := ?vB6n10) (take_list rfl) (by kernel_rfl) (by kernel_rfl) (by kernel_rfl) (fun _ _ _ h => h) (Or.inl ⟨by rfl, ?hyB6n10⟩) (by assumption) ?restB6n10
        case hyB6n10 => (intro w hSw; (try dsimp only at hSw); go_simp <;> with_reducible rfl)
        try simp only [Act.put, List.setIfInBounds_toArray, List.set_cons_zero, List.set_cons_succ]
        refine wpAnyH_take (i := 1) (v := ?vB6n11) (take_list rfl) (by kernel_rfl) (by kernel_rfl) (by kernel_rfl) (fun _ _ _ h => h) (Or.inl ⟨by rfl, ?hyB6n11⟩) (by assumption) ?restB6n11
        case hyB6n11 => (intro w hSw; (try dsimp only at hSw); go_simp <;> with_reducible rfl)
        try simp only [Act.put, List.setIfInBounds_toArray, List.set_cons_zero, List.set_cons_succ]
        refine wpAnyH_take (i := 2) (v := ?vB6n12) (take_list rfl) (by kernel_rfl) (by kernel_rfl) (by kernel_rfl) (fun _ _ _ h => h) (Or.inl ⟨by rfl, ?hyB6n12⟩) (by assumption) ?restB6n12
        case hyB6n12 => (intro w hSw; (try dsimp only at hSw); go_simp <;> with_reducible rfl)
        try simp only [Act.put, List.setIfInBounds_toArray, List.set_cons_zero, List.set_cons_succ]
        refine wpAnyH_ready (rs := [3, 5]) (by kernel_rfl) (by simp) ?_
        refine AllReadyH.cons rfl (fun K hK => ?_) (AllReadyH.cons rfl (fun K hK => ?_) AllReadyH.nil)
        · go_simp
          go_wp2_with (go_at_call 20; refine (PO.out _ (by first | with_reducible exact below_drewed _ _ | with_reducible exact below_ad _ _ | with_reducible exact below_da _ _)).mono ?_; rintro e7 w7 ⟨rfl, hb7⟩; have B7 := Lib.hid (show Below w6.heap.size w6 w7 from (by first | with_reducible exact below_then (below_drewed _ w6) hb7 | with_reducible exact below_then (below_ad w6 _) hb7 | with_reducible exact below_then (below_da w6 _) hb7)); have z0 : w7.cell? ⟨w5.heap.size, 0, none⟩ = some (strV e.b.key) := keepc B7.out hz6 x0; have z1 : w7.cell? ⟨w5.heap.size, 1, none⟩ = some (.int .i64 e.b.gen) := keepc B7.out hz6 x1; have z2 : w7.cell? ⟨w5.heap.size, 2, none⟩ = some (.int .i64 e.b.groups) := keepc B7.out hz6 x2; have z3 : w7.cell? ⟨w5.heap.size, 3, none⟩ = some (.int .i64 e.b.size) := keepc B7.out hz6 x3; have z4 : w7.cell? ⟨w5.heap.size, 4, none⟩ = some (strV e.b.sum) := keepc B7.out hz6 x4; first | (have Q7 := Lib.hid (show Blk w7 w6.heap.size 62 #[.string ⟨#[]⟩, .int .i64 0, .int .i64 0, .int .i64 0, .string ⟨#[]⟩, .slice none 0 0, .int .i64 0] from (Blk.made w6.drew _ _).below hb7 (by simp)); have q0 : w7.cell? ⟨w6.heap.size, 0, none⟩ = some (.string ⟨#[]⟩) := Q7.out.cell 0; have g0 : w7.frozen? ⟨w6.heap.size, 0, none⟩ = false := Q7.out.free 0; have q1 : w7.cell? ⟨w6.heap.size, 1, none⟩ = some (.int .i64 0) := Q7.out.cell 1; have g1 : w7.frozen? ⟨w6.heap.size, 1, none⟩ = false := Q7.out.free 1; have q2 : w7.cell? ⟨w6.heap.size, 2, none⟩ = some (.int .i64 0) := Q7.out.cell 2; have g2 : w7.frozen? ⟨w6.heap.size, 2, none⟩ = false := Q7.out.free 2; have q3 : w7.cell? ⟨w6.heap.size, 3, none⟩ = some (.int .i64 0) := Q7.out.cell 3; have g3 : w7.frozen? ⟨w6.heap.size, 3, none⟩ = false := Q7.out.free 3; have q4 : w7.cell? ⟨w6.heap.size, 4, none⟩ = some (.string ⟨#[]⟩) := Q7.out.cell 4; have g4 : w7.frozen? ⟨w6.heap.size, 4, none⟩ = false := Q7.out.free 4; have q5 : w7.cell? ⟨w6.heap.size, 5, none⟩ = some (.slice none 0 0) := Q7.out.cell 5; have g5 : w7.frozen? ⟨w6.heap.size, 5, none⟩ = false := Q7.out.free 5; have q6 : w7.cell? ⟨w6.heap.size, 6, none⟩ = some (.int .i64 0) := Q7.out.cell 6; have g6 : w7.frozen? ⟨w6.heap.size, 6, none⟩ = false := Q7.out.free 6) | skip; clear hb7)
          clear hHeld
          refine hK.out _ _ ⟨z0, z1, z2, z3, z4⟩ (fun hHeld => ?_)
          clear hK K
          refine wpAnyH_take (i := 4) (v := ?vB6n1b34) (take_list rfl) (by kernel_rfl) (by kernel_rfl) (by kernel_rfl) (fun _ _ _ h => h) (Or.inl ⟨by rfl, ?hyB6n1b34⟩) (by assumption) ?restB6n1b34
          case hyB6n1b34 => (intro w hSw; (try dsimp only at hSw); go_simp <;> with_reducible rfl)
          try simp only [Act.put, List.setIfInBounds_toArray, List.set_cons_zero, List.set_cons_succ]
          refine wpAnyH_ready (rs := [5]) (by kernel_rfl) (by simp) ?_
          refine AllReadyH.cons rfl (fun K hK => ?_) AllReadyH.nil
          go_simp
          clear hHeld
          refine hK.out _ _ (by first | with_reducible exact ⟨cell_kept z0 _, cell_kept z1 _, cell_kept z2 _, cell_kept z3 _, cell_kept z4 _⟩ | with_reducible exact ⟨cell_keptd x0 _, cell_keptd x1 _, cell_keptd x2 _, cell_keptd x3 _, cell_keptd x4 _⟩) (fun hHeld => ?_)
          clear hK K
          refine wpAnyH_ready (rs := [6]) (by kernel_rfl) (by simp) ?_
          refine AllReadyH.cons rfl (fun K hK => ?_) AllReadyH.nil
          go_simp
          clear hHeld
          refine hK.out _ _ (by first | with_reducible exact ⟨cell_kept z0 _, cell_kept z1 _, cell_kept z2 _, cell_kept z3 _, cell_kept z4 _⟩ | with_reducible exact ⟨cell_far7 z0 hne6, cell_far7 z1 hne6, cell_far7 z2 hne6, cell_far7 z3 hne6, cell_far7 z4 hne6⟩) (fun hHeld => ?_)
          clear hK K
          refine wpAnyH_done (by kernel_rfl) ?_ _
          go_wp2_with fail
          go_meet
          first
            | (refine ⟨w7.heap.size, ?_, ?_⟩; (with_reducible rfl); exact ⟨Blk.made _ _ _, B7.out.size, B7.out.alloc B7.out.size _⟩)
            | (refine ⟨w6.heap.size, ?_, ?_⟩; (with_reducible rfl); exact ⟨(((((((Q7.out.store 0 _).store 1 _).store 2 _).store 3 _).store 4 _).store 5 _).store 6 _), Nat.le_refl _, (((((((B7.out.setCell (p := ⟨w6.heap.size, 0, none⟩) (Nat.le_refl _) _).setCell (p := ⟨w6.heap.size, 1, none⟩) (Nat.le_refl _) _).setCell (p := ⟨w6.heap.size, 2, none⟩) (Nat.le_refl _) _).setCell (p := ⟨w6.heap.size, 3, none⟩) (Nat.le_refl _) _).setCell (p := ⟨w6.heap.size, 4, none⟩) (Nat.le_refl _) _).setCell (p := ⟨w6.heap.size, 5, none⟩) (Nat.le_refl _) _).setCell (p := ⟨w6.heap.size, 6, none⟩) (Nat.le_refl _) _)⟩)
        · go_simp
          clear hHeld
          refine hK.out _ _ (by first | with_reducible exact ⟨cell_kept z0 _, cell_kept z1 _, cell_kept z2 _, cell_kept z3 _, cell_kept z4 _⟩ | with_reducible exact ⟨cell_keptd x0 _, cell_keptd x1 _, cell_keptd x2 _, cell_keptd x3 _, cell_keptd x4 _⟩) (fun hHeld => ?_)
          clear hK K
          refine wpAnyH_ready (rs := [3]) (by kernel_rfl) (by simp) ?_
          refine AllReadyH.cons rfl (fun K hK => ?_) AllReadyH.nil
          go_simp
          go_wp2_with (go_at_call 20; refine (PO.out _ (by first | with_reducible exact below_drewed _ _ | with_reducible exact below_ad _ _ | with_reducible exact below_da _ _)).mono ?_; rintro e7 w7 ⟨rfl, hb7⟩; have B7 := Lib.hid (show Below w6.heap.size w6 w7 from (by first | with_reducible exact below_then (below_drewed _ w6) hb7 | with_reducible exact below_then (below_ad w6 _) hb7 | with_reducible exact below_then (below_da w6 _) hb7)); have z0 : w7.cell? ⟨w5.heap.size, 0, none⟩ = some (strV e.b.key) := keepc B7.out hz6 x0; have z1 : w7.cell? ⟨w5.heap.size, 1, none⟩ = some (.int .i64 e.b.gen) := keepc B7.out hz6 x1; have z2 : w7.cell? ⟨w5.heap.size, 2, none⟩ = some (.int .i64 e.b.groups) := keepc B7.out hz6 x2; have z3 : w7.cell? ⟨w5.heap.size, 3, none⟩ = some (.int .i64 e.b.size) := keepc B7.out hz6 x3; have z4 : w7.cell? ⟨w5.heap.size, 4, none⟩ = some (strV e.b.sum) := keepc B7.out hz6 x4; first | (have Q7 := Lib.hid (show Blk w7 w6.heap.size 62 #[.string ⟨#[]⟩, .int .i64 0, .int .i64 0, .int .i64 0, .string ⟨#[]⟩, .slice none 0 0, .int .i64 0] from (Blk.made w6.drew _ _).below hb7 (by simp)); have q0 : w7.cell? ⟨w6.heap.size, 0, none⟩ = some (.string ⟨#[]⟩) := Q7.out.cell 0; have g0 : w7.frozen? ⟨w6.heap.size, 0, none⟩ = false := Q7.out.free 0; have q1 : w7.cell? ⟨w6.heap.size, 1, none⟩ = some (.int .i64 0) := Q7.out.cell 1; have g1 : w7.frozen? ⟨w6.heap.size, 1, none⟩ = false := Q7.out.free 1; have q2 : w7.cell? ⟨w6.heap.size, 2, none⟩ = some (.int .i64 0) := Q7.out.cell 2; have g2 : w7.frozen? ⟨w6.heap.size, 2, none⟩ = false := Q7.out.free 2; have q3 : w7.cell? ⟨w6.heap.size, 3, none⟩ = some (.int .i64 0) := Q7.out.cell 3; have g3 : w7.frozen? ⟨w6.heap.size, 3, none⟩ = false := Q7.out.free 3; have q4 : w7.cell? ⟨w6.heap.size, 4, none⟩ = some (.string ⟨#[]⟩) := Q7.out.cell 4; have g4 : w7.frozen? ⟨w6.heap.size, 4, none⟩ = false := Q7.out.free 4; have q5 : w7.cell? ⟨w6.heap.size, 5, none⟩ = some (.slice none 0 0) := Q7.out.cell 5; have g5 : w7.frozen? ⟨w6.heap.size, 5, none⟩ = false := Q7.out.free 5; have q6 : w7.cell? ⟨w6.heap.size, 6, none⟩ = some (.int .i64 0) := Q7.out.cell 6; have g6 : w7.frozen? ⟨w6.heap.size, 6, none⟩ = false := Q7.out.free 6) | skip; clear hb7)
          clear hHeld
          refine hK.out _ _ ⟨z0, z1, z2, z3, z4⟩ (fun hHeld => ?_)
          clear hK K
          refine wpAnyH_take (i := 4) (v := ?vB6n1b54) (take_list rfl) (by kernel_rfl) (by kernel_rfl) (by kernel_rfl) (fun _ _ _ h => h) (Or.inl ⟨by rfl, ?hyB6n1b54⟩) (by assumption) ?restB6n1b54
          case hyB6n1b54 => (intro w hSw; (try dsimp only at hSw); go_simp <;> with_reducible rfl)
          try simp only [Act.put, List.setIfInBounds_toArray, List.set_cons_zero, List.set_cons_succ]
          refine wpAnyH_ready (rs := [6]) (by kernel_rfl) (by simp) ?_
          refine AllReadyH.cons rfl (fun K hK => ?_) AllReadyH.nil
          go_simp
          clear hHeld
          refine hK.out _ _ (by first | with_reducible exact ⟨cell_kept z0 _, cell_kept z1 _, cell_kept z2 _, cell_kept z3 _, cell_kept z4 _⟩ | with_reducible exact ⟨cell_far7 z0 hne6, cell_far7 z1 hne6, cell_far7 z2 hne6, cell_far7 z3 hne6, cell_far7 z4 hne6⟩) (fun hHeld => ?_)
          clear hK K
          refine wpAnyH_done (by kernel_rfl) ?_ _
          go_wp2_with fail
          go_meet
          first
            | (refine ⟨w7.heap.size, ?_, ?_⟩; (with_reducible rfl); exact ⟨Blk.made _ _ _, B7.out.size, B7.out.alloc B7.out.size _⟩)
            | (refine ⟨w6.heap.size, ?_, ?_⟩; (with_reducible rfl); exact ⟨(((((((Q7.out.store 0 _).store 1 _).store 2 _).store 3 _).store 4 _).store 5 _).store 6 _), Nat.le_refl _, (((((((B7.out.setCell (p := ⟨w6.heap.size, 0, none⟩) (Nat.le_refl _) _).setCell (p := ⟨w6.heap.size, 1, none⟩) (Nat.le_refl _) _).setCell (p := ⟨w6.heap.size, 2, none⟩) (Nat.le_refl _) _).setCell (p := ⟨w6.heap.size, 3, none⟩) (Nat.le_refl _) _).setCell (p := ⟨w6.heap.size, 4, none⟩) (Nat.le_refl _) _).setCell (p := ⟨w6.heap.size, 5, none⟩) (Nat.le_refl _) _).setCell (p := ⟨w6.heap.size, 6, none⟩) (Nat.le_refl _) _)⟩)
      case rest =>
        obtain ⟨g, rfl, hbg, hgW, hbl⟩ := hcut
        have GC := Lib.hid hbg
        have hgz := hbg.size
        have CORE7 := Lib.hid (CORE6.out.below hbl)
        have BA7 := Lib.hid (BA6.out.of_eq (hbl.block _ BA6.out.lt))
        have X7 := Lib.hid (X6.out.below hbl hz6)
        have hz7 : w6.heap.size ≤ wc.heap.size := hbl.size
        have LT7 := Lib.hid (show wc.rangeLeft w2.heap.size w3.heap.size < wo.rangeLeft w2.heap.size w3.heap.size from by rw [CORE5.out.rng.same_left (grown_of_below (BW6.out.trans (hbl.mono (by omega)))) (by simp) (by simp)]; exact HLT.out)
        clear hbg hbl CORE5 BW6 HLT CORE6 BA6 X6 x0 x1 x2 x3 x4 PO
        have x0 : wc.cell? ⟨w5.heap.size, 0, none⟩ = some (strV e.b.key) := X7.out.cell 0
        have x1 : wc.cell? ⟨w5.heap.size, 1, none⟩ = some (.int .i64 e.b.gen) := X7.out.cell 1
        have c0 : wc.cell? ⟨g, 0, none⟩ = some (strV e.b.key) := GC.out.cell 0
        have c1 : wc.cell? ⟨g, 1, none⟩ = some (.int .i64 e.b.gen) := GC.out.cell 1
        have c2 : wc.cell? ⟨g, 2, none⟩ = some (.int .i64 e.b.groups) := GC.out.cell 2
        have c3 : wc.cell? ⟨g, 3, none⟩ = some (.int .i64 e.b.size) := GC.out.cell 3
        have c4 : wc.cell? ⟨g, 4, none⟩ = some (strV e.b.sum) := GC.out.cell 4
        have c5 : wc.cell? ⟨g, 5, none⟩ = some (.slice (some ⟨e.g, 0, none⟩) (slotsB e.b) (slotsB e.b)) := GC.out.cell 5
        have c6 : wc.cell? ⟨g, 6, none⟩ = some (.int .i64 (leastOf L e.b)) := GC.out.cell 6
        have hkey : e.b.key.length ≤ maxLen := (COPY.out e HE.out).2.1.1
        have hlt0 := CORE7.out.tombs.look Try.underlying52 (zeroI wc) (k := e.b.key) hkey
        have hgm := getL_map (fun g : Int => Value.int .i64 g) 0 (goneM L) e.b.key
        have hhm := hasL_map (fun g : Int => Value.int .i64 g) (goneM L) e.b.key
        obtain ⟨gv, hgv⟩ : ∃ z, getL 0 (goneM L) e.b.key = z := ⟨_, rfl⟩
        obtain ⟨tv, htv⟩ : ∃ z, hasL (goneM L) e.b.key = z := ⟨_, rfl⟩
        unfold encM at hlt0
        rw [hgm, hhm, hgv, htv] at hlt0
        have DD := Lib.hid (show deadV L e.b = (tv && decide (e.b.gen ≤ gv)) by unfold deadV; rw [hgv, htv])
        clear hgm hhm hgv htv
        have hlk1 : (Instr.lookup 52 (.map (some w.heap.size)) (strV e.b.key) true).run Try.prog wc = .ok (.tuple #[.int .i64 gv, .bool tv]) wc := hlt0
        clear hlt0
        by_cases hl8 : leastOf L e.b < 8
        · have f1 : decide (leastOf L e.b < 8) = true := decide_eq_true hl8
          have NQ := Lib.hid (show ¬ QualV L e.b from fun h => absurd h.2.1 (by omega))
          clear hl8
          go_wp2_with fail
          go_roundw
          case rel => exact ⟨_, M ++ [e], BL, CORE7.out, BI.out.skip NQ.out, BA7.out.mono (by simp), by omega⟩
          case measure => exact LT7.out
        have f1 : decide (leastOf L e.b < 8) = false := decide_eq_false hl8
        have L8 := Lib.hid (show 8 ≤ leastOf L e.b by omega)
        clear hl8
        cases tv with
        | true =>
          by_cases hgl : e.b.gen ≤ gv
          · have f2 : decide (e.b.gen ≤ gv) = true := decide_eq_true hgl
            have NQ := Lib.hid (show ¬ QualV L e.b from fun h => absurd h.2.2 (by rw [DD.out, f2]; decide))
            clear hgl
            go_wp2_with fail
            go_roundw
            case rel => exact ⟨_, M ++ [e], BL, CORE7.out, BI.out.skip NQ.out, BA7.out.mono (by simp), by omega⟩
            case measure => exact LT7.out
          · have f2 : decide (e.b.gen ≤ gv) = false := decide_eq_false hgl
            have Q := Lib.hid (show QualV L e.b from ⟨(COPY.out e HE.out).1, L8.out, by rw [DD.out, f2]; rfl⟩)
            clear hgl
            obtain ⟨NB, hbm, hNB⟩ := BA7.out.ex
            have hlk20 := hbm.look Try.underlying55 (zeroCh wc) (k := e.b.key) hkey
            have hz57 : w5.heap.size < wc.heap.size := by omega
            cases hh : hasL (BL.map (encC L)) e.b.key with
            | false =>
              rw [getL_no _ hh, hh] at hlk20
              have hlk2 : (Instr.lookup 55 (.map (some w1.heap.size)) (strV e.b.key) true).run Try.prog wc = .ok (.tuple #[.agg #[.string ⟨#[]⟩, .int .i64 0, .int .i64 0, .int .i64 0, .string ⟨#[]⟩, .slice none 0 0, .int .i64 0], .bool false]) wc := hlk20
              have NK := Lib.hid (show ∀ x ∈ BL, x.b.key ≠ e.b.key from fun x hx hc => by have h := (has_enc L BL e.b.key).2 ⟨x, hx, hc⟩; rw [hh] at h; cases h)
              clear hlk20 hh
              go_upto_region 11 with fail
              clear hlk1 hlk2
              obtain ⟨w8, hw8⟩ : ∃ z, wc.alloc (.cells #[.string ⟨#[]⟩, .int .i64 0, .int .i64 0, .int .i64 0, .string ⟨#[]⟩, .slice none 0 0, .int .i64 0] 62) = z := ⟨_, rfl⟩
              have B8 := Lib.hid (show Below wc.heap.size wc w8 by rw [← hw8]; exact (Below.refl _ wc).alloc (Nat.le_refl _) _)
              have hz8 : wc.heap.size ≤ w8.heap.size := B8.out.size
              rw [hw8]
              clear hw8
              have x08 : w8.cell? ⟨w5.heap.size, 0, none⟩ = some (strV e.b.key) := keepc B8.out hz57 x0
              have c08 : w8.cell? ⟨g, 0, none⟩ = some (strV e.b.key) := keepc B8.out hgz c0
              have c18 : w8.cell? ⟨g, 1, none⟩ = some (.int .i64 e.b.gen) := keepc B8.out hgz c1
              have c28 : w8.cell? ⟨g, 2, none⟩ = some (.int .i64 e.b.groups) := keepc B8.out hgz c2
              have c38 : w8.cell? ⟨g, 3, none⟩ = some (.int .i64 e.b.size) := keepc B8.out hgz c3
              have c48 : w8.cell? ⟨g, 4, none⟩ = some (strV e.b.sum) := keepc B8.out hgz c4
              have c58 : w8.cell? ⟨g, 5, none⟩ = some (.slice (some ⟨e.g, 0, none⟩) (slotsB e.b) (slotsB e.b)) := keepc B8.out hgz c5
              have c68 : w8.cell? ⟨g, 6, none⟩ = some (.int .i64 (leastOf L e.b)) := keepc B8.out hgz c6
              clear x0 x1 c0 c1 c2 c3 c4 c5 c6
              have hbmk := hbm.of_eq (B8.out.block _ hbm.lt)
              obtain ⟨wd, hrun, hmd, hgd⟩ := hbmk.store (t := 55) (e := 62) Try.underlying55 (by simp only [maxLen]; omega) (k := e.b.key) hkey (.agg #[strV e.b.key, .int .i64 e.b.gen, .int .i64 e.b.groups, .int .i64 e.b.size, strV e.b.sum, .slice (some ⟨e.g, 0, none⟩) (slotsB e.b) (slotsB e.b), .int .i64 (leastOf L e.b)])
              have BAd := Lib.hid (show BestAt w1.heap.size (M ++ [e]).length L ((BL.filter fun x => !decide (x.b.key = e.b.key)) ++ [e]) wd from ⟨NB + 1, by rw [← put_enc]; exact hmd, by simp; omega⟩)
              have CORE9 := Lib.hid (CORE7.out.below B8.out)
              have COREd := Lib.hid (CORE9.out.kept hgd (fun e => by have := Option.some.inj e; omega) (fun e => by have := Option.some.inj e; omega) (fun e => by have := Option.some.inj e; omega) (fun q hq => by have := Option.some.inj hq; omega))
              have LTd := Lib.hid (show wd.rangeLeft w2.heap.size w3.heap.size < wo.rangeLeft w2.heap.size w3.heap.size from by rw [CORE9.out.rng.same_left hgd (fun e => by have := Option.some.inj e; omega) (fun e => by have := Option.some.inj e; omega), CORE7.out.rng.same_left (grown_of_below B8.out) (by simp) (by simp)]; exact LT7.out)
              have hrun2 : (Instr.mapUpdate 55 (.map (some w1.heap.size)) (strV e.b.key) (.agg #[strV e.b.key, .int .i64 e.b.gen, .int .i64 e.b.groups, .int .i64 e.b.size, strV e.b.sum, .slice (some ⟨e.g, 0, none⟩) (slotsB e.b) (slotsB e.b), .int .i64 (leastOf L e.b)])).run Try.prog w8 = .ok () wd := hrun
              have hzd : w8.heap.size ≤ wd.heap.size := hgd.size
              clear hrun hmd hgd hbmk hbm
              go_wp2_with fail
              go_roundw
              case rel => exact ⟨_, M ++ [e], ((BL.filter fun x => !decide (x.b.key = e.b.key)) ++ [e]), COREd.out, (by rw [filter_none NK.out]; exact BI.out.new Q.out NK.out), BAd.out, by omega⟩
              case measure => exact LTd.out
            | true =>
              obtain ⟨e0, he0, hk0⟩ := (has_enc L BL e.b.key).1 hh
              have hg0 := get_enc (L := L) BA7.out.keys he0
              rw [hk0] at hg0
              rw [hg0, hh] at hlk20
              have hlk2 : (Instr.lookup 55 (.map (some w1.heap.size)) (strV e.b.key) true).run Try.prog wc = .ok (.tuple #[.agg #[strV e0.b.key, .int .i64 e0.b.gen, .int .i64 e0.b.groups, .int .i64 e0.b.size, strV e0.b.sum, .slice (some ⟨e0.g, 0, none⟩) (slotsB e0.b) (slotsB e0.b), .int .i64 (leastOf L e0.b)], .bool true]) wc := hlk20
              have HE0 := Lib.hid he0
              have HK0 := Lib.hid hk0
              clear hlk20 hh hg0 he0 hk0
              obtain ⟨bt, hbt⟩ : ∃ z, betterL L e.b e0.b = z := ⟨_, rfl⟩
              have BT := Lib.hid (show ∀ W, Calls Try.prog 21 #[.agg #[strV e.b.key, .int .i64 e.b.gen, .int .i64 e.b.groups, .int .i64 e.b.size, strV e.b.sum, .slice (some ⟨e.g, 0, none⟩) (slotsB e.b) (slotsB e.b), .int .i64 (leastOf L e.b)], .agg #[strV e0.b.key, .int .i64 e0.b.gen, .int .i64 e0.b.groups, .int .i64 e0.b.size, strV e0.b.sum, .slice (some ⟨e0.g, 0, none⟩) (slotsB e0.b) (slotsB e0.b), .int .i64 (leastOf L e0.b)]] W fun e9 w9 => e9 = .returned (.bool bt) ∧ Below W.heap.size W w9 from fun W => by rw [← hbt]; exact sBetter e.b e0.b (leastOf L e.b) (leastOf L e0.b) (.slice (some ⟨e.g, 0, none⟩) (slotsB e.b) (slotsB e.b)) (.slice (some ⟨e0.g, 0, none⟩) (slotsB e0.b) (slotsB e0.b)) W)
              have HBT := Lib.hid hbt
              clear hbt
              go_upto_region 10 with fail
              clear hlk1 hlk2
              obtain ⟨w8, hw8⟩ : ∃ z, wc.alloc (.cells #[strV e0.b.key, .int .i64 e0.b.gen, .int .i64 e0.b.groups, .int .i64 e0.b.size, strV e0.b.sum, .slice (some ⟨e0.g, 0, none⟩) (slotsB e0.b) (slotsB e0.b), .int .i64 (leastOf L e0.b)] 62) = z := ⟨_, rfl⟩
              have B8 := Lib.hid (show Below wc.heap.size wc w8 by rw [← hw8]; exact (Below.refl _ wc).alloc (Nat.le_refl _) _)
              have D8 := Lib.hid (show Blk w8 wc.heap.size 62 #[strV e0.b.key, .int .i64 e0.b.gen, .int .i64 e0.b.groups, .int .i64 e0.b.size, strV e0.b.sum, .slice (some ⟨e0.g, 0, none⟩) (slotsB e0.b) (slotsB e0.b), .int .i64 (leastOf L e0.b)] by rw [← hw8]; exact Blk.made _ _ _)
              have hz8 : wc.heap.size ≤ w8.heap.size := B8.out.size
              rw [hw8]
              clear hw8
              have x08 : w8.cell? ⟨w5.heap.size, 0, none⟩ = some (strV e.b.key) := keepc B8.out hz57 x0
              have c08 : w8.cell? ⟨g, 0, none⟩ = some (strV e.b.key) := keepc B8.out hgz c0
              have c18 : w8.cell? ⟨g, 1, none⟩ = some (.int .i64 e.b.gen) := keepc B8.out hgz c1
              have c28 : w8.cell? ⟨g, 2, none⟩ = some (.int .i64 e.b.groups) := keepc B8.out hgz c2
              have c38 : w8.cell? ⟨g, 3, none⟩ = some (.int .i64 e.b.size) := keepc B8.out hgz c3
              have c48 : w8.cell? ⟨g, 4, none⟩ = some (strV e.b.sum) := keepc B8.out hgz c4
              have c58 : w8.cell? ⟨g, 5, none⟩ = some (.slice (some ⟨e.g, 0, none⟩) (slotsB e.b) (slotsB e.b)) := keepc B8.out hgz c5
              have c68 : w8.cell? ⟨g, 6, none⟩ = some (.int .i64 (leastOf L e.b)) := keepc B8.out hgz c6
              have d0 : w8.cell? ⟨wc.heap.size, 0, none⟩ = some (strV e0.b.key) := D8.out.cell 0
              have d1 : w8.cell? ⟨wc.heap.size, 1, none⟩ = some (.int .i64 e0.b.gen) := D8.out.cell 1
              have d2 : w8.cell? ⟨wc.heap.size, 2, none⟩ = some (.int .i64 e0.b.groups) := D8.out.cell 2
              have d3 : w8.cell? ⟨wc.heap.size, 3, none⟩ = some (.int .i64 e0.b.size) := D8.out.cell 3
              have d4 : w8.cell? ⟨wc.heap.size, 4, none⟩ = some (strV e0.b.sum) := D8.out.cell 4
              have d5 : w8.cell? ⟨wc.heap.size, 5, none⟩ = some (.slice (some ⟨e0.g, 0, none⟩) (slotsB e0.b) (slotsB e0.b)) := D8.out.cell 5
              have d6 : w8.cell? ⟨wc.heap.size, 6, none⟩ = some (.int .i64 (leastOf L e0.b)) := D8.out.cell 6
              clear x0 x1 x08 D8
              have X0 := Lib.hid (show wc.cell? ⟨w5.heap.size, 0, none⟩ = some (strV e.b.key) from X7.out.cell 0)
              cases bt with
              | true =>
                go_upto_region 11 with (go_at_call 21; go_loud (refine (BT.out _).mono ?_; rintro e9 w9 ⟨rfl, hb9⟩; have B9 := Lib.hid (show Below wc.heap.size wc w9 from B8.out.trans (hb9.mono hz8)); have hz9 : wc.heap.size ≤ w9.heap.size := B9.out.size; clear hb9; have x09 : w9.cell? ⟨w5.heap.size, 0, none⟩ = some (strV e.b.key) := keepc B9.out hz57 X0.out; have c09 : w9.cell? ⟨g, 0, none⟩ = some (strV e.b.key) := keepc B9.out hgz c0; have c19 : w9.cell? ⟨g, 1, none⟩ = some (.int .i64 e.b.gen) := keepc B9.out hgz c1; have c29 : w9.cell? ⟨g, 2, none⟩ = some (.int .i64 e.b.groups) := keepc B9.out hgz c2; have c39 : w9.cell? ⟨g, 3, none⟩ = some (.int .i64 e.b.size) := keepc B9.out hgz c3; have c49 : w9.cell? ⟨g, 4, none⟩ = some (strV e.b.sum) := keepc B9.out hgz c4; have c59 : w9.cell? ⟨g, 5, none⟩ = some (.slice (some ⟨e.g, 0, none⟩) (slotsB e.b) (slotsB e.b)) := keepc B9.out hgz c5; have c69 : w9.cell? ⟨g, 6, none⟩ = some (.int .i64 (leastOf L e.b)) := keepc B9.out hgz c6))
                clear c0 c1 c2 c3 c4 c5 c6 c08 c18 c28 c38 c48 c58 c68 d0 d1 d2 d3 d4 d5 d6
                have hbmk := hbm.of_eq (B9.out.block _ hbm.lt)
                obtain ⟨wd, hrun, hmd, hgd⟩ := hbmk.store (t := 55) (e := 62) Try.underlying55 (by simp only [maxLen]; omega) (k := e.b.key) hkey (.agg #[strV e.b.key, .int .i64 e.b.gen, .int .i64 e.b.groups, .int .i64 e.b.size, strV e.b.sum, .slice (some ⟨e.g, 0, none⟩) (slotsB e.b) (slotsB e.b), .int .i64 (leastOf L e.b)])
                have BAd := Lib.hid (show BestAt w1.heap.size (M ++ [e]).length L ((BL.filter fun x => !decide (x.b.key = e.b.key)) ++ [e]) wd from ⟨NB + 1, by rw [← put_enc]; exact hmd, by simp; omega⟩)
                have CORE9 := Lib.hid (CORE7.out.below B9.out)
                have COREd := Lib.hid (CORE9.out.kept hgd (fun e => by have := Option.some.inj e; omega) (fun e => by have := Option.some.inj e; omega) (fun e => by have := Option.some.inj e; omega) (fun q hq => by have := Option.some.inj hq; omega))
                have LTd := Lib.hid (show wd.rangeLeft w2.heap.size w3.heap.size < wo.rangeLeft w2.heap.size w3.heap.size from by rw [CORE9.out.rng.same_left hgd (fun e => by have := Option.some.inj e; omega) (fun e => by have := Option.some.inj e; omega), CORE7.out.rng.same_left (grown_of_below B9.out) (by simp) (by simp)]; exact LT7.out)
                have hrun2 : (Instr.mapUpdate 55 (.map (some w1.heap.size)) (strV e.b.key) (.agg #[strV e.b.key, .int .i64 e.b.gen, .int .i64 e.b.groups, .int .i64 e.b.size, strV e.b.sum, .slice (some ⟨e.g, 0, none⟩) (slotsB e.b) (slotsB e.b), .int .i64 (leastOf L e.b)])).run Try.prog w9 = .ok () wd := hrun
                have hzd : w9.heap.size ≤ wd.heap.size := hgd.size
                clear hrun hmd hgd hbmk hbm
                go_wp2_with fail
                go_roundw
                case rel => exact ⟨_, M ++ [e], ((BL.filter fun x => !decide (x.b.key = e.b.key)) ++ [e]), COREd.out, BI.out.win Q.out HE0.out HK0.out HBT.out, BAd.out, by omega⟩
                case measure => exact LTd.out
              | false =>
                go_wp2_with (go_at_call 21; go_loud (refine (BT.out _).mono ?_; rintro e9 w9 ⟨rfl, hb9⟩; have B9 := Lib.hid (show Below wc.heap.size wc w9 from B8.out.trans (hb9.mono hz8)); have hz9 : wc.heap.size ≤ w9.heap.size := B9.out.size; clear hb9))
                have UQ := Lib.hid (show ∀ x ∈ BL, x.b.key = e.b.key → x = e0 from fun x hx hk => inj_of_nodup (f := fun e : CopyE => e.b.key) BA7.out.keys hx HE0.out (hk.trans HK0.out.symm))
                go_roundw
                case rel => exact ⟨_, M ++ [e], BL, CORE7.out.below B9.out, BI.out.lose HE0.out HK0.out HBT.out UQ.out, (BA7.out.of_eq (B9.out.block _ hbm.lt)).mono (by simp), by omega⟩
                case measure => exact (by rw [CORE7.out.rng.same_left (grown_of_below B9.out) (by simp) (by simp)]; exact LT7.out)
        | false =>
          have Q := Lib.hid (show QualV L e.b from ⟨(COPY.out e HE.out).1, L8.out, by rw [DD.out]; rfl⟩)
          obtain ⟨NB, hbm, hNB⟩ := BA7.out.ex
          have hlk20 := hbm.look Try.underlying55 (zeroCh wc) (k := e.b.key) hkey
          have hz57 : w5.heap.size < wc.heap.size := by omega
          cases hh : hasL (BL.map (encC L)) e.b.key with
          | false =>
            rw [getL_no _ hh, hh] at hlk20
            have hlk2 : (Instr.lookup 55 (.map (some w1.heap.size)) (strV e.b.key) true).run Try.prog wc = .ok (.tuple #[.agg #[.string ⟨#[]⟩, .int .i64 0, .int .i64 0, .int .i64 0, .string ⟨#[]⟩, .slice none 0 0, .int .i64 0], .bool false]) wc := hlk20
            have NK := Lib.hid (show ∀ x ∈ BL, x.b.key ≠ e.b.key from fun x hx hc => by have h := (has_enc L BL e.b.key).2 ⟨x, hx, hc⟩; rw [hh] at h; cases h)
            clear hlk20 hh
            go_upto_region 11 with fail
            clear hlk1 hlk2
            obtain ⟨w8, hw8⟩ : ∃ z, wc.alloc (.cells #[.string ⟨#[]⟩, .int .i64 0, .int .i64 0, .int .i64 0, .string ⟨#[]⟩, .slice none 0 0, .int .i64 0] 62) = z := ⟨_, rfl⟩
            have B8 := Lib.hid (show Below wc.heap.size wc w8 by rw [← hw8]; exact (Below.refl _ wc).alloc (Nat.le_refl _) _)
            have hz8 : wc.heap.size ≤ w8.heap.size := B8.out.size
            rw [hw8]
            clear hw8
            have x08 : w8.cell? ⟨w5.heap.size, 0, none⟩ = some (strV e.b.key) := keepc B8.out hz57 x0
            have c08 : w8.cell? ⟨g, 0, none⟩ = some (strV e.b.key) := keepc B8.out hgz c0
            have c18 : w8.cell? ⟨g, 1, none⟩ = some (.int .i64 e.b.gen) := keepc B8.out hgz c1
            have c28 : w8.cell? ⟨g, 2, none⟩ = some (.int .i64 e.b.groups) := keepc B8.out hgz c2
            have c38 : w8.cell? ⟨g, 3, none⟩ = some (.int .i64 e.b.size) := keepc B8.out hgz c3
            have c48 : w8.cell? ⟨g, 4, none⟩ = some (strV e.b.sum) := keepc B8.out hgz c4
            have c58 : w8.cell? ⟨g, 5, none⟩ = some (.slice (some ⟨e.g, 0, none⟩) (slotsB e.b) (slotsB e.b)) := keepc B8.out hgz c5
            have c68 : w8.cell? ⟨g, 6, none⟩ = some (.int .i64 (leastOf L e.b)) := keepc B8.out hgz c6
            clear x0 x1 c0 c1 c2 c3 c4 c5 c6
            have hbmk := hbm.of_eq (B8.out.block _ hbm.lt)
            obtain ⟨wd, hrun, hmd, hgd⟩ := hbmk.store (t := 55) (e := 62) Try.underlying55 (by simp only [maxLen]; omega) (k := e.b.key) hkey (.agg #[strV e.b.key, .int .i64 e.b.gen, .int .i64 e.b.groups, .int .i64 e.b.size, strV e.b.sum, .slice (some ⟨e.g, 0, none⟩) (slotsB e.b) (slotsB e.b), .int .i64 (leastOf L e.b)])
            have BAd := Lib.hid (show BestAt w1.heap.size (M ++ [e]).length L ((BL.filter fun x => !decide (x.b.key = e.b.key)) ++ [e]) wd from ⟨NB + 1, by rw [← put_enc]; exact hmd, by simp; omega⟩)
            have CORE9 := Lib.hid (CORE7.out.below B8.out)
            have COREd := Lib.hid (CORE9.out.kept hgd (fun e => by have := Option.some.inj e; omega) (fun e => by have := Option.some.inj e; omega) (fun e => by have := Option.some.inj e; omega) (fun q hq => by have := Option.some.inj hq; omega))
            have LTd := Lib.hid (show wd.rangeLeft w2.heap.size w3.heap.size < wo.rangeLeft w2.heap.size w3.heap.size from by rw [CORE9.out.rng.same_left hgd (fun e => by have := Option.some.inj e; omega) (fun e => by have := Option.some.inj e; omega), CORE7.out.rng.same_left (grown_of_below B8.out) (by simp) (by simp)]; exact LT7.out)
            have hrun2 : (Instr.mapUpdate 55 (.map (some w1.heap.size)) (strV e.b.key) (.agg #[strV e.b.key, .int .i64 e.b.gen, .int .i64 e.b.groups, .int .i64 e.b.size, strV e.b.sum, .slice (some ⟨e.g, 0, none⟩) (slotsB e.b) (slotsB e.b), .int .i64 (leastOf L e.b)])).run Try.prog w8 = .ok () wd := hrun
            have hzd : w8.heap.size ≤ wd.heap.size := hgd.size
            clear hrun hmd hgd hbmk hbm
            go_wp2_with fail
            go_roundw
            case rel => exact ⟨_, M ++ [e], ((BL.filter fun x => !decide (x.b.key = e.b.key)) ++ [e]), COREd.out, (by rw [filter_none NK.out]; exact BI.out.new Q.out NK.out), BAd.out, by omega⟩
            case measure => exact LTd.out
          | true =>
            obtain ⟨e0, he0, hk0⟩ := (has_enc L BL e.b.key).1 hh
            have hg0 := get_enc (L := L) BA7.out.keys he0
            rw [hk0] at hg0
            rw [hg0, hh] at hlk20
            have hlk2 : (Instr.lookup 55 (.map (some w1.heap.size)) (strV e.b.key) true).run Try.prog wc = .ok (.tuple #[.agg #[strV e0.b.key, .int .i64 e0.b.gen, .int .i64 e0.b.groups, .int .i64 e0.b.size, strV e0.b.sum, .slice (some ⟨e0.g, 0, none⟩) (slotsB e0.b) (slotsB e0.b), .int .i64 (leastOf L e0.b)], .bool true]) wc := hlk20
            have HE0 := Lib.hid he0
            have HK0 := Lib.hid hk0
            clear hlk20 hh hg0 he0 hk0
            obtain ⟨bt, hbt⟩ : ∃ z, betterL L e.b e0.b = z := ⟨_, rfl⟩
            have BT := Lib.hid (show ∀ W, Calls Try.prog 21 #[.agg #[strV e.b.key, .int .i64 e.b.gen, .int .i64 e.b.groups, .int .i64 e.b.size, strV e.b.sum, .slice (some ⟨e.g, 0, none⟩) (slotsB e.b) (slotsB e.b), .int .i64 (leastOf L e.b)], .agg #[strV e0.b.key, .int .i64 e0.b.gen, .int .i64 e0.b.groups, .int .i64 e0.b.size, strV e0.b.sum, .slice (some ⟨e0.g, 0, none⟩) (slotsB e0.b) (slotsB e0.b), .int .i64 (leastOf L e0.b)]] W fun e9 w9 => e9 = .returned (.bool bt) ∧ Below W.heap.size W w9 from fun W => by rw [← hbt]; exact sBetter e.b e0.b (leastOf L e.b) (leastOf L e0.b) (.slice (some ⟨e.g, 0, none⟩) (slotsB e.b) (slotsB e.b)) (.slice (some ⟨e0.g, 0, none⟩) (slotsB e0.b) (slotsB e0.b)) W)
            have HBT := Lib.hid hbt
            clear hbt
            go_upto_region 10 with fail
            clear hlk1 hlk2
            obtain ⟨w8, hw8⟩ : ∃ z, wc.alloc (.cells #[strV e0.b.key, .int .i64 e0.b.gen, .int .i64 e0.b.groups, .int .i64 e0.b.size, strV e0.b.sum, .slice (some ⟨e0.g, 0, none⟩) (slotsB e0.b) (slotsB e0.b), .int .i64 (leastOf L e0.b)] 62) = z := ⟨_, rfl⟩
            have B8 := Lib.hid (show Below wc.heap.size wc w8 by rw [← hw8]; exact (Below.refl _ wc).alloc (Nat.le_refl _) _)
            have D8 := Lib.hid (show Blk w8 wc.heap.size 62 #[strV e0.b.key, .int .i64 e0.b.gen, .int .i64 e0.b.groups, .int .i64 e0.b.size, strV e0.b.sum, .slice (some ⟨e0.g, 0, none⟩) (slotsB e0.b) (slotsB e0.b), .int .i64 (leastOf L e0.b)] by rw [← hw8]; exact Blk.made _ _ _)
            have hz8 : wc.heap.size ≤ w8.heap.size := B8.out.size
            rw [hw8]
            clear hw8
            have x08 : w8.cell? ⟨w5.heap.size, 0, none⟩ = some (strV e.b.key) := keepc B8.out hz57 x0
            have c08 : w8.cell? ⟨g, 0, none⟩ = some (strV e.b.key) := keepc B8.out hgz c0
            have c18 : w8.cell? ⟨g, 1, none⟩ = some (.int .i64 e.b.gen) := keepc B8.out hgz c1
            have c28 : w8.cell? ⟨g, 2, none⟩ = some (.int .i64 e.b.groups) := keepc B8.out hgz c2
            have c38 : w8.cell? ⟨g, 3, none⟩ = some (.int .i64 e.b.size) := keepc B8.out hgz c3
            have c48 : w8.cell? ⟨g, 4, none⟩ = some (strV e.b.sum) := keepc B8.out hgz c4
            have c58 : w8.cell? ⟨g, 5, none⟩ = some (.slice (some ⟨e.g, 0, none⟩) (slotsB e.b) (slotsB e.b)) := keepc B8.out hgz c5
            have c68 : w8.cell? ⟨g, 6, none⟩ = some (.int .i64 (leastOf L e.b)) := keepc B8.out hgz c6
            have d0 : w8.cell? ⟨wc.heap.size, 0, none⟩ = some (strV e0.b.key) := D8.out.cell 0
            have d1 : w8.cell? ⟨wc.heap.size, 1, none⟩ = some (.int .i64 e0.b.gen) := D8.out.cell 1
            have d2 : w8.cell? ⟨wc.heap.size, 2, none⟩ = some (.int .i64 e0.b.groups) := D8.out.cell 2
            have d3 : w8.cell? ⟨wc.heap.size, 3, none⟩ = some (.int .i64 e0.b.size) := D8.out.cell 3
            have d4 : w8.cell? ⟨wc.heap.size, 4, none⟩ = some (strV e0.b.sum) := D8.out.cell 4
            have d5 : w8.cell? ⟨wc.heap.size, 5, none⟩ = some (.slice (some ⟨e0.g, 0, none⟩) (slotsB e0.b) (slotsB e0.b)) := D8.out.cell 5
            have d6 : w8.cell? ⟨wc.heap.size, 6, none⟩ = some (.int .i64 (leastOf L e0.b)) := D8.out.cell 6
            clear x0 x1 x08 D8
            have X0 := Lib.hid (show wc.cell? ⟨w5.heap.size, 0, none⟩ = some (strV e.b.key) from X7.out.cell 0)
            cases bt with
            | true =>
              go_upto_region 11 with (go_at_call 21; go_loud (refine (BT.out _).mono ?_; rintro e9 w9 ⟨rfl, hb9⟩; have B9 := Lib.hid (show Below wc.heap.size wc w9 from B8.out.trans (hb9.mono hz8)); have hz9 : wc.heap.size ≤ w9.heap.size := B9.out.size; clear hb9; have x09 : w9.cell? ⟨w5.heap.size, 0, none⟩ = some (strV e.b.key) := keepc B9.out hz57 X0.out; have c09 : w9.cell? ⟨g, 0, none⟩ = some (strV e.b.key) := keepc B9.out hgz c0; have c19 : w9.cell? ⟨g, 1, none⟩ = some (.int .i64 e.b.gen) := keepc B9.out hgz c1; have c29 : w9.cell? ⟨g, 2, none⟩ = some (.int .i64 e.b.groups) := keepc B9.out hgz c2; have c39 : w9.cell? ⟨g, 3, none⟩ = some (.int .i64 e.b.size) := keepc B9.out hgz c3; have c49 : w9.cell? ⟨g, 4, none⟩ = some (strV e.b.sum) := keepc B9.out hgz c4; have c59 : w9.cell? ⟨g, 5, none⟩ = some (.slice (some ⟨e.g, 0, none⟩) (slotsB e.b) (slotsB e.b)) := keepc B9.out hgz c5; have c69 : w9.cell? ⟨g, 6, none⟩ = some (.int .i64 (leastOf L e.b)) := keepc B9.out hgz c6))
              clear c0 c1 c2 c3 c4 c5 c6 c08 c18 c28 c38 c48 c58 c68 d0 d1 d2 d3 d4 d5 d6
              have hbmk := hbm.of_eq (B9.out.block _ hbm.lt)
              obtain ⟨wd, hrun, hmd, hgd⟩ := hbmk.store (t := 55) (e := 62) Try.underlying55 (by simp only [maxLen]; omega) (k := e.b.key) hkey (.agg #[strV e.b.key, .int .i64 e.b.gen, .int .i64 e.b.groups, .int .i64 e.b.size, strV e.b.sum, .slice (some ⟨e.g, 0, none⟩) (slotsB e.b) (slotsB e.b), .int .i64 (leastOf L e.b)])
              have BAd := Lib.hid (show BestAt w1.heap.size (M ++ [e]).length L ((BL.filter fun x => !decide (x.b.key = e.b.key)) ++ [e]) wd from ⟨NB + 1, by rw [← put_enc]; exact hmd, by simp; omega⟩)
              have CORE9 := Lib.hid (CORE7.out.below B9.out)
              have COREd := Lib.hid (CORE9.out.kept hgd (fun e => by have := Option.some.inj e; omega) (fun e => by have := Option.some.inj e; omega) (fun e => by have := Option.some.inj e; omega) (fun q hq => by have := Option.some.inj hq; omega))
              have LTd := Lib.hid (show wd.rangeLeft w2.heap.size w3.heap.size < wo.rangeLeft w2.heap.size w3.heap.size from by rw [CORE9.out.rng.same_left hgd (fun e => by have := Option.some.inj e; omega) (fun e => by have := Option.some.inj e; omega), CORE7.out.rng.same_left (grown_of_below B9.out) (by simp) (by simp)]; exact LT7.out)
              have hrun2 : (Instr.mapUpdate 55 (.map (some w1.heap.size)) (strV e.b.key) (.agg #[strV e.b.key, .int .i64 e.b.gen, .int .i64 e.b.groups, .int .i64 e.b.size, strV e.b.sum, .slice (some ⟨e.g, 0, none⟩) (slotsB e.b) (slotsB e.b), .int .i64 (leastOf L e.b)])).run Try.prog w9 = .ok () wd := hrun
              have hzd : w9.heap.size ≤ wd.heap.size := hgd.size
              clear hrun hmd hgd hbmk hbm
              go_wp2_with fail
              go_roundw
              case rel => exact ⟨_, M ++ [e], ((BL.filter fun x => !decide (x.b.key = e.b.key)) ++ [e]), COREd.out, BI.out.win Q.out HE0.out HK0.out HBT.out, BAd.out, by omega⟩
              case measure => exact LTd.out
            | false =>
              go_wp2_with (go_at_call 21; go_loud (refine (BT.out _).mono ?_; rintro e9 w9 ⟨rfl, hb9⟩; have B9 := Lib.hid (show Below wc.heap.size wc w9 from B8.out.trans (hb9.mono hz8)); have hz9 : wc.heap.size ≤ w9.heap.size := B9.out.size; clear hb9))
              have UQ := Lib.hid (show ∀ x ∈ BL, x.b.key = e.b.key → x = e0 from fun x hx hk => inj_of_nodup (f := fun e : CopyE => e.b.key) BA7.out.keys hx HE0.out (hk.trans HK0.out.symm))
              go_roundw
              case rel => exact ⟨_, M ++ [e], BL, CORE7.out.below B9.out, BI.out.lose HE0.out HK0.out HBT.out UQ.out, (BA7.out.of_eq (B9.out.block _ hbm.lt)).mono (by simp), by omega⟩
              case measure => exact (by rw [CORE7.out.rng.same_left (grown_of_below B9.out) (by simp) (by simp)]; exact LT7.out)
end Go.Proofs.Ythceidacmeadkaa
