/- What is told to be gone, and the greatest generation. No condition beyond those that each theorem states. -/
import Derived.Test.YthceidacmeadkaaS2
import Derived.Sort.CutIn
import Derived.Shelf.Abstract
import Derived.Deep.DeepCutAuto
import Derived.Deep.CutBlock
namespace Go.Proofs.Ythceidacmeadkaa
open Go.RowKit Go.Maps Go.WideMaps
attribute [local go_sem] Oper.semAt_some

theorem zeroI (w : World) : (zeroValue 3).run Try.prog w = .ok (.int .i64 0) w := by kernel_rfl
theorem Blk.made' (w : World) {g : Nat} (t : TypeId) (cs : Array Value) (hg : g = w.heap.size) : Blk (w.alloc (.cells cs t)) g t cs := by
  subst hg
  exact Blk.made w t cs
theorem hasL_map {κ β γ : Type} [DecidableEq κ] (f : β → γ) (L : List (κ × β)) (k : κ) : hasL (L.map fun q => (q.1, f q.2)) k = hasL L k := by simp [hasL, List.any_map, Function.comp_def]
theorem getL_map {κ β γ : Type} [DecidableEq κ] (f : β → γ) (z : β) (L : List (κ × β)) (k : κ) : getL (f z) (L.map fun q => (q.1, f q.2)) k = f (getL z L k) := by
  unfold getL
  induction L with
  | nil => rfl
  | cons q L ih =>
    rw [List.map_cons, List.find?_cons, List.find?_cons]
    by_cases h : q.1 = k
    · simp [h]
    · simp only [h, decide_false]
      exact ih
theorem putL_map {κ β γ : Type} [DecidableEq κ] (f : β → γ) (L : List (κ × β)) (k : κ) (v : β) : putL (L.map fun q => (q.1, f q.2)) k (f v) = (putL L k v).map fun q => (q.1, f q.2) := by
  unfold putL delL
  rw [List.map_append, List.filter_map]
  rfl
def encM (M : List (Str × Int)) : List (Str × Value) := M.map fun q => (q.1, Value.int .i64 q.2)
def mostV (xs : List FoundP) : Int := xs.foldl (fun m p => max m p.r.gen) 0
def goneStep (L : List (Str × Int)) (p : FoundP) : List (Str × Int) := if p.r.kind = 3 then putL L p.r.key (max (getL 0 L p.r.key) p.r.gen) else L
def goneM (xs : List FoundP) : List (Str × Int) := xs.foldl goneStep []
theorem most_snoc (xs : List FoundP) (p : FoundP) : mostV (xs ++ [p]) = max (mostV xs) p.r.gen := by simp [mostV, List.foldl_append]
theorem gone_snoc (xs : List FoundP) (p : FoundP) : goneM (xs ++ [p]) = goneStep (goneM xs) p := by simp [goneM, List.foldl_append]
theorem sel_ok {G : Nat → FoundP} {n : Nat} {p : FoundP} (h : p ∈ sel G n) : okF p = true := (List.mem_filter.1 h).2
theorem ok_good {p : FoundP} (h : okF p = true) : goodV p.r = true := by
  unfold okF at h
  simp only [Bool.and_eq_true, decide_eq_true_eq] at h
  exact h.2.2.2.2
theorem good_key {r : RecV} (h : goodV r = true) : r.key.length ≤ 16 := by
  unfold goodV at h
  split at h
  · simp only [Bool.and_eq_true, decide_eq_true_eq] at h
    rw [h.2.1]
    simp
  · split at h
    · simp only [Bool.and_eq_true, keyV, decide_eq_true_eq] at h
      exact h.2.1.2
    · split at h
      · simp only [Bool.and_eq_true, keyV, decide_eq_true_eq] at h
        exact h.2.1.2
      · cases h
theorem pre_mem {α : Type} {pre xs : List α} {x : α} (h : pre ++ [x] <+: xs) : x ∈ xs := h.subset (by simp)
theorem sCounts (A : Option Addr) (n c : Nat) (w : World) : Calls Try.prog 39 #[.slice A n c] w fun e w' => e = .returned (.func (.func 51) #[] #[.pointer (some ⟨w.heap.size, 0, none⟩)]) ∧ w' = w.alloc (.cells #[.slice A n c] 22) := by
  go_enter Try.func39, Try.ntmps39
  go_wp2
  go_ret
  exact ⟨rfl, rfl⟩
/-- What lies there in the course of gone. -/
structure GoneAt (w : World) (A : Option Addr) (n c : Nat) (G : Nat → FoundP) (pre : List FoundP) (W : World) : Prop where
  map : ∃ N, MapAt (strKey Try.underlying9) (.int .i64 0) W w.heap.size N (encM (goneM pre)) ∧ N ≤ pre.length
  cm : Blk W (w.heap.size + 1) 52 #[.map (some w.heap.size)]
  ci : Blk W (w.heap.size + 2) 3 #[.int .i64 (mostV pre)]
  box : Blk W (w.heap.size + 3) 22 #[.slice A n c]
  list : FoundsIn W A n G
  base : Below w.heap.size w W
theorem GoneAt.below {w W W' : World} {A : Option Addr} {n c : Nat} {G : Nat → FoundP} {pre : List FoundP} (h : GoneAt w A n c G pre W) (hb : Below W.heap.size W W') : GoneAt w A n c G pre W' := by
  obtain ⟨⟨N, hm, hN⟩, h2, h3, h4, h5, h6⟩ := h
  exact ⟨⟨N, hm.of_eq (hb.block _ hm.lt), hN⟩, h2.below hb h2.size, h3.below hb h3.size, h4.below hb h4.size, h5.below hb, h6.trans (hb.mono h6.size)⟩
set_option maxHeartbeats 8000000 in
set_option maxRecDepth 100000 in
theorem sGone (A : Option Addr) (n c : Nat) (G : Nat → FoundP) (w : World) (hin : FoundsIn w A n G) (hn : n ≤ 1000000) :
    Calls Try.prog 18 #[.slice A n c] w fun e w' => e = .returned (.tuple #[.map (some w.heap.size), .int .i64 (mostV (sel G n))]) ∧ (∃ N, MapAt (strKey Try.underlying9) (.int .i64 0) w' w.heap.size N (encM (goneM (sel G n))) ∧ N ≤ n) ∧ Below w.heap.size w w' := by
  have IN := Lib.hid hin
  clear hin
  have hmm := @run_makeMap Try.prog
  refine (callsIn_wide (n := 3)).1 (callsIn_of_wp_marks Try.func18 rfl trivial ?_ rfl)
  simp only [Try.ntmps18, List.size_toArray, List.length_cons, List.length_nil, Nat.reduceAdd, Nat.reduceSub, Array.replicate_succ, Array.replicate_zero, List.push_toArray, List.append_toArray, List.nil_append, List.cons_append]
  gi_wp2_with (refine ⟨trivial, ?_⟩; gi_at_call 39; refine (callsIn_wide.2 (sCounts A n c _)).mono ?_; rintro e w1 ⟨rfl, rfl⟩)
  obtain ⟨v, hv⟩ : ∃ v, ((((w.alloc (.map #[] 0)).alloc (.cells #[.map (some w.heap.size)] 52)).alloc (.cells #[.int .i64 0] 3)).alloc (.cells #[.slice A n c] 22)) = v := ⟨_, rfl⟩
  have hvs : v.heap.size = w.heap.size + 4 := by rw [← hv]; simp
  have GA0 := Lib.hid (show GoneAt w A n c G [] v by
    rw [← hv]
    have hb : Below w.heap.size w (((w.alloc (.map #[] 0)).alloc (.cells #[.map (some w.heap.size)] 52)).alloc (.cells #[.int .i64 0] 3) |>.alloc (.cells #[.slice A n c] 22)) := ((((Below.refl _ w).alloc (Nat.le_refl _) _).alloc (by simp) _).alloc (by simp; omega) _).alloc (by simp; omega) _
    refine ⟨⟨0, ?_, Nat.le_refl _⟩, ?_, ?_, ?_, IN.out.below hb, hb⟩
    · have h := MapAt.made (strKey (P := Try.prog) Try.underlying9) (.int .i64 0) w
      exact ((h.of_eq (Below.heap_alloc _ _ _ h.lt)).of_eq (Below.heap_alloc _ _ _ (by simp; omega))).of_eq (Below.heap_alloc _ _ _ (by simp; omega))
    · exact ((Blk.made' _ _ _ (by simp)).alloc _).alloc _
    · exact (Blk.made' _ _ _ (by simp)).alloc _
    · exact Blk.made' _ _ _ (by simp))
  rw [hv]
  clear hv
  refine range_iter (w := v) (enters_of Try.func51 (by kernel_rfl) rfl) (counts_it (w.heap.size + 3) A n c G (by omega)) rfl (fun _ => rfl) (GoneAt w A n c G) (fun _ _ => False) (fun _ _ _ h hb => h.below hb) (fun _ _ h => ⟨h.box, h.list⟩) ?hIp (fun _ _ _ _ _ _ _ h => h) GA0.out
    (fun x W => W.alloc (.cells (foundCells x) 39)) (fun _ W => (Below.refl _ W).alloc (Nat.le_refl _) _)
    (fun x W => { tmps := #[.slice A n c, undef, .map none, .int .i64 0, .pointer (some ⟨w.heap.size + 1, 0, none⟩), .pointer (some ⟨w.heap.size + 1 + 1, 0, none⟩), .pointer (some ⟨W.heap.size, 0, none⟩), .map (some w.heap.size), .slice A n c, .func (.func 51) #[] #[.pointer (some ⟨w.heap.size + 1 + 1 + 1, 0, none⟩)], .agg (foundCells x), undef, undef, undef, undef, undef, undef, undef, undef, undef, undef, undef, undef, undef, undef, undef, undef, undef, undef, undef, undef, undef, undef, undef, undef], defers := [] }) ?assign ?body ?done (fun _ _ _ h _ => h.elim)
  case hIp =>
    intro pre W k o h1 h2 _ ⟨⟨N, hm, hN⟩, a2, a3, a4, a5, a6⟩
    rw [hvs] at h1 h2
    have hb : Below w.heap.size W (W.putObj k o) := ⟨rfl, rfl, rfl, by simp, fun j hj => World.putObj_heap_other (by omega)⟩
    exact ⟨⟨N, hm.of_eq (World.putObj_heap_other (by omega)), hN⟩, a2.of_eq (World.putObj_heap_other (by omega)), a3.of_eq (World.putObj_heap_other (by omega)), a4.of_eq (World.putObj_heap_other (by omega)), IN.out.below (a6.trans hb), a6.trans hb⟩
  case assign =>
    intro l x W K hK
    unfold foundCells at *
    gi_wp2
    exact hK
  case body =>
    intro l pre x W0 W hpf _ hI hz hsz hblk
    rw [hvs] at hz hblk
    have GA := Lib.hid hI
    obtain ⟨N, hmap, hN⟩ := hI.map
    have hpl : pre.length ≤ n := by
      have h1 := hpf.length_le
      have h2 : (sel G n).length ≤ n := by unfold sel; exact Nat.le_trans (List.length_filter_le _ _) (by simp)
      simp only [List.length_append, List.length_singleton] at h1
      omega
    have XF := Lib.hid (show Blk W W0.heap.size 39 (foundCells x) from (Blk.made _ _ _).of_eq (hblk _ (by omega)))
    have hWs : W0.heap.size < W.heap.size := XF.out.size
    have y0 : W.cell? ⟨W0.heap.size, 2, none⟩ = some (.int .i64 x.r.kind) := XF.out.cell 2
    have y1 : W.cell? ⟨W0.heap.size, 4, none⟩ = some (strV x.r.key) := XF.out.cell 4
    have y2 : W.cell? ⟨W0.heap.size, 5, none⟩ = some (.int .i64 x.r.gen) := XF.out.cell 5
    have y3 : W.cell? ⟨W0.heap.size, 0, none⟩ = some (.int .i64 x.cart) := XF.out.cell 0
    obtain ⟨mo, hmo⟩ : ∃ m, mostV pre = m := ⟨_, rfl⟩
    have k1 : W.cell? ⟨w.heap.size + 1, 0, none⟩ = some (.map (some w.heap.size)) := hI.cm.cell 0
    have k2 : W.cell? ⟨w.heap.size + 1 + 1, 0, none⟩ = some (.int .i64 mo) := by rw [← hmo]; exact hI.ci.cell 0
    have f2 : W.frozen? ⟨w.heap.size + 1 + 1, 0, none⟩ = false := hI.ci.free 0
    clear hI hsz hblk
    rw [hvs]
    by_cases hmx : mo < x.r.gen
    · have MS := Lib.hid (show mostV (pre ++ [x]) = x.r.gen by rw [most_snoc, hmo]; omega)
      gi_upto_region 5 with fail
      obtain ⟨W1, hW1⟩ : ∃ z, W.setCell ⟨w.heap.size + 1 + 1, 0, none⟩ (.int .i64 x.r.gen) = z := ⟨_, rfl⟩
      have CG := Lib.hid (show Chg (fun k => k = w.heap.size + 2) W W1 by rw [← hW1]; exact (Chg.refl (fun k => k = w.heap.size + 2) W).store (p := ⟨w.heap.size + 2, 0, none⟩) (.inl rfl) _)
      have M1 := Lib.hid (hmap.of_eq (CG.out.block _ hmap.lt (by omega)))
      have CM1 := Lib.hid (GA.out.cm.of_eq (CG.out.block _ GA.out.cm.size (by omega)))
      have CI1 := Lib.hid (show Blk W1 (w.heap.size + 2) 3 #[.int .i64 x.r.gen] by rw [← hW1]; exact GA.out.ci.store 0 _)
      have BX1 := Lib.hid (GA.out.box.of_eq (CG.out.block _ GA.out.box.size (by omega)))
      have BE1 := Lib.hid (CG.out.below GA.out.base.size (fun k hk => by omega))
      have BE1 := Lib.hid (show Below w.heap.size w W1 from GA.out.base.trans BE1.out)
      have LI1 := Lib.hid (IN.out.below BE1.out)
      have XF1 := Lib.hid (XF.out.of_eq (CG.out.block _ XF.out.size (by omega)))
      have HF1 := Lib.hid (show ∀ k, w.heap.size + 4 ≤ k → k < w.heap.size + 4 + 2 → W1.heap[k]? = W.heap[k]? from fun k h1 h2 => CG.out.block k (by omega) (by omega))
      have hz1 : w.heap.size + 6 ≤ W1.heap.size := Nat.le_trans (by omega) CG.out.size
      rw [hW1]
      clear hW1 CG y0 y1 y2 y3 k1 k2 f2 hmap
      have y0 : W1.cell? ⟨W0.heap.size, 2, none⟩ = some (.int .i64 x.r.kind) := XF1.out.cell 2
      have y1 : W1.cell? ⟨W0.heap.size, 4, none⟩ = some (strV x.r.key) := XF1.out.cell 4
      have y2 : W1.cell? ⟨W0.heap.size, 5, none⟩ = some (.int .i64 x.r.gen) := XF1.out.cell 5
      have k1 : W1.cell? ⟨w.heap.size + 1, 0, none⟩ = some (.map (some w.heap.size)) := CM1.out.cell 0
      by_cases hk3 : x.r.kind = 3
      · have qk : (x.r.kind == 3) = true := by simpa using hk3
        obtain ⟨og, hog⟩ : ∃ g, getL 0 (goneM pre) x.r.key = g := ⟨_, rfl⟩
        have hkl : x.r.key.length ≤ maxLen := by have h := good_key (ok_good (sel_ok (pre_mem hpf))); simp only [maxLen]; omega
        have hlk0 := M1.out.look1 Try.underlying52 (zeroI W1) (k := x.r.key) hkl
        have hgm := getL_map (fun g : Int => Value.int .i64 g) 0 (goneM pre) x.r.key
        unfold encM at hlk0
        rw [hgm, hog] at hlk0
        have hlk : (Instr.lookup 52 (.map (some w.heap.size)) (strV x.r.key) false).run Try.prog W1 = .ok (.int .i64 og) W1 := hlk0
        clear hlk0
        have GS0 := Lib.hid (show goneM (pre ++ [x]) = putL (goneM pre) x.r.key (max og x.r.gen) by rw [gone_snoc, goneStep, if_pos hk3, hog])
        clear hk3 hgm hog
        by_cases hm2 : og < x.r.gen
        · have GS := Lib.hid (show goneM (pre ++ [x]) = putL (goneM pre) x.r.key x.r.gen by rw [GS0.out]; congr 1; omega)
          obtain ⟨w4, hrun, hm4, hg4⟩ := M1.out.store (t := 52) (e := 3) Try.underlying52 (by simp only [maxLen]; omega) (k := x.r.key) hkl (.int .i64 (x.r.gen))
          have hput := putL_map (fun g : Int => Value.int .i64 g) (goneM pre) x.r.key (x.r.gen)
          have MS4 := Lib.hid (show MapAt (strKey Try.underlying9) (.int .i64 0) w4 w.heap.size (N + 1) (encM (goneM (pre ++ [x]))) by rw [GS.out]; have h := hm4; unfold encM at h ⊢; rw [hput] at h; exact h)
          have hne : ∀ k, k < W1.heap.size → k ≠ w.heap.size → w4.heap[k]? = W1.heap[k]? := fun k hk hn => hg4.block k hk (fun e => hn (Option.some.inj e))
          have G4 := Lib.hid hg4
          have NE := Lib.hid hne
          clear hm4 hput hg4 hne hkl
          have hrun2 : (Instr.mapUpdate 52 (.map (some w.heap.size)) (strV x.r.key) (.int .i64 x.r.gen)).run Try.prog W1 = .ok () w4 := hrun
          clear hrun
          gi_wp2
          refine ⟨fun k h1 h2 => (NE.out k (by omega) (by omega)).trans (HF1.out k h1 h2), ⟨N + 1, MS4.out, by rw [List.length_append, List.length_singleton]; omega⟩, CM1.out.of_eq (NE.out _ CM1.out.size (by omega)), ?_, BX1.out.of_eq (NE.out _ BX1.out.size (by omega)), ?_, ?_⟩
          · rw [MS.out]
            exact CI1.out.of_eq (NE.out _ CI1.out.size (by omega))
          · exact IN.out.below (BE1.out.grown G4.out BE1.out.size (fun q hq => by have e := Option.some.inj hq; omega))
          · exact BE1.out.grown G4.out BE1.out.size (fun q hq => by have e := Option.some.inj hq; omega)
        · have GS := Lib.hid (show goneM (pre ++ [x]) = putL (goneM pre) x.r.key og by rw [GS0.out]; congr 1; omega)
          obtain ⟨w4, hrun, hm4, hg4⟩ := M1.out.store (t := 52) (e := 3) Try.underlying52 (by simp only [maxLen]; omega) (k := x.r.key) hkl (.int .i64 (og))
          have hput := putL_map (fun g : Int => Value.int .i64 g) (goneM pre) x.r.key (og)
          have MS4 := Lib.hid (show MapAt (strKey Try.underlying9) (.int .i64 0) w4 w.heap.size (N + 1) (encM (goneM (pre ++ [x]))) by rw [GS.out]; have h := hm4; unfold encM at h ⊢; rw [hput] at h; exact h)
          have hne : ∀ k, k < W1.heap.size → k ≠ w.heap.size → w4.heap[k]? = W1.heap[k]? := fun k hk hn => hg4.block k hk (fun e => hn (Option.some.inj e))
          have G4 := Lib.hid hg4
          have NE := Lib.hid hne
          clear hm4 hput hg4 hne hkl
          have hrun2 : (Instr.mapUpdate 52 (.map (some w.heap.size)) (strV x.r.key) (.int .i64 og)).run Try.prog W1 = .ok () w4 := hrun
          clear hrun
          gi_wp2
          refine ⟨fun k h1 h2 => (NE.out k (by omega) (by omega)).trans (HF1.out k h1 h2), ⟨N + 1, MS4.out, by rw [List.length_append, List.length_singleton]; omega⟩, CM1.out.of_eq (NE.out _ CM1.out.size (by omega)), ?_, BX1.out.of_eq (NE.out _ BX1.out.size (by omega)), ?_, ?_⟩
          · rw [MS.out]
            exact CI1.out.of_eq (NE.out _ CI1.out.size (by omega))
          · exact IN.out.below (BE1.out.grown G4.out BE1.out.size (fun q hq => by have e := Option.some.inj hq; omega))
          · exact BE1.out.grown G4.out BE1.out.size (fun q hq => by have e := Option.some.inj hq; omega)
      · have qk : (x.r.kind == 3) = false := by simpa using hk3
        have GS := Lib.hid (show goneM (pre ++ [x]) = goneM pre by rw [gone_snoc, goneStep, if_neg hk3])
        clear hk3
        gi_wp2
        exact ⟨HF1.out, ⟨N, by rw [GS.out]; exact M1.out, by rw [List.length_append]; omega⟩, CM1.out, by rw [MS.out]; exact CI1.out, BX1.out, LI1.out, BE1.out⟩
    · have MS := Lib.hid (show mostV (pre ++ [x]) = mo by rw [most_snoc, hmo]; omega)
      gi_upto_region 5 with fail
      obtain ⟨W1, hW1⟩ : ∃ z, W.setCell ⟨w.heap.size + 1 + 1, 0, none⟩ (.int .i64 mo) = z := ⟨_, rfl⟩
      have CG := Lib.hid (show Chg (fun k => k = w.heap.size + 2) W W1 by rw [← hW1]; exact (Chg.refl (fun k => k = w.heap.size + 2) W).store (p := ⟨w.heap.size + 2, 0, none⟩) (.inl rfl) _)
      have M1 := Lib.hid (hmap.of_eq (CG.out.block _ hmap.lt (by omega)))
      have CM1 := Lib.hid (GA.out.cm.of_eq (CG.out.block _ GA.out.cm.size (by omega)))
      have CI1 := Lib.hid (show Blk W1 (w.heap.size + 2) 3 #[.int .i64 mo] by rw [← hW1]; exact GA.out.ci.store 0 _)
      have BX1 := Lib.hid (GA.out.box.of_eq (CG.out.block _ GA.out.box.size (by omega)))
      have BE1 := Lib.hid (CG.out.below GA.out.base.size (fun k hk => by omega))
      have BE1 := Lib.hid (show Below w.heap.size w W1 from GA.out.base.trans BE1.out)
      have LI1 := Lib.hid (IN.out.below BE1.out)
      have XF1 := Lib.hid (XF.out.of_eq (CG.out.block _ XF.out.size (by omega)))
      have HF1 := Lib.hid (show ∀ k, w.heap.size + 4 ≤ k → k < w.heap.size + 4 + 2 → W1.heap[k]? = W.heap[k]? from fun k h1 h2 => CG.out.block k (by omega) (by omega))
      have hz1 : w.heap.size + 6 ≤ W1.heap.size := Nat.le_trans (by omega) CG.out.size
      rw [hW1]
      clear hW1 CG y0 y1 y2 y3 k1 k2 f2 hmap
      have y0 : W1.cell? ⟨W0.heap.size, 2, none⟩ = some (.int .i64 x.r.kind) := XF1.out.cell 2
      have y1 : W1.cell? ⟨W0.heap.size, 4, none⟩ = some (strV x.r.key) := XF1.out.cell 4
      have y2 : W1.cell? ⟨W0.heap.size, 5, none⟩ = some (.int .i64 x.r.gen) := XF1.out.cell 5
      have k1 : W1.cell? ⟨w.heap.size + 1, 0, none⟩ = some (.map (some w.heap.size)) := CM1.out.cell 0
      by_cases hk3 : x.r.kind = 3
      · have qk : (x.r.kind == 3) = true := by simpa using hk3
        obtain ⟨og, hog⟩ : ∃ g, getL 0 (goneM pre) x.r.key = g := ⟨_, rfl⟩
        have hkl : x.r.key.length ≤ maxLen := by have h := good_key (ok_good (sel_ok (pre_mem hpf))); simp only [maxLen]; omega
        have hlk0 := M1.out.look1 Try.underlying52 (zeroI W1) (k := x.r.key) hkl
        have hgm := getL_map (fun g : Int => Value.int .i64 g) 0 (goneM pre) x.r.key
        unfold encM at hlk0
        rw [hgm, hog] at hlk0
        have hlk : (Instr.lookup 52 (.map (some w.heap.size)) (strV x.r.key) false).run Try.prog W1 = .ok (.int .i64 og) W1 := hlk0
        clear hlk0
        have GS0 := Lib.hid (show goneM (pre ++ [x]) = putL (goneM pre) x.r.key (max og x.r.gen) by rw [gone_snoc, goneStep, if_pos hk3, hog])
        clear hk3 hgm hog
        by_cases hm2 : og < x.r.gen
        · have GS := Lib.hid (show goneM (pre ++ [x]) = putL (goneM pre) x.r.key x.r.gen by rw [GS0.out]; congr 1; omega)
          obtain ⟨w4, hrun, hm4, hg4⟩ := M1.out.store (t := 52) (e := 3) Try.underlying52 (by simp only [maxLen]; omega) (k := x.r.key) hkl (.int .i64 (x.r.gen))
          have hput := putL_map (fun g : Int => Value.int .i64 g) (goneM pre) x.r.key (x.r.gen)
          have MS4 := Lib.hid (show MapAt (strKey Try.underlying9) (.int .i64 0) w4 w.heap.size (N + 1) (encM (goneM (pre ++ [x]))) by rw [GS.out]; have h := hm4; unfold encM at h ⊢; rw [hput] at h; exact h)
          have hne : ∀ k, k < W1.heap.size → k ≠ w.heap.size → w4.heap[k]? = W1.heap[k]? := fun k hk hn => hg4.block k hk (fun e => hn (Option.some.inj e))
          have G4 := Lib.hid hg4
          have NE := Lib.hid hne
          clear hm4 hput hg4 hne hkl
          have hrun2 : (Instr.mapUpdate 52 (.map (some w.heap.size)) (strV x.r.key) (.int .i64 x.r.gen)).run Try.prog W1 = .ok () w4 := hrun
          clear hrun
          gi_wp2
          refine ⟨fun k h1 h2 => (NE.out k (by omega) (by omega)).trans (HF1.out k h1 h2), ⟨N + 1, MS4.out, by rw [List.length_append, List.length_singleton]; omega⟩, CM1.out.of_eq (NE.out _ CM1.out.size (by omega)), ?_, BX1.out.of_eq (NE.out _ BX1.out.size (by omega)), ?_, ?_⟩
          · rw [MS.out]
            exact CI1.out.of_eq (NE.out _ CI1.out.size (by omega))
          · exact IN.out.below (BE1.out.grown G4.out BE1.out.size (fun q hq => by have e := Option.some.inj hq; omega))
          · exact BE1.out.grown G4.out BE1.out.size (fun q hq => by have e := Option.some.inj hq; omega)
        · have GS := Lib.hid (show goneM (pre ++ [x]) = putL (goneM pre) x.r.key og by rw [GS0.out]; congr 1; omega)
          obtain ⟨w4, hrun, hm4, hg4⟩ := M1.out.store (t := 52) (e := 3) Try.underlying52 (by simp only [maxLen]; omega) (k := x.r.key) hkl (.int .i64 (og))
          have hput := putL_map (fun g : Int => Value.int .i64 g) (goneM pre) x.r.key (og)
          have MS4 := Lib.hid (show MapAt (strKey Try.underlying9) (.int .i64 0) w4 w.heap.size (N + 1) (encM (goneM (pre ++ [x]))) by rw [GS.out]; have h := hm4; unfold encM at h ⊢; rw [hput] at h; exact h)
          have hne : ∀ k, k < W1.heap.size → k ≠ w.heap.size → w4.heap[k]? = W1.heap[k]? := fun k hk hn => hg4.block k hk (fun e => hn (Option.some.inj e))
          have G4 := Lib.hid hg4
          have NE := Lib.hid hne
          clear hm4 hput hg4 hne hkl
          have hrun2 : (Instr.mapUpdate 52 (.map (some w.heap.size)) (strV x.r.key) (.int .i64 og)).run Try.prog W1 = .ok () w4 := hrun
          clear hrun
          gi_wp2
          refine ⟨fun k h1 h2 => (NE.out k (by omega) (by omega)).trans (HF1.out k h1 h2), ⟨N + 1, MS4.out, by rw [List.length_append, List.length_singleton]; omega⟩, CM1.out.of_eq (NE.out _ CM1.out.size (by omega)), ?_, BX1.out.of_eq (NE.out _ BX1.out.size (by omega)), ?_, ?_⟩
          · rw [MS.out]
            exact CI1.out.of_eq (NE.out _ CI1.out.size (by omega))
          · exact IN.out.below (BE1.out.grown G4.out BE1.out.size (fun q hq => by have e := Option.some.inj hq; omega))
          · exact BE1.out.grown G4.out BE1.out.size (fun q hq => by have e := Option.some.inj hq; omega)
      · have qk : (x.r.kind == 3) = false := by simpa using hk3
        have GS := Lib.hid (show goneM (pre ++ [x]) = goneM pre by rw [gone_snoc, goneStep, if_neg hk3])
        clear hk3
        gi_wp2
        exact ⟨HF1.out, ⟨N, by rw [GS.out]; exact M1.out, by rw [List.length_append]; omega⟩, CM1.out, by rw [MS.out]; exact CI1.out, BX1.out, LI1.out, BE1.out⟩
  case done =>
    intro W hI hD
    have GA := Lib.hid hI
    obtain ⟨N, hmap, hN⟩ := hI.map
    have hpl : (sel G n).length ≤ n := by unfold sel; exact Nat.le_trans (List.length_filter_le _ _) (by simp)
    have k1 : W.cell? ⟨w.heap.size + 1, 0, none⟩ = some (.map (some w.heap.size)) := hI.cm.cell 0
    have k2 : W.cell? ⟨w.heap.size + 1 + 1, 0, none⟩ = some (.int .i64 (mostV (sel G n))) := hI.ci.cell 0
    clear hI
    have HD := Lib.hid hD
    clear hD
    gi_wp2
    gi_region
    all_goals
      gi_wp2
      refine ⟨by simp, .inl ⟨_, _, rfl, run_takeDeferred (ds := []) HD.out, ?_⟩⟩
      have hb : Below w.heap.size W (W.drew.putObj v.heap.size (.deferred none)) := ⟨rfl, rfl, rfl, by show W.heap.size ≤ _; simp [World.putObj_size], fun j hj => World.putObj_heap_other (by omega)⟩
      refine ⟨_, results_tmp2 rfl _ _ _, rfl, ⟨N, hmap.of_eq (World.putObj_heap_other (by omega)), by omega⟩, GA.out.base.trans hb⟩
end Go.Proofs.Ythceidacmeadkaa
