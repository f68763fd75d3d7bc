/- What Append does to a cartridge. No condition beyond those that each theorem states. -/
import Derived.Test.YtiiilimmjoadeaaCa2
import Derived.Deep.RegionLaw
namespace Go.Proofs.Ytiiilimmjoadeaa
open Go.RowKit

theorem rec_info : (Try.prog.info? 79).map (fun i => (i.zero, i.size, i.bytes)) = some (some (.agg #[.slice none 0 0, .bool false]), 2, 32) := by kernel_rfl

set_option maxHeartbeats 400000 in
theorem append_lost (p : Nat) (lv : Value) (R : List RecV) (most : Int) (A : Option Addr) (n c : Nat) (w : World) (h : CartAt w p lv R most true) (h1 : 1 ≤ n) (h2 : n ≤ 256) :
    Calls Try.prog 14 #[.pointer (some ⟨p, 0, none⟩), .slice A n c] w fun e w' => e = .returned (.tuple #[.int .i64 0, .int .i64 9]) ∧ w = w' := by
  have c2 : w.cell? ⟨p, 2, none⟩ = some (.bool true) := h.blk.cell 2
  have t1 : ((n : Int) == 0) = false := by rw [beq_eq_false_iff_ne]; omega
  have t2 : ¬ (256 : Int) < n := by omega
  clear h h1 h2
  go_enter Try.func14, Try.ntmps14
  go_wp2
  go_ret2
  exact ⟨rfl, rfl⟩

set_option maxHeartbeats 400000 in
theorem append_full (p : Nat) (lv : Value) (R : List RecV) (most : Int) (A : Option Addr) (n c : Nat) (w : World) (h : CartAt w p lv R most false) (h1 : 1 ≤ n) (h2 : n ≤ 256) (hf : most ≤ R.length) :
    Calls Try.prog 14 #[.pointer (some ⟨p, 0, none⟩), .slice A n c] w fun e w' => e = .returned (.tuple #[.int .i64 0, .int .i64 7]) ∧ Below w.heap.size w w' := by
  have c0 : w.cell? ⟨p, 0, none⟩ = some lv := h.blk.cell 0
  have c1 : w.cell? ⟨p, 1, none⟩ = some (.int .i64 most) := h.blk.cell 1
  have c2 : w.cell? ⟨p, 2, none⟩ = some (.bool false) := h.blk.cell 2
  have t1 : ((n : Int) == 0) = false := by rw [beq_eq_false_iff_ne]; omega
  have t2 : ¬ (256 : Int) < n := by omega
  rcases h.form with ⟨rfl, rfl⟩ | ⟨g, cap, rfl, _, _⟩
  · have hf' : most ≤ 0 := by simpa using hf
    clear h h1 h2 hf
    go_enter Try.func14, Try.ntmps14
    go_wp2
    go_quiet (fail)
    go_wp2
    go_ret2
    exact ⟨rfl, ⟨rfl, rfl, rfl, Nat.le_refl _, fun _ _ => rfl⟩⟩
  · clear h h1 h2
    go_enter Try.func14, Try.ntmps14
    go_wp2
    go_quiet (fail)
    go_wp2
    go_ret2
    exact ⟨rfl, ⟨rfl, rfl, rfl, Nat.le_refl _, fun _ _ => rfl⟩⟩

/-- What a good Append leaves. -/
def Appended (w w' : World) (p : Nat) (lv : Value) (R : List RecV) (most : Int) (n : Nat) (l : List UInt8) (e : Ending) : Prop :=
  ∃ (lv' : Value) (g cap : Nat), e = .returned (.tuple #[.int .i64 R.length, .int .i64 0]) ∧ w.heap.size ≤ g ∧ CartAt w' p lv' (R ++ [⟨g, n, cap, l, false⟩]) most false ∧
    Chg (fun k => k = p ∨ lv.ownBlock = some k) w w' ∧ (lv'.ownBlock = lv.ownBlock ∨ ∃ g', lv'.ownBlock = some g' ∧ w.heap.size ≤ g')

theorem append_close {w w1 w2 : World} {p g' cap' n g2 cap2 : Nat} {lv : Value} {R : List RecV} {most : Int} {l : List UInt8} {o : Obj} (H : CartAt w p lv R most false) (hb : Below w.heap.size w w1)
    (hrow : RowAt w1 g' 5 (byteVals l)) (hg : w.heap.size ≤ g') (hl : l.length = n) (hn : n ≤ 256) (hc : n ≤ cap' ∧ cap' ≤ maxLen) (hf : R.length < most)
    (ho : w2.ownsRow 0 79 2 (.slice (some ⟨g2, 0, none⟩) (R.length + 1) cap2) (R.length + 1) (recsVals R ++ recVals ⟨g', n, cap', l, false⟩)) (hgr : (w1.alloc o).grownBy w2 lv.ownBlock)
    (hat : lv.ownBlock = some g2 ∨ g2 = (w1.alloc o).heap.size) :
    Appended w (w2.setCell ⟨p, 0, none⟩ (.slice (some ⟨g2, 0, none⟩) (R.length + 1) cap2)) p lv R most n l (.returned (.tuple #[.int .i64 R.length, .int .i64 0])) := by
  have hz1 : w.heap.size ≤ w1.heap.size := hb.size
  have hpne : lv.ownBlock ≠ some p := fun e => by
    obtain ⟨cs, hcs⟩ := own_blk H.own e
    exact blk_ne H.blk hcs (by decide) rfl
  have hk2 : Blk w2 p 76 #[lv, .int .i64 most, .bool false] := ((H.blk.below hb H.blk.size).alloc o).grown hgr hpne
  obtain ⟨cs2, hcs2⟩ := own_blk ho (g := g2) rfl
  have hg2p : g2 ≠ p := blk_ne hcs2 hk2 (by decide)
  have old : ∀ k, k < w.heap.size → lv.ownBlock ≠ some k → w2.heap[k]? = w.heap[k]? := fun k hk hne =>
    ((hgr.block k (by simp; omega) (fun e => hne e.symm)).trans (Below.heap_alloc _ _ _ (by omega))).trans (hb.block k hk)
  have hownlt : ∀ k, lv.ownBlock = some k → k < w.heap.size := fun k hk => H.own_lt hk
  refine ⟨_, g', cap', rfl, hg, ⟨hk2.store 0 _, ?_, ?_, H.lim, by simp; omega⟩, ?_, ?_⟩
  · refine own_of_eq (w := w2) ?_ (fun g e => ?_)
    · rw [show recsVals (R ++ [⟨g', n, cap', l, false⟩]) = recsVals R ++ recVals ⟨g', n, cap', l, false⟩ by simp [recsVals], List.length_append]
      exact ho
    · have e' : g2 = g := Option.some.inj e
      subst e'
      exact Below.heap_setCell _ _ _ _ hg2p
  · intro r hr
    rcases List.mem_append.1 hr with hr | hr
    · have hok := H.recs r hr
      have h1 : r.g ≠ p := hok.ne_blk H.blk (by decide)
      have h2 : lv.ownBlock ≠ some r.g := fun e => by
        obtain ⟨cs, hcs⟩ := own_blk H.own e
        exact hok.ne_blk hcs (by decide) rfl
      exact hok.of_eq ((Below.heap_setCell _ _ _ _ h1).trans (old _ hok.row.size h2))
    · have hr : r = ⟨g', n, cap', l, false⟩ := by simpa using hr
      subst hr
      have h1 : g' ≠ p := by have := H.blk.size; omega
      have h2 : lv.ownBlock ≠ some g' := fun e => by have := hownlt _ e; omega
      have hlt := hrow.size
      refine ⟨hrow.of_eq ((Below.heap_setCell _ _ _ _ h1).trans ((hgr.block g' (by simp; omega) (fun e => h2 e.symm)).trans (Below.heap_alloc _ _ _ hlt))), hl, hc, hn⟩
  · exact (((Chg.of_below _ hb).alloc o).grown hgr (fun g e => .inl (.inr e))).store (.inl (.inl rfl)) _
  · rcases hat with h | h
    · exact .inl h.symm
    · refine .inr ⟨g2, rfl, ?_⟩
      rw [World.size_alloc] at h
      omega

set_option maxRecDepth 100000 in
set_option maxHeartbeats 1000000 in
theorem append_ok (p : Nat) (lv : Value) (R : List RecV) (most : Int) (b off n c : Nat) (l : List UInt8) (w : World) (h : CartAt w p lv R most false) (hb : BytesIn w (some ⟨b, off, none⟩) n l) (h1 : 1 ≤ n) (h2 : n ≤ 256) (hf : R.length < most) :
    Calls Try.prog 14 #[.pointer (some ⟨p, 0, none⟩), .slice (some ⟨b, off, none⟩) n c] w fun e w' => Appended w w' p lv R most n l e := by
  have c0 : w.cell? ⟨p, 0, none⟩ = some lv := h.blk.cell 0
  have c1 : w.cell? ⟨p, 1, none⟩ = some (.int .i64 most) := h.blk.cell 1
  have c2 : w.cell? ⟨p, 2, none⟩ = some (.bool false) := h.blk.cell 2
  have f0 : w.frozen? ⟨p, 0, none⟩ = false := h.blk.free 0
  have hpz := h.blk.size
  have hlim := h.lim
  have t1 : ((n : Int) == 0) = false := by rw [beq_eq_false_iff_ne]; omega
  have t2 : ¬ (256 : Int) < n := by omega
  obtain ⟨i0, hi0, hz0, hz1, hz2⟩ := info_parts rec_info
  have H := Lib.hid h
  have HB := Lib.hid hb
  have hne : ∀ g, lv.ownBlock = some g → p ≠ g := fun g hg => by
    obtain ⟨cs, hcs⟩ := own_blk h.own hg
    exact blk_ne h.blk hcs (by decide)
  have hol : ∀ g, lv.ownBlock = some g → g < w.heap.size := fun g hg => h.own_lt hg
  have HNE := Lib.hid hne
  have HOL := Lib.hid hol
  clear hne hol
  rcases h.form with ⟨rfl, rfl⟩ | ⟨g, cap, rfl, hgc, hgm⟩
  · have hf' : 0 < most := by simpa using hf
    clear h hb hf
    go_enter Try.func14, Try.ntmps14
    go_wp2_with fail
    go_quiet (fail)
    go_wp2_with fail
    go_region_law (first
      | (refine step_append_form _ rfl (.tmp 41) (.tmp 45) 72 rfl 0 79 i0 _ 2 32 Try.underlying72 hi0 hz0 hz1 hz2 rfl (by omega) _ 0 (recsVals []) rfl (by exact World.ownsRow_nil _ _ _ _) (some ⟨w1.heap.size, 0, none⟩) 1 1 (recVals ⟨g', n, cap', l, false⟩) rfl rfl (fun e => by cases e) (by exact src_new _ _ _ _) (by intro u hu; simp only [recVals, List.mem_cons, List.not_mem_nil, or_false] at hu; rcases hu with rfl | rfl <;> rfl) (by omega) (by simp [maxLen]) (by omega) (Nat.zero_le _) ?_
         intro g2 cap2 w2 hown2 hgr2 hat2 hlt2
         have BK2 := Lib.hid (((H.out.blk.below HB1.out hpz).alloc _).grown hgr2 (fun e => by cases e))
         have K2 : w2.cell? ⟨p, 0, none⟩ = some (.slice none 0 0) := BK2.out.cell 0
         have f2 : w2.frozen? ⟨p, 0, none⟩ = false := BK2.out.free 0
         have HO2 := Lib.hid hown2
         have HG2 := Lib.hid hgr2
         clear hown2 hgr2)
      | (go_simp; go_at_call 42
         refine (clone_some b off n c l _ (by omega) (by exact HB.out)).mono ?_
         rintro e w1 ⟨v, rfl, ⟨g', cap', rfl, hg', hnc', hcm', hrow⟩, hb1⟩
         have K1 : w1.cell? ⟨p, 0, none⟩ = some (.slice none 0 0) := (hb1.cell (p := ⟨p, 0, none⟩) hpz).trans c0
         have FR1 := Lib.hid hrow
         have HB1 := Lib.hid (show Below w.heap.size w w1 from below_of_drewN hb1)
         have hy1 : w.heap.size ≤ w1.heap.size := hb1.size
         have hg1 : w.heap.size ≤ g' := hg'
         have hpw1 : p < w1.heap.size := by omega
         clear hrow hb1 hg'))
    all_goals
      go_wp2_with fail
      go_ret2
      exact append_close H.out HB1.out FR1.out hg1 HB.out.1 h2 ⟨hnc', hcm'⟩ (by simpa using hf') HO2.out HG2.out hat2
  · have hg0 : g < w.heap.size := HOL.out g rfl
    have hgp : p ≠ g := HNE.out g rfl
    clear h hb
    go_enter Try.func14, Try.ntmps14
    go_wp2_with fail
    go_quiet (fail)
    go_wp2_with fail
    go_region_law (first
      | (refine step_append_form _ rfl (.tmp 41) (.tmp 45) 72 rfl 0 79 i0 _ 2 32 Try.underlying72 hi0 hz0 hz1 hz2 rfl (by omega) _ R.length (recsVals R) rfl (by exact own_of_eq H.out.own (fun q hq => (Below.heap_alloc _ _ _ (by have := HOL.out q hq; omega)).trans (HB1.out.block q (HOL.out q hq)))) (some ⟨w1.heap.size, 0, none⟩) 1 1 (recVals ⟨g', n, cap', l, false⟩) rfl rfl (fun e => by cases e) (by exact src_new _ _ _ _) (by intro u hu; simp only [recVals, List.mem_cons, List.not_mem_nil, or_false] at hu; rcases hu with rfl | rfl <;> rfl) (by omega) (by simp only [maxLen]; omega) (by omega) (Nat.zero_le _) ?_
         intro g2 cap2 w2 hown2 hgr2 hat2 hlt2
         have BK2 := Lib.hid (((H.out.blk.below HB1.out hpz).alloc _).grown hgr2 (fun e => HNE.out g rfl (Option.some.inj e).symm))
         have K2 : w2.cell? ⟨p, 0, none⟩ = some (.slice (some ⟨g, 0, none⟩) R.length cap) := BK2.out.cell 0
         have f2 : w2.frozen? ⟨p, 0, none⟩ = false := BK2.out.free 0
         have HO2 := Lib.hid hown2
         have HG2 := Lib.hid hgr2
         clear hown2 hgr2)
      | (go_simp; go_at_call 42
         refine (clone_some b off n c l _ (by omega) (by exact HB.out)).mono ?_
         rintro e w1 ⟨v, rfl, ⟨g', cap', rfl, hg', hnc', hcm', hrow⟩, hb1⟩
         have K1 : w1.cell? ⟨p, 0, none⟩ = some (.slice (some ⟨g, 0, none⟩) R.length cap) := (hb1.cell (p := ⟨p, 0, none⟩) hpz).trans c0
         have FR1 := Lib.hid hrow
         have HB1 := Lib.hid (show Below w.heap.size w w1 from below_of_drewN hb1)
         have hy1 : w.heap.size ≤ w1.heap.size := hb1.size
         have hg1 : w.heap.size ≤ g' := hg'
         have hpw1 : p < w1.heap.size := by omega
         clear hrow hb1 hg'))
    all_goals
      go_wp2_with fail
      go_ret2
      exact append_close H.out HB1.out FR1.out hg1 HB.out.1 h2 ⟨hnc', hcm'⟩ hf HO2.out HG2.out hat2
end Go.Proofs.Ytiiilimmjoadeaa
