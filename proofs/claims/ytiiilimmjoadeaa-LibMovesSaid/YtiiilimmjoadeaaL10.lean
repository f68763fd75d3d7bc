/- What lib.New does. No condition beyond those that each theorem states. -/
import Derived.Test.YtiiilimmjoadeaaL9
namespace Go.Proofs.Ytiiilimmjoadeaa
open Go.RowKit

/-- A drive more. -/
theorem LCore.addDrive {own : Nat → Nat} {w w2 : World} {lp g cap : Nat} {cv dv : Value} {L : LV} {d : DV} {o : Obj} (h : LCore own w lp cv dv L) (h4 : L.drives.length < 4)
    (hr : w2.ownsRow 0 93 4 (.slice (some ⟨g, 0, none⟩) (L.drives.length + 1) cap) (L.drives.length + 1) (drvs L.drives ++ drVals d)) (hgr : (w.alloc o).grownBy w2 dv.ownBlock) (hat : dv.ownBlock = some g ∨ g = (w.alloc o).heap.size) :
    ∃ own' dv', LCore own' (w2.setCell ⟨lp, 1, none⟩ (.slice (some ⟨g, 0, none⟩) (L.drives.length + 1) cap)) lp cv dv' ⟨L.carts, L.drives ++ [d], L.now⟩ ∧ (∀ k, own' k ≠ 0 → own k ≠ 0 ∨ w.heap.size ≤ k) ∧ Chg (fun k => own k ≠ 0) w (w2.setCell ⟨lp, 1, none⟩ (.slice (some ⟨g, 0, none⟩) (L.drives.length + 1) cap)) := by
  have hlp := h.blk.size
  have hcl : ∀ q, dv.ownBlock = some q → q < w.heap.size ∧ own q = 1 ∧ q ≠ lp := fun q hq => by
    obtain ⟨cs, hcs⟩ := own_blk h.rd.1 hq
    exact ⟨hcs.size, h.rd.2 q hq, blk_ne hcs h.blk (by decide)⟩
  let own' : Nat → Nat := fun k => if k < w.heap.size then own k else 1
  have e1 : ∀ k, k < w.heap.size → own' k = own k := fun k hk => if_pos hk
  have e3 : ∀ k, w.heap.size ≤ k → own' k = 1 := fun k h1 => by show (if _ then _ else _) = _; rw [if_neg (by omega)]
  have h1 : LCore own' w lp cv dv L := h.relab e1
  have hsz2 : w.heap.size ≤ w2.heap.size := by have := hgr.size; rw [World.size_alloc] at this; omega
  have old : ∀ k, k < w.heap.size → dv.ownBlock ≠ some k → k ≠ lp → (w2.setCell ⟨lp, 1, none⟩ (.slice (some ⟨g, 0, none⟩) (L.drives.length + 1) cap)).heap[k]? = w.heap[k]? := fun k hk hne hl =>
    (Below.heap_setCell _ _ _ _ hl).trans ((hgr.block k (by simp; omega) (fun e => hne e.symm)).trans (Below.heap_alloc _ _ _ hk))
  have hbk : Blk w2 lp 91 #[cv, dv, .int .i64 L.now] := (h1.blk.alloc o).grown hgr (fun e => (hcl _ e).2.2 rfl)
  obtain ⟨cs2, hcs2⟩ := own_blk hr (g := g) rfl
  have hgl : g ≠ lp := blk_ne hcs2 hbk (by decide)
  have hsz3 : (w2.setCell ⟨lp, 1, none⟩ (.slice (some ⟨g, 0, none⟩) (L.drives.length + 1) cap)).heap.size = w2.heap.size := by simp [World.setCell]
  refine ⟨own', .slice (some ⟨g, 0, none⟩) (L.drives.length + 1) cap, ⟨hbk.store 1 _, (e1 lp hlp).trans h.lab, ?_, ⟨own_of_eq (w := w2) ?_ (fun q hq => ?_), fun q hq => ?_⟩, fun i D hD => ?_, h.few, by simp; omega⟩, fun k hk => ?_, ?_⟩
  · refine ⟨own_of_eq h1.rc.1 (fun q hq => ?_), h1.rc.2⟩
    obtain ⟨cd, hcd⟩ := own_blk h1.rc.1 hq
    refine old q hcd.size (fun e => ?_) (blk_ne hcd h1.blk (by decide))
    obtain ⟨cc, hcc⟩ := own_blk h1.rd.1 e
    exact blk_ne hcc hcd (by decide) rfl
  · rw [drvs_snoc, List.length_append]; exact hr
  · have e : g = q := Option.some.inj hq
    subst e
    exact Below.heap_setCell _ _ _ _ hgl
  · have e : g = q := Option.some.inj hq
    subst e
    rcases hat with h' | h'
    · exact (e1 _ (hcl _ h').1).trans (hcl _ h').2.1
    · exact e3 _ (by rw [World.size_alloc] at h'; omega)
  · refine (COwn.owning _ _ _ _).keep _ _ _ (h1.cs i D hD) (by omega) (fun k hk hf => old k hk (fun e => ?_) (fun e => ?_))
    · have := e1 _ (hcl _ e).1
      have := (hcl _ e).2.1
      omega
    · subst e
      have := e1 _ hlp
      have := h.lab
      omega
  · by_cases hk1 : k < w.heap.size
    · exact .inl (by rw [← e1 k hk1]; exact hk)
    · exact .inr (by omega)
  · exact (((Chg.refl (fun k => own k ≠ 0) w).alloc o).grown hgr (fun q hq => .inl (by show own q ≠ 0; rw [(hcl q hq).2.1]; decide))).store (p := ⟨lp, 1, none⟩) (.inl (by show own lp ≠ 0; rw [h.lab]; decide)) _


theorem int_val {a b : Int} (h : a = b) : Value.int .i64 a = .int .i64 b := by rw [h]
structure NewL (kc kd : Nat) (most : Int) (L : LV) : Prop where
  len : L.carts.length = kc
  fresh : ∀ C ∈ L.carts, C.M = [] ∧ C.most = most ∧ C.lost = false
  drives : L.drives = List.replicate kd ⟨-1, 0, 0, false⟩
  now : L.now = 0
/-- It lies in blocks of its own, all of them new. -/
def LMade (w wx : World) (lp : Nat) (cv dv : Value) (L : LV) : Prop := ∃ own, LCore own wx lp cv dv L ∧ (∀ q, own q ≠ 0 → w.heap.size ≤ q) ∧ Below w.heap.size w wx
theorem LMade.step {w wx w' : World} {lp : Nat} {cv' dv' : Value} {L' : LV} {own own' : Nat → Nat} (h0 : ∀ q, own q ≠ 0 → w.heap.size ≤ q) (hb : Below w.heap.size w wx)
    (h1 : LCore own' w' lp cv' dv' L') (h2 : ∀ k, own' k ≠ 0 → own k ≠ 0 ∨ wx.heap.size ≤ k) (h3 : Chg (fun k => own k ≠ 0) wx w') : LMade w w' lp cv' dv' L' :=
  ⟨own', h1, fun q hq => (h2 q hq).elim (h0 q) (Nat.le_trans hb.size), hb.trans (h3.below hb.size h0)⟩

def cnt (c most : Int) : Nat := (max 0 (min c most)).toNat

set_option maxRecDepth 100000 in
set_option maxHeartbeats 4000000 in
theorem lNew (c r d : Int) (w : World) :
    Calls Try.prog 38 #[.int .i64 c, .int .i64 r, .int .i64 d] w fun e w' => ∃ lp cv dv L, e = .returned (.pointer (some ⟨lp, 0, none⟩)) ∧ w.heap.size ≤ lp ∧ LMade w w' lp cv dv L ∧ NewL (cnt c 32) (cnt d 4) (max 0 (min r 1024)) L := by
  obtain ⟨i0, hi0, hz0, hz1, hz2⟩ := info_parts ptr_info
  obtain ⟨j0, hj0, hy0, hy1, hy2⟩ := info_parts drive_info
  obtain ⟨kc, hkc⟩ : ∃ kc, kc = cnt c 32 := ⟨_, rfl⟩
  obtain ⟨kd, hkd⟩ : ∃ kd, kd = cnt d 4 := ⟨_, rfl⟩
  have hkc2 : kc ≤ 32 := by rw [hkc]; unfold cnt; omega
  have hkd2 : kd ≤ 4 := by rw [hkd]; unfold cnt; omega
  rw [← hkc, ← hkd]
  have H0 : LMade w (w.alloc (.cells #[.slice none 0 0, .slice none 0 0, .int .i64 0] 91)) w.heap.size (.slice none 0 0) (.slice none 0 0) ⟨[], [], 0⟩ :=
    ⟨fun k => if k = w.heap.size then 1 else 0, ⟨Blk.made _ _ _, if_pos rfl, OwnRow.nil _ _ _ _, OwnRow.nil _ _ _ _, fun i C hC => by simp at hC, by simp, by simp⟩, fun q hq => by
      have : q = w.heap.size := Classical.byContradiction fun h => hq (if_neg h)
      omega, (Below.refl _ _).alloc (Nat.le_refl _) _⟩
  have HM0 := Lib.hid H0
  have HKC := Lib.hid hkc
  have HKD := Lib.hid hkd
  clear H0 hkc hkd
  go_enter Try.func38, Try.ntmps38
  go_upto_region 2 with fail
  go_cut [12, 13] (fun s12 s13 wx => s12 = .int .i64 kc ∧ s13 = .int .i64 0 ∧ wx = (w.alloc (.cells #[.slice none 0 0, .slice none 0 0, .int .i64 0] 91)))
  case first =>
    go_wp2_with fail
    all_goals
      go_meet
      exact ⟨int_val (by rw [HKC.out]; unfold cnt; omega), rfl, rfl⟩
  case rest =>
    obtain ⟨rfl, rfl, rfl⟩ := hcut
    go_wp2_with fail
    go_loopw [13] (fun i wx => ∃ k cv L, k ≤ kc ∧ i = .int .i64 (k : Nat) ∧ LMade w wx w.heap.size cv (.slice none 0 0) L ∧ NewL k 0 (max 0 (min r 1024)) L) (fun i _ => kc - (intOf i).toNat)
    case atStart => exact ⟨0, _, _, Nat.zero_le _, rfl, HM0.out, ⟨rfl, fun _ h => by (cases h), rfl, rfl⟩⟩
    case round =>
      obtain ⟨k, cv, L, hk, rfl, hm, hn⟩ := hrel
      obtain ⟨wo, rfl⟩ : ∃ wo : World, wo = wr := ⟨_, rfl⟩
      by_cases hlt : k < kc
      · have d1 : decide (k < kc) = true := by simpa using hlt
        have hlen := hn.len
        have HN := Lib.hid hn
        obtain ⟨own, h, hq, hB⟩ := hm
        have H := Lib.hid h
        have HQ := Lib.hid hq
        have HB := Lib.hid hB
        have c0 : wo.cell? ⟨w.heap.size, 0, none⟩ = some cv := h.blk.cell 0
        have f0 : wo.frozen? ⟨w.heap.size, 0, none⟩ = false := h.blk.free 0
        have hpz := h.blk.size
        have hcl : ∀ q, cv.ownBlock = some q → q < wo.heap.size ∧ q ≠ w.heap.size := fun q hq => by
          obtain ⟨cs, hcs⟩ := own_blk h.rc.1 hq
          exact ⟨hcs.size, blk_ne hcs h.blk (by decide)⟩
        have HCL := Lib.hid hcl
        have HRC := Lib.hid h.rc.1
        have h32 : L.carts.length < 32 := by omega
        have fin : ∀ (w3 : World) (dv : Value) (p : Nat), LAdded own wo w3 w.heap.size (.slice none 0 0) ⟨L.carts ++ [⟨p, [], max 0 (min r 1024), false⟩], L.drives, L.now⟩ → ∃ k' cv L, k' ≤ kc ∧ Value.int .i64 ((k : Int) + 1) = .int .i64 (k' : Nat) ∧ LMade w w3 w.heap.size cv (.slice none 0 0) L ∧ NewL k' 0 (max 0 (min r 1024)) L := fun w3 dv p ⟨own', cv', x1, x2, x3⟩ =>
          ⟨k + 1, cv', _, hlt, by go_num, LMade.step hq hB x1 x2 x3, ⟨by simp [hlen], fun C hC => by
            rcases List.mem_append.1 hC with hC | hC
            · exact hn.fresh C hC
            · have hC : C = ⟨p, [], max 0 (min r 1024), false⟩ := by simpa using hC
              subst hC
              exact ⟨rfl, rfl, rfl⟩, hn.drives, hn.now⟩⟩
        have FN := Lib.hid fin
        clear fin hcl hn hq hB hlen
        rcases h.rc.form with ⟨rfl, h0⟩ | ⟨g, cap, rfl, hgc, hgm, _, hg0⟩
        · clear h h0
          go_wp2_with fail
          go_region_law (first
            | (refine step_append_form _ rfl (.tmp 19) (.tmp 22) 88 rfl 0 23 i0 _ 1 8 Try.underlying88 hi0 hz0 hz1 hz2 rfl (by omega) _ L.carts.length (ptrs L.carts) rfl (by exact own_of_eq HRC.out (fun q hq => by cases hq)) (some ⟨w1.heap.size, 0, none⟩) 1 1 [.pointer (some ⟨p, 0, none⟩)] rfl rfl (fun e => by cases e) (by exact src_new _ _ _ _) (by intro u hu; simp only [List.mem_cons, List.not_mem_nil, or_false] at hu; subst hu; rfl) (by omega) (by simp only [maxLen]; omega) (by omega) (Nat.zero_le _) ?_
               intro g2 cap2 w2 hown2 hgr2 hat2 hlt2
               have BK2 := Lib.hid (((H.out.blk.below HB1.out hpz).alloc _).grown hgr2 (fun e => by cases e))
               have K2 : w2.cell? ⟨w.heap.size, 0, none⟩ = some (.slice none 0 0) := BK2.out.cell 0
               have f2 : w2.frozen? ⟨w.heap.size, 0, none⟩ = false := BK2.out.free 0
               have FIN := Lib.hid (H.out.add HC1.out HB1.out h32 hown2 hgr2 hat2)
               clear hown2 hgr2 hat2)
            | (go_simp; go_at_call 13
               refine (cNew r _).mono ?_
               rintro e w1 ⟨p, rfl, hp1, hC1, hb1⟩
               have K1 : w1.cell? ⟨w.heap.size, 0, none⟩ = some (.slice none 0 0) := (hb1.cell (p := ⟨w.heap.size, 0, none⟩) hpz).trans c0
               have HC1 := Lib.hid hC1
               have HB1 := Lib.hid (show Below wo.heap.size wo w1 from below_of_drewN hb1)
               have hy1 : wo.heap.size ≤ w1.heap.size := hb1.size
               have hpw1 : w.heap.size < w1.heap.size := by omega
               clear hC1 hb1))
          all_goals
            go_wp2_with fail
            go_roundw
            case rel => exact FN.out _ (.slice none 0 0) p FIN.out
            case measure => simp [intOf]; omega
        · have hgp : w.heap.size ≠ g := Ne.symm (HCL.out g rfl).2
          clear h
          go_wp2_with fail
          go_region_law (first
            | (refine step_append_form _ rfl (.tmp 19) (.tmp 22) 88 rfl 0 23 i0 _ 1 8 Try.underlying88 hi0 hz0 hz1 hz2 rfl (by omega) _ L.carts.length (ptrs L.carts) rfl (by exact own_of_eq HRC.out (fun q hq => (Below.heap_alloc _ _ _ (by have := (HCL.out q hq).1; omega)).trans (HB1.out.block q (HCL.out q hq).1))) (some ⟨w1.heap.size, 0, none⟩) 1 1 [.pointer (some ⟨p, 0, none⟩)] rfl rfl (fun e => by cases e) (by exact src_new _ _ _ _) (by intro u hu; simp only [List.mem_cons, List.not_mem_nil, or_false] at hu; subst hu; rfl) (by omega) (by simp only [maxLen]; omega) (by omega) (Nat.zero_le _) ?_
               intro g2 cap2 w2 hown2 hgr2 hat2 hlt2
               have BK2 := Lib.hid (((H.out.blk.below HB1.out hpz).alloc _).grown hgr2 (fun e => hgp (Option.some.inj e).symm))
               have K2 : w2.cell? ⟨w.heap.size, 0, none⟩ = some (.slice (some ⟨g, 0, none⟩) L.carts.length cap) := BK2.out.cell 0
               have f2 : w2.frozen? ⟨w.heap.size, 0, none⟩ = false := BK2.out.free 0
               have FIN := Lib.hid (H.out.add HC1.out HB1.out h32 hown2 hgr2 hat2)
               clear hown2 hgr2 hat2)
            | (go_simp; go_at_call 13
               refine (cNew r _).mono ?_
               rintro e w1 ⟨p, rfl, hp1, hC1, hb1⟩
               have K1 : w1.cell? ⟨w.heap.size, 0, none⟩ = some (.slice (some ⟨g, 0, none⟩) L.carts.length cap) := (hb1.cell (p := ⟨w.heap.size, 0, none⟩) hpz).trans c0
               have HC1 := Lib.hid hC1
               have HB1 := Lib.hid (show Below wo.heap.size wo w1 from below_of_drewN hb1)
               have hy1 : wo.heap.size ≤ w1.heap.size := hb1.size
               have hpw1 : w.heap.size < w1.heap.size := by omega
               clear hC1 hb1))
          all_goals
            go_wp2_with fail
            go_roundw
            case rel => exact FN.out _ (.slice none 0 0) p FIN.out
            case measure => simp [intOf]; omega
      · have d1 : decide (k < kc) = false := by simpa using hlt
        obtain rfl : k = kc := by omega
        have HM := Lib.hid hm
        have HN := Lib.hid hn
        clear hm hn
        go_upto_region 6 with fail
        go_cut [29, 30] (fun s29 s30 wx => s29 = .int .i64 kd ∧ s30 = .int .i64 0 ∧ wx = wo)
        case first =>
          go_wp2_with fail
          all_goals
            go_meet
            exact ⟨int_val (by rw [HKD.out]; unfold cnt; omega), rfl, rfl⟩
        case rest =>
          obtain ⟨rfl, rfl, rfl⟩ := hcut
          go_wp2_with fail
          go_loopw [30] (fun i wx => ∃ (j : Nat) (dv : Value) (L : LV), j ≤ kd ∧ i = .int .i64 j ∧ LMade w wx w.heap.size cv dv L ∧ NewL k j (max 0 (min r 1024)) L) (fun i _ => kd - (intOf i).toNat)
          case atStart => exact ⟨0, _, _, Nat.zero_le _, rfl, HM.out, HN.out⟩
          case round =>
            obtain ⟨j, dv, L, hj, rfl, hm, hn⟩ := hrel
            obtain ⟨wo, rfl⟩ : ∃ wo : World, wo = wr := ⟨_, rfl⟩
            by_cases hlj : j < kd
            · have d2 : decide (j < kd) = true := by simpa using hlj
              have hlen : L.drives.length = j := by rw [hn.drives]; simp
              obtain ⟨own, h, hq, hB⟩ := hm
              have H := Lib.hid h
              have c0 : wo.cell? ⟨w.heap.size, 1, none⟩ = some dv := h.blk.cell 1
              have hpz := h.blk.size
              have hcl : ∀ q, dv.ownBlock = some q → q < wo.heap.size ∧ q ≠ w.heap.size := fun q hq => by
                obtain ⟨cs, hcs⟩ := own_blk h.rd.1 hq
                exact ⟨hcs.size, blk_ne hcs h.blk (by decide)⟩
              have HCL := Lib.hid hcl
              have HRD := Lib.hid h.rd.1
              have h4 : L.drives.length < 4 := by omega
              have fin : ∀ (w3 : World), (∃ own' dv', LCore own' w3 w.heap.size cv dv' ⟨L.carts, L.drives ++ [⟨-1, 0, 0, false⟩], L.now⟩ ∧ (∀ k, own' k ≠ 0 → own k ≠ 0 ∨ wo.heap.size ≤ k) ∧ Chg (fun k => own k ≠ 0) wo w3) → ∃ (j' : Nat) (dv : Value) (L : LV), j' ≤ kd ∧ Value.int .i64 ((j : Int) + 1) = .int .i64 j' ∧ LMade w w3 w.heap.size cv dv L ∧ NewL k j' (max 0 (min r 1024)) L := fun w3 ⟨own', dv', x1, x2, x3⟩ =>
                ⟨j + 1, dv', _, hlj, by go_num, LMade.step hq hB x1 x2 x3, ⟨hn.len, hn.fresh, by show _ ++ _ = _; rw [hn.drives, List.replicate_succ'], hn.now⟩⟩
              have FN := Lib.hid fin
              clear fin hcl hn hq hB hlen
              rcases h.rd.form with ⟨rfl, h0⟩ | ⟨g, cap, rfl, hgc, hgm, _, hg0⟩
              · clear h h0
                go_wp2_with (
                  (at_builtin
                   refine wpList_append_form _ rfl (.tmp 36) (.tmp 38) 89 rfl 0 93 j0 _ 4 32 Try.underlying89 hj0 hy0 hy1 hy2 rfl (by omega) _ L.drives.length (drvs L.drives) rfl (by exact own_of_eq HRD.out (fun q hq => by cases hq)) (some ⟨wo.heap.size, 0, none⟩) 1 1 (drVals ⟨-1, 0, 0, false⟩) rfl rfl (fun e => by cases e) (by exact src_new _ _ _ _) (by intro u hu; simp only [drVals, List.mem_cons, List.not_mem_nil, or_false] at hu; rcases hu with rfl | rfl | rfl | rfl <;> rfl) (by omega) (by simp only [maxLen]; omega) (by omega) (Nat.zero_le _) ?_
                   intro g2 cap2 w2 hown2 hgr2 hat2 hlt2
                   have BK2 := Lib.hid ((H.out.blk.alloc _).grown hgr2 (fun e => by cases e))
                   have K2 : w2.cell? ⟨w.heap.size, 1, none⟩ = some (.slice none 0 0) := BK2.out.cell 1
                   have f2 : w2.frozen? ⟨w.heap.size, 1, none⟩ = false := BK2.out.free 1
                   have FIN := Lib.hid (H.out.addDrive h4 hown2 hgr2 hat2)
                   clear hown2 hgr2 hat2))
                go_roundw
                case rel => exact FN.out _ FIN.out
                case measure => simp [intOf]; omega
              · have hgp : w.heap.size ≠ g := Ne.symm (HCL.out g rfl).2
                clear h
                go_wp2_with (
                  (at_builtin
                   refine wpList_append_form _ rfl (.tmp 36) (.tmp 38) 89 rfl 0 93 j0 _ 4 32 Try.underlying89 hj0 hy0 hy1 hy2 rfl (by omega) _ L.drives.length (drvs L.drives) rfl (by exact own_of_eq HRD.out (fun q hq => (Below.heap_alloc _ _ _ (HCL.out q hq).1))) (some ⟨wo.heap.size, 0, none⟩) 1 1 (drVals ⟨-1, 0, 0, false⟩) rfl rfl (fun e => by cases e) (by exact src_new _ _ _ _) (by intro u hu; simp only [drVals, List.mem_cons, List.not_mem_nil, or_false] at hu; rcases hu with rfl | rfl | rfl | rfl <;> rfl) (by omega) (by simp only [maxLen]; omega) (by omega) (Nat.zero_le _) ?_
                   intro g2 cap2 w2 hown2 hgr2 hat2 hlt2
                   have BK2 := Lib.hid ((H.out.blk.alloc _).grown hgr2 (fun e => hgp (Option.some.inj e).symm))
                   have K2 : w2.cell? ⟨w.heap.size, 1, none⟩ = some (.slice (some ⟨g, 0, none⟩) L.drives.length cap) := BK2.out.cell 1
                   have f2 : w2.frozen? ⟨w.heap.size, 1, none⟩ = false := BK2.out.free 1
                   have FIN := Lib.hid (H.out.addDrive h4 hown2 hgr2 hat2)
                   clear hown2 hgr2 hat2))
                go_roundw
                case rel => exact FN.out _ FIN.out
                case measure => simp [intOf]; omega
            · have d2 : decide (j < kd) = false := by simpa using hlj
              obtain rfl : j = kd := by omega
              have HM2 := Lib.hid hm
              have HN2 := Lib.hid hn
              clear hm hn
              go_wp2_with fail
              go_ret
              exact ⟨_, _, _, _, rfl, Nat.le_refl _, HM2.out, HN2.out⟩
end Go.Proofs.Ytiiilimmjoadeaa
