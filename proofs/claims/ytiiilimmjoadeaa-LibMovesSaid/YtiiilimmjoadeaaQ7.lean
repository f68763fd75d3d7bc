/- What kistref08.New does. No condition beyond those that each theorem states. -/
import Derived.Test.YtiiilimmjoadeaaQ6
namespace Go.Proofs.Ytiiilimmjoadeaa
open Go.RowKit

/-- A drive more. -/
theorem RCore.addDrive {own : Nat → Nat} {w w2 : World} {rp g cap : Nat} {cv dv av : Value} {R : RLV} {d : RD} {o : Obj} (h : RCore own w rp cv dv av R) (h4 : R.drives.length < 4)
    (hr : w2.ownsRow 0 105 3 (.slice (some ⟨g, 0, none⟩) (R.drives.length + 1) cap) (R.drives.length + 1) (rdvs R.drives ++ rdVals d)) (hgr : (w.alloc o).grownBy w2 dv.ownBlock) (hat : dv.ownBlock = some g ∨ g = (w.alloc o).heap.size) :
    RStep own w (w2.setCell ⟨rp, 1, none⟩ (.slice (some ⟨g, 0, none⟩) (R.drives.length + 1) cap)) rp R.carts.length (R.drives.length + 1) R.asked.length := by
  have hlp := h.blk.size
  have hcl : ∀ q, dv.ownBlock = some q → q < w.heap.size ∧ own q = 1 ∧ q ≠ rp := fun q hq => by
    obtain ⟨cs, hcs⟩ := own_blk h.rd.1 hq
    exact ⟨hcs.size, h.rd.2 q hq, blk_ne hcs h.blk (by decide)⟩
  let own' : Nat → Nat := fun k => if k < w.heap.size then own k else 1
  have e1 : ∀ k, k < w.heap.size → own' k = own k := fun k hk => if_pos hk
  have e3 : ∀ k, w.heap.size ≤ k → own' k = 1 := fun k h1 => by show (if _ then _ else _) = _; rw [if_neg (by omega)]
  have h1 : RCore own' w rp cv dv av R := h.relab e1
  have hsz2 : w.heap.size ≤ w2.heap.size := by have := hgr.size; rw [World.size_alloc] at this; omega
  have old : ∀ k, k < w.heap.size → dv.ownBlock ≠ some k → k ≠ rp → (w2.setCell ⟨rp, 1, none⟩ (.slice (some ⟨g, 0, none⟩) (R.drives.length + 1) cap)).heap[k]? = w.heap[k]? := fun k hk hne hl =>
    (Below.heap_setCell _ _ _ _ hl).trans ((hgr.block k (by simp; omega) (fun e => hne e.symm)).trans (Below.heap_alloc _ _ _ hk))
  have hbk : Blk w2 rp 102 #[cv, dv, av] := (h1.blk.alloc o).grown hgr (fun e => (hcl _ e).2.2 rfl)
  obtain ⟨cs2, hcs2⟩ := own_blk hr (g := g) rfl
  have hgl : g ≠ rp := blk_ne hcs2 hbk (by decide)
  have hsz3 : (w2.setCell ⟨rp, 1, none⟩ (.slice (some ⟨g, 0, none⟩) (R.drives.length + 1) cap)).heap.size = w2.heap.size := by simp [World.setCell]
  have keepRow : ∀ {t : TypeId} {size n : Nat} {u : Value} {xs : List Value}, 105 ≠ t → t ≠ 102 → OwnRow (fun k => own' k = 1) w t size u n xs → OwnRow (fun k => own' k = 1) (w2.setCell ⟨rp, 1, none⟩ (.slice (some ⟨g, 0, none⟩) (R.drives.length + 1) cap)) t size u n xs := fun h2 h3 hx => by
    refine ⟨own_of_eq hx.1 (fun q hq => ?_), hx.2⟩
    obtain ⟨cd, hcd⟩ := own_blk hx.1 hq
    refine old q hcd.size (fun e => ?_) (blk_ne hcd h1.blk h3)
    obtain ⟨cc, hcc⟩ := own_blk h1.rd.1 e
    exact blk_ne hcc hcd h2 rfl
  refine ⟨own', cv, .slice (some ⟨g, 0, none⟩) (R.drives.length + 1) cap, av, ⟨R.carts, R.drives ++ [d], R.asked⟩, ⟨hbk.store 1 _, (e1 rp hlp).trans h.lab, keepRow (by decide) (by decide) h1.rc, ⟨own_of_eq (w := w2) ?_ (fun q hq => ?_), fun q hq => ?_⟩, keepRow (by decide) (by decide) h1.ra, fun i D hD => ?_, h.few, by simp; omega, fun a ha => by have := h.ask a ha; simp; omega⟩, rfl, by simp, Nat.le_refl _, fun k hk => ?_, ?_⟩
  · rw [rdvs_snoc, List.length_append]; exact hr
  · have e : g = q := Option.some.inj hq
    subst e
    exact Below.heap_setCell _ _ _ _ hgl
  · have e : g = q := Option.some.inj hq
    subst e
    rcases hat with h' | h'
    · exact (e1 _ (hcl _ h').1).trans (hcl _ h').2.1
    · exact e3 _ (by rw [World.size_alloc] at h'; omega)
  · refine (ROwn.owning _ _ _ _).keep _ _ _ (h1.cs i D hD) (by omega) (fun k hk hf => old k hk (fun e => ?_) (fun e => ?_))
    · have := e1 _ (hcl _ e).1
      have := (hcl _ e).2.1
      omega
    · subst e
      have := e1 _ hlp
      have := h.lab
      omega
  · by_cases hk1 : k < w.heap.size
    · exact .inl (by rw [← e1 k hk1]; exact hk)
    · exact .inr (by omega)
  · exact (((Chg.refl (fun k => own k ≠ 0) w).alloc o).grown hgr (fun q hq => .inl (by show own q ≠ 0; rw [(hcl q hq).2.1]; decide))).store (p := ⟨rp, 1, none⟩) (.inl (by show own rp ≠ 0; rw [h.lab]; decide)) _

def RMade (w wx : World) (rp kc kd : Nat) : Prop := ∃ own cv dv av R, RCore own wx rp cv dv av R ∧ R.carts.length = kc ∧ R.drives.length = kd ∧ R.asked.length ≤ 0 ∧ (∀ q, own q ≠ 0 → w.heap.size ≤ q) ∧ Below w.heap.size w wx
theorem RMade.step {w wx w' : World} {rp kc kd : Nat} {own : Nat → Nat} (h0 : ∀ q, own q ≠ 0 → w.heap.size ≤ q) (hb : Below w.heap.size w wx) (h1 : RStep own wx w' rp kc kd 0) : RMade w w' rp kc kd := by
  obtain ⟨o, c, d, a, R, k1, k2, k3, k4, k5, k6⟩ := h1
  exact ⟨o, c, d, a, R, k1, k2, k3, k4, fun q hq => (k5 q hq).elim (h0 q) (Nat.le_trans hb.size), hb.trans (k6.below hb.size h0)⟩

set_option maxHeartbeats 400000 in
theorem rClamp (n most : Int) (w : World) (hm : 0 ≤ most) : Calls Try.prog 55 #[.int .i64 n, .int .i64 most] w fun e w' => e = .returned (.int .i64 (cnt n most : Nat)) ∧ w = w' := by
  have hc : ((cnt n most : Nat) : Int) = max 0 (min n most) := by unfold cnt; omega
  rw [hc]
  by_cases h0 : n < 0
  · go_enter Try.func55, Try.ntmps55
    go_wp2
    go_ret
    exact ⟨int_ret (by omega), rfl⟩
  · by_cases h1 : most < n
    all_goals
      go_enter Try.func55, Try.ntmps55
      go_wp2
      go_ret
      exact ⟨int_ret (by omega), rfl⟩

set_option maxRecDepth 100000 in
set_option maxHeartbeats 4000000 in
theorem rNew (c r d : Int) (w : World) :
    Calls Try.prog 53 #[.int .i64 c, .int .i64 r, .int .i64 d] w fun e w' => ∃ rp, e = .returned (.pointer (some ⟨rp, 0, none⟩)) ∧ w.heap.size ≤ rp ∧ RMade w w' rp (cnt c 32) (cnt d 4) := by
  obtain ⟨i0, hi0, hz0, hz1, hz2⟩ := info_parts rptr_info
  obtain ⟨j0, hj0, hy0, hy1, hy2⟩ := info_parts rdrive_info
  have CL := Lib.hid (fun (n most : Int) (w : World) (hm : 0 ≤ most) => rClamp n most w hm)
  have hkc2 : cnt c 32 ≤ 32 := by unfold cnt; omega
  have hkd2 : cnt d 4 ≤ 4 := by unfold cnt; omega
  have H0 : RMade w (w.alloc (.cells #[.slice none 0 0, .slice none 0 0, .slice none 0 0] 102)) w.heap.size 0 0 :=
    ⟨fun k => if k = w.heap.size then 1 else 0, .slice none 0 0, .slice none 0 0, .slice none 0 0, ⟨[], [], []⟩, ⟨Blk.made _ _ _, if_pos rfl, OwnRow.nil _ _ _ _, OwnRow.nil _ _ _ _, OwnRow.nil _ _ _ _, fun i C hC => by simp at hC, by simp, by simp, by simp⟩, rfl, rfl, by simp, fun q hq => by
      have : q = w.heap.size := Classical.byContradiction fun h => hq (if_neg h)
      omega, (Below.refl _ _).alloc (Nat.le_refl _) _⟩
  have HM0 := Lib.hid H0
  clear H0
  generalize hkc : cnt c 32 = kc at *
  generalize hkd : cnt d 4 = kd at *
  have HKC := Lib.hid hkc
  have HKD := Lib.hid hkd
  clear hkc hkd
  go_enter Try.func53, Try.ntmps53
  go_wp2_with fail
  go_loopw [8] (fun i wx => ∃ k : Nat, k ≤ kc ∧ i = .int .i64 k ∧ RMade w wx w.heap.size k 0) (fun i _ => kc - (intOf i).toNat)
  case atStart => exact ⟨0, Nat.zero_le _, rfl, HM0.out⟩
  case round =>
    obtain ⟨k, hk, rfl, hm⟩ := hrel
    obtain ⟨wo, rfl⟩ : ∃ wo : World, wo = wr := ⟨_, rfl⟩
    by_cases hlt : k < kc
    · have d1 : decide (k < kc) = true := by simpa using hlt
      obtain ⟨own, cv, dv, av, R, h, hlen, hdr, has, hq, hB⟩ := hm
      have H := Lib.hid h
      have c0 : wo.cell? ⟨w.heap.size, 0, none⟩ = some cv := h.blk.cell 0
      have hpz := h.blk.size
      have hcl : ∀ q, cv.ownBlock = some q → q < wo.heap.size ∧ q ≠ w.heap.size := fun q hq => by
        obtain ⟨cs, hcs⟩ := own_blk h.rc.1 hq
        exact ⟨hcs.size, blk_ne hcs h.blk (by decide)⟩
      have HCL := Lib.hid hcl
      have HRC := Lib.hid h.rc.1
      have h32 : R.carts.length < 32 := by omega
      have fin : ∀ w3, RStep own wo w3 w.heap.size (R.carts.length + 1) R.drives.length R.asked.length → ∃ k' : Nat, k' ≤ kc ∧ Value.int .i64 ((k : Int) + 1) = .int .i64 k' ∧ RMade w w3 w.heap.size k' 0 := fun w3 hs =>
        ⟨k + 1, hlt, by go_num, RMade.step hq hB (by rw [hlen, hdr] at hs; exact hs.le has)⟩
      have FN := Lib.hid fin
      clear fin hcl hq hB hlen hdr has
      rcases h.rc.form with ⟨rfl, h0⟩ | ⟨g, cap, rfl, hgc, hgm, _, hg0⟩
      · clear h h0
        go_wp2_with (go_at_call 55; refine (CL.out c 32 _ (by decide)).mono ?_; rintro e w1 ⟨rfl, rfl⟩; rw [HKC.out])
        go_region_law (first
          | (refine step_append_form _ rfl (.tmp 22) (.tmp 25) 98 rfl 0 40 i0 _ 1 8 Try.underlying98 hi0 hz0 hz1 hz2 rfl (by omega) _ R.carts.length (ptrs R.carts) rfl (by exact own_of_eq HRC.out (fun q hq => by cases hq)) (some ⟨w1.heap.size, 0, none⟩) 1 1 [.pointer (some ⟨p, 0, none⟩)] rfl rfl (fun e => by cases e) (by exact src_new _ _ _ _) (by intro u hu; simp only [List.mem_cons, List.not_mem_nil, or_false] at hu; subst hu; rfl) (by omega) (by simp only [maxLen]; omega) (by omega) (Nat.zero_le _) ?_
             intro g2 cap2 w2 hown2 hgr2 hat2 hlt2
             have BK2 := Lib.hid (((H.out.blk.below HB1.out hpz).alloc _).grown hgr2 (fun e => by cases e))
             have K2 : w2.cell? ⟨w.heap.size, 0, none⟩ = some (.slice none 0 0) := BK2.out.cell 0
             have f2 : w2.frozen? ⟨w.heap.size, 0, none⟩ = false := BK2.out.free 0
             have FIN := Lib.hid (H.out.add HC1.out HB1.out h32 hown2 hgr2 hat2)
             clear hown2 hgr2 hat2)
          | (go_simp; go_at_call 21
             refine (refNew r _).mono ?_
             rintro e w1 ⟨p, rfl, hp1, hC1, hb1⟩
             have K1 : w1.cell? ⟨w.heap.size, 0, none⟩ = some (.slice none 0 0) := (hb1.cell (p := ⟨w.heap.size, 0, none⟩) hpz).trans c0
             have HC1 := Lib.hid hC1
             have HB1 := Lib.hid (show Below wo.heap.size wo w1 from below_of_drewN hb1)
             have hy1 : wo.heap.size ≤ w1.heap.size := hb1.size
             have hpw1 : w.heap.size < w1.heap.size := by omega
             clear hC1 hb1))
        all_goals
          go_wp2_with fail
          go_roundw
          case rel => exact FN.out _ FIN.out
          case measure => simp [intOf]; omega
      · have hgp : w.heap.size ≠ g := Ne.symm (HCL.out g rfl).2
        clear h
        go_wp2_with (go_at_call 55; refine (CL.out c 32 _ (by decide)).mono ?_; rintro e w1 ⟨rfl, rfl⟩; rw [HKC.out])
        go_region_law (first
          | (refine step_append_form _ rfl (.tmp 22) (.tmp 25) 98 rfl 0 40 i0 _ 1 8 Try.underlying98 hi0 hz0 hz1 hz2 rfl (by omega) _ R.carts.length (ptrs R.carts) rfl (by exact own_of_eq HRC.out (fun q hq => (Below.heap_alloc _ _ _ (by have := (HCL.out q hq).1; omega)).trans (HB1.out.block q (HCL.out q hq).1))) (some ⟨w1.heap.size, 0, none⟩) 1 1 [.pointer (some ⟨p, 0, none⟩)] rfl rfl (fun e => by cases e) (by exact src_new _ _ _ _) (by intro u hu; simp only [List.mem_cons, List.not_mem_nil, or_false] at hu; subst hu; rfl) (by omega) (by simp only [maxLen]; omega) (by omega) (Nat.zero_le _) ?_
             intro g2 cap2 w2 hown2 hgr2 hat2 hlt2
             have BK2 := Lib.hid (((H.out.blk.below HB1.out hpz).alloc _).grown hgr2 (fun e => hgp (Option.some.inj e).symm))
             have K2 : w2.cell? ⟨w.heap.size, 0, none⟩ = some (.slice (some ⟨g, 0, none⟩) R.carts.length cap) := BK2.out.cell 0
             have f2 : w2.frozen? ⟨w.heap.size, 0, none⟩ = false := BK2.out.free 0
             have FIN := Lib.hid (H.out.add HC1.out HB1.out h32 hown2 hgr2 hat2)
             clear hown2 hgr2 hat2)
          | (go_simp; go_at_call 21
             refine (refNew r _).mono ?_
             rintro e w1 ⟨p, rfl, hp1, hC1, hb1⟩
             have K1 : w1.cell? ⟨w.heap.size, 0, none⟩ = some (.slice (some ⟨g, 0, none⟩) R.carts.length cap) := (hb1.cell (p := ⟨w.heap.size, 0, none⟩) hpz).trans c0
             have HC1 := Lib.hid hC1
             have HB1 := Lib.hid (show Below wo.heap.size wo w1 from below_of_drewN hb1)
             have hy1 : wo.heap.size ≤ w1.heap.size := hb1.size
             have hpw1 : w.heap.size < w1.heap.size := by omega
             clear hC1 hb1))
        all_goals
          go_wp2_with fail
          go_roundw
          case rel => exact FN.out _ FIN.out
          case measure => simp [intOf]; omega
    · have d1 : decide (k < kc) = false := by simpa using hlt
      obtain rfl : k = kc := by omega
      have HM := Lib.hid hm
      clear hm
      go_wp2_with (go_at_call 55; refine (CL.out c 32 _ (by decide)).mono ?_; rintro e w1 ⟨rfl, rfl⟩; rw [HKC.out])
      go_loopw [9] (fun i wx => ∃ j : Nat, j ≤ kd ∧ i = .int .i64 j ∧ RMade w wx w.heap.size k j) (fun i _ => kd - (intOf i).toNat)
      case atStart => exact ⟨0, Nat.zero_le _, rfl, HM.out⟩
      case round =>
        obtain ⟨j, hj, rfl, hm⟩ := hrel
        obtain ⟨wo, rfl⟩ : ∃ wo : World, wo = wr := ⟨_, rfl⟩
        by_cases hlj : j < kd
        · have d2 : decide (j < kd) = true := by simpa using hlj
          obtain ⟨own, cv, dv, av, R, h, hlen, hdr, has, hq, hB⟩ := hm
          have H := Lib.hid h
          have c0 : wo.cell? ⟨w.heap.size, 1, none⟩ = some dv := h.blk.cell 1
          have hpz := h.blk.size
          have hcl : ∀ q, dv.ownBlock = some q → q < wo.heap.size ∧ q ≠ w.heap.size := fun q hq => by
            obtain ⟨cs, hcs⟩ := own_blk h.rd.1 hq
            exact ⟨hcs.size, blk_ne hcs h.blk (by decide)⟩
          have HCL := Lib.hid hcl
          have HRD := Lib.hid h.rd.1
          have h4 : R.drives.length < 4 := by omega
          have fin : ∀ w3, RStep own wo w3 w.heap.size R.carts.length (R.drives.length + 1) R.asked.length → ∃ j' : Nat, j' ≤ kd ∧ Value.int .i64 ((j : Int) + 1) = .int .i64 j' ∧ RMade w w3 w.heap.size k j' := fun w3 hs =>
            ⟨j + 1, hlj, by go_num, RMade.step hq hB (by rw [hlen, hdr] at hs; exact hs.le has)⟩
          have FN := Lib.hid fin
          clear fin hcl hq hB hlen hdr has
          rcases h.rd.form with ⟨rfl, h0⟩ | ⟨g, cap, rfl, hgc, hgm, _, hg0⟩
          · clear h h0
            go_wp2_with (first
              | (go_at_call 55; refine (CL.out d 4 _ (by decide)).mono ?_; rintro e w1 ⟨rfl, rfl⟩; rw [HKD.out])
              | (at_builtin
                 refine wpList_append_form _ rfl (.tmp 39) (.tmp 41) 99 rfl 0 105 j0 _ 3 24 Try.underlying99 hj0 hy0 hy1 hy2 rfl (by omega) _ R.drives.length (rdvs R.drives) rfl (by exact own_of_eq HRD.out (fun q hq => by cases hq)) (some ⟨wo.heap.size, 0, none⟩) 1 1 (rdVals ⟨-1, 0, true⟩) rfl rfl (fun e => by cases e) (by exact src_new _ _ _ _) (by intro u hu; simp only [rdVals, List.mem_cons, List.not_mem_nil, or_false] at hu; rcases hu with rfl | rfl | rfl <;> rfl) (by omega) (by simp only [maxLen]; omega) (by omega) (Nat.zero_le _) ?_
                 intro g2 cap2 w2 hown2 hgr2 hat2 hlt2
                 have BK2 := Lib.hid ((H.out.blk.alloc _).grown hgr2 (fun e => by cases e))
                 have K2 : w2.cell? ⟨w.heap.size, 1, none⟩ = some (.slice none 0 0) := BK2.out.cell 1
                 have f2 : w2.frozen? ⟨w.heap.size, 1, none⟩ = false := BK2.out.free 1
                 have FIN := Lib.hid (H.out.addDrive h4 hown2 hgr2 hat2)
                 clear hown2 hgr2 hat2))
            go_roundw
            case rel => exact FN.out _ FIN.out
            case measure => simp [intOf]; omega
          · have hgp : w.heap.size ≠ g := Ne.symm (HCL.out g rfl).2
            clear h
            go_wp2_with (first
              | (go_at_call 55; refine (CL.out d 4 _ (by decide)).mono ?_; rintro e w1 ⟨rfl, rfl⟩; rw [HKD.out])
              | (at_builtin
                 refine wpList_append_form _ rfl (.tmp 39) (.tmp 41) 99 rfl 0 105 j0 _ 3 24 Try.underlying99 hj0 hy0 hy1 hy2 rfl (by omega) _ R.drives.length (rdvs R.drives) rfl (by exact own_of_eq HRD.out (fun q hq => (Below.heap_alloc _ _ _ (HCL.out q hq).1))) (some ⟨wo.heap.size, 0, none⟩) 1 1 (rdVals ⟨-1, 0, true⟩) rfl rfl (fun e => by cases e) (by exact src_new _ _ _ _) (by intro u hu; simp only [rdVals, List.mem_cons, List.not_mem_nil, or_false] at hu; rcases hu with rfl | rfl | rfl <;> rfl) (by omega) (by simp only [maxLen]; omega) (by omega) (Nat.zero_le _) ?_
                 intro g2 cap2 w2 hown2 hgr2 hat2 hlt2
                 have BK2 := Lib.hid ((H.out.blk.alloc _).grown hgr2 (fun e => hgp (Option.some.inj e).symm))
                 have K2 : w2.cell? ⟨w.heap.size, 1, none⟩ = some (.slice (some ⟨g, 0, none⟩) R.drives.length cap) := BK2.out.cell 1
                 have f2 : w2.frozen? ⟨w.heap.size, 1, none⟩ = false := BK2.out.free 1
                 have FIN := Lib.hid (H.out.addDrive h4 hown2 hgr2 hat2)
                 clear hown2 hgr2 hat2))
            go_roundw
            case rel => exact FN.out _ FIN.out
            case measure => simp [intOf]; omega
        · have d2 : decide (j < kd) = false := by simpa using hlj
          obtain rfl : j = kd := by omega
          have HM2 := Lib.hid hm
          clear hm
          go_wp2_with (go_at_call 55; refine (CL.out d 4 _ (by decide)).mono ?_; rintro e w1 ⟨rfl, rfl⟩; rw [HKD.out])
          go_ret
          exact ⟨_, rfl, Nat.le_refl _, HM2.out⟩
end Go.Proofs.Ytiiilimmjoadeaa
