/- The document's library: Add and asked, walked. No condition beyond those that each theorem states. -/
import Derived.Test.YtiiilimmjoadeaaQ3
import Derived.Handy
namespace Go.Proofs.Ytiiilimmjoadeaa
open Go.RowKit

def IntBoolEnd (e : Ending) : Prop := ∃ (a : Int) (b : Bool), e = .returned (.tuple #[.int .i64 a, .bool b])
set_option maxRecDepth 100000 in
set_option maxHeartbeats 2000000 in
theorem rAdd (own : Nat → Nat) (w : World) (rp : Nat) (cv dv av : Value) (R : RLV) (m : Int) (h : RCore own w rp cv dv av R) :
    Calls Try.prog 58 #[.pointer (some ⟨rp, 0, none⟩), .int .i64 m] w fun e w' => IntBoolEnd e ∧ RStep own w w' rp (if R.carts.length < 32 then R.carts.length + 1 else R.carts.length) R.drives.length R.asked.length := by
  have H := Lib.hid h
  have c0 : w.cell? ⟨rp, 0, none⟩ = some cv := h.blk.cell 0
  have hpz := h.blk.size
  obtain ⟨i0, hi0, hz0, hz1, hz2⟩ := info_parts rptr_info
  have hcl : ∀ q, cv.ownBlock = some q → q < w.heap.size ∧ q ≠ rp := fun q hq => by
    obtain ⟨cs, hcs⟩ := own_blk h.rc.1 hq
    exact ⟨hcs.size, blk_ne hcs h.blk (by decide)⟩
  have HCL := Lib.hid hcl
  have HRC := Lib.hid h.rc.1
  clear hcl
  by_cases h32 : R.carts.length < 32
  · rw [if_pos h32]
    rcases h.rc.form with ⟨rfl, h0⟩ | ⟨g, cap, rfl, hgc, hgm, _, hg0⟩
    · clear h h0
      go_enter Try.func58, Try.ntmps58
      go_wp2_with fail
      go_region_law (first
        | (refine step_append_form _ rfl (.tmp 16) (.tmp 19) 98 rfl 0 40 i0 _ 1 8 Try.underlying98 hi0 hz0 hz1 hz2 rfl (by omega) _ R.carts.length (ptrs R.carts) rfl (by exact own_of_eq HRC.out (fun q hq => by cases hq)) (some ⟨w1.heap.size, 0, none⟩) 1 1 [.pointer (some ⟨p, 0, none⟩)] rfl rfl (fun e => by cases e) (by exact src_new _ _ _ _) (by intro u hu; simp only [List.mem_cons, List.not_mem_nil, or_false] at hu; subst hu; rfl) (by omega) (by simp only [maxLen]; omega) (by omega) (Nat.zero_le _) ?_
           intro g2 cap2 w2 hown2 hgr2 hat2 hlt2
           have BK2 := Lib.hid (((H.out.blk.below HB1.out hpz).alloc _).grown hgr2 (fun e => by cases e))
           have K2 : w2.cell? ⟨rp, 0, none⟩ = some (.slice none 0 0) := BK2.out.cell 0
           have f2 : w2.frozen? ⟨rp, 0, none⟩ = false := BK2.out.free 0
           have FIN := Lib.hid (H.out.add HC1.out HB1.out h32 hown2 hgr2 hat2)
           clear hown2 hgr2 hat2)
        | (go_simp; go_at_call 21
           refine (refNew m _).mono ?_
           rintro e w1 ⟨p, rfl, hp1, hC1, hb1⟩
           have K1 : w1.cell? ⟨rp, 0, none⟩ = some (.slice none 0 0) := (hb1.cell (p := ⟨rp, 0, none⟩) hpz).trans c0
           have HC1 := Lib.hid hC1
           have HB1 := Lib.hid (show Below w.heap.size w w1 from below_of_drewN hb1)
           have hy1 : w.heap.size ≤ w1.heap.size := hb1.size
           have hpw1 : rp < w1.heap.size := by omega
           clear hC1 hb1))
      all_goals
        go_wp2_with fail
        go_ret2
        exact ⟨⟨_, _, rfl⟩, FIN.out⟩
    · have hgp : rp ≠ g := Ne.symm (HCL.out g rfl).2
      clear h
      go_enter Try.func58, Try.ntmps58
      go_wp2_with fail
      go_region_law (first
        | (refine step_append_form _ rfl (.tmp 16) (.tmp 19) 98 rfl 0 40 i0 _ 1 8 Try.underlying98 hi0 hz0 hz1 hz2 rfl (by omega) _ R.carts.length (ptrs R.carts) rfl (by exact own_of_eq HRC.out (fun q hq => (Below.heap_alloc _ _ _ (by have := (HCL.out q hq).1; omega)).trans (HB1.out.block q (HCL.out q hq).1))) (some ⟨w1.heap.size, 0, none⟩) 1 1 [.pointer (some ⟨p, 0, none⟩)] rfl rfl (fun e => by cases e) (by exact src_new _ _ _ _) (by intro u hu; simp only [List.mem_cons, List.not_mem_nil, or_false] at hu; subst hu; rfl) (by omega) (by simp only [maxLen]; omega) (by omega) (Nat.zero_le _) ?_
           intro g2 cap2 w2 hown2 hgr2 hat2 hlt2
           have BK2 := Lib.hid (((H.out.blk.below HB1.out hpz).alloc _).grown hgr2 (fun e => hgp (Option.some.inj e).symm))
           have K2 : w2.cell? ⟨rp, 0, none⟩ = some (.slice (some ⟨g, 0, none⟩) R.carts.length cap) := BK2.out.cell 0
           have f2 : w2.frozen? ⟨rp, 0, none⟩ = false := BK2.out.free 0
           have FIN := Lib.hid (H.out.add HC1.out HB1.out h32 hown2 hgr2 hat2)
           clear hown2 hgr2 hat2)
        | (go_simp; go_at_call 21
           refine (refNew m _).mono ?_
           rintro e w1 ⟨p, rfl, hp1, hC1, hb1⟩
           have K1 : w1.cell? ⟨rp, 0, none⟩ = some (.slice (some ⟨g, 0, none⟩) R.carts.length cap) := (hb1.cell (p := ⟨rp, 0, none⟩) hpz).trans c0
           have HC1 := Lib.hid hC1
           have HB1 := Lib.hid (show Below w.heap.size w w1 from below_of_drewN hb1)
           have hy1 : w.heap.size ≤ w1.heap.size := hb1.size
           have hpw1 : rp < w1.heap.size := by omega
           clear hC1 hb1))
      all_goals
        go_wp2_with fail
        go_ret2
        exact ⟨⟨_, _, rfl⟩, FIN.out⟩
  · rw [if_neg h32]
    have h32' : 32 ≤ R.carts.length := by omega
    rcases h.rc.form with ⟨_, h0⟩ | ⟨g, cap, rfl, _, _, _, _⟩
    · omega
    clear h
    go_enter Try.func58, Try.ntmps58
    go_wp2_with fail
    go_ret2
    exact ⟨⟨_, _, rfl⟩, RStep.below H.out (Below.refl _ _)⟩

theorem all_snoc {zs : List Nat} {a n : Nat} (hz : ∀ x ∈ zs, x < n) (ha : a < n) : ∀ x ∈ zs ++ [a], x < n := fun x hx =>
  (List.mem_append.1 hx).elim (hz x) (fun h => by rw [List.mem_singleton.1 h]; exact ha)
theorem asked_frame {w wo w2 : World} {t : TypeId} {size n : Nat} {v : Value} {xs : List Value} {o : Obj} (h : wo.ownsRow w.heap.size t size v n xs) (hb : Below w.heap.size w wo) (hg : (wo.alloc o).grownBy w2 v.ownBlock) : Below w.heap.size w w2 :=
  (hb.alloc hb.size o).grown hg (by rw [World.size_alloc]; have := hb.size; omega) (fun q hq => (h.lt q hq).1)
set_option maxRecDepth 100000 in
set_option maxHeartbeats 2000000 in
theorem rAsked (own : Nat → Nat) (w : World) (rp : Nat) (cv dv av : Value) (R : RLV) (d : Nat) (h : RCore own w rp cv dv av R) (hd : d < R.drives.length) (hna : R.asked.length ≤ 100000) :
    Calls Try.prog 66 #[.pointer (some ⟨rp, 0, none⟩), .int .i64 d] w fun e w' => (∃ v, e = .returned v) ∧ RStep own w w' rp R.carts.length R.drives.length (R.asked.length + 1) := by
  have c0 : w.cell? ⟨rp, 2, none⟩ = some av := h.blk.cell 2
  have hfa := h.ra.form
  have H := Lib.hid h
  have hpz := h.blk.size
  have hask := h.ask
  have HK := Lib.hid hask
  obtain ⟨i0, hi0, hz0, hz1, hz2⟩ := info_parts int_info
  clear h hask
  go_enter Try.func66, Try.ntmps66
  go_wp2_with fail
  go_loopw [4, 5] (fun v i wx => ∃ (k : Nat) (zs : List Nat), k ≤ R.asked.length ∧ i = .int .i64 k ∧ wx.ownsRow w.heap.size 3 1 v zs.length (askV zs) ∧ zs.length ≤ k ∧ (∀ a ∈ zs, a < R.drives.length) ∧ Below w.heap.size w wx) (fun _ i _ => R.asked.length - (intOf i).toNat)
  case atStart => exact ⟨0, [], by omega, rfl, own_made _ _ 1 rfl (Nat.le_refl _), Nat.le_refl _, by simp, (Below.refl _ _).alloc (Nat.le_refl _) _⟩
  case round =>
    obtain ⟨k, zs, hk, rfl, ho, hzk, hz, hb⟩ := hrel
    obtain ⟨wo, rfl⟩ : ∃ wo : World, wo = wr := ⟨_, rfl⟩
    rename_i v _
    have hwz := hb.size
    have c1 : wo.cell? ⟨rp, 2, none⟩ = some av := (hb.cell (p := ⟨rp, 2, none⟩) hpz).trans c0
    have f1 : wo.frozen? ⟨rp, 2, none⟩ = false := ((H.out.below hb).blk).free 2
    have HO := Lib.hid ho
    have HZ := Lib.hid hz
    have HB := Lib.hid hb
    have hpo : rp < wo.heap.size := by omega
    clear ho hz hb
    rcases hfa with ⟨rfl, h0⟩ | ⟨ga, capa, rfl, _, _, _, hgs⟩
    · have hk0 : k = 0 := by omega
      subst hk0
      have hz0' : zs = [] := List.eq_nil_of_length_eq_zero (by omega)
      subst hz0'
      have H0 := Lib.hid h0
      clear h0
      go_wp2_with (
        (at_builtin
         refine wpList_append_form _ rfl (.tmp 36) (.tmp 38) 100 rfl w.heap.size 3 i0 _ 1 8 Try.underlying100 hi0 hz0 hz1 hz2 rfl (by omega) _ 0 (askV []) rfl (by exact HO.out.alloc _) (some ⟨wo.heap.size, 0, none⟩) 1 1 [.int .i64 (d : Int)] rfl rfl (fun e => by cases e) (by exact src_new _ _ _ _) (by intro u hu; simp only [List.mem_cons, List.not_mem_nil, or_false] at hu; subst hu; rfl) (by omega) (by simp only [maxLen]; omega) (by omega) (by simp only [World.size_alloc]; omega) ?_
         intro g2 cap2 w2 hown2 hgr2 hat2 hlt2
         have FR := Lib.hid (asked_frame HO.out HB.out hgr2)
         have f2 : w2.frozen? ⟨rp, 2, none⟩ = false := (H.out.below FR.out).blk.free 2
         have k2 : w2.cell? ⟨rp, 2, none⟩ = some (.slice none 0 0) := (H.out.below FR.out).blk.cell 2
         have FIN := Lib.hid (H.out.setAsk (zs := [d]) FR.out hown2 (by simpa using hd))
         clear hown2 hgr2 hat2))
      go_returns
      exact ⟨⟨_, rfl⟩, FIN.out.le (by simp)⟩
    · have k1 : ∀ (i a : Nat), R.asked[i]? = some a → wo.cell? ⟨ga, i, none⟩ = some (.int .i64 (a : Int)) := fun i a ha => (HB.out.cell (p := ⟨ga, i, none⟩) hgs).trans (H.out.ask_cell rfl ha)
      have hgo : ga < wo.heap.size := by omega
      by_cases hlt : k < R.asked.length
      · obtain ⟨a, ha⟩ : ∃ a, R.asked[k]? = some a := ⟨_, List.getElem?_eq_getElem hlt⟩
        have had : a < R.drives.length := HK.out a (List.mem_of_getElem? ha)
        have ka : wo.cell? ⟨ga, k, none⟩ = some (.int .i64 (a : Int)) := k1 k a ha
        have d1 : decide (k < R.asked.length) = true := by simpa using hlt
        clear k1 ha
        by_cases hne : a = d
        · subst hne
          go_wp2_with fail
          go_roundw
          case rel => exact ⟨k + 1, zs, hlt, by go_num, HO.out, by omega, HZ.out, HB.out⟩
          case measure => simp [intOf]; omega
        · have d2 : ((a : Int) != (d : Int)) = true := by simp; omega
          go_wp2_with (
            (at_builtin
             refine wpList_append_form _ rfl (.tmp 25) (.tmp 33) 100 rfl w.heap.size 3 i0 _ 1 8 Try.underlying100 hi0 hz0 hz1 hz2 rfl (by omega) _ zs.length (askV zs) rfl (by exact HO.out.alloc _) (some ⟨wo.heap.size, 0, none⟩) 1 1 [.int .i64 (a : Int)] rfl rfl (fun e => by cases e) (by exact src_new _ _ _ _) (by intro u hu; simp only [List.mem_cons, List.not_mem_nil, or_false] at hu; subst hu; rfl) (by omega) (by simp only [maxLen]; omega) (by omega) (by simp only [World.size_alloc]; omega) ?_
             intro g2 cap2 w2 hown2 hgr2 hat2 hlt2
             have FR := Lib.hid (asked_frame HO.out HB.out hgr2)
             have HO2 := Lib.hid hown2
             clear hown2 hgr2 hat2))
          go_roundw
          case rel => exact ⟨k + 1, zs ++ [a], hlt, by go_num, by rw [askV_snoc, List.length_append]; exact HO2.out, by simp; omega, all_snoc HZ.out had, FR.out⟩
          case measure => simp [intOf]; omega
      · have d1 : decide (k < R.asked.length) = false := by simpa using hlt
        clear k1
        go_wp2_with (
          (at_builtin
           refine wpList_append_form _ rfl (.tmp 36) (.tmp 38) 100 rfl w.heap.size 3 i0 _ 1 8 Try.underlying100 hi0 hz0 hz1 hz2 rfl (by omega) _ zs.length (askV zs) rfl (by exact HO.out.alloc _) (some ⟨wo.heap.size, 0, none⟩) 1 1 [.int .i64 (d : Int)] rfl rfl (fun e => by cases e) (by exact src_new _ _ _ _) (by intro u hu; simp only [List.mem_cons, List.not_mem_nil, or_false] at hu; subst hu; rfl) (by omega) (by simp only [maxLen]; omega) (by omega) (by simp only [World.size_alloc]; omega) ?_
           intro g2 cap2 w2 hown2 hgr2 hat2 hlt2
           have FR := Lib.hid (asked_frame HO.out HB.out hgr2)
           have f2 : w2.frozen? ⟨rp, 2, none⟩ = false := (H.out.below FR.out).blk.free 2
           have k2 : w2.cell? ⟨rp, 2, none⟩ = some (.slice (some ⟨ga, 0, none⟩) R.asked.length capa) := (H.out.below FR.out).blk.cell 2
           have FIN := Lib.hid (H.out.setAsk (zs := zs ++ [d]) FR.out (by rw [askV_snoc, List.length_append]; exact hown2) (all_snoc HZ.out hd))
           clear hown2 hgr2 hat2))
        go_returns
        exact ⟨⟨_, rfl⟩, FIN.out.le (by simp; omega)⟩
end Go.Proofs.Ytiiilimmjoadeaa
