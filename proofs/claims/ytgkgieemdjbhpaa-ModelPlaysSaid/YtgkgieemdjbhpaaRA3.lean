/- What the document's Put does to its model: the walk. No condition beyond those that each theorem states. -/
import Derived.Test.YtgkgieemdjbhpaaRA2
import Derived.Deep.DeepCutAuto
import Derived.Deep.CutBlock
namespace Go.Proofs.Ytgkgieemdjbhpaa
open Go.RowKit Go.Maps

section
variable {w w5 : World} {t : TypeId} {size : Nat}
theorem drew_of {B : Nat} {w w' : World} (h : Below B w w') : Below B w w'.drew := ⟨h.os, h.tape, h.output, h.size, h.block⟩
theorem below_a1 (w : World) (o : Obj) : Below w.heap.size w (w.alloc o).drew := drew_of ((Below.refl _ w).alloc (Nat.le_refl _) o)
theorem below_a2 (w : World) (o p : Obj) : Below w.heap.size w ((w.alloc o).alloc p).drew := drew_of (((Below.refl _ w).alloc (Nat.le_refl _) o).alloc (by simp) p)
theorem own_d1 (w : World) (t : TypeId) (size : Nat) : (w.alloc (.cells #[] t)).drew.ownsRow w.heap.size t size (.slice (some ⟨w.heap.size, 0, none⟩) 0 0) 0 [] := own_made w t size rfl (Nat.le_refl _)
theorem own_d2 (w : World) (t : TypeId) (size : Nat) (o : Obj) : ((w.alloc (.cells #[] t)).alloc o).drew.ownsRow w.heap.size t size (.slice (some ⟨w.heap.size, 0, none⟩) 0 0) 0 [] := (own_made w t size rfl (Nat.le_refl _)).alloc o
theorem own_d3 (w : World) (t : TypeId) (size : Nat) (o : Obj) : ((w.alloc o).alloc (.cells #[] t)).drew.ownsRow w.heap.size t size (.slice (some ⟨w.heap.size + 1, 0, none⟩) 0 0) 0 [] := own_made (w.alloc o) t size (by simp) (by omega)
theorem grown_d1 {o : Obj} (h : (w.alloc o).drew.grownBy w5 (some w.heap.size)) : Below w.heap.size w w5 := (below_a1 w o).grown h (by show w.heap.size ≤ (w.alloc o).heap.size; simp) (fun y hy => by injection hy; omega)
theorem grown_d2 {o p : Obj} (h : ((w.alloc o).alloc p).drew.grownBy w5 (some w.heap.size)) : Below w.heap.size w w5 := (below_a2 w o p).grown h (by show w.heap.size ≤ ((w.alloc o).alloc p).heap.size; simp; omega) (fun y hy => by injection hy; omega)
theorem grown_d3 {o p : Obj} (h : ((w.alloc o).alloc p).drew.grownBy w5 (some (w.heap.size + 1))) : Below w.heap.size w w5 := (below_a2 w o p).grown h (by show w.heap.size ≤ ((w.alloc o).alloc p).heap.size; simp; omega) (fun y hy => by injection hy; omega)
theorem src_kept {W W' : World} {g off m : Nat} {news : List Value} (h : SrcAt W (some ⟨g, off, none⟩) m news) (he : W'.heap[g]? = W.heap[g]?) : SrcAt W' (some ⟨g, off, none⟩) m news := by
  rcases h with h | ⟨b, o, hA, hc⟩
  · exact .inl h
  · cases hA
    exact .inr ⟨g, off, rfl, fun j u hu => (World.cell?_of_block (w := W) (a := ⟨g, off + j, none⟩) he).trans (hc j u hu)⟩
theorem src_k2 {cs : List Value} {m : Nat} (h : ((w.alloc (.cells #[] t)).alloc (.cells cs.toArray t)).drew.grownBy w5 (some w.heap.size)) : SrcAt w5 (some ⟨w.heap.size + 1, 0, none⟩) m cs := by
  have e : (w.alloc (.cells #[] t)).heap.size = w.heap.size + 1 := by simp
  have h1 := src_new (w.alloc (.cells #[] t)) cs t m
  rw [e] at h1
  exact src_kept h1 (h.block _ (by show w.heap.size + 1 < ((w.alloc _).alloc _).heap.size; simp) (by simp))
theorem src_k3 {cs : List Value} {m : Nat} (h : ((w.alloc (.cells cs.toArray t)).alloc (.cells #[] t)).drew.grownBy w5 (some (w.heap.size + 1))) : SrcAt w5 (some ⟨w.heap.size, 0, none⟩) m cs :=
  src_kept (src_new w cs t m) ((h.block _ (by show w.heap.size < ((w.alloc _).alloc _).heap.size; simp; omega) (by simp)).trans (Below.heap_alloc (w.alloc (.cells cs.toArray t)) _ _ (by simp)))
end
theorem src_below {w w' : World} {B n : Nat} {A : Option Addr} {news : List Value} (h : SrcAt w A n news) (hA : ∀ b off, A = some ⟨b, off, none⟩ → b < B) (hb : Below B w w') : SrcAt w' A n news := by
  rcases h with h | ⟨b, o, hA', hc⟩
  · exact .inl h
  · exact .inr ⟨b, o, hA', fun j u hu => (hb.cell (p := ⟨b, o + j, none⟩) (hA b o hA')).trans (hc j u hu)⟩
theorem blobVs_take {R : MV} (k : Nat) : ∀ q u, (blobVs (R.take k))[q]? = some u → (blobVs R)[0 + q]? = some u := by
  intro q u hu
  rw [Nat.zero_add]
  have e : blobVs R = blobVs (R.take k) ++ blobVs (R.drop k) := by rw [← blobVs_append, List.take_append_drop]
  rw [e, List.getElem?_append_left (List.getElem?_eq_some_iff.1 hu).1]
  exact hu
theorem blobVs_drop {R : MV} {k : Nat} (hk : k ≤ R.length) : ∀ q u, (blobVs (R.drop k))[q]? = some u → (blobVs R)[k * 2 + q]? = some u := by
  intro q u hu
  have e : blobVs R = blobVs (R.take k) ++ blobVs (R.drop k) := by rw [← blobVs_append, List.take_append_drop]
  have hl : (blobVs (R.take k)).length = k * 2 := by rw [blobVs_len, List.length_take, Nat.min_eq_left hk]
  rw [e, List.getElem?_append_right (by omega), hl, show k * 2 + q - k * 2 = q by omega]
  exact hu
theorem mem_putE {R S : MV} (hp : R.Perm S) (key data : List UInt8) : putE R key data = putE S key data := by
  have h : hasM R key = hasM S key := by
    cases h1 : hasM R key with
    | true => exact (hasM_mem.2 ((hp.map Prod.fst).subset (hasM_mem.1 h1))).symm
    | false =>
      cases h2 : hasM S key with
      | false => rfl
      | true =>
        rw [hasM_mem.2 ((hp.symm.map Prod.fst).subset (hasM_mem.1 h2))] at h1
        cases h1
  unfold putE
  rw [h]
theorem r_close {lo r N c7 : Nat} {B7 : Option Addr} {w w1 w7 : World} {u0 : Value} {R' : MV} (_hlo : lo ≤ w.heap.size) (hge : lo ≤ r) (hlt : r < w.heap.size) (B1 : Below w.heap.size w w1) (BK : Blk w1 r 28 #[u0]) (C7 : Below w1.heap.size w1 w7)
    (O7 : w7.ownsRow w1.heap.size 62 2 (.slice B7 N c7) N (blobVs R')) (hN : N = R'.length) :
    RAt lo (w7.setCell ⟨r, 0, none⟩ (.slice B7 N c7)) r R' ∧ w.grownBy (w7.setCell ⟨r, 0, none⟩ (.slice B7 N c7)) (some r) := by
  subst hN
  have hz := B1.size
  have hz7 := C7.size
  refine ⟨⟨hge, _, c7, ?_, own_of_eq (own_base O7 (by omega)) (fun q hq => Below.heap_setCell _ _ _ _ (by have := (O7.lt q hq).1; show q ≠ r; omega))⟩, ?_⟩
  · have h1 := (BK.below C7 (by omega)).store 0 (.slice B7 R'.length c7)
    simpa using h1
  · refine ⟨C7.os.trans B1.os, C7.tape.trans B1.tape, C7.output.trans B1.output, by simp [World.setCell]; omega, fun k hk hne => ?_⟩
    have hkr : k ≠ r := fun e => hne (by rw [e])
    exact (Below.heap_setCell _ _ _ _ hkr).trans ((C7.block k (by omega)).trans (B1.block k hk))
set_option maxRecDepth 100000 in
set_option maxHeartbeats 8000000 in
theorem rPut (lo r : Nat) (R : MV) (key : List UInt8) (A : Option Addr) (m d : Nat) (data : List UInt8) (w : World) (h : RAt lo w r R) (hlo : lo ≤ w.heap.size) (hR : R.length ≤ 1000000) (hr : Rising R) (hk : key.length ≤ maxLen) (hd : BytesIn w A m data) :
    Calls Try.prog 12 #[.pointer (some ⟨r, 0, none⟩), encStr key, .slice A m d] w fun e w' => e = .returned (.int .i64 (putE R key data)) ∧ (∃ R', RAt lo w' r R' ∧ R'.Perm (putM R key data) ∧ Rising R') ∧ w.grownBy w' (some r) := by
  have HH := Lib.hid h
  have HR := Lib.hid hr
  have HD := Lib.hid hd
  obtain ⟨i0, hi0, hz0, hz1, hz2⟩ := info_parts blob_info
  have hnl := hd.1
  have hks := enc_size key
  have hp63 : key.length ≤ 9223372036854775807 := by simp only [maxLen] at hk; omega
  have hge := h.ge
  have hlt := h.lt
  have same : ∀ e : Int, ∀ N, e ≠ 0 → putE R key data = e → Ending.returned (Value.int .i64 e) = .returned (.int .i64 (putE R key data)) ∧ (∃ R', RAt lo (w.drewN N) r R' ∧ R'.Perm (putM R key data) ∧ Rising R') ∧ w.grownBy (w.drewN N) (some r) := fun e N he h2 =>
    ⟨ret_int h2.symm, ⟨R, HH.out.below (below_drewN (Below.refl _ _) N), by unfold putM; rw [if_neg (by rw [h2]; exact he)], HR.out⟩, ⟨rfl, rfl, rfl, Nat.le_refl _, fun _ _ _ => rfl⟩⟩
  have SAME := Lib.hid same
  clear h hr hd same hk
  by_cases h1 : key.length < 1
  · have d1 : decide ((key.length : Int) < 1) = true := by simp; omega
    have HE := Lib.hid (show putE R key data = 2 by unfold putE; rw [if_pos (.inl h1)])
    go_enter Try.func12, Try.ntmps12
    go_wp2_with fail
    go_ret
    exact SAME.out 2 0 (by decide) HE.out
  · have d1 : decide ((key.length : Int) < 1) = false := by simp; omega
    by_cases h2 : 16 < key.length
    · have d2 : decide ((16 : Int) < key.length) = true := by simp; omega
      have HE := Lib.hid (show putE R key data = 2 by unfold putE; rw [if_pos (.inr h2)])
      go_enter Try.func12, Try.ntmps12
      go_wp2_with fail
      go_ret
      exact SAME.out 2 0 (by decide) HE.out
    · have d2 : decide ((16 : Int) < key.length) = false := by simp; omega
      by_cases h3 : 512 < m
      · have d3 : decide ((512 : Int) < m) = true := by simp; omega
        have HE := Lib.hid (show putE R key data = 3 by unfold putE; rw [if_neg (by omega), if_pos (by omega)])
        go_enter Try.func12, Try.ntmps12
        go_wp2_with fail
        go_ret
        exact SAME.out 3 0 (by decide) HE.out
      · have d3 : decide ((512 : Int) < m) = false := by simp; omega
        go_enter Try.func12, Try.ntmps12
        go_wp2_with fail
        refine (rIs lo r R key w HH.out hR).mono ?_
        rintro e w1 ⟨⟨k, has, rfl, his⟩, N, rfl⟩
        have hhas := his.has_eq HR.out
        have IS := Lib.hid his
        cases has with
        | true =>
          have HE := Lib.hid (show putE R key data = 4 by unfold putE; rw [if_neg (by omega), if_neg (by omega), if_pos hhas.symm])
          clear hhas his
          go_wp2_with fail
          go_ret
          exact SAME.out 4 N (by decide) HE.out
        | false =>
          have HE := Lib.hid (show putE R key data = 0 by unfold putE; rw [if_neg (by omega), if_neg (by omega), if_neg (by rw [← hhas]; simp)])
          clear hhas his
          obtain ⟨w1, hw1⟩ : ∃ w1 : World, w1 = w.drewN N := ⟨_, rfl⟩
          have R1 := Lib.hid (show RAt lo w1 r R by rw [hw1]; exact HH.out.below (below_drewN (Below.refl _ _) N))
          have B1 := Lib.hid (show Below w.heap.size w w1 by rw [hw1]; exact below_drewN (Below.refl _ _) N)
          have hz1' : w.heap.size ≤ w1.heap.size := by rw [hw1]; exact Nat.le_refl _
          rw [← hw1]
          clear hw1
          obtain ⟨_, B, c, hblk, hrow⟩ := R1.out
          have hkR := IS.out.le
          have hcap := own_form_cap hrow
          rcases own_form hrow with ⟨rfl, h0, rfl⟩ | ⟨g, rfl⟩
          · have hRn : R = [] := List.eq_nil_of_length_eq_zero h0
            subst hRn
            have hk0 : k = 0 := by simpa using hkR
            subst hk0
            have c0 : w1.cell? ⟨r, 0, none⟩ = some (.slice none 0 0) := hblk.cell 0
            have hrl : r < w1.heap.size := by omega
            have BK := Lib.hid hblk
            have hcv0 := arg_string (c := d) (w := w1.drew) (HD.out.below (B1.out.trans ⟨rfl, rfl, rfl, Nat.le_refl _, fun _ _ => rfl⟩))
            have hcv1 := arg_string (c := d) (w := (w1.alloc (.cells #[] 62)).drew) (HD.out.below (B1.out.trans ((below_a1 w1 _).mono (by omega))))
            clear hrow hblk hcap hkR
            go_upto_region 8 with fail
            go_cut [9] (fun s9 wx => ∃ g6 c6, s9 = .slice (some ⟨g6, 0, none⟩) 1 c6 ∧ wx.ownsRow w1.heap.size 62 2 (.slice (some ⟨g6, 0, none⟩) 1 c6) 1 (blobVs [(key, data)]) ∧ Below w1.heap.size w1 wx)
            case first =>
              go_region_law ((first
                | (refine step_append_src _ rfl (.tmp 28) (.tmp 34) 26 rfl w1.heap.size 62 i0 _ 2 32 Try.underlying26 hi0 hz0 hz1 hz2 rfl (by omega) _ 0 [] rfl (by first | exact own_d1 w1 _ 2 | exact own_d2 w1 _ 2 _ | exact own_d3 w1 _ 2 _) none 0 0 [] rfl rfl (fun _ => rfl) (.inl ⟨rfl, rfl⟩) (by simp) (by simp only [maxLen]; omega) (by omega) (by simp <;> omega) ?_
                   intro v5 w5 hown5 hgr5 hat5
                   have O5 := Lib.hid (show w5.ownsRow w1.heap.size 62 2 v5 0 [] by simpa using hown5)
                   have C5 := Lib.hid (show Below w1.heap.size w1 w5 by first | exact grown_d1 hgr5 | exact grown_d2 hgr5 | exact grown_d3 hgr5)
                   have K5 : w5.cell? ⟨r, 0, none⟩ = some (.slice none 0 0) := (C5.out.cell (p := ⟨r, 0, none⟩) hrl).trans c0
                   have hcv5 := arg_string (c := d) (w := w5) (HD.out.below (B1.out.trans (C5.out.mono (by omega))))
                   have X5 := Lib.hid hgr5
                   clear hown5 hgr5 hat5)
                | (refine step_append_form _ rfl (.tmp 35) (.tmp 40) 26 rfl w1.heap.size 62 i0 _ 2 32 Try.underlying26 hi0 hz0 hz1 hz2 rfl (by omega) _ 0 [] rfl (by first | exact O5.out | exact O5.out.alloc _) (some ⟨_, 0, none⟩) 1 1 [encStr key, encStr data] rfl rfl (fun e => by cases e) (by first | exact src_new _ _ _ _ | exact src_k2 X5.out | exact src_k3 X5.out) (blobVs_one [(key, data)]) (by omega) (by simp only [maxLen]; omega) (by omega) (by first | exact C5.out.size | (simp; have := C5.out.size; omega)) ?_
                   intro g6 cap6 w6 hown6 hgr6 hat6 hlt6
                   have O6 := Lib.hid (show w6.ownsRow w1.heap.size 62 2 (.slice (some ⟨g6, 0, none⟩) 1 cap6) 1 (blobVs [(key, data)]) from hown6)
                   have C6 := Lib.hid (show Below w1.heap.size w1 w6 by first | exact C5.out.grown hgr6 C5.out.size (fun y hy => (O5.out.lt y hy).1) | exact (C5.out.alloc C5.out.size _).grown hgr6 (by simp <;> (have := C5.out.size; omega)) (fun y hy => (O5.out.lt y hy).1))
                   have K5 : w6.cell? ⟨r, 0, none⟩ = some (.slice none 0 0) := (C6.out.cell (p := ⟨r, 0, none⟩) hrl).trans c0
                   clear hown6 hgr6 hat6 hlt6)))
              all_goals
                go_wp2_with fail
                go_meet
                exact ⟨g6, cap6, rfl, O6.out, C6.out⟩
            case rest =>
              clear hcv0 hcv1
              obtain ⟨g6, c6, rfl, hrow6, hb6⟩ := hcut
              have c6r : wc.cell? ⟨r, 0, none⟩ = some (.slice none 0 0) := (hb6.cell (p := ⟨r, 0, none⟩) hrl).trans c0
              have R6 := Lib.hid hrow6
              have B6 := Lib.hid hb6
              have hz6 := hb6.size
              have f6 : wc.frozen? ⟨r, 0, none⟩ = false := (BK.out.below hb6 hrl).free 0
              clear hrow6 hb6
              go_wp2_with (
                (at_builtin
                 refine wpList_append_form _ rfl (.tmp 43) (.tmp 49) 26 rfl w1.heap.size 62 i0 _ 2 32 Try.underlying26 hi0 hz0 hz1 hz2 rfl (by omega) _ 1 (blobVs [(key, data)]) rfl R6.out none 0 0 [] rfl rfl (fun _ => rfl) (.inl ⟨rfl, rfl⟩) (by simp) (by omega) (by simp only [maxLen]; omega) (by omega) hz6 ?_
                 intro g7 c7 w7 hown7 hgr7 hat7 hlt7
                 have O7 := Lib.hid hown7
                 have G7 := Lib.hid hgr7
                 have C7 := Lib.hid (show Below w1.heap.size w1 w7 from B6.out.grown hgr7 hz6 (fun y hy => (R6.out.lt y hy).1))
                 have c7r : w7.cell? ⟨r, 0, none⟩ = some (.slice none 0 0) := (C7.out.cell (p := ⟨r, 0, none⟩) hrl).trans c0
                 have f7 : w7.frozen? ⟨r, 0, none⟩ = false := (BK.out.below C7.out hrl).free 0
                 clear hown7 hgr7 hat7))
              go_ret
              have O7' : w7.ownsRow w1.heap.size 62 2 (.slice (some ⟨g7, 0, none⟩) 1 c7) 1 (blobVs [(key, data)]) := by simpa using O7.out
              have hcl := r_close (R' := [(key, data)]) hlo hge hlt B1.out BK.out C7.out O7' rfl
              exact ⟨ret_int HE.out.symm, ⟨_, hcl.1, by unfold putM; rw [if_pos HE.out]; exact List.Perm.refl _, by simp [Rising]⟩, hcl.2⟩
          · have hgl := hrow.lt g rfl
            have c0 : w1.cell? ⟨r, 0, none⟩ = some (.slice (some ⟨g, 0, none⟩) R.length c) := hblk.cell 0
            have hrl : r < w1.heap.size := by omega
            have RW := Lib.hid hrow
            have BK := Lib.hid hblk
            have hsrc := own_src hrow 0 k (blobVs (R.take k)) (blobVs_take k)
            have SR := Lib.hid hsrc
            have hcv0 := arg_string (c := d) (w := w1.drew) (HD.out.below (B1.out.trans ⟨rfl, rfl, rfl, Nat.le_refl _, fun _ _ => rfl⟩))
            have hcv1 := arg_string (c := d) (w := (w1.alloc (.cells #[] 62)).drew) (HD.out.below (B1.out.trans ((below_a1 w1 _).mono (by omega))))
            clear hrow hblk hsrc
            generalize hn : R.length = n at *
            have HN := Lib.hid hn
            clear hn
            have hkc : (k : Int) ≤ (c : Int) := by omega
            go_upto_region 8 with fail
            go_cut [9] (fun s9 wx => ∃ g6 c6, s9 = .slice (some ⟨g6, 0, none⟩) (k + 1) c6 ∧ wx.ownsRow w1.heap.size 62 2 (.slice (some ⟨g6, 0, none⟩) (k + 1) c6) (k + 1) (blobVs (R.take k ++ [(key, data)])) ∧ Below w1.heap.size w1 wx)
            case first =>
              go_region_law ((first
                | (refine step_append_src _ rfl (.tmp 28) (.tmp 34) 26 rfl w1.heap.size 62 i0 _ 2 32 Try.underlying26 hi0 hz0 hz1 hz2 rfl (by omega) _ 0 [] rfl (by first | exact own_d1 w1 _ 2 | exact own_d2 w1 _ 2 _ | exact own_d3 w1 _ 2 _) (some ⟨g, 0, none⟩) k c (blobVs (R.take k)) rfl (by rw [blobVs_len, List.length_take, HN.out, Nat.min_eq_left hkR]) (fun e => by cases e) (by first | exact src_below SR.out (fun b off e => by cases e; exact hgl.2) (below_a1 w1 _) | exact src_below SR.out (fun b off e => by cases e; exact hgl.2) (below_a2 w1 _ _)) (blobVs_one _) (by simp only [maxLen]; omega) (by omega) (by simp <;> omega) ?_
                   intro v5 w5 hown5 hgr5 hat5
                   have O5 := Lib.hid (show w5.ownsRow w1.heap.size 62 2 v5 k (blobVs (R.take k)) by simpa using hown5)
                   have C5 := Lib.hid (show Below w1.heap.size w1 w5 by first | exact grown_d1 hgr5 | exact grown_d2 hgr5 | exact grown_d3 hgr5)
                   have K5 : w5.cell? ⟨r, 0, none⟩ = some (.slice (some ⟨g, 0, none⟩) n c) := (C5.out.cell (p := ⟨r, 0, none⟩) hrl).trans c0
                   have hcv5 := arg_string (c := d) (w := w5) (HD.out.below (B1.out.trans (C5.out.mono (by omega))))
                   have X5 := Lib.hid hgr5
                   clear hown5 hgr5 hat5)
                | (refine step_append_form _ rfl (.tmp 35) (.tmp 40) 26 rfl w1.heap.size 62 i0 _ 2 32 Try.underlying26 hi0 hz0 hz1 hz2 rfl (by omega) _ k (blobVs (R.take k)) rfl (by first | exact O5.out | exact O5.out.alloc _) (some ⟨_, 0, none⟩) 1 1 [encStr key, encStr data] rfl rfl (fun e => by cases e) (by first | exact src_new _ _ _ _ | exact src_k2 X5.out | exact src_k3 X5.out) (blobVs_one [(key, data)]) (by omega) (by simp only [maxLen]; omega) (by omega) (by first | exact C5.out.size | (simp; have := C5.out.size; omega)) ?_
                   intro g6 cap6 w6 hown6 hgr6 hat6 hlt6
                   have O6 := Lib.hid (show w6.ownsRow w1.heap.size 62 2 (.slice (some ⟨g6, 0, none⟩) (k + 1) cap6) (k + 1) (blobVs (R.take k ++ [(key, data)])) by rw [blobVs_append]; exact hown6)
                   have C6 := Lib.hid (show Below w1.heap.size w1 w6 by first | exact C5.out.grown hgr6 C5.out.size (fun y hy => (O5.out.lt y hy).1) | exact (C5.out.alloc C5.out.size _).grown hgr6 (by simp <;> (have := C5.out.size; omega)) (fun y hy => (O5.out.lt y hy).1))
                   have K5 : w6.cell? ⟨r, 0, none⟩ = some (.slice (some ⟨g, 0, none⟩) n c) := (C6.out.cell (p := ⟨r, 0, none⟩) hrl).trans c0
                   clear hown6 hgr6 hat6 hlt6)))
              all_goals
                go_wp2_with fail
                go_meet
                exact ⟨g6, cap6, rfl, O6.out, C6.out⟩
            case rest =>
              clear hcv0 hcv1
              obtain ⟨g6, c6, rfl, hrow6, hb6⟩ := hcut
              have c6r : wc.cell? ⟨r, 0, none⟩ = some (.slice (some ⟨g, 0, none⟩) n c) := (hb6.cell (p := ⟨r, 0, none⟩) hrl).trans c0
              have S9 := Lib.hid (show SrcAt wc (if c = k then some ⟨g, 0, none⟩ else some ⟨g, k * 2, none⟩) (n - k) (blobVs (R.drop k)) by
                by_cases hck : c = k
                · rw [if_pos hck]
                  have hd : R.drop k = [] := List.drop_of_length_le (by rw [HN.out]; omega)
                  rw [hd]
                  exact .inl ⟨by omega, rfl⟩
                · rw [if_neg hck]
                  exact src_kept (own_src RW.out (k * 2) (n - k) (blobVs (R.drop k)) (blobVs_drop (by rw [HN.out]; exact hkR))) (hb6.block g hgl.2))
              have R6 := Lib.hid hrow6
              have B6 := Lib.hid hb6
              have hz6 := hb6.size
              have f6 : wc.frozen? ⟨r, 0, none⟩ = false := (BK.out.below hb6 hrl).free 0
              have hkn : (k : Int) ≤ (n : Int) := by omega
              have hsub : ((n : Int) - (k : Int)).toNat = n - k := by omega
              have hsub2 : ((c : Int) - (k : Int)).toNat = c - k := by omega
              clear hrow6 hb6
              go_wp2_with (
                (at_builtin
                 refine wpList_append_form _ rfl (.tmp 43) (.tmp 49) 26 rfl w1.heap.size 62 i0 _ 2 32 Try.underlying26 hi0 hz0 hz1 hz2 rfl (by omega) _ (k + 1) (blobVs (R.take k ++ [(key, data)])) rfl R6.out (if c = k then some ⟨g, 0, none⟩ else some ⟨g, k * 2, none⟩) (n - k) (c - k) (blobVs (R.drop k)) rfl (by rw [blobVs_len, List.length_drop, HN.out]) (fun e => by by_cases hck : c = k <;> simp [hck] at e) S9.out (blobVs_one _) (by omega) (by simp only [maxLen]; omega) (by omega) hz6 ?_
                 intro g7 c7 w7 hown7 hgr7 hat7 hlt7
                 have O7 := Lib.hid hown7
                 have G7 := Lib.hid hgr7
                 have C7 := Lib.hid (show Below w1.heap.size w1 w7 from B6.out.grown hgr7 hz6 (fun y hy => (R6.out.lt y hy).1))
                 have c7r : w7.cell? ⟨r, 0, none⟩ = some (.slice (some ⟨g, 0, none⟩) n c) := (C7.out.cell (p := ⟨r, 0, none⟩) hrl).trans c0
                 have f7 : w7.frozen? ⟨r, 0, none⟩ = false := (BK.out.below C7.out hrl).free 0
                 clear hown7 hgr7 hat7))
              all_goals
                go_ret
                have O7' : w7.ownsRow w1.heap.size 62 2 (.slice (some ⟨g7, 0, none⟩) (k + 1 + (n - k)) c7) (k + 1 + (n - k)) (blobVs (insM R k key data)) := by
                  have h := O7.out
                  rw [← blobVs_append, List.append_assoc, List.singleton_append] at h
                  exact h
                have hcl := r_close (R' := insM R k key data) hlo hge hlt B1.out BK.out C7.out O7' (by unfold insM; rw [List.length_append, List.length_cons, List.length_take, List.length_drop, HN.out, Nat.min_eq_left hkR]; omega)
                exact ⟨ret_int HE.out.symm, ⟨_, hcl.1, by unfold putM; rw [if_pos HE.out]; exact insM_perm R k key data, insM_rising IS.out HR.out⟩, hcl.2⟩
end Go.Proofs.Ytgkgieemdjbhpaa
