/- What the document's Delete and Get do to its model. No condition beyond those that each theorem states. -/
import Derived.Test.YtgkgieemdjbhpaaRA3
namespace Go.Proofs.Ytgkgieemdjbhpaa
open Go.RowKit Go.Maps

theorem step_append_any {P : Program} (w : World) {ops : Array Oper} {o : Oper} {a : Act} {K : Act → World → Prop} {Q : Exit → Act → World → Prop} {E : Prop} (hgd : o.guard = none) (s x : Operand) (t : TypeId)
    (ho : o.op = .call { callee := .builtin .append, args := #[s, x], argTypes := #[t, t] })
    (base : Nat) (e : TypeId) (i : TypeInfo) (z : Value) (size bytes : Nat) (ht : P.underlying t = some (.slice e)) (hi : P.info? e = some i) (hz : i.zero = some z)
    (hsize : i.size = size) (hby : i.bytes = bytes) (hzs : z.cells.size = size) (hsz : 0 < size)
    (v : Value) (n : Nat) (xs : List Value) (hs : a.eval s = v) (hown : w.ownsRow base e size v n xs)
    (A : Option Addr) (m c : Nat) (news : List Value) (hx : a.eval x = .slice A m c) (hl : news.length = m * size) (hA : A = none → m = 0) (hr : SrcAt w A m news) (h1 : ∀ u ∈ news, u.oneCell' = true)
    (h63 : n + m ≤ maxLen) (hbytes : (n + m) * bytes ≤ 140737488355328) (hbase : base ≤ w.heap.size)
    (h : ∀ B' c' w', w'.ownsRow base e size (.slice B' (n + m) c') (n + m) (xs ++ news) → w.grownBy w' v.ownBlock → K (a.put o.dst (.slice B' (n + m) c')) w') :
    if Region.wanted o (yielded ops a.tmps) = true then Oper.wp P o a w K Q else E :=
  step_append_src w hgd s x t ho base e i z size bytes ht hi hz hsize hby hzs hsz v n xs hs hown A m c news hx hl hA hr h1 h63 hbytes hbase (fun v' w' h2 h3 _ => by
    rcases h2.2 with ⟨rfl, h0⟩ | ⟨g, cap, cur, rfl, _⟩
    · have h5 := h none 0 w' (by rw [h0]; rw [h0] at h2; exact h2) h3
      rw [h0] at h5
      exact h5
    · exact h _ cap w' h2 h3)
theorem wrap_small3 {p : Nat} (h : p ≤ 1000001) : IntKind.i64.wrap ((p : Int) + 1) = ((p + 1 : Nat) : Int) := by
  unfold IntKind.wrap
  simp [IntKind.bits, IntKind.signed]
  omega
def remM (R : MV) (k : Nat) : MV := R.take k ++ R.drop (k + 1)
theorem IsAt.at_ {R : MV} {key : List UInt8} {k : Nat} (h : IsAt R key k true) : ∃ d, R[k]? = some (key, d) := by
  have h0 := h.has
  cases hk : R[k]? with
  | none => rw [hk] at h0; cases h0
  | some p =>
    rw [hk] at h0
    have h1 : (p.1 == key) = true := h0.symm
    have h2 : p.1 = key := by simpa using h1
    exact ⟨p.2, by rw [← h2]⟩
theorem split_at {R : MV} {k : Nat} (h : k < R.length) : R = R.take k ++ R[k] :: R.drop (k + 1) := by
  conv => lhs; rw [← List.take_append_drop k R]
  rw [List.drop_eq_getElem_cons h]
theorem remM_perm {R : MV} {key : List UInt8} {k : Nat} (h : IsAt R key k true) (hr : Rising R) : (remM R k).Perm (delM R key) ∧ Rising (remM R k) := by
  obtain ⟨d, hk⟩ := h.at_
  obtain ⟨hkl, hkv⟩ := List.getElem?_eq_some_iff.1 hk
  have e : R = R.take k ++ (key, d) :: R.drop (k + 1) := by
    rw [← hkv]
    exact split_at hkl
  have hn := hr.nodup
  have hsub : (remM R k).Sublist R := by
    conv => rhs; rw [e]
    exact List.Sublist.append (List.Sublist.refl _) (List.sublist_cons_self _ _)
  refine ⟨?_, hr.sublist hsub⟩
  have hno : ∀ q ∈ remM R k, (!(q.1 == key)) = true := fun q hq => by
    rw [e, List.map_append, List.map_cons, List.nodup_append, List.nodup_cons] at hn
    obtain ⟨_, ⟨h2, _⟩, h3⟩ := hn
    have hne : q.1 ≠ key := by
      rcases List.mem_append.1 hq with hq | hq
      · exact h3 _ (List.mem_map_of_mem hq) _ (List.mem_cons_self ..)
      · intro he
        exact h2 (by have h5 := List.mem_map_of_mem (f := Prod.fst) hq; rwa [he] at h5)
    simpa using hne
  have h2 : delM R key = remM R k := by
    unfold delM
    conv => lhs; rw [e]
    rw [List.filter_append, List.filter_cons_of_neg (by simp)]
    rw [← List.filter_append]
    exact List.filter_eq_self.2 hno
  rw [h2]
set_option maxRecDepth 100000 in
set_option maxHeartbeats 8000000 in
theorem rDelete (lo r : Nat) (R : MV) (key : List UInt8) (w : World) (h : RAt lo w r R) (hlo : lo ≤ w.heap.size) (hR : R.length ≤ 1000000) (hr : Rising R) :
    Calls Try.prog 10 #[.pointer (some ⟨r, 0, none⟩), encStr key] w fun e w' => e = .returned (.int .i64 (delE R key)) ∧ (∃ R', RAt lo w' r R' ∧ R'.Perm (delM R key) ∧ Rising R') ∧ w.grownBy w' (some r) := by
  have HH := Lib.hid h
  have HR := Lib.hid hr
  obtain ⟨i0, hi0, hz0, hz1, hz2⟩ := info_parts blob_info
  have hge := h.ge
  have hlt := h.lt
  clear h hr
  go_enter Try.func10, Try.ntmps10
  go_wp2_with fail
  refine (rIs lo r R key w HH.out hR).mono ?_
  rintro e w1 ⟨⟨k, has, rfl, his⟩, N, rfl⟩
  have hhas := his.has_eq HR.out
  cases has with
  | false =>
    have HHS := Lib.hid hhas
    clear hhas his
    go_wp2_with fail
    go_ret
    exact ⟨by unfold delE; rw [← HHS.out]; rfl, ⟨R, HH.out.below (below_drewN (Below.refl _ _) N), by rw [delM_none HHS.out.symm], HR.out⟩, ⟨rfl, rfl, rfl, Nat.le_refl _, fun _ _ _ => rfl⟩⟩
  | true =>
    have HHS := Lib.hid hhas
    have IS := Lib.hid his
    obtain ⟨dd, hkd⟩ := his.at_
    have hkR : k < R.length := (List.getElem?_eq_some_iff.1 hkd).1
    clear hhas his hkd
    obtain ⟨w1, hw1⟩ : ∃ w1 : World, w1 = w.drewN N := ⟨_, rfl⟩
    have R1 := Lib.hid (show RAt lo w1 r R by rw [hw1]; exact HH.out.below (below_drewN (Below.refl _ _) N))
    have B1 := Lib.hid (show Below w.heap.size w w1 by rw [hw1]; exact below_drewN (Below.refl _ _) N)
    have hz1' : w.heap.size ≤ w1.heap.size := by rw [hw1]; exact Nat.le_refl _
    rw [← hw1]
    clear hw1
    obtain ⟨_, B, c, hblk, hrow⟩ := R1.out
    have hcap := own_form_cap hrow
    rcases own_form hrow with ⟨rfl, h0, rfl⟩ | ⟨g, rfl⟩
    · omega
    · have hgl := hrow.lt g rfl
      have c0 : w1.cell? ⟨r, 0, none⟩ = some (.slice (some ⟨g, 0, none⟩) R.length c) := hblk.cell 0
      have hrl : r < w1.heap.size := by omega
      have RW := Lib.hid hrow
      have BK := Lib.hid hblk
      have SR := Lib.hid (own_src hrow 0 k (blobVs (R.take k)) (blobVs_take k))
      clear hrow hblk
      generalize hn : R.length = n at *
      have HN := Lib.hid hn
      clear hn
      have hkc : (k : Int) ≤ (c : Int) := by omega
      obtain ⟨k1, hk1⟩ : ∃ k1, k1 = k + 1 := ⟨_, rfl⟩
      have hw64 : IntKind.i64.wrap ((k : Int) + 1) = (k1 : Int) := by
        rw [hk1]
        exact wrap_small3 (by omega)
      have hkn1 : (k1 : Int) ≤ (n : Int) := by omega
      have hkc1 : (k1 : Int) ≤ (c : Int) := by omega
      have HK1 := Lib.hid hk1
      have S2 := Lib.hid (show ∀ w5 : World, Below w1.heap.size w1 w5 → SrcAt w5 (if c = k1 then some ⟨g, 0, none⟩ else some ⟨g, k1 * 2, none⟩) (n - k1) (blobVs (R.drop k1)) from fun w5 hb => by
        by_cases hck : c = k1
        · rw [if_pos hck]
          have hd : R.drop k1 = [] := List.drop_of_length_le (by rw [HN.out]; omega)
          rw [hd]
          exact .inl ⟨by omega, rfl⟩
        · rw [if_neg hck]
          exact src_kept (own_src RW.out (k1 * 2) (n - k1) (blobVs (R.drop k1)) (blobVs_drop (by rw [HN.out]; omega))) (hb.block g hgl.2))
      have hk1n : k1 ≤ n := by omega
      have hkk : k ≤ n := by omega
      clear hk1
      go_wp2_with fail
      go_region_law ((first
        | (refine step_append_any _ rfl (.tmp 16) (.tmp 22) 26 rfl w1.heap.size 62 i0 _ 2 32 Try.underlying26 hi0 hz0 hz1 hz2 rfl (by omega) _ 0 [] rfl (own_d1 w1 _ 2) (some ⟨g, 0, none⟩) k c (blobVs (R.take k)) rfl (by rw [blobVs_len, List.length_take, HN.out, Nat.min_eq_left (by omega)]) (fun e => by cases e) (src_below SR.out (fun b off e => by cases e; exact hgl.2) (below_a1 w1 _)) (blobVs_one _) (by simp only [maxLen]; omega) (by omega) (by simp <;> omega) ?_
           intro B5 c5 w5 hown5 hgr5
           have O5 := Lib.hid (show w5.ownsRow w1.heap.size 62 2 (.slice B5 k c5) k (blobVs (R.take k)) by simpa using hown5)
           have C5 := Lib.hid (show Below w1.heap.size w1 w5 from grown_d1 hgr5)
           have K5 : w5.cell? ⟨r, 0, none⟩ = some (.slice (some ⟨g, 0, none⟩) n c) := (C5.out.cell (p := ⟨r, 0, none⟩) hrl).trans c0
           clear hown5 hgr5)
        | (refine step_append_any _ rfl (.tmp 23) (.tmp 30) 26 rfl w1.heap.size 62 i0 _ 2 32 Try.underlying26 hi0 hz0 hz1 hz2 rfl (by omega) _ k (blobVs (R.take k)) rfl O5.out (if c = k1 then some ⟨g, 0, none⟩ else some ⟨g, k1 * 2, none⟩) (n - k1) (c - k1) (blobVs (R.drop k1)) rfl (by rw [blobVs_len, List.length_drop, HN.out]) (fun e => by by_cases hck : c = k1 <;> simp [hck] at e) (S2.out _ C5.out) (blobVs_one _) (by simp only [maxLen]; omega) (by omega) C5.out.size ?_
           intro B6 c6 w6 hown6 hgr6
           have O6 := Lib.hid hown6
           have C6 := Lib.hid (show Below w1.heap.size w1 w6 from C5.out.grown hgr6 C5.out.size (fun y hy => (O5.out.lt y hy).1))
           have K6 : w6.cell? ⟨r, 0, none⟩ = some (.slice (some ⟨g, 0, none⟩) n c) := (C6.out.cell (p := ⟨r, 0, none⟩) hrl).trans c0
           have f6 : w6.frozen? ⟨r, 0, none⟩ = false := (BK.out.below C6.out hrl).free 0
           clear hown6 hgr6)))
      all_goals
        go_wp2_with fail
      all_goals
        go_ret
        have O6' : w6.ownsRow w1.heap.size 62 2 (.slice B6 (k + (n - k1)) c6) (k + (n - k1)) (blobVs (remM R k)) := by
          have h := O6.out
          rw [← blobVs_append] at h
          unfold remM
          rw [← HK1.out]
          exact h
        have hcl := r_close (R' := remM R k) hlo hge hlt B1.out BK.out C6.out O6' (by have := HK1.out; unfold remM; rw [List.length_append, List.length_take, List.length_drop, HN.out, Nat.min_eq_left (by omega)]; omega)
        exact ⟨by unfold delE; rw [← HHS.out]; rfl, ⟨_, hcl.1, remM_perm IS.out HR.out⟩, hcl.2⟩
end Go.Proofs.Ytgkgieemdjbhpaa
