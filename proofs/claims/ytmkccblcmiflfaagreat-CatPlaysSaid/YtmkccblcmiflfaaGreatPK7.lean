/- Texts joined: KR5. No condition beyond those that each theorem states. -/
import Derived.Test.YtmkccblcmiflfaaGreatPK6
import Derived.Handy
namespace Go.Proofs.YtmkccblcmiflfaaGreat
open Go.RowKit Go.Maps Go.WideMaps

section
variable {w w5 : World} {t : TypeId} {size : Nat}
theorem drew_of {B : Nat} {w w' : World} (h : Below B w w') : Below B w w'.drew := ⟨h.os, h.tape, h.output, h.size, h.block⟩
theorem below_a1 (w : World) (o : Obj) : Below w.heap.size w (w.alloc o).drew := drew_of ((Below.refl _ w).alloc (Nat.le_refl _) o)
theorem own_d1 (w : World) (t : TypeId) (size : Nat) : (w.alloc (.cells #[] t)).drew.ownsRow w.heap.size t size (.slice (some ⟨w.heap.size, 0, none⟩) 0 0) 0 [] := own_made w t size rfl (Nat.le_refl _)
theorem grown_d1 {o : Obj} (h : (w.alloc o).drew.grownBy w5 (some w.heap.size)) : Below w.heap.size w w5 := (below_a1 w o).grown h (by show w.heap.size ≤ (w.alloc o).heap.size; simp) (fun y hy => by injection hy; omega)
end
theorem src_kept {W W' : World} {g off m : Nat} {news : List Value} (h : SrcAt W (some ⟨g, off, none⟩) m news) (he : W'.heap[g]? = W.heap[g]?) : SrcAt W' (some ⟨g, off, none⟩) m news := by
  rcases h with h | ⟨b, o, hA, hc⟩
  · exact .inl h
  · cases hA
    exact .inr ⟨g, off, rfl, fun j u hu => (World.cell?_of_block (w := W) (a := ⟨g, off + j, none⟩) he).trans (hc j u hu)⟩
theorem src_below {w w' : World} {B n : Nat} {A : Option Addr} {news : List Value} (h : SrcAt w A n news) (hA : ∀ b off, A = some ⟨b, off, none⟩ → b < B) (hb : Below B w w') : SrcAt w' A n news := by
  rcases h with h | ⟨b, o, hA', hc⟩
  · exact .inl h
  · exact .inr ⟨b, o, hA', fun j u hu => (hb.cell (p := ⟨b, o + j, none⟩) (hA b o hA')).trans (hc j u hu)⟩
theorem step_append_any {P : Program} (w : World) {ops : Array Oper} {o : Oper} {a : Act} {K : Act → World → Prop} {Q : Exit → Act → World → Prop} {E : Prop} (hgd : o.guard = none) (s x : Operand) (t : TypeId)
    (ho : o.op = .call { callee := .builtin .append, args := #[s, x], argTypes := #[t, t] })
    (base : Nat) (e : TypeId) (i : TypeInfo) (z : Value) (size bytes : Nat) (ht : P.underlying t = some (.slice e)) (hi : P.info? e = some i) (hz : i.zero = some z)
    (hsize : i.size = size) (hby : i.bytes = bytes) (hzs : z.cells.size = size) (hsz : 0 < size)
    (v : Value) (n : Nat) (xs : List Value) (hs : a.eval s = v) (hown : w.ownsRow base e size v n xs)
    (A : Option Addr) (m c : Nat) (news : List Value) (hx : a.eval x = .slice A m c) (hl : news.length = m * size) (hA : A = none → m = 0) (hr : SrcAt w A m news) (h1 : ∀ u ∈ news, u.oneCell' = true)
    (h63 : n + m ≤ maxLen) (hbytes : (n + m) * bytes ≤ 140737488355328) (hbase : base ≤ w.heap.size)
    (h : ∀ B' c' w', w'.ownsRow base e size (.slice B' (n + m) c') (n + m) (xs ++ news) → w.grownBy w' v.ownBlock → K (a.put o.dst (.slice B' (n + m) c')) w') :
    if Region.wanted o (yielded ops a.tmps) = true then Oper.wp P o a w K Q else E :=
  step_append_src w hgd s x t ho base e i z size bytes ht hi hz hsize hby hzs hsz v n xs hs hown A m c news hx hl hA hr h1 h63 hbytes hbase (fun v' w' h2 h3 _ => by
    rcases h2.2 with ⟨rfl, h0⟩ | ⟨g, cap, cur, rfl, _⟩
    · have h5 := h none 0 w' (by rw [h0]; rw [h0] at h2; exact h2) h3
      rw [h0] at h5
      exact h5
    · exact h _ cap w' h2 h3)
theorem wrap_small3 {p : Nat} (h : p ≤ 1000001) : IntKind.i64.wrap ((p : Int) + 1) = ((p + 1 : Nat) : Int) := by
  unfold IntKind.wrap
  simp [IntKind.bits, IntKind.signed]
  omega
theorem flatm_len {α : Type} {f : α → List Value} {m : Nat} (hf : ∀ x, (f x).length = m) (L : List α) : (L.flatMap f).length = L.length * m := by
  induction L with
  | nil => simp
  | cons x L ih => rw [List.flatMap_cons, List.length_append, hf, ih, List.length_cons, Nat.succ_mul]; omega
theorem flatm_take {α : Type} {f : α → List Value} (L : List α) (k : Nat) : ∀ q u, ((L.take k).flatMap f)[q]? = some u → (L.flatMap f)[0 + q]? = some u := by
  intro q u hu
  rw [Nat.zero_add]
  have e : L.flatMap f = (L.take k).flatMap f ++ (L.drop k).flatMap f := by rw [← List.flatMap_append, List.take_append_drop]
  rw [e, List.getElem?_append_left (List.getElem?_eq_some_iff.1 hu).1]
  exact hu
theorem flatm_drop {α : Type} {f : α → List Value} {m : Nat} (hf : ∀ x, (f x).length = m) (L : List α) {k : Nat} (hk : k ≤ L.length) : ∀ q u, ((L.drop k).flatMap f)[q]? = some u → (L.flatMap f)[k * m + q]? = some u := by
  intro q u hu
  have e : L.flatMap f = (L.take k).flatMap f ++ (L.drop k).flatMap f := by rw [← List.flatMap_append, List.take_append_drop]
  have hl : ((L.take k).flatMap f).length = k * m := by rw [flatm_len hf, List.length_take, Nat.min_eq_left hk]
  rw [e, List.getElem?_append_right (by rw [hl]; omega), hl, Nat.add_sub_cancel_left]
  exact hu
theorem rblob_info : (Tryz.prog.info? 88).map (fun i => (i.zero, i.size, i.bytes)) = some (some (.agg #[.string ⟨#[]⟩, .string ⟨#[]⟩]), 2, 32) := by kernel_rfl
theorem waitVals_one (L : List (Str × Str)) : ∀ u ∈ waitVals L, u.oneCell' = true := by
  intro u hu
  obtain ⟨q, _, hu⟩ := List.mem_flatMap.1 hu
  simp only [List.mem_cons, List.not_mem_nil, or_false] at hu
  rcases hu with rfl | rfl <;> rfl
theorem markVals_one (L : List (Str × Int)) : ∀ u ∈ markVals L, u.oneCell' = true := by
  intro u hu
  obtain ⟨q, _, hu⟩ := List.mem_flatMap.1 hu
  simp only [List.mem_cons, List.not_mem_nil, or_false] at hu
  rcases hu with rfl | rfl <;> rfl
theorem ent5_one (L : List EntR) : ∀ u ∈ ent5 L, u.oneCell' = true := by
  intro u hu
  obtain ⟨q, _, hu⟩ := List.mem_flatMap.1 hu
  simp only [List.mem_cons, List.not_mem_nil, or_false] at hu
  rcases hu with rfl | rfl | rfl | rfl | rfl <;> rfl
theorem idx_lt {α : Type} {p : α → Bool} {l : List α} {k : Nat} (h : idxP p l = k) : k < l.length := by
  have := (idxP_ge p l).2
  omega
theorem ent5_len (L : List EntR) : (ent5 L).length = L.length * 5 := by unfold ent5; exact flatm_len (m := 5) (fun _ => rfl) L
theorem waitVals_take (L : List (Str × Str)) (k : Nat) : ∀ q u, (waitVals (L.take k))[q]? = some u → (waitVals L)[0 + q]? = some u := flatm_take L k
theorem waitVals_drop (L : List (Str × Str)) {k : Nat} (hk : k ≤ L.length) : ∀ q u, (waitVals (L.drop k))[q]? = some u → (waitVals L)[k * 2 + q]? = some u := by unfold waitVals; exact flatm_drop (m := 2) (fun _ => rfl) L hk
theorem markVals_take (L : List (Str × Int)) (k : Nat) : ∀ q u, (markVals (L.take k))[q]? = some u → (markVals L)[0 + q]? = some u := flatm_take L k
theorem markVals_drop (L : List (Str × Int)) {k : Nat} (hk : k ≤ L.length) : ∀ q u, (markVals (L.drop k))[q]? = some u → (markVals L)[k * 2 + q]? = some u := by unfold markVals; exact flatm_drop (m := 2) (fun _ => rfl) L hk
theorem ent5_take (L : List EntR) (k : Nat) : ∀ q u, (ent5 (L.take k))[q]? = some u → (ent5 L)[0 + q]? = some u := flatm_take L k
theorem ent5_drop (L : List EntR) {k : Nat} (hk : k ≤ L.length) : ∀ q u, (ent5 (L.drop k))[q]? = some u → (ent5 L)[k * 5 + q]? = some u := by unfold ent5; exact flatm_drop (m := 5) (fun _ => rfl) L hk
theorem ent5_app (L M : List EntR) : ent5 (L ++ M) = ent5 L ++ ent5 M := by simp [ent5]
theorem remL_map {α β : Type} (f : α → β) (L : List α) (k : Nat) : (remL L k).map f = remL (L.map f) k := by unfold remL; simp [List.map_take, List.map_drop]
theorem remL_mem {α : Type} {L : List α} {k : Nat} {x : α} (h : x ∈ remL L k) : x ∈ L := by
  rcases List.mem_append.1 h with h | h
  · exact List.mem_of_mem_take h
  · exact List.mem_of_mem_drop h
def dropR (R : CV) (key : Str) : CV := { R with staged := delL R.staged key, entries := delL R.entries key }
section
set_option maxHeartbeats 16000000
set_option maxRecDepth 100000
theorem rDrop (F : Nat → Prop) (p N : Nat) (R : CV) (key : Str) (w1 : World) (h : RefAt F w1 p N R) (hN : N ≤ 100000) (hs : (R.staged.map Prod.fst).Nodup) (he : (R.entries.map Prod.fst).Nodup) :
    Calls Tryz.prog 52 #[.pointer (some ⟨p, 0, none⟩), encStr key] w1 fun e w' => e = .returned (.tuple #[]) ∧ RefPost F p N (dropR R key) w1 w' := by
  have H := Lib.hid h
  obtain ⟨i0, hi0, hz0, hz1, hz2⟩ := info_parts rblob_info
  obtain ⟨i1, hi1, hy0, hy1, hy2⟩ := info_parts entC_info
  obtain ⟨sw, sh, sb, st, sr, ER, hr⟩ := h
  have RR := Lib.hid hr
  clear hr
  go_enter Tryz.func52, Tryz.ntmps52
  go_wp2_with fail
  refine (rWaits F p N R key _ H.out hN).mono ?_
  rintro e w1' ⟨rfl, rfl⟩
  by_cases hw : 0 ≤ idxP (isKey key) R.staged
  · obtain ⟨k, hk⟩ : ∃ k : Nat, idxP (isKey key) R.staged = k := ⟨(idxP (isKey key) R.staged).toNat, by omega⟩
    have HK := Lib.hid hk
    rw [hk] at hw ⊢
    clear hk
    go_upto_region 2 with fail
    go_cut [4] (fun s wx => s = .int .i64 (k : Int) ∧ RefPost F p N { R with staged := delL R.staged key } w1 wx)
    case first =>
      obtain ⟨B, c, rfl, hnc, hcm, hB⟩ := own_form RR.out.wait.1
      have hkR := idx_lt (HK.out)
      obtain ⟨g, rfl⟩ : ∃ g, B = some ⟨g, 0, none⟩ := by
        rcases hB with ⟨_, h0, _⟩ | h
        · omega
        · exact h
      have hrow := RR.out.wait.1
      have hgl := (hrow.lt g rfl).2
      have cc : w1.cell? ⟨p, 0, none⟩ = some (.slice (some ⟨g, 0, none⟩) (R.staged).length c) := RR.out.blk.cell 0
      have hrl : p < w1.heap.size := RR.out.blk.size
      have RW := Lib.hid hrow
      have SR := Lib.hid (own_src hrow 0 k (waitVals ((R.staged).take k)) (waitVals_take _ _))
      have hlen := (show (R.staged).length ≤ 100000 by have := RR.out.lens; omega)
      obtain ⟨n, hn⟩ : ∃ n, (R.staged).length = n := ⟨_, rfl⟩
      have HLV := Lib.hid (show (R.staged).length = n from hn)
      have HN := Lib.hid hn
      rw [hn] at hnc hkR cc RW hlen
      have hkc : (k : Int) ≤ (c : Int) := by omega
      obtain ⟨k1, hk1⟩ : ∃ k1, k1 = k + 1 := ⟨_, rfl⟩
      have hw64 : IntKind.i64.wrap ((k : Int) + 1) = (k1 : Int) := by
        rw [hk1]
        exact wrap_small3 (by omega)
      have hkn1 : (k1 : Int) ≤ (n : Int) := by omega
      have hkc1 : (k1 : Int) ≤ (c : Int) := by omega
      have HK1 := Lib.hid hk1
      have S2 := Lib.hid (show ∀ w5 : World, Below w1.heap.size w1 w5 → SrcAt w5 (if c = k1 then some ⟨g, 0, none⟩ else some ⟨g, k1 * 2, none⟩) (n - k1) (waitVals ((R.staged).drop k1)) from fun w5 hb => by
        by_cases hck : c = k1
        · rw [if_pos hck]
          have hd : (R.staged).drop k1 = [] := List.drop_of_length_le (by rw [HLV.out]; omega)
          rw [hd]
          exact .inl ⟨by omega, rfl⟩
        · rw [if_neg hck]
          exact src_kept (own_src RW.out (k1 * 2) (n - k1) (waitVals ((R.staged).drop k1)) (waitVals_drop _ (by rw [HLV.out]; omega))) (hb.block g hgl))
      have hk1n : k1 ≤ n := by omega
      have hkk : k ≤ n := by omega
      have hidx : decide ((0 : Int) ≤ (k : Int)) = true := by simp
      clear hk1 hrow hn hB
      go_wp2_with fail
      go_region_law ((first
        | (refine step_append_any _ rfl (.tmp 12) (.tmp 18) 51 rfl w1.heap.size 88 i0 _ 2 32 Tryz.underlying51 hi0 hz0 hz1 hz2 rfl (by omega) _ 0 [] rfl (own_d1 w1 _ 2) (some ⟨g, 0, none⟩) k c (waitVals ((R.staged).take k)) rfl (by rw [waitVals_len, List.length_take, HLV.out, Nat.min_eq_left (by omega)]) (fun e => by cases e) (src_below SR.out (fun b off e => by cases e; exact hgl) (below_a1 w1 _)) (waitVals_one _) (by simp only [maxLen]; omega) (by omega) (by simp <;> omega) ?_
           intro B5 c5 w5 hown5 hgr5
           have O5 := Lib.hid (show w5.ownsRow w1.heap.size 88 2 (.slice B5 k c5) k (waitVals ((R.staged).take k)) by simpa using hown5)
           have C5 := Lib.hid (show Below w1.heap.size w1 w5 from grown_d1 hgr5)
           have K5 : w5.cell? ⟨p, 0, none⟩ = some (.slice (some ⟨g, 0, none⟩) n c) := (C5.out.cell (p := ⟨p, 0, none⟩) hrl).trans cc
           clear hown5 hgr5)
        | (refine step_append_any _ rfl (.tmp 19) (.tmp 26) 51 rfl w1.heap.size 88 i0 _ 2 32 Tryz.underlying51 hi0 hz0 hz1 hz2 rfl (by omega) _ k (waitVals ((R.staged).take k)) rfl O5.out (if c = k1 then some ⟨g, 0, none⟩ else some ⟨g, k1 * 2, none⟩) (n - k1) (c - k1) (waitVals ((R.staged).drop k1)) rfl (by rw [waitVals_len, List.length_drop, HLV.out]) (fun e => by by_cases hck : c = k1 <;> simp [hck] at e) (S2.out _ C5.out) (waitVals_one _) (by simp only [maxLen]; omega) (by omega) C5.out.size ?_
           intro B6 c6 w6 hown6 hgr6
           have O6 := Lib.hid hown6
           have C6 := Lib.hid (show Below w1.heap.size w1 w6 from C5.out.grown hgr6 C5.out.size (fun y hy => (O5.out.lt y hy).1))
           have K6 : w6.cell? ⟨p, 0, none⟩ = some (.slice (some ⟨g, 0, none⟩) n c) := (C6.out.cell (p := ⟨p, 0, none⟩) hrl).trans cc
           have f6 : w6.frozen? ⟨p, 0, none⟩ = false := (RR.out.blk.below C6.out hrl).free 0
           clear hown6 hgr6)))
      all_goals
        go_wp2_with fail
      all_goals
        go_meet
        refine ⟨rfl, RR.out.setWait C6.out ?_ (by have h1 := RR.out.lens; have h2 : (delL R.staged key).length ≤ R.staged.length := List.length_filter_le _ _; omega) (Nat.le_refl _)⟩
        have h6 := O6.out
        rw [← waitVals_app, HK1.out, show R.staged.take k ++ R.staged.drop (k + 1) = delL R.staged key from remL_del HK.out hs] at h6
        have hl : (delL R.staged key).length = k + (n - (k + 1)) := by
          rw [← remL_del HK.out hs]
          unfold remL
          rw [List.length_append, List.length_take, List.length_drop, HN.out, Nat.min_eq_left (by omega)]
        rw [hl]
        rw [HK1.out]
        exact h6
    case rest =>
      obtain ⟨rfl, F2, hc2, ht2⟩ := hcut
      obtain ⟨w2, rfl⟩ : ∃ w2 : World, w2 = wc := ⟨_, rfl⟩
      obtain ⟨R1, hR1⟩ : ∃ R1 : CV, R1 = { R with staged := delL R.staged key } := ⟨_, rfl⟩
      rw [← hR1] at hc2
      have he1 : (R1.entries.map Prod.fst).Nodup := by rw [hR1]; exact he
      have HD := Lib.hid (show dropR R key = { R1 with entries := delL R1.entries key } by rw [hR1]; rfl)
      have H2 := Lib.hid hc2
      have T2 := Lib.hid ht2
      obtain ⟨sw2, sh2, sb2, st2, sr2, ER2, hr2⟩ := hc2
      have RR2 := Lib.hid hr2
      clear hr2 hR1 ht2 RR H
      go_wp2_with fail
      refine (rIs F2 p N R1 key _ H2.out hN).mono ?_
      rintro e w2' ⟨rfl, rfl⟩
      by_cases hw2 : 0 ≤ idxP (isKey key) R1.entries
      · obtain ⟨k, hk⟩ : ∃ k : Nat, idxP (isKey key) R1.entries = k := ⟨(idxP (isKey key) R1.entries).toNat, by omega⟩
        have HK := Lib.hid hk
        rw [hk] at hw2 ⊢
        clear hk
        obtain ⟨B, c, rfl, hnc, hcm, hB⟩ := own_form RR2.out.here.1
        have hkR := idx_lt (HK.out)
        obtain ⟨g, rfl⟩ : ∃ g, B = some ⟨g, 0, none⟩ := by
          rcases hB with ⟨_, h0, _⟩ | h
          · omega
          · exact h
        have hrow := RR2.out.here.1
        have hgl := (hrow.lt g rfl).2
        have cc : w2.cell? ⟨p, 1, none⟩ = some (.slice (some ⟨g, 0, none⟩) (R1.entries).length c) := RR2.out.blk.cell 1
        have hrl : p < w2.heap.size := RR2.out.blk.size
        have RW := Lib.hid hrow
        have SR := Lib.hid (own_src hrow 0 k (ent5 ((ER2).take k)) (ent5_take _ _))
        have hlen := (show (R1.entries).length ≤ 100000 by have := RR2.out.lens; omega)
        obtain ⟨n, hn⟩ : ∃ n, (R1.entries).length = n := ⟨_, rfl⟩
        have HLV := Lib.hid (show (ER2).length = n from (by have h := congrArg List.length RR2.out.ents; rw [List.length_map] at h; rw [h]; exact hn))
        have HN := Lib.hid hn
        rw [hn] at hnc hkR cc RW hlen
        have hkc : (k : Int) ≤ (c : Int) := by omega
        obtain ⟨k1, hk1⟩ : ∃ k1, k1 = k + 1 := ⟨_, rfl⟩
        have hw64 : IntKind.i64.wrap ((k : Int) + 1) = (k1 : Int) := by
          rw [hk1]
          exact wrap_small3 (by omega)
        have hkn1 : (k1 : Int) ≤ (n : Int) := by omega
        have hkc1 : (k1 : Int) ≤ (c : Int) := by omega
        have HK1 := Lib.hid hk1
        have S2 := Lib.hid (show ∀ w5 : World, Below w2.heap.size w2 w5 → SrcAt w5 (if c = k1 then some ⟨g, 0, none⟩ else some ⟨g, k1 * 5, none⟩) (n - k1) (ent5 ((ER2).drop k1)) from fun w5 hb => by
          by_cases hck : c = k1
          · rw [if_pos hck]
            have hd : (ER2).drop k1 = [] := List.drop_of_length_le (by rw [HLV.out]; omega)
            rw [hd]
            exact .inl ⟨by omega, rfl⟩
          · rw [if_neg hck]
            exact src_kept (own_src RW.out (k1 * 5) (n - k1) (ent5 ((ER2).drop k1)) (ent5_drop _ (by rw [HLV.out]; omega))) (hb.block g hgl))
        have hk1n : k1 ≤ n := by omega
        have hkk : k ≤ n := by omega
        have hidx : decide ((0 : Int) ≤ (k : Int)) = true := by simp
        clear hk1 hrow hn hB
        go_wp2_with fail
        go_region_law ((first
          | (refine step_append_any _ rfl (.tmp 36) (.tmp 42) 38 rfl w2.heap.size 43 i1 _ 5 72 Tryz.underlying38 hi1 hy0 hy1 hy2 rfl (by omega) _ 0 [] rfl (own_d1 w2 _ 5) (some ⟨g, 0, none⟩) k c (ent5 ((ER2).take k)) rfl (by rw [ent5_len, List.length_take, HLV.out, Nat.min_eq_left (by omega)]) (fun e => by cases e) (src_below SR.out (fun b off e => by cases e; exact hgl) (below_a1 w2 _)) (ent5_one _) (by simp only [maxLen]; omega) (by omega) (by simp <;> omega) ?_
             intro B5 c5 w5 hown5 hgr5
             have O5 := Lib.hid (show w5.ownsRow w2.heap.size 43 5 (.slice B5 k c5) k (ent5 ((ER2).take k)) by simpa using hown5)
             have C5 := Lib.hid (show Below w2.heap.size w2 w5 from grown_d1 hgr5)
             have K5 : w5.cell? ⟨p, 1, none⟩ = some (.slice (some ⟨g, 0, none⟩) n c) := (C5.out.cell (p := ⟨p, 1, none⟩) hrl).trans cc
             clear hown5 hgr5)
          | (refine step_append_any _ rfl (.tmp 43) (.tmp 50) 38 rfl w2.heap.size 43 i1 _ 5 72 Tryz.underlying38 hi1 hy0 hy1 hy2 rfl (by omega) _ k (ent5 ((ER2).take k)) rfl O5.out (if c = k1 then some ⟨g, 0, none⟩ else some ⟨g, k1 * 5, none⟩) (n - k1) (c - k1) (ent5 ((ER2).drop k1)) rfl (by rw [ent5_len, List.length_drop, HLV.out]) (fun e => by by_cases hck : c = k1 <;> simp [hck] at e) (S2.out _ C5.out) (ent5_one _) (by simp only [maxLen]; omega) (by omega) C5.out.size ?_
             intro B6 c6 w6 hown6 hgr6
             have O6 := Lib.hid hown6
             have C6 := Lib.hid (show Below w2.heap.size w2 w6 from C5.out.grown hgr6 C5.out.size (fun y hy => (O5.out.lt y hy).1))
             have K6 : w6.cell? ⟨p, 1, none⟩ = some (.slice (some ⟨g, 0, none⟩) n c) := (C6.out.cell (p := ⟨p, 1, none⟩) hrl).trans cc
             have f6 : w6.frozen? ⟨p, 1, none⟩ = false := (RR2.out.blk.below C6.out hrl).free 1
             clear hown6 hgr6)))
        all_goals
          go_wp2_with fail
        all_goals
          have h6 := O6.out
          rw [← ent5_app, HK1.out] at h6
          have hrm : (remL ER2 k).map (fun r => (r.key, r.e)) = delL R1.entries key := by rw [remL_map, RR2.out.ents, remL_del HK.out he1]
          have hl : (delL R1.entries key).length = k + (n - (k + 1)) := by
            rw [← remL_del HK.out he1]
            unfold remL
            rw [List.length_append, List.length_take, List.length_drop, HN.out, Nat.min_eq_left (by omega)]
          have hpost := RR2.out.setHere C6.out (E := delL R1.entries key) (ER' := remL ER2 k) (v := .slice B6 (k + (n - k1)) c6) (by rw [hl, HK1.out]; exact h6) hrm (fun r hr => .inl (remL_mem hr)) (by have h1 := RR2.out.lens; have h2 : (delL R1.entries key).length ≤ R1.entries.length := List.length_filter_le _ _; omega) (Nat.le_refl _)
          obtain ⟨F3, hc3, ht3⟩ := hpost
          go_returns
          exact ⟨rfl, F3, by rw [HD.out]; exact hc3, T2.out.trans ht3⟩
      · have hno := idxP_neg.1 (show idxP (isKey key) R1.entries < 0 by omega)
        have HS := Lib.hid (show dropR R key = R1 by
          rw [HD.out, delL_same (by rw [hasL_any]; exact hno)])
        go_wp2_with fail
        go_returns
        exact ⟨rfl, F2, by rw [HS.out]; exact H2.out, T2.out⟩
  · have hno := idxP_neg.1 (show idxP (isKey key) R.staged < 0 by omega)
    have hst : delL R.staged key = R.staged := delL_same (by rw [hasL_any]; exact hno)
    obtain ⟨w2, rfl⟩ : ∃ w2 : World, w2 = w1 := ⟨_, rfl⟩
    obtain ⟨F2, rfl⟩ : ∃ F2, F2 = F := ⟨_, rfl⟩
    obtain ⟨F2, hc2, ht2⟩ := RefPost.same (show RefAt F2 w2 p N { R with staged := delL R.staged key } by rw [hst]; exact H.out) (Nat.le_refl N) (Below.refl _ _)
    obtain ⟨R1, hR1⟩ : ∃ R1 : CV, R1 = { R with staged := delL R.staged key } := ⟨_, rfl⟩
    rw [← hR1] at hc2
    have he1 : (R1.entries.map Prod.fst).Nodup := by rw [hR1]; exact he
    have HD := Lib.hid (show dropR R key = { R1 with entries := delL R1.entries key } by rw [hR1]; rfl)
    have H2 := Lib.hid hc2
    have T2 := Lib.hid ht2
    obtain ⟨sw2, sh2, sb2, st2, sr2, ER2, hr2⟩ := hc2
    have RR2 := Lib.hid hr2
    clear hr2 hR1 ht2 RR H
    go_wp2_with fail
    refine (rIs F2 p N R1 key _ H2.out hN).mono ?_
    rintro e w2' ⟨rfl, rfl⟩
    by_cases hw2 : 0 ≤ idxP (isKey key) R1.entries
    · obtain ⟨k, hk⟩ : ∃ k : Nat, idxP (isKey key) R1.entries = k := ⟨(idxP (isKey key) R1.entries).toNat, by omega⟩
      have HK := Lib.hid hk
      rw [hk] at hw2 ⊢
      clear hk
      obtain ⟨B, c, rfl, hnc, hcm, hB⟩ := own_form RR2.out.here.1
      have hkR := idx_lt (HK.out)
      obtain ⟨g, rfl⟩ : ∃ g, B = some ⟨g, 0, none⟩ := by
        rcases hB with ⟨_, h0, _⟩ | h
        · omega
        · exact h
      have hrow := RR2.out.here.1
      have hgl := (hrow.lt g rfl).2
      have cc : w2.cell? ⟨p, 1, none⟩ = some (.slice (some ⟨g, 0, none⟩) (R1.entries).length c) := RR2.out.blk.cell 1
      have hrl : p < w2.heap.size := RR2.out.blk.size
      have RW := Lib.hid hrow
      have SR := Lib.hid (own_src hrow 0 k (ent5 ((ER2).take k)) (ent5_take _ _))
      have hlen := (show (R1.entries).length ≤ 100000 by have := RR2.out.lens; omega)
      obtain ⟨n, hn⟩ : ∃ n, (R1.entries).length = n := ⟨_, rfl⟩
      have HLV := Lib.hid (show (ER2).length = n from (by have h := congrArg List.length RR2.out.ents; rw [List.length_map] at h; rw [h]; exact hn))
      have HN := Lib.hid hn
      rw [hn] at hnc hkR cc RW hlen
      have hkc : (k : Int) ≤ (c : Int) := by omega
      obtain ⟨k1, hk1⟩ : ∃ k1, k1 = k + 1 := ⟨_, rfl⟩
      have hw64 : IntKind.i64.wrap ((k : Int) + 1) = (k1 : Int) := by
        rw [hk1]
        exact wrap_small3 (by omega)
      have hkn1 : (k1 : Int) ≤ (n : Int) := by omega
      have hkc1 : (k1 : Int) ≤ (c : Int) := by omega
      have HK1 := Lib.hid hk1
      have S2 := Lib.hid (show ∀ w5 : World, Below w2.heap.size w2 w5 → SrcAt w5 (if c = k1 then some ⟨g, 0, none⟩ else some ⟨g, k1 * 5, none⟩) (n - k1) (ent5 ((ER2).drop k1)) from fun w5 hb => by
        by_cases hck : c = k1
        · rw [if_pos hck]
          have hd : (ER2).drop k1 = [] := List.drop_of_length_le (by rw [HLV.out]; omega)
          rw [hd]
          exact .inl ⟨by omega, rfl⟩
        · rw [if_neg hck]
          exact src_kept (own_src RW.out (k1 * 5) (n - k1) (ent5 ((ER2).drop k1)) (ent5_drop _ (by rw [HLV.out]; omega))) (hb.block g hgl))
      have hk1n : k1 ≤ n := by omega
      have hkk : k ≤ n := by omega
      have hidx : decide ((0 : Int) ≤ (k : Int)) = true := by simp
      clear hk1 hrow hn hB
      go_wp2_with fail
      go_region_law ((first
        | (refine step_append_any _ rfl (.tmp 36) (.tmp 42) 38 rfl w2.heap.size 43 i1 _ 5 72 Tryz.underlying38 hi1 hy0 hy1 hy2 rfl (by omega) _ 0 [] rfl (own_d1 w2 _ 5) (some ⟨g, 0, none⟩) k c (ent5 ((ER2).take k)) rfl (by rw [ent5_len, List.length_take, HLV.out, Nat.min_eq_left (by omega)]) (fun e => by cases e) (src_below SR.out (fun b off e => by cases e; exact hgl) (below_a1 w2 _)) (ent5_one _) (by simp only [maxLen]; omega) (by omega) (by simp <;> omega) ?_
           intro B5 c5 w5 hown5 hgr5
           have O5 := Lib.hid (show w5.ownsRow w2.heap.size 43 5 (.slice B5 k c5) k (ent5 ((ER2).take k)) by simpa using hown5)
           have C5 := Lib.hid (show Below w2.heap.size w2 w5 from grown_d1 hgr5)
           have K5 : w5.cell? ⟨p, 1, none⟩ = some (.slice (some ⟨g, 0, none⟩) n c) := (C5.out.cell (p := ⟨p, 1, none⟩) hrl).trans cc
           clear hown5 hgr5)
        | (refine step_append_any _ rfl (.tmp 43) (.tmp 50) 38 rfl w2.heap.size 43 i1 _ 5 72 Tryz.underlying38 hi1 hy0 hy1 hy2 rfl (by omega) _ k (ent5 ((ER2).take k)) rfl O5.out (if c = k1 then some ⟨g, 0, none⟩ else some ⟨g, k1 * 5, none⟩) (n - k1) (c - k1) (ent5 ((ER2).drop k1)) rfl (by rw [ent5_len, List.length_drop, HLV.out]) (fun e => by by_cases hck : c = k1 <;> simp [hck] at e) (S2.out _ C5.out) (ent5_one _) (by simp only [maxLen]; omega) (by omega) C5.out.size ?_
           intro B6 c6 w6 hown6 hgr6
           have O6 := Lib.hid hown6
           have C6 := Lib.hid (show Below w2.heap.size w2 w6 from C5.out.grown hgr6 C5.out.size (fun y hy => (O5.out.lt y hy).1))
           have K6 : w6.cell? ⟨p, 1, none⟩ = some (.slice (some ⟨g, 0, none⟩) n c) := (C6.out.cell (p := ⟨p, 1, none⟩) hrl).trans cc
           have f6 : w6.frozen? ⟨p, 1, none⟩ = false := (RR2.out.blk.below C6.out hrl).free 1
           clear hown6 hgr6)))
      all_goals
        go_wp2_with fail
      all_goals
        have h6 := O6.out
        rw [← ent5_app, HK1.out] at h6
        have hrm : (remL ER2 k).map (fun r => (r.key, r.e)) = delL R1.entries key := by rw [remL_map, RR2.out.ents, remL_del HK.out he1]
        have hl : (delL R1.entries key).length = k + (n - (k + 1)) := by
          rw [← remL_del HK.out he1]
          unfold remL
          rw [List.length_append, List.length_take, List.length_drop, HN.out, Nat.min_eq_left (by omega)]
        have hpost := RR2.out.setHere C6.out (E := delL R1.entries key) (ER' := remL ER2 k) (v := .slice B6 (k + (n - k1)) c6) (by rw [hl, HK1.out]; exact h6) hrm (fun r hr => .inl (remL_mem hr)) (by have h1 := RR2.out.lens; have h2 : (delL R1.entries key).length ≤ R1.entries.length := List.length_filter_le _ _; omega) (Nat.le_refl _)
        obtain ⟨F3, hc3, ht3⟩ := hpost
        go_returns
        exact ⟨rfl, F3, by rw [HD.out]; exact hc3, T2.out.trans ht3⟩
    · have hno := idxP_neg.1 (show idxP (isKey key) R1.entries < 0 by omega)
      have HS := Lib.hid (show dropR R key = R1 by
        rw [HD.out, delL_same (by rw [hasL_any]; exact hno)])
      go_wp2_with fail
      go_returns
      exact ⟨rfl, F2, by rw [HS.out]; exact H2.out, T2.out⟩
end
end Go.Proofs.YtmkccblcmiflfaaGreat
