/- slices.Delete of one element, on rows of structs of one's own. No condition beyond those that each theorem states. -/
import Derived.Test.YtmkccblcmiflfaaKC1
import Derived.Lib.SliceRun
import Derived.Deep.RegionLaw
import Derived.Deep.RegionHeld
import Derived.Deep.DrawnRows
import Derived.Deep.RegionHeld
import Derived.Deep.DrawnRows
import Derived.Deep.QuietTactic
import Derived.BigQuiet
namespace Go.Proofs.Ytmkccblcmiflfaa
open Go.RowKit

theorem take_list {l : List Oper} {i : Nat} {o : Oper} (h : l[i]? = some o) : l.toArray[i]? = some o := by simpa using h
def writeAt (cs : Array Value) : Nat → List Value → Array Value
  | _, [] => cs
  | o, v :: r => writeAt (cs.setIfInBounds o v) (o + 1) r
theorem Blk.setCells {w : World} {g : Nat} {t : TypeId} : ∀ {vs : List Value} {o : Nat} {cs : Array Value}, Blk w g t cs → Blk (w.setCells g o vs) g t (writeAt cs o vs)
  | [], _, _, h => h
  | v :: r, o, cs, h => by
    unfold World.setCells writeAt
    exact Blk.setCells (w := w.setCell ⟨g, o, none⟩ v) (h.store o v)
theorem writeAt_size : ∀ (vs : List Value) (o : Nat) (cs : Array Value), (writeAt cs o vs).size = cs.size
  | [], _, _ => rfl
  | v :: r, o, cs => by unfold writeAt; rw [writeAt_size r]; simp
theorem writeAt_list : ∀ (vs : List Value) (o : Nat) (cs : Array Value), o + vs.length ≤ cs.size → (writeAt cs o vs).toList = cs.toList.take o ++ vs ++ cs.toList.drop (o + vs.length)
  | [], o, cs, _ => by simp [writeAt]
  | v :: r, o, cs, h => by
    simp only [List.length_cons] at h
    unfold writeAt
    rw [writeAt_list r (o + 1) _ (by simp; omega), Array.toList_setIfInBounds, List.length_cons, List.drop_set_of_lt (by omega)]
    have ho : o < cs.toList.length := by simp; omega
    rw [List.take_set, List.take_succ_eq_append_getElem ho, List.set_append_right _ _ (by simp; omega)]
    simp only [List.length_take, Nat.min_eq_left (Nat.le_of_lt ho), Nat.sub_self, List.set_cons_zero, List.append_assoc, List.cons_append, List.nil_append]
    rw [show o + 1 + r.length = o + (r.length + 1) by omega]
theorem chg_setCells {S : Nat → Prop} {a : World} {g : Nat} (hg : S g) : ∀ (vs : List Value) (o : Nat) (w : World), Chg S a w → Chg S a (w.setCells g o vs)
  | [], _, _, h => h
  | v :: r, o, w, h => by
    unfold World.setCells
    exact chg_setCells hg r (o + 1) _ (h.store (p := ⟨g, o, none⟩) (.inl hg) v)
theorem run_clear_one {P : Program} (w : World) (t e ty : TypeId) (z : Value) (zs : List Value) (ht : P.underlying t = some (.slice e)) (hv : ∀ w, (zeroValue e).run P w = .ok z w) (hz : (Builtin.zeroCells z.cells 1).toList = zs) (h1 : ∀ u ∈ zs, u.oneCell' = true) (b o c : Nat)
    (hc : ∀ j, j < zs.length → (w.cell? ⟨b, o + j, none⟩).isSome = true) (hf : ∀ j, j < zs.length → w.frozen? ⟨b, o + j, none⟩ = false) :
    (Builtin.clear_ #[t] ty #[.slice (some ⟨b, o, none⟩) 1 c]).run P w = .ok (.tuple #[]) (w.setCells b o zs) := by
  have hst := run_storeCells_cells (P := P) b o zs 0 w (by simpa using hc) (by simpa using hf) h1
  simp only [Nat.add_zero] at hst
  simp [Builtin.clear_, run_underlying ht, hv, hz, hst]
/-- The row, one element less. -/
def cutRow (size i : Nat) (xs : List Value) : List Value := xs.take (i * size) ++ xs.drop ((i + 1) * size)
theorem blobD_info : (Try.prog.info? 61).map (fun i => (i.zero, i.size, i.bytes)) = some (some (.agg #[.string ⟨#[]⟩, .slice none 0 0]), 2, 40) := by kernel_rfl
theorem cut_own {F : Nat → Prop} {w : World} {t : TypeId} {size n g cap i : Nat} {xs zs : List Value} (h : OwnRow F w t size (.slice (some ⟨g, 0, none⟩) n cap) n xs) (hi : i < n) (hz : zs.length = size) :
    OwnRow F ((w.setCells g (i * size) (xs.drop ((i + 1) * size))).setCells g ((n - 1) * size) zs) t size (.slice (some ⟨g, 0, none⟩) (n - 1) cap) (n - 1) (cutRow size i xs) ∧
    Chg (fun k => k = g) w ((w.setCells g (i * size) (xs.drop ((i + 1) * size))).setCells g ((n - 1) * size) zs) := by
  refine ⟨⟨⟨?_, ?_⟩, h.2⟩, chg_setCells (S := fun k => k = g) rfl _ _ _ (chg_setCells (S := fun k => k = g) rfl _ _ _ (Chg.refl _ _))⟩
  · have hl := h.1.1
    unfold cutRow
    rw [List.length_append, List.length_take, List.length_drop, hl]
    have h1 : (i + 1) * size ≤ n * size := Nat.mul_le_mul_right _ (by omega)
    have h2 : (i + 1) * size = i * size + size := Nat.succ_mul _ _
    have h3 : n * size = (n - 1) * size + size := by rw [← Nat.succ_mul]; congr 1; omega
    rw [Nat.min_eq_left (by omega)]
    omega
  · rcases h.1.2 with ⟨e, _⟩ | ⟨g', cap', cur, e, h1, h2, h3, h4, h5, h6⟩
    · cases e
    · injection e with e1 _ e3
      injection e1 with e1
      injection e1 with e1
      subst e1
      subst e3
      refine .inr ⟨g, cap, _, rfl, h1, (Blk.setCells (Blk.setCells (show Blk w g t cur from h2))), by omega, h4, by rw [writeAt_size, writeAt_size]; exact h5, ?_⟩
      have hl := h.1.1
      have hcs : n * size ≤ cap * size := Nat.mul_le_mul_right _ h3
      have g1 : (i + 1) * size ≤ n * size := Nat.mul_le_mul_right _ (by omega)
      have g2 : (i + 1) * size = i * size + size := Nat.succ_mul _ _
      have g3 : n * size = (n - 1) * size + size := by rw [← Nat.succ_mul]; congr 1; omega
      have hd : (xs.drop ((i + 1) * size)).length = n * size - (i + 1) * size := by rw [List.length_drop, hl]
      rw [writeAt_list _ _ _ (by rw [writeAt_size]; omega), writeAt_list _ _ _ (by omega)]
      unfold cutRow
      have e1 : cur.toList.take (i * size) = xs.take (i * size) := by rw [← h6, List.take_take, Nat.min_eq_left (by omega)]
      rw [e1]
      have hlen : (xs.take (i * size) ++ xs.drop ((i + 1) * size)).length = (n - 1) * size := by
        rw [List.length_append, List.length_take, hd, hl, Nat.min_eq_left (by omega)]
        omega
      have e2 : (xs.take (i * size) ++ xs.drop ((i + 1) * size) ++ cur.toList.drop (i * size + (xs.drop ((i + 1) * size)).length)).take ((n - 1) * size) = xs.take (i * size) ++ xs.drop ((i + 1) * size) := by
        rw [List.take_append_of_le_length (by omega), List.take_of_length_le (by omega)]
      rw [e2, List.append_assoc, List.take_append_of_le_length (by omega), List.take_of_length_le (by omega)]
def zeroBlob : List Value := [.string ⟨#[]⟩, .slice none 0 0]
theorem clrBlob {F : Nat → Prop} {w : World} {g cap i m n' c' : Nat} {xs : List Value} (h : OwnRow F w 61 2 (.slice (some ⟨g, 0, none⟩) (i + 1 + m) cap) (i + 1 + m) xs) (hn : n' = 1) (o : Nat) (ho : o = (i + m) * 2) :
    (Builtin.clear_ #[54] 0 #[.slice (some ⟨g, o, none⟩) n' c']).run Try.prog (w.drew.setCells g (i * 2) (xs.drop ((i + 1) * 2))) = .ok (.tuple #[]) ((w.drew.setCells g (i * 2) (xs.drop ((i + 1) * 2))).setCells g ((i + m) * 2) zeroBlob) := by
  subst hn
  subst ho
  have hb : ∃ cs, Blk (w.drew.setCells g (i * 2) (xs.drop ((i + 1) * 2))) g 61 cs ∧ (i + 1 + m) * 2 ≤ cs.size := by
    rcases h.1.2 with ⟨e, _⟩ | ⟨g', cap', cur, e, _, h2, h3, _, h5, _⟩
    · cases e
    · cases e
      refine ⟨_, Blk.setCells (show Blk w.drew g 61 cur from h2), ?_⟩
      rw [writeAt_size, h5]
      exact Nat.mul_le_mul_right _ h3
  obtain ⟨cs, hB, hsz⟩ := hb
  refine run_clear_one _ 54 61 0 (.agg #[.string ⟨#[]⟩, .slice none 0 0]) zeroBlob Try.underlying54 (fun w => by kernel_rfl) (by kernel_rfl) (by intro u hu; simp only [zeroBlob, List.mem_cons, List.not_mem_nil, or_false] at hu; rcases hu with rfl | rfl <;> rfl) g _ _ (fun j hj => ?_) (fun j _ => hB.free _)
  have hj : j < 2 := hj
  rw [hB.cell, Array.getElem?_eq_getElem (by omega)]
  rfl
section
set_option maxHeartbeats 2000000
set_option maxRecDepth 8000
theorem dBlob (F : Nat → Prop) (g cap i m : Nat) (xs : List Value) (w : World) (h : OwnRow F w 61 2 (.slice (some ⟨g, 0, none⟩) (i + 1 + m) cap) (i + 1 + m) xs) (hxs : ∀ u ∈ xs, u.oneCell' = true) :
    Calls Try.prog 50 #[.slice (some ⟨g, 0, none⟩) (i + 1 + m) cap, .int .i64 (i : Int), .int .i64 ((i : Int) + 1)] w fun e w' => e = .returned (.slice (some ⟨g, 0, none⟩) (i + m) cap) ∧ OwnRow F w' 61 2 (.slice (some ⟨g, 0, none⟩) (i + m) cap) (i + m) (cutRow 2 i xs) ∧ Chg (fun k => k = g) w w' := by
  have hncap : i + 1 + m ≤ cap ∧ cap ≤ maxLen := by
    rcases h.1.2 with ⟨e, _⟩ | ⟨g', cap', cur, e, _, _, h3, h4, _⟩
    · cases e
    · cases e; exact ⟨h3, h4⟩
  have hc63 : cap ≤ 9223372036854775807 := by have := hncap.2; simp only [maxLen] at this; exact this
  have hnc := hncap.1
  have H := Lib.hid h
  have HXS := Lib.hid hxs
  have d0 : ((i : Int) == (i : Int) + 1) = false := by simp; omega
  clear h hxs hncap
  obtain ⟨i0, hinf, hz0, hz1, hz2⟩ := info_parts blobD_info
  have hrow := H.out.row
  have hxl : xs.length = (i + 1 + m) * 2 := H.out.1.1
  have HC := Lib.hid (show ∀ (j : Nat) u, (xs.drop ((i + 1) * 2))[j]? = some u → w.drew.cell? ((⟨g, (i + 1) * 2, none⟩ : Addr).add j) = some u from fun j u hu => by
    rw [List.getElem?_drop] at hu
    rw [add_plain]
    exact hrow.cell hu)
  have HL := Lib.hid (show (xs.drop ((i + 1) * 2)).length = m * 2 by rw [List.length_drop, hxl]; omega)
  have H1 := Lib.hid (show ∀ u ∈ xs.drop ((i + 1) * 2), u.oneCell' = true from fun u hu => HXS.out u (List.mem_of_mem_drop hu))
  have HSP := Lib.hid (show ∀ j, j < (xs.drop ((i + 1) * 2)).length → (w.drew.cell? ⟨g, 0 + i * 2 + j, none⟩).isSome = true ∧ w.drew.frozen? ⟨g, 0 + i * 2 + j, none⟩ = false from fun j hj => by
    rw [HL.out] at hj
    refine ⟨?_, hrow.free _⟩
    have hlt : 0 + i * 2 + j < xs.length := by omega
    have := hrow.cell (List.getElem?_eq_getElem hlt)
    rw [show w.drew.cell? ⟨g, 0 + i * 2 + j, none⟩ = w.cell? ⟨g, 0 + i * 2 + j, none⟩ from rfl, this]
    rfl)
  clear hrow hxl
  have hic : i ≤ cap := by omega
  have hic1 : i + 1 ≤ cap := by omega
  have hici : (i : Int) ≤ (i : Int) + 1 := by omega
  have hi0 : (0 : Int) ≤ (i : Int) + 1 := by omega
  have himn : (i : Int) + 1 ≤ (i : Int) + 1 + (m : Int) := by omega
  by_cases hci : cap = i + 1
  · obtain rfl : m = 0 := by omega
    subst hci
    have HC0 := Lib.hid (show ∀ (j : Nat) u, (xs.drop ((i + 1) * 2))[j]? = some u → w.drew.cell? ((⟨g, 0, none⟩ : Addr).add j) = some u from fun j u hu => by
      rw [List.eq_nil_of_length_eq_zero HL.out] at hu
      simp at hu)
    go_enter Try.func50, Try.ntmps50
    go_wp2_with fail
    refine wp_region_held_drew (S := (fun _ => True)) (by kernel_rfl) trivial (fun hHeld => ?_)
    refine wpAnyH_take (i := 0) (v := ?vA0) (take_list rfl) (by kernel_rfl) (by kernel_rfl) (by kernel_rfl) (fun _ _ _ h => h) (Or.inl ⟨by rfl, ?hyA0⟩) (by assumption) ?restA0
    case hyA0 => (intro w hSw; (try dsimp only at hSw); go_simp <;> with_reducible rfl)
    try simp only [Act.put, List.setIfInBounds_toArray, List.set_cons_zero, List.set_cons_succ]
    refine wpAnyH_take (i := 1) (v := ?vA1) (take_list rfl) (by kernel_rfl) (by kernel_rfl) (by kernel_rfl) (fun _ _ _ h => h) (Or.inl ⟨by rfl, ?hyA1⟩) (by assumption) ?restA1
    case hyA1 => (intro w hSw; (try dsimp only at hSw); go_simp <;> with_reducible rfl)
    try simp only [Act.put, List.setIfInBounds_toArray, List.set_cons_zero, List.set_cons_succ]
    refine wpAnyH_take (i := 2) (v := ?vA2) (take_list rfl) (by kernel_rfl) (by kernel_rfl) (by kernel_rfl) (fun _ _ _ h => h) (Or.inl ⟨by rfl, ?hyA2⟩) (by assumption) ?restA2
    case hyA2 => (intro w hSw; (try dsimp only at hSw); go_simp <;> with_reducible rfl)
    try simp only [Act.put, List.setIfInBounds_toArray, List.set_cons_zero, List.set_cons_succ]
    refine wpAnyH_take (i := 3) (v := ?vA3) (take_list rfl) (by kernel_rfl) (by kernel_rfl) (by kernel_rfl) (fun _ _ _ h => h) (Or.inl ⟨by rfl, ?hyA3⟩) (by assumption) ?restA3
    case hyA3 => (intro w hSw; (try dsimp only at hSw); go_simp <;> with_reducible rfl)
    try simp only [Act.put, List.setIfInBounds_toArray, List.set_cons_zero, List.set_cons_succ]
    refine wpAnyH_take (i := 4) (v := ?vA4) (take_list rfl) (by kernel_rfl) (by kernel_rfl) (by kernel_rfl) (fun _ _ _ h => h) (Or.inl ⟨by rfl, ?hyA4⟩) (by assumption) ?restA4
    case hyA4 => (intro w hSw; (try dsimp only at hSw); go_simp <;> with_reducible rfl)
    try simp only [Act.put, List.setIfInBounds_toArray, List.set_cons_zero, List.set_cons_succ]
    refine wpAnyH_take (i := 5) (v := ?vA5) (take_list rfl) (by kernel_rfl) (by kernel_rfl) (by kernel_rfl) (fun _ _ _ h => h) (Or.inl ⟨by rfl, ?hyA5⟩) (by assumption) ?restA5
    case hyA5 => (intro w hSw; (try dsimp only at hSw); go_simp <;> with_reducible rfl)
    try simp only [Act.put, List.setIfInBounds_toArray, List.set_cons_zero, List.set_cons_succ]
    refine wpAnyH_ready (rs := [6]) (by kernel_rfl) (by simp) ?_
    refine AllReadyH.cons rfl (fun K hK => ?_) AllReadyH.nil
    refine step_append_room rfl (.tmp 22) (.tmp 25) 54 rfl 61 i0 2 Try.underlying54 hinf hz1 g 0 i _ rfl ⟨g, 0, none⟩ 0 _ (xs.drop ((i + 1) * 2)) rfl HL.out HC0.out H1.out (by omega) HSP.out ?_
    clear hHeld
    refine hK.out _ _ trivial (fun hHeld => ?_)
    clear hK K
    refine wpAnyH_take (i := 7) (v := ?vA7) (take_list rfl) (by kernel_rfl) (by kernel_rfl) (by kernel_rfl) (fun _ _ _ h => h) (Or.inl ⟨by rfl, ?hyA7⟩) (by assumption) ?restA7
    case hyA7 => (intro w hSw; (try dsimp only at hSw); go_simp <;> with_reducible rfl)
    try simp only [Act.put, List.setIfInBounds_toArray]
    refine wpAnyH_done (by kernel_rfl) ?_ _
    have hclr : ∀ c' : Nat, _ := fun c' => clrBlob (m := 0) (n' := 1) (c' := c') H.out (by omega) (i * 2) (by omega)
    have HFIN := Lib.hid (cut_own (i := i) (w := w.drew) (zs := zeroBlob) ((OwnRow.owning ..).keep _ _ _ H.out (Nat.le_refl _) (fun _ _ _ => rfl)) (by omega) rfl)
    go_wp2_with fail
    go_ret
    rw [show i + 1 + 0 - 1 = i + 0 by omega] at HFIN
    exact ⟨rfl, HFIN.out.1, HFIN.out.2.os, HFIN.out.2.tape, HFIN.out.2.output, HFIN.out.2.size, HFIN.out.2.block⟩
  · go_enter Try.func50, Try.ntmps50
    go_wp2_with fail
    refine wp_region_held_drew (S := (fun _ => True)) (by kernel_rfl) trivial (fun hHeld => ?_)
    refine wpAnyH_take (i := 0) (v := ?vB0) (take_list rfl) (by kernel_rfl) (by kernel_rfl) (by kernel_rfl) (fun _ _ _ h => h) (Or.inl ⟨by rfl, ?hyB0⟩) (by assumption) ?restB0
    case hyB0 => (intro w hSw; (try dsimp only at hSw); go_simp <;> with_reducible rfl)
    try simp only [Act.put, List.setIfInBounds_toArray, List.set_cons_zero, List.set_cons_succ]
    refine wpAnyH_take (i := 1) (v := ?vB1) (take_list rfl) (by kernel_rfl) (by kernel_rfl) (by kernel_rfl) (fun _ _ _ h => h) (Or.inl ⟨by rfl, ?hyB1⟩) (by assumption) ?restB1
    case hyB1 => (intro w hSw; (try dsimp only at hSw); go_simp <;> with_reducible rfl)
    try simp only [Act.put, List.setIfInBounds_toArray, List.set_cons_zero, List.set_cons_succ]
    refine wpAnyH_take (i := 2) (v := ?vB2) (take_list rfl) (by kernel_rfl) (by kernel_rfl) (by kernel_rfl) (fun _ _ _ h => h) (Or.inl ⟨by rfl, ?hyB2⟩) (by assumption) ?restB2
    case hyB2 => (intro w hSw; (try dsimp only at hSw); go_simp <;> with_reducible rfl)
    try simp only [Act.put, List.setIfInBounds_toArray, List.set_cons_zero, List.set_cons_succ]
    refine wpAnyH_take (i := 3) (v := ?vB3) (take_list rfl) (by kernel_rfl) (by kernel_rfl) (by kernel_rfl) (fun _ _ _ h => h) (Or.inl ⟨by rfl, ?hyB3⟩) (by assumption) ?restB3
    case hyB3 => (intro w hSw; (try dsimp only at hSw); go_simp <;> with_reducible rfl)
    try simp only [Act.put, List.setIfInBounds_toArray, List.set_cons_zero, List.set_cons_succ]
    refine wpAnyH_take (i := 4) (v := ?vB4) (take_list rfl) (by kernel_rfl) (by kernel_rfl) (by kernel_rfl) (fun _ _ _ h => h) (Or.inl ⟨by rfl, ?hyB4⟩) (by assumption) ?restB4
    case hyB4 => (intro w hSw; (try dsimp only at hSw); go_simp <;> with_reducible rfl)
    try simp only [Act.put, List.setIfInBounds_toArray, List.set_cons_zero, List.set_cons_succ]
    refine wpAnyH_take (i := 5) (v := ?vB5) (take_list rfl) (by kernel_rfl) (by kernel_rfl) (by kernel_rfl) (fun _ _ _ h => h) (Or.inl ⟨by rfl, ?hyB5⟩) (by assumption) ?restB5
    case hyB5 => (intro w hSw; (try dsimp only at hSw); go_simp <;> with_reducible rfl)
    try simp only [Act.put, List.setIfInBounds_toArray, List.set_cons_zero, List.set_cons_succ]
    refine wpAnyH_ready (rs := [6]) (by kernel_rfl) (by simp) ?_
    refine AllReadyH.cons rfl (fun K hK => ?_) AllReadyH.nil
    refine step_append_room rfl (.tmp 22) (.tmp 25) 54 rfl 61 i0 2 Try.underlying54 hinf hz1 g 0 i _ rfl ⟨g, (i + 1) * 2, none⟩ m _ (xs.drop ((i + 1) * 2)) rfl HL.out HC.out H1.out (by omega) HSP.out ?_
    clear hHeld
    refine hK.out _ _ trivial (fun hHeld => ?_)
    clear hK K
    refine wpAnyH_take (i := 7) (v := ?vB7) (take_list rfl) (by kernel_rfl) (by kernel_rfl) (by kernel_rfl) (fun _ _ _ h => h) (Or.inl ⟨by rfl, ?hyB7⟩) (by assumption) ?restB7
    case hyB7 => (intro w hSw; (try dsimp only at hSw); go_simp <;> with_reducible rfl)
    try simp only [Act.put, List.setIfInBounds_toArray]
    refine wpAnyH_done (by kernel_rfl) ?_ _
    have hclr : ∀ c' : Nat, _ := fun c' => clrBlob (m := m) (n' := i + 1 + m - (i + m)) (c' := c') H.out (by omega) ((i + m) * 2) (by omega)
    have HFIN := Lib.hid (cut_own (i := i) (w := w.drew) (zs := zeroBlob) ((OwnRow.owning ..).keep _ _ _ H.out (Nat.le_refl _) (fun _ _ _ => rfl)) (by omega) rfl)
    go_wp2_with fail
    go_ret
    rw [show i + 1 + m - 1 = i + m by omega] at HFIN
    exact ⟨rfl, HFIN.out.1, HFIN.out.2.os, HFIN.out.2.tape, HFIN.out.2.output, HFIN.out.2.size, HFIN.out.2.block⟩
end
theorem noteD_info : (Try.prog.info? 26).map (fun i => (i.zero, i.size, i.bytes)) = some (some (.agg #[.int .i64 0, .string ⟨#[]⟩, .int .i64 0, .int .i64 0, .slice none 0 0, .string ⟨#[]⟩, .int .i64 0, .slice none 0 0]), 8, 112) := by kernel_rfl
def zeroNote : List Value := [.int .i64 0, .string ⟨#[]⟩, .int .i64 0, .int .i64 0, .slice none 0 0, .string ⟨#[]⟩, .int .i64 0, .slice none 0 0]
theorem clrNote {F : Nat → Prop} {w : World} {g cap i m n' c' : Nat} {xs : List Value} (h : OwnRow F w 26 8 (.slice (some ⟨g, 0, none⟩) (i + 1 + m) cap) (i + 1 + m) xs) (hn : n' = 1) (o : Nat) (ho : o = (i + m) * 8) :
    (Builtin.clear_ #[22] 0 #[.slice (some ⟨g, o, none⟩) n' c']).run Try.prog (w.drew.setCells g (i * 8) (xs.drop ((i + 1) * 8))) = .ok (.tuple #[]) ((w.drew.setCells g (i * 8) (xs.drop ((i + 1) * 8))).setCells g ((i + m) * 8) zeroNote) := by
  subst hn
  subst ho
  have hb : ∃ cs, Blk (w.drew.setCells g (i * 8) (xs.drop ((i + 1) * 8))) g 26 cs ∧ (i + 1 + m) * 8 ≤ cs.size := by
    rcases h.1.2 with ⟨e, _⟩ | ⟨g', cap', cur, e, _, h2, h3, _, h5, _⟩
    · cases e
    · cases e
      refine ⟨_, Blk.setCells (show Blk w.drew g 26 cur from h2), ?_⟩
      rw [writeAt_size, h5]
      exact Nat.mul_le_mul_right _ h3
  obtain ⟨cs, hB, hsz⟩ := hb
  refine run_clear_one _ 22 26 0 (.agg #[.int .i64 0, .string ⟨#[]⟩, .int .i64 0, .int .i64 0, .slice none 0 0, .string ⟨#[]⟩, .int .i64 0, .slice none 0 0]) zeroNote Try.underlying22 (fun w => by kernel_rfl) (by kernel_rfl) (by intro u hu; simp only [zeroNote, List.mem_cons, List.not_mem_nil, or_false] at hu; rcases hu with rfl | rfl | rfl | rfl | rfl | rfl | rfl | rfl <;> rfl) g _ _ (fun j hj => ?_) (fun j _ => hB.free _)
  have hj : j < 8 := hj
  rw [hB.cell, Array.getElem?_eq_getElem (by omega)]
  rfl
section
set_option maxHeartbeats 2000000
set_option maxRecDepth 8000
theorem dNote (F : Nat → Prop) (g cap i m : Nat) (xs : List Value) (w : World) (h : OwnRow F w 26 8 (.slice (some ⟨g, 0, none⟩) (i + 1 + m) cap) (i + 1 + m) xs) (hxs : ∀ u ∈ xs, u.oneCell' = true) :
    Calls Try.prog 55 #[.slice (some ⟨g, 0, none⟩) (i + 1 + m) cap, .int .i64 (i : Int), .int .i64 ((i : Int) + 1)] w fun e w' => e = .returned (.slice (some ⟨g, 0, none⟩) (i + m) cap) ∧ OwnRow F w' 26 8 (.slice (some ⟨g, 0, none⟩) (i + m) cap) (i + m) (cutRow 8 i xs) ∧ Chg (fun k => k = g) w w' := by
  have hncap : i + 1 + m ≤ cap ∧ cap ≤ maxLen := by
    rcases h.1.2 with ⟨e, _⟩ | ⟨g', cap', cur, e, _, _, h3, h4, _⟩
    · cases e
    · cases e; exact ⟨h3, h4⟩
  have hc63 : cap ≤ 9223372036854775807 := by have := hncap.2; simp only [maxLen] at this; exact this
  have hnc := hncap.1
  have H := Lib.hid h
  have HXS := Lib.hid hxs
  have d0 : ((i : Int) == (i : Int) + 1) = false := by simp; omega
  clear h hxs hncap
  obtain ⟨i0, hinf, hz0, hz1, hz2⟩ := info_parts noteD_info
  have hrow := H.out.row
  have hxl : xs.length = (i + 1 + m) * 8 := H.out.1.1
  have HC := Lib.hid (show ∀ (j : Nat) u, (xs.drop ((i + 1) * 8))[j]? = some u → w.drew.cell? ((⟨g, (i + 1) * 8, none⟩ : Addr).add j) = some u from fun j u hu => by
    rw [List.getElem?_drop] at hu
    rw [add_plain]
    exact hrow.cell hu)
  have HL := Lib.hid (show (xs.drop ((i + 1) * 8)).length = m * 8 by rw [List.length_drop, hxl]; omega)
  have H1 := Lib.hid (show ∀ u ∈ xs.drop ((i + 1) * 8), u.oneCell' = true from fun u hu => HXS.out u (List.mem_of_mem_drop hu))
  have HSP := Lib.hid (show ∀ j, j < (xs.drop ((i + 1) * 8)).length → (w.drew.cell? ⟨g, 0 + i * 8 + j, none⟩).isSome = true ∧ w.drew.frozen? ⟨g, 0 + i * 8 + j, none⟩ = false from fun j hj => by
    rw [HL.out] at hj
    refine ⟨?_, hrow.free _⟩
    have hlt : 0 + i * 8 + j < xs.length := by omega
    have := hrow.cell (List.getElem?_eq_getElem hlt)
    rw [show w.drew.cell? ⟨g, 0 + i * 8 + j, none⟩ = w.cell? ⟨g, 0 + i * 8 + j, none⟩ from rfl, this]
    rfl)
  clear hrow hxl
  have hic : i ≤ cap := by omega
  have hic1 : i + 1 ≤ cap := by omega
  have hici : (i : Int) ≤ (i : Int) + 1 := by omega
  have hi0 : (0 : Int) ≤ (i : Int) + 1 := by omega
  have himn : (i : Int) + 1 ≤ (i : Int) + 1 + (m : Int) := by omega
  by_cases hci : cap = i + 1
  · obtain rfl : m = 0 := by omega
    subst hci
    have HC0 := Lib.hid (show ∀ (j : Nat) u, (xs.drop ((i + 1) * 8))[j]? = some u → w.drew.cell? ((⟨g, 0, none⟩ : Addr).add j) = some u from fun j u hu => by
      rw [List.eq_nil_of_length_eq_zero HL.out] at hu
      simp at hu)
    go_enter Try.func55, Try.ntmps55
    go_wp2_with fail
    refine wp_region_held_drew (S := (fun _ => True)) (by kernel_rfl) trivial (fun hHeld => ?_)
    refine wpAnyH_take (i := 0) (v := ?vA0) (take_list rfl) (by kernel_rfl) (by kernel_rfl) (by kernel_rfl) (fun _ _ _ h => h) (Or.inl ⟨by rfl, ?hyA0⟩) (by assumption) ?restA0
    case hyA0 => (intro w hSw; (try dsimp only at hSw); go_simp <;> with_reducible rfl)
    try simp only [Act.put, List.setIfInBounds_toArray, List.set_cons_zero, List.set_cons_succ]
    refine wpAnyH_take (i := 1) (v := ?vA1) (take_list rfl) (by kernel_rfl) (by kernel_rfl) (by kernel_rfl) (fun _ _ _ h => h) (Or.inl ⟨by rfl, ?hyA1⟩) (by assumption) ?restA1
    case hyA1 => (intro w hSw; (try dsimp only at hSw); go_simp <;> with_reducible rfl)
    try simp only [Act.put, List.setIfInBounds_toArray, List.set_cons_zero, List.set_cons_succ]
    refine wpAnyH_take (i := 2) (v := ?vA2) (take_list rfl) (by kernel_rfl) (by kernel_rfl) (by kernel_rfl) (fun _ _ _ h => h) (Or.inl ⟨by rfl, ?hyA2⟩) (by assumption) ?restA2
    case hyA2 => (intro w hSw; (try dsimp only at hSw); go_simp <;> with_reducible rfl)
    try simp only [Act.put, List.setIfInBounds_toArray, List.set_cons_zero, List.set_cons_succ]
    refine wpAnyH_take (i := 3) (v := ?vA3) (take_list rfl) (by kernel_rfl) (by kernel_rfl) (by kernel_rfl) (fun _ _ _ h => h) (Or.inl ⟨by rfl, ?hyA3⟩) (by assumption) ?restA3
    case hyA3 => (intro w hSw; (try dsimp only at hSw); go_simp <;> with_reducible rfl)
    try simp only [Act.put, List.setIfInBounds_toArray, List.set_cons_zero, List.set_cons_succ]
    refine wpAnyH_take (i := 4) (v := ?vA4) (take_list rfl) (by kernel_rfl) (by kernel_rfl) (by kernel_rfl) (fun _ _ _ h => h) (Or.inl ⟨by rfl, ?hyA4⟩) (by assumption) ?restA4
    case hyA4 => (intro w hSw; (try dsimp only at hSw); go_simp <;> with_reducible rfl)
    try simp only [Act.put, List.setIfInBounds_toArray, List.set_cons_zero, List.set_cons_succ]
    refine wpAnyH_take (i := 5) (v := ?vA5) (take_list rfl) (by kernel_rfl) (by kernel_rfl) (by kernel_rfl) (fun _ _ _ h => h) (Or.inl ⟨by rfl, ?hyA5⟩) (by assumption) ?restA5
    case hyA5 => (intro w hSw; (try dsimp only at hSw); go_simp <;> with_reducible rfl)
    try simp only [Act.put, List.setIfInBounds_toArray, List.set_cons_zero, List.set_cons_succ]
    refine wpAnyH_ready (rs := [6]) (by kernel_rfl) (by simp) ?_
    refine AllReadyH.cons rfl (fun K hK => ?_) AllReadyH.nil
    refine step_append_room rfl (.tmp 22) (.tmp 25) 22 rfl 26 i0 8 Try.underlying22 hinf hz1 g 0 i _ rfl ⟨g, 0, none⟩ 0 _ (xs.drop ((i + 1) * 8)) rfl HL.out HC0.out H1.out (by omega) HSP.out ?_
    clear hHeld
    refine hK.out _ _ trivial (fun hHeld => ?_)
    clear hK K
    refine wpAnyH_take (i := 7) (v := ?vA7) (take_list rfl) (by kernel_rfl) (by kernel_rfl) (by kernel_rfl) (fun _ _ _ h => h) (Or.inl ⟨by rfl, ?hyA7⟩) (by assumption) ?restA7
    case hyA7 => (intro w hSw; (try dsimp only at hSw); go_simp <;> with_reducible rfl)
    try simp only [Act.put, List.setIfInBounds_toArray]
    refine wpAnyH_done (by kernel_rfl) ?_ _
    have hclr : ∀ c' : Nat, _ := fun c' => clrNote (m := 0) (n' := 1) (c' := c') H.out (by omega) (i * 8) (by omega)
    have HFIN := Lib.hid (cut_own (i := i) (w := w.drew) (zs := zeroNote) ((OwnRow.owning ..).keep _ _ _ H.out (Nat.le_refl _) (fun _ _ _ => rfl)) (by omega) rfl)
    go_wp2_with fail
    go_ret
    rw [show i + 1 + 0 - 1 = i + 0 by omega] at HFIN
    exact ⟨rfl, HFIN.out.1, HFIN.out.2.os, HFIN.out.2.tape, HFIN.out.2.output, HFIN.out.2.size, HFIN.out.2.block⟩
  · go_enter Try.func55, Try.ntmps55
    go_wp2_with fail
    refine wp_region_held_drew (S := (fun _ => True)) (by kernel_rfl) trivial (fun hHeld => ?_)
    refine wpAnyH_take (i := 0) (v := ?vB0) (take_list rfl) (by kernel_rfl) (by kernel_rfl) (by kernel_rfl) (fun _ _ _ h => h) (Or.inl ⟨by rfl, ?hyB0⟩) (by assumption) ?restB0
    case hyB0 => (intro w hSw; (try dsimp only at hSw); go_simp <;> with_reducible rfl)
    try simp only [Act.put, List.setIfInBounds_toArray, List.set_cons_zero, List.set_cons_succ]
    refine wpAnyH_take (i := 1) (v := ?vB1) (take_list rfl) (by kernel_rfl) (by kernel_rfl) (by kernel_rfl) (fun _ _ _ h => h) (Or.inl ⟨by rfl, ?hyB1⟩) (by assumption) ?restB1
    case hyB1 => (intro w hSw; (try dsimp only at hSw); go_simp <;> with_reducible rfl)
    try simp only [Act.put, List.setIfInBounds_toArray, List.set_cons_zero, List.set_cons_succ]
    refine wpAnyH_take (i := 2) (v := ?vB2) (take_list rfl) (by kernel_rfl) (by kernel_rfl) (by kernel_rfl) (fun _ _ _ h => h) (Or.inl ⟨by rfl, ?hyB2⟩) (by assumption) ?restB2
    case hyB2 => (intro w hSw; (try dsimp only at hSw); go_simp <;> with_reducible rfl)
    try simp only [Act.put, List.setIfInBounds_toArray, List.set_cons_zero, List.set_cons_succ]
    refine wpAnyH_take (i := 3) (v := ?vB3) (take_list rfl) (by kernel_rfl) (by kernel_rfl) (by kernel_rfl) (fun _ _ _ h => h) (Or.inl ⟨by rfl, ?hyB3⟩) (by assumption) ?restB3
    case hyB3 => (intro w hSw; (try dsimp only at hSw); go_simp <;> with_reducible rfl)
    try simp only [Act.put, List.setIfInBounds_toArray, List.set_cons_zero, List.set_cons_succ]
    refine wpAnyH_take (i := 4) (v := ?vB4) (take_list rfl) (by kernel_rfl) (by kernel_rfl) (by kernel_rfl) (fun _ _ _ h => h) (Or.inl ⟨by rfl, ?hyB4⟩) (by assumption) ?restB4
    case hyB4 => (intro w hSw; (try dsimp only at hSw); go_simp <;> with_reducible rfl)
    try simp only [Act.put, List.setIfInBounds_toArray, List.set_cons_zero, List.set_cons_succ]
    refine wpAnyH_take (i := 5) (v := ?vB5) (take_list rfl) (by kernel_rfl) (by kernel_rfl) (by kernel_rfl) (fun _ _ _ h => h) (Or.inl ⟨by rfl, ?hyB5⟩) (by assumption) ?restB5
    case hyB5 => (intro w hSw; (try dsimp only at hSw); go_simp <;> with_reducible rfl)
    try simp only [Act.put, List.setIfInBounds_toArray, List.set_cons_zero, List.set_cons_succ]
    refine wpAnyH_ready (rs := [6]) (by kernel_rfl) (by simp) ?_
    refine AllReadyH.cons rfl (fun K hK => ?_) AllReadyH.nil
    refine step_append_room rfl (.tmp 22) (.tmp 25) 22 rfl 26 i0 8 Try.underlying22 hinf hz1 g 0 i _ rfl ⟨g, (i + 1) * 8, none⟩ m _ (xs.drop ((i + 1) * 8)) rfl HL.out HC.out H1.out (by omega) HSP.out ?_
    clear hHeld
    refine hK.out _ _ trivial (fun hHeld => ?_)
    clear hK K
    refine wpAnyH_take (i := 7) (v := ?vB7) (take_list rfl) (by kernel_rfl) (by kernel_rfl) (by kernel_rfl) (fun _ _ _ h => h) (Or.inl ⟨by rfl, ?hyB7⟩) (by assumption) ?restB7
    case hyB7 => (intro w hSw; (try dsimp only at hSw); go_simp <;> with_reducible rfl)
    try simp only [Act.put, List.setIfInBounds_toArray]
    refine wpAnyH_done (by kernel_rfl) ?_ _
    have hclr : ∀ c' : Nat, _ := fun c' => clrNote (m := m) (n' := i + 1 + m - (i + m)) (c' := c') H.out (by omega) ((i + m) * 8) (by omega)
    have HFIN := Lib.hid (cut_own (i := i) (w := w.drew) (zs := zeroNote) ((OwnRow.owning ..).keep _ _ _ H.out (Nat.le_refl _) (fun _ _ _ => rfl)) (by omega) rfl)
    go_wp2_with fail
    go_ret
    rw [show i + 1 + m - 1 = i + m by omega] at HFIN
    exact ⟨rfl, HFIN.out.1, HFIN.out.2.os, HFIN.out.2.tape, HFIN.out.2.output, HFIN.out.2.size, HFIN.out.2.block⟩
end
end Go.Proofs.Ytmkccblcmiflfaa
