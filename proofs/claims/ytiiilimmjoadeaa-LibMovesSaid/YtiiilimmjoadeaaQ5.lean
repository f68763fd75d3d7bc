/- The document's library: Read, Append and Go. No condition beyond those that each theorem states. -/
import Derived.Test.YtiiilimmjoadeaaQ4
import Derived.Test.YtiiilimmjoadeaaR4
namespace Go.Proofs.Ytiiilimmjoadeaa
open Go.RowKit

def BoolIntEnd (e : Ending) : Prop := ∃ (b : Bool) (a : Int), e = .returned (.tuple #[.bool b, .int .i64 a])
def StrIntEnd (e : Ending) : Prop := ∃ (b : ByteArray) (a : Int), e = .returned (.tuple #[.string b, .int .i64 a])
def IntIntEnd (e : Ending) : Prop := ∃ a b : Int, e = .returned (.tuple #[.int .i64 a, .int .i64 b])

section
variable {own : Nat → Nat} {w w' : World} {rp : Nat} {cv dv av : Value} {R : RLV}
theorem RStep.of {own' : Nat → Nat} {cv' dv' av' : Value} {R' : RLV} (h : RCore own' w' rp cv' dv' av' R') (h1 : ∀ k, own' k ≠ 0 → own k ≠ 0 ∨ w.heap.size ≤ k) (h2 : Chg (fun k => own k ≠ 0) w w') : RStep own w w' rp R'.carts.length R'.drives.length R'.asked.length := ⟨own', _, _, _, R', h, rfl, rfl, Nat.le_refl _, h1, h2⟩
theorem RStep.trans {own : Nat → Nat} {w w1 w2 : World} {rp nc nd na : Nat} {own1 : Nat → Nat} (h1 : ∀ k, own1 k ≠ 0 → own k ≠ 0 ∨ w.heap.size ≤ k) (h2 : Chg (fun k => own k ≠ 0) w w1) (k : RStep own1 w1 w2 rp nc nd na) : RStep own w w2 rp nc nd na := by
  obtain ⟨o, c, d, a, R, k1, k2, k3, k4, k5, k6⟩ := k
  refine ⟨o, c, d, a, R, k1, k2, k3, k4, fun q hq => ?_, h2.trans' k6 (fun i hi hs => (h1 i hs).resolve_right (by omega))⟩
  rcases k5 q hq with h | h
  · exact h1 q h
  · exact .inr (Nat.le_trans h2.size h)
/-- A call on one of the cartridges. -/
theorem RCore.cart_step {i : Nat} {C : CV} {F' : Nat → Prop} {M' : Recs} {lost' : Bool} (h : RCore own w rp cv dv av R) (hC : R.carts[i]? = some C) (h' : ROwn F' w' C.p M' C.most lost') (ht : Took (fun k => own k = i + 10) F' w w') :
    RCore (relabel own (i + 10) w.heap.size) w' rp cv dv av ⟨R.carts.set i ⟨C.p, M', C.most, lost'⟩, R.drives, R.asked⟩ := by
  refine ⟨h.blk.of_eq (ht.1.block rp h.blk.size (fun e => by have := h.lab; omega)), ?_, ?_, ?_, ?_, fun j D hD => ?_, by rw [List.length_set]; exact h.few, h.four, h.ask⟩
  · unfold relabel; rw [if_pos h.blk.size]; exact h.lab
  · rw [List.length_set, ptrs_set (C' := ⟨C.p, M', C.most, lost'⟩) hC rfl]
    exact relabel_other (OwnRow.owning _ _ _ _ _) h.rc (by omega) ht.1
  · exact relabel_other (OwnRow.owning _ _ _ _ _) h.rd (by omega) ht.1
  · exact relabel_other (OwnRow.owning _ _ _ _ _) h.ra (by omega) ht.1
  · by_cases hij : i = j
    · subst hij
      have hi : i < R.carts.length := (List.getElem?_eq_some_iff.1 hC).1
      have e : D = ⟨C.p, M', C.most, lost'⟩ := by simp [hi] at hD; exact hD.symm
      subst e
      exact relabel_own (ROwn.owning _ _ _ _) h' ht
    · rw [List.getElem?_set_ne hij] at hD
      exact relabel_other (ROwn.owning _ _ _ _) (h.cs j D hD) (by omega) ht.1
theorem relabel_from {own : Nat → Nat} {i : Nat} {w : World} : ∀ k, relabel own i w.heap.size k ≠ 0 → own k ≠ 0 ∨ w.heap.size ≤ k := fun k hk => by
  unfold relabel at hk
  split at hk
  · exact .inl hk
  · exact .inr (by omega)
theorem isR_get {R : RLV} {n : Int} (h : isR R n = true) : ∃ (i : Nat) (C : CV), n = i ∧ i < R.carts.length ∧ R.carts[i]? = some C := by
  unfold isR at h
  simp only [Bool.and_eq_true, decide_eq_true_eq] at h
  obtain ⟨i, rfl⟩ := Int.eq_ofNat_of_zero_le h.1
  exact ⟨i, R.carts[i]'(by omega), rfl, by omega, List.getElem?_eq_getElem _⟩
end

set_option maxHeartbeats 2000000 in
theorem rRead (own : Nat → Nat) (w : World) (rp : Nat) (cv dv av : Value) (R : RLV) (n pos : Int) (h : RCore own w rp cv dv av R) :
    Calls Try.prog 60 #[.pointer (some ⟨rp, 0, none⟩), .int .i64 n, .int .i64 pos] w fun e w' => StrIntEnd e ∧ RStep own w w' rp R.carts.length R.drives.length R.asked.length := by
  have H := Lib.hid h
  have c0 : w.cell? ⟨rp, 0, none⟩ = some cv := h.blk.cell 0
  have c1 : w.cell? ⟨rp, 1, none⟩ = some dv := h.blk.cell 1
  by_cases hc : isR R n = true
  · obtain ⟨i, C, rfl, hi, hC⟩ := isR_get hc
    have E := Lib.hid hc
    have HC := Lib.hid hC
    clear hc
    go_enter Try.func60, Try.ntmps60
    go_upto_region 4 with (first
      | (go_at_call 59; refine (rIs own w rp cv dv av R i H.out).mono ?_; rintro e w1 ⟨rfl, rfl⟩; rw [E.out])
      | (go_at_call 64; refine (rWith own w rp cv dv av R i H.out).mono ?_; rintro e w1 ⟨⟨j, rfl, hj⟩, rfl⟩; have HJ := Lib.hid hj; clear hj))
    rcases HJ.out with rfl | ⟨k, rfl, hk⟩
    · clear h hC HJ
      go_wp2_with fail
      go_ret2
      exact ⟨⟨_, _, rfl⟩, RStep.below H.out (Below.refl _ _)⟩
    · obtain ⟨g, cap, D, rfl, hD, hgl, hg1, hgs, fr, k0, k1, k2⟩ := h.live hk
      rcases h.rc.form with ⟨_, h0⟩ | ⟨gc, capc, rfl, _, _, hgc1, hgcs⟩
      · omega
      have x2 : w.cell? ⟨gc, i, none⟩ = some (.pointer (some ⟨C.p, 0, none⟩)) := h.cart_cell rfl hC
      have hgg : gc ≠ g := by
        obtain ⟨cs, hcs⟩ := own_blk h.rd.1 (g := g) rfl
        obtain ⟨cq, hcq⟩ := own_blk h.rc.1 (g := gc) rfl
        exact blk_ne hcq hcs (by decide)
      have fin := fun z : Int => h.put1 (d' := ⟨D.cart, z, D.works⟩) hD (q := 1) (u := .int .i64 z) (by decide) rfl
      have CC := Lib.hid (fun z : Int => (fin z).cs i C hC)
      have hg0 : own g ≠ 0 := by omega
      have FIN := Lib.hid (fun z : Int => (RStep.of (fin z) (fun _ h => .inl h) ((Chg.refl (fun k => own k ≠ 0) w).store (p := ⟨g, k * 3 + 1, none⟩) (.inl hg0) (.int .i64 z))).le (Nat.le_refl R.asked.length))
      by_cases hpp : D.pos = pos
      · have d1 : (D.pos != pos) = false := by simpa using hpp
        clear h hC HJ fin hD hpp
        go_wp2_with ((go_at_call 24; refine (refRead _ C.p C.M C.most C.lost pos _ (by exact CC.out _)).mono ?_; rintro e w1 ⟨rfl, rfl⟩))
        go_ret2
        exact ⟨⟨_, _, rfl⟩, by simpa using FIN.out _⟩
      · have d1 : (D.pos != pos) = true := by simpa using hpp
        clear h hC HJ fin hD hpp
        go_wp2_with fail
        go_ret2
        exact ⟨⟨_, _, rfl⟩, RStep.below H.out (Below.refl _ _)⟩
  · have hcf : isR R n = false := by simpa using hc
    have E := Lib.hid hcf
    clear hc hcf h
    go_enter Try.func60, Try.ntmps60
    go_wp2_with (go_at_call 59; refine (rIs own w rp cv dv av R n H.out).mono ?_; rintro e w1 ⟨rfl, rfl⟩; rw [E.out])
    go_ret2
    exact ⟨⟨_, _, rfl⟩, RStep.below H.out (Below.refl _ _)⟩
end Go.Proofs.Ytiiilimmjoadeaa
