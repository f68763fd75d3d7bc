/- Where a blob waits, from less; a copy of places; what is left of a row. No condition beyond those that each theorem states. -/
import Derived.Test.YtmkccblcmiflfaaKC6
namespace Go.Proofs.Ytmkccblcmiflfaa
open Go.RowKit Go.Maps Go.WideMaps

section
set_option maxHeartbeats 1000000
theorem cWaits0 (F : Nat → Prop) (p n : Nat) (sv : Value) (SR : List BlobR) (key : Str) (w : World) (c0 : w.cell? ⟨p, 0, none⟩ = some sv) (h : OwnRow F w 61 2 sv n (blobVals SR)) (hn : SR.length = n) :
    Calls Try.prog 23 #[.pointer (some ⟨p, 0, none⟩), encStr key] w fun e w' => e = .returned (.int .i64 (idxP (fun r => decide (r.key = key)) SR)) ∧ Below w.heap.size w w' := by
  obtain ⟨w1, hw1⟩ : ∃ w1, w1 = w.alloc (.cells #[encStr key] 9) := ⟨_, rfl⟩
  have hb1 : Below w.heap.size w w1 := by rw [hw1]; exact (Below.refl _ _).alloc (Nat.le_refl _) _
  have h1 : OwnRow F w1 61 2 sv n (blobVals SR) := (OwnRow.owning ..).below h hb1
  have hk1 : w1.cell? ⟨w.heap.size, 0, none⟩ = some (encStr key) := by rw [hw1]; exact (Blk.made w _ _).cell 0
  have hp : p < w.heap.size := World.block_lt_of_cell? w _ c0
  have c1 : w1.cell? ⟨p, 0, none⟩ = some sv := (hb1.cell (p := ⟨p, 0, none⟩) hp).trans c0
  have HX := Lib.hid (ixBlob F sv n SR key w.heap.size w1 h1 hn hk1)
  have HB1 := Lib.hid hb1
  have hv : (∃ B n c, sv = .slice B n c) := by
    rcases h.form with ⟨h, _⟩ | ⟨g, cap, h, _⟩
    · exact ⟨_, _, _, h⟩
    · exact ⟨_, _, _, h⟩
  obtain ⟨B, n', c, rfl⟩ := hv
  clear h h1 hb1 hk1 c0
  go_enter Try.func23, Try.ntmps23
  go_upto_region 1 with fail
  rw [← hw1]
  clear hw1
  go_wp2_with (go_at_call 44; refine HX.out.mono ?_; rintro e w2 ⟨rfl, hb2⟩)
  go_ret
  exact ⟨rfl, HB1.out.trans (hb2.mono HB1.out.size)⟩
theorem placeC_info : (Try.prog.info? 40).map (fun i => (i.zero, i.size, i.bytes)) = some (some (.agg #[.int .i64 0, .int .i64 0]), 2, 16) := by kernel_rfl
theorem placeVals_one (l : Pls) : ∀ u ∈ placeVals l, u.oneCell' = true := by
  intro u hu
  obtain ⟨q, _, hu⟩ := List.mem_flatMap.1 hu
  simp only [List.mem_cons, List.not_mem_nil, or_false] at hu
  rcases hu with rfl | rfl <;> rfl
theorem SrcAt.below {w w' : World} {A : Option Addr} {n : Nat} {xs : List Value} (h : SrcAt w A n xs) (hb : Below w.heap.size w w') : SrcAt w' A n xs := by
  rcases h with h | ⟨b, off, h1, h3⟩
  · exact .inl h
  · exact .inr ⟨b, off, h1, fun j u hu => (hb.cell (p := ⟨b, off + j, none⟩) (World.block_lt_of_cell? w _ (h3 j u hu))).trans (h3 j u hu)⟩
theorem pclone (A : Option Addr) (n c : Nat) (l : Pls) (w : World) (hf : Form A n c) (hm : n ≤ 1000000) (h : PlacesIn w A n l) :
    Calls Try.prog 51 #[.slice A n c] w fun e w' => ∃ B k, e = .returned (.slice B n k) ∧ w'.ownsRow w.heap.size 40 2 (.slice B n k) n (placeVals l) ∧ Below w.heap.size w w' := by
  have h1 : ∀ w, _ := fun w => Lib.run_eql_slice_nil (P := Try.prog) w 24 40 A n c 0 0 Try.underlying24
  have H := Lib.hid h
  obtain ⟨i0, hi0, hz0, hz1, hz2⟩ := info_parts placeC_info
  clear h
  cases A with
  | none =>
    obtain ⟨rfl, rfl⟩ := hf.2.2 rfl
    go_enter Try.func51, Try.ntmps51
    go_wp2
    go_ret
    have e : l = [] := List.eq_nil_of_length_eq_zero H.out.1
    subst e
    exact ⟨none, 0, rfl, World.ownsRow_nil _ _ _ _, Below.refl _ _⟩
  | some a =>
    go_enter Try.func51, Try.ntmps51
    go_wp2_with (
      (at_builtin
       refine wpList_append_src _ rfl (.tmp 5) (.tmp 6) 24 rfl w.heap.size 40 i0 _ 2 16 Try.underlying24 hi0 hz0 hz1 hz2 rfl (by omega) _ 0 [] rfl (by exact own_made _ _ 2 rfl (Nat.le_refl _)) (some a) n c (placeVals l) rfl (by rw [placeVals_len, H.out.1]) (fun e => by cases e) (by exact H.out.2.below ((Below.refl _ _).alloc (Nat.le_refl _) _)) (placeVals_one l) (by simp only [maxLen]; omega) (by omega) (by simp) ?_
       intro v w1 hown hgr hat))
    go_ret
    have hb1 : Below w.heap.size w w1 := ((Below.refl _ _).alloc (Nat.le_refl _) _).grown hgr (by simp) (fun q hq => by have h : w.heap.size = q := Option.some.inj hq; omega)
    rcases hown.2 with ⟨rfl, h0⟩ | ⟨g, cap, cur, rfl, h2⟩
    · have hn0 : n = 0 := by omega
      subst hn0
      exact ⟨none, 0, rfl, by have h := hown; rw [List.nil_append] at h; exact h, hb1⟩
    · refine ⟨some ⟨g, 0, none⟩, cap, by simp, ?_, hb1⟩
      have h := hown
      rw [List.nil_append] at h
      rwa [Nat.zero_add] at h
end
end Go.Proofs.Ytmkccblcmiflfaa
