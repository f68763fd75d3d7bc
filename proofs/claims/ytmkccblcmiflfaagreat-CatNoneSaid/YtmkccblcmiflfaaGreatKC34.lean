/- The law CatNone returns true on values. No condition beyond those that each theorem states. -/
import Derived.Test.YtmkccblcmiflfaaGreatKC33
namespace Go.Proofs.YtmkccblcmiflfaaGreat
open Go.RowKit Go.Maps Go.WideMaps

section
set_option maxHeartbeats 8000000
set_option maxRecDepth 100000
theorem catNone_walk (r : NoteV) (D : Option Addr) (dn dc : Nat) (Q : Option Addr) (qn qc : Nat) (key n : Value) (w : World) :
    Calls Tryz.prog 6 #[noteAgg r D dn dc Q qn qc, key, n] w fun e w' => e = .returned (.bool true) ∧ Below w.heap.size w w' := by
  unfold noteAgg
  go_enter Tryz.func6, Tryz.ntmps6
  go_upto_region 1 with fail
  obtain ⟨w1, hw1⟩ : ∃ w1, w1 = w.alloc (.cells #[.int .i64 r.kind, encStr r.key, .int .i64 r.gen, .int .i64 r.cart, .slice D dn dc, encStr r.sum, .int .i64 r.size, .slice Q qn qc] 32) := ⟨_, rfl⟩
  have hb1 : Below w.heap.size w w1 := by rw [hw1]; exact (Below.refl _ _).alloc (Nat.le_refl _) _
  have BB := Lib.hid (show Blk w1 w.heap.size 32 #[.int .i64 r.kind, encStr r.key, .int .i64 r.gen, .int .i64 r.cart, .slice D dn dc, encStr r.sum, .int .i64 r.size, .slice Q qn qc] by rw [hw1]; exact Blk.made w _ _)
  change Code.wp _ _ _ _ (w.alloc (.cells #[.int .i64 r.kind, encStr r.key, .int .i64 r.gen, .int .i64 r.cart, .slice D dn dc, encStr r.sum, .int .i64 r.size, .slice Q qn qc] 32))
  rw [← hw1]
  have B1 := Lib.hid hb1
  clear hw1 hb1
  go_wp2_with fail
  refine (cData_nil key _).mono ?_
  rintro e w1' ⟨rfl, rfl⟩
  go_wp2_with fail
  refine (cEntry_nil key _).mono ?_
  rintro e w2 ⟨rfl, hb2⟩
  have B2 := Lib.hid (B1.out.trans (hb2.mono B1.out.size))
  have BB2 := Lib.hid (BB.out.below hb2 BB.out.size)
  clear hb2
  unfold zeroEnt
  go_wp2_with fail
  refine (awake13 _).mono ?_
  rintro e w3 ⟨rfl, hb3⟩
  have hz2 : (w2.alloc (.cells #[encStr [], .int .i64 0, .int .i64 0, encStr [], .slice none 0 0] 43)).heap.size = w2.heap.size + 1 := World.size_alloc _ _
  have B3 := Lib.hid (show Below w2.heap.size w2 w3 from ((Below.refl _ w2).alloc (Nat.le_refl _) _).trans (hb3.mono (by simp)))
  have BE := Lib.hid (show Blk w3 w2.heap.size 43 #[encStr [], .int .i64 0, .int .i64 0, encStr [], .slice none 0 0] from Blk.below (Blk.made w2 _ _) hb3 (by simp))
  have BB3 := Lib.hid (BB2.out.below B3.out BB2.out.size)
  have BW3 := Lib.hid (B2.out.trans (B3.out.mono B2.out.size))
  have q0 : w3.cell? ⟨w.heap.size, 0, none⟩ = some (.int .i64 r.kind) := BB3.out.cell 0
  have q1 : w3.cell? ⟨w.heap.size, 1, none⟩ = some (encStr r.key) := BB3.out.cell 1
  have q2 : w3.cell? ⟨w.heap.size, 2, none⟩ = some (.int .i64 r.gen) := BB3.out.cell 2
  have q3 : w3.cell? ⟨w.heap.size, 3, none⟩ = some (.int .i64 r.cart) := BB3.out.cell 3
  have q4 : w3.cell? ⟨w.heap.size, 4, none⟩ = some (.slice D dn dc) := BB3.out.cell 4
  have q5 : w3.cell? ⟨w.heap.size, 5, none⟩ = some (encStr r.sum) := BB3.out.cell 5
  have q6 : w3.cell? ⟨w.heap.size, 6, none⟩ = some (.int .i64 r.size) := BB3.out.cell 6
  have q7 : w3.cell? ⟨w.heap.size, 7, none⟩ = some (.slice Q qn qc) := BB3.out.cell 7
  clear hb3 hz2
  go_wp2_with fail
  refine (cApply_nil r D dn dc Q qn qc _).mono ?_
  rintro e w4 ⟨rfl, hb4⟩
  have B4 := Lib.hid (BW3.out.trans (hb4.mono BW3.out.size))
  have BE4 := Lib.hid (BE.out.below hb4 BE.out.size)
  have e0 : w4.cell? ⟨w2.heap.size, 0, none⟩ = some (.string ⟨#[]⟩) := BE4.out.cell 0
  have e1 : w4.cell? ⟨w2.heap.size, 1, none⟩ = some (.int .i64 0) := BE4.out.cell 1
  have e2 : w4.cell? ⟨w2.heap.size, 2, none⟩ = some (.int .i64 0) := BE4.out.cell 2
  have e3 : w4.cell? ⟨w2.heap.size, 3, none⟩ = some (.string ⟨#[]⟩) := BE4.out.cell 3
  have e4 : w4.cell? ⟨w2.heap.size, 4, none⟩ = some (.slice none 0 0) := BE4.out.cell 4
  clear hb4 q0 q1 q2 q3 q4 q5 q6 q7
  go_wp2_with fail
  refine (cHas_nil key _).mono ?_
  rintro e w4' ⟨rfl, rfl⟩
  go_wp2_with fail
  have hrd : EntRd w4 zeroV none 0 := ⟨⟨rfl, .inl ⟨rfl, rfl⟩⟩, Nat.zero_le _⟩
  refine (same10 [] zeroV none 0 0 [] zeroV none 0 0 _ hrd hrd).mono ?_
  rw [decide_eq_true rfl]
  rintro e w5 ⟨rfl, hb5⟩
  have B5 := Lib.hid (B4.out.trans (hb5.mono B4.out.size))
  clear hb5 hrd
  go_wp2_with fail
  refine (cRetired_nil n _).mono ?_
  rintro e w5' ⟨rfl, rfl⟩
  go_wp2_with fail
  refine (cGen_nil _).mono ?_
  rintro e w5' ⟨rfl, rfl⟩
  go_wp2_with fail
  refine (cUsed_nil _).mono ?_
  rintro e w5' ⟨rfl, rfl⟩
  go_wp2_with fail
  refine (cKeys_nil _).mono ?_
  rintro e w5' ⟨rfl, rfl⟩
  go_wp2_with fail
  refine (cStaged_nil _).mono ?_
  rintro e w5' ⟨rfl, rfl⟩
  go_wp2_with fail
  refine (cEntries_nil _).mono ?_
  rintro e w5' ⟨rfl, rfl⟩
  go_wp2_with fail
  refine (cTombs_nil _).mono ?_
  rintro e w5' ⟨rfl, rfl⟩
  go_wp2_with fail
  refine (cNotes_nil _).mono ?_
  rintro e w5' ⟨rfl, rfl⟩
  go_wp2_with fail
  go_ret
  exact ⟨rfl, B5.out⟩
end
end Go.Proofs.YtmkccblcmiflfaaGreat
