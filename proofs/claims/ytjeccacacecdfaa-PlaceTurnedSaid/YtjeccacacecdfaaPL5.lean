/- The fixed fact awake of the laws on choices returns true. No condition beyond those that each theorem states. -/
import Derived.Test.YtjeccacacecdfaaPL4
namespace Go.Proofs.Ytjeccacacecdfaa
open Go.RowKit Go.Shelf Go.Maps

theorem frees_lit (w : World) : FreesIn (w.alloc (.cells #[.int .i64 0, .int .i64 3, .int .i64 1, .int .i64 5, .int .i64 2, .int .i64 5, .int .i64 3, .int .i64 0] 32)) (some ⟨w.heap.size, 0, none⟩) 4 [(0, 3), (1, 5), (2, 5), (3, 0)] := by
  refine ⟨rfl, .inr ⟨_, 0, rfl, by simp, fun i c r h => ?_⟩, fun p hp => ?_⟩
  · rw [(Blk.made w 32 _).cell, (Blk.made w 32 _).cell]
    match i, h with
    | 0, h => cases h; exact ⟨rfl, rfl⟩
    | 1, h => cases h; exact ⟨rfl, rfl⟩
    | 2, h => cases h; exact ⟨rfl, rfl⟩
    | 3, h => cases h; exact ⟨rfl, rfl⟩
    | i + 4, h => simp at h
  · simp only [List.mem_cons, List.not_mem_nil, or_false] at hp
    rcases hp with rfl | rfl | rfl | rfl <;> exact ⟨rfl, rfl⟩
def l14 : List (Int × Int) := [(0, 3), (1, 5), (2, 5), (3, 0)]
theorem m14a : metM l14 [] = [(0, 3), (1, 5), (2, 5)] := by decide
theorem m14b : metM l14 [1] = [(0, 3), (2, 5)] := by decide
theorem r14a : Ranked (metM l14 []) [1, 2, 0] := by rw [m14a]; exact ⟨by decide, by decide⟩
theorem r14b : Ranked (metM l14 [1]) [2, 0] := by rw [m14b]; exact ⟨by decide, by decide⟩

set_option maxRecDepth 100000 in
set_option maxHeartbeats 4000000 in
theorem awake14 (w : World) : Calls Try.prog 10 #[] w fun e w' => e = .returned (.bool true) ∧ Below w.heap.size w w' := by
  go_enter Try.func10, Try.ntmps10
  have HL := Lib.hid (frees_lit w)
  have B0 := Lib.hid ((Below.refl w.heap.size w).alloc (Nat.le_refl _) (.cells #[.int .i64 0, .int .i64 3, .int .i64 1, .int .i64 5, .int .i64 2, .int .i64 5, .int .i64 3, .int .i64 0] 32))
  go_wp2_with fail
  generalize hw0 : w.alloc _ = w0 at *
  have hw0s : w.heap.size < w0.heap.size := by rw [← hw0]; simp
  clear hw0
  refine (pick _ 4 4 l14 2 none 0 0 [] _ HL.out (IntsIn.nil _ _) (by decide) (by decide)).mono ?_
  rintro e w1 ⟨hb1, h⟩
  rcases h with ⟨hno, _⟩ | ⟨m, S, g, hm, _, hS, rfl, hg, hr⟩
  · exact absurd ⟨by decide, by rw [m14a]; decide⟩ hno
  obtain rfl : m = 2 := by omega
  clear hm
  obtain rfl := hS.one r14a
  have I1 := Lib.hid (show IntsIn w1 (some ⟨g, 0, none⟩) 2 [1, 2] from RowAt.ints hr)
  have L1 := Lib.hid (HL.out.below hb1)
  have B1 := Lib.hid (B0.out.trans (hb1.mono (by omega)))
  have hz1 := hb1.size
  clear hS hr hb1
  go_wp2_with fail
  have ab := (Below.refl w1.heap.size w1).alloc (Nat.le_refl _) (.cells #[.int .i64 1] 3)
  have L1' := Lib.hid (L1.out.below ab)
  have I1' := Lib.hid (I1.out.below ab)
  have B1' := Lib.hid (B1.out.alloc B1.out.size (.cells #[.int .i64 1] 3))
  have K1 := Lib.hid (ints_lit w1 [1])
  clear ab
  refine (pick _ 4 4 l14 2 _ 1 1 [1] _ L1'.out K1.out (by decide) (by decide)).mono ?_
  rintro e w2 ⟨hb2, h⟩
  rcases h with ⟨hno, _⟩ | ⟨m, S, g2, hm, _, hS, rfl, hg2, hr⟩
  · exact absurd ⟨by decide, by rw [m14b]; decide⟩ hno
  obtain rfl : m = 2 := by omega
  clear hm
  obtain rfl := hS.one r14b
  have I2 := Lib.hid (show IntsIn w2 (some ⟨g2, 0, none⟩) 2 [2, 0] from RowAt.ints hr)
  have J1 := Lib.hid (I1'.out.below hb2)
  have L2 := Lib.hid (L1'.out.below hb2)
  have B2 := Lib.hid (B1'.out.trans (hb2.mono B1'.out.size))
  clear hS hr hb2 L1' I1' B1' K1 L1 I1 B1
  go_wp2_with fail
  refine (pick _ 4 4 l14 4 none 0 0 [] _ L2.out (IntsIn.nil _ _) (by decide) (by decide)).mono ?_
  rintro e w3 ⟨hb3, h⟩
  rcases h with ⟨_, rfl⟩ | ⟨m, S, g3, hm, hm2, hS, rfl, hg3, hr⟩
  · have I3 := Lib.hid (I2.out.below hb3)
    have J3 := Lib.hid (J1.out.below hb3)
    have B3 := Lib.hid (B2.out.trans (hb3.mono B2.out.size))
    clear hb3 I2 J1 B2 L2
    go_wp2_with fail
    have ab := (Below.refl w3.heap.size w3).alloc (Nat.le_refl _) (.cells #[.int .i64 1, .int .i64 2] 3)
    refine (same _ _ 2 2 2 2 [1, 2] [1, 2] _ (J3.out.below ab) (ints_lit w3 [1, 2]) (by decide) (by decide)).mono ?_
    rintro e w4 ⟨rfl, hb4⟩
    have I4 := Lib.hid ((I3.out.below ab).below hb4)
    have B4 := Lib.hid ((B3.out.alloc B3.out.size _).trans (hb4.mono (B3.out.alloc B3.out.size _).size))
    clear hb4 ab
    go_wp2_with fail
    have ab := (Below.refl w4.heap.size w4).alloc (Nat.le_refl _) (.cells #[.int .i64 2, .int .i64 0] 3)
    refine (same _ _ 2 2 2 2 [2, 0] [2, 0] _ (I4.out.below ab) (ints_lit w4 [2, 0]) (by decide) (by decide)).mono ?_
    rintro e w5 ⟨rfl, hb5⟩
    have B5 := Lib.hid ((B4.out.alloc B4.out.size _).trans (hb5.mono (B4.out.alloc B4.out.size _).size))
    clear hb5 ab
    go_wp2_with fail
    go_ret
    exact ⟨rfl, B5.out⟩
  · exfalso
    rw [m14a] at hm2
    have : m = 4 := by omega
    subst this
    exact absurd hm2 (by decide)
end Go.Proofs.Ytjeccacacecdfaa
