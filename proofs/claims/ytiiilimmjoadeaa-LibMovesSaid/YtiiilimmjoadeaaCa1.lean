/- What slices.Clone and slices.Clip do to bytes. No condition beyond those that each theorem states. -/
import Derived.Test.YtiiilimmjoadeaaK4
import Derived.WalkSpells
import Derived.WalkLawsBesides
import Derived.Deep.RegionHeld3
import Derived.BigQuiet
import Derived.Deep.QuietTactic
namespace Go.Proofs.Ytiiilimmjoadeaa
open Go.RowKit

theorem byte_info : (Try.prog.info? 5).map (fun i => (i.zero, i.size, i.bytes)) = some (some (.int .u8 0), 1, 1) := by kernel_rfl
theorem own_made (W : World) {base g : Nat} (t : TypeId) (size : Nat) (hg : g = W.heap.size) (h : base ≤ g) : (W.alloc (.cells #[] t)).ownsRow base t size (.slice (some ⟨g, 0, none⟩) 0 0) 0 [] := by
  subst hg
  exact ⟨by simp, .inr ⟨_, 0, #[], rfl, h, heap_alloc_new _ _, Nat.le_refl _, by simp [maxLen], by simp, by simp⟩⟩

set_option maxHeartbeats 400000 in
theorem clone_nil (w : World) : Calls Try.prog 42 #[.slice none 0 0] w fun e w' => e = .returned (.slice none 0 0) ∧ w = w' := by
  have h1 : ∀ w, _ := fun w => Lib.run_eql_slice_nil (P := Try.prog) w 22 5 none 0 0 0 0 Try.underlying22
  go_enter Try.func42, Try.ntmps42
  go_wp2
  go_ret
  exact ⟨rfl, rfl⟩

/-- A copy: new memory. -/
def Fresh (w w' : World) (t : TypeId) (n : Nat) (vals : List Value) (v : Value) : Prop :=
  ∃ g cap, v = .slice (some ⟨g, 0, none⟩) n cap ∧ w.heap.size ≤ g ∧ n ≤ cap ∧ cap ≤ maxLen ∧ RowAt w' g t vals

set_option maxHeartbeats 400000 in
theorem clone_some (b off n c : Nat) (l : List UInt8) (w : World) (hm : n ≤ 1000000) (h : BytesIn w (some ⟨b, off, none⟩) n l) :
    Calls Try.prog 42 #[.slice (some ⟨b, off, none⟩) n c] w fun e w' => ∃ v, e = .returned v ∧ Fresh w w' 5 n (byteVals l) v ∧ Below w.heap.size w w' := by
  have h1 : ∀ w, _ := fun w => Lib.run_eql_slice_nil (P := Try.prog) w 22 5 (some ⟨b, off, none⟩) n c 0 0 Try.underlying22
  have H := Lib.hid h
  obtain ⟨i0, hi0, hz0, hz1, hz2⟩ := info_parts byte_info
  clear h
  go_enter Try.func42, Try.ntmps42
  go_wp2_with (at_builtin
               refine wpList_append_live _ rfl (.tmp 5) (.tmp 6) 22 rfl w.heap.size 5 i0 _ 1 1 Try.underlying22 hi0 hz0 hz1 hz2 rfl (by omega) w.heap.size 0 0 [] rfl (by exact own_made _ _ 1 rfl (Nat.le_refl _)) b off n c (byteVals l) rfl (by rw [byteVals_length, H.out.1, Nat.mul_one]) (by exact (H.out.below ((Below.refl _ _).alloc (Nat.le_refl _) _)).src) (byteVals_one _) (by simp only [maxLen]; omega) (by omega) (by simp) ?_
               intro g cap w1 hown hgr hat hlt)
  go_ret
  have hc := own_cap hown
  refine ⟨_, rfl, ⟨g, cap, by simp, ?_, by omega, hc.2, RowAt.of_own hown⟩, ((Below.refl _ _).alloc (Nat.le_refl _) _).grown hgr (by simp) (fun q hq => by have e := Option.some.inj hq; omega)⟩
  rcases hat with h | h
  · omega
  · rw [World.size_alloc] at h; omega

set_option maxHeartbeats 400000 in
theorem clip_any (g n c : Nat) (w : World) (hn : n ≤ c) :
    Calls Try.prog 44 #[.slice (some ⟨g, 0, none⟩) n c] w fun e w' => e = .returned (.slice (some ⟨g, 0, none⟩) n n) ∧ w = w' := by

  go_enter Try.func44, Try.ntmps44
  go_wp2
  go_ret
  exact ⟨rfl, rfl⟩
end Go.Proofs.Ytiiilimmjoadeaa
