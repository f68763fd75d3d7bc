/- The law CartNone returns true on values. No condition beyond those that each theorem states. -/
import Derived.Test.YtiiilimmjoadeaaCa9
namespace Go.Proofs.Ytiiilimmjoadeaa
open Go.RowKit

set_option maxRecDepth 100000 in
set_option maxHeartbeats 4000000 in
theorem cartNone_walk (n : Int) (A : Option Addr) (m c : Nat) (w : World) : Calls Try.prog 8 #[.int .i64 n, .slice A m c] w fun e w' => e = .returned (.bool true) ∧ Below w.heap.size w w' := by
  go_enter Try.func8, Try.ntmps8
  go_wp2_with (first
    | (go_at_call 14; refine (append_bad _ A m c _ (.inl rfl) (.inl rfl)).mono ?_; rintro e w1 ⟨rfl, rfl⟩)
    | (go_at_call 16; refine (read_nil n _).mono ?_; rintro e w1 ⟨rfl, rfl⟩)
    | (go_at_call 15; refine (awake07 _).mono ?_; rintro e w2 ⟨rfl, hb2⟩)
    | (go_at_call 18; refine (rot_no _ n _ (.inl rfl)).mono ?_; rintro e w3 ⟨rfl, hb3⟩)
    | (go_at_call 17; refine (tear_off _ n _ (.inl rfl)).mono ?_; rintro e w4 ⟨rfl, hb4⟩)
    | (go_at_call 26; refine (lose_no _ _ (.inl rfl)).mono ?_; rintro e w5 ⟨rfl, rfl⟩)
    | (go_at_call 25; refine (lost_nil _).mono ?_; rintro e w5 ⟨rfl, rfl⟩)
    | (go_at_call 19; refine (len_nil _).mono ?_; rintro e w5 ⟨rfl, rfl⟩)
    | (go_at_call 20; refine (room_off _ _ (.inl rfl)).mono ?_; rintro e w5 ⟨rfl, rfl⟩))
  go_ret
  exact ⟨rfl, hb2.trans ((hb3.mono hb2.size).trans (hb4.mono (Nat.le_trans hb2.size hb3.size)))⟩
end Go.Proofs.Ytiiilimmjoadeaa
