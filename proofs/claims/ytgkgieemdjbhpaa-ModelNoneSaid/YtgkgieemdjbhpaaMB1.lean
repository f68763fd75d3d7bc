/- The law ModelNone returns true on values. No condition beyond those that each theorem states. -/
import Derived.Test.YtgkgieemdjbhpaaMA7
namespace Go.Proofs.Ytgkgieemdjbhpaa
open Go.RowKit Go.Maps

theorem mText_none (w : World) : Calls Try.prog 16 #[.pointer none] w fun e w' => e = .returned (.string ⟨#[]⟩) ∧ w = w' := mText_nil w
set_option maxHeartbeats 4000000 in
theorem modelNone_walk (k : Value) (A : Option Addr) (n c : Nat) (w : World) :
    Calls Try.prog 6 #[k, .slice A n c] w fun e w' => e = .returned (.bool true) ∧ Below w.heap.size w w' := by
  go_enter Try.func6, Try.ntmps6
  go_wp2_with (first
    | (go_at_call 18; refine (mGet_nil _ _).mono ?_; rintro e w1 ⟨rfl, rfl⟩)
    | (go_at_call 20; refine (awake22 _).mono ?_; rintro e w2 ⟨rfl, hb2⟩)
    | (go_at_call 11; refine (mPut_nil _ _ _).mono ?_; rintro e w3 ⟨rfl, rfl⟩)
    | (go_at_call 9; refine (mDelete_nil _ _).mono ?_; rintro e w4 ⟨rfl, rfl⟩)
    | (go_at_call 14; refine (mKeys_nil _).mono ?_; rintro e w5 ⟨rfl, rfl⟩)
    | (go_at_call 16; refine (mText_none _).mono ?_; rintro e w6 ⟨rfl, rfl⟩))
  go_ret
  exact ⟨rfl, hb2⟩
end Go.Proofs.Ytgkgieemdjbhpaa
