/- Texts joined: KC36. No condition beyond those that each theorem states. -/
import Derived.Test.YtmkccblcmiflfaaGreatPK6
import Derived.Laws.Cover1
namespace Go.Proofs.YtmkccblcmiflfaaGreat
open Go.RowKit Go.Maps Go.WideMaps

theorem wrap_in {x : Int} (h1 : -1000000 ≤ x) (h2 : x ≤ 1000000) : IntKind.i64.wrap x = x := by
  simp only [IntKind.wrap, IntKind.bits, IntKind.signed]
  simp
  omega
theorem below_of_drewR {B : Nat} {w w' : World} (h : Below B w w') : Below B w w'.drew := ⟨h.os, h.tape, h.output, h.size, h.block⟩
section
set_option maxHeartbeats 16000000
set_option maxRecDepth 100000
end
end Go.Proofs.YtmkccblcmiflfaaGreat
