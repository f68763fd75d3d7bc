/- What the rows' lists give: the table of powers of ten, the two errors of strconv. No condition beyond those that each theorem states. -/
import Derived.Test.YtkkmojbaoflafaaDoorY5
import Derived.Test.YtkkmojbaoflafaaDoorCards
import Derived.Test.YtkkmojbaoflafaaDoorTie
import Derived.ProofKit
import Derived.OpenShut
import Derived.LaidMore
import Derived.Lay
import Derived.SevenTiedAt
import Derived.Stop.LaidErr
import Derived.Lib.LaidTab
namespace Go.Proofs.YtkkmojbaoflafaaDoor
open Go.ChangeShapes Go.WideShapes Go.ChangeAt Go.RowKit

theorem gPow : Tryd.prog.globalNamed "internal/strconv.uint64pow10" = some 1 := by kernel_rfl
theorem gSyn : Tryd.prog.globalNamed "strconv.ErrSyntax" = some 2 := by kernel_rfl
theorem gRng : Tryd.prog.globalNamed "strconv.ErrRange" = some 3 := by kernel_rfl
theorem gPowT : (Tryd.prog.globals[1]?).map (·.type) = some 113 := by kernel_rfl
theorem gSynT : (Tryd.prog.globals[2]?).map (·.type) = some 75 := by kernel_rfl
theorem gRngT : (Tryd.prog.globals[3]?).map (·.type) = some 75 := by kernel_rfl
theorem cellsPow : Tryd.prog.cellsOf 113 = 20 := by kernel_rfl
theorem cells64 : Tryd.prog.cellsOf 82 = 1 := by kernel_rfl
theorem cellsErr : Tryd.prog.cellsOf 133 = 1 := by kernel_rfl
theorem cellsStr : Tryd.prog.cellsOf 9 = 1 := by kernel_rfl
theorem star : "*" ++ "errors.errorString" = "*errors.errorString" := by decide
theorem row131 (u : TypeId) (h : Tryd.prog.typeName? 3 u = some "*errors.errorString") : u = 131 :=
  typeName_ptr_named (nm := "errors.errorString") (by rw [star]; kernel_rfl) (by kernel_rfl) (by decide) u (by rw [star]; exact h)
theorem pow_datum : (Rows.laid_internal_strconv_uint64pow10 : DataW Unit) = Lib.tabData .u64 Lib.pow10Tab := by kernel_rfl
theorem env_laid {W : World} (h : laidMetH Tryd.prog Rows.taleOverRow.laid W) : Env W := by
  rw [MakeChecks.laidMetH_plain _ _ _ (by kernel_rfl)] at h
  have h3 : laidMet Tryd.prog (("internal/strconv.uint64pow10", Rows.laid_internal_strconv_uint64pow10) :: _) W := h.tail.tail
  have h5 : laidMet Tryd.prog (("strconv.ErrRange", Rows.laid_strconv_ErrRange) :: ("strconv.ErrSyntax", Rows.laid_strconv_ErrSyntax) :: _) W := h.tail.tail.tail.tail
  rw [pow_datum] at h3
  obtain ⟨a, s, hv, _⟩ := laid_sentinel h5 gRng gRngT Tryd.underlying75 row131 Tryd.underlying131 Tryd.underlying133 rfl rfl Tryd.underlying9 cellsErr cellsStr
  obtain ⟨a2, s2, hv2, _⟩ := laid_sentinel h5.tail gSyn gSynT Tryd.underlying75 row131 Tryd.underlying131 Tryd.underlying133 rfl rfl Tryd.underlying9 cellsErr cellsStr
  exact ⟨Lib.tabIs_of_head gPow gPowT Tryd.underlying113 Tryd.underlying82 cells64 cellsPow h3, ⟨_, _, hv2⟩, ⟨_, _, hv⟩⟩
theorem laidOut : laidOutB Tryd.prog = true := by kernel_rfl
theorem own : ownKnob Tryd.prog.godebug = none := by kernel_rfl
end Go.Proofs.YtkkmojbaoflafaaDoor
