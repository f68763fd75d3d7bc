/-
  DERIVED. GIVEN WITH THE SEED: THE CARDS: each row of YtkkmojbaoflafaaDoorRows.lean that lists a variable, with what it lists TIED to the program's text (the seventh form; the later family's looks); each row that meets fmt, with fmt's text TOLD by the authors' own Lean function (tested against real Go, not proved from fmt's source: count such statements apart). THE CARD IS WHAT COUNTS. Prove the row's statement (the work); the ties are given (YtkkmojbaoflafaaDoorTie.lean); close each card by the builder's one call (the guide's Derived/Test/ToyasCard.lean, 'card_holds'). Laid BY PROGRAM, IN A SANDBOX (cutbox-door.mjs). By AI agents, Wed Nov 11 2026. No macro, syntax, notation, axiom, sorry.
-/
import Derived.Test.YtkkmojbaoflafaaDoorRows
import GoSem.ClaimSeven
namespace Go.Proofs.YtkkmojbaoflafaaDoor
namespace Rows

/-- THE TIED CARD OF 'kistlaw24.TaleLines'. -/
def taleLinesCard : Claim7 := { stood := { row := taleLinesRow, standIns := [], harness := (true, "caa206cce1a0a44c8a6acfff8a9ed56e22636ea2ba5cbe11e301c1b3f65261fc"), looks := true }, kinds := [], alts := [], laidByText := true, laidKinds := [.data, .data, .data, .data, .sentinel, .sentinel, .pinned], laidTests := true, laidLooks := .later }
def TaleLinesCardSaid : Prop := Claim7.holds Tryd.pinned (.plain (OpenSpec.ofChange taleLinesSpec)) taleLinesCard

/-- THE TIED CARD OF 'kistlaw24.TaleSteps'. -/
def taleStepsCard : Claim7 := { stood := { row := taleStepsRow, standIns := [], harness := (true, "caa206cce1a0a44c8a6acfff8a9ed56e22636ea2ba5cbe11e301c1b3f65261fc"), looks := true }, kinds := [], alts := [], laidByText := true, laidKinds := [.data, .data, .data, .data, .sentinel, .sentinel, .pinned], laidTests := true, laidLooks := .later }
def TaleStepsCardSaid : Prop := Claim7.holds Tryd.pinned (.plain (OpenSpec.ofChange taleStepsSpec)) taleStepsCard

/-- THE TIED CARD OF 'kistlaw24.TaleReads'. -/
def taleReadsCard : Claim7 := { stood := { row := taleReadsRow, standIns := [], harness := (true, "caa206cce1a0a44c8a6acfff8a9ed56e22636ea2ba5cbe11e301c1b3f65261fc"), looks := true }, kinds := [], alts := [], laidByText := true, laidKinds := [.data, .data, .data, .data, .sentinel, .sentinel, .pinned], laidTests := true, laidLooks := .later }
def TaleReadsCardSaid : Prop := Claim7.holds Tryd.pinned (.plain (OpenSpec.ofChange taleReadsSpec)) taleReadsCard

/-- THE TIED CARD OF 'kistlaw24.TaleMany'. -/
def taleManyCard : Claim7 := { stood := { row := taleManyRow, standIns := [], harness := (true, "caa206cce1a0a44c8a6acfff8a9ed56e22636ea2ba5cbe11e301c1b3f65261fc"), looks := true }, kinds := [], alts := [], laidByText := true, laidKinds := [.data, .data, .data, .data, .sentinel, .sentinel, .pinned], laidTests := true, laidLooks := .later }
def TaleManyCardSaid : Prop := Claim7.holds Tryd.pinned (.plain (OpenSpec.ofChange taleManySpec)) taleManyCard

/-- THE TIED CARD OF 'kistlaw24.TaleUnlike'. -/
def taleUnlikeCard : Claim7 := { stood := { row := taleUnlikeRow, standIns := [], harness := (true, "caa206cce1a0a44c8a6acfff8a9ed56e22636ea2ba5cbe11e301c1b3f65261fc"), looks := true }, kinds := [], alts := [], laidByText := true, laidKinds := [.data, .data, .data, .data, .sentinel, .sentinel, .pinned], laidTests := true, laidLooks := .later }
def TaleUnlikeCardSaid : Prop := Claim7.holds Tryd.pinned (.plain (OpenSpec.ofChange taleUnlikeSpec)) taleUnlikeCard

/-- THE TIED CARD OF 'kistlaw24.TaleOver'. -/
def taleOverCard : Claim7 := { stood := { row := taleOverRow, standIns := [], harness := (true, "caa206cce1a0a44c8a6acfff8a9ed56e22636ea2ba5cbe11e301c1b3f65261fc"), looks := true }, kinds := [], alts := [], laidByText := true, laidKinds := [.data, .data, .data, .data, .sentinel, .sentinel, .pinned], laidTests := true, laidLooks := .later }
def TaleOverCardSaid : Prop := Claim7.holds Tryd.pinned (.plain (OpenSpec.ofChange taleOverSpec)) taleOverCard

/-- THE SECOND FORM's CARD OF 'kistlaw24.TaleLines'. -/
def taleLinesUptoCard : Claim7 := { stood := { row := taleLinesUptoRow, standIns := [], harness := (true, "caa206cce1a0a44c8a6acfff8a9ed56e22636ea2ba5cbe11e301c1b3f65261fc"), looks := true }, kinds := [], alts := [], laidByText := true, laidKinds := [.data, .data, .data, .data, .sentinel, .sentinel, .pinned], laidTests := true, laidLooks := .later }
def TaleLinesUptoCardSaid : Prop := Claim7.holds Tryd.pinned (.plain (OpenSpec.upto taleLinesSpec)) taleLinesUptoCard

/-- THE SECOND FORM's CARD OF 'kistlaw24.TaleSteps'. -/
def taleStepsUptoCard : Claim7 := { stood := { row := taleStepsUptoRow, standIns := [], harness := (true, "caa206cce1a0a44c8a6acfff8a9ed56e22636ea2ba5cbe11e301c1b3f65261fc"), looks := true }, kinds := [], alts := [], laidByText := true, laidKinds := [.data, .data, .data, .data, .sentinel, .sentinel, .pinned], laidTests := true, laidLooks := .later }
def TaleStepsUptoCardSaid : Prop := Claim7.holds Tryd.pinned (.plain (OpenSpec.upto taleStepsSpec)) taleStepsUptoCard

/-- THE SECOND FORM's CARD OF 'kistlaw24.TaleReads'. -/
def taleReadsUptoCard : Claim7 := { stood := { row := taleReadsUptoRow, standIns := [], harness := (true, "caa206cce1a0a44c8a6acfff8a9ed56e22636ea2ba5cbe11e301c1b3f65261fc"), looks := true }, kinds := [], alts := [], laidByText := true, laidKinds := [.data, .data, .data, .data, .sentinel, .sentinel, .pinned], laidTests := true, laidLooks := .later }
def TaleReadsUptoCardSaid : Prop := Claim7.holds Tryd.pinned (.plain (OpenSpec.upto taleReadsSpec)) taleReadsUptoCard

/-- THE SECOND FORM's CARD OF 'kistlaw24.TaleMany'. -/
def taleManyUptoCard : Claim7 := { stood := { row := taleManyUptoRow, standIns := [], harness := (true, "caa206cce1a0a44c8a6acfff8a9ed56e22636ea2ba5cbe11e301c1b3f65261fc"), looks := true }, kinds := [], alts := [], laidByText := true, laidKinds := [.data, .data, .data, .data, .sentinel, .sentinel, .pinned], laidTests := true, laidLooks := .later }
def TaleManyUptoCardSaid : Prop := Claim7.holds Tryd.pinned (.plain (OpenSpec.upto taleManySpec)) taleManyUptoCard

/-- THE SECOND FORM's CARD OF 'kistlaw24.TaleUnlike'. -/
def taleUnlikeUptoCard : Claim7 := { stood := { row := taleUnlikeUptoRow, standIns := [], harness := (true, "caa206cce1a0a44c8a6acfff8a9ed56e22636ea2ba5cbe11e301c1b3f65261fc"), looks := true }, kinds := [], alts := [], laidByText := true, laidKinds := [.data, .data, .data, .data, .sentinel, .sentinel, .pinned], laidTests := true, laidLooks := .later }
def TaleUnlikeUptoCardSaid : Prop := Claim7.holds Tryd.pinned (.plain (OpenSpec.upto taleUnlikeSpec)) taleUnlikeUptoCard

/-- THE SECOND FORM's CARD OF 'kistlaw24.TaleOver'. -/
def taleOverUptoCard : Claim7 := { stood := { row := taleOverUptoRow, standIns := [], harness := (true, "caa206cce1a0a44c8a6acfff8a9ed56e22636ea2ba5cbe11e301c1b3f65261fc"), looks := true }, kinds := [], alts := [], laidByText := true, laidKinds := [.data, .data, .data, .data, .sentinel, .sentinel, .pinned], laidTests := true, laidLooks := .later }
def TaleOverUptoCardSaid : Prop := Claim7.holds Tryd.pinned (.plain (OpenSpec.upto taleOverSpec)) taleOverUptoCard
end Rows
end Go.Proofs.YtkkmojbaoflafaaDoor
