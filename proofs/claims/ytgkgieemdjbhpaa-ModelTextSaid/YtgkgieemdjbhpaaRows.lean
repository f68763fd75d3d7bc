/-
  No cell of these rows narrows 'for every input' (looked for: loops, veiled, ifaces, maps, wideKeys, modest, calm, conditions, laid).
  DERIVED. THE GIVEN ROWS OF THIS SEAT. 5 by the template 'for every input the law returns true; each argument reads behind the call as it read before'; 0 by the template 'total and deterministic' (their statements: YtgkgieemdjbhpaaTotals.lean).
  GIVEN WITH THE SEED: the statements are not yours to turn. If you find one false, say at which input.
  Laid BY PROGRAM, IN A SANDBOX (cutbox-rows.mjs): the forced cells as the released guide's own fill.sh prints them over the translation 469775d3ab95a21a… (all of the seat's roots in one cut). By AI agents, Wed Nov 11 2026. No macro, syntax, notation, axiom, sorry.
-/
import Derived.Test.YtgkgieemdjbhpaaChecked
import GoSem.Claim
import GoSem.ClaimJoined
import GoSem.ClaimMapViews
import Derived.JoinedTies
import Derived.KernelRfl
namespace Go.Proofs.Ytgkgieemdjbhpaa
/- THE CELL 'sum', in the pinned program and in every row, IS THE sha256 OF THE DUMP (.gsa) THAT YtgkgieemdjbhpaaProg.lean LOADS. Nothing in Lean hashes anything: it is a label: what it is worth is what the hold of that sum in a sandbox is worth. -/
noncomputable def Try.pinned : Pinned := { name := "ytgkgieemdjbhpaa", sum := "469775d3ab95a21a52727a8cb8073eb0fa685714efeb7c3897db8bfb4e114140", checked := Try.checked }
namespace Rows
def none {H : Type} : Left H := { results := [], args := [] }

/-- 'kistlaw22.ModelPlays': WHATEVER THE INPUT: true; the input reads as it did. -/
def modelPlaysSpec : ChangeSpec := { name := "modelPlays", fn := fun _ => fun
  | [d1, d2] => { results := [.lit (.bool true)], args := [d1, d2] }
  | _ => none }
def modelPlaysRow : OpenClaim := { program := "ytgkgieemdjbhpaa", sum := "469775d3ab95a21a52727a8cb8073eb0fa685714efeb7c3897db8bfb4e114140", func := "kist/kistlaw22.ModelPlays", spec := "modelPlays", unfollowed := true, recurses := true, apart := false }
def ModelPlaysSaid : Prop := modelPlaysRow.holds Try.pinned (OpenSpec.ofChange modelPlaysSpec)

/-- ITS FALSE NEIGHBOUR: 'it returns false'. Refute it at one input. -/
def modelPlaysWrong : ChangeSpec := { name := "modelPlays", fn := fun _ => fun
  | [d1, d2] => { results := [.lit (.bool false)], args := [d1, d2] }
  | _ => none }
def ModelPlaysWrongFalsely : Prop := modelPlaysRow.holds Try.pinned (OpenSpec.ofChange modelPlaysWrong)

/-- 'kistlaw22.ModelTrue': WHATEVER THE INPUT: true; the input reads as it did. -/
def modelTrueSpec : ChangeSpec := { name := "modelTrue", fn := fun _ => fun
  | [d] => { results := [.lit (.bool true)], args := [d] }
  | _ => none }
def modelTrueRow : OpenClaim := { program := "ytgkgieemdjbhpaa", sum := "469775d3ab95a21a52727a8cb8073eb0fa685714efeb7c3897db8bfb4e114140", func := "kist/kistlaw22.ModelTrue", spec := "modelTrue", unfollowed := true, recurses := true, apart := false }
def ModelTrueSaid : Prop := modelTrueRow.holds Try.pinned (OpenSpec.ofChange modelTrueSpec)

/-- ITS FALSE NEIGHBOUR: 'it returns false'. Refute it at one input. -/
def modelTrueWrong : ChangeSpec := { name := "modelTrue", fn := fun _ => fun
  | [d] => { results := [.lit (.bool false)], args := [d] }
  | _ => none }
def ModelTrueWrongFalsely : Prop := modelTrueRow.holds Try.pinned (OpenSpec.ofChange modelTrueWrong)

/-- 'kistlaw22.ModelOwn': WHATEVER THE INPUT: true; the input reads as it did. -/
def modelOwnSpec : ChangeSpec := { name := "modelOwn", fn := fun _ => fun
  | [d1, d2] => { results := [.lit (.bool true)], args := [d1, d2] }
  | _ => none }
def modelOwnRow : OpenClaim := { program := "ytgkgieemdjbhpaa", sum := "469775d3ab95a21a52727a8cb8073eb0fa685714efeb7c3897db8bfb4e114140", func := "kist/kistlaw22.ModelOwn", spec := "modelOwn", unfollowed := true, recurses := true, apart := false }
def ModelOwnSaid : Prop := modelOwnRow.holds Try.pinned (OpenSpec.ofChange modelOwnSpec)

/-- ITS FALSE NEIGHBOUR: 'it returns false'. Refute it at one input. -/
def modelOwnWrong : ChangeSpec := { name := "modelOwn", fn := fun _ => fun
  | [d1, d2] => { results := [.lit (.bool false)], args := [d1, d2] }
  | _ => none }
def ModelOwnWrongFalsely : Prop := modelOwnRow.holds Try.pinned (OpenSpec.ofChange modelOwnWrong)

/-- 'kistlaw22.ModelNone': WHATEVER THE INPUT: true; the input reads as it did. -/
def modelNoneSpec : ChangeSpec := { name := "modelNone", fn := fun _ => fun
  | [d1, d2] => { results := [.lit (.bool true)], args := [d1, d2] }
  | _ => none }
def modelNoneRow : OpenClaim := { program := "ytgkgieemdjbhpaa", sum := "469775d3ab95a21a52727a8cb8073eb0fa685714efeb7c3897db8bfb4e114140", func := "kist/kistlaw22.ModelNone", spec := "modelNone", unfollowed := true, recurses := true, apart := false }
def ModelNoneSaid : Prop := modelNoneRow.holds Try.pinned (OpenSpec.ofChange modelNoneSpec)

/-- ITS FALSE NEIGHBOUR: 'it returns false'. Refute it at one input. -/
def modelNoneWrong : ChangeSpec := { name := "modelNone", fn := fun _ => fun
  | [d1, d2] => { results := [.lit (.bool false)], args := [d1, d2] }
  | _ => none }
def ModelNoneWrongFalsely : Prop := modelNoneRow.holds Try.pinned (OpenSpec.ofChange modelNoneWrong)

/-- 'kistlaw22.ModelText': WHATEVER THE INPUT: true; the input reads as it did. -/
def modelTextSpec : ChangeSpec := { name := "modelText", fn := fun _ => fun
  | [d1, d2] => { results := [.lit (.bool true)], args := [d1, d2] }
  | _ => none }
def modelTextRow : OpenClaim := { program := "ytgkgieemdjbhpaa", sum := "469775d3ab95a21a52727a8cb8073eb0fa685714efeb7c3897db8bfb4e114140", func := "kist/kistlaw22.ModelText", spec := "modelText", unfollowed := true, recurses := true, apart := false }
def ModelTextSaid : Prop := modelTextRow.holds Try.pinned (OpenSpec.ofChange modelTextSpec)

/-- ITS FALSE NEIGHBOUR: 'it returns false'. Refute it at one input. -/
def modelTextWrong : ChangeSpec := { name := "modelText", fn := fun _ => fun
  | [d1, d2] => { results := [.lit (.bool false)], args := [d1, d2] }
  | _ => none }
def ModelTextWrongFalsely : Prop := modelTextRow.holds Try.pinned (OpenSpec.ofChange modelTextWrong)

/- THE SECOND FORM. 'bulk': how many values and letters a reading holds, each counted each time it is reached (what is shared counts as often as it is met; a slice's spare places count too). A statement '..UptoSaid' is the law's where the arguments, and the package variables that the reading takes, are together of bulk at most 1048576: NARROWER than '..Said'. Prove '..Said' where nothing that the law and all that it calls make is longer than what came in: it says more and counts as full. Else prove '..UptoSaid'. A law counts once. -/
mutual
def uptoBulk {H : Type} : DataW H → Nat
  | .lit (.string bytes) => bytes.length + 1
  | .lit _ => 1
  | .nil => 1
  | .ptr d => uptoBulk d + 1
  | .slice elems spare => uptoBulkAll elems + uptoBulkAll spare + 1
  | .agg parts => uptoBulkAll parts + 1
  | .iface _ d => uptoBulk d + 1
  | .map entries => uptoBulkEntries entries + 1
  | .held _ => 1
def uptoBulkAll {H : Type} : List (DataW H) → Nat
  | [] => 0
  | d :: r => uptoBulk d + uptoBulkAll r
def uptoBulkEntries {H : Type} : List (Lit × DataW H) → Nat
  | [] => 0
  | x :: r => uptoBulkEntry x + uptoBulkEntries r
def uptoBulkEntry {H : Type} : Lit × DataW H → Nat
  | (.string bytes, d) => bytes.length + uptoBulk d + 1
  | (_, d) => uptoBulk d + 1
 end
def uptoSmall : (H : Type) → List (DataW H) → Bool := fun _ ds => decide (uptoBulkAll ds ≤ 1048576)
def OpenSpec.upto (s : _root_.Go.ChangeSpec) : _root_.Go.OpenSpec := { _root_.Go.OpenSpec.ofChange s with cond := some uptoSmall }

/-- 'kistlaw22.ModelPlays', WHERE WHAT IT READS IS OF BULK AT MOST 1048576: true; the input reads as it did. -/
def modelPlaysUptoRow : OpenClaim := { program := "ytgkgieemdjbhpaa", sum := "469775d3ab95a21a52727a8cb8073eb0fa685714efeb7c3897db8bfb4e114140", func := "kist/kistlaw22.ModelPlays", spec := "modelPlays", unfollowed := true, recurses := true, apart := false, narrowed := true }
def ModelPlaysUptoSaid : Prop := modelPlaysUptoRow.holds Try.pinned (OpenSpec.upto modelPlaysSpec)

/-- 'kistlaw22.ModelTrue', WHERE WHAT IT READS IS OF BULK AT MOST 1048576: true; the input reads as it did. -/
def modelTrueUptoRow : OpenClaim := { program := "ytgkgieemdjbhpaa", sum := "469775d3ab95a21a52727a8cb8073eb0fa685714efeb7c3897db8bfb4e114140", func := "kist/kistlaw22.ModelTrue", spec := "modelTrue", unfollowed := true, recurses := true, apart := false, narrowed := true }
def ModelTrueUptoSaid : Prop := modelTrueUptoRow.holds Try.pinned (OpenSpec.upto modelTrueSpec)

/-- 'kistlaw22.ModelOwn', WHERE WHAT IT READS IS OF BULK AT MOST 1048576: true; the input reads as it did. -/
def modelOwnUptoRow : OpenClaim := { program := "ytgkgieemdjbhpaa", sum := "469775d3ab95a21a52727a8cb8073eb0fa685714efeb7c3897db8bfb4e114140", func := "kist/kistlaw22.ModelOwn", spec := "modelOwn", unfollowed := true, recurses := true, apart := false, narrowed := true }
def ModelOwnUptoSaid : Prop := modelOwnUptoRow.holds Try.pinned (OpenSpec.upto modelOwnSpec)

/-- 'kistlaw22.ModelNone', WHERE WHAT IT READS IS OF BULK AT MOST 1048576: true; the input reads as it did. -/
def modelNoneUptoRow : OpenClaim := { program := "ytgkgieemdjbhpaa", sum := "469775d3ab95a21a52727a8cb8073eb0fa685714efeb7c3897db8bfb4e114140", func := "kist/kistlaw22.ModelNone", spec := "modelNone", unfollowed := true, recurses := true, apart := false, narrowed := true }
def ModelNoneUptoSaid : Prop := modelNoneUptoRow.holds Try.pinned (OpenSpec.upto modelNoneSpec)

/-- 'kistlaw22.ModelText', WHERE WHAT IT READS IS OF BULK AT MOST 1048576: true; the input reads as it did. -/
def modelTextUptoRow : OpenClaim := { program := "ytgkgieemdjbhpaa", sum := "469775d3ab95a21a52727a8cb8073eb0fa685714efeb7c3897db8bfb4e114140", func := "kist/kistlaw22.ModelText", spec := "modelText", unfollowed := true, recurses := true, apart := false, narrowed := true }
def ModelTextUptoSaid : Prop := modelTextUptoRow.holds Try.pinned (OpenSpec.upto modelTextSpec)

end Rows
end Go.Proofs.Ytgkgieemdjbhpaa
