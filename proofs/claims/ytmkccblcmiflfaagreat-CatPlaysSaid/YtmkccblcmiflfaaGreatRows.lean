/-
  No cell of these rows narrows 'for every input' (looked for: loops, veiled, ifaces, maps, wideKeys, modest, calm, conditions, laid).
  DERIVED. THE GIVEN ROWS OF THIS SEAT. 4 by the template 'for every input the law returns true; each argument reads behind the call as it read before'; 0 by the template 'total and deterministic' (their statements: YtmkccblcmiflfaaGreatTotals.lean).
  GIVEN WITH THE SEED: the statements are not yours to turn. If you find one false, say at which input.
  Laid BY PROGRAM, IN A SANDBOX (cutbox-rows.mjs): the forced cells as the released guide's own fill.sh prints them over the translation cef6d8a955b3adf5… (all of the seat's roots in one cut). By AI agents, Wed Nov 11 2026. No macro, syntax, notation, axiom, sorry.
-/
import Derived.Test.YtmkccblcmiflfaaGreatChecked
import GoSem.Claim
import GoSem.ClaimJoined
import GoSem.ClaimMapViews
import Derived.JoinedTies
import Derived.KernelRfl
namespace Go.Proofs.YtmkccblcmiflfaaGreat
/- THE CELL 'sum', in the pinned program and in every row, IS THE sha256 OF THE DUMP (.gsa) THAT YtmkccblcmiflfaaGreatProg.lean LOADS. Nothing in Lean hashes anything: it is a label: what it is worth is what the hold of that sum in a sandbox is worth. -/
noncomputable def Tryz.pinned : Pinned := { name := "ytmkccblcmiflfaagreat", sum := "cef6d8a955b3adf572742e825b55f958bcf9826abec68fb3db07c9d66d66a27f", checked := Tryz.checked }
namespace Rows
def none {H : Type} : Left H := { results := [], args := [] }

/-- 'kistlaw13.CatNotes': WHATEVER THE INPUT: true; the input reads as it did. -/
def catNotesSpec : ChangeSpec := { name := "catNotes", fn := fun _ => fun
  | [d1, d2] => { results := [.lit (.bool true)], args := [d1, d2] }
  | _ => none }
def catNotesRow : OpenClaim := { program := "ytmkccblcmiflfaagreat", sum := "cef6d8a955b3adf572742e825b55f958bcf9826abec68fb3db07c9d66d66a27f", func := "kist/kistlaw13.CatNotes", spec := "catNotes", unfollowed := true, recurses := true, apart := false }
def CatNotesSaid : Prop := catNotesRow.holds Tryz.pinned (OpenSpec.ofChange catNotesSpec)

/-- ITS FALSE NEIGHBOUR: 'it returns false'. Refute it at one input. -/
def catNotesWrong : ChangeSpec := { name := "catNotes", fn := fun _ => fun
  | [d1, d2] => { results := [.lit (.bool false)], args := [d1, d2] }
  | _ => none }
def CatNotesWrongFalsely : Prop := catNotesRow.holds Tryz.pinned (OpenSpec.ofChange catNotesWrong)

/-- 'kistlaw13.CatHad': WHATEVER THE INPUT: true; the input reads as it did. -/
def catHadSpec : ChangeSpec := { name := "catHad", fn := fun _ => fun
  | [d] => { results := [.lit (.bool true)], args := [d] }
  | _ => none }
def catHadRow : OpenClaim := { program := "ytmkccblcmiflfaagreat", sum := "cef6d8a955b3adf572742e825b55f958bcf9826abec68fb3db07c9d66d66a27f", func := "kist/kistlaw13.CatHad", spec := "catHad", unfollowed := true, recurses := true, apart := false }
def CatHadSaid : Prop := catHadRow.holds Tryz.pinned (OpenSpec.ofChange catHadSpec)

/-- ITS FALSE NEIGHBOUR: 'it returns false'. Refute it at one input. -/
def catHadWrong : ChangeSpec := { name := "catHad", fn := fun _ => fun
  | [d] => { results := [.lit (.bool false)], args := [d] }
  | _ => none }
def CatHadWrongFalsely : Prop := catHadRow.holds Tryz.pinned (OpenSpec.ofChange catHadWrong)

/-- 'kistlaw13.CatPlays': WHATEVER THE INPUT: true; the input reads as it did. -/
def catPlaysSpec : ChangeSpec := { name := "catPlays", fn := fun _ => fun
  | [d1, d2] => { results := [.lit (.bool true)], args := [d1, d2] }
  | _ => none }
def catPlaysRow : OpenClaim := { program := "ytmkccblcmiflfaagreat", sum := "cef6d8a955b3adf572742e825b55f958bcf9826abec68fb3db07c9d66d66a27f", func := "kist/kistlaw13.CatPlays", spec := "catPlays", unfollowed := true, recurses := true, apart := false }
def CatPlaysSaid : Prop := catPlaysRow.holds Tryz.pinned (OpenSpec.ofChange catPlaysSpec)

/-- ITS FALSE NEIGHBOUR: 'it returns false'. Refute it at one input. -/
def catPlaysWrong : ChangeSpec := { name := "catPlays", fn := fun _ => fun
  | [d1, d2] => { results := [.lit (.bool false)], args := [d1, d2] }
  | _ => none }
def CatPlaysWrongFalsely : Prop := catPlaysRow.holds Tryz.pinned (OpenSpec.ofChange catPlaysWrong)

/-- 'kistlaw13.CatNone': WHATEVER THE INPUT: true; the input reads as it did. -/
def catNoneSpec : ChangeSpec := { name := "catNone", fn := fun _ => fun
  | [d1, d2, d3] => { results := [.lit (.bool true)], args := [d1, d2, d3] }
  | _ => none }
def catNoneRow : OpenClaim := { program := "ytmkccblcmiflfaagreat", sum := "cef6d8a955b3adf572742e825b55f958bcf9826abec68fb3db07c9d66d66a27f", func := "kist/kistlaw13.CatNone", spec := "catNone", unfollowed := true, recurses := true, apart := false }
def CatNoneSaid : Prop := catNoneRow.holds Tryz.pinned (OpenSpec.ofChange catNoneSpec)

/-- ITS FALSE NEIGHBOUR: 'it returns false'. Refute it at one input. -/
def catNoneWrong : ChangeSpec := { name := "catNone", fn := fun _ => fun
  | [d1, d2, d3] => { results := [.lit (.bool false)], args := [d1, d2, d3] }
  | _ => none }
def CatNoneWrongFalsely : Prop := catNoneRow.holds Tryz.pinned (OpenSpec.ofChange catNoneWrong)

/- THE SECOND FORM. 'bulk': how many values and letters a reading holds, each counted each time it is reached (what is shared counts as often as it is met; a slice's spare places count too). A statement '..UptoSaid' is the law's where the arguments, and the package variables that the reading takes, are together of bulk at most 1048576: NARROWER than '..Said'. Prove '..Said' where nothing that the law and all that it calls make is longer than what came in: it says more and counts as full. Else prove '..UptoSaid'. A law counts once. -/
mutual
def uptoBulk {H : Type} : DataW H → Nat
  | .lit (.string bytes) => bytes.length + 1
  | .lit _ => 1
  | .nil => 1
  | .ptr d => uptoBulk d + 1
  | .slice elems spare => uptoBulkAll elems + uptoBulkAll spare + 1
  | .agg parts => uptoBulkAll parts + 1
  | .iface _ d => uptoBulk d + 1
  | .map entries => uptoBulkEntries entries + 1
  | .held _ => 1
def uptoBulkAll {H : Type} : List (DataW H) → Nat
  | [] => 0
  | d :: r => uptoBulk d + uptoBulkAll r
def uptoBulkEntries {H : Type} : List (Lit × DataW H) → Nat
  | [] => 0
  | x :: r => uptoBulkEntry x + uptoBulkEntries r
def uptoBulkEntry {H : Type} : Lit × DataW H → Nat
  | (.string bytes, d) => bytes.length + uptoBulk d + 1
  | (_, d) => uptoBulk d + 1
 end
def uptoSmall : (H : Type) → List (DataW H) → Bool := fun _ ds => decide (uptoBulkAll ds ≤ 1048576)
def OpenSpec.upto (s : _root_.Go.ChangeSpec) : _root_.Go.OpenSpec := { _root_.Go.OpenSpec.ofChange s with cond := some uptoSmall }

/-- 'kistlaw13.CatNotes', WHERE WHAT IT READS IS OF BULK AT MOST 1048576: true; the input reads as it did. -/
def catNotesUptoRow : OpenClaim := { program := "ytmkccblcmiflfaagreat", sum := "cef6d8a955b3adf572742e825b55f958bcf9826abec68fb3db07c9d66d66a27f", func := "kist/kistlaw13.CatNotes", spec := "catNotes", unfollowed := true, recurses := true, apart := false, narrowed := true }
def CatNotesUptoSaid : Prop := catNotesUptoRow.holds Tryz.pinned (OpenSpec.upto catNotesSpec)

/-- 'kistlaw13.CatHad', WHERE WHAT IT READS IS OF BULK AT MOST 1048576: true; the input reads as it did. -/
def catHadUptoRow : OpenClaim := { program := "ytmkccblcmiflfaagreat", sum := "cef6d8a955b3adf572742e825b55f958bcf9826abec68fb3db07c9d66d66a27f", func := "kist/kistlaw13.CatHad", spec := "catHad", unfollowed := true, recurses := true, apart := false, narrowed := true }
def CatHadUptoSaid : Prop := catHadUptoRow.holds Tryz.pinned (OpenSpec.upto catHadSpec)

/-- 'kistlaw13.CatPlays', WHERE WHAT IT READS IS OF BULK AT MOST 1048576: true; the input reads as it did. -/
def catPlaysUptoRow : OpenClaim := { program := "ytmkccblcmiflfaagreat", sum := "cef6d8a955b3adf572742e825b55f958bcf9826abec68fb3db07c9d66d66a27f", func := "kist/kistlaw13.CatPlays", spec := "catPlays", unfollowed := true, recurses := true, apart := false, narrowed := true }
def CatPlaysUptoSaid : Prop := catPlaysUptoRow.holds Tryz.pinned (OpenSpec.upto catPlaysSpec)

/-- 'kistlaw13.CatNone', WHERE WHAT IT READS IS OF BULK AT MOST 1048576: true; the input reads as it did. -/
def catNoneUptoRow : OpenClaim := { program := "ytmkccblcmiflfaagreat", sum := "cef6d8a955b3adf572742e825b55f958bcf9826abec68fb3db07c9d66d66a27f", func := "kist/kistlaw13.CatNone", spec := "catNone", unfollowed := true, recurses := true, apart := false, narrowed := true }
def CatNoneUptoSaid : Prop := catNoneUptoRow.holds Tryz.pinned (OpenSpec.upto catNoneSpec)

end Rows
end Go.Proofs.YtmkccblcmiflfaaGreat
