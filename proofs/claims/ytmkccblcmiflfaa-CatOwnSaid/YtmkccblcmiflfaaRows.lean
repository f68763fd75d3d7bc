/-
  No cell of these rows narrows 'for every input' (looked for: loops, veiled, ifaces, maps, wideKeys, modest, calm, conditions, laid).
  DERIVED. THE GIVEN ROWS OF THIS SEAT. 3 by the template 'for every input the law returns true; each argument reads behind the call as it read before'; 0 by the template 'total and deterministic' (their statements: YtmkccblcmiflfaaTotals.lean).
  GIVEN WITH THE SEED: the statements are not yours to turn. If you find one false, say at which input.
  Laid BY PROGRAM, IN A SANDBOX (cutbox-rows.mjs): the forced cells as the released guide's own fill.sh prints them over the translation b92e23d8fa475934… (all of the seat's roots in one cut). By AI agents, Wed Nov 11 2026. No macro, syntax, notation, axiom, sorry.
-/
import Derived.Test.YtmkccblcmiflfaaChecked
import GoSem.Claim
import GoSem.ClaimJoined
import GoSem.ClaimMapViews
import Derived.JoinedTies
import Derived.KernelRfl
namespace Go.Proofs.Ytmkccblcmiflfaa
/- THE CELL 'sum', in the pinned program and in every row, IS THE sha256 OF THE DUMP (.gsa) THAT YtmkccblcmiflfaaProg.lean LOADS. Nothing in Lean hashes anything: it is a label: what it is worth is what the hold of that sum in a sandbox is worth. -/
noncomputable def Try.pinned : Pinned := { name := "ytmkccblcmiflfaa", sum := "b92e23d8fa4759343ccc4dc872e9d15a6735a1647a185c077d675cd32de15a35", checked := Try.checked }
namespace Rows
def none {H : Type} : Left H := { results := [], args := [] }

/-- 'kistlaw13.CatRefuses': WHATEVER THE INPUT: true; the input reads as it did. -/
def catRefusesSpec : ChangeSpec := { name := "catRefuses", fn := fun _ => fun
  | [d1, d2] => { results := [.lit (.bool true)], args := [d1, d2] }
  | _ => none }
def catRefusesRow : OpenClaim := { program := "ytmkccblcmiflfaa", sum := "b92e23d8fa4759343ccc4dc872e9d15a6735a1647a185c077d675cd32de15a35", func := "kist/kistlaw13.CatRefuses", spec := "catRefuses", unfollowed := true, recurses := true, apart := false }
def CatRefusesSaid : Prop := catRefusesRow.holds Try.pinned (OpenSpec.ofChange catRefusesSpec)

/-- ITS FALSE NEIGHBOUR: 'it returns false'. Refute it at one input. -/
def catRefusesWrong : ChangeSpec := { name := "catRefuses", fn := fun _ => fun
  | [d1, d2] => { results := [.lit (.bool false)], args := [d1, d2] }
  | _ => none }
def CatRefusesWrongFalsely : Prop := catRefusesRow.holds Try.pinned (OpenSpec.ofChange catRefusesWrong)

/-- 'kistlaw13.CatOwn': WHATEVER THE INPUT: true; the input reads as it did. -/
def catOwnSpec : ChangeSpec := { name := "catOwn", fn := fun _ => fun
  | [d1, d2, d3] => { results := [.lit (.bool true)], args := [d1, d2, d3] }
  | _ => none }
def catOwnRow : OpenClaim := { program := "ytmkccblcmiflfaa", sum := "b92e23d8fa4759343ccc4dc872e9d15a6735a1647a185c077d675cd32de15a35", func := "kist/kistlaw13.CatOwn", spec := "catOwn", unfollowed := true, recurses := true, apart := false }
def CatOwnSaid : Prop := catOwnRow.holds Try.pinned (OpenSpec.ofChange catOwnSpec)

/-- ITS FALSE NEIGHBOUR: 'it returns false'. Refute it at one input. -/
def catOwnWrong : ChangeSpec := { name := "catOwn", fn := fun _ => fun
  | [d1, d2, d3] => { results := [.lit (.bool false)], args := [d1, d2, d3] }
  | _ => none }
def CatOwnWrongFalsely : Prop := catOwnRow.holds Try.pinned (OpenSpec.ofChange catOwnWrong)

/-- 'kistlaw13.CatGone': WHATEVER THE INPUT: true; the input reads as it did. -/
def catGoneSpec : ChangeSpec := { name := "catGone", fn := fun _ => fun
  | [d1, d2, d3, d4] => { results := [.lit (.bool true)], args := [d1, d2, d3, d4] }
  | _ => none }
def catGoneRow : OpenClaim := { program := "ytmkccblcmiflfaa", sum := "b92e23d8fa4759343ccc4dc872e9d15a6735a1647a185c077d675cd32de15a35", func := "kist/kistlaw13.CatGone", spec := "catGone", unfollowed := true, recurses := true, apart := false }
def CatGoneSaid : Prop := catGoneRow.holds Try.pinned (OpenSpec.ofChange catGoneSpec)

/-- ITS FALSE NEIGHBOUR: 'it returns false'. Refute it at one input. -/
def catGoneWrong : ChangeSpec := { name := "catGone", fn := fun _ => fun
  | [d1, d2, d3, d4] => { results := [.lit (.bool false)], args := [d1, d2, d3, d4] }
  | _ => none }
def CatGoneWrongFalsely : Prop := catGoneRow.holds Try.pinned (OpenSpec.ofChange catGoneWrong)

/- THE SECOND FORM. 'bulk': how many values and letters a reading holds, each counted each time it is reached (what is shared counts as often as it is met; a slice's spare places count too). A statement '..UptoSaid' is the law's where the arguments, and the package variables that the reading takes, are together of bulk at most 1048576: NARROWER than '..Said'. Prove '..Said' where nothing that the law and all that it calls make is longer than what came in: it says more and counts as full. Else prove '..UptoSaid'. A law counts once. -/
mutual
def uptoBulk {H : Type} : DataW H → Nat
  | .lit (.string bytes) => bytes.length + 1
  | .lit _ => 1
  | .nil => 1
  | .ptr d => uptoBulk d + 1
  | .slice elems spare => uptoBulkAll elems + uptoBulkAll spare + 1
  | .agg parts => uptoBulkAll parts + 1
  | .iface _ d => uptoBulk d + 1
  | .map entries => uptoBulkEntries entries + 1
  | .held _ => 1
def uptoBulkAll {H : Type} : List (DataW H) → Nat
  | [] => 0
  | d :: r => uptoBulk d + uptoBulkAll r
def uptoBulkEntries {H : Type} : List (Lit × DataW H) → Nat
  | [] => 0
  | x :: r => uptoBulkEntry x + uptoBulkEntries r
def uptoBulkEntry {H : Type} : Lit × DataW H → Nat
  | (.string bytes, d) => bytes.length + uptoBulk d + 1
  | (_, d) => uptoBulk d + 1
 end
def uptoSmall : (H : Type) → List (DataW H) → Bool := fun _ ds => decide (uptoBulkAll ds ≤ 1048576)
def OpenSpec.upto (s : _root_.Go.ChangeSpec) : _root_.Go.OpenSpec := { _root_.Go.OpenSpec.ofChange s with cond := some uptoSmall }

/-- 'kistlaw13.CatRefuses', WHERE WHAT IT READS IS OF BULK AT MOST 1048576: true; the input reads as it did. -/
def catRefusesUptoRow : OpenClaim := { program := "ytmkccblcmiflfaa", sum := "b92e23d8fa4759343ccc4dc872e9d15a6735a1647a185c077d675cd32de15a35", func := "kist/kistlaw13.CatRefuses", spec := "catRefuses", unfollowed := true, recurses := true, apart := false, narrowed := true }
def CatRefusesUptoSaid : Prop := catRefusesUptoRow.holds Try.pinned (OpenSpec.upto catRefusesSpec)

/-- 'kistlaw13.CatOwn', WHERE WHAT IT READS IS OF BULK AT MOST 1048576: true; the input reads as it did. -/
def catOwnUptoRow : OpenClaim := { program := "ytmkccblcmiflfaa", sum := "b92e23d8fa4759343ccc4dc872e9d15a6735a1647a185c077d675cd32de15a35", func := "kist/kistlaw13.CatOwn", spec := "catOwn", unfollowed := true, recurses := true, apart := false, narrowed := true }
def CatOwnUptoSaid : Prop := catOwnUptoRow.holds Try.pinned (OpenSpec.upto catOwnSpec)

/-- 'kistlaw13.CatGone', WHERE WHAT IT READS IS OF BULK AT MOST 1048576: true; the input reads as it did. -/
def catGoneUptoRow : OpenClaim := { program := "ytmkccblcmiflfaa", sum := "b92e23d8fa4759343ccc4dc872e9d15a6735a1647a185c077d675cd32de15a35", func := "kist/kistlaw13.CatGone", spec := "catGone", unfollowed := true, recurses := true, apart := false, narrowed := true }
def CatGoneUptoSaid : Prop := catGoneUptoRow.holds Try.pinned (OpenSpec.upto catGoneSpec)

end Rows
end Go.Proofs.Ytmkccblcmiflfaa
