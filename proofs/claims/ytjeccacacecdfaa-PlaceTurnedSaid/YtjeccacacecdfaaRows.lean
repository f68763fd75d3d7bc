/-
  No cell of these rows narrows 'for every input' (looked for: loops, veiled, ifaces, maps, wideKeys, modest, calm, conditions, laid).
  DERIVED. THE GIVEN ROWS OF THIS SEAT. 4 by the template 'for every input the law returns true; each argument reads behind the call as it read before'; 0 by the template 'total and deterministic' (their statements: YtjeccacacecdfaaTotals.lean).
  GIVEN WITH THE SEED: the statements are not yours to turn. If you find one false, say at which input.
  Laid BY PROGRAM, IN A SANDBOX (cutbox-rows.mjs): the forced cells as the released guide's own fill.sh prints them over the translation c77826b61eac8b9a… (all of the seat's roots in one cut). By AI agents, Wed Nov 11 2026. No macro, syntax, notation, axiom, sorry.
-/
import Derived.Test.YtjeccacacecdfaaChecked
import GoSem.Claim
import GoSem.ClaimJoined
import GoSem.ClaimMapViews
import Derived.JoinedTies
import Derived.KernelRfl
namespace Go.Proofs.Ytjeccacacecdfaa
/- THE CELL 'sum', in the pinned program and in every row, IS THE sha256 OF THE DUMP (.gsa) THAT YtjeccacacecdfaaProg.lean LOADS. Nothing in Lean hashes anything: it is a label: what it is worth is what the hold of that sum in a sandbox is worth. -/
noncomputable def Try.pinned : Pinned := { name := "ytjeccacacecdfaa", sum := "c77826b61eac8b9acf6694d27ff81ad7a92ebe18412561cbcfee451d9516126b", checked := Try.checked }
namespace Rows
def none {H : Type} : Left H := { results := [], args := [] }

/-- 'kistlaw14.PlacePicks': WHATEVER THE INPUT: true; the input reads as it did. -/
def placePicksSpec : ChangeSpec := { name := "placePicks", fn := fun _ => fun
  | [d1, d2, d3] => { results := [.lit (.bool true)], args := [d1, d2, d3] }
  | _ => none }
def placePicksRow : OpenClaim := { program := "ytjeccacacecdfaa", sum := "c77826b61eac8b9acf6694d27ff81ad7a92ebe18412561cbcfee451d9516126b", func := "kist/kistlaw14.PlacePicks", spec := "placePicks", unfollowed := true, recurses := true, apart := false }
def PlacePicksSaid : Prop := placePicksRow.holds Try.pinned (OpenSpec.ofChange placePicksSpec)

/-- ITS FALSE NEIGHBOUR: 'it returns false'. Refute it at one input. -/
def placePicksWrong : ChangeSpec := { name := "placePicks", fn := fun _ => fun
  | [d1, d2, d3] => { results := [.lit (.bool false)], args := [d1, d2, d3] }
  | _ => none }
def PlacePicksWrongFalsely : Prop := placePicksRow.holds Try.pinned (OpenSpec.ofChange placePicksWrong)

/-- 'kistlaw14.PlaceUnlike': WHATEVER THE INPUT: true; the input reads as it did. -/
def placeUnlikeSpec : ChangeSpec := { name := "placeUnlike", fn := fun _ => fun
  | [d1, d2, d3] => { results := [.lit (.bool true)], args := [d1, d2, d3] }
  | _ => none }
def placeUnlikeRow : OpenClaim := { program := "ytjeccacacecdfaa", sum := "c77826b61eac8b9acf6694d27ff81ad7a92ebe18412561cbcfee451d9516126b", func := "kist/kistlaw14.PlaceUnlike", spec := "placeUnlike", unfollowed := true, recurses := true, apart := false }
def PlaceUnlikeSaid : Prop := placeUnlikeRow.holds Try.pinned (OpenSpec.ofChange placeUnlikeSpec)

/-- ITS FALSE NEIGHBOUR: 'it returns false'. Refute it at one input. -/
def placeUnlikeWrong : ChangeSpec := { name := "placeUnlike", fn := fun _ => fun
  | [d1, d2, d3] => { results := [.lit (.bool false)], args := [d1, d2, d3] }
  | _ => none }
def PlaceUnlikeWrongFalsely : Prop := placeUnlikeRow.holds Try.pinned (OpenSpec.ofChange placeUnlikeWrong)

/-- 'kistlaw14.PlaceMore': WHATEVER THE INPUT: true; the input reads as it did. -/
def placeMoreSpec : ChangeSpec := { name := "placeMore", fn := fun _ => fun
  | [d1, d2, d3] => { results := [.lit (.bool true)], args := [d1, d2, d3] }
  | _ => none }
def placeMoreRow : OpenClaim := { program := "ytjeccacacecdfaa", sum := "c77826b61eac8b9acf6694d27ff81ad7a92ebe18412561cbcfee451d9516126b", func := "kist/kistlaw14.PlaceMore", spec := "placeMore", unfollowed := true, recurses := true, apart := false }
def PlaceMoreSaid : Prop := placeMoreRow.holds Try.pinned (OpenSpec.ofChange placeMoreSpec)

/-- ITS FALSE NEIGHBOUR: 'it returns false'. Refute it at one input. -/
def placeMoreWrong : ChangeSpec := { name := "placeMore", fn := fun _ => fun
  | [d1, d2, d3] => { results := [.lit (.bool false)], args := [d1, d2, d3] }
  | _ => none }
def PlaceMoreWrongFalsely : Prop := placeMoreRow.holds Try.pinned (OpenSpec.ofChange placeMoreWrong)

/-- 'kistlaw14.PlaceTurned': WHATEVER THE INPUT: true; the input reads as it did. -/
def placeTurnedSpec : ChangeSpec := { name := "placeTurned", fn := fun _ => fun
  | [d1, d2, d3] => { results := [.lit (.bool true)], args := [d1, d2, d3] }
  | _ => none }
def placeTurnedRow : OpenClaim := { program := "ytjeccacacecdfaa", sum := "c77826b61eac8b9acf6694d27ff81ad7a92ebe18412561cbcfee451d9516126b", func := "kist/kistlaw14.PlaceTurned", spec := "placeTurned", unfollowed := true, recurses := true, apart := false }
def PlaceTurnedSaid : Prop := placeTurnedRow.holds Try.pinned (OpenSpec.ofChange placeTurnedSpec)

/-- ITS FALSE NEIGHBOUR: 'it returns false'. Refute it at one input. -/
def placeTurnedWrong : ChangeSpec := { name := "placeTurned", fn := fun _ => fun
  | [d1, d2, d3] => { results := [.lit (.bool false)], args := [d1, d2, d3] }
  | _ => none }
def PlaceTurnedWrongFalsely : Prop := placeTurnedRow.holds Try.pinned (OpenSpec.ofChange placeTurnedWrong)

/- THE SECOND FORM. 'bulk': how many values and letters a reading holds, each counted each time it is reached (what is shared counts as often as it is met; a slice's spare places count too). A statement '..UptoSaid' is the law's where the arguments, and the package variables that the reading takes, are together of bulk at most 1048576: NARROWER than '..Said'. Prove '..Said' where nothing that the law and all that it calls make is longer than what came in: it says more and counts as full. Else prove '..UptoSaid'. A law counts once. -/
mutual
def uptoBulk {H : Type} : DataW H → Nat
  | .lit (.string bytes) => bytes.length + 1
  | .lit _ => 1
  | .nil => 1
  | .ptr d => uptoBulk d + 1
  | .slice elems spare => uptoBulkAll elems + uptoBulkAll spare + 1
  | .agg parts => uptoBulkAll parts + 1
  | .iface _ d => uptoBulk d + 1
  | .map entries => uptoBulkEntries entries + 1
  | .held _ => 1
def uptoBulkAll {H : Type} : List (DataW H) → Nat
  | [] => 0
  | d :: r => uptoBulk d + uptoBulkAll r
def uptoBulkEntries {H : Type} : List (Lit × DataW H) → Nat
  | [] => 0
  | x :: r => uptoBulkEntry x + uptoBulkEntries r
def uptoBulkEntry {H : Type} : Lit × DataW H → Nat
  | (.string bytes, d) => bytes.length + uptoBulk d + 1
  | (_, d) => uptoBulk d + 1
 end
def uptoSmall : (H : Type) → List (DataW H) → Bool := fun _ ds => decide (uptoBulkAll ds ≤ 1048576)
def OpenSpec.upto (s : _root_.Go.ChangeSpec) : _root_.Go.OpenSpec := { _root_.Go.OpenSpec.ofChange s with cond := some uptoSmall }

/-- 'kistlaw14.PlacePicks', WHERE WHAT IT READS IS OF BULK AT MOST 1048576: true; the input reads as it did. -/
def placePicksUptoRow : OpenClaim := { program := "ytjeccacacecdfaa", sum := "c77826b61eac8b9acf6694d27ff81ad7a92ebe18412561cbcfee451d9516126b", func := "kist/kistlaw14.PlacePicks", spec := "placePicks", unfollowed := true, recurses := true, apart := false, narrowed := true }
def PlacePicksUptoSaid : Prop := placePicksUptoRow.holds Try.pinned (OpenSpec.upto placePicksSpec)

/-- 'kistlaw14.PlaceUnlike', WHERE WHAT IT READS IS OF BULK AT MOST 1048576: true; the input reads as it did. -/
def placeUnlikeUptoRow : OpenClaim := { program := "ytjeccacacecdfaa", sum := "c77826b61eac8b9acf6694d27ff81ad7a92ebe18412561cbcfee451d9516126b", func := "kist/kistlaw14.PlaceUnlike", spec := "placeUnlike", unfollowed := true, recurses := true, apart := false, narrowed := true }
def PlaceUnlikeUptoSaid : Prop := placeUnlikeUptoRow.holds Try.pinned (OpenSpec.upto placeUnlikeSpec)

/-- 'kistlaw14.PlaceMore', WHERE WHAT IT READS IS OF BULK AT MOST 1048576: true; the input reads as it did. -/
def placeMoreUptoRow : OpenClaim := { program := "ytjeccacacecdfaa", sum := "c77826b61eac8b9acf6694d27ff81ad7a92ebe18412561cbcfee451d9516126b", func := "kist/kistlaw14.PlaceMore", spec := "placeMore", unfollowed := true, recurses := true, apart := false, narrowed := true }
def PlaceMoreUptoSaid : Prop := placeMoreUptoRow.holds Try.pinned (OpenSpec.upto placeMoreSpec)

/-- 'kistlaw14.PlaceTurned', WHERE WHAT IT READS IS OF BULK AT MOST 1048576: true; the input reads as it did. -/
def placeTurnedUptoRow : OpenClaim := { program := "ytjeccacacecdfaa", sum := "c77826b61eac8b9acf6694d27ff81ad7a92ebe18412561cbcfee451d9516126b", func := "kist/kistlaw14.PlaceTurned", spec := "placeTurned", unfollowed := true, recurses := true, apart := false, narrowed := true }
def PlaceTurnedUptoSaid : Prop := placeTurnedUptoRow.holds Try.pinned (OpenSpec.upto placeTurnedSpec)

end Rows
end Go.Proofs.Ytjeccacacecdfaa
