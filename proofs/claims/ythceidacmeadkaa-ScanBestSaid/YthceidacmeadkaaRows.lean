/-
  No cell of these rows narrows 'for every input' (looked for: loops, veiled, ifaces, maps, wideKeys, modest, calm, conditions, laid).
  DERIVED. THE GIVEN ROWS OF THIS SEAT. 6 by the template 'for every input the law returns true; each argument reads behind the call as it read before'; 0 by the template 'total and deterministic' (their statements: YthceidacmeadkaaTotals.lean).
  GIVEN WITH THE SEED: the statements are not yours to turn. If you find one false, say at which input.
  Laid BY PROGRAM, IN A SANDBOX (cutbox-rows.mjs): the forced cells as the released guide's own fill.sh prints them over the translation 15da22395df7fad2… (all of the seat's roots in one cut). By AI agents, Wed Nov 11 2026. No macro, syntax, notation, axiom, sorry.
-/
import Derived.Test.YthceidacmeadkaaChecked
import GoSem.Claim
import GoSem.ClaimJoined
import GoSem.ClaimMapViews
import Derived.JoinedTies
import Derived.KernelRfl
namespace Go.Proofs.Ythceidacmeadkaa
/- THE CELL 'sum', in the pinned program and in every row, IS THE sha256 OF THE DUMP (.gsa) THAT YthceidacmeadkaaProg.lean LOADS. Nothing in Lean hashes anything: it is a label: what it is worth is what the hold of that sum in a sandbox is worth. -/
noncomputable def Try.pinned : Pinned := { name := "ythceidacmeadkaa", sum := "15da22395df7fad2d93ac8f8c78ec5243681ffefa18a15c7fc3f5520dc6323fc", checked := Try.checked }
namespace Rows
def none {H : Type} : Left H := { results := [], args := [] }

/-- 'kistlaw10.ScanBest': WHATEVER THE INPUT: true; the input reads as it did. -/
def scanBestSpec : ChangeSpec := { name := "scanBest", fn := fun _ => fun
  | [d] => { results := [.lit (.bool true)], args := [d] }
  | _ => none }
def scanBestRow : OpenClaim := { program := "ythceidacmeadkaa", sum := "15da22395df7fad2d93ac8f8c78ec5243681ffefa18a15c7fc3f5520dc6323fc", func := "kist/kistlaw10.ScanBest", spec := "scanBest", unfollowed := true, recurses := true, plainKeys := false, apart := false }
def ScanBestSaid : Prop := scanBestRow.holds Try.pinned (OpenSpec.ofChange scanBestSpec)

/-- ITS FALSE NEIGHBOUR: 'it returns false'. Refute it at one input. -/
def scanBestWrong : ChangeSpec := { name := "scanBest", fn := fun _ => fun
  | [d] => { results := [.lit (.bool false)], args := [d] }
  | _ => none }
def ScanBestWrongFalsely : Prop := scanBestRow.holds Try.pinned (OpenSpec.ofChange scanBestWrong)

/-- 'kistlaw10.ScanHolds': WHATEVER THE INPUT: true; the input reads as it did. -/
def scanHoldsSpec : ChangeSpec := { name := "scanHolds", fn := fun _ => fun
  | [d] => { results := [.lit (.bool true)], args := [d] }
  | _ => none }
def scanHoldsRow : OpenClaim := { program := "ythceidacmeadkaa", sum := "15da22395df7fad2d93ac8f8c78ec5243681ffefa18a15c7fc3f5520dc6323fc", func := "kist/kistlaw10.ScanHolds", spec := "scanHolds", unfollowed := true, recurses := true, plainKeys := false, apart := false }
def ScanHoldsSaid : Prop := scanHoldsRow.holds Try.pinned (OpenSpec.ofChange scanHoldsSpec)

/-- ITS FALSE NEIGHBOUR: 'it returns false'. Refute it at one input. -/
def scanHoldsWrong : ChangeSpec := { name := "scanHolds", fn := fun _ => fun
  | [d] => { results := [.lit (.bool false)], args := [d] }
  | _ => none }
def ScanHoldsWrongFalsely : Prop := scanHoldsRow.holds Try.pinned (OpenSpec.ofChange scanHoldsWrong)

/-- 'kistlaw10.ScanMore': WHATEVER THE INPUT: true; the input reads as it did. -/
def scanMoreSpec : ChangeSpec := { name := "scanMore", fn := fun _ => fun
  | [d1, d2] => { results := [.lit (.bool true)], args := [d1, d2] }
  | _ => none }
def scanMoreRow : OpenClaim := { program := "ythceidacmeadkaa", sum := "15da22395df7fad2d93ac8f8c78ec5243681ffefa18a15c7fc3f5520dc6323fc", func := "kist/kistlaw10.ScanMore", spec := "scanMore", unfollowed := true, recurses := true, plainKeys := false, apart := false }
def ScanMoreSaid : Prop := scanMoreRow.holds Try.pinned (OpenSpec.ofChange scanMoreSpec)

/-- ITS FALSE NEIGHBOUR: 'it returns false'. Refute it at one input. -/
def scanMoreWrong : ChangeSpec := { name := "scanMore", fn := fun _ => fun
  | [d1, d2] => { results := [.lit (.bool false)], args := [d1, d2] }
  | _ => none }
def ScanMoreWrongFalsely : Prop := scanMoreRow.holds Try.pinned (OpenSpec.ofChange scanMoreWrong)

/-- 'kistlaw10.ScanGone': WHATEVER THE INPUT: true; the input reads as it did. -/
def scanGoneSpec : ChangeSpec := { name := "scanGone", fn := fun _ => fun
  | [d1, d2, d3] => { results := [.lit (.bool true)], args := [d1, d2, d3] }
  | _ => none }
def scanGoneRow : OpenClaim := { program := "ythceidacmeadkaa", sum := "15da22395df7fad2d93ac8f8c78ec5243681ffefa18a15c7fc3f5520dc6323fc", func := "kist/kistlaw10.ScanGone", spec := "scanGone", unfollowed := true, recurses := true, plainKeys := false, apart := false }
def ScanGoneSaid : Prop := scanGoneRow.holds Try.pinned (OpenSpec.ofChange scanGoneSpec)

/-- ITS FALSE NEIGHBOUR: 'it returns false'. Refute it at one input. -/
def scanGoneWrong : ChangeSpec := { name := "scanGone", fn := fun _ => fun
  | [d1, d2, d3] => { results := [.lit (.bool false)], args := [d1, d2, d3] }
  | _ => none }
def ScanGoneWrongFalsely : Prop := scanGoneRow.holds Try.pinned (OpenSpec.ofChange scanGoneWrong)

/-- 'kistlaw10.ScanFew': WHATEVER THE INPUT: true; the input reads as it did. -/
def scanFewSpec : ChangeSpec := { name := "scanFew", fn := fun _ => fun
  | [d1, d2] => { results := [.lit (.bool true)], args := [d1, d2] }
  | _ => none }
def scanFewRow : OpenClaim := { program := "ythceidacmeadkaa", sum := "15da22395df7fad2d93ac8f8c78ec5243681ffefa18a15c7fc3f5520dc6323fc", func := "kist/kistlaw10.ScanFew", spec := "scanFew", unfollowed := true, recurses := true, plainKeys := false, apart := false }
def ScanFewSaid : Prop := scanFewRow.holds Try.pinned (OpenSpec.ofChange scanFewSpec)

/-- ITS FALSE NEIGHBOUR: 'it returns false'. Refute it at one input. -/
def scanFewWrong : ChangeSpec := { name := "scanFew", fn := fun _ => fun
  | [d1, d2] => { results := [.lit (.bool false)], args := [d1, d2] }
  | _ => none }
def ScanFewWrongFalsely : Prop := scanFewRow.holds Try.pinned (OpenSpec.ofChange scanFewWrong)

/-- 'kistlaw10.ScanTwo': WHATEVER THE INPUT: true; the input reads as it did. -/
def scanTwoSpec : ChangeSpec := { name := "scanTwo", fn := fun _ => fun
  | [d1, d2, d3, d4, d5] => { results := [.lit (.bool true)], args := [d1, d2, d3, d4, d5] }
  | _ => none }
def scanTwoRow : OpenClaim := { program := "ythceidacmeadkaa", sum := "15da22395df7fad2d93ac8f8c78ec5243681ffefa18a15c7fc3f5520dc6323fc", func := "kist/kistlaw10.ScanTwo", spec := "scanTwo", unfollowed := true, recurses := true, plainKeys := false, apart := false }
def ScanTwoSaid : Prop := scanTwoRow.holds Try.pinned (OpenSpec.ofChange scanTwoSpec)

/-- ITS FALSE NEIGHBOUR: 'it returns false'. Refute it at one input. -/
def scanTwoWrong : ChangeSpec := { name := "scanTwo", fn := fun _ => fun
  | [d1, d2, d3, d4, d5] => { results := [.lit (.bool false)], args := [d1, d2, d3, d4, d5] }
  | _ => none }
def ScanTwoWrongFalsely : Prop := scanTwoRow.holds Try.pinned (OpenSpec.ofChange scanTwoWrong)

/- THE SECOND FORM. 'bulk': how many values and letters a reading holds, each counted each time it is reached (what is shared counts as often as it is met; a slice's spare places count too). A statement '..UptoSaid' is the law's where the arguments, and the package variables that the reading takes, are together of bulk at most 1048576: NARROWER than '..Said'. Prove '..Said' where nothing that the law and all that it calls make is longer than what came in: it says more and counts as full. Else prove '..UptoSaid'. A law counts once. -/
mutual
def uptoBulk {H : Type} : DataW H → Nat
  | .lit (.string bytes) => bytes.length + 1
  | .lit _ => 1
  | .nil => 1
  | .ptr d => uptoBulk d + 1
  | .slice elems spare => uptoBulkAll elems + uptoBulkAll spare + 1
  | .agg parts => uptoBulkAll parts + 1
  | .iface _ d => uptoBulk d + 1
  | .map entries => uptoBulkEntries entries + 1
  | .held _ => 1
def uptoBulkAll {H : Type} : List (DataW H) → Nat
  | [] => 0
  | d :: r => uptoBulk d + uptoBulkAll r
def uptoBulkEntries {H : Type} : List (Lit × DataW H) → Nat
  | [] => 0
  | x :: r => uptoBulkEntry x + uptoBulkEntries r
def uptoBulkEntry {H : Type} : Lit × DataW H → Nat
  | (.string bytes, d) => bytes.length + uptoBulk d + 1
  | (_, d) => uptoBulk d + 1
 end
def uptoSmall : (H : Type) → List (DataW H) → Bool := fun _ ds => decide (uptoBulkAll ds ≤ 1048576)
def OpenSpec.upto (s : _root_.Go.ChangeSpec) : _root_.Go.OpenSpec := { _root_.Go.OpenSpec.ofChange s with cond := some uptoSmall }

/-- 'kistlaw10.ScanBest', WHERE WHAT IT READS IS OF BULK AT MOST 1048576: true; the input reads as it did. -/
def scanBestUptoRow : OpenClaim := { program := "ythceidacmeadkaa", sum := "15da22395df7fad2d93ac8f8c78ec5243681ffefa18a15c7fc3f5520dc6323fc", func := "kist/kistlaw10.ScanBest", spec := "scanBest", unfollowed := true, recurses := true, plainKeys := false, apart := false, narrowed := true }
def ScanBestUptoSaid : Prop := scanBestUptoRow.holds Try.pinned (OpenSpec.upto scanBestSpec)

/-- 'kistlaw10.ScanHolds', WHERE WHAT IT READS IS OF BULK AT MOST 1048576: true; the input reads as it did. -/
def scanHoldsUptoRow : OpenClaim := { program := "ythceidacmeadkaa", sum := "15da22395df7fad2d93ac8f8c78ec5243681ffefa18a15c7fc3f5520dc6323fc", func := "kist/kistlaw10.ScanHolds", spec := "scanHolds", unfollowed := true, recurses := true, plainKeys := false, apart := false, narrowed := true }
def ScanHoldsUptoSaid : Prop := scanHoldsUptoRow.holds Try.pinned (OpenSpec.upto scanHoldsSpec)

/-- 'kistlaw10.ScanMore', WHERE WHAT IT READS IS OF BULK AT MOST 1048576: true; the input reads as it did. -/
def scanMoreUptoRow : OpenClaim := { program := "ythceidacmeadkaa", sum := "15da22395df7fad2d93ac8f8c78ec5243681ffefa18a15c7fc3f5520dc6323fc", func := "kist/kistlaw10.ScanMore", spec := "scanMore", unfollowed := true, recurses := true, plainKeys := false, apart := false, narrowed := true }
def ScanMoreUptoSaid : Prop := scanMoreUptoRow.holds Try.pinned (OpenSpec.upto scanMoreSpec)

/-- 'kistlaw10.ScanGone', WHERE WHAT IT READS IS OF BULK AT MOST 1048576: true; the input reads as it did. -/
def scanGoneUptoRow : OpenClaim := { program := "ythceidacmeadkaa", sum := "15da22395df7fad2d93ac8f8c78ec5243681ffefa18a15c7fc3f5520dc6323fc", func := "kist/kistlaw10.ScanGone", spec := "scanGone", unfollowed := true, recurses := true, plainKeys := false, apart := false, narrowed := true }
def ScanGoneUptoSaid : Prop := scanGoneUptoRow.holds Try.pinned (OpenSpec.upto scanGoneSpec)

/-- 'kistlaw10.ScanFew', WHERE WHAT IT READS IS OF BULK AT MOST 1048576: true; the input reads as it did. -/
def scanFewUptoRow : OpenClaim := { program := "ythceidacmeadkaa", sum := "15da22395df7fad2d93ac8f8c78ec5243681ffefa18a15c7fc3f5520dc6323fc", func := "kist/kistlaw10.ScanFew", spec := "scanFew", unfollowed := true, recurses := true, plainKeys := false, apart := false, narrowed := true }
def ScanFewUptoSaid : Prop := scanFewUptoRow.holds Try.pinned (OpenSpec.upto scanFewSpec)

/-- 'kistlaw10.ScanTwo', WHERE WHAT IT READS IS OF BULK AT MOST 1048576: true; the input reads as it did. -/
def scanTwoUptoRow : OpenClaim := { program := "ythceidacmeadkaa", sum := "15da22395df7fad2d93ac8f8c78ec5243681ffefa18a15c7fc3f5520dc6323fc", func := "kist/kistlaw10.ScanTwo", spec := "scanTwo", unfollowed := true, recurses := true, plainKeys := false, apart := false, narrowed := true }
def ScanTwoUptoSaid : Prop := scanTwoUptoRow.holds Try.pinned (OpenSpec.upto scanTwoSpec)

end Rows
end Go.Proofs.Ythceidacmeadkaa
