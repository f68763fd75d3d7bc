/-
  No cell of these rows narrows 'for every input' (looked for: loops, veiled, ifaces, maps, wideKeys, modest, calm, conditions, laid).
  DERIVED. THE GIVEN ROWS OF THIS SEAT. 4 by the template 'for every input the law returns true; each argument reads behind the call as it read before'; 0 by the template 'total and deterministic' (their statements: YthnjakmiknaihaaTotals.lean).
  GIVEN WITH THE SEED: the statements are not yours to turn. If you find one false, say at which input.
  Laid BY PROGRAM, IN A SANDBOX (cutbox-rows.mjs): the forced cells as the released guide's own fill.sh prints them over the translation fb65839017c82fa6… (all of the seat's roots in one cut). By AI agents, Wed Nov 11 2026. No macro, syntax, notation, axiom, sorry.
-/
import Derived.Test.YthnjakmiknaihaaChecked
import GoSem.Claim
import GoSem.ClaimJoined
import GoSem.ClaimMapViews
import Derived.JoinedTies
import Derived.KernelRfl
namespace Go.Proofs.Ythnjakmiknaihaa
/- THE CELL 'sum', in the pinned program and in every row, IS THE sha256 OF THE DUMP (.gsa) THAT YthnjakmiknaihaaProg.lean LOADS. Nothing in Lean hashes anything: it is a label: what it is worth is what the hold of that sum in a sandbox is worth. -/
noncomputable def Try.pinned : Pinned := { name := "ythnjakmiknaihaa", sum := "fb65839017c82fa63ea2effb45bb0a99c9207374b9c40652c966dee9cbe3959e", checked := Try.checked }
namespace Rows
def none {H : Type} : Left H := { results := [], args := [] }

/-- 'kistlaw16.LiftNext': WHATEVER THE INPUT: true; the input reads as it did. -/
def liftNextSpec : ChangeSpec := { name := "liftNext", fn := fun _ => fun
  | [d1, d2, d3, d4] => { results := [.lit (.bool true)], args := [d1, d2, d3, d4] }
  | _ => none }
def liftNextRow : OpenClaim := { program := "ythnjakmiknaihaa", sum := "fb65839017c82fa63ea2effb45bb0a99c9207374b9c40652c966dee9cbe3959e", func := "kist/kistlaw16.LiftNext", spec := "liftNext", apart := false }
def LiftNextSaid : Prop := liftNextRow.holds Try.pinned (OpenSpec.ofChange liftNextSpec)

/-- ITS FALSE NEIGHBOUR: 'it returns false'. Refute it at one input. -/
def liftNextWrong : ChangeSpec := { name := "liftNext", fn := fun _ => fun
  | [d1, d2, d3, d4] => { results := [.lit (.bool false)], args := [d1, d2, d3, d4] }
  | _ => none }
def LiftNextWrongFalsely : Prop := liftNextRow.holds Try.pinned (OpenSpec.ofChange liftNextWrong)

/-- 'kistlaw16.LiftAged': WHATEVER THE INPUT: true; the input reads as it did. -/
def liftAgedSpec : ChangeSpec := { name := "liftAged", fn := fun _ => fun
  | [d1, d2, d3, d4] => { results := [.lit (.bool true)], args := [d1, d2, d3, d4] }
  | _ => none }
def liftAgedRow : OpenClaim := { program := "ythnjakmiknaihaa", sum := "fb65839017c82fa63ea2effb45bb0a99c9207374b9c40652c966dee9cbe3959e", func := "kist/kistlaw16.LiftAged", spec := "liftAged", apart := false }
def LiftAgedSaid : Prop := liftAgedRow.holds Try.pinned (OpenSpec.ofChange liftAgedSpec)

/-- ITS FALSE NEIGHBOUR: 'it returns false'. Refute it at one input. -/
def liftAgedWrong : ChangeSpec := { name := "liftAged", fn := fun _ => fun
  | [d1, d2, d3, d4] => { results := [.lit (.bool false)], args := [d1, d2, d3, d4] }
  | _ => none }
def LiftAgedWrongFalsely : Prop := liftAgedRow.holds Try.pinned (OpenSpec.ofChange liftAgedWrong)

/-- 'kistlaw16.LiftAlong': WHATEVER THE INPUT: true; the input reads as it did. -/
def liftAlongSpec : ChangeSpec := { name := "liftAlong", fn := fun _ => fun
  | [d1, d2, d3] => { results := [.lit (.bool true)], args := [d1, d2, d3] }
  | _ => none }
def liftAlongRow : OpenClaim := { program := "ythnjakmiknaihaa", sum := "fb65839017c82fa63ea2effb45bb0a99c9207374b9c40652c966dee9cbe3959e", func := "kist/kistlaw16.LiftAlong", spec := "liftAlong", apart := false }
def LiftAlongSaid : Prop := liftAlongRow.holds Try.pinned (OpenSpec.ofChange liftAlongSpec)

/-- ITS FALSE NEIGHBOUR: 'it returns false'. Refute it at one input. -/
def liftAlongWrong : ChangeSpec := { name := "liftAlong", fn := fun _ => fun
  | [d1, d2, d3] => { results := [.lit (.bool false)], args := [d1, d2, d3] }
  | _ => none }
def LiftAlongWrongFalsely : Prop := liftAlongRow.holds Try.pinned (OpenSpec.ofChange liftAlongWrong)

/-- 'kistlaw16.LiftAll': WHATEVER THE INPUT: true; the input reads as it did. -/
def liftAllSpec : ChangeSpec := { name := "liftAll", fn := fun _ => fun
  | [d1, d2] => { results := [.lit (.bool true)], args := [d1, d2] }
  | _ => none }
def liftAllRow : OpenClaim := { program := "ythnjakmiknaihaa", sum := "fb65839017c82fa63ea2effb45bb0a99c9207374b9c40652c966dee9cbe3959e", func := "kist/kistlaw16.LiftAll", spec := "liftAll", apart := false }
def LiftAllSaid : Prop := liftAllRow.holds Try.pinned (OpenSpec.ofChange liftAllSpec)

/-- ITS FALSE NEIGHBOUR: 'it returns false'. Refute it at one input. -/
def liftAllWrong : ChangeSpec := { name := "liftAll", fn := fun _ => fun
  | [d1, d2] => { results := [.lit (.bool false)], args := [d1, d2] }
  | _ => none }
def LiftAllWrongFalsely : Prop := liftAllRow.holds Try.pinned (OpenSpec.ofChange liftAllWrong)

/- THE SECOND FORM. 'bulk': how many values and letters a reading holds, each counted each time it is reached (what is shared counts as often as it is met; a slice's spare places count too). A statement '..UptoSaid' is the law's where the arguments, and the package variables that the reading takes, are together of bulk at most 1048576: NARROWER than '..Said'. Prove '..Said' where nothing that the law and all that it calls make is longer than what came in: it says more and counts as full. Else prove '..UptoSaid'. A law counts once. -/
mutual
def uptoBulk {H : Type} : DataW H → Nat
  | .lit (.string bytes) => bytes.length + 1
  | .lit _ => 1
  | .nil => 1
  | .ptr d => uptoBulk d + 1
  | .slice elems spare => uptoBulkAll elems + uptoBulkAll spare + 1
  | .agg parts => uptoBulkAll parts + 1
  | .iface _ d => uptoBulk d + 1
  | .map entries => uptoBulkEntries entries + 1
  | .held _ => 1
def uptoBulkAll {H : Type} : List (DataW H) → Nat
  | [] => 0
  | d :: r => uptoBulk d + uptoBulkAll r
def uptoBulkEntries {H : Type} : List (Lit × DataW H) → Nat
  | [] => 0
  | x :: r => uptoBulkEntry x + uptoBulkEntries r
def uptoBulkEntry {H : Type} : Lit × DataW H → Nat
  | (.string bytes, d) => bytes.length + uptoBulk d + 1
  | (_, d) => uptoBulk d + 1
 end
def uptoSmall : (H : Type) → List (DataW H) → Bool := fun _ ds => decide (uptoBulkAll ds ≤ 1048576)
def OpenSpec.upto (s : _root_.Go.ChangeSpec) : _root_.Go.OpenSpec := { _root_.Go.OpenSpec.ofChange s with cond := some uptoSmall }

/-- 'kistlaw16.LiftNext', WHERE WHAT IT READS IS OF BULK AT MOST 1048576: true; the input reads as it did. -/
def liftNextUptoRow : OpenClaim := { program := "ythnjakmiknaihaa", sum := "fb65839017c82fa63ea2effb45bb0a99c9207374b9c40652c966dee9cbe3959e", func := "kist/kistlaw16.LiftNext", spec := "liftNext", apart := false, narrowed := true }
def LiftNextUptoSaid : Prop := liftNextUptoRow.holds Try.pinned (OpenSpec.upto liftNextSpec)

/-- 'kistlaw16.LiftAged', WHERE WHAT IT READS IS OF BULK AT MOST 1048576: true; the input reads as it did. -/
def liftAgedUptoRow : OpenClaim := { program := "ythnjakmiknaihaa", sum := "fb65839017c82fa63ea2effb45bb0a99c9207374b9c40652c966dee9cbe3959e", func := "kist/kistlaw16.LiftAged", spec := "liftAged", apart := false, narrowed := true }
def LiftAgedUptoSaid : Prop := liftAgedUptoRow.holds Try.pinned (OpenSpec.upto liftAgedSpec)

/-- 'kistlaw16.LiftAlong', WHERE WHAT IT READS IS OF BULK AT MOST 1048576: true; the input reads as it did. -/
def liftAlongUptoRow : OpenClaim := { program := "ythnjakmiknaihaa", sum := "fb65839017c82fa63ea2effb45bb0a99c9207374b9c40652c966dee9cbe3959e", func := "kist/kistlaw16.LiftAlong", spec := "liftAlong", apart := false, narrowed := true }
def LiftAlongUptoSaid : Prop := liftAlongUptoRow.holds Try.pinned (OpenSpec.upto liftAlongSpec)

/-- 'kistlaw16.LiftAll', WHERE WHAT IT READS IS OF BULK AT MOST 1048576: true; the input reads as it did. -/
def liftAllUptoRow : OpenClaim := { program := "ythnjakmiknaihaa", sum := "fb65839017c82fa63ea2effb45bb0a99c9207374b9c40652c966dee9cbe3959e", func := "kist/kistlaw16.LiftAll", spec := "liftAll", apart := false, narrowed := true }
def LiftAllUptoSaid : Prop := liftAllUptoRow.holds Try.pinned (OpenSpec.upto liftAllSpec)

end Rows
end Go.Proofs.Ythnjakmiknaihaa
