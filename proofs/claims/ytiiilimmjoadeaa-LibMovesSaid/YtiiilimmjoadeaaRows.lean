/-
  No cell of these rows narrows 'for every input' (looked for: loops, veiled, ifaces, maps, wideKeys, modest, calm, conditions, laid).
  DERIVED. THE GIVEN ROWS OF THIS SEAT. 10 by the template 'for every input the law returns true; each argument reads behind the call as it read before'; 0 by the template 'total and deterministic' (their statements: YtiiilimmjoadeaaTotals.lean).
  GIVEN WITH THE SEED: the statements are not yours to turn. If you find one false, say at which input.
  Laid BY PROGRAM, IN A SANDBOX (cutbox-rows.mjs): the forced cells as the released guide's own fill.sh prints them over the translation c6028577a8645570… (all of the seat's roots in one cut). By AI agents, Wed Nov 11 2026. No macro, syntax, notation, axiom, sorry.
-/
import Derived.Test.YtiiilimmjoadeaaChecked
import GoSem.Claim
import GoSem.ClaimJoined
import GoSem.ClaimMapViews
import Derived.JoinedTies
import Derived.KernelRfl
namespace Go.Proofs.Ytiiilimmjoadeaa
/- THE CELL 'sum', in the pinned program and in every row, IS THE sha256 OF THE DUMP (.gsa) THAT YtiiilimmjoadeaaProg.lean LOADS. Nothing in Lean hashes anything: it is a label: what it is worth is what the hold of that sum in a sandbox is worth. -/
noncomputable def Try.pinned : Pinned := { name := "ytiiilimmjoadeaa", sum := "c6028577a86455707708a1d118a245ad2310ced3c399c0de60ce6cbd5f9a1f1a", checked := Try.checked }
namespace Rows
def none {H : Type} : Left H := { results := [], args := [] }

/-- 'kistlaw07.CartOwn': WHATEVER THE INPUT: true; the input reads as it did. -/
def cartOwnSpec : ChangeSpec := { name := "cartOwn", fn := fun _ => fun
  | [d1, d2] => { results := [.lit (.bool true)], args := [d1, d2] }
  | _ => none }
def cartOwnRow : OpenClaim := { program := "ytiiilimmjoadeaa", sum := "c6028577a86455707708a1d118a245ad2310ced3c399c0de60ce6cbd5f9a1f1a", func := "kist/kistlaw07.CartOwn", spec := "cartOwn", apart := false }
def CartOwnSaid : Prop := cartOwnRow.holds Try.pinned (OpenSpec.ofChange cartOwnSpec)

/-- ITS FALSE NEIGHBOUR: 'it returns false'. Refute it at one input. -/
def cartOwnWrong : ChangeSpec := { name := "cartOwn", fn := fun _ => fun
  | [d1, d2] => { results := [.lit (.bool false)], args := [d1, d2] }
  | _ => none }
def CartOwnWrongFalsely : Prop := cartOwnRow.holds Try.pinned (OpenSpec.ofChange cartOwnWrong)

/-- 'kistlaw07.CartTears': WHATEVER THE INPUT: true; the input reads as it did. -/
def cartTearsSpec : ChangeSpec := { name := "cartTears", fn := fun _ => fun
  | [d1, d2, d3] => { results := [.lit (.bool true)], args := [d1, d2, d3] }
  | _ => none }
def cartTearsRow : OpenClaim := { program := "ytiiilimmjoadeaa", sum := "c6028577a86455707708a1d118a245ad2310ced3c399c0de60ce6cbd5f9a1f1a", func := "kist/kistlaw07.CartTears", spec := "cartTears", apart := false }
def CartTearsSaid : Prop := cartTearsRow.holds Try.pinned (OpenSpec.ofChange cartTearsSpec)

/-- ITS FALSE NEIGHBOUR: 'it returns false'. Refute it at one input. -/
def cartTearsWrong : ChangeSpec := { name := "cartTears", fn := fun _ => fun
  | [d1, d2, d3] => { results := [.lit (.bool false)], args := [d1, d2, d3] }
  | _ => none }
def CartTearsWrongFalsely : Prop := cartTearsRow.holds Try.pinned (OpenSpec.ofChange cartTearsWrong)

/-- 'kistlaw07.CartKeeps': WHATEVER THE INPUT: true; the input reads as it did. -/
def cartKeepsSpec : ChangeSpec := { name := "cartKeeps", fn := fun _ => fun
  | [d1, d2] => { results := [.lit (.bool true)], args := [d1, d2] }
  | _ => none }
def cartKeepsRow : OpenClaim := { program := "ytiiilimmjoadeaa", sum := "c6028577a86455707708a1d118a245ad2310ced3c399c0de60ce6cbd5f9a1f1a", func := "kist/kistlaw07.CartKeeps", spec := "cartKeeps", apart := false }
def CartKeepsSaid : Prop := cartKeepsRow.holds Try.pinned (OpenSpec.ofChange cartKeepsSpec)

/-- ITS FALSE NEIGHBOUR: 'it returns false'. Refute it at one input. -/
def cartKeepsWrong : ChangeSpec := { name := "cartKeeps", fn := fun _ => fun
  | [d1, d2] => { results := [.lit (.bool false)], args := [d1, d2] }
  | _ => none }
def CartKeepsWrongFalsely : Prop := cartKeepsRow.holds Try.pinned (OpenSpec.ofChange cartKeepsWrong)

/-- 'kistlaw07.CartPlays': WHATEVER THE INPUT: true; the input reads as it did. -/
def cartPlaysSpec : ChangeSpec := { name := "cartPlays", fn := fun _ => fun
  | [d1, d2] => { results := [.lit (.bool true)], args := [d1, d2] }
  | _ => none }
def cartPlaysRow : OpenClaim := { program := "ytiiilimmjoadeaa", sum := "c6028577a86455707708a1d118a245ad2310ced3c399c0de60ce6cbd5f9a1f1a", func := "kist/kistlaw07.CartPlays", spec := "cartPlays", apart := false }
def CartPlaysSaid : Prop := cartPlaysRow.holds Try.pinned (OpenSpec.ofChange cartPlaysSpec)

/-- ITS FALSE NEIGHBOUR: 'it returns false'. Refute it at one input. -/
def cartPlaysWrong : ChangeSpec := { name := "cartPlays", fn := fun _ => fun
  | [d1, d2] => { results := [.lit (.bool false)], args := [d1, d2] }
  | _ => none }
def CartPlaysWrongFalsely : Prop := cartPlaysRow.holds Try.pinned (OpenSpec.ofChange cartPlaysWrong)

/-- 'kistlaw07.CartLost': WHATEVER THE INPUT: true; the input reads as it did. -/
def cartLostSpec : ChangeSpec := { name := "cartLost", fn := fun _ => fun
  | [d1, d2, d3] => { results := [.lit (.bool true)], args := [d1, d2, d3] }
  | _ => none }
def cartLostRow : OpenClaim := { program := "ytiiilimmjoadeaa", sum := "c6028577a86455707708a1d118a245ad2310ced3c399c0de60ce6cbd5f9a1f1a", func := "kist/kistlaw07.CartLost", spec := "cartLost", apart := false }
def CartLostSaid : Prop := cartLostRow.holds Try.pinned (OpenSpec.ofChange cartLostSpec)

/-- ITS FALSE NEIGHBOUR: 'it returns false'. Refute it at one input. -/
def cartLostWrong : ChangeSpec := { name := "cartLost", fn := fun _ => fun
  | [d1, d2, d3] => { results := [.lit (.bool false)], args := [d1, d2, d3] }
  | _ => none }
def CartLostWrongFalsely : Prop := cartLostRow.holds Try.pinned (OpenSpec.ofChange cartLostWrong)

/-- 'kistlaw07.CartNone': WHATEVER THE INPUT: true; the input reads as it did. -/
def cartNoneSpec : ChangeSpec := { name := "cartNone", fn := fun _ => fun
  | [d1, d2] => { results := [.lit (.bool true)], args := [d1, d2] }
  | _ => none }
def cartNoneRow : OpenClaim := { program := "ytiiilimmjoadeaa", sum := "c6028577a86455707708a1d118a245ad2310ced3c399c0de60ce6cbd5f9a1f1a", func := "kist/kistlaw07.CartNone", spec := "cartNone", apart := false }
def CartNoneSaid : Prop := cartNoneRow.holds Try.pinned (OpenSpec.ofChange cartNoneSpec)

/-- ITS FALSE NEIGHBOUR: 'it returns false'. Refute it at one input. -/
def cartNoneWrong : ChangeSpec := { name := "cartNone", fn := fun _ => fun
  | [d1, d2] => { results := [.lit (.bool false)], args := [d1, d2] }
  | _ => none }
def CartNoneWrongFalsely : Prop := cartNoneRow.holds Try.pinned (OpenSpec.ofChange cartNoneWrong)

/-- 'kistlaw08.LibNone': WHATEVER THE INPUT: true; the input reads as it did. -/
def libNoneSpec : ChangeSpec := { name := "libNone", fn := fun _ => fun
  | [d1, d2, d3] => { results := [.lit (.bool true)], args := [d1, d2, d3] }
  | _ => none }
def libNoneRow : OpenClaim := { program := "ytiiilimmjoadeaa", sum := "c6028577a86455707708a1d118a245ad2310ced3c399c0de60ce6cbd5f9a1f1a", func := "kist/kistlaw08.LibNone", spec := "libNone", apart := false }
def LibNoneSaid : Prop := libNoneRow.holds Try.pinned (OpenSpec.ofChange libNoneSpec)

/-- ITS FALSE NEIGHBOUR: 'it returns false'. Refute it at one input. -/
def libNoneWrong : ChangeSpec := { name := "libNone", fn := fun _ => fun
  | [d1, d2, d3] => { results := [.lit (.bool false)], args := [d1, d2, d3] }
  | _ => none }
def LibNoneWrongFalsely : Prop := libNoneRow.holds Try.pinned (OpenSpec.ofChange libNoneWrong)

/-- 'kistlaw08.LibOnce': WHATEVER THE INPUT: true; the input reads as it did. -/
def libOnceSpec : ChangeSpec := { name := "libOnce", fn := fun _ => fun
  | [d1, d2, d3] => { results := [.lit (.bool true)], args := [d1, d2, d3] }
  | _ => none }
def libOnceRow : OpenClaim := { program := "ytiiilimmjoadeaa", sum := "c6028577a86455707708a1d118a245ad2310ced3c399c0de60ce6cbd5f9a1f1a", func := "kist/kistlaw08.LibOnce", spec := "libOnce", apart := false }
def LibOnceSaid : Prop := libOnceRow.holds Try.pinned (OpenSpec.ofChange libOnceSpec)

/-- ITS FALSE NEIGHBOUR: 'it returns false'. Refute it at one input. -/
def libOnceWrong : ChangeSpec := { name := "libOnce", fn := fun _ => fun
  | [d1, d2, d3] => { results := [.lit (.bool false)], args := [d1, d2, d3] }
  | _ => none }
def LibOnceWrongFalsely : Prop := libOnceRow.holds Try.pinned (OpenSpec.ofChange libOnceWrong)

/-- 'kistlaw08.LibMoves': WHATEVER THE INPUT: true; the input reads as it did. -/
def libMovesSpec : ChangeSpec := { name := "libMoves", fn := fun _ => fun
  | [d1, d2, d3, d4, d5] => { results := [.lit (.bool true)], args := [d1, d2, d3, d4, d5] }
  | _ => none }
def libMovesRow : OpenClaim := { program := "ytiiilimmjoadeaa", sum := "c6028577a86455707708a1d118a245ad2310ced3c399c0de60ce6cbd5f9a1f1a", func := "kist/kistlaw08.LibMoves", spec := "libMoves", apart := false }
def LibMovesSaid : Prop := libMovesRow.holds Try.pinned (OpenSpec.ofChange libMovesSpec)

/-- ITS FALSE NEIGHBOUR: 'it returns false'. Refute it at one input. -/
def libMovesWrong : ChangeSpec := { name := "libMoves", fn := fun _ => fun
  | [d1, d2, d3, d4, d5] => { results := [.lit (.bool false)], args := [d1, d2, d3, d4, d5] }
  | _ => none }
def LibMovesWrongFalsely : Prop := libMovesRow.holds Try.pinned (OpenSpec.ofChange libMovesWrong)

/-- 'kistlaw08.LibThree': WHATEVER THE INPUT: true; the input reads as it did. -/
def libThreeSpec : ChangeSpec := { name := "libThree", fn := fun _ => fun
  | [d1, d2, d3, d4, d5] => { results := [.lit (.bool true)], args := [d1, d2, d3, d4, d5] }
  | _ => none }
def libThreeRow : OpenClaim := { program := "ytiiilimmjoadeaa", sum := "c6028577a86455707708a1d118a245ad2310ced3c399c0de60ce6cbd5f9a1f1a", func := "kist/kistlaw08.LibThree", spec := "libThree", apart := false }
def LibThreeSaid : Prop := libThreeRow.holds Try.pinned (OpenSpec.ofChange libThreeSpec)

/-- ITS FALSE NEIGHBOUR: 'it returns false'. Refute it at one input. -/
def libThreeWrong : ChangeSpec := { name := "libThree", fn := fun _ => fun
  | [d1, d2, d3, d4, d5] => { results := [.lit (.bool false)], args := [d1, d2, d3, d4, d5] }
  | _ => none }
def LibThreeWrongFalsely : Prop := libThreeRow.holds Try.pinned (OpenSpec.ofChange libThreeWrong)

/- THE SECOND FORM. 'bulk': how many values and letters a reading holds, each counted each time it is reached (what is shared counts as often as it is met; a slice's spare places count too). A statement '..UptoSaid' is the law's where the arguments, and the package variables that the reading takes, are together of bulk at most 1048576: NARROWER than '..Said'. Prove '..Said' where nothing that the law and all that it calls make is longer than what came in: it says more and counts as full. Else prove '..UptoSaid'. A law counts once. -/
mutual
def uptoBulk {H : Type} : DataW H → Nat
  | .lit (.string bytes) => bytes.length + 1
  | .lit _ => 1
  | .nil => 1
  | .ptr d => uptoBulk d + 1
  | .slice elems spare => uptoBulkAll elems + uptoBulkAll spare + 1
  | .agg parts => uptoBulkAll parts + 1
  | .iface _ d => uptoBulk d + 1
  | .map entries => uptoBulkEntries entries + 1
  | .held _ => 1
def uptoBulkAll {H : Type} : List (DataW H) → Nat
  | [] => 0
  | d :: r => uptoBulk d + uptoBulkAll r
def uptoBulkEntries {H : Type} : List (Lit × DataW H) → Nat
  | [] => 0
  | x :: r => uptoBulkEntry x + uptoBulkEntries r
def uptoBulkEntry {H : Type} : Lit × DataW H → Nat
  | (.string bytes, d) => bytes.length + uptoBulk d + 1
  | (_, d) => uptoBulk d + 1
 end
def uptoSmall : (H : Type) → List (DataW H) → Bool := fun _ ds => decide (uptoBulkAll ds ≤ 1048576)
def OpenSpec.upto (s : _root_.Go.ChangeSpec) : _root_.Go.OpenSpec := { _root_.Go.OpenSpec.ofChange s with cond := some uptoSmall }

/-- 'kistlaw07.CartOwn', WHERE WHAT IT READS IS OF BULK AT MOST 1048576: true; the input reads as it did. -/
def cartOwnUptoRow : OpenClaim := { program := "ytiiilimmjoadeaa", sum := "c6028577a86455707708a1d118a245ad2310ced3c399c0de60ce6cbd5f9a1f1a", func := "kist/kistlaw07.CartOwn", spec := "cartOwn", apart := false, narrowed := true }
def CartOwnUptoSaid : Prop := cartOwnUptoRow.holds Try.pinned (OpenSpec.upto cartOwnSpec)

/-- 'kistlaw07.CartTears', WHERE WHAT IT READS IS OF BULK AT MOST 1048576: true; the input reads as it did. -/
def cartTearsUptoRow : OpenClaim := { program := "ytiiilimmjoadeaa", sum := "c6028577a86455707708a1d118a245ad2310ced3c399c0de60ce6cbd5f9a1f1a", func := "kist/kistlaw07.CartTears", spec := "cartTears", apart := false, narrowed := true }
def CartTearsUptoSaid : Prop := cartTearsUptoRow.holds Try.pinned (OpenSpec.upto cartTearsSpec)

/-- 'kistlaw07.CartKeeps', WHERE WHAT IT READS IS OF BULK AT MOST 1048576: true; the input reads as it did. -/
def cartKeepsUptoRow : OpenClaim := { program := "ytiiilimmjoadeaa", sum := "c6028577a86455707708a1d118a245ad2310ced3c399c0de60ce6cbd5f9a1f1a", func := "kist/kistlaw07.CartKeeps", spec := "cartKeeps", apart := false, narrowed := true }
def CartKeepsUptoSaid : Prop := cartKeepsUptoRow.holds Try.pinned (OpenSpec.upto cartKeepsSpec)

/-- 'kistlaw07.CartPlays', WHERE WHAT IT READS IS OF BULK AT MOST 1048576: true; the input reads as it did. -/
def cartPlaysUptoRow : OpenClaim := { program := "ytiiilimmjoadeaa", sum := "c6028577a86455707708a1d118a245ad2310ced3c399c0de60ce6cbd5f9a1f1a", func := "kist/kistlaw07.CartPlays", spec := "cartPlays", apart := false, narrowed := true }
def CartPlaysUptoSaid : Prop := cartPlaysUptoRow.holds Try.pinned (OpenSpec.upto cartPlaysSpec)

/-- 'kistlaw07.CartLost', WHERE WHAT IT READS IS OF BULK AT MOST 1048576: true; the input reads as it did. -/
def cartLostUptoRow : OpenClaim := { program := "ytiiilimmjoadeaa", sum := "c6028577a86455707708a1d118a245ad2310ced3c399c0de60ce6cbd5f9a1f1a", func := "kist/kistlaw07.CartLost", spec := "cartLost", apart := false, narrowed := true }
def CartLostUptoSaid : Prop := cartLostUptoRow.holds Try.pinned (OpenSpec.upto cartLostSpec)

/-- 'kistlaw07.CartNone', WHERE WHAT IT READS IS OF BULK AT MOST 1048576: true; the input reads as it did. -/
def cartNoneUptoRow : OpenClaim := { program := "ytiiilimmjoadeaa", sum := "c6028577a86455707708a1d118a245ad2310ced3c399c0de60ce6cbd5f9a1f1a", func := "kist/kistlaw07.CartNone", spec := "cartNone", apart := false, narrowed := true }
def CartNoneUptoSaid : Prop := cartNoneUptoRow.holds Try.pinned (OpenSpec.upto cartNoneSpec)

/-- 'kistlaw08.LibNone', WHERE WHAT IT READS IS OF BULK AT MOST 1048576: true; the input reads as it did. -/
def libNoneUptoRow : OpenClaim := { program := "ytiiilimmjoadeaa", sum := "c6028577a86455707708a1d118a245ad2310ced3c399c0de60ce6cbd5f9a1f1a", func := "kist/kistlaw08.LibNone", spec := "libNone", apart := false, narrowed := true }
def LibNoneUptoSaid : Prop := libNoneUptoRow.holds Try.pinned (OpenSpec.upto libNoneSpec)

/-- 'kistlaw08.LibOnce', WHERE WHAT IT READS IS OF BULK AT MOST 1048576: true; the input reads as it did. -/
def libOnceUptoRow : OpenClaim := { program := "ytiiilimmjoadeaa", sum := "c6028577a86455707708a1d118a245ad2310ced3c399c0de60ce6cbd5f9a1f1a", func := "kist/kistlaw08.LibOnce", spec := "libOnce", apart := false, narrowed := true }
def LibOnceUptoSaid : Prop := libOnceUptoRow.holds Try.pinned (OpenSpec.upto libOnceSpec)

/-- 'kistlaw08.LibMoves', WHERE WHAT IT READS IS OF BULK AT MOST 1048576: true; the input reads as it did. -/
def libMovesUptoRow : OpenClaim := { program := "ytiiilimmjoadeaa", sum := "c6028577a86455707708a1d118a245ad2310ced3c399c0de60ce6cbd5f9a1f1a", func := "kist/kistlaw08.LibMoves", spec := "libMoves", apart := false, narrowed := true }
def LibMovesUptoSaid : Prop := libMovesUptoRow.holds Try.pinned (OpenSpec.upto libMovesSpec)

/-- 'kistlaw08.LibThree', WHERE WHAT IT READS IS OF BULK AT MOST 1048576: true; the input reads as it did. -/
def libThreeUptoRow : OpenClaim := { program := "ytiiilimmjoadeaa", sum := "c6028577a86455707708a1d118a245ad2310ced3c399c0de60ce6cbd5f9a1f1a", func := "kist/kistlaw08.LibThree", spec := "libThree", apart := false, narrowed := true }
def LibThreeUptoSaid : Prop := libThreeUptoRow.holds Try.pinned (OpenSpec.upto libThreeSpec)

end Rows
end Go.Proofs.Ytiiilimmjoadeaa
