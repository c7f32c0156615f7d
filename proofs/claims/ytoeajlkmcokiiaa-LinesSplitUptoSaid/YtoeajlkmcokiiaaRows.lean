/-
  No cell of these rows narrows 'for every input' (looked for: loops, veiled, ifaces, maps, wideKeys, modest, calm, conditions, laid).
  DERIVED. THE GIVEN ROWS OF THIS SEAT. 6 by the template 'for every input the law returns true; each argument reads behind the call as it read before'; 0 by the template 'total and deterministic' (their statements: YtoeajlkmcokiiaaTotals.lean).
  GIVEN WITH THE SEED: the statements are not yours to turn. If you find one false, say at which input.
  Laid BY PROGRAM, IN A SANDBOX (cutbox-rows.mjs): the forced cells as the released guide's own fill.sh prints them over the translation d342b6fa0957617e… (all of the seat's roots in one cut). By AI agents, Wed Nov 11 2026. No macro, syntax, notation, axiom, sorry.
-/
import Derived.Test.YtoeajlkmcokiiaaChecked
import GoSem.Claim
import GoSem.ClaimJoined
import GoSem.ClaimMapViews
import Derived.JoinedTies
import Derived.KernelRfl
namespace Go.Proofs.Ytoeajlkmcokiiaa
/- THE CELL 'sum', in the pinned program and in every row, IS THE sha256 OF THE DUMP (.gsa) THAT YtoeajlkmcokiiaaProg.lean LOADS. Nothing in Lean hashes anything: it is a label: what it is worth is what the hold of that sum in a sandbox is worth. -/
noncomputable def Try.pinned : Pinned := { name := "ytoeajlkmcokiiaa", sum := "d342b6fa0957617e69cd1d191664d10ce6526001b2d5de6448b7bbb798ee164b", checked := Try.checked }
namespace Rows
def none {H : Type} : Left H := { results := [], args := [] }

/-- 'towlinelaw07.LinesDiffer': WHATEVER THE INPUT: true; the input reads as it did. -/
def linesDifferSpec : ChangeSpec := { name := "linesDiffer", fn := fun _ => fun
  | [d1, d2] => { results := [.lit (.bool true)], args := [d1, d2] }
  | _ => none }
def linesDifferRow : OpenClaim := { program := "ytoeajlkmcokiiaa", sum := "d342b6fa0957617e69cd1d191664d10ce6526001b2d5de6448b7bbb798ee164b", func := "towline/towlinelaw07.LinesDiffer", spec := "linesDiffer", inPlace := ["internal/bytealg.IndexByte"], apart := false }
def LinesDifferSaid : Prop := linesDifferRow.holds Try.pinned (OpenSpec.ofChange linesDifferSpec)

/-- ITS FALSE NEIGHBOUR: 'it returns false'. Refute it at one input. -/
def linesDifferWrong : ChangeSpec := { name := "linesDiffer", fn := fun _ => fun
  | [d1, d2] => { results := [.lit (.bool false)], args := [d1, d2] }
  | _ => none }
def LinesDifferWrongFalsely : Prop := linesDifferRow.holds Try.pinned (OpenSpec.ofChange linesDifferWrong)

/-- 'towlinelaw07.LinesPatch': WHATEVER THE INPUT: true; the input reads as it did. -/
def linesPatchSpec : ChangeSpec := { name := "linesPatch", fn := fun _ => fun
  | [d1, d2] => { results := [.lit (.bool true)], args := [d1, d2] }
  | _ => none }
def linesPatchRow : OpenClaim := { program := "ytoeajlkmcokiiaa", sum := "d342b6fa0957617e69cd1d191664d10ce6526001b2d5de6448b7bbb798ee164b", func := "towline/towlinelaw07.LinesPatch", spec := "linesPatch", inPlace := ["internal/bytealg.IndexByte"], apart := false }
def LinesPatchSaid : Prop := linesPatchRow.holds Try.pinned (OpenSpec.ofChange linesPatchSpec)

/-- ITS FALSE NEIGHBOUR: 'it returns false'. Refute it at one input. -/
def linesPatchWrong : ChangeSpec := { name := "linesPatch", fn := fun _ => fun
  | [d1, d2] => { results := [.lit (.bool false)], args := [d1, d2] }
  | _ => none }
def LinesPatchWrongFalsely : Prop := linesPatchRow.holds Try.pinned (OpenSpec.ofChange linesPatchWrong)

/-- 'towlinelaw07.LinesLongest': WHATEVER THE INPUT: true; the input reads as it did. -/
def linesLongestSpec : ChangeSpec := { name := "linesLongest", fn := fun _ => fun
  | [d1, d2, d3] => { results := [.lit (.bool true)], args := [d1, d2, d3] }
  | _ => none }
def linesLongestRow : OpenClaim := { program := "ytoeajlkmcokiiaa", sum := "d342b6fa0957617e69cd1d191664d10ce6526001b2d5de6448b7bbb798ee164b", func := "towline/towlinelaw07.LinesLongest", spec := "linesLongest", inPlace := ["internal/bytealg.IndexByte"], apart := false }
def LinesLongestSaid : Prop := linesLongestRow.holds Try.pinned (OpenSpec.ofChange linesLongestSpec)

/-- ITS FALSE NEIGHBOUR: 'it returns false'. Refute it at one input. -/
def linesLongestWrong : ChangeSpec := { name := "linesLongest", fn := fun _ => fun
  | [d1, d2, d3] => { results := [.lit (.bool false)], args := [d1, d2, d3] }
  | _ => none }
def LinesLongestWrongFalsely : Prop := linesLongestRow.holds Try.pinned (OpenSpec.ofChange linesLongestWrong)

/-- 'towlinelaw07.LinesEnds': WHATEVER THE INPUT: true; the input reads as it did. -/
def linesEndsSpec : ChangeSpec := { name := "linesEnds", fn := fun _ => fun
  | [d1, d2, d3] => { results := [.lit (.bool true)], args := [d1, d2, d3] }
  | _ => none }
def linesEndsRow : OpenClaim := { program := "ytoeajlkmcokiiaa", sum := "d342b6fa0957617e69cd1d191664d10ce6526001b2d5de6448b7bbb798ee164b", func := "towline/towlinelaw07.LinesEnds", spec := "linesEnds", inPlace := ["internal/bytealg.IndexByte"], apart := false }
def LinesEndsSaid : Prop := linesEndsRow.holds Try.pinned (OpenSpec.ofChange linesEndsSpec)

/-- ITS FALSE NEIGHBOUR: 'it returns false'. Refute it at one input. -/
def linesEndsWrong : ChangeSpec := { name := "linesEnds", fn := fun _ => fun
  | [d1, d2, d3] => { results := [.lit (.bool false)], args := [d1, d2, d3] }
  | _ => none }
def LinesEndsWrongFalsely : Prop := linesEndsRow.holds Try.pinned (OpenSpec.ofChange linesEndsWrong)

/-- 'towlinelaw07.LinesThere': WHATEVER THE INPUT: true; the input reads as it did. -/
def linesThereSpec : ChangeSpec := { name := "linesThere", fn := fun _ => fun
  | [d1, d2] => { results := [.lit (.bool true)], args := [d1, d2] }
  | _ => none }
def linesThereRow : OpenClaim := { program := "ytoeajlkmcokiiaa", sum := "d342b6fa0957617e69cd1d191664d10ce6526001b2d5de6448b7bbb798ee164b", func := "towline/towlinelaw07.LinesThere", spec := "linesThere", inPlace := ["internal/bytealg.IndexByte"], apart := false }
def LinesThereSaid : Prop := linesThereRow.holds Try.pinned (OpenSpec.ofChange linesThereSpec)

/-- ITS FALSE NEIGHBOUR: 'it returns false'. Refute it at one input. -/
def linesThereWrong : ChangeSpec := { name := "linesThere", fn := fun _ => fun
  | [d1, d2] => { results := [.lit (.bool false)], args := [d1, d2] }
  | _ => none }
def LinesThereWrongFalsely : Prop := linesThereRow.holds Try.pinned (OpenSpec.ofChange linesThereWrong)

/-- 'towlinelaw07.LinesSplit': WHATEVER THE INPUT: true; the input reads as it did. -/
def linesSplitSpec : ChangeSpec := { name := "linesSplit", fn := fun _ => fun
  | [d] => { results := [.lit (.bool true)], args := [d] }
  | _ => none }
def linesSplitRow : OpenClaim := { program := "ytoeajlkmcokiiaa", sum := "d342b6fa0957617e69cd1d191664d10ce6526001b2d5de6448b7bbb798ee164b", func := "towline/towlinelaw07.LinesSplit", spec := "linesSplit", inPlace := ["internal/bytealg.IndexByte", "internal/abi.NoEscape", "internal/bytealg.MakeNoZero"], apart := false }
def LinesSplitSaid : Prop := linesSplitRow.holds Try.pinned (OpenSpec.ofChange linesSplitSpec)

/-- ITS FALSE NEIGHBOUR: 'it returns false'. Refute it at one input. -/
def linesSplitWrong : ChangeSpec := { name := "linesSplit", fn := fun _ => fun
  | [d] => { results := [.lit (.bool false)], args := [d] }
  | _ => none }
def LinesSplitWrongFalsely : Prop := linesSplitRow.holds Try.pinned (OpenSpec.ofChange linesSplitWrong)

/- THE SECOND FORM. 'bulk': how many values and letters a reading holds, each counted each time it is reached (what is shared counts as often as it is met; a slice's spare places count too). A statement '..UptoSaid' is the law's where the arguments, and the package variables that the reading takes, are together of bulk at most 1048576: NARROWER than '..Said'. Prove '..Said' where nothing that the law and all that it calls make is longer than what came in: it says more and counts as full. Else prove '..UptoSaid'. A law counts once. -/
mutual
def uptoBulk {H : Type} : DataW H → Nat
  | .lit (.string bytes) => bytes.length + 1
  | .lit _ => 1
  | .nil => 1
  | .ptr d => uptoBulk d + 1
  | .slice elems spare => uptoBulkAll elems + uptoBulkAll spare + 1
  | .agg parts => uptoBulkAll parts + 1
  | .iface _ d => uptoBulk d + 1
  | .map entries => uptoBulkEntries entries + 1
  | .held _ => 1
def uptoBulkAll {H : Type} : List (DataW H) → Nat
  | [] => 0
  | d :: r => uptoBulk d + uptoBulkAll r
def uptoBulkEntries {H : Type} : List (Lit × DataW H) → Nat
  | [] => 0
  | x :: r => uptoBulkEntry x + uptoBulkEntries r
def uptoBulkEntry {H : Type} : Lit × DataW H → Nat
  | (.string bytes, d) => bytes.length + uptoBulk d + 1
  | (_, d) => uptoBulk d + 1
 end
def uptoSmall : (H : Type) → List (DataW H) → Bool := fun _ ds => decide (uptoBulkAll ds ≤ 1048576)
def OpenSpec.upto (s : _root_.Go.ChangeSpec) : _root_.Go.OpenSpec := { _root_.Go.OpenSpec.ofChange s with cond := some uptoSmall }

/-- 'towlinelaw07.LinesDiffer', WHERE WHAT IT READS IS OF BULK AT MOST 1048576: true; the input reads as it did. -/
def linesDifferUptoRow : OpenClaim := { program := "ytoeajlkmcokiiaa", sum := "d342b6fa0957617e69cd1d191664d10ce6526001b2d5de6448b7bbb798ee164b", func := "towline/towlinelaw07.LinesDiffer", spec := "linesDiffer", inPlace := ["internal/bytealg.IndexByte"], apart := false, narrowed := true }
def LinesDifferUptoSaid : Prop := linesDifferUptoRow.holds Try.pinned (OpenSpec.upto linesDifferSpec)

/-- 'towlinelaw07.LinesPatch', WHERE WHAT IT READS IS OF BULK AT MOST 1048576: true; the input reads as it did. -/
def linesPatchUptoRow : OpenClaim := { program := "ytoeajlkmcokiiaa", sum := "d342b6fa0957617e69cd1d191664d10ce6526001b2d5de6448b7bbb798ee164b", func := "towline/towlinelaw07.LinesPatch", spec := "linesPatch", inPlace := ["internal/bytealg.IndexByte"], apart := false, narrowed := true }
def LinesPatchUptoSaid : Prop := linesPatchUptoRow.holds Try.pinned (OpenSpec.upto linesPatchSpec)

/-- 'towlinelaw07.LinesLongest', WHERE WHAT IT READS IS OF BULK AT MOST 1048576: true; the input reads as it did. -/
def linesLongestUptoRow : OpenClaim := { program := "ytoeajlkmcokiiaa", sum := "d342b6fa0957617e69cd1d191664d10ce6526001b2d5de6448b7bbb798ee164b", func := "towline/towlinelaw07.LinesLongest", spec := "linesLongest", inPlace := ["internal/bytealg.IndexByte"], apart := false, narrowed := true }
def LinesLongestUptoSaid : Prop := linesLongestUptoRow.holds Try.pinned (OpenSpec.upto linesLongestSpec)

/-- 'towlinelaw07.LinesEnds', WHERE WHAT IT READS IS OF BULK AT MOST 1048576: true; the input reads as it did. -/
def linesEndsUptoRow : OpenClaim := { program := "ytoeajlkmcokiiaa", sum := "d342b6fa0957617e69cd1d191664d10ce6526001b2d5de6448b7bbb798ee164b", func := "towline/towlinelaw07.LinesEnds", spec := "linesEnds", inPlace := ["internal/bytealg.IndexByte"], apart := false, narrowed := true }
def LinesEndsUptoSaid : Prop := linesEndsUptoRow.holds Try.pinned (OpenSpec.upto linesEndsSpec)

/-- 'towlinelaw07.LinesThere', WHERE WHAT IT READS IS OF BULK AT MOST 1048576: true; the input reads as it did. -/
def linesThereUptoRow : OpenClaim := { program := "ytoeajlkmcokiiaa", sum := "d342b6fa0957617e69cd1d191664d10ce6526001b2d5de6448b7bbb798ee164b", func := "towline/towlinelaw07.LinesThere", spec := "linesThere", inPlace := ["internal/bytealg.IndexByte"], apart := false, narrowed := true }
def LinesThereUptoSaid : Prop := linesThereUptoRow.holds Try.pinned (OpenSpec.upto linesThereSpec)

/-- 'towlinelaw07.LinesSplit', WHERE WHAT IT READS IS OF BULK AT MOST 1048576: true; the input reads as it did. -/
def linesSplitUptoRow : OpenClaim := { program := "ytoeajlkmcokiiaa", sum := "d342b6fa0957617e69cd1d191664d10ce6526001b2d5de6448b7bbb798ee164b", func := "towline/towlinelaw07.LinesSplit", spec := "linesSplit", inPlace := ["internal/bytealg.IndexByte", "internal/abi.NoEscape", "internal/bytealg.MakeNoZero"], apart := false, narrowed := true }
def LinesSplitUptoSaid : Prop := linesSplitUptoRow.holds Try.pinned (OpenSpec.upto linesSplitSpec)

end Rows
end Go.Proofs.Ytoeajlkmcokiiaa
