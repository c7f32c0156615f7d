/-
  No cell of these rows narrows 'for every input' (looked for: loops, veiled, ifaces, maps, wideKeys, modest, calm, conditions, laid).
  DERIVED. THE GIVEN ROWS OF THIS SEAT. 9 by the template 'for every input the law returns true; each argument reads behind the call as it read before'; 0 by the template 'total and deterministic' (their statements: YtbdlpigokahnoaaTotals.lean).
  GIVEN WITH THE SEED: the statements are not yours to turn. If you find one false, say at which input.
  Laid BY PROGRAM, IN A SANDBOX (cutbox-rows.mjs): the forced cells as the released guide's own fill.sh prints them over the translation 71671be01c716b18… (all of the seat's roots in one cut). By AI agents, Wed Nov 11 2026. No macro, syntax, notation, axiom, sorry.
-/
import Derived.Test.YtbdlpigokahnoaaChecked
import GoSem.Claim
import GoSem.ClaimJoined
import GoSem.ClaimMapViews
import Derived.JoinedTies
import Derived.KernelRfl
namespace Go.Proofs.Ytbdlpigokahnoaa
/- THE CELL 'sum', in the pinned program and in every row, IS THE sha256 OF THE DUMP (.gsa) THAT YtbdlpigokahnoaaProg.lean LOADS. Nothing in Lean hashes anything: it is a label: what it is worth is what the hold of that sum in a sandbox is worth. -/
noncomputable def Try.pinned : Pinned := { name := "ytbdlpigokahnoaa", sum := "71671be01c716b185c5d3b65340c88923ebdf4c88ed5fecc719c81455a33d3ee", checked := Try.checked }
namespace Rows
def none {H : Type} : Left H := { results := [], args := [] }

/-- 'towlinetop.WholeWeave': WHATEVER THE INPUT: true; the input reads as it did. -/
def wholeWeaveSpec : ChangeSpec := { name := "wholeWeave", fn := fun _ => fun
  | [d1, d2, d3] => { results := [.lit (.bool true)], args := [d1, d2, d3] }
  | _ => none }
def wholeWeaveRow : OpenClaim := { program := "ytbdlpigokahnoaa", sum := "71671be01c716b185c5d3b65340c88923ebdf4c88ed5fecc719c81455a33d3ee", func := "towline/towlinetop.WholeWeave", spec := "wholeWeave", inPlace := ["internal/bytealg.IndexByte", "internal/abi.NoEscape", "internal/bytealg.MakeNoZero"], apart := false }
def WholeWeaveSaid : Prop := wholeWeaveRow.holds Try.pinned (OpenSpec.ofChange wholeWeaveSpec)

/-- ITS FALSE NEIGHBOUR: 'it returns false'. Refute it at one input. -/
def wholeWeaveWrong : ChangeSpec := { name := "wholeWeave", fn := fun _ => fun
  | [d1, d2, d3] => { results := [.lit (.bool false)], args := [d1, d2, d3] }
  | _ => none }
def WholeWeaveWrongFalsely : Prop := wholeWeaveRow.holds Try.pinned (OpenSpec.ofChange wholeWeaveWrong)

/-- 'towlinelaw08.WeaveMerges': WHATEVER THE INPUT: true; the input reads as it did. -/
def weaveMergesSpec : ChangeSpec := { name := "weaveMerges", fn := fun _ => fun
  | [d1, d2, d3] => { results := [.lit (.bool true)], args := [d1, d2, d3] }
  | _ => none }
def weaveMergesRow : OpenClaim := { program := "ytbdlpigokahnoaa", sum := "71671be01c716b185c5d3b65340c88923ebdf4c88ed5fecc719c81455a33d3ee", func := "towline/towlinelaw08.WeaveMerges", spec := "weaveMerges", apart := false }
def WeaveMergesSaid : Prop := weaveMergesRow.holds Try.pinned (OpenSpec.ofChange weaveMergesSpec)

/-- ITS FALSE NEIGHBOUR: 'it returns false'. Refute it at one input. -/
def weaveMergesWrong : ChangeSpec := { name := "weaveMerges", fn := fun _ => fun
  | [d1, d2, d3] => { results := [.lit (.bool false)], args := [d1, d2, d3] }
  | _ => none }
def WeaveMergesWrongFalsely : Prop := weaveMergesRow.holds Try.pinned (OpenSpec.ofChange weaveMergesWrong)

/-- 'towlinelaw08.WeaveTexts': WHATEVER THE INPUT: true; the input reads as it did. -/
def weaveTextsSpec : ChangeSpec := { name := "weaveTexts", fn := fun _ => fun
  | [d1, d2, d3] => { results := [.lit (.bool true)], args := [d1, d2, d3] }
  | _ => none }
def weaveTextsRow : OpenClaim := { program := "ytbdlpigokahnoaa", sum := "71671be01c716b185c5d3b65340c88923ebdf4c88ed5fecc719c81455a33d3ee", func := "towline/towlinelaw08.WeaveTexts", spec := "weaveTexts", apart := false }
def WeaveTextsSaid : Prop := weaveTextsRow.holds Try.pinned (OpenSpec.ofChange weaveTextsSpec)

/-- ITS FALSE NEIGHBOUR: 'it returns false'. Refute it at one input. -/
def weaveTextsWrong : ChangeSpec := { name := "weaveTexts", fn := fun _ => fun
  | [d1, d2, d3] => { results := [.lit (.bool false)], args := [d1, d2, d3] }
  | _ => none }
def WeaveTextsWrongFalsely : Prop := weaveTextsRow.holds Try.pinned (OpenSpec.ofChange weaveTextsWrong)

/-- 'towlinelaw08.WeaveParts': WHATEVER THE INPUT: true; the input reads as it did. -/
def weavePartsSpec : ChangeSpec := { name := "weaveParts", fn := fun _ => fun
  | [d1, d2, d3] => { results := [.lit (.bool true)], args := [d1, d2, d3] }
  | _ => none }
def weavePartsRow : OpenClaim := { program := "ytbdlpigokahnoaa", sum := "71671be01c716b185c5d3b65340c88923ebdf4c88ed5fecc719c81455a33d3ee", func := "towline/towlinelaw08.WeaveParts", spec := "weaveParts", apart := false }
def WeavePartsSaid : Prop := weavePartsRow.holds Try.pinned (OpenSpec.ofChange weavePartsSpec)

/-- ITS FALSE NEIGHBOUR: 'it returns false'. Refute it at one input. -/
def weavePartsWrong : ChangeSpec := { name := "weaveParts", fn := fun _ => fun
  | [d1, d2, d3] => { results := [.lit (.bool false)], args := [d1, d2, d3] }
  | _ => none }
def WeavePartsWrongFalsely : Prop := weavePartsRow.holds Try.pinned (OpenSpec.ofChange weavePartsWrong)

/-- 'towlinelaw08.WeaveSides': WHATEVER THE INPUT: true; the input reads as it did. -/
def weaveSidesSpec : ChangeSpec := { name := "weaveSides", fn := fun _ => fun
  | [d1, d2] => { results := [.lit (.bool true)], args := [d1, d2] }
  | _ => none }
def weaveSidesRow : OpenClaim := { program := "ytbdlpigokahnoaa", sum := "71671be01c716b185c5d3b65340c88923ebdf4c88ed5fecc719c81455a33d3ee", func := "towline/towlinelaw08.WeaveSides", spec := "weaveSides", apart := false }
def WeaveSidesSaid : Prop := weaveSidesRow.holds Try.pinned (OpenSpec.ofChange weaveSidesSpec)

/-- ITS FALSE NEIGHBOUR: 'it returns false'. Refute it at one input. -/
def weaveSidesWrong : ChangeSpec := { name := "weaveSides", fn := fun _ => fun
  | [d1, d2] => { results := [.lit (.bool false)], args := [d1, d2] }
  | _ => none }
def WeaveSidesWrongFalsely : Prop := weaveSidesRow.holds Try.pinned (OpenSpec.ofChange weaveSidesWrong)

/-- 'towlinelaw08.WeaveApart': WHATEVER THE INPUT: true; the input reads as it did. -/
def weaveApartSpec : ChangeSpec := { name := "weaveApart", fn := fun _ => fun
  | [d1, d2, d3] => { results := [.lit (.bool true)], args := [d1, d2, d3] }
  | _ => none }
def weaveApartRow : OpenClaim := { program := "ytbdlpigokahnoaa", sum := "71671be01c716b185c5d3b65340c88923ebdf4c88ed5fecc719c81455a33d3ee", func := "towline/towlinelaw08.WeaveApart", spec := "weaveApart", apart := false }
def WeaveApartSaid : Prop := weaveApartRow.holds Try.pinned (OpenSpec.ofChange weaveApartSpec)

/-- ITS FALSE NEIGHBOUR: 'it returns false'. Refute it at one input. -/
def weaveApartWrong : ChangeSpec := { name := "weaveApart", fn := fun _ => fun
  | [d1, d2, d3] => { results := [.lit (.bool false)], args := [d1, d2, d3] }
  | _ => none }
def WeaveApartWrongFalsely : Prop := weaveApartRow.holds Try.pinned (OpenSpec.ofChange weaveApartWrong)

/-- 'towlinelaw08.WeaveAgain': WHATEVER THE INPUT: true; the input reads as it did. -/
def weaveAgainSpec : ChangeSpec := { name := "weaveAgain", fn := fun _ => fun
  | [d1, d2, d3] => { results := [.lit (.bool true)], args := [d1, d2, d3] }
  | _ => none }
def weaveAgainRow : OpenClaim := { program := "ytbdlpigokahnoaa", sum := "71671be01c716b185c5d3b65340c88923ebdf4c88ed5fecc719c81455a33d3ee", func := "towline/towlinelaw08.WeaveAgain", spec := "weaveAgain", apart := false }
def WeaveAgainSaid : Prop := weaveAgainRow.holds Try.pinned (OpenSpec.ofChange weaveAgainSpec)

/-- ITS FALSE NEIGHBOUR: 'it returns false'. Refute it at one input. -/
def weaveAgainWrong : ChangeSpec := { name := "weaveAgain", fn := fun _ => fun
  | [d1, d2, d3] => { results := [.lit (.bool false)], args := [d1, d2, d3] }
  | _ => none }
def WeaveAgainWrongFalsely : Prop := weaveAgainRow.holds Try.pinned (OpenSpec.ofChange weaveAgainWrong)

/-- 'towlinelaw08.WeaveSwap': WHATEVER THE INPUT: true; the input reads as it did. -/
def weaveSwapSpec : ChangeSpec := { name := "weaveSwap", fn := fun _ => fun
  | [d1, d2, d3] => { results := [.lit (.bool true)], args := [d1, d2, d3] }
  | _ => none }
def weaveSwapRow : OpenClaim := { program := "ytbdlpigokahnoaa", sum := "71671be01c716b185c5d3b65340c88923ebdf4c88ed5fecc719c81455a33d3ee", func := "towline/towlinelaw08.WeaveSwap", spec := "weaveSwap", apart := false }
def WeaveSwapSaid : Prop := weaveSwapRow.holds Try.pinned (OpenSpec.ofChange weaveSwapSpec)

/-- ITS FALSE NEIGHBOUR: 'it returns false'. Refute it at one input. -/
def weaveSwapWrong : ChangeSpec := { name := "weaveSwap", fn := fun _ => fun
  | [d1, d2, d3] => { results := [.lit (.bool false)], args := [d1, d2, d3] }
  | _ => none }
def WeaveSwapWrongFalsely : Prop := weaveSwapRow.holds Try.pinned (OpenSpec.ofChange weaveSwapWrong)

/-- 'towlinelaw08.WeaveMarks': WHATEVER THE INPUT: true; the input reads as it did. -/
def weaveMarksSpec : ChangeSpec := { name := "weaveMarks", fn := fun _ => fun
  | [d1, d2, d3] => { results := [.lit (.bool true)], args := [d1, d2, d3] }
  | _ => none }
def weaveMarksRow : OpenClaim := { program := "ytbdlpigokahnoaa", sum := "71671be01c716b185c5d3b65340c88923ebdf4c88ed5fecc719c81455a33d3ee", func := "towline/towlinelaw08.WeaveMarks", spec := "weaveMarks", inPlace := ["internal/bytealg.IndexByte"], apart := false }
def WeaveMarksSaid : Prop := weaveMarksRow.holds Try.pinned (OpenSpec.ofChange weaveMarksSpec)

/-- ITS FALSE NEIGHBOUR: 'it returns false'. Refute it at one input. -/
def weaveMarksWrong : ChangeSpec := { name := "weaveMarks", fn := fun _ => fun
  | [d1, d2, d3] => { results := [.lit (.bool false)], args := [d1, d2, d3] }
  | _ => none }
def WeaveMarksWrongFalsely : Prop := weaveMarksRow.holds Try.pinned (OpenSpec.ofChange weaveMarksWrong)

/- THE SECOND FORM. 'bulk': how many values and letters a reading holds, each counted each time it is reached (what is shared counts as often as it is met; a slice's spare places count too). A statement '..UptoSaid' is the law's where the arguments, and the package variables that the reading takes, are together of bulk at most 1048576: NARROWER than '..Said'. Prove '..Said' where nothing that the law and all that it calls make is longer than what came in: it says more and counts as full. Else prove '..UptoSaid'. A law counts once. -/
mutual
def uptoBulk {H : Type} : DataW H → Nat
  | .lit (.string bytes) => bytes.length + 1
  | .lit _ => 1
  | .nil => 1
  | .ptr d => uptoBulk d + 1
  | .slice elems spare => uptoBulkAll elems + uptoBulkAll spare + 1
  | .agg parts => uptoBulkAll parts + 1
  | .iface _ d => uptoBulk d + 1
  | .map entries => uptoBulkEntries entries + 1
  | .held _ => 1
def uptoBulkAll {H : Type} : List (DataW H) → Nat
  | [] => 0
  | d :: r => uptoBulk d + uptoBulkAll r
def uptoBulkEntries {H : Type} : List (Lit × DataW H) → Nat
  | [] => 0
  | x :: r => uptoBulkEntry x + uptoBulkEntries r
def uptoBulkEntry {H : Type} : Lit × DataW H → Nat
  | (.string bytes, d) => bytes.length + uptoBulk d + 1
  | (_, d) => uptoBulk d + 1
 end
def uptoSmall : (H : Type) → List (DataW H) → Bool := fun _ ds => decide (uptoBulkAll ds ≤ 1048576)
def OpenSpec.upto (s : _root_.Go.ChangeSpec) : _root_.Go.OpenSpec := { _root_.Go.OpenSpec.ofChange s with cond := some uptoSmall }

/-- 'towlinetop.WholeWeave', WHERE WHAT IT READS IS OF BULK AT MOST 1048576: true; the input reads as it did. -/
def wholeWeaveUptoRow : OpenClaim := { program := "ytbdlpigokahnoaa", sum := "71671be01c716b185c5d3b65340c88923ebdf4c88ed5fecc719c81455a33d3ee", func := "towline/towlinetop.WholeWeave", spec := "wholeWeave", inPlace := ["internal/bytealg.IndexByte", "internal/abi.NoEscape", "internal/bytealg.MakeNoZero"], apart := false, narrowed := true }
def WholeWeaveUptoSaid : Prop := wholeWeaveUptoRow.holds Try.pinned (OpenSpec.upto wholeWeaveSpec)

/-- 'towlinelaw08.WeaveMerges', WHERE WHAT IT READS IS OF BULK AT MOST 1048576: true; the input reads as it did. -/
def weaveMergesUptoRow : OpenClaim := { program := "ytbdlpigokahnoaa", sum := "71671be01c716b185c5d3b65340c88923ebdf4c88ed5fecc719c81455a33d3ee", func := "towline/towlinelaw08.WeaveMerges", spec := "weaveMerges", apart := false, narrowed := true }
def WeaveMergesUptoSaid : Prop := weaveMergesUptoRow.holds Try.pinned (OpenSpec.upto weaveMergesSpec)

/-- 'towlinelaw08.WeaveTexts', WHERE WHAT IT READS IS OF BULK AT MOST 1048576: true; the input reads as it did. -/
def weaveTextsUptoRow : OpenClaim := { program := "ytbdlpigokahnoaa", sum := "71671be01c716b185c5d3b65340c88923ebdf4c88ed5fecc719c81455a33d3ee", func := "towline/towlinelaw08.WeaveTexts", spec := "weaveTexts", apart := false, narrowed := true }
def WeaveTextsUptoSaid : Prop := weaveTextsUptoRow.holds Try.pinned (OpenSpec.upto weaveTextsSpec)

/-- 'towlinelaw08.WeaveParts', WHERE WHAT IT READS IS OF BULK AT MOST 1048576: true; the input reads as it did. -/
def weavePartsUptoRow : OpenClaim := { program := "ytbdlpigokahnoaa", sum := "71671be01c716b185c5d3b65340c88923ebdf4c88ed5fecc719c81455a33d3ee", func := "towline/towlinelaw08.WeaveParts", spec := "weaveParts", apart := false, narrowed := true }
def WeavePartsUptoSaid : Prop := weavePartsUptoRow.holds Try.pinned (OpenSpec.upto weavePartsSpec)

/-- 'towlinelaw08.WeaveSides', WHERE WHAT IT READS IS OF BULK AT MOST 1048576: true; the input reads as it did. -/
def weaveSidesUptoRow : OpenClaim := { program := "ytbdlpigokahnoaa", sum := "71671be01c716b185c5d3b65340c88923ebdf4c88ed5fecc719c81455a33d3ee", func := "towline/towlinelaw08.WeaveSides", spec := "weaveSides", apart := false, narrowed := true }
def WeaveSidesUptoSaid : Prop := weaveSidesUptoRow.holds Try.pinned (OpenSpec.upto weaveSidesSpec)

/-- 'towlinelaw08.WeaveApart', WHERE WHAT IT READS IS OF BULK AT MOST 1048576: true; the input reads as it did. -/
def weaveApartUptoRow : OpenClaim := { program := "ytbdlpigokahnoaa", sum := "71671be01c716b185c5d3b65340c88923ebdf4c88ed5fecc719c81455a33d3ee", func := "towline/towlinelaw08.WeaveApart", spec := "weaveApart", apart := false, narrowed := true }
def WeaveApartUptoSaid : Prop := weaveApartUptoRow.holds Try.pinned (OpenSpec.upto weaveApartSpec)

/-- 'towlinelaw08.WeaveAgain', WHERE WHAT IT READS IS OF BULK AT MOST 1048576: true; the input reads as it did. -/
def weaveAgainUptoRow : OpenClaim := { program := "ytbdlpigokahnoaa", sum := "71671be01c716b185c5d3b65340c88923ebdf4c88ed5fecc719c81455a33d3ee", func := "towline/towlinelaw08.WeaveAgain", spec := "weaveAgain", apart := false, narrowed := true }
def WeaveAgainUptoSaid : Prop := weaveAgainUptoRow.holds Try.pinned (OpenSpec.upto weaveAgainSpec)

/-- 'towlinelaw08.WeaveSwap', WHERE WHAT IT READS IS OF BULK AT MOST 1048576: true; the input reads as it did. -/
def weaveSwapUptoRow : OpenClaim := { program := "ytbdlpigokahnoaa", sum := "71671be01c716b185c5d3b65340c88923ebdf4c88ed5fecc719c81455a33d3ee", func := "towline/towlinelaw08.WeaveSwap", spec := "weaveSwap", apart := false, narrowed := true }
def WeaveSwapUptoSaid : Prop := weaveSwapUptoRow.holds Try.pinned (OpenSpec.upto weaveSwapSpec)

/-- 'towlinelaw08.WeaveMarks', WHERE WHAT IT READS IS OF BULK AT MOST 1048576: true; the input reads as it did. -/
def weaveMarksUptoRow : OpenClaim := { program := "ytbdlpigokahnoaa", sum := "71671be01c716b185c5d3b65340c88923ebdf4c88ed5fecc719c81455a33d3ee", func := "towline/towlinelaw08.WeaveMarks", spec := "weaveMarks", inPlace := ["internal/bytealg.IndexByte"], apart := false, narrowed := true }
def WeaveMarksUptoSaid : Prop := weaveMarksUptoRow.holds Try.pinned (OpenSpec.upto weaveMarksSpec)

end Rows
end Go.Proofs.Ytbdlpigokahnoaa
