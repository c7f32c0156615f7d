/-
  No cell of these rows narrows 'for every input' (looked for: loops, veiled, ifaces, maps, wideKeys, modest, calm, conditions, laid).
  DERIVED. THE GIVEN ROWS OF THIS SEAT. 6 by the template 'for every input the law returns true; each argument reads behind the call as it read before'; 0 by the template 'total and deterministic' (their statements: YtknbbekinpamjaaTotals.lean).
  GIVEN WITH THE SEED: the statements are not yours to turn. If you find one false, say at which input.
  Laid BY PROGRAM, IN A SANDBOX (cutbox-rows.mjs): the forced cells as the released guide's own fill.sh prints them over the translation cad8398fa40a92a4… (all of the seat's roots in one cut). By AI agents, Wed Nov 11 2026. No macro, syntax, notation, axiom, sorry.
-/
import Derived.Test.YtknbbekinpamjaaChecked
import GoSem.Claim
import GoSem.ClaimJoined
import GoSem.ClaimMapViews
import Derived.JoinedTies
import Derived.KernelRfl
namespace Go.Proofs.Ytknbbekinpamjaa
/- THE CELL 'sum', in the pinned program and in every row, IS THE sha256 OF THE DUMP (.gsa) THAT YtknbbekinpamjaaProg.lean LOADS. Nothing in Lean hashes anything: it is a label: what it is worth is what the hold of that sum in a sandbox is worth. -/
noncomputable def Try.pinned : Pinned := { name := "ytknbbekinpamjaa", sum := "cad8398fa40a92a45548740877d3ca9da19afb302e97d570cd1b1e91346b75a9", checked := Try.checked }
namespace Rows
def none {H : Type} : Left H := { results := [], args := [] }

/-- 'towlinelaw03.ShaSums': WHATEVER THE INPUT: true; the input reads as it did. -/
def shaSumsSpec : ChangeSpec := { name := "shaSums", fn := fun _ => fun
  | [d1, d2] => { results := [.lit (.bool true)], args := [d1, d2] }
  | _ => none }
def shaSumsRow : OpenClaim := { program := "ytknbbekinpamjaa", sum := "cad8398fa40a92a45548740877d3ca9da19afb302e97d570cd1b1e91346b75a9", func := "towline/towlinelaw03.ShaSums", spec := "shaSums", apart := false }
def ShaSumsSaid : Prop := shaSumsRow.holds Try.pinned (OpenSpec.ofChange shaSumsSpec)

/-- ITS FALSE NEIGHBOUR: 'it returns false'. Refute it at one input. -/
def shaSumsWrong : ChangeSpec := { name := "shaSums", fn := fun _ => fun
  | [d1, d2] => { results := [.lit (.bool false)], args := [d1, d2] }
  | _ => none }
def ShaSumsWrongFalsely : Prop := shaSumsRow.holds Try.pinned (OpenSpec.ofChange shaSumsWrong)

/-- 'towlinelaw03.ShaTexts': WHATEVER THE INPUT: true; the input reads as it did. -/
def shaTextsSpec : ChangeSpec := { name := "shaTexts", fn := fun _ => fun
  | [d1, d2, d3] => { results := [.lit (.bool true)], args := [d1, d2, d3] }
  | _ => none }
def shaTextsRow : OpenClaim := { program := "ytknbbekinpamjaa", sum := "cad8398fa40a92a45548740877d3ca9da19afb302e97d570cd1b1e91346b75a9", func := "towline/towlinelaw03.ShaTexts", spec := "shaTexts", apart := false }
def ShaTextsSaid : Prop := shaTextsRow.holds Try.pinned (OpenSpec.ofChange shaTextsSpec)

/-- ITS FALSE NEIGHBOUR: 'it returns false'. Refute it at one input. -/
def shaTextsWrong : ChangeSpec := { name := "shaTexts", fn := fun _ => fun
  | [d1, d2, d3] => { results := [.lit (.bool false)], args := [d1, d2, d3] }
  | _ => none }
def ShaTextsWrongFalsely : Prop := shaTextsRow.holds Try.pinned (OpenSpec.ofChange shaTextsWrong)

/-- 'towlinelaw03.ShaBack': WHATEVER THE INPUT: true; the input reads as it did. -/
def shaBackSpec : ChangeSpec := { name := "shaBack", fn := fun _ => fun
  | [d1, d2] => { results := [.lit (.bool true)], args := [d1, d2] }
  | _ => none }
def shaBackRow : OpenClaim := { program := "ytknbbekinpamjaa", sum := "cad8398fa40a92a45548740877d3ca9da19afb302e97d570cd1b1e91346b75a9", func := "towline/towlinelaw03.ShaBack", spec := "shaBack", apart := false }
def ShaBackSaid : Prop := shaBackRow.holds Try.pinned (OpenSpec.ofChange shaBackSpec)

/-- ITS FALSE NEIGHBOUR: 'it returns false'. Refute it at one input. -/
def shaBackWrong : ChangeSpec := { name := "shaBack", fn := fun _ => fun
  | [d1, d2] => { results := [.lit (.bool false)], args := [d1, d2] }
  | _ => none }
def ShaBackWrongFalsely : Prop := shaBackRow.holds Try.pinned (OpenSpec.ofChange shaBackWrong)

/-- 'towlinelaw03.ShaShort': WHATEVER THE INPUT: true; the input reads as it did. -/
def shaShortSpec : ChangeSpec := { name := "shaShort", fn := fun _ => fun
  | [d1, d2] => { results := [.lit (.bool true)], args := [d1, d2] }
  | _ => none }
def shaShortRow : OpenClaim := { program := "ytknbbekinpamjaa", sum := "cad8398fa40a92a45548740877d3ca9da19afb302e97d570cd1b1e91346b75a9", func := "towline/towlinelaw03.ShaShort", spec := "shaShort", apart := false }
def ShaShortSaid : Prop := shaShortRow.holds Try.pinned (OpenSpec.ofChange shaShortSpec)

/-- ITS FALSE NEIGHBOUR: 'it returns false'. Refute it at one input. -/
def shaShortWrong : ChangeSpec := { name := "shaShort", fn := fun _ => fun
  | [d1, d2] => { results := [.lit (.bool false)], args := [d1, d2] }
  | _ => none }
def ShaShortWrongFalsely : Prop := shaShortRow.holds Try.pinned (OpenSpec.ofChange shaShortWrong)

/-- 'towlinetop.WholeChunks': WHATEVER THE INPUT: true; the input reads as it did. -/
def wholeChunksSpec : ChangeSpec := { name := "wholeChunks", fn := fun _ => fun
  | [d1, d2, d3] => { results := [.lit (.bool true)], args := [d1, d2, d3] }
  | _ => none }
def wholeChunksRow : OpenClaim := { program := "ytknbbekinpamjaa", sum := "cad8398fa40a92a45548740877d3ca9da19afb302e97d570cd1b1e91346b75a9", func := "towline/towlinetop.WholeChunks", spec := "wholeChunks", apart := false }
def WholeChunksSaid : Prop := wholeChunksRow.holds Try.pinned (OpenSpec.ofChange wholeChunksSpec)

/-- ITS FALSE NEIGHBOUR: 'it returns false'. Refute it at one input. -/
def wholeChunksWrong : ChangeSpec := { name := "wholeChunks", fn := fun _ => fun
  | [d1, d2, d3] => { results := [.lit (.bool false)], args := [d1, d2, d3] }
  | _ => none }
def WholeChunksWrongFalsely : Prop := wholeChunksRow.holds Try.pinned (OpenSpec.ofChange wholeChunksWrong)

/-- 'towlinelaw03.ShaKeeps': WHATEVER THE INPUT: true; the input reads as it did. -/
def shaKeepsSpec : ChangeSpec := { name := "shaKeeps", fn := fun _ => fun
  | [d] => { results := [.lit (.bool true)], args := [d] }
  | _ => none }
def shaKeepsRow : OpenClaim := { program := "ytknbbekinpamjaa", sum := "cad8398fa40a92a45548740877d3ca9da19afb302e97d570cd1b1e91346b75a9", func := "towline/towlinelaw03.ShaKeeps", spec := "shaKeeps", apart := false }
def ShaKeepsSaid : Prop := shaKeepsRow.holds Try.pinned (OpenSpec.ofChange shaKeepsSpec)

/-- ITS FALSE NEIGHBOUR: 'it returns false'. Refute it at one input. -/
def shaKeepsWrong : ChangeSpec := { name := "shaKeeps", fn := fun _ => fun
  | [d] => { results := [.lit (.bool false)], args := [d] }
  | _ => none }
def ShaKeepsWrongFalsely : Prop := shaKeepsRow.holds Try.pinned (OpenSpec.ofChange shaKeepsWrong)

/- THE SECOND FORM. 'bulk': how many values and letters a reading holds, each counted each time it is reached (what is shared counts as often as it is met; a slice's spare places count too). A statement '..UptoSaid' is the law's where the arguments, and the package variables that the reading takes, are together of bulk at most 1048576: NARROWER than '..Said'. Prove '..Said' where nothing that the law and all that it calls make is longer than what came in: it says more and counts as full. Else prove '..UptoSaid'. A law counts once. -/
mutual
def uptoBulk {H : Type} : DataW H → Nat
  | .lit (.string bytes) => bytes.length + 1
  | .lit _ => 1
  | .nil => 1
  | .ptr d => uptoBulk d + 1
  | .slice elems spare => uptoBulkAll elems + uptoBulkAll spare + 1
  | .agg parts => uptoBulkAll parts + 1
  | .iface _ d => uptoBulk d + 1
  | .map entries => uptoBulkEntries entries + 1
  | .held _ => 1
def uptoBulkAll {H : Type} : List (DataW H) → Nat
  | [] => 0
  | d :: r => uptoBulk d + uptoBulkAll r
def uptoBulkEntries {H : Type} : List (Lit × DataW H) → Nat
  | [] => 0
  | x :: r => uptoBulkEntry x + uptoBulkEntries r
def uptoBulkEntry {H : Type} : Lit × DataW H → Nat
  | (.string bytes, d) => bytes.length + uptoBulk d + 1
  | (_, d) => uptoBulk d + 1
 end
def uptoSmall : (H : Type) → List (DataW H) → Bool := fun _ ds => decide (uptoBulkAll ds ≤ 1048576)
def OpenSpec.upto (s : _root_.Go.ChangeSpec) : _root_.Go.OpenSpec := { _root_.Go.OpenSpec.ofChange s with cond := some uptoSmall }

/-- 'towlinelaw03.ShaSums', WHERE WHAT IT READS IS OF BULK AT MOST 1048576: true; the input reads as it did. -/
def shaSumsUptoRow : OpenClaim := { program := "ytknbbekinpamjaa", sum := "cad8398fa40a92a45548740877d3ca9da19afb302e97d570cd1b1e91346b75a9", func := "towline/towlinelaw03.ShaSums", spec := "shaSums", apart := false, narrowed := true }
def ShaSumsUptoSaid : Prop := shaSumsUptoRow.holds Try.pinned (OpenSpec.upto shaSumsSpec)

/-- 'towlinelaw03.ShaTexts', WHERE WHAT IT READS IS OF BULK AT MOST 1048576: true; the input reads as it did. -/
def shaTextsUptoRow : OpenClaim := { program := "ytknbbekinpamjaa", sum := "cad8398fa40a92a45548740877d3ca9da19afb302e97d570cd1b1e91346b75a9", func := "towline/towlinelaw03.ShaTexts", spec := "shaTexts", apart := false, narrowed := true }
def ShaTextsUptoSaid : Prop := shaTextsUptoRow.holds Try.pinned (OpenSpec.upto shaTextsSpec)

/-- 'towlinelaw03.ShaBack', WHERE WHAT IT READS IS OF BULK AT MOST 1048576: true; the input reads as it did. -/
def shaBackUptoRow : OpenClaim := { program := "ytknbbekinpamjaa", sum := "cad8398fa40a92a45548740877d3ca9da19afb302e97d570cd1b1e91346b75a9", func := "towline/towlinelaw03.ShaBack", spec := "shaBack", apart := false, narrowed := true }
def ShaBackUptoSaid : Prop := shaBackUptoRow.holds Try.pinned (OpenSpec.upto shaBackSpec)

/-- 'towlinelaw03.ShaShort', WHERE WHAT IT READS IS OF BULK AT MOST 1048576: true; the input reads as it did. -/
def shaShortUptoRow : OpenClaim := { program := "ytknbbekinpamjaa", sum := "cad8398fa40a92a45548740877d3ca9da19afb302e97d570cd1b1e91346b75a9", func := "towline/towlinelaw03.ShaShort", spec := "shaShort", apart := false, narrowed := true }
def ShaShortUptoSaid : Prop := shaShortUptoRow.holds Try.pinned (OpenSpec.upto shaShortSpec)

/-- 'towlinetop.WholeChunks', WHERE WHAT IT READS IS OF BULK AT MOST 1048576: true; the input reads as it did. -/
def wholeChunksUptoRow : OpenClaim := { program := "ytknbbekinpamjaa", sum := "cad8398fa40a92a45548740877d3ca9da19afb302e97d570cd1b1e91346b75a9", func := "towline/towlinetop.WholeChunks", spec := "wholeChunks", apart := false, narrowed := true }
def WholeChunksUptoSaid : Prop := wholeChunksUptoRow.holds Try.pinned (OpenSpec.upto wholeChunksSpec)

/-- 'towlinelaw03.ShaKeeps', WHERE WHAT IT READS IS OF BULK AT MOST 1048576: true; the input reads as it did. -/
def shaKeepsUptoRow : OpenClaim := { program := "ytknbbekinpamjaa", sum := "cad8398fa40a92a45548740877d3ca9da19afb302e97d570cd1b1e91346b75a9", func := "towline/towlinelaw03.ShaKeeps", spec := "shaKeeps", apart := false, narrowed := true }
def ShaKeepsUptoSaid : Prop := shaKeepsUptoRow.holds Try.pinned (OpenSpec.upto shaKeepsSpec)

end Rows
end Go.Proofs.Ytknbbekinpamjaa
