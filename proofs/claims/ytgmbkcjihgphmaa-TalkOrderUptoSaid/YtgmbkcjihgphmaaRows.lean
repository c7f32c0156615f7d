/-
  No cell of these rows narrows 'for every input' (looked for: loops, veiled, ifaces, maps, wideKeys, modest, calm, conditions, laid).
  DERIVED. THE GIVEN ROWS OF THIS SEAT. 3 by the template 'for every input the law returns true; each argument reads behind the call as it read before'; 0 by the template 'total and deterministic' (their statements: YtgmbkcjihgphmaaTotals.lean).
  GIVEN WITH THE SEED: the statements are not yours to turn. If you find one false, say at which input.
  Laid BY PROGRAM, IN A SANDBOX (cutbox-rows.mjs): the forced cells as the released guide's own fill.sh prints them over the translation c1008e8be6767295… (all of the seat's roots in one cut). By AI agents, Wed Nov 11 2026. No macro, syntax, notation, axiom, sorry.
-/
import Derived.Test.YtgmbkcjihgphmaaChecked
import GoSem.Claim
import GoSem.ClaimJoined
import GoSem.ClaimMapViews
import Derived.JoinedTies
import Derived.KernelRfl
namespace Go.Proofs.Ytgmbkcjihgphmaa
/- THE CELL 'sum', in the pinned program and in every row, IS THE sha256 OF THE DUMP (.gsa) THAT YtgmbkcjihgphmaaProg.lean LOADS. Nothing in Lean hashes anything: it is a label: what it is worth is what the hold of that sum in a sandbox is worth. -/
noncomputable def Try.pinned : Pinned := { name := "ytgmbkcjihgphmaa", sum := "c1008e8be676729576a2ba9a26486d2111830b3d8d14249a6b8c262b0e2b4dc7", checked := Try.checked }
namespace Rows
def none {H : Type} : Left H := { results := [], args := [] }

/-- 'towlinelaw21.TalkServes': WHATEVER THE INPUT: true; the input reads as it did. -/
def talkServesSpec : ChangeSpec := { name := "talkServes", fn := fun _ => fun
  | [d1, d2, d3] => { results := [.lit (.bool true)], args := [d1, d2, d3] }
  | _ => none }
def talkServesRow : OpenClaim := { program := "ytgmbkcjihgphmaa", sum := "c1008e8be676729576a2ba9a26486d2111830b3d8d14249a6b8c262b0e2b4dc7", func := "towline/towlinelaw21.TalkServes", spec := "talkServes", inPlace := ["math.Float64frombits", "math.Float64bits"], unfollowed := true, recurses := true, plainKeys := false, apart := false }
def TalkServesSaid : Prop := talkServesRow.holds Try.pinned (OpenSpec.ofChange talkServesSpec)

/-- ITS FALSE NEIGHBOUR: 'it returns false'. Refute it at one input. -/
def talkServesWrong : ChangeSpec := { name := "talkServes", fn := fun _ => fun
  | [d1, d2, d3] => { results := [.lit (.bool false)], args := [d1, d2, d3] }
  | _ => none }
def TalkServesWrongFalsely : Prop := talkServesRow.holds Try.pinned (OpenSpec.ofChange talkServesWrong)

/-- 'towlinelaw21.TalkForeign': WHATEVER THE INPUT: true; the input reads as it did. -/
def talkForeignSpec : ChangeSpec := { name := "talkForeign", fn := fun _ => fun
  | [d1, d2, d3] => { results := [.lit (.bool true)], args := [d1, d2, d3] }
  | _ => none }
def talkForeignRow : OpenClaim := { program := "ytgmbkcjihgphmaa", sum := "c1008e8be676729576a2ba9a26486d2111830b3d8d14249a6b8c262b0e2b4dc7", func := "towline/towlinelaw21.TalkForeign", spec := "talkForeign", inPlace := ["math.Float64frombits", "math.Float64bits"], unfollowed := true, recurses := true, plainKeys := false, apart := false }
def TalkForeignSaid : Prop := talkForeignRow.holds Try.pinned (OpenSpec.ofChange talkForeignSpec)

/-- ITS FALSE NEIGHBOUR: 'it returns false'. Refute it at one input. -/
def talkForeignWrong : ChangeSpec := { name := "talkForeign", fn := fun _ => fun
  | [d1, d2, d3] => { results := [.lit (.bool false)], args := [d1, d2, d3] }
  | _ => none }
def TalkForeignWrongFalsely : Prop := talkForeignRow.holds Try.pinned (OpenSpec.ofChange talkForeignWrong)

/-- 'towlinelaw21.TalkOrder': WHATEVER THE INPUT: true; the input reads as it did. -/
def talkOrderSpec : ChangeSpec := { name := "talkOrder", fn := fun _ => fun
  | [d1, d2, d3] => { results := [.lit (.bool true)], args := [d1, d2, d3] }
  | _ => none }
def talkOrderRow : OpenClaim := { program := "ytgmbkcjihgphmaa", sum := "c1008e8be676729576a2ba9a26486d2111830b3d8d14249a6b8c262b0e2b4dc7", func := "towline/towlinelaw21.TalkOrder", spec := "talkOrder", inPlace := ["math.Float64frombits", "math.Float64bits"], unfollowed := true, recurses := true, plainKeys := false, apart := false }
def TalkOrderSaid : Prop := talkOrderRow.holds Try.pinned (OpenSpec.ofChange talkOrderSpec)

/-- ITS FALSE NEIGHBOUR: 'it returns false'. Refute it at one input. -/
def talkOrderWrong : ChangeSpec := { name := "talkOrder", fn := fun _ => fun
  | [d1, d2, d3] => { results := [.lit (.bool false)], args := [d1, d2, d3] }
  | _ => none }
def TalkOrderWrongFalsely : Prop := talkOrderRow.holds Try.pinned (OpenSpec.ofChange talkOrderWrong)

/- THE SECOND FORM. 'bulk': how many values and letters a reading holds, each counted each time it is reached (what is shared counts as often as it is met; a slice's spare places count too). A statement '..UptoSaid' is the law's where the arguments, and the package variables that the reading takes, are together of bulk at most 1048576: NARROWER than '..Said'. Prove '..Said' where nothing that the law and all that it calls make is longer than what came in: it says more and counts as full. Else prove '..UptoSaid'. A law counts once. -/
mutual
def uptoBulk {H : Type} : DataW H → Nat
  | .lit (.string bytes) => bytes.length + 1
  | .lit _ => 1
  | .nil => 1
  | .ptr d => uptoBulk d + 1
  | .slice elems spare => uptoBulkAll elems + uptoBulkAll spare + 1
  | .agg parts => uptoBulkAll parts + 1
  | .iface _ d => uptoBulk d + 1
  | .map entries => uptoBulkEntries entries + 1
  | .held _ => 1
def uptoBulkAll {H : Type} : List (DataW H) → Nat
  | [] => 0
  | d :: r => uptoBulk d + uptoBulkAll r
def uptoBulkEntries {H : Type} : List (Lit × DataW H) → Nat
  | [] => 0
  | x :: r => uptoBulkEntry x + uptoBulkEntries r
def uptoBulkEntry {H : Type} : Lit × DataW H → Nat
  | (.string bytes, d) => bytes.length + uptoBulk d + 1
  | (_, d) => uptoBulk d + 1
 end
def uptoSmall : (H : Type) → List (DataW H) → Bool := fun _ ds => decide (uptoBulkAll ds ≤ 1048576)
def OpenSpec.upto (s : _root_.Go.ChangeSpec) : _root_.Go.OpenSpec := { _root_.Go.OpenSpec.ofChange s with cond := some uptoSmall }

/-- 'towlinelaw21.TalkServes', WHERE WHAT IT READS IS OF BULK AT MOST 1048576: true; the input reads as it did. -/
def talkServesUptoRow : OpenClaim := { program := "ytgmbkcjihgphmaa", sum := "c1008e8be676729576a2ba9a26486d2111830b3d8d14249a6b8c262b0e2b4dc7", func := "towline/towlinelaw21.TalkServes", spec := "talkServes", inPlace := ["math.Float64frombits", "math.Float64bits"], unfollowed := true, recurses := true, plainKeys := false, apart := false, narrowed := true }
def TalkServesUptoSaid : Prop := talkServesUptoRow.holds Try.pinned (OpenSpec.upto talkServesSpec)

/-- 'towlinelaw21.TalkForeign', WHERE WHAT IT READS IS OF BULK AT MOST 1048576: true; the input reads as it did. -/
def talkForeignUptoRow : OpenClaim := { program := "ytgmbkcjihgphmaa", sum := "c1008e8be676729576a2ba9a26486d2111830b3d8d14249a6b8c262b0e2b4dc7", func := "towline/towlinelaw21.TalkForeign", spec := "talkForeign", inPlace := ["math.Float64frombits", "math.Float64bits"], unfollowed := true, recurses := true, plainKeys := false, apart := false, narrowed := true }
def TalkForeignUptoSaid : Prop := talkForeignUptoRow.holds Try.pinned (OpenSpec.upto talkForeignSpec)

/-- 'towlinelaw21.TalkOrder', WHERE WHAT IT READS IS OF BULK AT MOST 1048576: true; the input reads as it did. -/
def talkOrderUptoRow : OpenClaim := { program := "ytgmbkcjihgphmaa", sum := "c1008e8be676729576a2ba9a26486d2111830b3d8d14249a6b8c262b0e2b4dc7", func := "towline/towlinelaw21.TalkOrder", spec := "talkOrder", inPlace := ["math.Float64frombits", "math.Float64bits"], unfollowed := true, recurses := true, plainKeys := false, apart := false, narrowed := true }
def TalkOrderUptoSaid : Prop := talkOrderUptoRow.holds Try.pinned (OpenSpec.upto talkOrderSpec)

end Rows
end Go.Proofs.Ytgmbkcjihgphmaa
