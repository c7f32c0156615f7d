/-
  NARROWER THAN 'FOR EVERY INPUT', by the rows' own cells (each row's printed sentence says how): GrainWrites: loops · GrainBack: loops · GrainCuts: loops.
  DERIVED. THE GIVEN ROWS OF THIS SEAT. 6 by the template 'for every input the law returns true; each argument reads behind the call as it read before'; 0 by the template 'total and deterministic' (their statements: YthpcanibahcghaaTotals.lean).
  GIVEN WITH THE SEED: the statements are not yours to turn. If you find one false, say at which input.
  Laid BY PROGRAM, IN A SANDBOX (cutbox-rows.mjs): the forced cells as the released guide's own fill.sh prints them over the translation d1a7a6712499cb33… (all of the seat's roots in one cut). By AI agents, Wed Nov 11 2026. No macro, syntax, notation, axiom, sorry.
-/
import Derived.Test.YthpcanibahcghaaChecked
import GoSem.Claim
import GoSem.ClaimJoined
import GoSem.ClaimMapViews
import Derived.JoinedTies
import Derived.KernelRfl
namespace Go.Proofs.Ythpcanibahcghaa
/- THE CELL 'sum', in the pinned program and in every row, IS THE sha256 OF THE DUMP (.gsa) THAT YthpcanibahcghaaProg.lean LOADS. Nothing in Lean hashes anything: it is a label: what it is worth is what the hold of that sum in a sandbox is worth. -/
noncomputable def Try.pinned : Pinned := { name := "ythpcanibahcghaa", sum := "d1a7a6712499cb33cc1b1933d88f64da08f1a8937f4d443f31dd976a197ec82e", checked := Try.checked }
namespace Rows
def none {H : Type} : Left H := { results := [], args := [] }

/-- 'towlinelaw02.GrainWrites': WHATEVER THE INPUT: true; the input reads as it did. -/
def grainWritesSpec : ChangeSpec := { name := "grainWrites", fn := fun _ => fun
  | [d] => { results := [.lit (.bool true)], args := [d] }
  | _ => none }
def grainWritesRow : OpenClaim := { program := "ythpcanibahcghaa", sum := "d1a7a6712499cb33cc1b1933d88f64da08f1a8937f4d443f31dd976a197ec82e", func := "towline/towlinelaw02.GrainWrites", spec := "grainWrites", inPlace := ["math.Float64frombits", "math.Float64bits"], unfollowed := true, recurses := true, loops := true, apart := false }
def GrainWritesSaid : Prop := grainWritesRow.holds Try.pinned (OpenSpec.ofChange grainWritesSpec)

/-- ITS FALSE NEIGHBOUR: 'it returns false'. Refute it at one input. -/
def grainWritesWrong : ChangeSpec := { name := "grainWrites", fn := fun _ => fun
  | [d] => { results := [.lit (.bool false)], args := [d] }
  | _ => none }
def GrainWritesWrongFalsely : Prop := grainWritesRow.holds Try.pinned (OpenSpec.ofChange grainWritesWrong)

/-- 'towlinelaw02.GrainReads': WHATEVER THE INPUT: true; the input reads as it did. -/
def grainReadsSpec : ChangeSpec := { name := "grainReads", fn := fun _ => fun
  | [d] => { results := [.lit (.bool true)], args := [d] }
  | _ => none }
def grainReadsRow : OpenClaim := { program := "ythpcanibahcghaa", sum := "d1a7a6712499cb33cc1b1933d88f64da08f1a8937f4d443f31dd976a197ec82e", func := "towline/towlinelaw02.GrainReads", spec := "grainReads", inPlace := ["math.Float64frombits", "math.Float64bits"], unfollowed := true, recurses := true, apart := false }
def GrainReadsSaid : Prop := grainReadsRow.holds Try.pinned (OpenSpec.ofChange grainReadsSpec)

/-- ITS FALSE NEIGHBOUR: 'it returns false'. Refute it at one input. -/
def grainReadsWrong : ChangeSpec := { name := "grainReads", fn := fun _ => fun
  | [d] => { results := [.lit (.bool false)], args := [d] }
  | _ => none }
def GrainReadsWrongFalsely : Prop := grainReadsRow.holds Try.pinned (OpenSpec.ofChange grainReadsWrong)

/-- 'towlinelaw02.GrainBack': WHATEVER THE INPUT: true; the input reads as it did. -/
def grainBackSpec : ChangeSpec := { name := "grainBack", fn := fun _ => fun
  | [d1, d2] => { results := [.lit (.bool true)], args := [d1, d2] }
  | _ => none }
def grainBackRow : OpenClaim := { program := "ythpcanibahcghaa", sum := "d1a7a6712499cb33cc1b1933d88f64da08f1a8937f4d443f31dd976a197ec82e", func := "towline/towlinelaw02.GrainBack", spec := "grainBack", inPlace := ["math.Float64frombits", "math.Float64bits"], unfollowed := true, recurses := true, loops := true, apart := false }
def GrainBackSaid : Prop := grainBackRow.holds Try.pinned (OpenSpec.ofChange grainBackSpec)

/-- ITS FALSE NEIGHBOUR: 'it returns false'. Refute it at one input. -/
def grainBackWrong : ChangeSpec := { name := "grainBack", fn := fun _ => fun
  | [d1, d2] => { results := [.lit (.bool false)], args := [d1, d2] }
  | _ => none }
def GrainBackWrongFalsely : Prop := grainBackRow.holds Try.pinned (OpenSpec.ofChange grainBackWrong)

/-- 'towlinelaw02.GrainCuts': WHATEVER THE INPUT: true; the input reads as it did. -/
def grainCutsSpec : ChangeSpec := { name := "grainCuts", fn := fun _ => fun
  | [d1, d2, d3] => { results := [.lit (.bool true)], args := [d1, d2, d3] }
  | _ => none }
def grainCutsRow : OpenClaim := { program := "ythpcanibahcghaa", sum := "d1a7a6712499cb33cc1b1933d88f64da08f1a8937f4d443f31dd976a197ec82e", func := "towline/towlinelaw02.GrainCuts", spec := "grainCuts", inPlace := ["math.Float64frombits", "math.Float64bits"], unfollowed := true, recurses := true, loops := true, apart := false }
def GrainCutsSaid : Prop := grainCutsRow.holds Try.pinned (OpenSpec.ofChange grainCutsSpec)

/-- ITS FALSE NEIGHBOUR: 'it returns false'. Refute it at one input. -/
def grainCutsWrong : ChangeSpec := { name := "grainCuts", fn := fun _ => fun
  | [d1, d2, d3] => { results := [.lit (.bool false)], args := [d1, d2, d3] }
  | _ => none }
def GrainCutsWrongFalsely : Prop := grainCutsRow.holds Try.pinned (OpenSpec.ofChange grainCutsWrong)

/-- 'towlinelaw02.GrainMakes': WHATEVER THE INPUT: true; the input reads as it did. -/
def grainMakesSpec : ChangeSpec := { name := "grainMakes", fn := fun _ => fun
  | [d1, d2, d3] => { results := [.lit (.bool true)], args := [d1, d2, d3] }
  | _ => none }
def grainMakesRow : OpenClaim := { program := "ythpcanibahcghaa", sum := "d1a7a6712499cb33cc1b1933d88f64da08f1a8937f4d443f31dd976a197ec82e", func := "towline/towlinelaw02.GrainMakes", spec := "grainMakes", inPlace := ["math.Float64frombits", "math.Float64bits"], unfollowed := true, recurses := true, apart := false }
def GrainMakesSaid : Prop := grainMakesRow.holds Try.pinned (OpenSpec.ofChange grainMakesSpec)

/-- ITS FALSE NEIGHBOUR: 'it returns false'. Refute it at one input. -/
def grainMakesWrong : ChangeSpec := { name := "grainMakes", fn := fun _ => fun
  | [d1, d2, d3] => { results := [.lit (.bool false)], args := [d1, d2, d3] }
  | _ => none }
def GrainMakesWrongFalsely : Prop := grainMakesRow.holds Try.pinned (OpenSpec.ofChange grainMakesWrong)

/-- 'towlinelaw02.GrainKeeps': WHATEVER THE INPUT: true; the input reads as it did. -/
def grainKeepsSpec : ChangeSpec := { name := "grainKeeps", fn := fun _ => fun
  | [d1, d2] => { results := [.lit (.bool true)], args := [d1, d2] }
  | _ => none }
def grainKeepsRow : OpenClaim := { program := "ythpcanibahcghaa", sum := "d1a7a6712499cb33cc1b1933d88f64da08f1a8937f4d443f31dd976a197ec82e", func := "towline/towlinelaw02.GrainKeeps", spec := "grainKeeps", inPlace := ["math.Float64frombits", "math.Float64bits"], unfollowed := true, recurses := true, apart := false }
def GrainKeepsSaid : Prop := grainKeepsRow.holds Try.pinned (OpenSpec.ofChange grainKeepsSpec)

/-- ITS FALSE NEIGHBOUR: 'it returns false'. Refute it at one input. -/
def grainKeepsWrong : ChangeSpec := { name := "grainKeeps", fn := fun _ => fun
  | [d1, d2] => { results := [.lit (.bool false)], args := [d1, d2] }
  | _ => none }
def GrainKeepsWrongFalsely : Prop := grainKeepsRow.holds Try.pinned (OpenSpec.ofChange grainKeepsWrong)

/- THE SECOND FORM. 'bulk': how many values and letters a reading holds, each counted each time it is reached (what is shared counts as often as it is met; a slice's spare places count too). A statement '..UptoSaid' is the law's where the arguments, and the package variables that the reading takes, are together of bulk at most 1048576: NARROWER than '..Said'. Prove '..Said' where nothing that the law and all that it calls make is longer than what came in: it says more and counts as full. Else prove '..UptoSaid'. A law counts once. -/
mutual
def uptoBulk {H : Type} : DataW H → Nat
  | .lit (.string bytes) => bytes.length + 1
  | .lit _ => 1
  | .nil => 1
  | .ptr d => uptoBulk d + 1
  | .slice elems spare => uptoBulkAll elems + uptoBulkAll spare + 1
  | .agg parts => uptoBulkAll parts + 1
  | .iface _ d => uptoBulk d + 1
  | .map entries => uptoBulkEntries entries + 1
  | .held _ => 1
def uptoBulkAll {H : Type} : List (DataW H) → Nat
  | [] => 0
  | d :: r => uptoBulk d + uptoBulkAll r
def uptoBulkEntries {H : Type} : List (Lit × DataW H) → Nat
  | [] => 0
  | x :: r => uptoBulkEntry x + uptoBulkEntries r
def uptoBulkEntry {H : Type} : Lit × DataW H → Nat
  | (.string bytes, d) => bytes.length + uptoBulk d + 1
  | (_, d) => uptoBulk d + 1
 end
def uptoSmall : (H : Type) → List (DataW H) → Bool := fun _ ds => decide (uptoBulkAll ds ≤ 1048576)
def OpenSpec.upto (s : _root_.Go.ChangeSpec) : _root_.Go.OpenSpec := { _root_.Go.OpenSpec.ofChange s with cond := some uptoSmall }

/-- 'towlinelaw02.GrainWrites', WHERE WHAT IT READS IS OF BULK AT MOST 1048576: true; the input reads as it did. -/
def grainWritesUptoRow : OpenClaim := { program := "ythpcanibahcghaa", sum := "d1a7a6712499cb33cc1b1933d88f64da08f1a8937f4d443f31dd976a197ec82e", func := "towline/towlinelaw02.GrainWrites", spec := "grainWrites", inPlace := ["math.Float64frombits", "math.Float64bits"], unfollowed := true, recurses := true, loops := true, apart := false, narrowed := true }
def GrainWritesUptoSaid : Prop := grainWritesUptoRow.holds Try.pinned (OpenSpec.upto grainWritesSpec)

/-- 'towlinelaw02.GrainReads', WHERE WHAT IT READS IS OF BULK AT MOST 1048576: true; the input reads as it did. -/
def grainReadsUptoRow : OpenClaim := { program := "ythpcanibahcghaa", sum := "d1a7a6712499cb33cc1b1933d88f64da08f1a8937f4d443f31dd976a197ec82e", func := "towline/towlinelaw02.GrainReads", spec := "grainReads", inPlace := ["math.Float64frombits", "math.Float64bits"], unfollowed := true, recurses := true, apart := false, narrowed := true }
def GrainReadsUptoSaid : Prop := grainReadsUptoRow.holds Try.pinned (OpenSpec.upto grainReadsSpec)

/-- 'towlinelaw02.GrainBack', WHERE WHAT IT READS IS OF BULK AT MOST 1048576: true; the input reads as it did. -/
def grainBackUptoRow : OpenClaim := { program := "ythpcanibahcghaa", sum := "d1a7a6712499cb33cc1b1933d88f64da08f1a8937f4d443f31dd976a197ec82e", func := "towline/towlinelaw02.GrainBack", spec := "grainBack", inPlace := ["math.Float64frombits", "math.Float64bits"], unfollowed := true, recurses := true, loops := true, apart := false, narrowed := true }
def GrainBackUptoSaid : Prop := grainBackUptoRow.holds Try.pinned (OpenSpec.upto grainBackSpec)

/-- 'towlinelaw02.GrainCuts', WHERE WHAT IT READS IS OF BULK AT MOST 1048576: true; the input reads as it did. -/
def grainCutsUptoRow : OpenClaim := { program := "ythpcanibahcghaa", sum := "d1a7a6712499cb33cc1b1933d88f64da08f1a8937f4d443f31dd976a197ec82e", func := "towline/towlinelaw02.GrainCuts", spec := "grainCuts", inPlace := ["math.Float64frombits", "math.Float64bits"], unfollowed := true, recurses := true, loops := true, apart := false, narrowed := true }
def GrainCutsUptoSaid : Prop := grainCutsUptoRow.holds Try.pinned (OpenSpec.upto grainCutsSpec)

/-- 'towlinelaw02.GrainMakes', WHERE WHAT IT READS IS OF BULK AT MOST 1048576: true; the input reads as it did. -/
def grainMakesUptoRow : OpenClaim := { program := "ythpcanibahcghaa", sum := "d1a7a6712499cb33cc1b1933d88f64da08f1a8937f4d443f31dd976a197ec82e", func := "towline/towlinelaw02.GrainMakes", spec := "grainMakes", inPlace := ["math.Float64frombits", "math.Float64bits"], unfollowed := true, recurses := true, apart := false, narrowed := true }
def GrainMakesUptoSaid : Prop := grainMakesUptoRow.holds Try.pinned (OpenSpec.upto grainMakesSpec)

/-- 'towlinelaw02.GrainKeeps', WHERE WHAT IT READS IS OF BULK AT MOST 1048576: true; the input reads as it did. -/
def grainKeepsUptoRow : OpenClaim := { program := "ythpcanibahcghaa", sum := "d1a7a6712499cb33cc1b1933d88f64da08f1a8937f4d443f31dd976a197ec82e", func := "towline/towlinelaw02.GrainKeeps", spec := "grainKeeps", inPlace := ["math.Float64frombits", "math.Float64bits"], unfollowed := true, recurses := true, apart := false, narrowed := true }
def GrainKeepsUptoSaid : Prop := grainKeepsUptoRow.holds Try.pinned (OpenSpec.upto grainKeepsSpec)

end Rows
end Go.Proofs.Ythpcanibahcghaa
