/-
  DERIVED. GIVEN WITH THE SEED: THE CARDS: each row of YtehminpiejophaaDoorRows.lean that lists a variable, with what it lists TIED to the program's text (the seventh form; the later family's looks); each row that meets fmt, with fmt's text TOLD by the authors' own Lean function (tested against real Go, not proved from fmt's source: count such statements apart). THE CARD IS WHAT COUNTS. Prove the row's statement (the work); the ties are given (YtehminpiejophaaDoorTie.lean); close each card by the builder's one call (the guide's Derived/Test/ToyasCard.lean, 'card_holds'). Laid BY PROGRAM, IN A SANDBOX (cutbox-door.mjs). By AI agents, Wed Nov 11 2026. No macro, syntax, notation, axiom, sorry.
-/
import Derived.Test.YtehminpiejophaaDoorRows
import GoSem.ClaimSeven
namespace Go.Proofs.YtehminpiejophaaDoor
namespace Rows

/-- THE TIED CARD OF 'towlinelaw01.StampOrder'. -/
def stampOrderCard : Claim7 := { stood := { row := stampOrderRow, standIns := [], harness := (true, "9043973a33549cc5303e3bc0254748d13a4c276ba56f9b8fa1436b5c6b2a8e4f"), looks := true }, kinds := [], alts := [], laidByText := true, laidKinds := [.data, .data, .data, .sentinel, .sentinel], laidTests := true, laidLooks := .later }
def StampOrderCardSaid : Prop := Claim7.holds Tryd.pinned (.plain (OpenSpec.ofChange stampOrderSpec)) stampOrderCard

/-- THE TIED CARD OF 'towlinelaw01.StampReads'. -/
def stampReadsCard : Claim7 := { stood := { row := stampReadsRow, standIns := [], harness := (true, "9043973a33549cc5303e3bc0254748d13a4c276ba56f9b8fa1436b5c6b2a8e4f"), looks := true }, kinds := [], alts := [], laidByText := true, laidKinds := [.data, .data, .data, .sentinel, .sentinel], laidTests := true, laidLooks := .later }
def StampReadsCardSaid : Prop := Claim7.holds Tryd.pinned (.plain (OpenSpec.ofChange stampReadsSpec)) stampReadsCard

/-- THE TIED CARD OF 'towlinelaw01.StampBack'. -/
def stampBackCard : Claim7 := { stood := { row := stampBackRow, standIns := [], harness := (true, "9043973a33549cc5303e3bc0254748d13a4c276ba56f9b8fa1436b5c6b2a8e4f"), looks := true }, kinds := [], alts := [], laidByText := true, laidKinds := [.data, .data, .data, .sentinel, .sentinel], laidTests := true, laidLooks := .later }
def StampBackCardSaid : Prop := Claim7.holds Tryd.pinned (.plain (OpenSpec.ofChange stampBackSpec)) stampBackCard

/-- THE TIED CARD OF 'towlinelaw01.StampTotal'. -/
def stampTotalCard : Claim7 := { stood := { row := stampTotalRow, standIns := [], harness := (true, "9043973a33549cc5303e3bc0254748d13a4c276ba56f9b8fa1436b5c6b2a8e4f"), looks := true }, kinds := [], alts := [], laidByText := true, laidKinds := [.data, .data, .data, .sentinel, .sentinel], laidTests := true, laidLooks := .later }
def StampTotalCardSaid : Prop := Claim7.holds Tryd.pinned (.plain (OpenSpec.ofChange stampTotalSpec)) stampTotalCard

/-- THE TIED CARD OF 'towlinelaw01.StampRatio'. -/
def stampRatioCard : Claim7 := { stood := { row := stampRatioRow, standIns := [], harness := (true, "9043973a33549cc5303e3bc0254748d13a4c276ba56f9b8fa1436b5c6b2a8e4f"), looks := true }, kinds := [], alts := [], laidByText := true, laidKinds := [.data, .data, .data, .sentinel, .sentinel], laidTests := true, laidLooks := .later }
def StampRatioCardSaid : Prop := Claim7.holds Tryd.pinned (.plain (OpenSpec.ofChange stampRatioSpec)) stampRatioCard

/-- THE TIED CARD OF 'towlinelaw01.StampLatest'. -/
def stampLatestCard : Claim7 := { stood := { row := stampLatestRow, standIns := [], harness := (true, "9043973a33549cc5303e3bc0254748d13a4c276ba56f9b8fa1436b5c6b2a8e4f"), looks := true }, kinds := [], alts := [], laidByText := true, laidKinds := [.data, .data, .data, .sentinel, .sentinel], laidTests := true, laidLooks := .later }
def StampLatestCardSaid : Prop := Claim7.holds Tryd.pinned (.plain (OpenSpec.ofChange stampLatestSpec)) stampLatestCard

/-- THE SECOND FORM's CARD OF 'towlinelaw01.StampOrder'. -/
def stampOrderUptoCard : Claim7 := { stood := { row := stampOrderUptoRow, standIns := [], harness := (true, "9043973a33549cc5303e3bc0254748d13a4c276ba56f9b8fa1436b5c6b2a8e4f"), looks := true }, kinds := [], alts := [], laidByText := true, laidKinds := [.data, .data, .data, .sentinel, .sentinel], laidTests := true, laidLooks := .later }
def StampOrderUptoCardSaid : Prop := Claim7.holds Tryd.pinned (.plain (OpenSpec.upto stampOrderSpec)) stampOrderUptoCard

/-- THE SECOND FORM's CARD OF 'towlinelaw01.StampReads'. -/
def stampReadsUptoCard : Claim7 := { stood := { row := stampReadsUptoRow, standIns := [], harness := (true, "9043973a33549cc5303e3bc0254748d13a4c276ba56f9b8fa1436b5c6b2a8e4f"), looks := true }, kinds := [], alts := [], laidByText := true, laidKinds := [.data, .data, .data, .sentinel, .sentinel], laidTests := true, laidLooks := .later }
def StampReadsUptoCardSaid : Prop := Claim7.holds Tryd.pinned (.plain (OpenSpec.upto stampReadsSpec)) stampReadsUptoCard

/-- THE SECOND FORM's CARD OF 'towlinelaw01.StampBack'. -/
def stampBackUptoCard : Claim7 := { stood := { row := stampBackUptoRow, standIns := [], harness := (true, "9043973a33549cc5303e3bc0254748d13a4c276ba56f9b8fa1436b5c6b2a8e4f"), looks := true }, kinds := [], alts := [], laidByText := true, laidKinds := [.data, .data, .data, .sentinel, .sentinel], laidTests := true, laidLooks := .later }
def StampBackUptoCardSaid : Prop := Claim7.holds Tryd.pinned (.plain (OpenSpec.upto stampBackSpec)) stampBackUptoCard

/-- THE SECOND FORM's CARD OF 'towlinelaw01.StampTotal'. -/
def stampTotalUptoCard : Claim7 := { stood := { row := stampTotalUptoRow, standIns := [], harness := (true, "9043973a33549cc5303e3bc0254748d13a4c276ba56f9b8fa1436b5c6b2a8e4f"), looks := true }, kinds := [], alts := [], laidByText := true, laidKinds := [.data, .data, .data, .sentinel, .sentinel], laidTests := true, laidLooks := .later }
def StampTotalUptoCardSaid : Prop := Claim7.holds Tryd.pinned (.plain (OpenSpec.upto stampTotalSpec)) stampTotalUptoCard

/-- THE SECOND FORM's CARD OF 'towlinelaw01.StampRatio'. -/
def stampRatioUptoCard : Claim7 := { stood := { row := stampRatioUptoRow, standIns := [], harness := (true, "9043973a33549cc5303e3bc0254748d13a4c276ba56f9b8fa1436b5c6b2a8e4f"), looks := true }, kinds := [], alts := [], laidByText := true, laidKinds := [.data, .data, .data, .sentinel, .sentinel], laidTests := true, laidLooks := .later }
def StampRatioUptoCardSaid : Prop := Claim7.holds Tryd.pinned (.plain (OpenSpec.upto stampRatioSpec)) stampRatioUptoCard

/-- THE SECOND FORM's CARD OF 'towlinelaw01.StampLatest'. -/
def stampLatestUptoCard : Claim7 := { stood := { row := stampLatestUptoRow, standIns := [], harness := (true, "9043973a33549cc5303e3bc0254748d13a4c276ba56f9b8fa1436b5c6b2a8e4f"), looks := true }, kinds := [], alts := [], laidByText := true, laidKinds := [.data, .data, .data, .sentinel, .sentinel], laidTests := true, laidLooks := .later }
def StampLatestUptoCardSaid : Prop := Claim7.holds Tryd.pinned (.plain (OpenSpec.upto stampLatestSpec)) stampLatestUptoCard
end Rows
end Go.Proofs.YtehminpiejophaaDoor
