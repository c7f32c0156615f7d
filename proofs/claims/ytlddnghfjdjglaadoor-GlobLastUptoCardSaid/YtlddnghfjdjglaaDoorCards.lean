/-
  DERIVED. GIVEN WITH THE SEED: THE CARDS: each row of YtlddnghfjdjglaaDoorRows.lean that lists a variable, with what it lists TIED to the program's text (the seventh form; the later family's looks); each row that meets fmt, with fmt's text TOLD by the authors' own Lean function (tested against real Go, not proved from fmt's source: count such statements apart). THE CARD IS WHAT COUNTS. Prove the row's statement (the work); the ties are given (YtlddnghfjdjglaaDoorTie.lean); close each card by the builder's one call (the guide's Derived/Test/ToyasCard.lean, 'card_holds'). Laid BY PROGRAM, IN A SANDBOX (cutbox-door.mjs). By AI agents, Wed Nov 11 2026. No macro, syntax, notation, axiom, sorry.
-/
import Derived.Test.YtlddnghfjdjglaaDoorRows
import GoSem.ClaimSeven
namespace Go.Proofs.YtlddnghfjdjglaaDoor
namespace Rows

/-- THE TIED CARD OF 'towlinelaw06.GlobMatches'. -/
def globMatchesCard : Claim7 := { stood := { row := globMatchesRow, standIns := [], harness := (true, "2c6062dcfbd78da36f54a730e3fd2fdb9a04f66bedb18647e07ce87a87067499"), looks := true }, kinds := [], alts := [], laidByText := true, laidKinds := [.data, .pinned], laidTests := true, laidLooks := .later }
def GlobMatchesCardSaid : Prop := Claim7.holds Tryd.pinned (.plain (OpenSpec.ofChange globMatchesSpec)) globMatchesCard

/-- THE TIED CARD OF 'towlinelaw06.GlobRules'. -/
def globRulesCard : Claim7 := { stood := { row := globRulesRow, standIns := [], harness := (true, "2c6062dcfbd78da36f54a730e3fd2fdb9a04f66bedb18647e07ce87a87067499"), looks := true }, kinds := [], alts := [], laidByText := true, laidKinds := [.data, .pinned], laidTests := true, laidLooks := .later }
def GlobRulesCardSaid : Prop := Claim7.holds Tryd.pinned (.plain (OpenSpec.ofChange globRulesSpec)) globRulesCard

/-- THE TIED CARD OF 'towlinelaw06.GlobStars'. -/
def globStarsCard : Claim7 := { stood := { row := globStarsRow, standIns := [], harness := (true, "2c6062dcfbd78da36f54a730e3fd2fdb9a04f66bedb18647e07ce87a87067499"), looks := true }, kinds := [], alts := [], laidByText := true, laidKinds := [.data, .pinned], laidTests := true, laidLooks := .later }
def GlobStarsCardSaid : Prop := Claim7.holds Tryd.pinned (.plain (OpenSpec.ofChange globStarsSpec)) globStarsCard

/-- THE TIED CARD OF 'towlinelaw06.GlobAny'. -/
def globAnyCard : Claim7 := { stood := { row := globAnyRow, standIns := [], harness := (true, "2c6062dcfbd78da36f54a730e3fd2fdb9a04f66bedb18647e07ce87a87067499"), looks := true }, kinds := [], alts := [], laidByText := true, laidKinds := [.data, .pinned], laidTests := true, laidLooks := .later }
def GlobAnyCardSaid : Prop := Claim7.holds Tryd.pinned (.plain (OpenSpec.ofChange globAnySpec)) globAnyCard

/-- THE TIED CARD OF 'towlinelaw06.GlobPlain'. -/
def globPlainCard : Claim7 := { stood := { row := globPlainRow, standIns := [], harness := (true, "2c6062dcfbd78da36f54a730e3fd2fdb9a04f66bedb18647e07ce87a87067499"), looks := true }, kinds := [], alts := [], laidByText := true, laidKinds := [.data, .pinned], laidTests := true, laidLooks := .later }
def GlobPlainCardSaid : Prop := Claim7.holds Tryd.pinned (.plain (OpenSpec.ofChange globPlainSpec)) globPlainCard

/-- THE TIED CARD OF 'towlinelaw06.GlobLast'. -/
def globLastCard : Claim7 := { stood := { row := globLastRow, standIns := [], harness := (true, "2c6062dcfbd78da36f54a730e3fd2fdb9a04f66bedb18647e07ce87a87067499"), looks := true }, kinds := [], alts := [], laidByText := true, laidKinds := [.data, .pinned], laidTests := true, laidLooks := .later }
def GlobLastCardSaid : Prop := Claim7.holds Tryd.pinned (.plain (OpenSpec.ofChange globLastSpec)) globLastCard

/-- THE SECOND FORM's CARD OF 'towlinelaw06.GlobMatches'. -/
def globMatchesUptoCard : Claim7 := { stood := { row := globMatchesUptoRow, standIns := [], harness := (true, "2c6062dcfbd78da36f54a730e3fd2fdb9a04f66bedb18647e07ce87a87067499"), looks := true }, kinds := [], alts := [], laidByText := true, laidKinds := [.data, .pinned], laidTests := true, laidLooks := .later }
def GlobMatchesUptoCardSaid : Prop := Claim7.holds Tryd.pinned (.plain (OpenSpec.upto globMatchesSpec)) globMatchesUptoCard

/-- THE SECOND FORM's CARD OF 'towlinelaw06.GlobRules'. -/
def globRulesUptoCard : Claim7 := { stood := { row := globRulesUptoRow, standIns := [], harness := (true, "2c6062dcfbd78da36f54a730e3fd2fdb9a04f66bedb18647e07ce87a87067499"), looks := true }, kinds := [], alts := [], laidByText := true, laidKinds := [.data, .pinned], laidTests := true, laidLooks := .later }
def GlobRulesUptoCardSaid : Prop := Claim7.holds Tryd.pinned (.plain (OpenSpec.upto globRulesSpec)) globRulesUptoCard

/-- THE SECOND FORM's CARD OF 'towlinelaw06.GlobStars'. -/
def globStarsUptoCard : Claim7 := { stood := { row := globStarsUptoRow, standIns := [], harness := (true, "2c6062dcfbd78da36f54a730e3fd2fdb9a04f66bedb18647e07ce87a87067499"), looks := true }, kinds := [], alts := [], laidByText := true, laidKinds := [.data, .pinned], laidTests := true, laidLooks := .later }
def GlobStarsUptoCardSaid : Prop := Claim7.holds Tryd.pinned (.plain (OpenSpec.upto globStarsSpec)) globStarsUptoCard

/-- THE SECOND FORM's CARD OF 'towlinelaw06.GlobAny'. -/
def globAnyUptoCard : Claim7 := { stood := { row := globAnyUptoRow, standIns := [], harness := (true, "2c6062dcfbd78da36f54a730e3fd2fdb9a04f66bedb18647e07ce87a87067499"), looks := true }, kinds := [], alts := [], laidByText := true, laidKinds := [.data, .pinned], laidTests := true, laidLooks := .later }
def GlobAnyUptoCardSaid : Prop := Claim7.holds Tryd.pinned (.plain (OpenSpec.upto globAnySpec)) globAnyUptoCard

/-- THE SECOND FORM's CARD OF 'towlinelaw06.GlobPlain'. -/
def globPlainUptoCard : Claim7 := { stood := { row := globPlainUptoRow, standIns := [], harness := (true, "2c6062dcfbd78da36f54a730e3fd2fdb9a04f66bedb18647e07ce87a87067499"), looks := true }, kinds := [], alts := [], laidByText := true, laidKinds := [.data, .pinned], laidTests := true, laidLooks := .later }
def GlobPlainUptoCardSaid : Prop := Claim7.holds Tryd.pinned (.plain (OpenSpec.upto globPlainSpec)) globPlainUptoCard

/-- THE SECOND FORM's CARD OF 'towlinelaw06.GlobLast'. -/
def globLastUptoCard : Claim7 := { stood := { row := globLastUptoRow, standIns := [], harness := (true, "2c6062dcfbd78da36f54a730e3fd2fdb9a04f66bedb18647e07ce87a87067499"), looks := true }, kinds := [], alts := [], laidByText := true, laidKinds := [.data, .pinned], laidTests := true, laidLooks := .later }
def GlobLastUptoCardSaid : Prop := Claim7.holds Tryd.pinned (.plain (OpenSpec.upto globLastSpec)) globLastUptoCard
end Rows
end Go.Proofs.YtlddnghfjdjglaaDoor
