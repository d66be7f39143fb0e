/-
  DERIVED. GIVEN WITH THE SEED: THE CARDS: each row of YtjgbdlaecpkmhaaGreatDoorRows.lean that lists a variable, with what it lists TIED to the program's text (the seventh form; the later family's looks); each row that meets fmt, with fmt's text TOLD by the authors' own Lean function (tested against real Go, not proved from fmt's source: count such statements apart). THE CARD IS WHAT COUNTS. Prove the row's statement (the work); the ties are given (YtjgbdlaecpkmhaaGreatDoorTie.lean); close each card by the builder's one call (the guide's Derived/Test/ToyasCard.lean, 'card_holds'). Laid BY PROGRAM, IN A SANDBOX (cutbox-door.mjs). By AI agents, Wed Nov 11 2026. No macro, syntax, notation, axiom, sorry.
-/
import Derived.Test.YtjgbdlaecpkmhaaGreatDoorRows
import GoSem.ClaimSeven
namespace Go.Proofs.YtjgbdlaecpkmhaaGreatDoor
namespace Rows

/-- THE TIED CARD OF 'narratorlaw34.RulesyntaxProper'. -/
def rulesyntaxProperCard : Claim7 := { stood := { row := rulesyntaxProperRow, standIns := [], harness := (true, "54367f7c909e7323b9232ed726e46c642fbab8828536801da7644d3cc436d4de"), looks := true }, kinds := [], alts := [], laidByText := true, laidKinds := [.data, .data, .data, .data, .sentinel, .sentinel, .pinned], laidTests := true, laidLooks := .later }
def RulesyntaxProperCardSaid : Prop := Claim7.holds Tryz.pinned (.plain (OpenSpec.ofChange rulesyntaxProperSpec)) rulesyntaxProperCard

/-- THE TIED CARD OF 'narratorlaw34.RulesyntaxJoins'. -/
def rulesyntaxJoinsCard : Claim7 := { stood := { row := rulesyntaxJoinsRow, standIns := [], harness := (true, "54367f7c909e7323b9232ed726e46c642fbab8828536801da7644d3cc436d4de"), looks := true }, kinds := [], alts := [], laidByText := true, laidKinds := [.data, .data, .data, .data, .sentinel, .sentinel, .pinned], laidTests := true, laidLooks := .later }
def RulesyntaxJoinsCardSaid : Prop := Claim7.holds Tryz.pinned (.plain (OpenSpec.ofChange rulesyntaxJoinsSpec)) rulesyntaxJoinsCard

/-- THE TIED CARD OF 'narratorlaw34.RulesyntaxPattern'. -/
def rulesyntaxPatternCard : Claim7 := { stood := { row := rulesyntaxPatternRow, standIns := [], harness := (true, "54367f7c909e7323b9232ed726e46c642fbab8828536801da7644d3cc436d4de"), looks := true }, kinds := [], alts := [], laidByText := true, laidKinds := [.data, .data, .data, .data, .sentinel, .sentinel, .pinned], laidTests := true, laidLooks := .later }
def RulesyntaxPatternCardSaid : Prop := Claim7.holds Tryz.pinned (.plain (OpenSpec.ofChange rulesyntaxPatternSpec)) rulesyntaxPatternCard

/-- THE TIED CARD OF 'narratorlaw34.RulesyntaxRoundTrip'. -/
def rulesyntaxRoundTripCard : Claim7 := { stood := { row := rulesyntaxRoundTripRow, standIns := [], harness := (true, "54367f7c909e7323b9232ed726e46c642fbab8828536801da7644d3cc436d4de"), looks := true }, kinds := [], alts := [], laidByText := true, laidKinds := [.data, .data, .data, .data, .sentinel, .sentinel, .pinned], laidTests := true, laidLooks := .later }
def RulesyntaxRoundTripCardSaid : Prop := Claim7.holds Tryz.pinned (.plain (OpenSpec.ofChange rulesyntaxRoundTripSpec)) rulesyntaxRoundTripCard

/-- THE TIED CARD OF 'narratorlaw34.RulesyntaxNames'. -/
def rulesyntaxNamesCard : Claim7 := { stood := { row := rulesyntaxNamesRow, standIns := [], harness := (true, "54367f7c909e7323b9232ed726e46c642fbab8828536801da7644d3cc436d4de"), looks := true }, kinds := [], alts := [], laidByText := true, laidKinds := [.data, .data, .data, .data, .sentinel, .sentinel, .pinned], laidTests := true, laidLooks := .later }
def RulesyntaxNamesCardSaid : Prop := Claim7.holds Tryz.pinned (.plain (OpenSpec.ofChange rulesyntaxNamesSpec)) rulesyntaxNamesCard

/-- THE TIED CARD OF 'narratorlaw34.RulesyntaxLayout'. -/
def rulesyntaxLayoutCard : Claim7 := { stood := { row := rulesyntaxLayoutRow, standIns := [], harness := (true, "54367f7c909e7323b9232ed726e46c642fbab8828536801da7644d3cc436d4de"), looks := true }, kinds := [], alts := [], laidByText := true, laidKinds := [.data, .data, .data, .data, .sentinel, .sentinel, .pinned], laidTests := true, laidLooks := .later }
def RulesyntaxLayoutCardSaid : Prop := Claim7.holds Tryz.pinned (.plain (OpenSpec.ofChange rulesyntaxLayoutSpec)) rulesyntaxLayoutCard

/-- THE SECOND FORM's CARD OF 'narratorlaw34.RulesyntaxProper'. -/
def rulesyntaxProperUptoCard : Claim7 := { stood := { row := rulesyntaxProperUptoRow, standIns := [], harness := (true, "54367f7c909e7323b9232ed726e46c642fbab8828536801da7644d3cc436d4de"), looks := true }, kinds := [], alts := [], laidByText := true, laidKinds := [.data, .data, .data, .data, .sentinel, .sentinel, .pinned], laidTests := true, laidLooks := .later }
def RulesyntaxProperUptoCardSaid : Prop := Claim7.holds Tryz.pinned (.plain (OpenSpec.upto rulesyntaxProperSpec)) rulesyntaxProperUptoCard

/-- THE SECOND FORM's CARD OF 'narratorlaw34.RulesyntaxJoins'. -/
def rulesyntaxJoinsUptoCard : Claim7 := { stood := { row := rulesyntaxJoinsUptoRow, standIns := [], harness := (true, "54367f7c909e7323b9232ed726e46c642fbab8828536801da7644d3cc436d4de"), looks := true }, kinds := [], alts := [], laidByText := true, laidKinds := [.data, .data, .data, .data, .sentinel, .sentinel, .pinned], laidTests := true, laidLooks := .later }
def RulesyntaxJoinsUptoCardSaid : Prop := Claim7.holds Tryz.pinned (.plain (OpenSpec.upto rulesyntaxJoinsSpec)) rulesyntaxJoinsUptoCard

/-- THE SECOND FORM's CARD OF 'narratorlaw34.RulesyntaxPattern'. -/
def rulesyntaxPatternUptoCard : Claim7 := { stood := { row := rulesyntaxPatternUptoRow, standIns := [], harness := (true, "54367f7c909e7323b9232ed726e46c642fbab8828536801da7644d3cc436d4de"), looks := true }, kinds := [], alts := [], laidByText := true, laidKinds := [.data, .data, .data, .data, .sentinel, .sentinel, .pinned], laidTests := true, laidLooks := .later }
def RulesyntaxPatternUptoCardSaid : Prop := Claim7.holds Tryz.pinned (.plain (OpenSpec.upto rulesyntaxPatternSpec)) rulesyntaxPatternUptoCard

/-- THE SECOND FORM's CARD OF 'narratorlaw34.RulesyntaxRoundTrip'. -/
def rulesyntaxRoundTripUptoCard : Claim7 := { stood := { row := rulesyntaxRoundTripUptoRow, standIns := [], harness := (true, "54367f7c909e7323b9232ed726e46c642fbab8828536801da7644d3cc436d4de"), looks := true }, kinds := [], alts := [], laidByText := true, laidKinds := [.data, .data, .data, .data, .sentinel, .sentinel, .pinned], laidTests := true, laidLooks := .later }
def RulesyntaxRoundTripUptoCardSaid : Prop := Claim7.holds Tryz.pinned (.plain (OpenSpec.upto rulesyntaxRoundTripSpec)) rulesyntaxRoundTripUptoCard

/-- THE SECOND FORM's CARD OF 'narratorlaw34.RulesyntaxNames'. -/
def rulesyntaxNamesUptoCard : Claim7 := { stood := { row := rulesyntaxNamesUptoRow, standIns := [], harness := (true, "54367f7c909e7323b9232ed726e46c642fbab8828536801da7644d3cc436d4de"), looks := true }, kinds := [], alts := [], laidByText := true, laidKinds := [.data, .data, .data, .data, .sentinel, .sentinel, .pinned], laidTests := true, laidLooks := .later }
def RulesyntaxNamesUptoCardSaid : Prop := Claim7.holds Tryz.pinned (.plain (OpenSpec.upto rulesyntaxNamesSpec)) rulesyntaxNamesUptoCard

/-- THE SECOND FORM's CARD OF 'narratorlaw34.RulesyntaxLayout'. -/
def rulesyntaxLayoutUptoCard : Claim7 := { stood := { row := rulesyntaxLayoutUptoRow, standIns := [], harness := (true, "54367f7c909e7323b9232ed726e46c642fbab8828536801da7644d3cc436d4de"), looks := true }, kinds := [], alts := [], laidByText := true, laidKinds := [.data, .data, .data, .data, .sentinel, .sentinel, .pinned], laidTests := true, laidLooks := .later }
def RulesyntaxLayoutUptoCardSaid : Prop := Claim7.holds Tryz.pinned (.plain (OpenSpec.upto rulesyntaxLayoutSpec)) rulesyntaxLayoutUptoCard
end Rows
end Go.Proofs.YtjgbdlaecpkmhaaGreatDoor
