/-
  DERIVED. GIVEN WITH THE SEED: THE CARDS: each row of YtebejiilpedlmaaGreatDoorRows.lean that lists a variable, with what it lists TIED to the program's text (the seventh form; the later family's looks); each row that meets fmt, with fmt's text TOLD by the authors' own Lean function (tested against real Go, not proved from fmt's source: count such statements apart). THE CARD IS WHAT COUNTS. Prove the row's statement (the work); the ties are given (YtebejiilpedlmaaGreatDoorTie.lean); close each card by the builder's one call (the guide's Derived/Test/ToyasCard.lean, 'card_holds'). Laid BY PROGRAM, IN A SANDBOX (cutbox-door.mjs). By AI agents, Wed Nov 11 2026. No macro, syntax, notation, axiom, sorry.
-/
import Derived.Test.YtebejiilpedlmaaGreatDoorRows
import GoSem.ClaimSeven
namespace Go.Proofs.YtebejiilpedlmaaGreatDoor
namespace Rows

/-- THE TIED CARD OF 'narratorlaw31.PatternRoundTrip'. -/
def patternRoundTripCard : Claim7 := { stood := { row := patternRoundTripRow, standIns := [], harness := (true, "d69808b254779cf5bcc3e27d0b219155c4ab8ebfaf462bdc330a14b8f310a33c"), looks := true }, kinds := [], alts := [], laidByText := true, laidKinds := [.data, .data, .data, .data, .pinned], laidTests := true, laidLooks := .later }
def PatternRoundTripCardSaid : Prop := Claim7.holds Tryz.pinned (.plain (OpenSpec.ofChange patternRoundTripSpec)) patternRoundTripCard

/-- THE TIED CARD OF 'narratorlaw31.PatternChoices'. -/
def patternChoicesCard : Claim7 := { stood := { row := patternChoicesRow, standIns := [], harness := (true, "d69808b254779cf5bcc3e27d0b219155c4ab8ebfaf462bdc330a14b8f310a33c"), looks := true }, kinds := [], alts := [], laidByText := true, laidKinds := [.data, .data, .data, .data, .pinned], laidTests := true, laidLooks := .later }
def PatternChoicesCardSaid : Prop := Claim7.holds Tryz.pinned (.plain (OpenSpec.ofChange patternChoicesSpec)) patternChoicesCard

/-- THE TIED CARD OF 'narratorlaw31.PatternJoins'. -/
def patternJoinsCard : Claim7 := { stood := { row := patternJoinsRow, standIns := [], harness := (true, "d69808b254779cf5bcc3e27d0b219155c4ab8ebfaf462bdc330a14b8f310a33c"), looks := true }, kinds := [], alts := [], laidByText := true, laidKinds := [.data, .data, .data, .data, .pinned], laidTests := true, laidLooks := .later }
def PatternJoinsCardSaid : Prop := Claim7.holds Tryz.pinned (.plain (OpenSpec.ofChange patternJoinsSpec)) patternJoinsCard

/-- THE TIED CARD OF 'narratorlaw31.PatternRepeats'. -/
def patternRepeatsCard : Claim7 := { stood := { row := patternRepeatsRow, standIns := [], harness := (true, "d69808b254779cf5bcc3e27d0b219155c4ab8ebfaf462bdc330a14b8f310a33c"), looks := true }, kinds := [], alts := [], laidByText := true, laidKinds := [.data, .data, .data, .data, .pinned], laidTests := true, laidLooks := .later }
def PatternRepeatsCardSaid : Prop := Claim7.holds Tryz.pinned (.plain (OpenSpec.ofChange patternRepeatsSpec)) patternRepeatsCard

/-- THE TIED CARD OF 'narratorlaw31.PatternMatch'. -/
def patternMatchCard : Claim7 := { stood := { row := patternMatchRow, standIns := [], harness := (true, "d69808b254779cf5bcc3e27d0b219155c4ab8ebfaf462bdc330a14b8f310a33c"), looks := true }, kinds := [], alts := [], laidByText := true, laidKinds := [.data, .data, .data, .data, .pinned], laidTests := true, laidLooks := .later }
def PatternMatchCardSaid : Prop := Claim7.holds Tryz.pinned (.plain (OpenSpec.ofChange patternMatchSpec)) patternMatchCard

/-- THE TIED CARD OF 'narratorlaw31.PatternStars'. -/
def patternStarsCard : Claim7 := { stood := { row := patternStarsRow, standIns := [], harness := (true, "d69808b254779cf5bcc3e27d0b219155c4ab8ebfaf462bdc330a14b8f310a33c"), looks := true }, kinds := [], alts := [], laidByText := true, laidKinds := [.data, .data, .data, .data, .pinned], laidTests := true, laidLooks := .later }
def PatternStarsCardSaid : Prop := Claim7.holds Tryz.pinned (.plain (OpenSpec.ofChange patternStarsSpec)) patternStarsCard

/-- THE TIED CARD OF 'narratorlaw31.PatternSets'. -/
def patternSetsCard : Claim7 := { stood := { row := patternSetsRow, standIns := [], harness := (true, "d69808b254779cf5bcc3e27d0b219155c4ab8ebfaf462bdc330a14b8f310a33c"), looks := true }, kinds := [], alts := [], laidByText := true, laidKinds := [.data, .data, .data, .data, .pinned], laidTests := true, laidLooks := .later }
def PatternSetsCardSaid : Prop := Claim7.holds Tryz.pinned (.plain (OpenSpec.ofChange patternSetsSpec)) patternSetsCard

/-- THE SECOND FORM's CARD OF 'narratorlaw31.PatternRoundTrip'. -/
def patternRoundTripUptoCard : Claim7 := { stood := { row := patternRoundTripUptoRow, standIns := [], harness := (true, "d69808b254779cf5bcc3e27d0b219155c4ab8ebfaf462bdc330a14b8f310a33c"), looks := true }, kinds := [], alts := [], laidByText := true, laidKinds := [.data, .data, .data, .data, .pinned], laidTests := true, laidLooks := .later }
def PatternRoundTripUptoCardSaid : Prop := Claim7.holds Tryz.pinned (.plain (OpenSpec.upto patternRoundTripSpec)) patternRoundTripUptoCard

/-- THE SECOND FORM's CARD OF 'narratorlaw31.PatternChoices'. -/
def patternChoicesUptoCard : Claim7 := { stood := { row := patternChoicesUptoRow, standIns := [], harness := (true, "d69808b254779cf5bcc3e27d0b219155c4ab8ebfaf462bdc330a14b8f310a33c"), looks := true }, kinds := [], alts := [], laidByText := true, laidKinds := [.data, .data, .data, .data, .pinned], laidTests := true, laidLooks := .later }
def PatternChoicesUptoCardSaid : Prop := Claim7.holds Tryz.pinned (.plain (OpenSpec.upto patternChoicesSpec)) patternChoicesUptoCard

/-- THE SECOND FORM's CARD OF 'narratorlaw31.PatternJoins'. -/
def patternJoinsUptoCard : Claim7 := { stood := { row := patternJoinsUptoRow, standIns := [], harness := (true, "d69808b254779cf5bcc3e27d0b219155c4ab8ebfaf462bdc330a14b8f310a33c"), looks := true }, kinds := [], alts := [], laidByText := true, laidKinds := [.data, .data, .data, .data, .pinned], laidTests := true, laidLooks := .later }
def PatternJoinsUptoCardSaid : Prop := Claim7.holds Tryz.pinned (.plain (OpenSpec.upto patternJoinsSpec)) patternJoinsUptoCard

/-- THE SECOND FORM's CARD OF 'narratorlaw31.PatternRepeats'. -/
def patternRepeatsUptoCard : Claim7 := { stood := { row := patternRepeatsUptoRow, standIns := [], harness := (true, "d69808b254779cf5bcc3e27d0b219155c4ab8ebfaf462bdc330a14b8f310a33c"), looks := true }, kinds := [], alts := [], laidByText := true, laidKinds := [.data, .data, .data, .data, .pinned], laidTests := true, laidLooks := .later }
def PatternRepeatsUptoCardSaid : Prop := Claim7.holds Tryz.pinned (.plain (OpenSpec.upto patternRepeatsSpec)) patternRepeatsUptoCard

/-- THE SECOND FORM's CARD OF 'narratorlaw31.PatternMatch'. -/
def patternMatchUptoCard : Claim7 := { stood := { row := patternMatchUptoRow, standIns := [], harness := (true, "d69808b254779cf5bcc3e27d0b219155c4ab8ebfaf462bdc330a14b8f310a33c"), looks := true }, kinds := [], alts := [], laidByText := true, laidKinds := [.data, .data, .data, .data, .pinned], laidTests := true, laidLooks := .later }
def PatternMatchUptoCardSaid : Prop := Claim7.holds Tryz.pinned (.plain (OpenSpec.upto patternMatchSpec)) patternMatchUptoCard

/-- THE SECOND FORM's CARD OF 'narratorlaw31.PatternStars'. -/
def patternStarsUptoCard : Claim7 := { stood := { row := patternStarsUptoRow, standIns := [], harness := (true, "d69808b254779cf5bcc3e27d0b219155c4ab8ebfaf462bdc330a14b8f310a33c"), looks := true }, kinds := [], alts := [], laidByText := true, laidKinds := [.data, .data, .data, .data, .pinned], laidTests := true, laidLooks := .later }
def PatternStarsUptoCardSaid : Prop := Claim7.holds Tryz.pinned (.plain (OpenSpec.upto patternStarsSpec)) patternStarsUptoCard

/-- THE SECOND FORM's CARD OF 'narratorlaw31.PatternSets'. -/
def patternSetsUptoCard : Claim7 := { stood := { row := patternSetsUptoRow, standIns := [], harness := (true, "d69808b254779cf5bcc3e27d0b219155c4ab8ebfaf462bdc330a14b8f310a33c"), looks := true }, kinds := [], alts := [], laidByText := true, laidKinds := [.data, .data, .data, .data, .pinned], laidTests := true, laidLooks := .later }
def PatternSetsUptoCardSaid : Prop := Claim7.holds Tryz.pinned (.plain (OpenSpec.upto patternSetsSpec)) patternSetsUptoCard
end Rows
end Go.Proofs.YtebejiilpedlmaaGreatDoor
