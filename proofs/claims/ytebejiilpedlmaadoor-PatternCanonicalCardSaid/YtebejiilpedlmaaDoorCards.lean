/-
  DERIVED. GIVEN WITH THE SEED: THE CARDS: each row of YtebejiilpedlmaaDoorRows.lean that lists a variable, with what it lists TIED to the program's text (the seventh form; the later family's looks); each row that meets fmt, with fmt's text TOLD by the authors' own Lean function (tested against real Go, not proved from fmt's source: count such statements apart). THE CARD IS WHAT COUNTS. Prove the row's statement (the work); the ties are given (YtebejiilpedlmaaDoorTie.lean); close each card by the builder's one call (the guide's Derived/Test/ToyasCard.lean, 'card_holds'). Laid BY PROGRAM, IN A SANDBOX (cutbox-door.mjs). By AI agents, Wed Nov 11 2026. No macro, syntax, notation, axiom, sorry.
-/
import Derived.Test.YtebejiilpedlmaaDoorRows
import GoSem.ClaimSeven
namespace Go.Proofs.YtebejiilpedlmaaDoor
namespace Rows

/-- THE TIED CARD OF 'narratorlaw31.PatternCanonical'. -/
def patternCanonicalCard : Claim7 := { stood := { row := patternCanonicalRow, standIns := [], harness := (true, "b448a1df4b9e2d072d27090eb9d88fbfb6199fdc49ad2ec849927b58c2e2a864"), looks := true }, kinds := [], alts := [], laidByText := true, laidKinds := [.data, .data, .data, .data, .pinned], laidTests := true, laidLooks := .later }
def PatternCanonicalCardSaid : Prop := Claim7.holds Tryd.pinned (.plain (OpenSpec.ofChange patternCanonicalSpec)) patternCanonicalCard

/-- THE SECOND FORM's CARD OF 'narratorlaw31.PatternCanonical'. -/
def patternCanonicalUptoCard : Claim7 := { stood := { row := patternCanonicalUptoRow, standIns := [], harness := (true, "b448a1df4b9e2d072d27090eb9d88fbfb6199fdc49ad2ec849927b58c2e2a864"), looks := true }, kinds := [], alts := [], laidByText := true, laidKinds := [.data, .data, .data, .data, .pinned], laidTests := true, laidLooks := .later }
def PatternCanonicalUptoCardSaid : Prop := Claim7.holds Tryd.pinned (.plain (OpenSpec.upto patternCanonicalSpec)) patternCanonicalUptoCard
end Rows
end Go.Proofs.YtebejiilpedlmaaDoor
