/-
  DERIVED. GIVEN WITH THE SEED: THE CARDS: each row of YtfnddhbiolpmgaaGreatDoorRows.lean that lists a variable, with what it lists TIED to the program's text (the seventh form; the later family's looks); each row that meets fmt, with fmt's text TOLD by the authors' own Lean function (tested against real Go, not proved from fmt's source: count such statements apart). THE CARD IS WHAT COUNTS. Prove the row's statement (the work); the ties are given (YtfnddhbiolpmgaaGreatDoorTie.lean); close each card by the builder's one call (the guide's Derived/Test/ToyasCard.lean, 'card_holds'). Laid BY PROGRAM, IN A SANDBOX (cutbox-door.mjs). By AI agents, Wed Nov 11 2026. No macro, syntax, notation, axiom, sorry.
-/
import Derived.Test.YtfnddhbiolpmgaaGreatDoorRows
import GoSem.ClaimSeven
namespace Go.Proofs.YtfnddhbiolpmgaaGreatDoor
namespace Rows

/-- THE TIED CARD OF 'narratorlaw56.SearchLetters'. -/
def searchLettersCard : Claim7 := { stood := { row := searchLettersRow, standIns := [], harness := (true, "c05cb87068cfc496147c20f498f672a51ace9e991c47f3e3ea316325a0a0e8fc"), looks := true }, kinds := [], alts := [], laidByText := true, laidKinds := [.data, .pinned], laidTests := true, laidLooks := .later }
def SearchLettersCardSaid : Prop := Claim7.holds Tryz.pinned (.plain (OpenSpec.ofChange searchLettersSpec)) searchLettersCard

/-- THE SECOND FORM's CARD OF 'narratorlaw56.SearchLetters'. -/
def searchLettersUptoCard : Claim7 := { stood := { row := searchLettersUptoRow, standIns := [], harness := (true, "c05cb87068cfc496147c20f498f672a51ace9e991c47f3e3ea316325a0a0e8fc"), looks := true }, kinds := [], alts := [], laidByText := true, laidKinds := [.data, .pinned], laidTests := true, laidLooks := .later }
def SearchLettersUptoCardSaid : Prop := Claim7.holds Tryz.pinned (.plain (OpenSpec.upto searchLettersSpec)) searchLettersUptoCard
end Rows
end Go.Proofs.YtfnddhbiolpmgaaGreatDoor
