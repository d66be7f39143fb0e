/-
  DERIVED. GIVEN WITH THE SEED: THE CARDS: each row of YtefpcfooahogkaaGreatDoorRows.lean that lists a variable, with what it lists TIED to the program's text (the seventh form; the later family's looks); each row that meets fmt, with fmt's text TOLD by the authors' own Lean function (tested against real Go, not proved from fmt's source: count such statements apart). THE CARD IS WHAT COUNTS. Prove the row's statement (the work); the ties are given (YtefpcfooahogkaaGreatDoorTie.lean); close each card by the builder's one call (the guide's Derived/Test/ToyasCard.lean, 'card_holds'). Laid BY PROGRAM, IN A SANDBOX (cutbox-door.mjs). By AI agents, Wed Nov 11 2026. No macro, syntax, notation, axiom, sorry.
-/
import Derived.Test.YtefpcfooahogkaaGreatDoorRows
import GoSem.ClaimSeven
namespace Go.Proofs.YtefpcfooahogkaaGreatDoor
namespace Rows

/-- THE TIED CARD OF 'narratorlaw35.RulecompileDecide'. -/
def rulecompileDecideCard : Claim7 := { stood := { row := rulecompileDecideRow, standIns := [], harness := (true, "34300d5bd019689de95e666bf1987336977c4ce6b3195697c2cedc247bd73e6e"), looks := true }, kinds := [], alts := [], laidByText := true, laidKinds := [.data, .pinned], laidTests := true, laidLooks := .later }
def RulecompileDecideCardSaid : Prop := Claim7.holds Tryz.pinned (.plain (OpenSpec.ofChange rulecompileDecideSpec)) rulecompileDecideCard

/-- THE SECOND FORM's CARD OF 'narratorlaw35.RulecompileDecide'. -/
def rulecompileDecideUptoCard : Claim7 := { stood := { row := rulecompileDecideUptoRow, standIns := [], harness := (true, "34300d5bd019689de95e666bf1987336977c4ce6b3195697c2cedc247bd73e6e"), looks := true }, kinds := [], alts := [], laidByText := true, laidKinds := [.data, .pinned], laidTests := true, laidLooks := .later }
def RulecompileDecideUptoCardSaid : Prop := Claim7.holds Tryz.pinned (.plain (OpenSpec.upto rulecompileDecideSpec)) rulecompileDecideUptoCard
end Rows
end Go.Proofs.YtefpcfooahogkaaGreatDoor
