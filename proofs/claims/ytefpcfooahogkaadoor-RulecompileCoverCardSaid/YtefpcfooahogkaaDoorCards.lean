/-
  DERIVED. GIVEN WITH THE SEED: THE CARDS: each row of YtefpcfooahogkaaDoorRows.lean that lists a variable, with what it lists TIED to the program's text (the seventh form; the later family's looks); each row that meets fmt, with fmt's text TOLD by the authors' own Lean function (tested against real Go, not proved from fmt's source: count such statements apart). THE CARD IS WHAT COUNTS. Prove the row's statement (the work); the ties are given (YtefpcfooahogkaaDoorTie.lean); close each card by the builder's one call (the guide's Derived/Test/ToyasCard.lean, 'card_holds'). Laid BY PROGRAM, IN A SANDBOX (cutbox-door.mjs). By AI agents, Wed Nov 11 2026. No macro, syntax, notation, axiom, sorry.
-/
import Derived.Test.YtefpcfooahogkaaDoorRows
import GoSem.ClaimSeven
namespace Go.Proofs.YtefpcfooahogkaaDoor
namespace Rows

/-- THE TIED CARD OF 'narratorlaw35.RulecompileCover'. -/
def rulecompileCoverCard : Claim7 := { stood := { row := rulecompileCoverRow, standIns := [], harness := (true, "fd3cb3b934be17e8028b5b019aaf2ad6e54cb2c83522b41b3b9c3b97d744e4f4"), looks := true }, kinds := [], alts := [], laidByText := true, laidKinds := [.data, .pinned], laidTests := true, laidLooks := .later }
def RulecompileCoverCardSaid : Prop := Claim7.holds Tryd.pinned (.plain (OpenSpec.ofChange rulecompileCoverSpec)) rulecompileCoverCard

/-- THE SECOND FORM's CARD OF 'narratorlaw35.RulecompileCover'. -/
def rulecompileCoverUptoCard : Claim7 := { stood := { row := rulecompileCoverUptoRow, standIns := [], harness := (true, "fd3cb3b934be17e8028b5b019aaf2ad6e54cb2c83522b41b3b9c3b97d744e4f4"), looks := true }, kinds := [], alts := [], laidByText := true, laidKinds := [.data, .pinned], laidTests := true, laidLooks := .later }
def RulecompileCoverUptoCardSaid : Prop := Claim7.holds Tryd.pinned (.plain (OpenSpec.upto rulecompileCoverSpec)) rulecompileCoverUptoCard
end Rows
end Go.Proofs.YtefpcfooahogkaaDoor
