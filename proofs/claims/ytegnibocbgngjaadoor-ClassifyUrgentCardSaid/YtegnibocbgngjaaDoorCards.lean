/-
  DERIVED. GIVEN WITH THE SEED: THE CARDS: each row of YtegnibocbgngjaaDoorRows.lean that lists a variable, with what it lists TIED to the program's text (the seventh form; the later family's looks); each row that meets fmt, with fmt's text TOLD by the authors' own Lean function (tested against real Go, not proved from fmt's source: count such statements apart). THE CARD IS WHAT COUNTS. Prove the row's statement (the work); the ties are given (YtegnibocbgngjaaDoorTie.lean); close each card by the builder's one call (the guide's Derived/Test/ToyasCard.lean, 'card_holds'). Laid BY PROGRAM, IN A SANDBOX (cutbox-door.mjs). By AI agents, Wed Nov 11 2026. No macro, syntax, notation, axiom, sorry.
-/
import Derived.Test.YtegnibocbgngjaaDoorRows
import GoSem.ClaimSeven
namespace Go.Proofs.YtegnibocbgngjaaDoor
namespace Rows

/-- THE TIED CARD OF 'narratorlaw37.ClassifyMost'. -/
def classifyMostCard : Claim7 := { stood := { row := classifyMostRow, standIns := [], harness := (true, "f9bad2d5490229d8522a6075539025be0c929a4c2ffeb4387961dc255da2144d"), looks := true }, kinds := [], alts := [], laidByText := true, laidKinds := [.data, .pinned], laidTests := true, laidLooks := .later }
def ClassifyMostCardSaid : Prop := Claim7.holds Tryd.pinned (.plain (OpenSpec.ofChange classifyMostSpec)) classifyMostCard

/-- THE TIED CARD OF 'narratorlaw37.ClassifyUrgent'. -/
def classifyUrgentCard : Claim7 := { stood := { row := classifyUrgentRow, standIns := [], harness := (true, "f9bad2d5490229d8522a6075539025be0c929a4c2ffeb4387961dc255da2144d"), looks := true }, kinds := [], alts := [], laidByText := true, laidKinds := [.data, .pinned], laidTests := true, laidLooks := .later }
def ClassifyUrgentCardSaid : Prop := Claim7.holds Tryd.pinned (.plain (OpenSpec.ofChange classifyUrgentSpec)) classifyUrgentCard

/-- THE SECOND FORM's CARD OF 'narratorlaw37.ClassifyMost'. -/
def classifyMostUptoCard : Claim7 := { stood := { row := classifyMostUptoRow, standIns := [], harness := (true, "f9bad2d5490229d8522a6075539025be0c929a4c2ffeb4387961dc255da2144d"), looks := true }, kinds := [], alts := [], laidByText := true, laidKinds := [.data, .pinned], laidTests := true, laidLooks := .later }
def ClassifyMostUptoCardSaid : Prop := Claim7.holds Tryd.pinned (.plain (OpenSpec.upto classifyMostSpec)) classifyMostUptoCard

/-- THE SECOND FORM's CARD OF 'narratorlaw37.ClassifyUrgent'. -/
def classifyUrgentUptoCard : Claim7 := { stood := { row := classifyUrgentUptoRow, standIns := [], harness := (true, "f9bad2d5490229d8522a6075539025be0c929a4c2ffeb4387961dc255da2144d"), looks := true }, kinds := [], alts := [], laidByText := true, laidKinds := [.data, .pinned], laidTests := true, laidLooks := .later }
def ClassifyUrgentUptoCardSaid : Prop := Claim7.holds Tryd.pinned (.plain (OpenSpec.upto classifyUrgentSpec)) classifyUrgentUptoCard
end Rows
end Go.Proofs.YtegnibocbgngjaaDoor
