/-
  DERIVED. GIVEN WITH THE SEED: THE CARDS: each row of YtngdkenddfdhaaaGreatDoorRows.lean that lists a variable, with what it lists TIED to the program's text (the seventh form; the later family's looks); each row that meets fmt, with fmt's text TOLD by the authors' own Lean function (tested against real Go, not proved from fmt's source: count such statements apart). THE CARD IS WHAT COUNTS. Prove the row's statement (the work); the ties are given (YtngdkenddfdhaaaGreatDoorTie.lean); close each card by the builder's one call (the guide's Derived/Test/ToyasCard.lean, 'card_holds'). Laid BY PROGRAM, IN A SANDBOX (cutbox-door.mjs). By AI agents, Wed Nov 11 2026. No macro, syntax, notation, axiom, sorry.
-/
import Derived.Test.YtngdkenddfdhaaaGreatDoorRows
import GoSem.ClaimSeven
namespace Go.Proofs.YtngdkenddfdhaaaGreatDoor
namespace Rows

/-- THE TIED CARD OF 'narratorlaw32.NfaBuild'. -/
def nfaBuildCard : Claim7 := { stood := { row := nfaBuildRow, standIns := [], harness := (true, "902a46a3926c1312a578f88bf996447d944b9a7b77fc77a7c7905e7372199c74"), looks := true }, kinds := [], alts := [], laidByText := true, laidKinds := [.data, .pinned], laidTests := true, laidLooks := .later }
def NfaBuildCardSaid : Prop := Claim7.holds Tryz.pinned (.plain (OpenSpec.ofChange nfaBuildSpec)) nfaBuildCard

/-- THE TIED CARD OF 'narratorlaw32.NfaSizes'. -/
def nfaSizesCard : Claim7 := { stood := { row := nfaSizesRow, standIns := [], harness := (true, "902a46a3926c1312a578f88bf996447d944b9a7b77fc77a7c7905e7372199c74"), looks := true }, kinds := [], alts := [], laidByText := true, laidKinds := [.data, .pinned], laidTests := true, laidLooks := .later }
def NfaSizesCardSaid : Prop := Claim7.holds Tryz.pinned (.plain (OpenSpec.ofChange nfaSizesSpec)) nfaSizesCard

/-- THE TIED CARD OF 'narratorlaw32.NfaAlgebra'. -/
def nfaAlgebraCard : Claim7 := { stood := { row := nfaAlgebraRow, standIns := [], harness := (true, "902a46a3926c1312a578f88bf996447d944b9a7b77fc77a7c7905e7372199c74"), looks := true }, kinds := [], alts := [], laidByText := true, laidKinds := [.data, .pinned], laidTests := true, laidLooks := .later }
def NfaAlgebraCardSaid : Prop := Claim7.holds Tryz.pinned (.plain (OpenSpec.ofChange nfaAlgebraSpec)) nfaAlgebraCard

/-- THE TIED CARD OF 'narratorlaw32.NfaAgrees'. -/
def nfaAgreesCard : Claim7 := { stood := { row := nfaAgreesRow, standIns := [], harness := (true, "902a46a3926c1312a578f88bf996447d944b9a7b77fc77a7c7905e7372199c74"), looks := true }, kinds := [], alts := [], laidByText := true, laidKinds := [.data, .pinned], laidTests := true, laidLooks := .later }
def NfaAgreesCardSaid : Prop := Claim7.holds Tryz.pinned (.plain (OpenSpec.ofChange nfaAgreesSpec)) nfaAgreesCard

/-- THE SECOND FORM's CARD OF 'narratorlaw32.NfaBuild'. -/
def nfaBuildUptoCard : Claim7 := { stood := { row := nfaBuildUptoRow, standIns := [], harness := (true, "902a46a3926c1312a578f88bf996447d944b9a7b77fc77a7c7905e7372199c74"), looks := true }, kinds := [], alts := [], laidByText := true, laidKinds := [.data, .pinned], laidTests := true, laidLooks := .later }
def NfaBuildUptoCardSaid : Prop := Claim7.holds Tryz.pinned (.plain (OpenSpec.upto nfaBuildSpec)) nfaBuildUptoCard

/-- THE SECOND FORM's CARD OF 'narratorlaw32.NfaSizes'. -/
def nfaSizesUptoCard : Claim7 := { stood := { row := nfaSizesUptoRow, standIns := [], harness := (true, "902a46a3926c1312a578f88bf996447d944b9a7b77fc77a7c7905e7372199c74"), looks := true }, kinds := [], alts := [], laidByText := true, laidKinds := [.data, .pinned], laidTests := true, laidLooks := .later }
def NfaSizesUptoCardSaid : Prop := Claim7.holds Tryz.pinned (.plain (OpenSpec.upto nfaSizesSpec)) nfaSizesUptoCard

/-- THE SECOND FORM's CARD OF 'narratorlaw32.NfaAlgebra'. -/
def nfaAlgebraUptoCard : Claim7 := { stood := { row := nfaAlgebraUptoRow, standIns := [], harness := (true, "902a46a3926c1312a578f88bf996447d944b9a7b77fc77a7c7905e7372199c74"), looks := true }, kinds := [], alts := [], laidByText := true, laidKinds := [.data, .pinned], laidTests := true, laidLooks := .later }
def NfaAlgebraUptoCardSaid : Prop := Claim7.holds Tryz.pinned (.plain (OpenSpec.upto nfaAlgebraSpec)) nfaAlgebraUptoCard

/-- THE SECOND FORM's CARD OF 'narratorlaw32.NfaAgrees'. -/
def nfaAgreesUptoCard : Claim7 := { stood := { row := nfaAgreesUptoRow, standIns := [], harness := (true, "902a46a3926c1312a578f88bf996447d944b9a7b77fc77a7c7905e7372199c74"), looks := true }, kinds := [], alts := [], laidByText := true, laidKinds := [.data, .pinned], laidTests := true, laidLooks := .later }
def NfaAgreesUptoCardSaid : Prop := Claim7.holds Tryz.pinned (.plain (OpenSpec.upto nfaAgreesSpec)) nfaAgreesUptoCard
end Rows
end Go.Proofs.YtngdkenddfdhaaaGreatDoor
