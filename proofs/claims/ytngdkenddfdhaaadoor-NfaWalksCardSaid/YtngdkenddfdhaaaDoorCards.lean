/-
  DERIVED. GIVEN WITH THE SEED: THE CARDS: each row of YtngdkenddfdhaaaDoorRows.lean that lists a variable, with what it lists TIED to the program's text (the seventh form; the later family's looks); each row that meets fmt, with fmt's text TOLD by the authors' own Lean function (tested against real Go, not proved from fmt's source: count such statements apart). THE CARD IS WHAT COUNTS. Prove the row's statement (the work); the ties are given (YtngdkenddfdhaaaDoorTie.lean); close each card by the builder's one call (the guide's Derived/Test/ToyasCard.lean, 'card_holds'). Laid BY PROGRAM, IN A SANDBOX (cutbox-door.mjs). By AI agents, Wed Nov 11 2026. No macro, syntax, notation, axiom, sorry.
-/
import Derived.Test.YtngdkenddfdhaaaDoorRows
import GoSem.ClaimSeven
namespace Go.Proofs.YtngdkenddfdhaaaDoor
namespace Rows

/-- THE TIED CARD OF 'narratorlaw32.NfaClosures'. -/
def nfaClosuresCard : Claim7 := { stood := { row := nfaClosuresRow, standIns := [], harness := (true, "0051148f5bca56fbbb17278bc616109b9bc8ddbc620dd5ce1b6034976d08f899"), looks := true }, kinds := [], alts := [], laidByText := true, laidKinds := [.data, .pinned], laidTests := true, laidLooks := .later }
def NfaClosuresCardSaid : Prop := Claim7.holds Tryd.pinned (.plain (OpenSpec.ofChange nfaClosuresSpec)) nfaClosuresCard

/-- THE TIED CARD OF 'narratorlaw32.NfaUnions'. -/
def nfaUnionsCard : Claim7 := { stood := { row := nfaUnionsRow, standIns := [], harness := (true, "0051148f5bca56fbbb17278bc616109b9bc8ddbc620dd5ce1b6034976d08f899"), looks := true }, kinds := [], alts := [], laidByText := true, laidKinds := [.data, .pinned], laidTests := true, laidLooks := .later }
def NfaUnionsCardSaid : Prop := Claim7.holds Tryd.pinned (.plain (OpenSpec.ofChange nfaUnionsSpec)) nfaUnionsCard

/-- THE TIED CARD OF 'narratorlaw32.NfaWalks'. -/
def nfaWalksCard : Claim7 := { stood := { row := nfaWalksRow, standIns := [], harness := (true, "0051148f5bca56fbbb17278bc616109b9bc8ddbc620dd5ce1b6034976d08f899"), looks := true }, kinds := [], alts := [], laidByText := true, laidKinds := [.data, .pinned], laidTests := true, laidLooks := .later }
def NfaWalksCardSaid : Prop := Claim7.holds Tryd.pinned (.plain (OpenSpec.ofChange nfaWalksSpec)) nfaWalksCard

/-- THE SECOND FORM's CARD OF 'narratorlaw32.NfaClosures'. -/
def nfaClosuresUptoCard : Claim7 := { stood := { row := nfaClosuresUptoRow, standIns := [], harness := (true, "0051148f5bca56fbbb17278bc616109b9bc8ddbc620dd5ce1b6034976d08f899"), looks := true }, kinds := [], alts := [], laidByText := true, laidKinds := [.data, .pinned], laidTests := true, laidLooks := .later }
def NfaClosuresUptoCardSaid : Prop := Claim7.holds Tryd.pinned (.plain (OpenSpec.upto nfaClosuresSpec)) nfaClosuresUptoCard

/-- THE SECOND FORM's CARD OF 'narratorlaw32.NfaUnions'. -/
def nfaUnionsUptoCard : Claim7 := { stood := { row := nfaUnionsUptoRow, standIns := [], harness := (true, "0051148f5bca56fbbb17278bc616109b9bc8ddbc620dd5ce1b6034976d08f899"), looks := true }, kinds := [], alts := [], laidByText := true, laidKinds := [.data, .pinned], laidTests := true, laidLooks := .later }
def NfaUnionsUptoCardSaid : Prop := Claim7.holds Tryd.pinned (.plain (OpenSpec.upto nfaUnionsSpec)) nfaUnionsUptoCard

/-- THE SECOND FORM's CARD OF 'narratorlaw32.NfaWalks'. -/
def nfaWalksUptoCard : Claim7 := { stood := { row := nfaWalksUptoRow, standIns := [], harness := (true, "0051148f5bca56fbbb17278bc616109b9bc8ddbc620dd5ce1b6034976d08f899"), looks := true }, kinds := [], alts := [], laidByText := true, laidKinds := [.data, .pinned], laidTests := true, laidLooks := .later }
def NfaWalksUptoCardSaid : Prop := Claim7.holds Tryd.pinned (.plain (OpenSpec.upto nfaWalksSpec)) nfaWalksUptoCard
end Rows
end Go.Proofs.YtngdkenddfdhaaaDoor
