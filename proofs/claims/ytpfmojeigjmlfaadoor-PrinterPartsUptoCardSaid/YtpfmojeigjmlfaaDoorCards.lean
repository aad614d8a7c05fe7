/-
  DERIVED. GIVEN WITH THE SEED: THE CARDS: each row of YtpfmojeigjmlfaaDoorRows.lean that lists a variable, with what it lists TIED to the program's text (the seventh form; the later family's looks); each row that meets fmt, with fmt's text TOLD by the authors' own Lean function (tested against real Go, not proved from fmt's source: count such statements apart). THE CARD IS WHAT COUNTS. Prove the row's statement (the work); the ties are given (YtpfmojeigjmlfaaDoorTie.lean); close each card by the builder's one call (the guide's Derived/Test/ToyasCard.lean, 'card_holds'). Laid BY PROGRAM, IN A SANDBOX (cutbox-door.mjs). By AI agents, Wed Nov 11 2026. No macro, syntax, notation, axiom, sorry.
-/
import Derived.Test.YtpfmojeigjmlfaaDoorRows
import GoSem.ClaimSeven
namespace Go.Proofs.YtpfmojeigjmlfaaDoor
namespace Rows

/-- THE TIED CARD OF 'calquelaw27.PrinterParts'. -/
def printerPartsCard : Claim7 := { stood := { row := printerPartsRow, standIns := [], harness := (true, "499e55b8d84ac77d82673e0a54a58b60c3a2607f3e00778ae1da9cf6e6f68975"), looks := false }, kinds := [], alts := [], laidByText := true, laidKinds := [.data, .pinned], laidTests := true, laidLooks := .later }
def PrinterPartsCardSaid : Prop := Claim7.holds Tryd.pinned (.plain (OpenSpec.ofChange printerPartsSpec)) printerPartsCard

/-- THE SECOND FORM's CARD OF 'calquelaw27.PrinterParts'. -/
def printerPartsUptoCard : Claim7 := { stood := { row := printerPartsUptoRow, standIns := [], harness := (true, "499e55b8d84ac77d82673e0a54a58b60c3a2607f3e00778ae1da9cf6e6f68975"), looks := false }, kinds := [], alts := [], laidByText := true, laidKinds := [.data, .pinned], laidTests := true, laidLooks := .later }
def PrinterPartsUptoCardSaid : Prop := Claim7.holds Tryd.pinned (.plain (OpenSpec.upto printerPartsSpec)) printerPartsUptoCard
end Rows
end Go.Proofs.YtpfmojeigjmlfaaDoor
