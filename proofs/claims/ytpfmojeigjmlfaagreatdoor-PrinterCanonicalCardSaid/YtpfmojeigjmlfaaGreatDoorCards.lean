/-
  DERIVED. GIVEN WITH THE SEED: THE CARDS: each row of YtpfmojeigjmlfaaGreatDoorRows.lean that lists a variable, with what it lists TIED to the program's text (the seventh form; the later family's looks); each row that meets fmt, with fmt's text TOLD by the authors' own Lean function (tested against real Go, not proved from fmt's source: count such statements apart). THE CARD IS WHAT COUNTS. Prove the row's statement (the work); the ties are given (YtpfmojeigjmlfaaGreatDoorTie.lean); close each card by the builder's one call (the guide's Derived/Test/ToyasCard.lean, 'card_holds'). Laid BY PROGRAM, IN A SANDBOX (cutbox-door.mjs). By AI agents, Wed Nov 11 2026. No macro, syntax, notation, axiom, sorry.
-/
import Derived.Test.YtpfmojeigjmlfaaGreatDoorRows
import GoSem.ClaimSeven
namespace Go.Proofs.YtpfmojeigjmlfaaGreatDoor
namespace Rows

/-- THE TIED CARD OF 'calquelaw26.SyntaxSpaces'. -/
def syntaxSpacesCard : Claim7 := { stood := { row := syntaxSpacesRow, standIns := [], harness := (true, "ec4c9d8d2bda38e21a6f76321e638541728798513a0198d7e48cce99ba37c59c"), looks := false }, kinds := [], alts := [], laidByText := true, laidKinds := [.data, .pinned], laidTests := true, laidLooks := .later }
def SyntaxSpacesCardSaid : Prop := Claim7.holds Tryz.pinned (.plain (OpenSpec.ofChange syntaxSpacesSpec)) syntaxSpacesCard

/-- THE TIED CARD OF 'calquelaw26.SyntaxParse'. -/
def syntaxParseCard : Claim7 := { stood := { row := syntaxParseRow, standIns := [], harness := (true, "ec4c9d8d2bda38e21a6f76321e638541728798513a0198d7e48cce99ba37c59c"), looks := false }, kinds := [], alts := [], laidByText := true, laidKinds := [.data, .pinned], laidTests := true, laidLooks := .later }
def SyntaxParseCardSaid : Prop := Claim7.holds Tryz.pinned (.plain (OpenSpec.ofChange syntaxParseSpec)) syntaxParseCard

/-- THE TIED CARD OF 'calquelaw27.PrinterCanonical'. -/
def printerCanonicalCard : Claim7 := { stood := { row := printerCanonicalRow, standIns := [], harness := (true, "ec4c9d8d2bda38e21a6f76321e638541728798513a0198d7e48cce99ba37c59c"), looks := false }, kinds := [], alts := [], laidByText := true, laidKinds := [.data, .pinned], laidTests := true, laidLooks := .later }
def PrinterCanonicalCardSaid : Prop := Claim7.holds Tryz.pinned (.plain (OpenSpec.ofChange printerCanonicalSpec)) printerCanonicalCard

/-- THE TIED CARD OF 'calquelaw27.PrinterInverse'. -/
def printerInverseCard : Claim7 := { stood := { row := printerInverseRow, standIns := [], harness := (true, "ec4c9d8d2bda38e21a6f76321e638541728798513a0198d7e48cce99ba37c59c"), looks := false }, kinds := [], alts := [], laidByText := true, laidKinds := [.data, .pinned], laidTests := true, laidLooks := .later }
def PrinterInverseCardSaid : Prop := Claim7.holds Tryz.pinned (.plain (OpenSpec.ofChange printerInverseSpec)) printerInverseCard

/-- THE TIED CARD OF 'calquelaw27.PrinterPrint'. -/
def printerPrintCard : Claim7 := { stood := { row := printerPrintRow, standIns := [], harness := (true, "ec4c9d8d2bda38e21a6f76321e638541728798513a0198d7e48cce99ba37c59c"), looks := false }, kinds := [], alts := [], laidByText := true, laidKinds := [.data, .pinned], laidTests := true, laidLooks := .later }
def PrinterPrintCardSaid : Prop := Claim7.holds Tryz.pinned (.plain (OpenSpec.ofChange printerPrintSpec)) printerPrintCard

/-- THE TIED CARD OF 'calquelaw28.SignatureInfer'. -/
def signatureInferCard : Claim7 := { stood := { row := signatureInferRow, standIns := [], harness := (true, "ec4c9d8d2bda38e21a6f76321e638541728798513a0198d7e48cce99ba37c59c"), looks := false }, kinds := [], alts := [], laidByText := true, laidKinds := [.data, .pinned], laidTests := true, laidLooks := .later }
def SignatureInferCardSaid : Prop := Claim7.holds Tryz.pinned (.plain (OpenSpec.ofChange signatureInferSpec)) signatureInferCard

/-- THE TIED CARD OF 'calquelaw28.SignatureParts'. -/
def signaturePartsCard : Claim7 := { stood := { row := signaturePartsRow, standIns := [], harness := (true, "ec4c9d8d2bda38e21a6f76321e638541728798513a0198d7e48cce99ba37c59c"), looks := false }, kinds := [], alts := [], laidByText := true, laidKinds := [.data, .pinned], laidTests := true, laidLooks := .later }
def SignaturePartsCardSaid : Prop := Claim7.holds Tryz.pinned (.plain (OpenSpec.ofChange signaturePartsSpec)) signaturePartsCard

/-- THE SECOND FORM's CARD OF 'calquelaw26.SyntaxSpaces'. -/
def syntaxSpacesUptoCard : Claim7 := { stood := { row := syntaxSpacesUptoRow, standIns := [], harness := (true, "ec4c9d8d2bda38e21a6f76321e638541728798513a0198d7e48cce99ba37c59c"), looks := false }, kinds := [], alts := [], laidByText := true, laidKinds := [.data, .pinned], laidTests := true, laidLooks := .later }
def SyntaxSpacesUptoCardSaid : Prop := Claim7.holds Tryz.pinned (.plain (OpenSpec.upto syntaxSpacesSpec)) syntaxSpacesUptoCard

/-- THE SECOND FORM's CARD OF 'calquelaw26.SyntaxParse'. -/
def syntaxParseUptoCard : Claim7 := { stood := { row := syntaxParseUptoRow, standIns := [], harness := (true, "ec4c9d8d2bda38e21a6f76321e638541728798513a0198d7e48cce99ba37c59c"), looks := false }, kinds := [], alts := [], laidByText := true, laidKinds := [.data, .pinned], laidTests := true, laidLooks := .later }
def SyntaxParseUptoCardSaid : Prop := Claim7.holds Tryz.pinned (.plain (OpenSpec.upto syntaxParseSpec)) syntaxParseUptoCard

/-- THE SECOND FORM's CARD OF 'calquelaw27.PrinterCanonical'. -/
def printerCanonicalUptoCard : Claim7 := { stood := { row := printerCanonicalUptoRow, standIns := [], harness := (true, "ec4c9d8d2bda38e21a6f76321e638541728798513a0198d7e48cce99ba37c59c"), looks := false }, kinds := [], alts := [], laidByText := true, laidKinds := [.data, .pinned], laidTests := true, laidLooks := .later }
def PrinterCanonicalUptoCardSaid : Prop := Claim7.holds Tryz.pinned (.plain (OpenSpec.upto printerCanonicalSpec)) printerCanonicalUptoCard

/-- THE SECOND FORM's CARD OF 'calquelaw27.PrinterInverse'. -/
def printerInverseUptoCard : Claim7 := { stood := { row := printerInverseUptoRow, standIns := [], harness := (true, "ec4c9d8d2bda38e21a6f76321e638541728798513a0198d7e48cce99ba37c59c"), looks := false }, kinds := [], alts := [], laidByText := true, laidKinds := [.data, .pinned], laidTests := true, laidLooks := .later }
def PrinterInverseUptoCardSaid : Prop := Claim7.holds Tryz.pinned (.plain (OpenSpec.upto printerInverseSpec)) printerInverseUptoCard

/-- THE SECOND FORM's CARD OF 'calquelaw27.PrinterPrint'. -/
def printerPrintUptoCard : Claim7 := { stood := { row := printerPrintUptoRow, standIns := [], harness := (true, "ec4c9d8d2bda38e21a6f76321e638541728798513a0198d7e48cce99ba37c59c"), looks := false }, kinds := [], alts := [], laidByText := true, laidKinds := [.data, .pinned], laidTests := true, laidLooks := .later }
def PrinterPrintUptoCardSaid : Prop := Claim7.holds Tryz.pinned (.plain (OpenSpec.upto printerPrintSpec)) printerPrintUptoCard

/-- THE SECOND FORM's CARD OF 'calquelaw28.SignatureInfer'. -/
def signatureInferUptoCard : Claim7 := { stood := { row := signatureInferUptoRow, standIns := [], harness := (true, "ec4c9d8d2bda38e21a6f76321e638541728798513a0198d7e48cce99ba37c59c"), looks := false }, kinds := [], alts := [], laidByText := true, laidKinds := [.data, .pinned], laidTests := true, laidLooks := .later }
def SignatureInferUptoCardSaid : Prop := Claim7.holds Tryz.pinned (.plain (OpenSpec.upto signatureInferSpec)) signatureInferUptoCard

/-- THE SECOND FORM's CARD OF 'calquelaw28.SignatureParts'. -/
def signaturePartsUptoCard : Claim7 := { stood := { row := signaturePartsUptoRow, standIns := [], harness := (true, "ec4c9d8d2bda38e21a6f76321e638541728798513a0198d7e48cce99ba37c59c"), looks := false }, kinds := [], alts := [], laidByText := true, laidKinds := [.data, .pinned], laidTests := true, laidLooks := .later }
def SignaturePartsUptoCardSaid : Prop := Claim7.holds Tryz.pinned (.plain (OpenSpec.upto signaturePartsSpec)) signaturePartsUptoCard
end Rows
end Go.Proofs.YtpfmojeigjmlfaaGreatDoor
