/-
  DERIVED. GIVEN WITH THE SEED: THE CARDS: each row of YtblkpgglkhmggaaGreatDoorRows.lean that lists a variable, with what it lists TIED to the program's text (the seventh form; the later family's looks); each row that meets fmt, with fmt's text TOLD by the authors' own Lean function (tested against real Go, not proved from fmt's source: count such statements apart). THE CARD IS WHAT COUNTS. Prove the row's statement (the work); the ties are given (YtblkpgglkhmggaaGreatDoorTie.lean); close each card by the builder's one call (the guide's Derived/Test/ToyasCard.lean, 'card_holds'). Laid BY PROGRAM, IN A SANDBOX (cutbox-door.mjs). By AI agents, Wed Nov 11 2026. No macro, syntax, notation, axiom, sorry.
-/
import Derived.Test.YtblkpgglkhmggaaGreatDoorRows
import GoSem.ClaimSeven
namespace Go.Proofs.YtblkpgglkhmggaaGreatDoor
namespace Rows

/-- THE TIED CARD OF 'calquelaw28.SignatureInfer'. -/
def signatureInferCard : Claim7 := { stood := { row := signatureInferRow, standIns := [], harness := (true, "4e81300487dafc02708c3f2681346c23fff23b608ddd5a1dc5cb355db762c851"), looks := false }, kinds := [], alts := [], laidByText := true, laidKinds := [.data, .pinned], laidTests := true, laidLooks := .later }
def SignatureInferCardSaid : Prop := Claim7.holds Tryz.pinned (.plain (OpenSpec.ofChange signatureInferSpec)) signatureInferCard

/-- THE TIED CARD OF 'calquelaw28.SignatureMerges'. -/
def signatureMergesCard : Claim7 := { stood := { row := signatureMergesRow, standIns := [], harness := (true, "4e81300487dafc02708c3f2681346c23fff23b608ddd5a1dc5cb355db762c851"), looks := false }, kinds := [], alts := [], laidByText := true, laidKinds := [.data, .pinned], laidTests := true, laidLooks := .later }
def SignatureMergesCardSaid : Prop := Claim7.holds Tryz.pinned (.plain (OpenSpec.ofChange signatureMergesSpec)) signatureMergesCard

/-- THE TIED CARD OF 'calquelaw28.SignatureParts'. -/
def signaturePartsCard : Claim7 := { stood := { row := signaturePartsRow, standIns := [], harness := (true, "4e81300487dafc02708c3f2681346c23fff23b608ddd5a1dc5cb355db762c851"), looks := false }, kinds := [], alts := [], laidByText := true, laidKinds := [.data, .pinned], laidTests := true, laidLooks := .later }
def SignaturePartsCardSaid : Prop := Claim7.holds Tryz.pinned (.plain (OpenSpec.ofChange signaturePartsSpec)) signaturePartsCard

/-- THE TIED CARD OF 'calquelaw28.SignatureValues'. -/
def signatureValuesCard : Claim7 := { stood := { row := signatureValuesRow, standIns := [], harness := (true, "4e81300487dafc02708c3f2681346c23fff23b608ddd5a1dc5cb355db762c851"), looks := false }, kinds := [], alts := [], laidByText := true, laidKinds := [.data, .pinned], laidTests := true, laidLooks := .later }
def SignatureValuesCardSaid : Prop := Claim7.holds Tryz.pinned (.plain (OpenSpec.ofChange signatureValuesSpec)) signatureValuesCard

/-- THE TIED CARD OF 'calquelaw28.SignatureChecks'. -/
def signatureChecksCard : Claim7 := { stood := { row := signatureChecksRow, standIns := [], harness := (true, "4e81300487dafc02708c3f2681346c23fff23b608ddd5a1dc5cb355db762c851"), looks := false }, kinds := [], alts := [], laidByText := true, laidKinds := [.data, .pinned], laidTests := true, laidLooks := .later }
def SignatureChecksCardSaid : Prop := Claim7.holds Tryz.pinned (.plain (OpenSpec.ofChange signatureChecksSpec)) signatureChecksCard

/-- THE TIED CARD OF 'calquelaw28.SignatureLists'. -/
def signatureListsCard : Claim7 := { stood := { row := signatureListsRow, standIns := [], harness := (true, "4e81300487dafc02708c3f2681346c23fff23b608ddd5a1dc5cb355db762c851"), looks := false }, kinds := [], alts := [], laidByText := true, laidKinds := [.data, .pinned], laidTests := true, laidLooks := .later }
def SignatureListsCardSaid : Prop := Claim7.holds Tryz.pinned (.plain (OpenSpec.ofChange signatureListsSpec)) signatureListsCard

/-- THE SECOND FORM's CARD OF 'calquelaw28.SignatureInfer'. -/
def signatureInferUptoCard : Claim7 := { stood := { row := signatureInferUptoRow, standIns := [], harness := (true, "4e81300487dafc02708c3f2681346c23fff23b608ddd5a1dc5cb355db762c851"), looks := false }, kinds := [], alts := [], laidByText := true, laidKinds := [.data, .pinned], laidTests := true, laidLooks := .later }
def SignatureInferUptoCardSaid : Prop := Claim7.holds Tryz.pinned (.plain (OpenSpec.upto signatureInferSpec)) signatureInferUptoCard

/-- THE SECOND FORM's CARD OF 'calquelaw28.SignatureMerges'. -/
def signatureMergesUptoCard : Claim7 := { stood := { row := signatureMergesUptoRow, standIns := [], harness := (true, "4e81300487dafc02708c3f2681346c23fff23b608ddd5a1dc5cb355db762c851"), looks := false }, kinds := [], alts := [], laidByText := true, laidKinds := [.data, .pinned], laidTests := true, laidLooks := .later }
def SignatureMergesUptoCardSaid : Prop := Claim7.holds Tryz.pinned (.plain (OpenSpec.upto signatureMergesSpec)) signatureMergesUptoCard

/-- THE SECOND FORM's CARD OF 'calquelaw28.SignatureParts'. -/
def signaturePartsUptoCard : Claim7 := { stood := { row := signaturePartsUptoRow, standIns := [], harness := (true, "4e81300487dafc02708c3f2681346c23fff23b608ddd5a1dc5cb355db762c851"), looks := false }, kinds := [], alts := [], laidByText := true, laidKinds := [.data, .pinned], laidTests := true, laidLooks := .later }
def SignaturePartsUptoCardSaid : Prop := Claim7.holds Tryz.pinned (.plain (OpenSpec.upto signaturePartsSpec)) signaturePartsUptoCard

/-- THE SECOND FORM's CARD OF 'calquelaw28.SignatureValues'. -/
def signatureValuesUptoCard : Claim7 := { stood := { row := signatureValuesUptoRow, standIns := [], harness := (true, "4e81300487dafc02708c3f2681346c23fff23b608ddd5a1dc5cb355db762c851"), looks := false }, kinds := [], alts := [], laidByText := true, laidKinds := [.data, .pinned], laidTests := true, laidLooks := .later }
def SignatureValuesUptoCardSaid : Prop := Claim7.holds Tryz.pinned (.plain (OpenSpec.upto signatureValuesSpec)) signatureValuesUptoCard

/-- THE SECOND FORM's CARD OF 'calquelaw28.SignatureChecks'. -/
def signatureChecksUptoCard : Claim7 := { stood := { row := signatureChecksUptoRow, standIns := [], harness := (true, "4e81300487dafc02708c3f2681346c23fff23b608ddd5a1dc5cb355db762c851"), looks := false }, kinds := [], alts := [], laidByText := true, laidKinds := [.data, .pinned], laidTests := true, laidLooks := .later }
def SignatureChecksUptoCardSaid : Prop := Claim7.holds Tryz.pinned (.plain (OpenSpec.upto signatureChecksSpec)) signatureChecksUptoCard

/-- THE SECOND FORM's CARD OF 'calquelaw28.SignatureLists'. -/
def signatureListsUptoCard : Claim7 := { stood := { row := signatureListsUptoRow, standIns := [], harness := (true, "4e81300487dafc02708c3f2681346c23fff23b608ddd5a1dc5cb355db762c851"), looks := false }, kinds := [], alts := [], laidByText := true, laidKinds := [.data, .pinned], laidTests := true, laidLooks := .later }
def SignatureListsUptoCardSaid : Prop := Claim7.holds Tryz.pinned (.plain (OpenSpec.upto signatureListsSpec)) signatureListsUptoCard
end Rows
end Go.Proofs.YtblkpgglkhmggaaGreatDoor
