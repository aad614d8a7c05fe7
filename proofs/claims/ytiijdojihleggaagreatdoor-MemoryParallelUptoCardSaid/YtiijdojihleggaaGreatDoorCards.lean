/-
  DERIVED. GIVEN WITH THE SEED: THE CARDS: each row of YtiijdojihleggaaGreatDoorRows.lean that lists a variable, with what it lists TIED to the program's text (the seventh form; the later family's looks); each row that meets fmt, with fmt's text TOLD by the authors' own Lean function (tested against real Go, not proved from fmt's source: count such statements apart). THE CARD IS WHAT COUNTS. Prove the row's statement (the work); the ties are given (YtiijdojihleggaaGreatDoorTie.lean); close each card by the builder's one call (the guide's Derived/Test/ToyasCard.lean, 'card_holds'). Laid BY PROGRAM, IN A SANDBOX (cutbox-door.mjs). By AI agents, Wed Nov 11 2026. No macro, syntax, notation, axiom, sorry.
-/
import Derived.Test.YtiijdojihleggaaGreatDoorRows
import GoSem.ClaimSeven
namespace Go.Proofs.YtiijdojihleggaaGreatDoor
namespace Rows

/-- THE TIED CARD OF 'calquelaw46.MemorySegments'. -/
def memorySegmentsCard : Claim7 := { stood := { row := memorySegmentsRow, standIns := [], harness := (true, "6cd1fc572866a68afe91e9cbf86c288699b3e3622db47942b0d4106b6fac5181"), looks := false }, kinds := [], alts := [], laidByText := true, laidKinds := [.data, .pinned], laidTests := true, laidLooks := .later }
def MemorySegmentsCardSaid : Prop := Claim7.holds Tryz.pinned (.plain (OpenSpec.ofChange memorySegmentsSpec)) memorySegmentsCard

/-- THE TIED CARD OF 'calquelaw46.MemoryMatches'. -/
def memoryMatchesCard : Claim7 := { stood := { row := memoryMatchesRow, standIns := [], harness := (true, "6cd1fc572866a68afe91e9cbf86c288699b3e3622db47942b0d4106b6fac5181"), looks := false }, kinds := [], alts := [], laidByText := true, laidKinds := [.data, .pinned], laidTests := true, laidLooks := .later }
def MemoryMatchesCardSaid : Prop := Claim7.holds Tryz.pinned (.plain (OpenSpec.ofChange memoryMatchesSpec)) memoryMatchesCard

/-- THE TIED CARD OF 'calquelaw46.MemoryExact'. -/
def memoryExactCard : Claim7 := { stood := { row := memoryExactRow, standIns := [], harness := (true, "6cd1fc572866a68afe91e9cbf86c288699b3e3622db47942b0d4106b6fac5181"), looks := false }, kinds := [], alts := [], laidByText := true, laidKinds := [.data, .pinned], laidTests := true, laidLooks := .later }
def MemoryExactCardSaid : Prop := Claim7.holds Tryz.pinned (.plain (OpenSpec.ofChange memoryExactSpec)) memoryExactCard

/-- THE TIED CARD OF 'calquelaw46.MemoryParallel'. -/
def memoryParallelCard : Claim7 := { stood := { row := memoryParallelRow, standIns := [], harness := (true, "6cd1fc572866a68afe91e9cbf86c288699b3e3622db47942b0d4106b6fac5181"), looks := false }, kinds := [], alts := [], laidByText := true, laidKinds := [.data, .pinned], laidTests := true, laidLooks := .later }
def MemoryParallelCardSaid : Prop := Claim7.holds Tryz.pinned (.plain (OpenSpec.ofChange memoryParallelSpec)) memoryParallelCard

/-- THE TIED CARD OF 'calquelaw46.MemoryFits'. -/
def memoryFitsCard : Claim7 := { stood := { row := memoryFitsRow, standIns := [], harness := (true, "6cd1fc572866a68afe91e9cbf86c288699b3e3622db47942b0d4106b6fac5181"), looks := false }, kinds := [], alts := [], laidByText := true, laidKinds := [.data, .pinned], laidTests := true, laidLooks := .later }
def MemoryFitsCardSaid : Prop := Claim7.holds Tryz.pinned (.plain (OpenSpec.ofChange memoryFitsSpec)) memoryFitsCard

/-- THE TIED CARD OF 'calquelaw46.MemoryReturns'. -/
def memoryReturnsCard : Claim7 := { stood := { row := memoryReturnsRow, standIns := [], harness := (true, "6cd1fc572866a68afe91e9cbf86c288699b3e3622db47942b0d4106b6fac5181"), looks := false }, kinds := [], alts := [], laidByText := true, laidKinds := [.data, .pinned], laidTests := true, laidLooks := .later }
def MemoryReturnsCardSaid : Prop := Claim7.holds Tryz.pinned (.plain (OpenSpec.ofChange memoryReturnsSpec)) memoryReturnsCard

/-- THE TIED CARD OF 'calquelaw46.MemoryNil'. -/
def memoryNilCard : Claim7 := { stood := { row := memoryNilRow, standIns := [], harness := (true, "6cd1fc572866a68afe91e9cbf86c288699b3e3622db47942b0d4106b6fac5181"), looks := false }, kinds := [], alts := [], laidByText := true, laidKinds := [.data, .pinned], laidTests := true, laidLooks := .later }
def MemoryNilCardSaid : Prop := Claim7.holds Tryz.pinned (.plain (OpenSpec.ofChange memoryNilSpec)) memoryNilCard

/-- THE SECOND FORM's CARD OF 'calquelaw46.MemorySegments'. -/
def memorySegmentsUptoCard : Claim7 := { stood := { row := memorySegmentsUptoRow, standIns := [], harness := (true, "6cd1fc572866a68afe91e9cbf86c288699b3e3622db47942b0d4106b6fac5181"), looks := false }, kinds := [], alts := [], laidByText := true, laidKinds := [.data, .pinned], laidTests := true, laidLooks := .later }
def MemorySegmentsUptoCardSaid : Prop := Claim7.holds Tryz.pinned (.plain (OpenSpec.upto memorySegmentsSpec)) memorySegmentsUptoCard

/-- THE SECOND FORM's CARD OF 'calquelaw46.MemoryMatches'. -/
def memoryMatchesUptoCard : Claim7 := { stood := { row := memoryMatchesUptoRow, standIns := [], harness := (true, "6cd1fc572866a68afe91e9cbf86c288699b3e3622db47942b0d4106b6fac5181"), looks := false }, kinds := [], alts := [], laidByText := true, laidKinds := [.data, .pinned], laidTests := true, laidLooks := .later }
def MemoryMatchesUptoCardSaid : Prop := Claim7.holds Tryz.pinned (.plain (OpenSpec.upto memoryMatchesSpec)) memoryMatchesUptoCard

/-- THE SECOND FORM's CARD OF 'calquelaw46.MemoryExact'. -/
def memoryExactUptoCard : Claim7 := { stood := { row := memoryExactUptoRow, standIns := [], harness := (true, "6cd1fc572866a68afe91e9cbf86c288699b3e3622db47942b0d4106b6fac5181"), looks := false }, kinds := [], alts := [], laidByText := true, laidKinds := [.data, .pinned], laidTests := true, laidLooks := .later }
def MemoryExactUptoCardSaid : Prop := Claim7.holds Tryz.pinned (.plain (OpenSpec.upto memoryExactSpec)) memoryExactUptoCard

/-- THE SECOND FORM's CARD OF 'calquelaw46.MemoryParallel'. -/
def memoryParallelUptoCard : Claim7 := { stood := { row := memoryParallelUptoRow, standIns := [], harness := (true, "6cd1fc572866a68afe91e9cbf86c288699b3e3622db47942b0d4106b6fac5181"), looks := false }, kinds := [], alts := [], laidByText := true, laidKinds := [.data, .pinned], laidTests := true, laidLooks := .later }
def MemoryParallelUptoCardSaid : Prop := Claim7.holds Tryz.pinned (.plain (OpenSpec.upto memoryParallelSpec)) memoryParallelUptoCard

/-- THE SECOND FORM's CARD OF 'calquelaw46.MemoryFits'. -/
def memoryFitsUptoCard : Claim7 := { stood := { row := memoryFitsUptoRow, standIns := [], harness := (true, "6cd1fc572866a68afe91e9cbf86c288699b3e3622db47942b0d4106b6fac5181"), looks := false }, kinds := [], alts := [], laidByText := true, laidKinds := [.data, .pinned], laidTests := true, laidLooks := .later }
def MemoryFitsUptoCardSaid : Prop := Claim7.holds Tryz.pinned (.plain (OpenSpec.upto memoryFitsSpec)) memoryFitsUptoCard

/-- THE SECOND FORM's CARD OF 'calquelaw46.MemoryReturns'. -/
def memoryReturnsUptoCard : Claim7 := { stood := { row := memoryReturnsUptoRow, standIns := [], harness := (true, "6cd1fc572866a68afe91e9cbf86c288699b3e3622db47942b0d4106b6fac5181"), looks := false }, kinds := [], alts := [], laidByText := true, laidKinds := [.data, .pinned], laidTests := true, laidLooks := .later }
def MemoryReturnsUptoCardSaid : Prop := Claim7.holds Tryz.pinned (.plain (OpenSpec.upto memoryReturnsSpec)) memoryReturnsUptoCard

/-- THE SECOND FORM's CARD OF 'calquelaw46.MemoryNil'. -/
def memoryNilUptoCard : Claim7 := { stood := { row := memoryNilUptoRow, standIns := [], harness := (true, "6cd1fc572866a68afe91e9cbf86c288699b3e3622db47942b0d4106b6fac5181"), looks := false }, kinds := [], alts := [], laidByText := true, laidKinds := [.data, .pinned], laidTests := true, laidLooks := .later }
def MemoryNilUptoCardSaid : Prop := Claim7.holds Tryz.pinned (.plain (OpenSpec.upto memoryNilSpec)) memoryNilUptoCard
end Rows
end Go.Proofs.YtiijdojihleggaaGreatDoor
