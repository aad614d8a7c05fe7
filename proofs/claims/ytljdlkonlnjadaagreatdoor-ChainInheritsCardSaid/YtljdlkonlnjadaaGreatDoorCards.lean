/-
  DERIVED. GIVEN WITH THE SEED: THE CARDS: each row of YtljdlkonlnjadaaGreatDoorRows.lean that lists a variable, with what it lists TIED to the program's text (the seventh form; the later family's looks); each row that meets fmt, with fmt's text TOLD by the authors' own Lean function (tested against real Go, not proved from fmt's source: count such statements apart). THE CARD IS WHAT COUNTS. Prove the row's statement (the work); the ties are given (YtljdlkonlnjadaaGreatDoorTie.lean); close each card by the builder's one call (the guide's Derived/Test/ToyasCard.lean, 'card_holds'). Laid BY PROGRAM, IN A SANDBOX (cutbox-door.mjs). By AI agents, Wed Nov 11 2026. No macro, syntax, notation, axiom, sorry.
-/
import Derived.Test.YtljdlkonlnjadaaGreatDoorRows
import GoSem.ClaimSeven
namespace Go.Proofs.YtljdlkonlnjadaaGreatDoor
namespace Rows

/-- THE TIED CARD OF 'calquelaw22.ChainEffective'. -/
def chainEffectiveCard : Claim7 := { stood := { row := chainEffectiveRow, standIns := [], harness := (true, "ff9a21b25c5f6f4f9eda00d832801823bd8123d6e4a8a45340dd6b6deb113403"), looks := false }, kinds := [], alts := [], laidByText := true, laidKinds := [.data, .pinned], laidTests := true, laidLooks := .later }
def ChainEffectiveCardSaid : Prop := Claim7.holds Tryz.pinned (.plain (OpenSpec.ofChange chainEffectiveSpec)) chainEffectiveCard

/-- THE TIED CARD OF 'calquelaw22.ChainInherits'. -/
def chainInheritsCard : Claim7 := { stood := { row := chainInheritsRow, standIns := [], harness := (true, "ff9a21b25c5f6f4f9eda00d832801823bd8123d6e4a8a45340dd6b6deb113403"), looks := false }, kinds := [], alts := [], laidByText := true, laidKinds := [.data, .pinned], laidTests := true, laidLooks := .later }
def ChainInheritsCardSaid : Prop := Claim7.holds Tryz.pinned (.plain (OpenSpec.ofChange chainInheritsSpec)) chainInheritsCard

/-- THE TIED CARD OF 'calquelaw22.ChainOrder'. -/
def chainOrderCard : Claim7 := { stood := { row := chainOrderRow, standIns := [], harness := (true, "ff9a21b25c5f6f4f9eda00d832801823bd8123d6e4a8a45340dd6b6deb113403"), looks := false }, kinds := [], alts := [], laidByText := true, laidKinds := [.data, .pinned], laidTests := true, laidLooks := .later }
def ChainOrderCardSaid : Prop := Claim7.holds Tryz.pinned (.plain (OpenSpec.ofChange chainOrderSpec)) chainOrderCard

/-- THE SECOND FORM's CARD OF 'calquelaw22.ChainEffective'. -/
def chainEffectiveUptoCard : Claim7 := { stood := { row := chainEffectiveUptoRow, standIns := [], harness := (true, "ff9a21b25c5f6f4f9eda00d832801823bd8123d6e4a8a45340dd6b6deb113403"), looks := false }, kinds := [], alts := [], laidByText := true, laidKinds := [.data, .pinned], laidTests := true, laidLooks := .later }
def ChainEffectiveUptoCardSaid : Prop := Claim7.holds Tryz.pinned (.plain (OpenSpec.upto chainEffectiveSpec)) chainEffectiveUptoCard

/-- THE SECOND FORM's CARD OF 'calquelaw22.ChainInherits'. -/
def chainInheritsUptoCard : Claim7 := { stood := { row := chainInheritsUptoRow, standIns := [], harness := (true, "ff9a21b25c5f6f4f9eda00d832801823bd8123d6e4a8a45340dd6b6deb113403"), looks := false }, kinds := [], alts := [], laidByText := true, laidKinds := [.data, .pinned], laidTests := true, laidLooks := .later }
def ChainInheritsUptoCardSaid : Prop := Claim7.holds Tryz.pinned (.plain (OpenSpec.upto chainInheritsSpec)) chainInheritsUptoCard

/-- THE SECOND FORM's CARD OF 'calquelaw22.ChainOrder'. -/
def chainOrderUptoCard : Claim7 := { stood := { row := chainOrderUptoRow, standIns := [], harness := (true, "ff9a21b25c5f6f4f9eda00d832801823bd8123d6e4a8a45340dd6b6deb113403"), looks := false }, kinds := [], alts := [], laidByText := true, laidKinds := [.data, .pinned], laidTests := true, laidLooks := .later }
def ChainOrderUptoCardSaid : Prop := Claim7.holds Tryz.pinned (.plain (OpenSpec.upto chainOrderSpec)) chainOrderUptoCard
end Rows
end Go.Proofs.YtljdlkonlnjadaaGreatDoor
