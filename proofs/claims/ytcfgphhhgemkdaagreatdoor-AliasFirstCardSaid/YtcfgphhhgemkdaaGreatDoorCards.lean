/-
  DERIVED. GIVEN WITH THE SEED: THE CARDS: each row of YtcfgphhhgemkdaaGreatDoorRows.lean that lists a variable, with what it lists TIED to the program's text (the seventh form; the later family's looks); each row that meets fmt, with fmt's text TOLD by the authors' own Lean function (tested against real Go, not proved from fmt's source: count such statements apart). THE CARD IS WHAT COUNTS. Prove the row's statement (the work); the ties are given (YtcfgphhhgemkdaaGreatDoorTie.lean); close each card by the builder's one call (the guide's Derived/Test/ToyasCard.lean, 'card_holds'). Laid BY PROGRAM, IN A SANDBOX (cutbox-door.mjs). By AI agents, Wed Nov 11 2026. No macro, syntax, notation, axiom, sorry.
-/
import Derived.Test.YtcfgphhhgemkdaaGreatDoorRows
import GoSem.ClaimSeven
namespace Go.Proofs.YtcfgphhhgemkdaaGreatDoor
namespace Rows

/-- THE TIED CARD OF 'calquelaw20.AliasValid'. -/
def aliasValidCard : Claim7 := { stood := { row := aliasValidRow, standIns := [], harness := (true, "10b73e96291ef8f659d5be2d34b9c139528e584818198712dae8f18561ae9280"), looks := false }, kinds := [], alts := [], laidByText := true, laidKinds := [.data, .pinned], laidTests := true, laidLooks := .later }
def AliasValidCardSaid : Prop := Claim7.holds Tryz.pinned (.plain (OpenSpec.ofChange aliasValidSpec)) aliasValidCard

/-- THE TIED CARD OF 'calquelaw20.AliasSteps'. -/
def aliasStepsCard : Claim7 := { stood := { row := aliasStepsRow, standIns := [], harness := (true, "10b73e96291ef8f659d5be2d34b9c139528e584818198712dae8f18561ae9280"), looks := false }, kinds := [], alts := [], laidByText := true, laidKinds := [.data, .pinned], laidTests := true, laidLooks := .later }
def AliasStepsCardSaid : Prop := Claim7.holds Tryz.pinned (.plain (OpenSpec.ofChange aliasStepsSpec)) aliasStepsCard

/-- THE TIED CARD OF 'calquelaw20.AliasReplace'. -/
def aliasReplaceCard : Claim7 := { stood := { row := aliasReplaceRow, standIns := [], harness := (true, "10b73e96291ef8f659d5be2d34b9c139528e584818198712dae8f18561ae9280"), looks := false }, kinds := [], alts := [], laidByText := true, laidKinds := [.data, .pinned], laidTests := true, laidLooks := .later }
def AliasReplaceCardSaid : Prop := Claim7.holds Tryz.pinned (.plain (OpenSpec.ofChange aliasReplaceSpec)) aliasReplaceCard

/-- THE TIED CARD OF 'calquelaw20.AliasFirst'. -/
def aliasFirstCard : Claim7 := { stood := { row := aliasFirstRow, standIns := [], harness := (true, "10b73e96291ef8f659d5be2d34b9c139528e584818198712dae8f18561ae9280"), looks := false }, kinds := [], alts := [], laidByText := true, laidKinds := [.data, .pinned], laidTests := true, laidLooks := .later }
def AliasFirstCardSaid : Prop := Claim7.holds Tryz.pinned (.plain (OpenSpec.ofChange aliasFirstSpec)) aliasFirstCard

/-- THE SECOND FORM's CARD OF 'calquelaw20.AliasValid'. -/
def aliasValidUptoCard : Claim7 := { stood := { row := aliasValidUptoRow, standIns := [], harness := (true, "10b73e96291ef8f659d5be2d34b9c139528e584818198712dae8f18561ae9280"), looks := false }, kinds := [], alts := [], laidByText := true, laidKinds := [.data, .pinned], laidTests := true, laidLooks := .later }
def AliasValidUptoCardSaid : Prop := Claim7.holds Tryz.pinned (.plain (OpenSpec.upto aliasValidSpec)) aliasValidUptoCard

/-- THE SECOND FORM's CARD OF 'calquelaw20.AliasSteps'. -/
def aliasStepsUptoCard : Claim7 := { stood := { row := aliasStepsUptoRow, standIns := [], harness := (true, "10b73e96291ef8f659d5be2d34b9c139528e584818198712dae8f18561ae9280"), looks := false }, kinds := [], alts := [], laidByText := true, laidKinds := [.data, .pinned], laidTests := true, laidLooks := .later }
def AliasStepsUptoCardSaid : Prop := Claim7.holds Tryz.pinned (.plain (OpenSpec.upto aliasStepsSpec)) aliasStepsUptoCard

/-- THE SECOND FORM's CARD OF 'calquelaw20.AliasReplace'. -/
def aliasReplaceUptoCard : Claim7 := { stood := { row := aliasReplaceUptoRow, standIns := [], harness := (true, "10b73e96291ef8f659d5be2d34b9c139528e584818198712dae8f18561ae9280"), looks := false }, kinds := [], alts := [], laidByText := true, laidKinds := [.data, .pinned], laidTests := true, laidLooks := .later }
def AliasReplaceUptoCardSaid : Prop := Claim7.holds Tryz.pinned (.plain (OpenSpec.upto aliasReplaceSpec)) aliasReplaceUptoCard

/-- THE SECOND FORM's CARD OF 'calquelaw20.AliasFirst'. -/
def aliasFirstUptoCard : Claim7 := { stood := { row := aliasFirstUptoRow, standIns := [], harness := (true, "10b73e96291ef8f659d5be2d34b9c139528e584818198712dae8f18561ae9280"), looks := false }, kinds := [], alts := [], laidByText := true, laidKinds := [.data, .pinned], laidTests := true, laidLooks := .later }
def AliasFirstUptoCardSaid : Prop := Claim7.holds Tryz.pinned (.plain (OpenSpec.upto aliasFirstSpec)) aliasFirstUptoCard
end Rows
end Go.Proofs.YtcfgphhhgemkdaaGreatDoor
