/-
  DERIVED. GIVEN WITH THE SEED: THE CARDS: each row of YtehcldnicefmeaaGreatDoorRows.lean that lists a variable, with what it lists TIED to the program's text (the seventh form; the later family's looks); each row that meets fmt, with fmt's text TOLD by the authors' own Lean function (tested against real Go, not proved from fmt's source: count such statements apart). THE CARD IS WHAT COUNTS. Prove the row's statement (the work); the ties are given (YtehcldnicefmeaaGreatDoorTie.lean); close each card by the builder's one call (the guide's Derived/Test/ToyasCard.lean, 'card_holds'). Laid BY PROGRAM, IN A SANDBOX (cutbox-door.mjs). By AI agents, Wed Nov 11 2026. No macro, syntax, notation, axiom, sorry.
-/
import Derived.Test.YtehcldnicefmeaaGreatDoorRows
import GoSem.ClaimSeven
namespace Go.Proofs.YtehcldnicefmeaaGreatDoor
namespace Rows

/-- THE TIED CARD OF 'calquelaw22.ChainOf'. -/
def chainOfCard : Claim7 := { stood := { row := chainOfRow, standIns := [], harness := (true, "e72094b6db5ee2f32ffe4ec2cd8b13129e571c569e765fbe450c0b3c310799d4"), looks := false }, kinds := [], alts := [], laidByText := true, laidKinds := [.data, .pinned], laidTests := true, laidLooks := .later }
def ChainOfCardSaid : Prop := Claim7.holds Tryz.pinned (.plain (OpenSpec.ofChange chainOfSpec)) chainOfCard

/-- THE TIED CARD OF 'calquelaw22.ChainEnds'. -/
def chainEndsCard : Claim7 := { stood := { row := chainEndsRow, standIns := [], harness := (true, "e72094b6db5ee2f32ffe4ec2cd8b13129e571c569e765fbe450c0b3c310799d4"), looks := false }, kinds := [], alts := [], laidByText := true, laidKinds := [.data, .pinned], laidTests := true, laidLooks := .later }
def ChainEndsCardSaid : Prop := Claim7.holds Tryz.pinned (.plain (OpenSpec.ofChange chainEndsSpec)) chainEndsCard

/-- THE TIED CARD OF 'calquelaw22.ChainFind'. -/
def chainFindCard : Claim7 := { stood := { row := chainFindRow, standIns := [], harness := (true, "e72094b6db5ee2f32ffe4ec2cd8b13129e571c569e765fbe450c0b3c310799d4"), looks := false }, kinds := [], alts := [], laidByText := true, laidKinds := [.data, .pinned], laidTests := true, laidLooks := .later }
def ChainFindCardSaid : Prop := Claim7.holds Tryz.pinned (.plain (OpenSpec.ofChange chainFindSpec)) chainFindCard

/-- THE TIED CARD OF 'calquelaw22.ChainFirst'. -/
def chainFirstCard : Claim7 := { stood := { row := chainFirstRow, standIns := [], harness := (true, "e72094b6db5ee2f32ffe4ec2cd8b13129e571c569e765fbe450c0b3c310799d4"), looks := false }, kinds := [], alts := [], laidByText := true, laidKinds := [.data, .pinned], laidTests := true, laidLooks := .later }
def ChainFirstCardSaid : Prop := Claim7.holds Tryz.pinned (.plain (OpenSpec.ofChange chainFirstSpec)) chainFirstCard

/-- THE TIED CARD OF 'calquelaw22.ChainEffective'. -/
def chainEffectiveCard : Claim7 := { stood := { row := chainEffectiveRow, standIns := [], harness := (true, "e72094b6db5ee2f32ffe4ec2cd8b13129e571c569e765fbe450c0b3c310799d4"), looks := false }, kinds := [], alts := [], laidByText := true, laidKinds := [.data, .pinned], laidTests := true, laidLooks := .later }
def ChainEffectiveCardSaid : Prop := Claim7.holds Tryz.pinned (.plain (OpenSpec.ofChange chainEffectiveSpec)) chainEffectiveCard

/-- THE TIED CARD OF 'calquelaw22.ChainInherits'. -/
def chainInheritsCard : Claim7 := { stood := { row := chainInheritsRow, standIns := [], harness := (true, "e72094b6db5ee2f32ffe4ec2cd8b13129e571c569e765fbe450c0b3c310799d4"), looks := false }, kinds := [], alts := [], laidByText := true, laidKinds := [.data, .pinned], laidTests := true, laidLooks := .later }
def ChainInheritsCardSaid : Prop := Claim7.holds Tryz.pinned (.plain (OpenSpec.ofChange chainInheritsSpec)) chainInheritsCard

/-- THE TIED CARD OF 'calquelaw22.ChainNegotiate'. -/
def chainNegotiateCard : Claim7 := { stood := { row := chainNegotiateRow, standIns := [], harness := (true, "e72094b6db5ee2f32ffe4ec2cd8b13129e571c569e765fbe450c0b3c310799d4"), looks := false }, kinds := [], alts := [], laidByText := true, laidKinds := [.data, .pinned], laidTests := true, laidLooks := .later }
def ChainNegotiateCardSaid : Prop := Claim7.holds Tryz.pinned (.plain (OpenSpec.ofChange chainNegotiateSpec)) chainNegotiateCard

/-- THE TIED CARD OF 'calquelaw22.ChainOrder'. -/
def chainOrderCard : Claim7 := { stood := { row := chainOrderRow, standIns := [], harness := (true, "e72094b6db5ee2f32ffe4ec2cd8b13129e571c569e765fbe450c0b3c310799d4"), looks := false }, kinds := [], alts := [], laidByText := true, laidKinds := [.data, .pinned], laidTests := true, laidLooks := .later }
def ChainOrderCardSaid : Prop := Claim7.holds Tryz.pinned (.plain (OpenSpec.ofChange chainOrderSpec)) chainOrderCard

/-- THE SECOND FORM's CARD OF 'calquelaw22.ChainOf'. -/
def chainOfUptoCard : Claim7 := { stood := { row := chainOfUptoRow, standIns := [], harness := (true, "e72094b6db5ee2f32ffe4ec2cd8b13129e571c569e765fbe450c0b3c310799d4"), looks := false }, kinds := [], alts := [], laidByText := true, laidKinds := [.data, .pinned], laidTests := true, laidLooks := .later }
def ChainOfUptoCardSaid : Prop := Claim7.holds Tryz.pinned (.plain (OpenSpec.upto chainOfSpec)) chainOfUptoCard

/-- THE SECOND FORM's CARD OF 'calquelaw22.ChainEnds'. -/
def chainEndsUptoCard : Claim7 := { stood := { row := chainEndsUptoRow, standIns := [], harness := (true, "e72094b6db5ee2f32ffe4ec2cd8b13129e571c569e765fbe450c0b3c310799d4"), looks := false }, kinds := [], alts := [], laidByText := true, laidKinds := [.data, .pinned], laidTests := true, laidLooks := .later }
def ChainEndsUptoCardSaid : Prop := Claim7.holds Tryz.pinned (.plain (OpenSpec.upto chainEndsSpec)) chainEndsUptoCard

/-- THE SECOND FORM's CARD OF 'calquelaw22.ChainFind'. -/
def chainFindUptoCard : Claim7 := { stood := { row := chainFindUptoRow, standIns := [], harness := (true, "e72094b6db5ee2f32ffe4ec2cd8b13129e571c569e765fbe450c0b3c310799d4"), looks := false }, kinds := [], alts := [], laidByText := true, laidKinds := [.data, .pinned], laidTests := true, laidLooks := .later }
def ChainFindUptoCardSaid : Prop := Claim7.holds Tryz.pinned (.plain (OpenSpec.upto chainFindSpec)) chainFindUptoCard

/-- THE SECOND FORM's CARD OF 'calquelaw22.ChainFirst'. -/
def chainFirstUptoCard : Claim7 := { stood := { row := chainFirstUptoRow, standIns := [], harness := (true, "e72094b6db5ee2f32ffe4ec2cd8b13129e571c569e765fbe450c0b3c310799d4"), looks := false }, kinds := [], alts := [], laidByText := true, laidKinds := [.data, .pinned], laidTests := true, laidLooks := .later }
def ChainFirstUptoCardSaid : Prop := Claim7.holds Tryz.pinned (.plain (OpenSpec.upto chainFirstSpec)) chainFirstUptoCard

/-- THE SECOND FORM's CARD OF 'calquelaw22.ChainEffective'. -/
def chainEffectiveUptoCard : Claim7 := { stood := { row := chainEffectiveUptoRow, standIns := [], harness := (true, "e72094b6db5ee2f32ffe4ec2cd8b13129e571c569e765fbe450c0b3c310799d4"), looks := false }, kinds := [], alts := [], laidByText := true, laidKinds := [.data, .pinned], laidTests := true, laidLooks := .later }
def ChainEffectiveUptoCardSaid : Prop := Claim7.holds Tryz.pinned (.plain (OpenSpec.upto chainEffectiveSpec)) chainEffectiveUptoCard

/-- THE SECOND FORM's CARD OF 'calquelaw22.ChainInherits'. -/
def chainInheritsUptoCard : Claim7 := { stood := { row := chainInheritsUptoRow, standIns := [], harness := (true, "e72094b6db5ee2f32ffe4ec2cd8b13129e571c569e765fbe450c0b3c310799d4"), looks := false }, kinds := [], alts := [], laidByText := true, laidKinds := [.data, .pinned], laidTests := true, laidLooks := .later }
def ChainInheritsUptoCardSaid : Prop := Claim7.holds Tryz.pinned (.plain (OpenSpec.upto chainInheritsSpec)) chainInheritsUptoCard

/-- THE SECOND FORM's CARD OF 'calquelaw22.ChainNegotiate'. -/
def chainNegotiateUptoCard : Claim7 := { stood := { row := chainNegotiateUptoRow, standIns := [], harness := (true, "e72094b6db5ee2f32ffe4ec2cd8b13129e571c569e765fbe450c0b3c310799d4"), looks := false }, kinds := [], alts := [], laidByText := true, laidKinds := [.data, .pinned], laidTests := true, laidLooks := .later }
def ChainNegotiateUptoCardSaid : Prop := Claim7.holds Tryz.pinned (.plain (OpenSpec.upto chainNegotiateSpec)) chainNegotiateUptoCard

/-- THE SECOND FORM's CARD OF 'calquelaw22.ChainOrder'. -/
def chainOrderUptoCard : Claim7 := { stood := { row := chainOrderUptoRow, standIns := [], harness := (true, "e72094b6db5ee2f32ffe4ec2cd8b13129e571c569e765fbe450c0b3c310799d4"), looks := false }, kinds := [], alts := [], laidByText := true, laidKinds := [.data, .pinned], laidTests := true, laidLooks := .later }
def ChainOrderUptoCardSaid : Prop := Claim7.holds Tryz.pinned (.plain (OpenSpec.upto chainOrderSpec)) chainOrderUptoCard
end Rows
end Go.Proofs.YtehcldnicefmeaaGreatDoor
