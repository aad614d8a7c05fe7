/-
  DERIVED. GIVEN WITH THE SEED: THE CARDS: each row of YtklobkpepbokkaaDoorRows.lean that lists a variable, with what it lists TIED to the program's text (the seventh form; the later family's looks); each row that meets fmt, with fmt's text TOLD by the authors' own Lean function (tested against real Go, not proved from fmt's source: count such statements apart). THE CARD IS WHAT COUNTS. Prove the row's statement (the work); the ties are given (YtklobkpepbokkaaDoorTie.lean); close each card by the builder's one call (the guide's Derived/Test/ToyasCard.lean, 'card_holds'). Laid BY PROGRAM, IN A SANDBOX (cutbox-door.mjs). By AI agents, Wed Nov 11 2026. No macro, syntax, notation, axiom, sorry.
-/
import Derived.Test.YtklobkpepbokkaaDoorRows
import GoSem.ClaimSeven
namespace Go.Proofs.YtklobkpepbokkaaDoor
namespace Rows

/-- THE TIED CARD OF 'calquelaw26.SyntaxJoins'. -/
def syntaxJoinsCard : Claim7 := { stood := { row := syntaxJoinsRow, standIns := [], harness := (true, "5c09d7455424357e26bbab0268888b755bf6be0548f2fbaf3cf40c498b7146e1"), looks := false }, kinds := [], alts := [], laidByText := true, laidKinds := [.data, .pinned], laidTests := true, laidLooks := .later }
def SyntaxJoinsCardSaid : Prop := Claim7.holds Tryd.pinned (.plain (OpenSpec.ofChange syntaxJoinsSpec)) syntaxJoinsCard

/-- THE TIED CARD OF 'calquelaw26.SyntaxRejects'. -/
def syntaxRejectsCard : Claim7 := { stood := { row := syntaxRejectsRow, standIns := [], harness := (true, "5c09d7455424357e26bbab0268888b755bf6be0548f2fbaf3cf40c498b7146e1"), looks := false }, kinds := [], alts := [], laidByText := true, laidKinds := [.data, .pinned], laidTests := true, laidLooks := .later }
def SyntaxRejectsCardSaid : Prop := Claim7.holds Tryd.pinned (.plain (OpenSpec.ofChange syntaxRejectsSpec)) syntaxRejectsCard

/-- THE TIED CARD OF 'calquelaw26.SyntaxPositions'. -/
def syntaxPositionsCard : Claim7 := { stood := { row := syntaxPositionsRow, standIns := [], harness := (true, "5c09d7455424357e26bbab0268888b755bf6be0548f2fbaf3cf40c498b7146e1"), looks := false }, kinds := [], alts := [], laidByText := true, laidKinds := [.data, .pinned], laidTests := true, laidLooks := .later }
def SyntaxPositionsCardSaid : Prop := Claim7.holds Tryd.pinned (.plain (OpenSpec.ofChange syntaxPositionsSpec)) syntaxPositionsCard

/-- THE TIED CARD OF 'calquelaw26.SyntaxMessages'. -/
def syntaxMessagesCard : Claim7 := { stood := { row := syntaxMessagesRow, standIns := [], harness := (true, "5c09d7455424357e26bbab0268888b755bf6be0548f2fbaf3cf40c498b7146e1"), looks := false }, kinds := [], alts := [], laidByText := true, laidKinds := [.data, .pinned], laidTests := true, laidLooks := .later }
def SyntaxMessagesCardSaid : Prop := Claim7.holds Tryd.pinned (.plain (OpenSpec.ofChange syntaxMessagesSpec)) syntaxMessagesCard

/-- THE SECOND FORM's CARD OF 'calquelaw26.SyntaxJoins'. -/
def syntaxJoinsUptoCard : Claim7 := { stood := { row := syntaxJoinsUptoRow, standIns := [], harness := (true, "5c09d7455424357e26bbab0268888b755bf6be0548f2fbaf3cf40c498b7146e1"), looks := false }, kinds := [], alts := [], laidByText := true, laidKinds := [.data, .pinned], laidTests := true, laidLooks := .later }
def SyntaxJoinsUptoCardSaid : Prop := Claim7.holds Tryd.pinned (.plain (OpenSpec.upto syntaxJoinsSpec)) syntaxJoinsUptoCard

/-- THE SECOND FORM's CARD OF 'calquelaw26.SyntaxRejects'. -/
def syntaxRejectsUptoCard : Claim7 := { stood := { row := syntaxRejectsUptoRow, standIns := [], harness := (true, "5c09d7455424357e26bbab0268888b755bf6be0548f2fbaf3cf40c498b7146e1"), looks := false }, kinds := [], alts := [], laidByText := true, laidKinds := [.data, .pinned], laidTests := true, laidLooks := .later }
def SyntaxRejectsUptoCardSaid : Prop := Claim7.holds Tryd.pinned (.plain (OpenSpec.upto syntaxRejectsSpec)) syntaxRejectsUptoCard

/-- THE SECOND FORM's CARD OF 'calquelaw26.SyntaxPositions'. -/
def syntaxPositionsUptoCard : Claim7 := { stood := { row := syntaxPositionsUptoRow, standIns := [], harness := (true, "5c09d7455424357e26bbab0268888b755bf6be0548f2fbaf3cf40c498b7146e1"), looks := false }, kinds := [], alts := [], laidByText := true, laidKinds := [.data, .pinned], laidTests := true, laidLooks := .later }
def SyntaxPositionsUptoCardSaid : Prop := Claim7.holds Tryd.pinned (.plain (OpenSpec.upto syntaxPositionsSpec)) syntaxPositionsUptoCard

/-- THE SECOND FORM's CARD OF 'calquelaw26.SyntaxMessages'. -/
def syntaxMessagesUptoCard : Claim7 := { stood := { row := syntaxMessagesUptoRow, standIns := [], harness := (true, "5c09d7455424357e26bbab0268888b755bf6be0548f2fbaf3cf40c498b7146e1"), looks := false }, kinds := [], alts := [], laidByText := true, laidKinds := [.data, .pinned], laidTests := true, laidLooks := .later }
def SyntaxMessagesUptoCardSaid : Prop := Claim7.holds Tryd.pinned (.plain (OpenSpec.upto syntaxMessagesSpec)) syntaxMessagesUptoCard
end Rows
end Go.Proofs.YtklobkpepbokkaaDoor
