/-
  DERIVED. GIVEN WITH THE SEED: THE CARDS: each row of YtfcnhodokbnjnaaDoorRows.lean that lists a variable, with what it lists TIED to the program's text (the seventh form; the later family's looks); each row that meets fmt, with fmt's text TOLD by the authors' own Lean function (tested against real Go, not proved from fmt's source: count such statements apart). THE CARD IS WHAT COUNTS. Prove the row's statement (the work); the ties are given (YtfcnhodokbnjnaaDoorTie.lean); close each card by the builder's one call (the guide's Derived/Test/ToyasCard.lean, 'card_holds'). Laid BY PROGRAM, IN A SANDBOX (cutbox-door.mjs). By AI agents, Wed Nov 11 2026. No macro, syntax, notation, axiom, sorry.
-/
import Derived.Test.YtfcnhodokbnjnaaDoorRows
import GoSem.ClaimSeven
namespace Go.Proofs.YtfcnhodokbnjnaaDoor
namespace Rows

/-- THE TIED CARD OF 'calquelaw19.TagParse'. -/
def tagParseCard : Claim7 := { stood := { row := tagParseRow, standIns := [], harness := (true, "b786d81b1336324e40da1fb35184ab8c8cde818ffbbb9534350c230048de5815"), looks := false }, kinds := [], alts := [], laidByText := true, laidKinds := [.data, .pinned], laidTests := true, laidLooks := .later }
def TagParseCardSaid : Prop := Claim7.holds Tryd.pinned (.plain (OpenSpec.ofChange tagParseSpec)) tagParseCard

/-- THE TIED CARD OF 'calquelaw19.TagSpelling'. -/
def tagSpellingCard : Claim7 := { stood := { row := tagSpellingRow, standIns := [], harness := (true, "b786d81b1336324e40da1fb35184ab8c8cde818ffbbb9534350c230048de5815"), looks := false }, kinds := [], alts := [], laidByText := true, laidKinds := [.data, .pinned], laidTests := true, laidLooks := .later }
def TagSpellingCardSaid : Prop := Claim7.holds Tryd.pinned (.plain (OpenSpec.ofChange tagSpellingSpec)) tagSpellingCard

/-- THE TIED CARD OF 'calquelaw19.TagVariants'. -/
def tagVariantsCard : Claim7 := { stood := { row := tagVariantsRow, standIns := [], harness := (true, "b786d81b1336324e40da1fb35184ab8c8cde818ffbbb9534350c230048de5815"), looks := false }, kinds := [], alts := [], laidByText := true, laidKinds := [.data, .pinned], laidTests := true, laidLooks := .later }
def TagVariantsCardSaid : Prop := Claim7.holds Tryd.pinned (.plain (OpenSpec.ofChange tagVariantsSpec)) tagVariantsCard

/-- THE TIED CARD OF 'calquelaw19.TagParent'. -/
def tagParentCard : Claim7 := { stood := { row := tagParentRow, standIns := [], harness := (true, "b786d81b1336324e40da1fb35184ab8c8cde818ffbbb9534350c230048de5815"), looks := false }, kinds := [], alts := [], laidByText := true, laidKinds := [.data, .pinned], laidTests := true, laidLooks := .later }
def TagParentCardSaid : Prop := Claim7.holds Tryd.pinned (.plain (OpenSpec.ofChange tagParentSpec)) tagParentCard

/-- THE TIED CARD OF 'calquelaw19.TagAncestors'. -/
def tagAncestorsCard : Claim7 := { stood := { row := tagAncestorsRow, standIns := [], harness := (true, "b786d81b1336324e40da1fb35184ab8c8cde818ffbbb9534350c230048de5815"), looks := false }, kinds := [], alts := [], laidByText := true, laidKinds := [.data, .pinned], laidTests := true, laidLooks := .later }
def TagAncestorsCardSaid : Prop := Claim7.holds Tryd.pinned (.plain (OpenSpec.ofChange tagAncestorsSpec)) tagAncestorsCard

/-- THE TIED CARD OF 'calquelaw19.TagCanonical'. -/
def tagCanonicalCard : Claim7 := { stood := { row := tagCanonicalRow, standIns := [], harness := (true, "b786d81b1336324e40da1fb35184ab8c8cde818ffbbb9534350c230048de5815"), looks := false }, kinds := [], alts := [], laidByText := true, laidKinds := [.data, .pinned], laidTests := true, laidLooks := .later }
def TagCanonicalCardSaid : Prop := Claim7.holds Tryd.pinned (.plain (OpenSpec.ofChange tagCanonicalSpec)) tagCanonicalCard

/-- THE TIED CARD OF 'calquelaw19.TagText'. -/
def tagTextCard : Claim7 := { stood := { row := tagTextRow, standIns := [], harness := (true, "b786d81b1336324e40da1fb35184ab8c8cde818ffbbb9534350c230048de5815"), looks := false }, kinds := [], alts := [], laidByText := true, laidKinds := [.data, .pinned], laidTests := true, laidLooks := .later }
def TagTextCardSaid : Prop := Claim7.holds Tryd.pinned (.plain (OpenSpec.ofChange tagTextSpec)) tagTextCard

/-- THE SECOND FORM's CARD OF 'calquelaw19.TagParse'. -/
def tagParseUptoCard : Claim7 := { stood := { row := tagParseUptoRow, standIns := [], harness := (true, "b786d81b1336324e40da1fb35184ab8c8cde818ffbbb9534350c230048de5815"), looks := false }, kinds := [], alts := [], laidByText := true, laidKinds := [.data, .pinned], laidTests := true, laidLooks := .later }
def TagParseUptoCardSaid : Prop := Claim7.holds Tryd.pinned (.plain (OpenSpec.upto tagParseSpec)) tagParseUptoCard

/-- THE SECOND FORM's CARD OF 'calquelaw19.TagSpelling'. -/
def tagSpellingUptoCard : Claim7 := { stood := { row := tagSpellingUptoRow, standIns := [], harness := (true, "b786d81b1336324e40da1fb35184ab8c8cde818ffbbb9534350c230048de5815"), looks := false }, kinds := [], alts := [], laidByText := true, laidKinds := [.data, .pinned], laidTests := true, laidLooks := .later }
def TagSpellingUptoCardSaid : Prop := Claim7.holds Tryd.pinned (.plain (OpenSpec.upto tagSpellingSpec)) tagSpellingUptoCard

/-- THE SECOND FORM's CARD OF 'calquelaw19.TagVariants'. -/
def tagVariantsUptoCard : Claim7 := { stood := { row := tagVariantsUptoRow, standIns := [], harness := (true, "b786d81b1336324e40da1fb35184ab8c8cde818ffbbb9534350c230048de5815"), looks := false }, kinds := [], alts := [], laidByText := true, laidKinds := [.data, .pinned], laidTests := true, laidLooks := .later }
def TagVariantsUptoCardSaid : Prop := Claim7.holds Tryd.pinned (.plain (OpenSpec.upto tagVariantsSpec)) tagVariantsUptoCard

/-- THE SECOND FORM's CARD OF 'calquelaw19.TagParent'. -/
def tagParentUptoCard : Claim7 := { stood := { row := tagParentUptoRow, standIns := [], harness := (true, "b786d81b1336324e40da1fb35184ab8c8cde818ffbbb9534350c230048de5815"), looks := false }, kinds := [], alts := [], laidByText := true, laidKinds := [.data, .pinned], laidTests := true, laidLooks := .later }
def TagParentUptoCardSaid : Prop := Claim7.holds Tryd.pinned (.plain (OpenSpec.upto tagParentSpec)) tagParentUptoCard

/-- THE SECOND FORM's CARD OF 'calquelaw19.TagAncestors'. -/
def tagAncestorsUptoCard : Claim7 := { stood := { row := tagAncestorsUptoRow, standIns := [], harness := (true, "b786d81b1336324e40da1fb35184ab8c8cde818ffbbb9534350c230048de5815"), looks := false }, kinds := [], alts := [], laidByText := true, laidKinds := [.data, .pinned], laidTests := true, laidLooks := .later }
def TagAncestorsUptoCardSaid : Prop := Claim7.holds Tryd.pinned (.plain (OpenSpec.upto tagAncestorsSpec)) tagAncestorsUptoCard

/-- THE SECOND FORM's CARD OF 'calquelaw19.TagCanonical'. -/
def tagCanonicalUptoCard : Claim7 := { stood := { row := tagCanonicalUptoRow, standIns := [], harness := (true, "b786d81b1336324e40da1fb35184ab8c8cde818ffbbb9534350c230048de5815"), looks := false }, kinds := [], alts := [], laidByText := true, laidKinds := [.data, .pinned], laidTests := true, laidLooks := .later }
def TagCanonicalUptoCardSaid : Prop := Claim7.holds Tryd.pinned (.plain (OpenSpec.upto tagCanonicalSpec)) tagCanonicalUptoCard

/-- THE SECOND FORM's CARD OF 'calquelaw19.TagText'. -/
def tagTextUptoCard : Claim7 := { stood := { row := tagTextUptoRow, standIns := [], harness := (true, "b786d81b1336324e40da1fb35184ab8c8cde818ffbbb9534350c230048de5815"), looks := false }, kinds := [], alts := [], laidByText := true, laidKinds := [.data, .pinned], laidTests := true, laidLooks := .later }
def TagTextUptoCardSaid : Prop := Claim7.holds Tryd.pinned (.plain (OpenSpec.upto tagTextSpec)) tagTextUptoCard
end Rows
end Go.Proofs.YtfcnhodokbnjnaaDoor
