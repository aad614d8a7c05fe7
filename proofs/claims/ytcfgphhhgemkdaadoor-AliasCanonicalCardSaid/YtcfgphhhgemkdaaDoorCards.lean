/-
  DERIVED. GIVEN WITH THE SEED: THE CARDS: each row of YtcfgphhhgemkdaaDoorRows.lean that lists a variable, with what it lists TIED to the program's text (the seventh form; the later family's looks); each row that meets fmt, with fmt's text TOLD by the authors' own Lean function (tested against real Go, not proved from fmt's source: count such statements apart). THE CARD IS WHAT COUNTS. Prove the row's statement (the work); the ties are given (YtcfgphhhgemkdaaDoorTie.lean); close each card by the builder's one call (the guide's Derived/Test/ToyasCard.lean, 'card_holds'). Laid BY PROGRAM, IN A SANDBOX (cutbox-door.mjs). By AI agents, Wed Nov 11 2026. No macro, syntax, notation, axiom, sorry.
-/
import Derived.Test.YtcfgphhhgemkdaaDoorRows
import GoSem.ClaimSeven
namespace Go.Proofs.YtcfgphhhgemkdaaDoor
namespace Rows

/-- THE TIED CARD OF 'calquelaw20.AliasSpelling'. -/
def aliasSpellingCard : Claim7 := { stood := { row := aliasSpellingRow, standIns := [], harness := (true, "aaaada9ec4f66e752c1a2a8f6725011ac329e25786803eb6a71bf99f0326b525"), looks := false }, kinds := [], alts := [], laidByText := true, laidKinds := [.data, .pinned], laidTests := true, laidLooks := .later }
def AliasSpellingCardSaid : Prop := Claim7.holds Tryd.pinned (.plain (OpenSpec.ofChange aliasSpellingSpec)) aliasSpellingCard

/-- THE TIED CARD OF 'calquelaw20.AliasCanonical'. -/
def aliasCanonicalCard : Claim7 := { stood := { row := aliasCanonicalRow, standIns := [], harness := (true, "aaaada9ec4f66e752c1a2a8f6725011ac329e25786803eb6a71bf99f0326b525"), looks := false }, kinds := [], alts := [], laidByText := true, laidKinds := [.data, .pinned], laidTests := true, laidLooks := .later }
def AliasCanonicalCardSaid : Prop := Claim7.holds Tryd.pinned (.plain (OpenSpec.ofChange aliasCanonicalSpec)) aliasCanonicalCard

/-- THE SECOND FORM's CARD OF 'calquelaw20.AliasSpelling'. -/
def aliasSpellingUptoCard : Claim7 := { stood := { row := aliasSpellingUptoRow, standIns := [], harness := (true, "aaaada9ec4f66e752c1a2a8f6725011ac329e25786803eb6a71bf99f0326b525"), looks := false }, kinds := [], alts := [], laidByText := true, laidKinds := [.data, .pinned], laidTests := true, laidLooks := .later }
def AliasSpellingUptoCardSaid : Prop := Claim7.holds Tryd.pinned (.plain (OpenSpec.upto aliasSpellingSpec)) aliasSpellingUptoCard

/-- THE SECOND FORM's CARD OF 'calquelaw20.AliasCanonical'. -/
def aliasCanonicalUptoCard : Claim7 := { stood := { row := aliasCanonicalUptoRow, standIns := [], harness := (true, "aaaada9ec4f66e752c1a2a8f6725011ac329e25786803eb6a71bf99f0326b525"), looks := false }, kinds := [], alts := [], laidByText := true, laidKinds := [.data, .pinned], laidTests := true, laidLooks := .later }
def AliasCanonicalUptoCardSaid : Prop := Claim7.holds Tryd.pinned (.plain (OpenSpec.upto aliasCanonicalSpec)) aliasCanonicalUptoCard
end Rows
end Go.Proofs.YtcfgphhhgemkdaaDoor
