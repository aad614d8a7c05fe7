/-
  DERIVED. GIVEN WITH THE SEED: THE CARDS: each row of YtkflpenpjnnhdaaGreatDoorRows.lean that lists a variable, with what it lists TIED to the program's text (the seventh form; the later family's looks); each row that meets fmt, with fmt's text TOLD by the authors' own Lean function (tested against real Go, not proved from fmt's source: count such statements apart). THE CARD IS WHAT COUNTS. Prove the row's statement (the work); the ties are given (YtkflpenpjnnhdaaGreatDoorTie.lean); close each card by the builder's one call (the guide's Derived/Test/ToyasCard.lean, 'card_holds'). Laid BY PROGRAM, IN A SANDBOX (cutbox-door.mjs). By AI agents, Wed Nov 11 2026. No macro, syntax, notation, axiom, sorry.
-/
import Derived.Test.YtkflpenpjnnhdaaGreatDoorRows
import GoSem.ClaimSeven
namespace Go.Proofs.YtkflpenpjnnhdaaGreatDoor
namespace Rows

/-- THE TIED CARD OF 'calquelaw21.MatchBest'. -/
def matchBestCard : Claim7 := { stood := { row := matchBestRow, standIns := [], harness := (true, "4cde27c78bbc81950535fd720fe09d69469a41aa016a45fd5cda06c4d16a1c23"), looks := false }, kinds := [], alts := [], laidByText := true, laidKinds := [.data, .pinned], laidTests := true, laidLooks := .later }
def MatchBestCardSaid : Prop := Claim7.holds Tryz.pinned (.plain (OpenSpec.ofChange matchBestSpec)) matchBestCard

/-- THE TIED CARD OF 'calquelaw21.MatchPermuted'. -/
def matchPermutedCard : Claim7 := { stood := { row := matchPermutedRow, standIns := [], harness := (true, "4cde27c78bbc81950535fd720fe09d69469a41aa016a45fd5cda06c4d16a1c23"), looks := false }, kinds := [], alts := [], laidByText := true, laidKinds := [.data, .pinned], laidTests := true, laidLooks := .later }
def MatchPermutedCardSaid : Prop := Claim7.holds Tryz.pinned (.plain (OpenSpec.ofChange matchPermutedSpec)) matchPermutedCard

/-- THE TIED CARD OF 'calquelaw21.MatchDistance'. -/
def matchDistanceCard : Claim7 := { stood := { row := matchDistanceRow, standIns := [], harness := (true, "4cde27c78bbc81950535fd720fe09d69469a41aa016a45fd5cda06c4d16a1c23"), looks := false }, kinds := [], alts := [], laidByText := true, laidKinds := [.data, .pinned], laidTests := true, laidLooks := .later }
def MatchDistanceCardSaid : Prop := Claim7.holds Tryz.pinned (.plain (OpenSpec.ofChange matchDistanceSpec)) matchDistanceCard

/-- THE TIED CARD OF 'calquelaw21.MatchOrder'. -/
def matchOrderCard : Claim7 := { stood := { row := matchOrderRow, standIns := [], harness := (true, "4cde27c78bbc81950535fd720fe09d69469a41aa016a45fd5cda06c4d16a1c23"), looks := false }, kinds := [], alts := [], laidByText := true, laidKinds := [.data, .pinned], laidTests := true, laidLooks := .later }
def MatchOrderCardSaid : Prop := Claim7.holds Tryz.pinned (.plain (OpenSpec.ofChange matchOrderSpec)) matchOrderCard

/-- THE TIED CARD OF 'calquelaw21.MatchExact'. -/
def matchExactCard : Claim7 := { stood := { row := matchExactRow, standIns := [], harness := (true, "4cde27c78bbc81950535fd720fe09d69469a41aa016a45fd5cda06c4d16a1c23"), looks := false }, kinds := [], alts := [], laidByText := true, laidKinds := [.data, .pinned], laidTests := true, laidLooks := .later }
def MatchExactCardSaid : Prop := Claim7.holds Tryz.pinned (.plain (OpenSpec.ofChange matchExactSpec)) matchExactCard

/-- THE TIED CARD OF 'calquelaw21.MatchPrefers'. -/
def matchPrefersCard : Claim7 := { stood := { row := matchPrefersRow, standIns := [], harness := (true, "4cde27c78bbc81950535fd720fe09d69469a41aa016a45fd5cda06c4d16a1c23"), looks := false }, kinds := [], alts := [], laidByText := true, laidKinds := [.data, .pinned], laidTests := true, laidLooks := .later }
def MatchPrefersCardSaid : Prop := Claim7.holds Tryz.pinned (.plain (OpenSpec.ofChange matchPrefersSpec)) matchPrefersCard

/-- THE SECOND FORM's CARD OF 'calquelaw21.MatchBest'. -/
def matchBestUptoCard : Claim7 := { stood := { row := matchBestUptoRow, standIns := [], harness := (true, "4cde27c78bbc81950535fd720fe09d69469a41aa016a45fd5cda06c4d16a1c23"), looks := false }, kinds := [], alts := [], laidByText := true, laidKinds := [.data, .pinned], laidTests := true, laidLooks := .later }
def MatchBestUptoCardSaid : Prop := Claim7.holds Tryz.pinned (.plain (OpenSpec.upto matchBestSpec)) matchBestUptoCard

/-- THE SECOND FORM's CARD OF 'calquelaw21.MatchPermuted'. -/
def matchPermutedUptoCard : Claim7 := { stood := { row := matchPermutedUptoRow, standIns := [], harness := (true, "4cde27c78bbc81950535fd720fe09d69469a41aa016a45fd5cda06c4d16a1c23"), looks := false }, kinds := [], alts := [], laidByText := true, laidKinds := [.data, .pinned], laidTests := true, laidLooks := .later }
def MatchPermutedUptoCardSaid : Prop := Claim7.holds Tryz.pinned (.plain (OpenSpec.upto matchPermutedSpec)) matchPermutedUptoCard

/-- THE SECOND FORM's CARD OF 'calquelaw21.MatchDistance'. -/
def matchDistanceUptoCard : Claim7 := { stood := { row := matchDistanceUptoRow, standIns := [], harness := (true, "4cde27c78bbc81950535fd720fe09d69469a41aa016a45fd5cda06c4d16a1c23"), looks := false }, kinds := [], alts := [], laidByText := true, laidKinds := [.data, .pinned], laidTests := true, laidLooks := .later }
def MatchDistanceUptoCardSaid : Prop := Claim7.holds Tryz.pinned (.plain (OpenSpec.upto matchDistanceSpec)) matchDistanceUptoCard

/-- THE SECOND FORM's CARD OF 'calquelaw21.MatchOrder'. -/
def matchOrderUptoCard : Claim7 := { stood := { row := matchOrderUptoRow, standIns := [], harness := (true, "4cde27c78bbc81950535fd720fe09d69469a41aa016a45fd5cda06c4d16a1c23"), looks := false }, kinds := [], alts := [], laidByText := true, laidKinds := [.data, .pinned], laidTests := true, laidLooks := .later }
def MatchOrderUptoCardSaid : Prop := Claim7.holds Tryz.pinned (.plain (OpenSpec.upto matchOrderSpec)) matchOrderUptoCard

/-- THE SECOND FORM's CARD OF 'calquelaw21.MatchExact'. -/
def matchExactUptoCard : Claim7 := { stood := { row := matchExactUptoRow, standIns := [], harness := (true, "4cde27c78bbc81950535fd720fe09d69469a41aa016a45fd5cda06c4d16a1c23"), looks := false }, kinds := [], alts := [], laidByText := true, laidKinds := [.data, .pinned], laidTests := true, laidLooks := .later }
def MatchExactUptoCardSaid : Prop := Claim7.holds Tryz.pinned (.plain (OpenSpec.upto matchExactSpec)) matchExactUptoCard

/-- THE SECOND FORM's CARD OF 'calquelaw21.MatchPrefers'. -/
def matchPrefersUptoCard : Claim7 := { stood := { row := matchPrefersUptoRow, standIns := [], harness := (true, "4cde27c78bbc81950535fd720fe09d69469a41aa016a45fd5cda06c4d16a1c23"), looks := false }, kinds := [], alts := [], laidByText := true, laidKinds := [.data, .pinned], laidTests := true, laidLooks := .later }
def MatchPrefersUptoCardSaid : Prop := Claim7.holds Tryz.pinned (.plain (OpenSpec.upto matchPrefersSpec)) matchPrefersUptoCard
end Rows
end Go.Proofs.YtkflpenpjnnhdaaGreatDoor
