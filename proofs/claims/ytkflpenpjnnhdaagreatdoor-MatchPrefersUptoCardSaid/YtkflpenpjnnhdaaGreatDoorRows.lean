/-
  NARROWER THAN 'FOR EVERY INPUT', by the rows' own cells (each row's printed sentence says how): MatchBest: laid · MatchPermuted: laid · MatchDistance: laid · MatchOrder: laid · MatchExact: laid · MatchPrefers: laid.
  DERIVED. THE GIVEN ROWS OF THIS SEAT. 6 by the template 'for every input the law returns true; each argument reads behind the call as it read before'; 0 by the template 'total and deterministic' (their statements: YtkflpenpjnnhdaaGreatDoorTotals.lean).
  GIVEN WITH THE SEED: the statements are not yours to turn. If you find one false, say at which input.
  Laid BY PROGRAM, IN A SANDBOX (cutbox-rows.mjs): the forced cells as the released guide's own fill.sh prints them over the translation 81d1190a2fb573eb… (all of the seat's roots in one cut). By AI agents, Wed Nov 11 2026. No macro, syntax, notation, axiom, sorry.
-/
import Derived.Test.YtkflpenpjnnhdaaGreatDoorChecked
import GoSem.PinnedTables
import GoSem.Claim
import GoSem.ClaimJoined
import GoSem.ClaimMapViews
import Derived.JoinedTies
import Derived.KernelRfl
namespace Go.Proofs.YtkflpenpjnnhdaaGreatDoor
/- THE CELL 'sum', in the pinned program and in every row, IS THE sha256 OF THE DUMP (.gsa) THAT YtkflpenpjnnhdaaGreatDoorProg.lean LOADS. Nothing in Lean hashes anything: it is a label: what it is worth is what the hold of that sum in a sandbox is worth. -/
noncomputable def Tryz.pinned : Pinned := { name := "ytkflpenpjnnhdaagreatdoor", sum := "81d1190a2fb573eb7ebb2791c38ebd27655f5a94cd5d6ed1affd8639f818429d", checked := Tryz.checked }
namespace Rows
def none {H : Type} : Left H := { results := [], args := [] }

/- WHAT THE LISTED PACKAGE-LEVEL VARIABLES READ AS WHEN THE CALL BEGINS. Each datum BY PROGRAM (the guide's laid-datum.mjs) off the statement by which the dump's own 'gosem.cut.vars' lays the variable. In a bare row this is a premise. The card (YtkflpenpjnnhdaaGreatDoorCards.lean) ties it to the program's text. -/
def laid_unicode_utf8_acceptRanges {H : Type} : DataW H := .agg [.agg [.lit (.int .u8 128), .lit (.int .u8 191)], .agg [.lit (.int .u8 160), .lit (.int .u8 191)], .agg [.lit (.int .u8 128), .lit (.int .u8 159)], .agg [.lit (.int .u8 144), .lit (.int .u8 191)], .agg [.lit (.int .u8 128), .lit (.int .u8 143)], .agg [.lit (.int .u8 0), .lit (.int .u8 0)], .agg [.lit (.int .u8 0), .lit (.int .u8 0)], .agg [.lit (.int .u8 0), .lit (.int .u8 0)], .agg [.lit (.int .u8 0), .lit (.int .u8 0)], .agg [.lit (.int .u8 0), .lit (.int .u8 0)], .agg [.lit (.int .u8 0), .lit (.int .u8 0)], .agg [.lit (.int .u8 0), .lit (.int .u8 0)], .agg [.lit (.int .u8 0), .lit (.int .u8 0)], .agg [.lit (.int .u8 0), .lit (.int .u8 0)], .agg [.lit (.int .u8 0), .lit (.int .u8 0)], .agg [.lit (.int .u8 0), .lit (.int .u8 0)]]
/-- One of Go's own tables, pinned by name: the form's constant. -/
def laid_unicode_utf8_first : DataW Unit := Go.Pinned.utf8First

/-- 'calquelaw21.MatchBest': WHATEVER THE INPUT: true; the input reads as it did. -/
def matchBestSpec : ChangeSpec := { name := "matchBest", fn := fun _ => fun
  | [d1, d2, d3] => { results := [.lit (.bool true)], args := [d1, d2, d3] }
  | _ => none }
def matchBestRow : OpenClaim := { program := "ytkflpenpjnnhdaagreatdoor", sum := "81d1190a2fb573eb7ebb2791c38ebd27655f5a94cd5d6ed1affd8639f818429d", func := "calque/calquelaw21.MatchBest", spec := "matchBest", inPlace := ["internal/bytealg.CountString", "internal/bytealg.IndexByteString", "internal/bytealg.IndexString", "internal/abi.NoEscape", "internal/bytealg.MakeNoZero"], unfollowed := true, recurses := true, named := ["internal/bytealg.MaxLen", "unicode/utf8.first", "unicode/utf8.acceptRanges"], plainKeys := false, apart := false, laid := [("unicode/utf8.acceptRanges", laid_unicode_utf8_acceptRanges), ("unicode/utf8.first", laid_unicode_utf8_first)] }
def MatchBestSaid : Prop := matchBestRow.holds Tryz.pinned (OpenSpec.ofChange matchBestSpec)

/-- ITS FALSE NEIGHBOUR: 'it returns false'. Refute it at one input. -/
def matchBestWrong : ChangeSpec := { name := "matchBest", fn := fun _ => fun
  | [d1, d2, d3] => { results := [.lit (.bool false)], args := [d1, d2, d3] }
  | _ => none }
def MatchBestWrongFalsely : Prop := matchBestRow.holds Tryz.pinned (OpenSpec.ofChange matchBestWrong)

/-- 'calquelaw21.MatchPermuted': WHATEVER THE INPUT: true; the input reads as it did. -/
def matchPermutedSpec : ChangeSpec := { name := "matchPermuted", fn := fun _ => fun
  | [d1, d2, d3] => { results := [.lit (.bool true)], args := [d1, d2, d3] }
  | _ => none }
def matchPermutedRow : OpenClaim := { program := "ytkflpenpjnnhdaagreatdoor", sum := "81d1190a2fb573eb7ebb2791c38ebd27655f5a94cd5d6ed1affd8639f818429d", func := "calque/calquelaw21.MatchPermuted", spec := "matchPermuted", inPlace := ["internal/bytealg.CountString", "internal/bytealg.IndexByteString", "internal/bytealg.IndexString", "internal/abi.NoEscape", "internal/bytealg.MakeNoZero"], unfollowed := true, recurses := true, named := ["internal/bytealg.MaxLen", "unicode/utf8.first", "unicode/utf8.acceptRanges"], plainKeys := false, apart := false, laid := [("unicode/utf8.acceptRanges", laid_unicode_utf8_acceptRanges), ("unicode/utf8.first", laid_unicode_utf8_first)] }
def MatchPermutedSaid : Prop := matchPermutedRow.holds Tryz.pinned (OpenSpec.ofChange matchPermutedSpec)

/-- ITS FALSE NEIGHBOUR: 'it returns false'. Refute it at one input. -/
def matchPermutedWrong : ChangeSpec := { name := "matchPermuted", fn := fun _ => fun
  | [d1, d2, d3] => { results := [.lit (.bool false)], args := [d1, d2, d3] }
  | _ => none }
def MatchPermutedWrongFalsely : Prop := matchPermutedRow.holds Tryz.pinned (OpenSpec.ofChange matchPermutedWrong)

/-- 'calquelaw21.MatchDistance': WHATEVER THE INPUT: true; the input reads as it did. -/
def matchDistanceSpec : ChangeSpec := { name := "matchDistance", fn := fun _ => fun
  | [d1, d2, d3] => { results := [.lit (.bool true)], args := [d1, d2, d3] }
  | _ => none }
def matchDistanceRow : OpenClaim := { program := "ytkflpenpjnnhdaagreatdoor", sum := "81d1190a2fb573eb7ebb2791c38ebd27655f5a94cd5d6ed1affd8639f818429d", func := "calque/calquelaw21.MatchDistance", spec := "matchDistance", inPlace := ["internal/bytealg.CountString", "internal/bytealg.IndexByteString", "internal/bytealg.IndexString", "internal/abi.NoEscape", "internal/bytealg.MakeNoZero"], unfollowed := true, recurses := true, named := ["internal/bytealg.MaxLen", "unicode/utf8.first", "unicode/utf8.acceptRanges"], plainKeys := false, apart := false, laid := [("unicode/utf8.acceptRanges", laid_unicode_utf8_acceptRanges), ("unicode/utf8.first", laid_unicode_utf8_first)] }
def MatchDistanceSaid : Prop := matchDistanceRow.holds Tryz.pinned (OpenSpec.ofChange matchDistanceSpec)

/-- ITS FALSE NEIGHBOUR: 'it returns false'. Refute it at one input. -/
def matchDistanceWrong : ChangeSpec := { name := "matchDistance", fn := fun _ => fun
  | [d1, d2, d3] => { results := [.lit (.bool false)], args := [d1, d2, d3] }
  | _ => none }
def MatchDistanceWrongFalsely : Prop := matchDistanceRow.holds Tryz.pinned (OpenSpec.ofChange matchDistanceWrong)

/-- 'calquelaw21.MatchOrder': WHATEVER THE INPUT: true; the input reads as it did. -/
def matchOrderSpec : ChangeSpec := { name := "matchOrder", fn := fun _ => fun
  | [d1, d2, d3] => { results := [.lit (.bool true)], args := [d1, d2, d3] }
  | _ => none }
def matchOrderRow : OpenClaim := { program := "ytkflpenpjnnhdaagreatdoor", sum := "81d1190a2fb573eb7ebb2791c38ebd27655f5a94cd5d6ed1affd8639f818429d", func := "calque/calquelaw21.MatchOrder", spec := "matchOrder", inPlace := ["internal/bytealg.CountString", "internal/bytealg.IndexByteString", "internal/bytealg.IndexString", "internal/abi.NoEscape", "internal/bytealg.MakeNoZero"], unfollowed := true, recurses := true, named := ["internal/bytealg.MaxLen", "unicode/utf8.first", "unicode/utf8.acceptRanges"], plainKeys := false, apart := false, laid := [("unicode/utf8.acceptRanges", laid_unicode_utf8_acceptRanges), ("unicode/utf8.first", laid_unicode_utf8_first)] }
def MatchOrderSaid : Prop := matchOrderRow.holds Tryz.pinned (OpenSpec.ofChange matchOrderSpec)

/-- ITS FALSE NEIGHBOUR: 'it returns false'. Refute it at one input. -/
def matchOrderWrong : ChangeSpec := { name := "matchOrder", fn := fun _ => fun
  | [d1, d2, d3] => { results := [.lit (.bool false)], args := [d1, d2, d3] }
  | _ => none }
def MatchOrderWrongFalsely : Prop := matchOrderRow.holds Tryz.pinned (OpenSpec.ofChange matchOrderWrong)

/-- 'calquelaw21.MatchExact': WHATEVER THE INPUT: true; the input reads as it did. -/
def matchExactSpec : ChangeSpec := { name := "matchExact", fn := fun _ => fun
  | [d1, d2, d3] => { results := [.lit (.bool true)], args := [d1, d2, d3] }
  | _ => none }
def matchExactRow : OpenClaim := { program := "ytkflpenpjnnhdaagreatdoor", sum := "81d1190a2fb573eb7ebb2791c38ebd27655f5a94cd5d6ed1affd8639f818429d", func := "calque/calquelaw21.MatchExact", spec := "matchExact", inPlace := ["internal/bytealg.CountString", "internal/bytealg.IndexByteString", "internal/bytealg.IndexString", "internal/abi.NoEscape", "internal/bytealg.MakeNoZero"], unfollowed := true, recurses := true, named := ["internal/bytealg.MaxLen", "unicode/utf8.first", "unicode/utf8.acceptRanges"], plainKeys := false, apart := false, laid := [("unicode/utf8.acceptRanges", laid_unicode_utf8_acceptRanges), ("unicode/utf8.first", laid_unicode_utf8_first)] }
def MatchExactSaid : Prop := matchExactRow.holds Tryz.pinned (OpenSpec.ofChange matchExactSpec)

/-- ITS FALSE NEIGHBOUR: 'it returns false'. Refute it at one input. -/
def matchExactWrong : ChangeSpec := { name := "matchExact", fn := fun _ => fun
  | [d1, d2, d3] => { results := [.lit (.bool false)], args := [d1, d2, d3] }
  | _ => none }
def MatchExactWrongFalsely : Prop := matchExactRow.holds Tryz.pinned (OpenSpec.ofChange matchExactWrong)

/-- 'calquelaw21.MatchPrefers': WHATEVER THE INPUT: true; the input reads as it did. -/
def matchPrefersSpec : ChangeSpec := { name := "matchPrefers", fn := fun _ => fun
  | [d1, d2, d3] => { results := [.lit (.bool true)], args := [d1, d2, d3] }
  | _ => none }
def matchPrefersRow : OpenClaim := { program := "ytkflpenpjnnhdaagreatdoor", sum := "81d1190a2fb573eb7ebb2791c38ebd27655f5a94cd5d6ed1affd8639f818429d", func := "calque/calquelaw21.MatchPrefers", spec := "matchPrefers", inPlace := ["internal/bytealg.CountString", "internal/bytealg.IndexByteString", "internal/bytealg.IndexString", "internal/abi.NoEscape", "internal/bytealg.MakeNoZero"], unfollowed := true, recurses := true, named := ["internal/bytealg.MaxLen", "unicode/utf8.first", "unicode/utf8.acceptRanges"], plainKeys := false, apart := false, laid := [("unicode/utf8.acceptRanges", laid_unicode_utf8_acceptRanges), ("unicode/utf8.first", laid_unicode_utf8_first)] }
def MatchPrefersSaid : Prop := matchPrefersRow.holds Tryz.pinned (OpenSpec.ofChange matchPrefersSpec)

/-- ITS FALSE NEIGHBOUR: 'it returns false'. Refute it at one input. -/
def matchPrefersWrong : ChangeSpec := { name := "matchPrefers", fn := fun _ => fun
  | [d1, d2, d3] => { results := [.lit (.bool false)], args := [d1, d2, d3] }
  | _ => none }
def MatchPrefersWrongFalsely : Prop := matchPrefersRow.holds Tryz.pinned (OpenSpec.ofChange matchPrefersWrong)

/- THE SECOND FORM. 'bulk': how many values and letters a reading holds, each counted each time it is reached (what is shared counts as often as it is met; a slice's spare places count too). A statement '..UptoSaid' is the law's where the arguments, and the package variables that the reading takes, are together of bulk at most 1048576: NARROWER than '..Said'. Prove '..Said' where nothing that the law and all that it calls make is longer than what came in: it says more and counts as full. Else prove '..UptoSaid'. A law counts once. -/
mutual
def uptoBulk {H : Type} : DataW H → Nat
  | .lit (.string bytes) => bytes.length + 1
  | .lit _ => 1
  | .nil => 1
  | .ptr d => uptoBulk d + 1
  | .slice elems spare => uptoBulkAll elems + uptoBulkAll spare + 1
  | .agg parts => uptoBulkAll parts + 1
  | .iface _ d => uptoBulk d + 1
  | .map entries => uptoBulkEntries entries + 1
  | .held _ => 1
def uptoBulkAll {H : Type} : List (DataW H) → Nat
  | [] => 0
  | d :: r => uptoBulk d + uptoBulkAll r
def uptoBulkEntries {H : Type} : List (Lit × DataW H) → Nat
  | [] => 0
  | x :: r => uptoBulkEntry x + uptoBulkEntries r
def uptoBulkEntry {H : Type} : Lit × DataW H → Nat
  | (.string bytes, d) => bytes.length + uptoBulk d + 1
  | (_, d) => uptoBulk d + 1
 end
def uptoSmall : (H : Type) → List (DataW H) → Bool := fun _ ds => decide (uptoBulkAll ds ≤ 1048576)
def OpenSpec.upto (s : _root_.Go.ChangeSpec) : _root_.Go.OpenSpec := { _root_.Go.OpenSpec.ofChange s with cond := some uptoSmall }

/-- 'calquelaw21.MatchBest', WHERE WHAT IT READS IS OF BULK AT MOST 1048576: true; the input reads as it did. -/
def matchBestUptoRow : OpenClaim := { program := "ytkflpenpjnnhdaagreatdoor", sum := "81d1190a2fb573eb7ebb2791c38ebd27655f5a94cd5d6ed1affd8639f818429d", func := "calque/calquelaw21.MatchBest", spec := "matchBest", inPlace := ["internal/bytealg.CountString", "internal/bytealg.IndexByteString", "internal/bytealg.IndexString", "internal/abi.NoEscape", "internal/bytealg.MakeNoZero"], unfollowed := true, recurses := true, named := ["internal/bytealg.MaxLen", "unicode/utf8.first", "unicode/utf8.acceptRanges"], plainKeys := false, apart := false, laid := [("unicode/utf8.acceptRanges", laid_unicode_utf8_acceptRanges), ("unicode/utf8.first", laid_unicode_utf8_first)], narrowed := true }
def MatchBestUptoSaid : Prop := matchBestUptoRow.holds Tryz.pinned (OpenSpec.upto matchBestSpec)

/-- 'calquelaw21.MatchPermuted', WHERE WHAT IT READS IS OF BULK AT MOST 1048576: true; the input reads as it did. -/
def matchPermutedUptoRow : OpenClaim := { program := "ytkflpenpjnnhdaagreatdoor", sum := "81d1190a2fb573eb7ebb2791c38ebd27655f5a94cd5d6ed1affd8639f818429d", func := "calque/calquelaw21.MatchPermuted", spec := "matchPermuted", inPlace := ["internal/bytealg.CountString", "internal/bytealg.IndexByteString", "internal/bytealg.IndexString", "internal/abi.NoEscape", "internal/bytealg.MakeNoZero"], unfollowed := true, recurses := true, named := ["internal/bytealg.MaxLen", "unicode/utf8.first", "unicode/utf8.acceptRanges"], plainKeys := false, apart := false, laid := [("unicode/utf8.acceptRanges", laid_unicode_utf8_acceptRanges), ("unicode/utf8.first", laid_unicode_utf8_first)], narrowed := true }
def MatchPermutedUptoSaid : Prop := matchPermutedUptoRow.holds Tryz.pinned (OpenSpec.upto matchPermutedSpec)

/-- 'calquelaw21.MatchDistance', WHERE WHAT IT READS IS OF BULK AT MOST 1048576: true; the input reads as it did. -/
def matchDistanceUptoRow : OpenClaim := { program := "ytkflpenpjnnhdaagreatdoor", sum := "81d1190a2fb573eb7ebb2791c38ebd27655f5a94cd5d6ed1affd8639f818429d", func := "calque/calquelaw21.MatchDistance", spec := "matchDistance", inPlace := ["internal/bytealg.CountString", "internal/bytealg.IndexByteString", "internal/bytealg.IndexString", "internal/abi.NoEscape", "internal/bytealg.MakeNoZero"], unfollowed := true, recurses := true, named := ["internal/bytealg.MaxLen", "unicode/utf8.first", "unicode/utf8.acceptRanges"], plainKeys := false, apart := false, laid := [("unicode/utf8.acceptRanges", laid_unicode_utf8_acceptRanges), ("unicode/utf8.first", laid_unicode_utf8_first)], narrowed := true }
def MatchDistanceUptoSaid : Prop := matchDistanceUptoRow.holds Tryz.pinned (OpenSpec.upto matchDistanceSpec)

/-- 'calquelaw21.MatchOrder', WHERE WHAT IT READS IS OF BULK AT MOST 1048576: true; the input reads as it did. -/
def matchOrderUptoRow : OpenClaim := { program := "ytkflpenpjnnhdaagreatdoor", sum := "81d1190a2fb573eb7ebb2791c38ebd27655f5a94cd5d6ed1affd8639f818429d", func := "calque/calquelaw21.MatchOrder", spec := "matchOrder", inPlace := ["internal/bytealg.CountString", "internal/bytealg.IndexByteString", "internal/bytealg.IndexString", "internal/abi.NoEscape", "internal/bytealg.MakeNoZero"], unfollowed := true, recurses := true, named := ["internal/bytealg.MaxLen", "unicode/utf8.first", "unicode/utf8.acceptRanges"], plainKeys := false, apart := false, laid := [("unicode/utf8.acceptRanges", laid_unicode_utf8_acceptRanges), ("unicode/utf8.first", laid_unicode_utf8_first)], narrowed := true }
def MatchOrderUptoSaid : Prop := matchOrderUptoRow.holds Tryz.pinned (OpenSpec.upto matchOrderSpec)

/-- 'calquelaw21.MatchExact', WHERE WHAT IT READS IS OF BULK AT MOST 1048576: true; the input reads as it did. -/
def matchExactUptoRow : OpenClaim := { program := "ytkflpenpjnnhdaagreatdoor", sum := "81d1190a2fb573eb7ebb2791c38ebd27655f5a94cd5d6ed1affd8639f818429d", func := "calque/calquelaw21.MatchExact", spec := "matchExact", inPlace := ["internal/bytealg.CountString", "internal/bytealg.IndexByteString", "internal/bytealg.IndexString", "internal/abi.NoEscape", "internal/bytealg.MakeNoZero"], unfollowed := true, recurses := true, named := ["internal/bytealg.MaxLen", "unicode/utf8.first", "unicode/utf8.acceptRanges"], plainKeys := false, apart := false, laid := [("unicode/utf8.acceptRanges", laid_unicode_utf8_acceptRanges), ("unicode/utf8.first", laid_unicode_utf8_first)], narrowed := true }
def MatchExactUptoSaid : Prop := matchExactUptoRow.holds Tryz.pinned (OpenSpec.upto matchExactSpec)

/-- 'calquelaw21.MatchPrefers', WHERE WHAT IT READS IS OF BULK AT MOST 1048576: true; the input reads as it did. -/
def matchPrefersUptoRow : OpenClaim := { program := "ytkflpenpjnnhdaagreatdoor", sum := "81d1190a2fb573eb7ebb2791c38ebd27655f5a94cd5d6ed1affd8639f818429d", func := "calque/calquelaw21.MatchPrefers", spec := "matchPrefers", inPlace := ["internal/bytealg.CountString", "internal/bytealg.IndexByteString", "internal/bytealg.IndexString", "internal/abi.NoEscape", "internal/bytealg.MakeNoZero"], unfollowed := true, recurses := true, named := ["internal/bytealg.MaxLen", "unicode/utf8.first", "unicode/utf8.acceptRanges"], plainKeys := false, apart := false, laid := [("unicode/utf8.acceptRanges", laid_unicode_utf8_acceptRanges), ("unicode/utf8.first", laid_unicode_utf8_first)], narrowed := true }
def MatchPrefersUptoSaid : Prop := matchPrefersUptoRow.holds Tryz.pinned (OpenSpec.upto matchPrefersSpec)

end Rows
end Go.Proofs.YtkflpenpjnnhdaaGreatDoor
