/-
  NARROWER THAN 'FOR EVERY INPUT', by the rows' own cells (each row's printed sentence says how): SyntaxJoins: laid · SyntaxRejects: laid · SyntaxPositions: laid · SyntaxMessages: laid.
  DERIVED. THE GIVEN ROWS OF THIS SEAT. 4 by the template 'for every input the law returns true; each argument reads behind the call as it read before'; 0 by the template 'total and deterministic' (their statements: YtklobkpepbokkaaDoorTotals.lean).
  GIVEN WITH THE SEED: the statements are not yours to turn. If you find one false, say at which input.
  Laid BY PROGRAM, IN A SANDBOX (cutbox-rows.mjs): the forced cells as the released guide's own fill.sh prints them over the translation a2f426a668e69087… (all of the seat's roots in one cut). By AI agents, Wed Nov 11 2026. No macro, syntax, notation, axiom, sorry.
-/
import Derived.Test.YtklobkpepbokkaaDoorChecked
import GoSem.PinnedTables
import GoSem.Claim
import GoSem.ClaimJoined
import GoSem.ClaimMapViews
import Derived.JoinedTies
import Derived.KernelRfl
namespace Go.Proofs.YtklobkpepbokkaaDoor
/- THE CELL 'sum', in the pinned program and in every row, IS THE sha256 OF THE DUMP (.gsa) THAT YtklobkpepbokkaaDoorProg.lean LOADS. Nothing in Lean hashes anything: it is a label: what it is worth is what the hold of that sum in a sandbox is worth. -/
noncomputable def Tryd.pinned : Pinned := { name := "ytklobkpepbokkaadoor", sum := "a2f426a668e6908793f9a28a0e1f7f7bb4b0b5c2004bc6e82efc543903d1c70f", checked := Tryd.checked }
namespace Rows
def none {H : Type} : Left H := { results := [], args := [] }

/- WHAT THE LISTED PACKAGE-LEVEL VARIABLES READ AS WHEN THE CALL BEGINS. Each datum BY PROGRAM (the guide's laid-datum.mjs) off the statement by which the dump's own 'gosem.cut.vars' lays the variable. In a bare row this is a premise. The card (YtklobkpepbokkaaDoorCards.lean) ties it to the program's text. -/
def laid_unicode_utf8_acceptRanges {H : Type} : DataW H := .agg [.agg [.lit (.int .u8 128), .lit (.int .u8 191)], .agg [.lit (.int .u8 160), .lit (.int .u8 191)], .agg [.lit (.int .u8 128), .lit (.int .u8 159)], .agg [.lit (.int .u8 144), .lit (.int .u8 191)], .agg [.lit (.int .u8 128), .lit (.int .u8 143)], .agg [.lit (.int .u8 0), .lit (.int .u8 0)], .agg [.lit (.int .u8 0), .lit (.int .u8 0)], .agg [.lit (.int .u8 0), .lit (.int .u8 0)], .agg [.lit (.int .u8 0), .lit (.int .u8 0)], .agg [.lit (.int .u8 0), .lit (.int .u8 0)], .agg [.lit (.int .u8 0), .lit (.int .u8 0)], .agg [.lit (.int .u8 0), .lit (.int .u8 0)], .agg [.lit (.int .u8 0), .lit (.int .u8 0)], .agg [.lit (.int .u8 0), .lit (.int .u8 0)], .agg [.lit (.int .u8 0), .lit (.int .u8 0)], .agg [.lit (.int .u8 0), .lit (.int .u8 0)]]
/-- One of Go's own tables, pinned by name: the form's constant. -/
def laid_unicode_utf8_first : DataW Unit := Go.Pinned.utf8First

/-- 'calquelaw26.SyntaxJoins': WHATEVER THE INPUT: true; the input reads as it did. -/
def syntaxJoinsSpec : ChangeSpec := { name := "syntaxJoins", fn := fun _ => fun
  | [d1, d2] => { results := [.lit (.bool true)], args := [d1, d2] }
  | _ => none }
def syntaxJoinsRow : OpenClaim := { program := "ytklobkpepbokkaadoor", sum := "a2f426a668e6908793f9a28a0e1f7f7bb4b0b5c2004bc6e82efc543903d1c70f", func := "calque/calquelaw26.SyntaxJoins", spec := "syntaxJoins", inPlace := ["internal/bytealg.IndexByteString", "internal/abi.NoEscape", "internal/bytealg.IndexString"], unfollowed := true, recurses := true, named := ["internal/bytealg.MaxLen", "unicode/utf8.first", "unicode/utf8.acceptRanges"], apart := false, laid := [("unicode/utf8.acceptRanges", laid_unicode_utf8_acceptRanges), ("unicode/utf8.first", laid_unicode_utf8_first)] }
def SyntaxJoinsSaid : Prop := syntaxJoinsRow.holds Tryd.pinned (OpenSpec.ofChange syntaxJoinsSpec)

/-- ITS FALSE NEIGHBOUR: 'it returns false'. Refute it at one input. -/
def syntaxJoinsWrong : ChangeSpec := { name := "syntaxJoins", fn := fun _ => fun
  | [d1, d2] => { results := [.lit (.bool false)], args := [d1, d2] }
  | _ => none }
def SyntaxJoinsWrongFalsely : Prop := syntaxJoinsRow.holds Tryd.pinned (OpenSpec.ofChange syntaxJoinsWrong)

/-- 'calquelaw26.SyntaxRejects': WHATEVER THE INPUT: true; the input reads as it did. -/
def syntaxRejectsSpec : ChangeSpec := { name := "syntaxRejects", fn := fun _ => fun
  | [d1, d2] => { results := [.lit (.bool true)], args := [d1, d2] }
  | _ => none }
def syntaxRejectsRow : OpenClaim := { program := "ytklobkpepbokkaadoor", sum := "a2f426a668e6908793f9a28a0e1f7f7bb4b0b5c2004bc6e82efc543903d1c70f", func := "calque/calquelaw26.SyntaxRejects", spec := "syntaxRejects", inPlace := ["internal/bytealg.IndexByteString", "internal/abi.NoEscape", "internal/bytealg.IndexString"], unfollowed := true, recurses := true, named := ["internal/bytealg.MaxLen", "unicode/utf8.first", "unicode/utf8.acceptRanges"], apart := false, laid := [("unicode/utf8.acceptRanges", laid_unicode_utf8_acceptRanges), ("unicode/utf8.first", laid_unicode_utf8_first)] }
def SyntaxRejectsSaid : Prop := syntaxRejectsRow.holds Tryd.pinned (OpenSpec.ofChange syntaxRejectsSpec)

/-- ITS FALSE NEIGHBOUR: 'it returns false'. Refute it at one input. -/
def syntaxRejectsWrong : ChangeSpec := { name := "syntaxRejects", fn := fun _ => fun
  | [d1, d2] => { results := [.lit (.bool false)], args := [d1, d2] }
  | _ => none }
def SyntaxRejectsWrongFalsely : Prop := syntaxRejectsRow.holds Tryd.pinned (OpenSpec.ofChange syntaxRejectsWrong)

/-- 'calquelaw26.SyntaxPositions': WHATEVER THE INPUT: true; the input reads as it did. -/
def syntaxPositionsSpec : ChangeSpec := { name := "syntaxPositions", fn := fun _ => fun
  | [d] => { results := [.lit (.bool true)], args := [d] }
  | _ => none }
def syntaxPositionsRow : OpenClaim := { program := "ytklobkpepbokkaadoor", sum := "a2f426a668e6908793f9a28a0e1f7f7bb4b0b5c2004bc6e82efc543903d1c70f", func := "calque/calquelaw26.SyntaxPositions", spec := "syntaxPositions", inPlace := ["internal/bytealg.IndexByteString", "internal/abi.NoEscape", "internal/bytealg.IndexString"], unfollowed := true, recurses := true, named := ["internal/bytealg.MaxLen", "unicode/utf8.first", "unicode/utf8.acceptRanges"], apart := false, laid := [("unicode/utf8.acceptRanges", laid_unicode_utf8_acceptRanges), ("unicode/utf8.first", laid_unicode_utf8_first)] }
def SyntaxPositionsSaid : Prop := syntaxPositionsRow.holds Tryd.pinned (OpenSpec.ofChange syntaxPositionsSpec)

/-- ITS FALSE NEIGHBOUR: 'it returns false'. Refute it at one input. -/
def syntaxPositionsWrong : ChangeSpec := { name := "syntaxPositions", fn := fun _ => fun
  | [d] => { results := [.lit (.bool false)], args := [d] }
  | _ => none }
def SyntaxPositionsWrongFalsely : Prop := syntaxPositionsRow.holds Tryd.pinned (OpenSpec.ofChange syntaxPositionsWrong)

/-- 'calquelaw26.SyntaxMessages': WHATEVER THE INPUT: true; the input reads as it did. -/
def syntaxMessagesSpec : ChangeSpec := { name := "syntaxMessages", fn := fun _ => fun
  | [d1, d2] => { results := [.lit (.bool true)], args := [d1, d2] }
  | _ => none }
def syntaxMessagesRow : OpenClaim := { program := "ytklobkpepbokkaadoor", sum := "a2f426a668e6908793f9a28a0e1f7f7bb4b0b5c2004bc6e82efc543903d1c70f", func := "calque/calquelaw26.SyntaxMessages", spec := "syntaxMessages", inPlace := ["internal/bytealg.IndexByteString", "internal/abi.NoEscape", "internal/bytealg.IndexString"], unfollowed := true, recurses := true, named := ["internal/bytealg.MaxLen", "unicode/utf8.first", "unicode/utf8.acceptRanges"], apart := false, laid := [("unicode/utf8.acceptRanges", laid_unicode_utf8_acceptRanges), ("unicode/utf8.first", laid_unicode_utf8_first)] }
def SyntaxMessagesSaid : Prop := syntaxMessagesRow.holds Tryd.pinned (OpenSpec.ofChange syntaxMessagesSpec)

/-- ITS FALSE NEIGHBOUR: 'it returns false'. Refute it at one input. -/
def syntaxMessagesWrong : ChangeSpec := { name := "syntaxMessages", fn := fun _ => fun
  | [d1, d2] => { results := [.lit (.bool false)], args := [d1, d2] }
  | _ => none }
def SyntaxMessagesWrongFalsely : Prop := syntaxMessagesRow.holds Tryd.pinned (OpenSpec.ofChange syntaxMessagesWrong)

/- THE SECOND FORM. 'bulk': how many values and letters a reading holds, each counted each time it is reached (what is shared counts as often as it is met; a slice's spare places count too). A statement '..UptoSaid' is the law's where the arguments, and the package variables that the reading takes, are together of bulk at most 1048576: NARROWER than '..Said'. Prove '..Said' where nothing that the law and all that it calls make is longer than what came in: it says more and counts as full. Else prove '..UptoSaid'. A law counts once. -/
mutual
def uptoBulk {H : Type} : DataW H → Nat
  | .lit (.string bytes) => bytes.length + 1
  | .lit _ => 1
  | .nil => 1
  | .ptr d => uptoBulk d + 1
  | .slice elems spare => uptoBulkAll elems + uptoBulkAll spare + 1
  | .agg parts => uptoBulkAll parts + 1
  | .iface _ d => uptoBulk d + 1
  | .map entries => uptoBulkEntries entries + 1
  | .held _ => 1
def uptoBulkAll {H : Type} : List (DataW H) → Nat
  | [] => 0
  | d :: r => uptoBulk d + uptoBulkAll r
def uptoBulkEntries {H : Type} : List (Lit × DataW H) → Nat
  | [] => 0
  | x :: r => uptoBulkEntry x + uptoBulkEntries r
def uptoBulkEntry {H : Type} : Lit × DataW H → Nat
  | (.string bytes, d) => bytes.length + uptoBulk d + 1
  | (_, d) => uptoBulk d + 1
 end
def uptoSmall : (H : Type) → List (DataW H) → Bool := fun _ ds => decide (uptoBulkAll ds ≤ 1048576)
def OpenSpec.upto (s : _root_.Go.ChangeSpec) : _root_.Go.OpenSpec := { _root_.Go.OpenSpec.ofChange s with cond := some uptoSmall }

/-- 'calquelaw26.SyntaxJoins', WHERE WHAT IT READS IS OF BULK AT MOST 1048576: true; the input reads as it did. -/
def syntaxJoinsUptoRow : OpenClaim := { program := "ytklobkpepbokkaadoor", sum := "a2f426a668e6908793f9a28a0e1f7f7bb4b0b5c2004bc6e82efc543903d1c70f", func := "calque/calquelaw26.SyntaxJoins", spec := "syntaxJoins", inPlace := ["internal/bytealg.IndexByteString", "internal/abi.NoEscape", "internal/bytealg.IndexString"], unfollowed := true, recurses := true, named := ["internal/bytealg.MaxLen", "unicode/utf8.first", "unicode/utf8.acceptRanges"], apart := false, laid := [("unicode/utf8.acceptRanges", laid_unicode_utf8_acceptRanges), ("unicode/utf8.first", laid_unicode_utf8_first)], narrowed := true }
def SyntaxJoinsUptoSaid : Prop := syntaxJoinsUptoRow.holds Tryd.pinned (OpenSpec.upto syntaxJoinsSpec)

/-- 'calquelaw26.SyntaxRejects', WHERE WHAT IT READS IS OF BULK AT MOST 1048576: true; the input reads as it did. -/
def syntaxRejectsUptoRow : OpenClaim := { program := "ytklobkpepbokkaadoor", sum := "a2f426a668e6908793f9a28a0e1f7f7bb4b0b5c2004bc6e82efc543903d1c70f", func := "calque/calquelaw26.SyntaxRejects", spec := "syntaxRejects", inPlace := ["internal/bytealg.IndexByteString", "internal/abi.NoEscape", "internal/bytealg.IndexString"], unfollowed := true, recurses := true, named := ["internal/bytealg.MaxLen", "unicode/utf8.first", "unicode/utf8.acceptRanges"], apart := false, laid := [("unicode/utf8.acceptRanges", laid_unicode_utf8_acceptRanges), ("unicode/utf8.first", laid_unicode_utf8_first)], narrowed := true }
def SyntaxRejectsUptoSaid : Prop := syntaxRejectsUptoRow.holds Tryd.pinned (OpenSpec.upto syntaxRejectsSpec)

/-- 'calquelaw26.SyntaxPositions', WHERE WHAT IT READS IS OF BULK AT MOST 1048576: true; the input reads as it did. -/
def syntaxPositionsUptoRow : OpenClaim := { program := "ytklobkpepbokkaadoor", sum := "a2f426a668e6908793f9a28a0e1f7f7bb4b0b5c2004bc6e82efc543903d1c70f", func := "calque/calquelaw26.SyntaxPositions", spec := "syntaxPositions", inPlace := ["internal/bytealg.IndexByteString", "internal/abi.NoEscape", "internal/bytealg.IndexString"], unfollowed := true, recurses := true, named := ["internal/bytealg.MaxLen", "unicode/utf8.first", "unicode/utf8.acceptRanges"], apart := false, laid := [("unicode/utf8.acceptRanges", laid_unicode_utf8_acceptRanges), ("unicode/utf8.first", laid_unicode_utf8_first)], narrowed := true }
def SyntaxPositionsUptoSaid : Prop := syntaxPositionsUptoRow.holds Tryd.pinned (OpenSpec.upto syntaxPositionsSpec)

/-- 'calquelaw26.SyntaxMessages', WHERE WHAT IT READS IS OF BULK AT MOST 1048576: true; the input reads as it did. -/
def syntaxMessagesUptoRow : OpenClaim := { program := "ytklobkpepbokkaadoor", sum := "a2f426a668e6908793f9a28a0e1f7f7bb4b0b5c2004bc6e82efc543903d1c70f", func := "calque/calquelaw26.SyntaxMessages", spec := "syntaxMessages", inPlace := ["internal/bytealg.IndexByteString", "internal/abi.NoEscape", "internal/bytealg.IndexString"], unfollowed := true, recurses := true, named := ["internal/bytealg.MaxLen", "unicode/utf8.first", "unicode/utf8.acceptRanges"], apart := false, laid := [("unicode/utf8.acceptRanges", laid_unicode_utf8_acceptRanges), ("unicode/utf8.first", laid_unicode_utf8_first)], narrowed := true }
def SyntaxMessagesUptoSaid : Prop := syntaxMessagesUptoRow.holds Tryd.pinned (OpenSpec.upto syntaxMessagesSpec)

end Rows
end Go.Proofs.YtklobkpepbokkaaDoor
