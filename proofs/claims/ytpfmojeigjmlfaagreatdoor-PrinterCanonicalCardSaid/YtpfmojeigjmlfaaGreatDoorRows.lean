/-
  NARROWER THAN 'FOR EVERY INPUT', by the rows' own cells (each row's printed sentence says how): SyntaxSpaces: loops, laid · SyntaxParse: laid · PrinterCanonical: laid · PrinterInverse: loops, laid · PrinterPrint: loops, laid · SignatureInfer: loops, laid · SignatureParts: loops, laid.
  DERIVED. THE GIVEN ROWS OF THIS SEAT. 7 by the template 'for every input the law returns true; each argument reads behind the call as it read before'; 0 by the template 'total and deterministic' (their statements: YtpfmojeigjmlfaaGreatDoorTotals.lean).
  GIVEN WITH THE SEED: the statements are not yours to turn. If you find one false, say at which input.
  Laid BY PROGRAM, IN A SANDBOX (cutbox-rows.mjs): the forced cells as the released guide's own fill.sh prints them over the translation 7d3a296932f6528e… (all of the seat's roots in one cut). By AI agents, Wed Nov 11 2026. No macro, syntax, notation, axiom, sorry.
-/
import Derived.Test.YtpfmojeigjmlfaaGreatDoorChecked
import GoSem.PinnedTables
import GoSem.Claim
import GoSem.ClaimJoined
import GoSem.ClaimMapViews
import Derived.JoinedTies
import Derived.KernelRfl
namespace Go.Proofs.YtpfmojeigjmlfaaGreatDoor
/- THE CELL 'sum', in the pinned program and in every row, IS THE sha256 OF THE DUMP (.gsa) THAT YtpfmojeigjmlfaaGreatDoorProg.lean LOADS. Nothing in Lean hashes anything: it is a label: what it is worth is what the hold of that sum in a sandbox is worth. -/
noncomputable def Tryz.pinned : Pinned := { name := "ytpfmojeigjmlfaagreatdoor", sum := "7d3a296932f6528e725222c4d4141910a17e67a72fecd7ed63a248869b944e7e", checked := Tryz.checked }
namespace Rows
def none {H : Type} : Left H := { results := [], args := [] }

/- WHAT THE LISTED PACKAGE-LEVEL VARIABLES READ AS WHEN THE CALL BEGINS. Each datum BY PROGRAM (the guide's laid-datum.mjs) off the statement by which the dump's own 'gosem.cut.vars' lays the variable. In a bare row this is a premise. The card (YtpfmojeigjmlfaaGreatDoorCards.lean) ties it to the program's text. -/
def laid_unicode_utf8_acceptRanges {H : Type} : DataW H := .agg [.agg [.lit (.int .u8 128), .lit (.int .u8 191)], .agg [.lit (.int .u8 160), .lit (.int .u8 191)], .agg [.lit (.int .u8 128), .lit (.int .u8 159)], .agg [.lit (.int .u8 144), .lit (.int .u8 191)], .agg [.lit (.int .u8 128), .lit (.int .u8 143)], .agg [.lit (.int .u8 0), .lit (.int .u8 0)], .agg [.lit (.int .u8 0), .lit (.int .u8 0)], .agg [.lit (.int .u8 0), .lit (.int .u8 0)], .agg [.lit (.int .u8 0), .lit (.int .u8 0)], .agg [.lit (.int .u8 0), .lit (.int .u8 0)], .agg [.lit (.int .u8 0), .lit (.int .u8 0)], .agg [.lit (.int .u8 0), .lit (.int .u8 0)], .agg [.lit (.int .u8 0), .lit (.int .u8 0)], .agg [.lit (.int .u8 0), .lit (.int .u8 0)], .agg [.lit (.int .u8 0), .lit (.int .u8 0)], .agg [.lit (.int .u8 0), .lit (.int .u8 0)]]
/-- One of Go's own tables, pinned by name: the form's constant. -/
def laid_unicode_utf8_first : DataW Unit := Go.Pinned.utf8First

/-- 'calquelaw26.SyntaxSpaces': WHATEVER THE INPUT: true; the input reads as it did. -/
def syntaxSpacesSpec : ChangeSpec := { name := "syntaxSpaces", fn := fun _ => fun
  | [d1, d2] => { results := [.lit (.bool true)], args := [d1, d2] }
  | _ => none }
def syntaxSpacesRow : OpenClaim := { program := "ytpfmojeigjmlfaagreatdoor", sum := "7d3a296932f6528e725222c4d4141910a17e67a72fecd7ed63a248869b944e7e", func := "calque/calquelaw26.SyntaxSpaces", spec := "syntaxSpaces", inPlace := ["internal/bytealg.IndexByteString", "internal/abi.NoEscape", "internal/bytealg.IndexString"], unfollowed := true, recurses := true, named := ["internal/bytealg.MaxLen", "unicode/utf8.first", "unicode/utf8.acceptRanges"], loops := true, apart := false, laid := [("unicode/utf8.acceptRanges", laid_unicode_utf8_acceptRanges), ("unicode/utf8.first", laid_unicode_utf8_first)] }
def SyntaxSpacesSaid : Prop := syntaxSpacesRow.holds Tryz.pinned (OpenSpec.ofChange syntaxSpacesSpec)

/-- ITS FALSE NEIGHBOUR: 'it returns false'. Refute it at one input. -/
def syntaxSpacesWrong : ChangeSpec := { name := "syntaxSpaces", fn := fun _ => fun
  | [d1, d2] => { results := [.lit (.bool false)], args := [d1, d2] }
  | _ => none }
def SyntaxSpacesWrongFalsely : Prop := syntaxSpacesRow.holds Tryz.pinned (OpenSpec.ofChange syntaxSpacesWrong)

/-- 'calquelaw26.SyntaxParse': WHATEVER THE INPUT: true; the input reads as it did. -/
def syntaxParseSpec : ChangeSpec := { name := "syntaxParse", fn := fun _ => fun
  | [d] => { results := [.lit (.bool true)], args := [d] }
  | _ => none }
def syntaxParseRow : OpenClaim := { program := "ytpfmojeigjmlfaagreatdoor", sum := "7d3a296932f6528e725222c4d4141910a17e67a72fecd7ed63a248869b944e7e", func := "calque/calquelaw26.SyntaxParse", spec := "syntaxParse", inPlace := ["internal/bytealg.IndexByteString", "internal/abi.NoEscape", "internal/bytealg.IndexString"], unfollowed := true, recurses := true, named := ["internal/bytealg.MaxLen", "unicode/utf8.first", "unicode/utf8.acceptRanges"], apart := false, laid := [("unicode/utf8.acceptRanges", laid_unicode_utf8_acceptRanges), ("unicode/utf8.first", laid_unicode_utf8_first)] }
def SyntaxParseSaid : Prop := syntaxParseRow.holds Tryz.pinned (OpenSpec.ofChange syntaxParseSpec)

/-- ITS FALSE NEIGHBOUR: 'it returns false'. Refute it at one input. -/
def syntaxParseWrong : ChangeSpec := { name := "syntaxParse", fn := fun _ => fun
  | [d] => { results := [.lit (.bool false)], args := [d] }
  | _ => none }
def SyntaxParseWrongFalsely : Prop := syntaxParseRow.holds Tryz.pinned (OpenSpec.ofChange syntaxParseWrong)

/-- 'calquelaw27.PrinterCanonical': WHATEVER THE INPUT: true; the input reads as it did. -/
def printerCanonicalSpec : ChangeSpec := { name := "printerCanonical", fn := fun _ => fun
  | [d] => { results := [.lit (.bool true)], args := [d] }
  | _ => none }
def printerCanonicalRow : OpenClaim := { program := "ytpfmojeigjmlfaagreatdoor", sum := "7d3a296932f6528e725222c4d4141910a17e67a72fecd7ed63a248869b944e7e", func := "calque/calquelaw27.PrinterCanonical", spec := "printerCanonical", inPlace := ["internal/bytealg.IndexByteString", "internal/abi.NoEscape", "internal/bytealg.IndexString"], unfollowed := true, recurses := true, named := ["internal/bytealg.MaxLen", "unicode/utf8.first", "unicode/utf8.acceptRanges"], apart := false, laid := [("unicode/utf8.acceptRanges", laid_unicode_utf8_acceptRanges), ("unicode/utf8.first", laid_unicode_utf8_first)] }
def PrinterCanonicalSaid : Prop := printerCanonicalRow.holds Tryz.pinned (OpenSpec.ofChange printerCanonicalSpec)

/-- ITS FALSE NEIGHBOUR: 'it returns false'. Refute it at one input. -/
def printerCanonicalWrong : ChangeSpec := { name := "printerCanonical", fn := fun _ => fun
  | [d] => { results := [.lit (.bool false)], args := [d] }
  | _ => none }
def PrinterCanonicalWrongFalsely : Prop := printerCanonicalRow.holds Tryz.pinned (OpenSpec.ofChange printerCanonicalWrong)

/-- 'calquelaw27.PrinterInverse': WHATEVER THE INPUT: true; the input reads as it did. -/
def printerInverseSpec : ChangeSpec := { name := "printerInverse", fn := fun _ => fun
  | [d1, d2] => { results := [.lit (.bool true)], args := [d1, d2] }
  | _ => none }
def printerInverseRow : OpenClaim := { program := "ytpfmojeigjmlfaagreatdoor", sum := "7d3a296932f6528e725222c4d4141910a17e67a72fecd7ed63a248869b944e7e", func := "calque/calquelaw27.PrinterInverse", spec := "printerInverse", inPlace := ["internal/bytealg.IndexByteString", "internal/abi.NoEscape", "internal/bytealg.IndexString"], unfollowed := true, recurses := true, named := ["internal/bytealg.MaxLen", "unicode/utf8.first", "unicode/utf8.acceptRanges"], loops := true, apart := false, laid := [("unicode/utf8.acceptRanges", laid_unicode_utf8_acceptRanges), ("unicode/utf8.first", laid_unicode_utf8_first)] }
def PrinterInverseSaid : Prop := printerInverseRow.holds Tryz.pinned (OpenSpec.ofChange printerInverseSpec)

/-- ITS FALSE NEIGHBOUR: 'it returns false'. Refute it at one input. -/
def printerInverseWrong : ChangeSpec := { name := "printerInverse", fn := fun _ => fun
  | [d1, d2] => { results := [.lit (.bool false)], args := [d1, d2] }
  | _ => none }
def PrinterInverseWrongFalsely : Prop := printerInverseRow.holds Tryz.pinned (OpenSpec.ofChange printerInverseWrong)

/-- 'calquelaw27.PrinterPrint': WHATEVER THE INPUT: true; the input reads as it did. -/
def printerPrintSpec : ChangeSpec := { name := "printerPrint", fn := fun _ => fun
  | [d] => { results := [.lit (.bool true)], args := [d] }
  | _ => none }
def printerPrintRow : OpenClaim := { program := "ytpfmojeigjmlfaagreatdoor", sum := "7d3a296932f6528e725222c4d4141910a17e67a72fecd7ed63a248869b944e7e", func := "calque/calquelaw27.PrinterPrint", spec := "printerPrint", inPlace := ["internal/bytealg.IndexByteString", "internal/abi.NoEscape", "internal/bytealg.IndexString"], unfollowed := true, recurses := true, named := ["internal/bytealg.MaxLen", "unicode/utf8.first", "unicode/utf8.acceptRanges"], loops := true, apart := false, laid := [("unicode/utf8.acceptRanges", laid_unicode_utf8_acceptRanges), ("unicode/utf8.first", laid_unicode_utf8_first)] }
def PrinterPrintSaid : Prop := printerPrintRow.holds Tryz.pinned (OpenSpec.ofChange printerPrintSpec)

/-- ITS FALSE NEIGHBOUR: 'it returns false'. Refute it at one input. -/
def printerPrintWrong : ChangeSpec := { name := "printerPrint", fn := fun _ => fun
  | [d] => { results := [.lit (.bool false)], args := [d] }
  | _ => none }
def PrinterPrintWrongFalsely : Prop := printerPrintRow.holds Tryz.pinned (OpenSpec.ofChange printerPrintWrong)

/-- 'calquelaw28.SignatureInfer': WHATEVER THE INPUT: true; the input reads as it did. -/
def signatureInferSpec : ChangeSpec := { name := "signatureInfer", fn := fun _ => fun
  | [d] => { results := [.lit (.bool true)], args := [d] }
  | _ => none }
def signatureInferRow : OpenClaim := { program := "ytpfmojeigjmlfaagreatdoor", sum := "7d3a296932f6528e725222c4d4141910a17e67a72fecd7ed63a248869b944e7e", func := "calque/calquelaw28.SignatureInfer", spec := "signatureInfer", inPlace := ["internal/bytealg.IndexByteString", "internal/bytealg.IndexString", "internal/abi.NoEscape"], unfollowed := true, recurses := true, named := ["internal/bytealg.MaxLen", "unicode/utf8.first", "unicode/utf8.acceptRanges"], loops := true, apart := false, laid := [("unicode/utf8.acceptRanges", laid_unicode_utf8_acceptRanges), ("unicode/utf8.first", laid_unicode_utf8_first)] }
def SignatureInferSaid : Prop := signatureInferRow.holds Tryz.pinned (OpenSpec.ofChange signatureInferSpec)

/-- ITS FALSE NEIGHBOUR: 'it returns false'. Refute it at one input. -/
def signatureInferWrong : ChangeSpec := { name := "signatureInfer", fn := fun _ => fun
  | [d] => { results := [.lit (.bool false)], args := [d] }
  | _ => none }
def SignatureInferWrongFalsely : Prop := signatureInferRow.holds Tryz.pinned (OpenSpec.ofChange signatureInferWrong)

/-- 'calquelaw28.SignatureParts': WHATEVER THE INPUT: true; the input reads as it did. -/
def signaturePartsSpec : ChangeSpec := { name := "signatureParts", fn := fun _ => fun
  | [d1, d2] => { results := [.lit (.bool true)], args := [d1, d2] }
  | _ => none }
def signaturePartsRow : OpenClaim := { program := "ytpfmojeigjmlfaagreatdoor", sum := "7d3a296932f6528e725222c4d4141910a17e67a72fecd7ed63a248869b944e7e", func := "calque/calquelaw28.SignatureParts", spec := "signatureParts", inPlace := ["internal/bytealg.IndexByteString", "internal/bytealg.IndexString", "internal/abi.NoEscape"], unfollowed := true, recurses := true, named := ["internal/bytealg.MaxLen", "unicode/utf8.first", "unicode/utf8.acceptRanges"], loops := true, apart := false, laid := [("unicode/utf8.acceptRanges", laid_unicode_utf8_acceptRanges), ("unicode/utf8.first", laid_unicode_utf8_first)] }
def SignaturePartsSaid : Prop := signaturePartsRow.holds Tryz.pinned (OpenSpec.ofChange signaturePartsSpec)

/-- ITS FALSE NEIGHBOUR: 'it returns false'. Refute it at one input. -/
def signaturePartsWrong : ChangeSpec := { name := "signatureParts", fn := fun _ => fun
  | [d1, d2] => { results := [.lit (.bool false)], args := [d1, d2] }
  | _ => none }
def SignaturePartsWrongFalsely : Prop := signaturePartsRow.holds Tryz.pinned (OpenSpec.ofChange signaturePartsWrong)

/- THE SECOND FORM. 'bulk': how many values and letters a reading holds, each counted each time it is reached (what is shared counts as often as it is met; a slice's spare places count too). A statement '..UptoSaid' is the law's where the arguments, and the package variables that the reading takes, are together of bulk at most 1048576: NARROWER than '..Said'. Prove '..Said' where nothing that the law and all that it calls make is longer than what came in: it says more and counts as full. Else prove '..UptoSaid'. A law counts once. -/
mutual
def uptoBulk {H : Type} : DataW H → Nat
  | .lit (.string bytes) => bytes.length + 1
  | .lit _ => 1
  | .nil => 1
  | .ptr d => uptoBulk d + 1
  | .slice elems spare => uptoBulkAll elems + uptoBulkAll spare + 1
  | .agg parts => uptoBulkAll parts + 1
  | .iface _ d => uptoBulk d + 1
  | .map entries => uptoBulkEntries entries + 1
  | .held _ => 1
def uptoBulkAll {H : Type} : List (DataW H) → Nat
  | [] => 0
  | d :: r => uptoBulk d + uptoBulkAll r
def uptoBulkEntries {H : Type} : List (Lit × DataW H) → Nat
  | [] => 0
  | x :: r => uptoBulkEntry x + uptoBulkEntries r
def uptoBulkEntry {H : Type} : Lit × DataW H → Nat
  | (.string bytes, d) => bytes.length + uptoBulk d + 1
  | (_, d) => uptoBulk d + 1
 end
def uptoSmall : (H : Type) → List (DataW H) → Bool := fun _ ds => decide (uptoBulkAll ds ≤ 1048576)
def OpenSpec.upto (s : _root_.Go.ChangeSpec) : _root_.Go.OpenSpec := { _root_.Go.OpenSpec.ofChange s with cond := some uptoSmall }

/-- 'calquelaw26.SyntaxSpaces', WHERE WHAT IT READS IS OF BULK AT MOST 1048576: true; the input reads as it did. -/
def syntaxSpacesUptoRow : OpenClaim := { program := "ytpfmojeigjmlfaagreatdoor", sum := "7d3a296932f6528e725222c4d4141910a17e67a72fecd7ed63a248869b944e7e", func := "calque/calquelaw26.SyntaxSpaces", spec := "syntaxSpaces", inPlace := ["internal/bytealg.IndexByteString", "internal/abi.NoEscape", "internal/bytealg.IndexString"], unfollowed := true, recurses := true, named := ["internal/bytealg.MaxLen", "unicode/utf8.first", "unicode/utf8.acceptRanges"], loops := true, apart := false, laid := [("unicode/utf8.acceptRanges", laid_unicode_utf8_acceptRanges), ("unicode/utf8.first", laid_unicode_utf8_first)], narrowed := true }
def SyntaxSpacesUptoSaid : Prop := syntaxSpacesUptoRow.holds Tryz.pinned (OpenSpec.upto syntaxSpacesSpec)

/-- 'calquelaw26.SyntaxParse', WHERE WHAT IT READS IS OF BULK AT MOST 1048576: true; the input reads as it did. -/
def syntaxParseUptoRow : OpenClaim := { program := "ytpfmojeigjmlfaagreatdoor", sum := "7d3a296932f6528e725222c4d4141910a17e67a72fecd7ed63a248869b944e7e", func := "calque/calquelaw26.SyntaxParse", spec := "syntaxParse", inPlace := ["internal/bytealg.IndexByteString", "internal/abi.NoEscape", "internal/bytealg.IndexString"], unfollowed := true, recurses := true, named := ["internal/bytealg.MaxLen", "unicode/utf8.first", "unicode/utf8.acceptRanges"], apart := false, laid := [("unicode/utf8.acceptRanges", laid_unicode_utf8_acceptRanges), ("unicode/utf8.first", laid_unicode_utf8_first)], narrowed := true }
def SyntaxParseUptoSaid : Prop := syntaxParseUptoRow.holds Tryz.pinned (OpenSpec.upto syntaxParseSpec)

/-- 'calquelaw27.PrinterCanonical', WHERE WHAT IT READS IS OF BULK AT MOST 1048576: true; the input reads as it did. -/
def printerCanonicalUptoRow : OpenClaim := { program := "ytpfmojeigjmlfaagreatdoor", sum := "7d3a296932f6528e725222c4d4141910a17e67a72fecd7ed63a248869b944e7e", func := "calque/calquelaw27.PrinterCanonical", spec := "printerCanonical", inPlace := ["internal/bytealg.IndexByteString", "internal/abi.NoEscape", "internal/bytealg.IndexString"], unfollowed := true, recurses := true, named := ["internal/bytealg.MaxLen", "unicode/utf8.first", "unicode/utf8.acceptRanges"], apart := false, laid := [("unicode/utf8.acceptRanges", laid_unicode_utf8_acceptRanges), ("unicode/utf8.first", laid_unicode_utf8_first)], narrowed := true }
def PrinterCanonicalUptoSaid : Prop := printerCanonicalUptoRow.holds Tryz.pinned (OpenSpec.upto printerCanonicalSpec)

/-- 'calquelaw27.PrinterInverse', WHERE WHAT IT READS IS OF BULK AT MOST 1048576: true; the input reads as it did. -/
def printerInverseUptoRow : OpenClaim := { program := "ytpfmojeigjmlfaagreatdoor", sum := "7d3a296932f6528e725222c4d4141910a17e67a72fecd7ed63a248869b944e7e", func := "calque/calquelaw27.PrinterInverse", spec := "printerInverse", inPlace := ["internal/bytealg.IndexByteString", "internal/abi.NoEscape", "internal/bytealg.IndexString"], unfollowed := true, recurses := true, named := ["internal/bytealg.MaxLen", "unicode/utf8.first", "unicode/utf8.acceptRanges"], loops := true, apart := false, laid := [("unicode/utf8.acceptRanges", laid_unicode_utf8_acceptRanges), ("unicode/utf8.first", laid_unicode_utf8_first)], narrowed := true }
def PrinterInverseUptoSaid : Prop := printerInverseUptoRow.holds Tryz.pinned (OpenSpec.upto printerInverseSpec)

/-- 'calquelaw27.PrinterPrint', WHERE WHAT IT READS IS OF BULK AT MOST 1048576: true; the input reads as it did. -/
def printerPrintUptoRow : OpenClaim := { program := "ytpfmojeigjmlfaagreatdoor", sum := "7d3a296932f6528e725222c4d4141910a17e67a72fecd7ed63a248869b944e7e", func := "calque/calquelaw27.PrinterPrint", spec := "printerPrint", inPlace := ["internal/bytealg.IndexByteString", "internal/abi.NoEscape", "internal/bytealg.IndexString"], unfollowed := true, recurses := true, named := ["internal/bytealg.MaxLen", "unicode/utf8.first", "unicode/utf8.acceptRanges"], loops := true, apart := false, laid := [("unicode/utf8.acceptRanges", laid_unicode_utf8_acceptRanges), ("unicode/utf8.first", laid_unicode_utf8_first)], narrowed := true }
def PrinterPrintUptoSaid : Prop := printerPrintUptoRow.holds Tryz.pinned (OpenSpec.upto printerPrintSpec)

/-- 'calquelaw28.SignatureInfer', WHERE WHAT IT READS IS OF BULK AT MOST 1048576: true; the input reads as it did. -/
def signatureInferUptoRow : OpenClaim := { program := "ytpfmojeigjmlfaagreatdoor", sum := "7d3a296932f6528e725222c4d4141910a17e67a72fecd7ed63a248869b944e7e", func := "calque/calquelaw28.SignatureInfer", spec := "signatureInfer", inPlace := ["internal/bytealg.IndexByteString", "internal/bytealg.IndexString", "internal/abi.NoEscape"], unfollowed := true, recurses := true, named := ["internal/bytealg.MaxLen", "unicode/utf8.first", "unicode/utf8.acceptRanges"], loops := true, apart := false, laid := [("unicode/utf8.acceptRanges", laid_unicode_utf8_acceptRanges), ("unicode/utf8.first", laid_unicode_utf8_first)], narrowed := true }
def SignatureInferUptoSaid : Prop := signatureInferUptoRow.holds Tryz.pinned (OpenSpec.upto signatureInferSpec)

/-- 'calquelaw28.SignatureParts', WHERE WHAT IT READS IS OF BULK AT MOST 1048576: true; the input reads as it did. -/
def signaturePartsUptoRow : OpenClaim := { program := "ytpfmojeigjmlfaagreatdoor", sum := "7d3a296932f6528e725222c4d4141910a17e67a72fecd7ed63a248869b944e7e", func := "calque/calquelaw28.SignatureParts", spec := "signatureParts", inPlace := ["internal/bytealg.IndexByteString", "internal/bytealg.IndexString", "internal/abi.NoEscape"], unfollowed := true, recurses := true, named := ["internal/bytealg.MaxLen", "unicode/utf8.first", "unicode/utf8.acceptRanges"], loops := true, apart := false, laid := [("unicode/utf8.acceptRanges", laid_unicode_utf8_acceptRanges), ("unicode/utf8.first", laid_unicode_utf8_first)], narrowed := true }
def SignaturePartsUptoSaid : Prop := signaturePartsUptoRow.holds Tryz.pinned (OpenSpec.upto signaturePartsSpec)

end Rows
end Go.Proofs.YtpfmojeigjmlfaaGreatDoor
