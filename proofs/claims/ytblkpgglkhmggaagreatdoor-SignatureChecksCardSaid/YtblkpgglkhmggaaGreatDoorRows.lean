/-
  NARROWER THAN 'FOR EVERY INPUT', by the rows' own cells (each row's printed sentence says how): SignatureInfer: loops, laid · SignatureMerges: laid · SignatureParts: loops, laid · SignatureValues: laid · SignatureChecks: laid · SignatureLists: laid.
  DERIVED. THE GIVEN ROWS OF THIS SEAT. 6 by the template 'for every input the law returns true; each argument reads behind the call as it read before'; 0 by the template 'total and deterministic' (their statements: YtblkpgglkhmggaaGreatDoorTotals.lean).
  GIVEN WITH THE SEED: the statements are not yours to turn. If you find one false, say at which input.
  Laid BY PROGRAM, IN A SANDBOX (cutbox-rows.mjs): the forced cells as the released guide's own fill.sh prints them over the translation c464f38a72821c26… (all of the seat's roots in one cut). By AI agents, Wed Nov 11 2026. No macro, syntax, notation, axiom, sorry.
-/
import Derived.Test.YtblkpgglkhmggaaGreatDoorChecked
import GoSem.PinnedTables
import GoSem.Claim
import GoSem.ClaimJoined
import GoSem.ClaimMapViews
import Derived.JoinedTies
import Derived.KernelRfl
namespace Go.Proofs.YtblkpgglkhmggaaGreatDoor
/- THE CELL 'sum', in the pinned program and in every row, IS THE sha256 OF THE DUMP (.gsa) THAT YtblkpgglkhmggaaGreatDoorProg.lean LOADS. Nothing in Lean hashes anything: it is a label: what it is worth is what the hold of that sum in a sandbox is worth. -/
noncomputable def Tryz.pinned : Pinned := { name := "ytblkpgglkhmggaagreatdoor", sum := "c464f38a72821c265f7eea08d996c20d1755b51d631010ef2b0fa71c933fcea0", checked := Tryz.checked }
namespace Rows
def none {H : Type} : Left H := { results := [], args := [] }

/- WHAT THE LISTED PACKAGE-LEVEL VARIABLES READ AS WHEN THE CALL BEGINS. Each datum BY PROGRAM (the guide's laid-datum.mjs) off the statement by which the dump's own 'gosem.cut.vars' lays the variable. In a bare row this is a premise. The card (YtblkpgglkhmggaaGreatDoorCards.lean) ties it to the program's text. -/
def laid_unicode_utf8_acceptRanges {H : Type} : DataW H := .agg [.agg [.lit (.int .u8 128), .lit (.int .u8 191)], .agg [.lit (.int .u8 160), .lit (.int .u8 191)], .agg [.lit (.int .u8 128), .lit (.int .u8 159)], .agg [.lit (.int .u8 144), .lit (.int .u8 191)], .agg [.lit (.int .u8 128), .lit (.int .u8 143)], .agg [.lit (.int .u8 0), .lit (.int .u8 0)], .agg [.lit (.int .u8 0), .lit (.int .u8 0)], .agg [.lit (.int .u8 0), .lit (.int .u8 0)], .agg [.lit (.int .u8 0), .lit (.int .u8 0)], .agg [.lit (.int .u8 0), .lit (.int .u8 0)], .agg [.lit (.int .u8 0), .lit (.int .u8 0)], .agg [.lit (.int .u8 0), .lit (.int .u8 0)], .agg [.lit (.int .u8 0), .lit (.int .u8 0)], .agg [.lit (.int .u8 0), .lit (.int .u8 0)], .agg [.lit (.int .u8 0), .lit (.int .u8 0)], .agg [.lit (.int .u8 0), .lit (.int .u8 0)]]
/-- One of Go's own tables, pinned by name: the form's constant. -/
def laid_unicode_utf8_first : DataW Unit := Go.Pinned.utf8First

/-- 'calquelaw28.SignatureInfer': WHATEVER THE INPUT: true; the input reads as it did. -/
def signatureInferSpec : ChangeSpec := { name := "signatureInfer", fn := fun _ => fun
  | [d] => { results := [.lit (.bool true)], args := [d] }
  | _ => none }
def signatureInferRow : OpenClaim := { program := "ytblkpgglkhmggaagreatdoor", sum := "c464f38a72821c265f7eea08d996c20d1755b51d631010ef2b0fa71c933fcea0", func := "calque/calquelaw28.SignatureInfer", spec := "signatureInfer", inPlace := ["internal/bytealg.IndexByteString", "internal/bytealg.IndexString", "internal/abi.NoEscape"], unfollowed := true, recurses := true, named := ["internal/bytealg.MaxLen", "unicode/utf8.first", "unicode/utf8.acceptRanges"], loops := true, apart := false, laid := [("unicode/utf8.acceptRanges", laid_unicode_utf8_acceptRanges), ("unicode/utf8.first", laid_unicode_utf8_first)] }
def SignatureInferSaid : Prop := signatureInferRow.holds Tryz.pinned (OpenSpec.ofChange signatureInferSpec)

/-- ITS FALSE NEIGHBOUR: 'it returns false'. Refute it at one input. -/
def signatureInferWrong : ChangeSpec := { name := "signatureInfer", fn := fun _ => fun
  | [d] => { results := [.lit (.bool false)], args := [d] }
  | _ => none }
def SignatureInferWrongFalsely : Prop := signatureInferRow.holds Tryz.pinned (OpenSpec.ofChange signatureInferWrong)

/-- 'calquelaw28.SignatureMerges': WHATEVER THE INPUT: true; the input reads as it did. -/
def signatureMergesSpec : ChangeSpec := { name := "signatureMerges", fn := fun _ => fun
  | [d1, d2, d3] => { results := [.lit (.bool true)], args := [d1, d2, d3] }
  | _ => none }
def signatureMergesRow : OpenClaim := { program := "ytblkpgglkhmggaagreatdoor", sum := "c464f38a72821c265f7eea08d996c20d1755b51d631010ef2b0fa71c933fcea0", func := "calque/calquelaw28.SignatureMerges", spec := "signatureMerges", inPlace := ["internal/bytealg.IndexByteString", "internal/bytealg.IndexString", "internal/abi.NoEscape"], unfollowed := true, recurses := true, named := ["internal/bytealg.MaxLen", "unicode/utf8.first", "unicode/utf8.acceptRanges"], apart := false, laid := [("unicode/utf8.acceptRanges", laid_unicode_utf8_acceptRanges), ("unicode/utf8.first", laid_unicode_utf8_first)] }
def SignatureMergesSaid : Prop := signatureMergesRow.holds Tryz.pinned (OpenSpec.ofChange signatureMergesSpec)

/-- ITS FALSE NEIGHBOUR: 'it returns false'. Refute it at one input. -/
def signatureMergesWrong : ChangeSpec := { name := "signatureMerges", fn := fun _ => fun
  | [d1, d2, d3] => { results := [.lit (.bool false)], args := [d1, d2, d3] }
  | _ => none }
def SignatureMergesWrongFalsely : Prop := signatureMergesRow.holds Tryz.pinned (OpenSpec.ofChange signatureMergesWrong)

/-- 'calquelaw28.SignatureParts': WHATEVER THE INPUT: true; the input reads as it did. -/
def signaturePartsSpec : ChangeSpec := { name := "signatureParts", fn := fun _ => fun
  | [d1, d2] => { results := [.lit (.bool true)], args := [d1, d2] }
  | _ => none }
def signaturePartsRow : OpenClaim := { program := "ytblkpgglkhmggaagreatdoor", sum := "c464f38a72821c265f7eea08d996c20d1755b51d631010ef2b0fa71c933fcea0", func := "calque/calquelaw28.SignatureParts", spec := "signatureParts", inPlace := ["internal/bytealg.IndexByteString", "internal/bytealg.IndexString", "internal/abi.NoEscape"], unfollowed := true, recurses := true, named := ["internal/bytealg.MaxLen", "unicode/utf8.first", "unicode/utf8.acceptRanges"], loops := true, apart := false, laid := [("unicode/utf8.acceptRanges", laid_unicode_utf8_acceptRanges), ("unicode/utf8.first", laid_unicode_utf8_first)] }
def SignaturePartsSaid : Prop := signaturePartsRow.holds Tryz.pinned (OpenSpec.ofChange signaturePartsSpec)

/-- ITS FALSE NEIGHBOUR: 'it returns false'. Refute it at one input. -/
def signaturePartsWrong : ChangeSpec := { name := "signatureParts", fn := fun _ => fun
  | [d1, d2] => { results := [.lit (.bool false)], args := [d1, d2] }
  | _ => none }
def SignaturePartsWrongFalsely : Prop := signaturePartsRow.holds Tryz.pinned (OpenSpec.ofChange signaturePartsWrong)

/-- 'calquelaw28.SignatureValues': WHATEVER THE INPUT: true; the input reads as it did. -/
def signatureValuesSpec : ChangeSpec := { name := "signatureValues", fn := fun _ => fun
  | [d1, d2, d3] => { results := [.lit (.bool true)], args := [d1, d2, d3] }
  | _ => none }
def signatureValuesRow : OpenClaim := { program := "ytblkpgglkhmggaagreatdoor", sum := "c464f38a72821c265f7eea08d996c20d1755b51d631010ef2b0fa71c933fcea0", func := "calque/calquelaw28.SignatureValues", spec := "signatureValues", inPlace := ["internal/bytealg.IndexByteString", "internal/bytealg.IndexString", "internal/abi.NoEscape"], unfollowed := true, recurses := true, named := ["internal/bytealg.MaxLen", "unicode/utf8.first", "unicode/utf8.acceptRanges"], apart := false, laid := [("unicode/utf8.acceptRanges", laid_unicode_utf8_acceptRanges), ("unicode/utf8.first", laid_unicode_utf8_first)] }
def SignatureValuesSaid : Prop := signatureValuesRow.holds Tryz.pinned (OpenSpec.ofChange signatureValuesSpec)

/-- ITS FALSE NEIGHBOUR: 'it returns false'. Refute it at one input. -/
def signatureValuesWrong : ChangeSpec := { name := "signatureValues", fn := fun _ => fun
  | [d1, d2, d3] => { results := [.lit (.bool false)], args := [d1, d2, d3] }
  | _ => none }
def SignatureValuesWrongFalsely : Prop := signatureValuesRow.holds Tryz.pinned (OpenSpec.ofChange signatureValuesWrong)

/-- 'calquelaw28.SignatureChecks': WHATEVER THE INPUT: true; the input reads as it did. -/
def signatureChecksSpec : ChangeSpec := { name := "signatureChecks", fn := fun _ => fun
  | [d1, d2, d3] => { results := [.lit (.bool true)], args := [d1, d2, d3] }
  | _ => none }
def signatureChecksRow : OpenClaim := { program := "ytblkpgglkhmggaagreatdoor", sum := "c464f38a72821c265f7eea08d996c20d1755b51d631010ef2b0fa71c933fcea0", func := "calque/calquelaw28.SignatureChecks", spec := "signatureChecks", inPlace := ["internal/bytealg.IndexByteString", "internal/bytealg.IndexString", "internal/abi.NoEscape"], unfollowed := true, recurses := true, named := ["internal/bytealg.MaxLen", "unicode/utf8.first", "unicode/utf8.acceptRanges"], apart := false, laid := [("unicode/utf8.acceptRanges", laid_unicode_utf8_acceptRanges), ("unicode/utf8.first", laid_unicode_utf8_first)] }
def SignatureChecksSaid : Prop := signatureChecksRow.holds Tryz.pinned (OpenSpec.ofChange signatureChecksSpec)

/-- ITS FALSE NEIGHBOUR: 'it returns false'. Refute it at one input. -/
def signatureChecksWrong : ChangeSpec := { name := "signatureChecks", fn := fun _ => fun
  | [d1, d2, d3] => { results := [.lit (.bool false)], args := [d1, d2, d3] }
  | _ => none }
def SignatureChecksWrongFalsely : Prop := signatureChecksRow.holds Tryz.pinned (OpenSpec.ofChange signatureChecksWrong)

/-- 'calquelaw28.SignatureLists': WHATEVER THE INPUT: true; the input reads as it did. -/
def signatureListsSpec : ChangeSpec := { name := "signatureLists", fn := fun _ => fun
  | [d1, d2, d3] => { results := [.lit (.bool true)], args := [d1, d2, d3] }
  | _ => none }
def signatureListsRow : OpenClaim := { program := "ytblkpgglkhmggaagreatdoor", sum := "c464f38a72821c265f7eea08d996c20d1755b51d631010ef2b0fa71c933fcea0", func := "calque/calquelaw28.SignatureLists", spec := "signatureLists", inPlace := ["internal/bytealg.IndexByteString", "internal/bytealg.IndexString", "internal/abi.NoEscape"], unfollowed := true, recurses := true, named := ["internal/bytealg.MaxLen", "unicode/utf8.first", "unicode/utf8.acceptRanges"], apart := false, laid := [("unicode/utf8.acceptRanges", laid_unicode_utf8_acceptRanges), ("unicode/utf8.first", laid_unicode_utf8_first)] }
def SignatureListsSaid : Prop := signatureListsRow.holds Tryz.pinned (OpenSpec.ofChange signatureListsSpec)

/-- ITS FALSE NEIGHBOUR: 'it returns false'. Refute it at one input. -/
def signatureListsWrong : ChangeSpec := { name := "signatureLists", fn := fun _ => fun
  | [d1, d2, d3] => { results := [.lit (.bool false)], args := [d1, d2, d3] }
  | _ => none }
def SignatureListsWrongFalsely : Prop := signatureListsRow.holds Tryz.pinned (OpenSpec.ofChange signatureListsWrong)

/- THE SECOND FORM. 'bulk': how many values and letters a reading holds, each counted each time it is reached (what is shared counts as often as it is met; a slice's spare places count too). A statement '..UptoSaid' is the law's where the arguments, and the package variables that the reading takes, are together of bulk at most 1048576: NARROWER than '..Said'. Prove '..Said' where nothing that the law and all that it calls make is longer than what came in: it says more and counts as full. Else prove '..UptoSaid'. A law counts once. -/
mutual
def uptoBulk {H : Type} : DataW H → Nat
  | .lit (.string bytes) => bytes.length + 1
  | .lit _ => 1
  | .nil => 1
  | .ptr d => uptoBulk d + 1
  | .slice elems spare => uptoBulkAll elems + uptoBulkAll spare + 1
  | .agg parts => uptoBulkAll parts + 1
  | .iface _ d => uptoBulk d + 1
  | .map entries => uptoBulkEntries entries + 1
  | .held _ => 1
def uptoBulkAll {H : Type} : List (DataW H) → Nat
  | [] => 0
  | d :: r => uptoBulk d + uptoBulkAll r
def uptoBulkEntries {H : Type} : List (Lit × DataW H) → Nat
  | [] => 0
  | x :: r => uptoBulkEntry x + uptoBulkEntries r
def uptoBulkEntry {H : Type} : Lit × DataW H → Nat
  | (.string bytes, d) => bytes.length + uptoBulk d + 1
  | (_, d) => uptoBulk d + 1
 end
def uptoSmall : (H : Type) → List (DataW H) → Bool := fun _ ds => decide (uptoBulkAll ds ≤ 1048576)
def OpenSpec.upto (s : _root_.Go.ChangeSpec) : _root_.Go.OpenSpec := { _root_.Go.OpenSpec.ofChange s with cond := some uptoSmall }

/-- 'calquelaw28.SignatureInfer', WHERE WHAT IT READS IS OF BULK AT MOST 1048576: true; the input reads as it did. -/
def signatureInferUptoRow : OpenClaim := { program := "ytblkpgglkhmggaagreatdoor", sum := "c464f38a72821c265f7eea08d996c20d1755b51d631010ef2b0fa71c933fcea0", func := "calque/calquelaw28.SignatureInfer", spec := "signatureInfer", inPlace := ["internal/bytealg.IndexByteString", "internal/bytealg.IndexString", "internal/abi.NoEscape"], unfollowed := true, recurses := true, named := ["internal/bytealg.MaxLen", "unicode/utf8.first", "unicode/utf8.acceptRanges"], loops := true, apart := false, laid := [("unicode/utf8.acceptRanges", laid_unicode_utf8_acceptRanges), ("unicode/utf8.first", laid_unicode_utf8_first)], narrowed := true }
def SignatureInferUptoSaid : Prop := signatureInferUptoRow.holds Tryz.pinned (OpenSpec.upto signatureInferSpec)

/-- 'calquelaw28.SignatureMerges', WHERE WHAT IT READS IS OF BULK AT MOST 1048576: true; the input reads as it did. -/
def signatureMergesUptoRow : OpenClaim := { program := "ytblkpgglkhmggaagreatdoor", sum := "c464f38a72821c265f7eea08d996c20d1755b51d631010ef2b0fa71c933fcea0", func := "calque/calquelaw28.SignatureMerges", spec := "signatureMerges", inPlace := ["internal/bytealg.IndexByteString", "internal/bytealg.IndexString", "internal/abi.NoEscape"], unfollowed := true, recurses := true, named := ["internal/bytealg.MaxLen", "unicode/utf8.first", "unicode/utf8.acceptRanges"], apart := false, laid := [("unicode/utf8.acceptRanges", laid_unicode_utf8_acceptRanges), ("unicode/utf8.first", laid_unicode_utf8_first)], narrowed := true }
def SignatureMergesUptoSaid : Prop := signatureMergesUptoRow.holds Tryz.pinned (OpenSpec.upto signatureMergesSpec)

/-- 'calquelaw28.SignatureParts', WHERE WHAT IT READS IS OF BULK AT MOST 1048576: true; the input reads as it did. -/
def signaturePartsUptoRow : OpenClaim := { program := "ytblkpgglkhmggaagreatdoor", sum := "c464f38a72821c265f7eea08d996c20d1755b51d631010ef2b0fa71c933fcea0", func := "calque/calquelaw28.SignatureParts", spec := "signatureParts", inPlace := ["internal/bytealg.IndexByteString", "internal/bytealg.IndexString", "internal/abi.NoEscape"], unfollowed := true, recurses := true, named := ["internal/bytealg.MaxLen", "unicode/utf8.first", "unicode/utf8.acceptRanges"], loops := true, apart := false, laid := [("unicode/utf8.acceptRanges", laid_unicode_utf8_acceptRanges), ("unicode/utf8.first", laid_unicode_utf8_first)], narrowed := true }
def SignaturePartsUptoSaid : Prop := signaturePartsUptoRow.holds Tryz.pinned (OpenSpec.upto signaturePartsSpec)

/-- 'calquelaw28.SignatureValues', WHERE WHAT IT READS IS OF BULK AT MOST 1048576: true; the input reads as it did. -/
def signatureValuesUptoRow : OpenClaim := { program := "ytblkpgglkhmggaagreatdoor", sum := "c464f38a72821c265f7eea08d996c20d1755b51d631010ef2b0fa71c933fcea0", func := "calque/calquelaw28.SignatureValues", spec := "signatureValues", inPlace := ["internal/bytealg.IndexByteString", "internal/bytealg.IndexString", "internal/abi.NoEscape"], unfollowed := true, recurses := true, named := ["internal/bytealg.MaxLen", "unicode/utf8.first", "unicode/utf8.acceptRanges"], apart := false, laid := [("unicode/utf8.acceptRanges", laid_unicode_utf8_acceptRanges), ("unicode/utf8.first", laid_unicode_utf8_first)], narrowed := true }
def SignatureValuesUptoSaid : Prop := signatureValuesUptoRow.holds Tryz.pinned (OpenSpec.upto signatureValuesSpec)

/-- 'calquelaw28.SignatureChecks', WHERE WHAT IT READS IS OF BULK AT MOST 1048576: true; the input reads as it did. -/
def signatureChecksUptoRow : OpenClaim := { program := "ytblkpgglkhmggaagreatdoor", sum := "c464f38a72821c265f7eea08d996c20d1755b51d631010ef2b0fa71c933fcea0", func := "calque/calquelaw28.SignatureChecks", spec := "signatureChecks", inPlace := ["internal/bytealg.IndexByteString", "internal/bytealg.IndexString", "internal/abi.NoEscape"], unfollowed := true, recurses := true, named := ["internal/bytealg.MaxLen", "unicode/utf8.first", "unicode/utf8.acceptRanges"], apart := false, laid := [("unicode/utf8.acceptRanges", laid_unicode_utf8_acceptRanges), ("unicode/utf8.first", laid_unicode_utf8_first)], narrowed := true }
def SignatureChecksUptoSaid : Prop := signatureChecksUptoRow.holds Tryz.pinned (OpenSpec.upto signatureChecksSpec)

/-- 'calquelaw28.SignatureLists', WHERE WHAT IT READS IS OF BULK AT MOST 1048576: true; the input reads as it did. -/
def signatureListsUptoRow : OpenClaim := { program := "ytblkpgglkhmggaagreatdoor", sum := "c464f38a72821c265f7eea08d996c20d1755b51d631010ef2b0fa71c933fcea0", func := "calque/calquelaw28.SignatureLists", spec := "signatureLists", inPlace := ["internal/bytealg.IndexByteString", "internal/bytealg.IndexString", "internal/abi.NoEscape"], unfollowed := true, recurses := true, named := ["internal/bytealg.MaxLen", "unicode/utf8.first", "unicode/utf8.acceptRanges"], apart := false, laid := [("unicode/utf8.acceptRanges", laid_unicode_utf8_acceptRanges), ("unicode/utf8.first", laid_unicode_utf8_first)], narrowed := true }
def SignatureListsUptoSaid : Prop := signatureListsUptoRow.holds Tryz.pinned (OpenSpec.upto signatureListsSpec)

end Rows
end Go.Proofs.YtblkpgglkhmggaaGreatDoor
