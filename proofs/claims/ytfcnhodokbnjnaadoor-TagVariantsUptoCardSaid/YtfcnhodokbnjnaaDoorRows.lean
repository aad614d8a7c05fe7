/-
  NARROWER THAN 'FOR EVERY INPUT', by the rows' own cells (each row's printed sentence says how): TagParse: laid · TagSpelling: laid · TagVariants: laid · TagParent: laid · TagAncestors: laid · TagCanonical: laid · TagText: laid.
  DERIVED. THE GIVEN ROWS OF THIS SEAT. 7 by the template 'for every input the law returns true; each argument reads behind the call as it read before'; 0 by the template 'total and deterministic' (their statements: YtfcnhodokbnjnaaDoorTotals.lean).
  GIVEN WITH THE SEED: the statements are not yours to turn. If you find one false, say at which input.
  Laid BY PROGRAM, IN A SANDBOX (cutbox-rows.mjs): the forced cells as the released guide's own fill.sh prints them over the translation 64febc9ee43f523c… (all of the seat's roots in one cut). By AI agents, Wed Nov 11 2026. No macro, syntax, notation, axiom, sorry.
-/
import Derived.Test.YtfcnhodokbnjnaaDoorChecked
import GoSem.PinnedTables
import GoSem.Claim
import GoSem.ClaimJoined
import GoSem.ClaimMapViews
import Derived.JoinedTies
import Derived.KernelRfl
namespace Go.Proofs.YtfcnhodokbnjnaaDoor
/- THE CELL 'sum', in the pinned program and in every row, IS THE sha256 OF THE DUMP (.gsa) THAT YtfcnhodokbnjnaaDoorProg.lean LOADS. Nothing in Lean hashes anything: it is a label: what it is worth is what the hold of that sum in a sandbox is worth. -/
noncomputable def Tryd.pinned : Pinned := { name := "ytfcnhodokbnjnaadoor", sum := "64febc9ee43f523c42cb21d67f00b8dbe4f39116e82a0c8d9aca81b758d553ef", checked := Tryd.checked }
namespace Rows
def none {H : Type} : Left H := { results := [], args := [] }

/- WHAT THE LISTED PACKAGE-LEVEL VARIABLES READ AS WHEN THE CALL BEGINS. Each datum BY PROGRAM (the guide's laid-datum.mjs) off the statement by which the dump's own 'gosem.cut.vars' lays the variable. In a bare row this is a premise. The card (YtfcnhodokbnjnaaDoorCards.lean) ties it to the program's text. -/
def laid_unicode_utf8_acceptRanges {H : Type} : DataW H := .agg [.agg [.lit (.int .u8 128), .lit (.int .u8 191)], .agg [.lit (.int .u8 160), .lit (.int .u8 191)], .agg [.lit (.int .u8 128), .lit (.int .u8 159)], .agg [.lit (.int .u8 144), .lit (.int .u8 191)], .agg [.lit (.int .u8 128), .lit (.int .u8 143)], .agg [.lit (.int .u8 0), .lit (.int .u8 0)], .agg [.lit (.int .u8 0), .lit (.int .u8 0)], .agg [.lit (.int .u8 0), .lit (.int .u8 0)], .agg [.lit (.int .u8 0), .lit (.int .u8 0)], .agg [.lit (.int .u8 0), .lit (.int .u8 0)], .agg [.lit (.int .u8 0), .lit (.int .u8 0)], .agg [.lit (.int .u8 0), .lit (.int .u8 0)], .agg [.lit (.int .u8 0), .lit (.int .u8 0)], .agg [.lit (.int .u8 0), .lit (.int .u8 0)], .agg [.lit (.int .u8 0), .lit (.int .u8 0)], .agg [.lit (.int .u8 0), .lit (.int .u8 0)]]
/-- One of Go's own tables, pinned by name: the form's constant. -/
def laid_unicode_utf8_first : DataW Unit := Go.Pinned.utf8First

/-- 'calquelaw19.TagParse': WHATEVER THE INPUT: true; the input reads as it did. -/
def tagParseSpec : ChangeSpec := { name := "tagParse", fn := fun _ => fun
  | [d] => { results := [.lit (.bool true)], args := [d] }
  | _ => none }
def tagParseRow : OpenClaim := { program := "ytfcnhodokbnjnaadoor", sum := "64febc9ee43f523c42cb21d67f00b8dbe4f39116e82a0c8d9aca81b758d553ef", func := "calque/calquelaw19.TagParse", spec := "tagParse", inPlace := ["internal/bytealg.CountString", "internal/bytealg.IndexByteString", "internal/bytealg.IndexString", "internal/abi.NoEscape", "internal/bytealg.MakeNoZero"], unfollowed := true, recurses := true, named := ["internal/bytealg.MaxLen", "unicode/utf8.first", "unicode/utf8.acceptRanges"], apart := false, laid := [("unicode/utf8.acceptRanges", laid_unicode_utf8_acceptRanges), ("unicode/utf8.first", laid_unicode_utf8_first)] }
def TagParseSaid : Prop := tagParseRow.holds Tryd.pinned (OpenSpec.ofChange tagParseSpec)

/-- ITS FALSE NEIGHBOUR: 'it returns false'. Refute it at one input. -/
def tagParseWrong : ChangeSpec := { name := "tagParse", fn := fun _ => fun
  | [d] => { results := [.lit (.bool false)], args := [d] }
  | _ => none }
def TagParseWrongFalsely : Prop := tagParseRow.holds Tryd.pinned (OpenSpec.ofChange tagParseWrong)

/-- 'calquelaw19.TagSpelling': WHATEVER THE INPUT: true; the input reads as it did. -/
def tagSpellingSpec : ChangeSpec := { name := "tagSpelling", fn := fun _ => fun
  | [d1, d2] => { results := [.lit (.bool true)], args := [d1, d2] }
  | _ => none }
def tagSpellingRow : OpenClaim := { program := "ytfcnhodokbnjnaadoor", sum := "64febc9ee43f523c42cb21d67f00b8dbe4f39116e82a0c8d9aca81b758d553ef", func := "calque/calquelaw19.TagSpelling", spec := "tagSpelling", inPlace := ["internal/bytealg.CountString", "internal/bytealg.IndexByteString", "internal/bytealg.IndexString", "internal/abi.NoEscape", "internal/bytealg.MakeNoZero"], unfollowed := true, recurses := true, named := ["internal/bytealg.MaxLen", "unicode/utf8.first", "unicode/utf8.acceptRanges"], apart := false, laid := [("unicode/utf8.acceptRanges", laid_unicode_utf8_acceptRanges), ("unicode/utf8.first", laid_unicode_utf8_first)] }
def TagSpellingSaid : Prop := tagSpellingRow.holds Tryd.pinned (OpenSpec.ofChange tagSpellingSpec)

/-- ITS FALSE NEIGHBOUR: 'it returns false'. Refute it at one input. -/
def tagSpellingWrong : ChangeSpec := { name := "tagSpelling", fn := fun _ => fun
  | [d1, d2] => { results := [.lit (.bool false)], args := [d1, d2] }
  | _ => none }
def TagSpellingWrongFalsely : Prop := tagSpellingRow.holds Tryd.pinned (OpenSpec.ofChange tagSpellingWrong)

/-- 'calquelaw19.TagVariants': WHATEVER THE INPUT: true; the input reads as it did. -/
def tagVariantsSpec : ChangeSpec := { name := "tagVariants", fn := fun _ => fun
  | [d1, d2] => { results := [.lit (.bool true)], args := [d1, d2] }
  | _ => none }
def tagVariantsRow : OpenClaim := { program := "ytfcnhodokbnjnaadoor", sum := "64febc9ee43f523c42cb21d67f00b8dbe4f39116e82a0c8d9aca81b758d553ef", func := "calque/calquelaw19.TagVariants", spec := "tagVariants", inPlace := ["internal/bytealg.CountString", "internal/bytealg.IndexByteString", "internal/bytealg.IndexString", "internal/abi.NoEscape", "internal/bytealg.MakeNoZero"], unfollowed := true, recurses := true, named := ["internal/bytealg.MaxLen", "unicode/utf8.first", "unicode/utf8.acceptRanges"], apart := false, laid := [("unicode/utf8.acceptRanges", laid_unicode_utf8_acceptRanges), ("unicode/utf8.first", laid_unicode_utf8_first)] }
def TagVariantsSaid : Prop := tagVariantsRow.holds Tryd.pinned (OpenSpec.ofChange tagVariantsSpec)

/-- ITS FALSE NEIGHBOUR: 'it returns false'. Refute it at one input. -/
def tagVariantsWrong : ChangeSpec := { name := "tagVariants", fn := fun _ => fun
  | [d1, d2] => { results := [.lit (.bool false)], args := [d1, d2] }
  | _ => none }
def TagVariantsWrongFalsely : Prop := tagVariantsRow.holds Tryd.pinned (OpenSpec.ofChange tagVariantsWrong)

/-- 'calquelaw19.TagParent': WHATEVER THE INPUT: true; the input reads as it did. -/
def tagParentSpec : ChangeSpec := { name := "tagParent", fn := fun _ => fun
  | [d] => { results := [.lit (.bool true)], args := [d] }
  | _ => none }
def tagParentRow : OpenClaim := { program := "ytfcnhodokbnjnaadoor", sum := "64febc9ee43f523c42cb21d67f00b8dbe4f39116e82a0c8d9aca81b758d553ef", func := "calque/calquelaw19.TagParent", spec := "tagParent", inPlace := ["internal/bytealg.CountString", "internal/bytealg.IndexByteString", "internal/bytealg.IndexString", "internal/abi.NoEscape", "internal/bytealg.MakeNoZero"], unfollowed := true, recurses := true, named := ["internal/bytealg.MaxLen", "unicode/utf8.first", "unicode/utf8.acceptRanges"], apart := false, laid := [("unicode/utf8.acceptRanges", laid_unicode_utf8_acceptRanges), ("unicode/utf8.first", laid_unicode_utf8_first)] }
def TagParentSaid : Prop := tagParentRow.holds Tryd.pinned (OpenSpec.ofChange tagParentSpec)

/-- ITS FALSE NEIGHBOUR: 'it returns false'. Refute it at one input. -/
def tagParentWrong : ChangeSpec := { name := "tagParent", fn := fun _ => fun
  | [d] => { results := [.lit (.bool false)], args := [d] }
  | _ => none }
def TagParentWrongFalsely : Prop := tagParentRow.holds Tryd.pinned (OpenSpec.ofChange tagParentWrong)

/-- 'calquelaw19.TagAncestors': WHATEVER THE INPUT: true; the input reads as it did. -/
def tagAncestorsSpec : ChangeSpec := { name := "tagAncestors", fn := fun _ => fun
  | [d] => { results := [.lit (.bool true)], args := [d] }
  | _ => none }
def tagAncestorsRow : OpenClaim := { program := "ytfcnhodokbnjnaadoor", sum := "64febc9ee43f523c42cb21d67f00b8dbe4f39116e82a0c8d9aca81b758d553ef", func := "calque/calquelaw19.TagAncestors", spec := "tagAncestors", inPlace := ["internal/bytealg.CountString", "internal/bytealg.IndexByteString", "internal/bytealg.IndexString", "internal/abi.NoEscape", "internal/bytealg.MakeNoZero"], unfollowed := true, recurses := true, named := ["internal/bytealg.MaxLen", "unicode/utf8.first", "unicode/utf8.acceptRanges"], apart := false, laid := [("unicode/utf8.acceptRanges", laid_unicode_utf8_acceptRanges), ("unicode/utf8.first", laid_unicode_utf8_first)] }
def TagAncestorsSaid : Prop := tagAncestorsRow.holds Tryd.pinned (OpenSpec.ofChange tagAncestorsSpec)

/-- ITS FALSE NEIGHBOUR: 'it returns false'. Refute it at one input. -/
def tagAncestorsWrong : ChangeSpec := { name := "tagAncestors", fn := fun _ => fun
  | [d] => { results := [.lit (.bool false)], args := [d] }
  | _ => none }
def TagAncestorsWrongFalsely : Prop := tagAncestorsRow.holds Tryd.pinned (OpenSpec.ofChange tagAncestorsWrong)

/-- 'calquelaw19.TagCanonical': WHATEVER THE INPUT: true; the input reads as it did. -/
def tagCanonicalSpec : ChangeSpec := { name := "tagCanonical", fn := fun _ => fun
  | [d] => { results := [.lit (.bool true)], args := [d] }
  | _ => none }
def tagCanonicalRow : OpenClaim := { program := "ytfcnhodokbnjnaadoor", sum := "64febc9ee43f523c42cb21d67f00b8dbe4f39116e82a0c8d9aca81b758d553ef", func := "calque/calquelaw19.TagCanonical", spec := "tagCanonical", inPlace := ["internal/bytealg.CountString", "internal/bytealg.IndexByteString", "internal/bytealg.IndexString", "internal/abi.NoEscape", "internal/bytealg.MakeNoZero"], unfollowed := true, recurses := true, named := ["internal/bytealg.MaxLen", "unicode/utf8.first", "unicode/utf8.acceptRanges"], apart := false, laid := [("unicode/utf8.acceptRanges", laid_unicode_utf8_acceptRanges), ("unicode/utf8.first", laid_unicode_utf8_first)] }
def TagCanonicalSaid : Prop := tagCanonicalRow.holds Tryd.pinned (OpenSpec.ofChange tagCanonicalSpec)

/-- ITS FALSE NEIGHBOUR: 'it returns false'. Refute it at one input. -/
def tagCanonicalWrong : ChangeSpec := { name := "tagCanonical", fn := fun _ => fun
  | [d] => { results := [.lit (.bool false)], args := [d] }
  | _ => none }
def TagCanonicalWrongFalsely : Prop := tagCanonicalRow.holds Tryd.pinned (OpenSpec.ofChange tagCanonicalWrong)

/-- 'calquelaw19.TagText': WHATEVER THE INPUT: true; the input reads as it did. -/
def tagTextSpec : ChangeSpec := { name := "tagText", fn := fun _ => fun
  | [d1, d2] => { results := [.lit (.bool true)], args := [d1, d2] }
  | _ => none }
def tagTextRow : OpenClaim := { program := "ytfcnhodokbnjnaadoor", sum := "64febc9ee43f523c42cb21d67f00b8dbe4f39116e82a0c8d9aca81b758d553ef", func := "calque/calquelaw19.TagText", spec := "tagText", inPlace := ["internal/bytealg.CountString", "internal/bytealg.IndexByteString", "internal/bytealg.IndexString", "internal/abi.NoEscape", "internal/bytealg.MakeNoZero"], unfollowed := true, recurses := true, named := ["internal/bytealg.MaxLen", "unicode/utf8.first", "unicode/utf8.acceptRanges"], apart := false, laid := [("unicode/utf8.acceptRanges", laid_unicode_utf8_acceptRanges), ("unicode/utf8.first", laid_unicode_utf8_first)] }
def TagTextSaid : Prop := tagTextRow.holds Tryd.pinned (OpenSpec.ofChange tagTextSpec)

/-- ITS FALSE NEIGHBOUR: 'it returns false'. Refute it at one input. -/
def tagTextWrong : ChangeSpec := { name := "tagText", fn := fun _ => fun
  | [d1, d2] => { results := [.lit (.bool false)], args := [d1, d2] }
  | _ => none }
def TagTextWrongFalsely : Prop := tagTextRow.holds Tryd.pinned (OpenSpec.ofChange tagTextWrong)

/- THE SECOND FORM. 'bulk': how many values and letters a reading holds, each counted each time it is reached (what is shared counts as often as it is met; a slice's spare places count too). A statement '..UptoSaid' is the law's where the arguments, and the package variables that the reading takes, are together of bulk at most 1048576: NARROWER than '..Said'. Prove '..Said' where nothing that the law and all that it calls make is longer than what came in: it says more and counts as full. Else prove '..UptoSaid'. A law counts once. -/
mutual
def uptoBulk {H : Type} : DataW H → Nat
  | .lit (.string bytes) => bytes.length + 1
  | .lit _ => 1
  | .nil => 1
  | .ptr d => uptoBulk d + 1
  | .slice elems spare => uptoBulkAll elems + uptoBulkAll spare + 1
  | .agg parts => uptoBulkAll parts + 1
  | .iface _ d => uptoBulk d + 1
  | .map entries => uptoBulkEntries entries + 1
  | .held _ => 1
def uptoBulkAll {H : Type} : List (DataW H) → Nat
  | [] => 0
  | d :: r => uptoBulk d + uptoBulkAll r
def uptoBulkEntries {H : Type} : List (Lit × DataW H) → Nat
  | [] => 0
  | x :: r => uptoBulkEntry x + uptoBulkEntries r
def uptoBulkEntry {H : Type} : Lit × DataW H → Nat
  | (.string bytes, d) => bytes.length + uptoBulk d + 1
  | (_, d) => uptoBulk d + 1
 end
def uptoSmall : (H : Type) → List (DataW H) → Bool := fun _ ds => decide (uptoBulkAll ds ≤ 1048576)
def OpenSpec.upto (s : _root_.Go.ChangeSpec) : _root_.Go.OpenSpec := { _root_.Go.OpenSpec.ofChange s with cond := some uptoSmall }

/-- 'calquelaw19.TagParse', WHERE WHAT IT READS IS OF BULK AT MOST 1048576: true; the input reads as it did. -/
def tagParseUptoRow : OpenClaim := { program := "ytfcnhodokbnjnaadoor", sum := "64febc9ee43f523c42cb21d67f00b8dbe4f39116e82a0c8d9aca81b758d553ef", func := "calque/calquelaw19.TagParse", spec := "tagParse", inPlace := ["internal/bytealg.CountString", "internal/bytealg.IndexByteString", "internal/bytealg.IndexString", "internal/abi.NoEscape", "internal/bytealg.MakeNoZero"], unfollowed := true, recurses := true, named := ["internal/bytealg.MaxLen", "unicode/utf8.first", "unicode/utf8.acceptRanges"], apart := false, laid := [("unicode/utf8.acceptRanges", laid_unicode_utf8_acceptRanges), ("unicode/utf8.first", laid_unicode_utf8_first)], narrowed := true }
def TagParseUptoSaid : Prop := tagParseUptoRow.holds Tryd.pinned (OpenSpec.upto tagParseSpec)

/-- 'calquelaw19.TagSpelling', WHERE WHAT IT READS IS OF BULK AT MOST 1048576: true; the input reads as it did. -/
def tagSpellingUptoRow : OpenClaim := { program := "ytfcnhodokbnjnaadoor", sum := "64febc9ee43f523c42cb21d67f00b8dbe4f39116e82a0c8d9aca81b758d553ef", func := "calque/calquelaw19.TagSpelling", spec := "tagSpelling", inPlace := ["internal/bytealg.CountString", "internal/bytealg.IndexByteString", "internal/bytealg.IndexString", "internal/abi.NoEscape", "internal/bytealg.MakeNoZero"], unfollowed := true, recurses := true, named := ["internal/bytealg.MaxLen", "unicode/utf8.first", "unicode/utf8.acceptRanges"], apart := false, laid := [("unicode/utf8.acceptRanges", laid_unicode_utf8_acceptRanges), ("unicode/utf8.first", laid_unicode_utf8_first)], narrowed := true }
def TagSpellingUptoSaid : Prop := tagSpellingUptoRow.holds Tryd.pinned (OpenSpec.upto tagSpellingSpec)

/-- 'calquelaw19.TagVariants', WHERE WHAT IT READS IS OF BULK AT MOST 1048576: true; the input reads as it did. -/
def tagVariantsUptoRow : OpenClaim := { program := "ytfcnhodokbnjnaadoor", sum := "64febc9ee43f523c42cb21d67f00b8dbe4f39116e82a0c8d9aca81b758d553ef", func := "calque/calquelaw19.TagVariants", spec := "tagVariants", inPlace := ["internal/bytealg.CountString", "internal/bytealg.IndexByteString", "internal/bytealg.IndexString", "internal/abi.NoEscape", "internal/bytealg.MakeNoZero"], unfollowed := true, recurses := true, named := ["internal/bytealg.MaxLen", "unicode/utf8.first", "unicode/utf8.acceptRanges"], apart := false, laid := [("unicode/utf8.acceptRanges", laid_unicode_utf8_acceptRanges), ("unicode/utf8.first", laid_unicode_utf8_first)], narrowed := true }
def TagVariantsUptoSaid : Prop := tagVariantsUptoRow.holds Tryd.pinned (OpenSpec.upto tagVariantsSpec)

/-- 'calquelaw19.TagParent', WHERE WHAT IT READS IS OF BULK AT MOST 1048576: true; the input reads as it did. -/
def tagParentUptoRow : OpenClaim := { program := "ytfcnhodokbnjnaadoor", sum := "64febc9ee43f523c42cb21d67f00b8dbe4f39116e82a0c8d9aca81b758d553ef", func := "calque/calquelaw19.TagParent", spec := "tagParent", inPlace := ["internal/bytealg.CountString", "internal/bytealg.IndexByteString", "internal/bytealg.IndexString", "internal/abi.NoEscape", "internal/bytealg.MakeNoZero"], unfollowed := true, recurses := true, named := ["internal/bytealg.MaxLen", "unicode/utf8.first", "unicode/utf8.acceptRanges"], apart := false, laid := [("unicode/utf8.acceptRanges", laid_unicode_utf8_acceptRanges), ("unicode/utf8.first", laid_unicode_utf8_first)], narrowed := true }
def TagParentUptoSaid : Prop := tagParentUptoRow.holds Tryd.pinned (OpenSpec.upto tagParentSpec)

/-- 'calquelaw19.TagAncestors', WHERE WHAT IT READS IS OF BULK AT MOST 1048576: true; the input reads as it did. -/
def tagAncestorsUptoRow : OpenClaim := { program := "ytfcnhodokbnjnaadoor", sum := "64febc9ee43f523c42cb21d67f00b8dbe4f39116e82a0c8d9aca81b758d553ef", func := "calque/calquelaw19.TagAncestors", spec := "tagAncestors", inPlace := ["internal/bytealg.CountString", "internal/bytealg.IndexByteString", "internal/bytealg.IndexString", "internal/abi.NoEscape", "internal/bytealg.MakeNoZero"], unfollowed := true, recurses := true, named := ["internal/bytealg.MaxLen", "unicode/utf8.first", "unicode/utf8.acceptRanges"], apart := false, laid := [("unicode/utf8.acceptRanges", laid_unicode_utf8_acceptRanges), ("unicode/utf8.first", laid_unicode_utf8_first)], narrowed := true }
def TagAncestorsUptoSaid : Prop := tagAncestorsUptoRow.holds Tryd.pinned (OpenSpec.upto tagAncestorsSpec)

/-- 'calquelaw19.TagCanonical', WHERE WHAT IT READS IS OF BULK AT MOST 1048576: true; the input reads as it did. -/
def tagCanonicalUptoRow : OpenClaim := { program := "ytfcnhodokbnjnaadoor", sum := "64febc9ee43f523c42cb21d67f00b8dbe4f39116e82a0c8d9aca81b758d553ef", func := "calque/calquelaw19.TagCanonical", spec := "tagCanonical", inPlace := ["internal/bytealg.CountString", "internal/bytealg.IndexByteString", "internal/bytealg.IndexString", "internal/abi.NoEscape", "internal/bytealg.MakeNoZero"], unfollowed := true, recurses := true, named := ["internal/bytealg.MaxLen", "unicode/utf8.first", "unicode/utf8.acceptRanges"], apart := false, laid := [("unicode/utf8.acceptRanges", laid_unicode_utf8_acceptRanges), ("unicode/utf8.first", laid_unicode_utf8_first)], narrowed := true }
def TagCanonicalUptoSaid : Prop := tagCanonicalUptoRow.holds Tryd.pinned (OpenSpec.upto tagCanonicalSpec)

/-- 'calquelaw19.TagText', WHERE WHAT IT READS IS OF BULK AT MOST 1048576: true; the input reads as it did. -/
def tagTextUptoRow : OpenClaim := { program := "ytfcnhodokbnjnaadoor", sum := "64febc9ee43f523c42cb21d67f00b8dbe4f39116e82a0c8d9aca81b758d553ef", func := "calque/calquelaw19.TagText", spec := "tagText", inPlace := ["internal/bytealg.CountString", "internal/bytealg.IndexByteString", "internal/bytealg.IndexString", "internal/abi.NoEscape", "internal/bytealg.MakeNoZero"], unfollowed := true, recurses := true, named := ["internal/bytealg.MaxLen", "unicode/utf8.first", "unicode/utf8.acceptRanges"], apart := false, laid := [("unicode/utf8.acceptRanges", laid_unicode_utf8_acceptRanges), ("unicode/utf8.first", laid_unicode_utf8_first)], narrowed := true }
def TagTextUptoSaid : Prop := tagTextUptoRow.holds Tryd.pinned (OpenSpec.upto tagTextSpec)

end Rows
end Go.Proofs.YtfcnhodokbnjnaaDoor
