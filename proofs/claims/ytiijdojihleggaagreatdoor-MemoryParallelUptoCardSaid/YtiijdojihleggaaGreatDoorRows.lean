/-
  NARROWER THAN 'FOR EVERY INPUT', by the rows' own cells (each row's printed sentence says how): MemorySegments: laid · MemoryMatches: laid · MemoryExact: laid · MemoryParallel: loops, laid · MemoryFits: laid · MemoryReturns: laid · MemoryNil: laid.
  DERIVED. THE GIVEN ROWS OF THIS SEAT. 7 by the template 'for every input the law returns true; each argument reads behind the call as it read before'; 0 by the template 'total and deterministic' (their statements: YtiijdojihleggaaGreatDoorTotals.lean).
  GIVEN WITH THE SEED: the statements are not yours to turn. If you find one false, say at which input.
  Laid BY PROGRAM, IN A SANDBOX (cutbox-rows.mjs): the forced cells as the released guide's own fill.sh prints them over the translation 61ee8074ef779897… (all of the seat's roots in one cut). By AI agents, Wed Nov 11 2026. No macro, syntax, notation, axiom, sorry.
-/
import Derived.Test.YtiijdojihleggaaGreatDoorChecked
import GoSem.PinnedTables
import GoSem.Claim
import GoSem.ClaimJoined
import GoSem.ClaimMapViews
import Derived.JoinedTies
import Derived.KernelRfl
namespace Go.Proofs.YtiijdojihleggaaGreatDoor
/- THE CELL 'sum', in the pinned program and in every row, IS THE sha256 OF THE DUMP (.gsa) THAT YtiijdojihleggaaGreatDoorProg.lean LOADS. Nothing in Lean hashes anything: it is a label: what it is worth is what the hold of that sum in a sandbox is worth. -/
noncomputable def Tryz.pinned : Pinned := { name := "ytiijdojihleggaagreatdoor", sum := "61ee8074ef7798974d045952065b6a110e4ffd42bd8e1027e618c73824de21b0", checked := Tryz.checked }
namespace Rows
def none {H : Type} : Left H := { results := [], args := [] }

/- WHAT THE LISTED PACKAGE-LEVEL VARIABLES READ AS WHEN THE CALL BEGINS. Each datum BY PROGRAM (the guide's laid-datum.mjs) off the statement by which the dump's own 'gosem.cut.vars' lays the variable. In a bare row this is a premise. The card (YtiijdojihleggaaGreatDoorCards.lean) ties it to the program's text. -/
def laid_unicode_utf8_acceptRanges {H : Type} : DataW H := .agg [.agg [.lit (.int .u8 128), .lit (.int .u8 191)], .agg [.lit (.int .u8 160), .lit (.int .u8 191)], .agg [.lit (.int .u8 128), .lit (.int .u8 159)], .agg [.lit (.int .u8 144), .lit (.int .u8 191)], .agg [.lit (.int .u8 128), .lit (.int .u8 143)], .agg [.lit (.int .u8 0), .lit (.int .u8 0)], .agg [.lit (.int .u8 0), .lit (.int .u8 0)], .agg [.lit (.int .u8 0), .lit (.int .u8 0)], .agg [.lit (.int .u8 0), .lit (.int .u8 0)], .agg [.lit (.int .u8 0), .lit (.int .u8 0)], .agg [.lit (.int .u8 0), .lit (.int .u8 0)], .agg [.lit (.int .u8 0), .lit (.int .u8 0)], .agg [.lit (.int .u8 0), .lit (.int .u8 0)], .agg [.lit (.int .u8 0), .lit (.int .u8 0)], .agg [.lit (.int .u8 0), .lit (.int .u8 0)], .agg [.lit (.int .u8 0), .lit (.int .u8 0)]]
/-- One of Go's own tables, pinned by name: the form's constant. -/
def laid_unicode_utf8_first : DataW Unit := Go.Pinned.utf8First

/-- 'calquelaw46.MemorySegments': WHATEVER THE INPUT: true; the input reads as it did. -/
def memorySegmentsSpec : ChangeSpec := { name := "memorySegments", fn := fun _ => fun
  | [d1, d2] => { results := [.lit (.bool true)], args := [d1, d2] }
  | _ => none }
def memorySegmentsRow : OpenClaim := { program := "ytiijdojihleggaagreatdoor", sum := "61ee8074ef7798974d045952065b6a110e4ffd42bd8e1027e618c73824de21b0", func := "calque/calquelaw46.MemorySegments", spec := "memorySegments", inPlace := ["internal/bytealg.IndexByteString", "internal/abi.NoEscape", "internal/bytealg.IndexString"], unfollowed := true, recurses := true, named := ["internal/bytealg.MaxLen", "unicode/utf8.first", "unicode/utf8.acceptRanges"], apart := false, laid := [("unicode/utf8.acceptRanges", laid_unicode_utf8_acceptRanges), ("unicode/utf8.first", laid_unicode_utf8_first)] }
def MemorySegmentsSaid : Prop := memorySegmentsRow.holds Tryz.pinned (OpenSpec.ofChange memorySegmentsSpec)

/-- ITS FALSE NEIGHBOUR: 'it returns false'. Refute it at one input. -/
def memorySegmentsWrong : ChangeSpec := { name := "memorySegments", fn := fun _ => fun
  | [d1, d2] => { results := [.lit (.bool false)], args := [d1, d2] }
  | _ => none }
def MemorySegmentsWrongFalsely : Prop := memorySegmentsRow.holds Tryz.pinned (OpenSpec.ofChange memorySegmentsWrong)

/-- 'calquelaw46.MemoryMatches': WHATEVER THE INPUT: true; the input reads as it did. -/
def memoryMatchesSpec : ChangeSpec := { name := "memoryMatches", fn := fun _ => fun
  | [d1, d2, d3] => { results := [.lit (.bool true)], args := [d1, d2, d3] }
  | _ => none }
def memoryMatchesRow : OpenClaim := { program := "ytiijdojihleggaagreatdoor", sum := "61ee8074ef7798974d045952065b6a110e4ffd42bd8e1027e618c73824de21b0", func := "calque/calquelaw46.MemoryMatches", spec := "memoryMatches", inPlace := ["internal/bytealg.IndexByteString", "internal/abi.NoEscape", "internal/bytealg.IndexString"], unfollowed := true, recurses := true, named := ["internal/bytealg.MaxLen", "unicode/utf8.first", "unicode/utf8.acceptRanges"], apart := false, laid := [("unicode/utf8.acceptRanges", laid_unicode_utf8_acceptRanges), ("unicode/utf8.first", laid_unicode_utf8_first)] }
def MemoryMatchesSaid : Prop := memoryMatchesRow.holds Tryz.pinned (OpenSpec.ofChange memoryMatchesSpec)

/-- ITS FALSE NEIGHBOUR: 'it returns false'. Refute it at one input. -/
def memoryMatchesWrong : ChangeSpec := { name := "memoryMatches", fn := fun _ => fun
  | [d1, d2, d3] => { results := [.lit (.bool false)], args := [d1, d2, d3] }
  | _ => none }
def MemoryMatchesWrongFalsely : Prop := memoryMatchesRow.holds Tryz.pinned (OpenSpec.ofChange memoryMatchesWrong)

/-- 'calquelaw46.MemoryExact': WHATEVER THE INPUT: true; the input reads as it did. -/
def memoryExactSpec : ChangeSpec := { name := "memoryExact", fn := fun _ => fun
  | [d1, d2, d3] => { results := [.lit (.bool true)], args := [d1, d2, d3] }
  | _ => none }
def memoryExactRow : OpenClaim := { program := "ytiijdojihleggaagreatdoor", sum := "61ee8074ef7798974d045952065b6a110e4ffd42bd8e1027e618c73824de21b0", func := "calque/calquelaw46.MemoryExact", spec := "memoryExact", inPlace := ["internal/bytealg.IndexByteString", "internal/abi.NoEscape", "internal/bytealg.IndexString"], unfollowed := true, recurses := true, named := ["internal/bytealg.MaxLen", "unicode/utf8.first", "unicode/utf8.acceptRanges"], apart := false, laid := [("unicode/utf8.acceptRanges", laid_unicode_utf8_acceptRanges), ("unicode/utf8.first", laid_unicode_utf8_first)] }
def MemoryExactSaid : Prop := memoryExactRow.holds Tryz.pinned (OpenSpec.ofChange memoryExactSpec)

/-- ITS FALSE NEIGHBOUR: 'it returns false'. Refute it at one input. -/
def memoryExactWrong : ChangeSpec := { name := "memoryExact", fn := fun _ => fun
  | [d1, d2, d3] => { results := [.lit (.bool false)], args := [d1, d2, d3] }
  | _ => none }
def MemoryExactWrongFalsely : Prop := memoryExactRow.holds Tryz.pinned (OpenSpec.ofChange memoryExactWrong)

/-- 'calquelaw46.MemoryParallel': WHATEVER THE INPUT: true; the input reads as it did. -/
def memoryParallelSpec : ChangeSpec := { name := "memoryParallel", fn := fun _ => fun
  | [d1, d2] => { results := [.lit (.bool true)], args := [d1, d2] }
  | _ => none }
def memoryParallelRow : OpenClaim := { program := "ytiijdojihleggaagreatdoor", sum := "61ee8074ef7798974d045952065b6a110e4ffd42bd8e1027e618c73824de21b0", func := "calque/calquelaw46.MemoryParallel", spec := "memoryParallel", inPlace := ["internal/bytealg.IndexByteString", "internal/abi.NoEscape", "internal/bytealg.IndexString"], unfollowed := true, recurses := true, named := ["internal/bytealg.MaxLen", "unicode/utf8.first", "unicode/utf8.acceptRanges"], loops := true, apart := false, laid := [("unicode/utf8.acceptRanges", laid_unicode_utf8_acceptRanges), ("unicode/utf8.first", laid_unicode_utf8_first)] }
def MemoryParallelSaid : Prop := memoryParallelRow.holds Tryz.pinned (OpenSpec.ofChange memoryParallelSpec)

/-- ITS FALSE NEIGHBOUR: 'it returns false'. Refute it at one input. -/
def memoryParallelWrong : ChangeSpec := { name := "memoryParallel", fn := fun _ => fun
  | [d1, d2] => { results := [.lit (.bool false)], args := [d1, d2] }
  | _ => none }
def MemoryParallelWrongFalsely : Prop := memoryParallelRow.holds Tryz.pinned (OpenSpec.ofChange memoryParallelWrong)

/-- 'calquelaw46.MemoryFits': WHATEVER THE INPUT: true; the input reads as it did. -/
def memoryFitsSpec : ChangeSpec := { name := "memoryFits", fn := fun _ => fun
  | [d1, d2, d3] => { results := [.lit (.bool true)], args := [d1, d2, d3] }
  | _ => none }
def memoryFitsRow : OpenClaim := { program := "ytiijdojihleggaagreatdoor", sum := "61ee8074ef7798974d045952065b6a110e4ffd42bd8e1027e618c73824de21b0", func := "calque/calquelaw46.MemoryFits", spec := "memoryFits", inPlace := ["internal/bytealg.IndexByteString", "internal/abi.NoEscape", "internal/bytealg.IndexString"], unfollowed := true, recurses := true, named := ["internal/bytealg.MaxLen", "unicode/utf8.first", "unicode/utf8.acceptRanges"], apart := false, laid := [("unicode/utf8.acceptRanges", laid_unicode_utf8_acceptRanges), ("unicode/utf8.first", laid_unicode_utf8_first)] }
def MemoryFitsSaid : Prop := memoryFitsRow.holds Tryz.pinned (OpenSpec.ofChange memoryFitsSpec)

/-- ITS FALSE NEIGHBOUR: 'it returns false'. Refute it at one input. -/
def memoryFitsWrong : ChangeSpec := { name := "memoryFits", fn := fun _ => fun
  | [d1, d2, d3] => { results := [.lit (.bool false)], args := [d1, d2, d3] }
  | _ => none }
def MemoryFitsWrongFalsely : Prop := memoryFitsRow.holds Tryz.pinned (OpenSpec.ofChange memoryFitsWrong)

/-- 'calquelaw46.MemoryReturns': WHATEVER THE INPUT: true; the input reads as it did. -/
def memoryReturnsSpec : ChangeSpec := { name := "memoryReturns", fn := fun _ => fun
  | [d1, d2, d3] => { results := [.lit (.bool true)], args := [d1, d2, d3] }
  | _ => none }
def memoryReturnsRow : OpenClaim := { program := "ytiijdojihleggaagreatdoor", sum := "61ee8074ef7798974d045952065b6a110e4ffd42bd8e1027e618c73824de21b0", func := "calque/calquelaw46.MemoryReturns", spec := "memoryReturns", inPlace := ["internal/bytealg.IndexByteString", "internal/abi.NoEscape", "internal/bytealg.IndexString"], unfollowed := true, recurses := true, named := ["internal/bytealg.MaxLen", "unicode/utf8.first", "unicode/utf8.acceptRanges"], apart := false, laid := [("unicode/utf8.acceptRanges", laid_unicode_utf8_acceptRanges), ("unicode/utf8.first", laid_unicode_utf8_first)] }
def MemoryReturnsSaid : Prop := memoryReturnsRow.holds Tryz.pinned (OpenSpec.ofChange memoryReturnsSpec)

/-- ITS FALSE NEIGHBOUR: 'it returns false'. Refute it at one input. -/
def memoryReturnsWrong : ChangeSpec := { name := "memoryReturns", fn := fun _ => fun
  | [d1, d2, d3] => { results := [.lit (.bool false)], args := [d1, d2, d3] }
  | _ => none }
def MemoryReturnsWrongFalsely : Prop := memoryReturnsRow.holds Tryz.pinned (OpenSpec.ofChange memoryReturnsWrong)

/-- 'calquelaw46.MemoryNil': WHATEVER THE INPUT: true; the input reads as it did. -/
def memoryNilSpec : ChangeSpec := { name := "memoryNil", fn := fun _ => fun
  | [d1, d2, d3] => { results := [.lit (.bool true)], args := [d1, d2, d3] }
  | _ => none }
def memoryNilRow : OpenClaim := { program := "ytiijdojihleggaagreatdoor", sum := "61ee8074ef7798974d045952065b6a110e4ffd42bd8e1027e618c73824de21b0", func := "calque/calquelaw46.MemoryNil", spec := "memoryNil", inPlace := ["internal/bytealg.IndexByteString", "internal/abi.NoEscape", "internal/bytealg.IndexString"], unfollowed := true, recurses := true, named := ["internal/bytealg.MaxLen", "unicode/utf8.first", "unicode/utf8.acceptRanges"], apart := false, laid := [("unicode/utf8.acceptRanges", laid_unicode_utf8_acceptRanges), ("unicode/utf8.first", laid_unicode_utf8_first)] }
def MemoryNilSaid : Prop := memoryNilRow.holds Tryz.pinned (OpenSpec.ofChange memoryNilSpec)

/-- ITS FALSE NEIGHBOUR: 'it returns false'. Refute it at one input. -/
def memoryNilWrong : ChangeSpec := { name := "memoryNil", fn := fun _ => fun
  | [d1, d2, d3] => { results := [.lit (.bool false)], args := [d1, d2, d3] }
  | _ => none }
def MemoryNilWrongFalsely : Prop := memoryNilRow.holds Tryz.pinned (OpenSpec.ofChange memoryNilWrong)

/- THE SECOND FORM. 'bulk': how many values and letters a reading holds, each counted each time it is reached (what is shared counts as often as it is met; a slice's spare places count too). A statement '..UptoSaid' is the law's where the arguments, and the package variables that the reading takes, are together of bulk at most 1048576: NARROWER than '..Said'. Prove '..Said' where nothing that the law and all that it calls make is longer than what came in: it says more and counts as full. Else prove '..UptoSaid'. A law counts once. -/
mutual
def uptoBulk {H : Type} : DataW H → Nat
  | .lit (.string bytes) => bytes.length + 1
  | .lit _ => 1
  | .nil => 1
  | .ptr d => uptoBulk d + 1
  | .slice elems spare => uptoBulkAll elems + uptoBulkAll spare + 1
  | .agg parts => uptoBulkAll parts + 1
  | .iface _ d => uptoBulk d + 1
  | .map entries => uptoBulkEntries entries + 1
  | .held _ => 1
def uptoBulkAll {H : Type} : List (DataW H) → Nat
  | [] => 0
  | d :: r => uptoBulk d + uptoBulkAll r
def uptoBulkEntries {H : Type} : List (Lit × DataW H) → Nat
  | [] => 0
  | x :: r => uptoBulkEntry x + uptoBulkEntries r
def uptoBulkEntry {H : Type} : Lit × DataW H → Nat
  | (.string bytes, d) => bytes.length + uptoBulk d + 1
  | (_, d) => uptoBulk d + 1
 end
def uptoSmall : (H : Type) → List (DataW H) → Bool := fun _ ds => decide (uptoBulkAll ds ≤ 1048576)
def OpenSpec.upto (s : _root_.Go.ChangeSpec) : _root_.Go.OpenSpec := { _root_.Go.OpenSpec.ofChange s with cond := some uptoSmall }

/-- 'calquelaw46.MemorySegments', WHERE WHAT IT READS IS OF BULK AT MOST 1048576: true; the input reads as it did. -/
def memorySegmentsUptoRow : OpenClaim := { program := "ytiijdojihleggaagreatdoor", sum := "61ee8074ef7798974d045952065b6a110e4ffd42bd8e1027e618c73824de21b0", func := "calque/calquelaw46.MemorySegments", spec := "memorySegments", inPlace := ["internal/bytealg.IndexByteString", "internal/abi.NoEscape", "internal/bytealg.IndexString"], unfollowed := true, recurses := true, named := ["internal/bytealg.MaxLen", "unicode/utf8.first", "unicode/utf8.acceptRanges"], apart := false, laid := [("unicode/utf8.acceptRanges", laid_unicode_utf8_acceptRanges), ("unicode/utf8.first", laid_unicode_utf8_first)], narrowed := true }
def MemorySegmentsUptoSaid : Prop := memorySegmentsUptoRow.holds Tryz.pinned (OpenSpec.upto memorySegmentsSpec)

/-- 'calquelaw46.MemoryMatches', WHERE WHAT IT READS IS OF BULK AT MOST 1048576: true; the input reads as it did. -/
def memoryMatchesUptoRow : OpenClaim := { program := "ytiijdojihleggaagreatdoor", sum := "61ee8074ef7798974d045952065b6a110e4ffd42bd8e1027e618c73824de21b0", func := "calque/calquelaw46.MemoryMatches", spec := "memoryMatches", inPlace := ["internal/bytealg.IndexByteString", "internal/abi.NoEscape", "internal/bytealg.IndexString"], unfollowed := true, recurses := true, named := ["internal/bytealg.MaxLen", "unicode/utf8.first", "unicode/utf8.acceptRanges"], apart := false, laid := [("unicode/utf8.acceptRanges", laid_unicode_utf8_acceptRanges), ("unicode/utf8.first", laid_unicode_utf8_first)], narrowed := true }
def MemoryMatchesUptoSaid : Prop := memoryMatchesUptoRow.holds Tryz.pinned (OpenSpec.upto memoryMatchesSpec)

/-- 'calquelaw46.MemoryExact', WHERE WHAT IT READS IS OF BULK AT MOST 1048576: true; the input reads as it did. -/
def memoryExactUptoRow : OpenClaim := { program := "ytiijdojihleggaagreatdoor", sum := "61ee8074ef7798974d045952065b6a110e4ffd42bd8e1027e618c73824de21b0", func := "calque/calquelaw46.MemoryExact", spec := "memoryExact", inPlace := ["internal/bytealg.IndexByteString", "internal/abi.NoEscape", "internal/bytealg.IndexString"], unfollowed := true, recurses := true, named := ["internal/bytealg.MaxLen", "unicode/utf8.first", "unicode/utf8.acceptRanges"], apart := false, laid := [("unicode/utf8.acceptRanges", laid_unicode_utf8_acceptRanges), ("unicode/utf8.first", laid_unicode_utf8_first)], narrowed := true }
def MemoryExactUptoSaid : Prop := memoryExactUptoRow.holds Tryz.pinned (OpenSpec.upto memoryExactSpec)

/-- 'calquelaw46.MemoryParallel', WHERE WHAT IT READS IS OF BULK AT MOST 1048576: true; the input reads as it did. -/
def memoryParallelUptoRow : OpenClaim := { program := "ytiijdojihleggaagreatdoor", sum := "61ee8074ef7798974d045952065b6a110e4ffd42bd8e1027e618c73824de21b0", func := "calque/calquelaw46.MemoryParallel", spec := "memoryParallel", inPlace := ["internal/bytealg.IndexByteString", "internal/abi.NoEscape", "internal/bytealg.IndexString"], unfollowed := true, recurses := true, named := ["internal/bytealg.MaxLen", "unicode/utf8.first", "unicode/utf8.acceptRanges"], loops := true, apart := false, laid := [("unicode/utf8.acceptRanges", laid_unicode_utf8_acceptRanges), ("unicode/utf8.first", laid_unicode_utf8_first)], narrowed := true }
def MemoryParallelUptoSaid : Prop := memoryParallelUptoRow.holds Tryz.pinned (OpenSpec.upto memoryParallelSpec)

/-- 'calquelaw46.MemoryFits', WHERE WHAT IT READS IS OF BULK AT MOST 1048576: true; the input reads as it did. -/
def memoryFitsUptoRow : OpenClaim := { program := "ytiijdojihleggaagreatdoor", sum := "61ee8074ef7798974d045952065b6a110e4ffd42bd8e1027e618c73824de21b0", func := "calque/calquelaw46.MemoryFits", spec := "memoryFits", inPlace := ["internal/bytealg.IndexByteString", "internal/abi.NoEscape", "internal/bytealg.IndexString"], unfollowed := true, recurses := true, named := ["internal/bytealg.MaxLen", "unicode/utf8.first", "unicode/utf8.acceptRanges"], apart := false, laid := [("unicode/utf8.acceptRanges", laid_unicode_utf8_acceptRanges), ("unicode/utf8.first", laid_unicode_utf8_first)], narrowed := true }
def MemoryFitsUptoSaid : Prop := memoryFitsUptoRow.holds Tryz.pinned (OpenSpec.upto memoryFitsSpec)

/-- 'calquelaw46.MemoryReturns', WHERE WHAT IT READS IS OF BULK AT MOST 1048576: true; the input reads as it did. -/
def memoryReturnsUptoRow : OpenClaim := { program := "ytiijdojihleggaagreatdoor", sum := "61ee8074ef7798974d045952065b6a110e4ffd42bd8e1027e618c73824de21b0", func := "calque/calquelaw46.MemoryReturns", spec := "memoryReturns", inPlace := ["internal/bytealg.IndexByteString", "internal/abi.NoEscape", "internal/bytealg.IndexString"], unfollowed := true, recurses := true, named := ["internal/bytealg.MaxLen", "unicode/utf8.first", "unicode/utf8.acceptRanges"], apart := false, laid := [("unicode/utf8.acceptRanges", laid_unicode_utf8_acceptRanges), ("unicode/utf8.first", laid_unicode_utf8_first)], narrowed := true }
def MemoryReturnsUptoSaid : Prop := memoryReturnsUptoRow.holds Tryz.pinned (OpenSpec.upto memoryReturnsSpec)

/-- 'calquelaw46.MemoryNil', WHERE WHAT IT READS IS OF BULK AT MOST 1048576: true; the input reads as it did. -/
def memoryNilUptoRow : OpenClaim := { program := "ytiijdojihleggaagreatdoor", sum := "61ee8074ef7798974d045952065b6a110e4ffd42bd8e1027e618c73824de21b0", func := "calque/calquelaw46.MemoryNil", spec := "memoryNil", inPlace := ["internal/bytealg.IndexByteString", "internal/abi.NoEscape", "internal/bytealg.IndexString"], unfollowed := true, recurses := true, named := ["internal/bytealg.MaxLen", "unicode/utf8.first", "unicode/utf8.acceptRanges"], apart := false, laid := [("unicode/utf8.acceptRanges", laid_unicode_utf8_acceptRanges), ("unicode/utf8.first", laid_unicode_utf8_first)], narrowed := true }
def MemoryNilUptoSaid : Prop := memoryNilUptoRow.holds Tryz.pinned (OpenSpec.upto memoryNilSpec)

end Rows
end Go.Proofs.YtiijdojihleggaaGreatDoor
