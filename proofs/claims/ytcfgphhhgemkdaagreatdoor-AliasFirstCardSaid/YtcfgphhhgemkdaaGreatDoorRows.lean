/-
  NARROWER THAN 'FOR EVERY INPUT', by the rows' own cells (each row's printed sentence says how): AliasValid: laid · AliasSteps: laid · AliasReplace: laid · AliasFirst: laid.
  DERIVED. THE GIVEN ROWS OF THIS SEAT. 4 by the template 'for every input the law returns true; each argument reads behind the call as it read before'; 0 by the template 'total and deterministic' (their statements: YtcfgphhhgemkdaaGreatDoorTotals.lean).
  GIVEN WITH THE SEED: the statements are not yours to turn. If you find one false, say at which input.
  Laid BY PROGRAM, IN A SANDBOX (cutbox-rows.mjs): the forced cells as the released guide's own fill.sh prints them over the translation 36e3642656de618e… (all of the seat's roots in one cut). By AI agents, Wed Nov 11 2026. No macro, syntax, notation, axiom, sorry.
-/
import Derived.Test.YtcfgphhhgemkdaaGreatDoorChecked
import GoSem.PinnedTables
import GoSem.Claim
import GoSem.ClaimJoined
import GoSem.ClaimMapViews
import Derived.JoinedTies
import Derived.KernelRfl
namespace Go.Proofs.YtcfgphhhgemkdaaGreatDoor
/- THE CELL 'sum', in the pinned program and in every row, IS THE sha256 OF THE DUMP (.gsa) THAT YtcfgphhhgemkdaaGreatDoorProg.lean LOADS. Nothing in Lean hashes anything: it is a label: what it is worth is what the hold of that sum in a sandbox is worth. -/
noncomputable def Tryz.pinned : Pinned := { name := "ytcfgphhhgemkdaagreatdoor", sum := "36e3642656de618eb177c87fd47e7c2c8b7d3d92de7ccab72497bdadc6ca7c92", checked := Tryz.checked }
namespace Rows
def none {H : Type} : Left H := { results := [], args := [] }

/- WHAT THE LISTED PACKAGE-LEVEL VARIABLES READ AS WHEN THE CALL BEGINS. Each datum BY PROGRAM (the guide's laid-datum.mjs) off the statement by which the dump's own 'gosem.cut.vars' lays the variable. In a bare row this is a premise. The card (YtcfgphhhgemkdaaGreatDoorCards.lean) ties it to the program's text. -/
def laid_unicode_utf8_acceptRanges {H : Type} : DataW H := .agg [.agg [.lit (.int .u8 128), .lit (.int .u8 191)], .agg [.lit (.int .u8 160), .lit (.int .u8 191)], .agg [.lit (.int .u8 128), .lit (.int .u8 159)], .agg [.lit (.int .u8 144), .lit (.int .u8 191)], .agg [.lit (.int .u8 128), .lit (.int .u8 143)], .agg [.lit (.int .u8 0), .lit (.int .u8 0)], .agg [.lit (.int .u8 0), .lit (.int .u8 0)], .agg [.lit (.int .u8 0), .lit (.int .u8 0)], .agg [.lit (.int .u8 0), .lit (.int .u8 0)], .agg [.lit (.int .u8 0), .lit (.int .u8 0)], .agg [.lit (.int .u8 0), .lit (.int .u8 0)], .agg [.lit (.int .u8 0), .lit (.int .u8 0)], .agg [.lit (.int .u8 0), .lit (.int .u8 0)], .agg [.lit (.int .u8 0), .lit (.int .u8 0)], .agg [.lit (.int .u8 0), .lit (.int .u8 0)], .agg [.lit (.int .u8 0), .lit (.int .u8 0)]]
/-- One of Go's own tables, pinned by name: the form's constant. -/
def laid_unicode_utf8_first : DataW Unit := Go.Pinned.utf8First

/-- 'calquelaw20.AliasValid': WHATEVER THE INPUT: true; the input reads as it did. -/
def aliasValidSpec : ChangeSpec := { name := "aliasValid", fn := fun _ => fun
  | [d] => { results := [.lit (.bool true)], args := [d] }
  | _ => none }
def aliasValidRow : OpenClaim := { program := "ytcfgphhhgemkdaagreatdoor", sum := "36e3642656de618eb177c87fd47e7c2c8b7d3d92de7ccab72497bdadc6ca7c92", func := "calque/calquelaw20.AliasValid", spec := "aliasValid", inPlace := ["internal/bytealg.CountString", "internal/bytealg.IndexByteString", "internal/bytealg.IndexString", "internal/abi.NoEscape", "internal/bytealg.MakeNoZero"], unfollowed := true, recurses := true, named := ["internal/bytealg.MaxLen", "unicode/utf8.first", "unicode/utf8.acceptRanges"], apart := false, laid := [("unicode/utf8.acceptRanges", laid_unicode_utf8_acceptRanges), ("unicode/utf8.first", laid_unicode_utf8_first)] }
def AliasValidSaid : Prop := aliasValidRow.holds Tryz.pinned (OpenSpec.ofChange aliasValidSpec)

/-- ITS FALSE NEIGHBOUR: 'it returns false'. Refute it at one input. -/
def aliasValidWrong : ChangeSpec := { name := "aliasValid", fn := fun _ => fun
  | [d] => { results := [.lit (.bool false)], args := [d] }
  | _ => none }
def AliasValidWrongFalsely : Prop := aliasValidRow.holds Tryz.pinned (OpenSpec.ofChange aliasValidWrong)

/-- 'calquelaw20.AliasSteps': WHATEVER THE INPUT: true; the input reads as it did. -/
def aliasStepsSpec : ChangeSpec := { name := "aliasSteps", fn := fun _ => fun
  | [d1, d2] => { results := [.lit (.bool true)], args := [d1, d2] }
  | _ => none }
def aliasStepsRow : OpenClaim := { program := "ytcfgphhhgemkdaagreatdoor", sum := "36e3642656de618eb177c87fd47e7c2c8b7d3d92de7ccab72497bdadc6ca7c92", func := "calque/calquelaw20.AliasSteps", spec := "aliasSteps", inPlace := ["internal/bytealg.CountString", "internal/bytealg.IndexByteString", "internal/bytealg.IndexString", "internal/abi.NoEscape", "internal/bytealg.MakeNoZero"], unfollowed := true, recurses := true, named := ["internal/bytealg.MaxLen", "unicode/utf8.first", "unicode/utf8.acceptRanges"], apart := false, laid := [("unicode/utf8.acceptRanges", laid_unicode_utf8_acceptRanges), ("unicode/utf8.first", laid_unicode_utf8_first)] }
def AliasStepsSaid : Prop := aliasStepsRow.holds Tryz.pinned (OpenSpec.ofChange aliasStepsSpec)

/-- ITS FALSE NEIGHBOUR: 'it returns false'. Refute it at one input. -/
def aliasStepsWrong : ChangeSpec := { name := "aliasSteps", fn := fun _ => fun
  | [d1, d2] => { results := [.lit (.bool false)], args := [d1, d2] }
  | _ => none }
def AliasStepsWrongFalsely : Prop := aliasStepsRow.holds Tryz.pinned (OpenSpec.ofChange aliasStepsWrong)

/-- 'calquelaw20.AliasReplace': WHATEVER THE INPUT: true; the input reads as it did. -/
def aliasReplaceSpec : ChangeSpec := { name := "aliasReplace", fn := fun _ => fun
  | [d1, d2] => { results := [.lit (.bool true)], args := [d1, d2] }
  | _ => none }
def aliasReplaceRow : OpenClaim := { program := "ytcfgphhhgemkdaagreatdoor", sum := "36e3642656de618eb177c87fd47e7c2c8b7d3d92de7ccab72497bdadc6ca7c92", func := "calque/calquelaw20.AliasReplace", spec := "aliasReplace", inPlace := ["internal/bytealg.CountString", "internal/bytealg.IndexByteString", "internal/bytealg.IndexString", "internal/abi.NoEscape", "internal/bytealg.MakeNoZero"], unfollowed := true, recurses := true, named := ["internal/bytealg.MaxLen", "unicode/utf8.first", "unicode/utf8.acceptRanges"], apart := false, laid := [("unicode/utf8.acceptRanges", laid_unicode_utf8_acceptRanges), ("unicode/utf8.first", laid_unicode_utf8_first)] }
def AliasReplaceSaid : Prop := aliasReplaceRow.holds Tryz.pinned (OpenSpec.ofChange aliasReplaceSpec)

/-- ITS FALSE NEIGHBOUR: 'it returns false'. Refute it at one input. -/
def aliasReplaceWrong : ChangeSpec := { name := "aliasReplace", fn := fun _ => fun
  | [d1, d2] => { results := [.lit (.bool false)], args := [d1, d2] }
  | _ => none }
def AliasReplaceWrongFalsely : Prop := aliasReplaceRow.holds Tryz.pinned (OpenSpec.ofChange aliasReplaceWrong)

/-- 'calquelaw20.AliasFirst': WHATEVER THE INPUT: true; the input reads as it did. -/
def aliasFirstSpec : ChangeSpec := { name := "aliasFirst", fn := fun _ => fun
  | [d1, d2, d3] => { results := [.lit (.bool true)], args := [d1, d2, d3] }
  | _ => none }
def aliasFirstRow : OpenClaim := { program := "ytcfgphhhgemkdaagreatdoor", sum := "36e3642656de618eb177c87fd47e7c2c8b7d3d92de7ccab72497bdadc6ca7c92", func := "calque/calquelaw20.AliasFirst", spec := "aliasFirst", inPlace := ["internal/bytealg.CountString", "internal/bytealg.IndexByteString", "internal/bytealg.IndexString", "internal/abi.NoEscape", "internal/bytealg.MakeNoZero"], unfollowed := true, recurses := true, named := ["internal/bytealg.MaxLen", "unicode/utf8.first", "unicode/utf8.acceptRanges"], apart := false, laid := [("unicode/utf8.acceptRanges", laid_unicode_utf8_acceptRanges), ("unicode/utf8.first", laid_unicode_utf8_first)] }
def AliasFirstSaid : Prop := aliasFirstRow.holds Tryz.pinned (OpenSpec.ofChange aliasFirstSpec)

/-- ITS FALSE NEIGHBOUR: 'it returns false'. Refute it at one input. -/
def aliasFirstWrong : ChangeSpec := { name := "aliasFirst", fn := fun _ => fun
  | [d1, d2, d3] => { results := [.lit (.bool false)], args := [d1, d2, d3] }
  | _ => none }
def AliasFirstWrongFalsely : Prop := aliasFirstRow.holds Tryz.pinned (OpenSpec.ofChange aliasFirstWrong)

/- THE SECOND FORM. 'bulk': how many values and letters a reading holds, each counted each time it is reached (what is shared counts as often as it is met; a slice's spare places count too). A statement '..UptoSaid' is the law's where the arguments, and the package variables that the reading takes, are together of bulk at most 1048576: NARROWER than '..Said'. Prove '..Said' where nothing that the law and all that it calls make is longer than what came in: it says more and counts as full. Else prove '..UptoSaid'. A law counts once. -/
mutual
def uptoBulk {H : Type} : DataW H → Nat
  | .lit (.string bytes) => bytes.length + 1
  | .lit _ => 1
  | .nil => 1
  | .ptr d => uptoBulk d + 1
  | .slice elems spare => uptoBulkAll elems + uptoBulkAll spare + 1
  | .agg parts => uptoBulkAll parts + 1
  | .iface _ d => uptoBulk d + 1
  | .map entries => uptoBulkEntries entries + 1
  | .held _ => 1
def uptoBulkAll {H : Type} : List (DataW H) → Nat
  | [] => 0
  | d :: r => uptoBulk d + uptoBulkAll r
def uptoBulkEntries {H : Type} : List (Lit × DataW H) → Nat
  | [] => 0
  | x :: r => uptoBulkEntry x + uptoBulkEntries r
def uptoBulkEntry {H : Type} : Lit × DataW H → Nat
  | (.string bytes, d) => bytes.length + uptoBulk d + 1
  | (_, d) => uptoBulk d + 1
 end
def uptoSmall : (H : Type) → List (DataW H) → Bool := fun _ ds => decide (uptoBulkAll ds ≤ 1048576)
def OpenSpec.upto (s : _root_.Go.ChangeSpec) : _root_.Go.OpenSpec := { _root_.Go.OpenSpec.ofChange s with cond := some uptoSmall }

/-- 'calquelaw20.AliasValid', WHERE WHAT IT READS IS OF BULK AT MOST 1048576: true; the input reads as it did. -/
def aliasValidUptoRow : OpenClaim := { program := "ytcfgphhhgemkdaagreatdoor", sum := "36e3642656de618eb177c87fd47e7c2c8b7d3d92de7ccab72497bdadc6ca7c92", func := "calque/calquelaw20.AliasValid", spec := "aliasValid", inPlace := ["internal/bytealg.CountString", "internal/bytealg.IndexByteString", "internal/bytealg.IndexString", "internal/abi.NoEscape", "internal/bytealg.MakeNoZero"], unfollowed := true, recurses := true, named := ["internal/bytealg.MaxLen", "unicode/utf8.first", "unicode/utf8.acceptRanges"], apart := false, laid := [("unicode/utf8.acceptRanges", laid_unicode_utf8_acceptRanges), ("unicode/utf8.first", laid_unicode_utf8_first)], narrowed := true }
def AliasValidUptoSaid : Prop := aliasValidUptoRow.holds Tryz.pinned (OpenSpec.upto aliasValidSpec)

/-- 'calquelaw20.AliasSteps', WHERE WHAT IT READS IS OF BULK AT MOST 1048576: true; the input reads as it did. -/
def aliasStepsUptoRow : OpenClaim := { program := "ytcfgphhhgemkdaagreatdoor", sum := "36e3642656de618eb177c87fd47e7c2c8b7d3d92de7ccab72497bdadc6ca7c92", func := "calque/calquelaw20.AliasSteps", spec := "aliasSteps", inPlace := ["internal/bytealg.CountString", "internal/bytealg.IndexByteString", "internal/bytealg.IndexString", "internal/abi.NoEscape", "internal/bytealg.MakeNoZero"], unfollowed := true, recurses := true, named := ["internal/bytealg.MaxLen", "unicode/utf8.first", "unicode/utf8.acceptRanges"], apart := false, laid := [("unicode/utf8.acceptRanges", laid_unicode_utf8_acceptRanges), ("unicode/utf8.first", laid_unicode_utf8_first)], narrowed := true }
def AliasStepsUptoSaid : Prop := aliasStepsUptoRow.holds Tryz.pinned (OpenSpec.upto aliasStepsSpec)

/-- 'calquelaw20.AliasReplace', WHERE WHAT IT READS IS OF BULK AT MOST 1048576: true; the input reads as it did. -/
def aliasReplaceUptoRow : OpenClaim := { program := "ytcfgphhhgemkdaagreatdoor", sum := "36e3642656de618eb177c87fd47e7c2c8b7d3d92de7ccab72497bdadc6ca7c92", func := "calque/calquelaw20.AliasReplace", spec := "aliasReplace", inPlace := ["internal/bytealg.CountString", "internal/bytealg.IndexByteString", "internal/bytealg.IndexString", "internal/abi.NoEscape", "internal/bytealg.MakeNoZero"], unfollowed := true, recurses := true, named := ["internal/bytealg.MaxLen", "unicode/utf8.first", "unicode/utf8.acceptRanges"], apart := false, laid := [("unicode/utf8.acceptRanges", laid_unicode_utf8_acceptRanges), ("unicode/utf8.first", laid_unicode_utf8_first)], narrowed := true }
def AliasReplaceUptoSaid : Prop := aliasReplaceUptoRow.holds Tryz.pinned (OpenSpec.upto aliasReplaceSpec)

/-- 'calquelaw20.AliasFirst', WHERE WHAT IT READS IS OF BULK AT MOST 1048576: true; the input reads as it did. -/
def aliasFirstUptoRow : OpenClaim := { program := "ytcfgphhhgemkdaagreatdoor", sum := "36e3642656de618eb177c87fd47e7c2c8b7d3d92de7ccab72497bdadc6ca7c92", func := "calque/calquelaw20.AliasFirst", spec := "aliasFirst", inPlace := ["internal/bytealg.CountString", "internal/bytealg.IndexByteString", "internal/bytealg.IndexString", "internal/abi.NoEscape", "internal/bytealg.MakeNoZero"], unfollowed := true, recurses := true, named := ["internal/bytealg.MaxLen", "unicode/utf8.first", "unicode/utf8.acceptRanges"], apart := false, laid := [("unicode/utf8.acceptRanges", laid_unicode_utf8_acceptRanges), ("unicode/utf8.first", laid_unicode_utf8_first)], narrowed := true }
def AliasFirstUptoSaid : Prop := aliasFirstUptoRow.holds Tryz.pinned (OpenSpec.upto aliasFirstSpec)

end Rows
end Go.Proofs.YtcfgphhhgemkdaaGreatDoor
