/-
  DERIVED: THE SHELF's CONTRACTS AT THIS DUMP, IN PLAIN WORDS (tools/lay-plain.mjs out of 'TryzSrtM.lean', which tools/lay-shelf.mjs wrote): THE SAME DECLARATIONS UNDER THE SAME NAMES: 'import', 'namespace', 'open', 'def', 'theorem' AND NOTHING ELSE: no command of the shelf's: FOR A HAND-IN. Each laying: the table of numbers ('.._ren') and one theorem, a field a fact of the dump's own or the kernel's comparison; each contract: ONE APPLICATION.
-/
import Derived.Test.YtiijdojihleggaaGreatDoorProg
import Derived.Shelf.SlSortCmp.InsertionK
import Derived.Ground.SlsfProg
namespace Go.Proofs
open Go.Shelf
def Tryz.insM_ren : Go.Shelf.Ren := ⟨fun | 20 => 76 | n => n, fun | 24 => 39 | 22 => 33 | 3 => 3 | 25 => 88 | 4 => 4 | 0 => 0 | n => n, fun | n => n⟩
theorem Tryz.insM : Go.Proofs.SlLaysF0.n20 Tryz.prog Tryz.insM_ren := {
  mixed := by kernel_rfl
  f20 := ⟨Tryz.f76.name, by decide, Tryz.func76.trans (congrArg some (by kernel_rfl))⟩
  t0 := Tryz.underlying0
  a0 := Tryz.isAgg0
  z0 := Tryz.sizeOf0
  v0 := Tryz.zeroValue0
  t3 := Tryz.underlying3
  a3 := Tryz.isAgg3
  z3 := Tryz.sizeOf3
  v3 := Tryz.zeroValue3
  t4 := Tryz.underlying4
  a4 := Tryz.isAgg4
  z4 := Tryz.sizeOf4
  v4 := Tryz.zeroValue4
  t22 := Tryz.underlying33
  a22 := Tryz.isAgg33
  z22 := Tryz.sizeOf33
  v22 := Tryz.zeroValue33
  t25 := Tryz.underlying88
  a25 := Tryz.isAgg88
  z25 := Tryz.sizeOf88
  v25 := Tryz.zeroValue88 }
end Go.Proofs
