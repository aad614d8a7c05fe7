/-
  DERIVED: THE SHELF's CONTRACTS AT THIS DUMP, IN PLAIN WORDS (tools/lay-plain.mjs out of 'TryzSrtS.lean', which tools/lay-shelf.mjs wrote): THE SAME DECLARATIONS UNDER THE SAME NAMES: 'import', 'namespace', 'open', 'def', 'theorem' AND NOTHING ELSE: no command of the shelf's: FOR A HAND-IN. Each laying: the table of numbers ('.._ren') and one theorem, a field a fact of the dump's own or the kernel's comparison; each contract: ONE APPLICATION.
-/
import Derived.Test.YtkflpenpjnnhdaaGreatDoorProg
import Derived.Shelf.SlSortCmp.NoneTotal
import Derived.Ground.SlsfProg
namespace Go.Proofs
open Go.Shelf
def Tryz.sf_ren : Go.Shelf.Ren := ⟨fun | 6 => 42 | 15 => 70 | 14 => 69 | 28 => 100 | 29 => 101 | 20 => 92 | 21 => 93 | 22 => 94 | 23 => 95 | 24 => 96 | 25 => 97 | 26 => 98 | 27 => 99 | 46 => 118 | 47 => 119 | 48 => 120 | 49 => 121 | 50 => 122 | 57 => 132 | n => n, fun | 22 => 40 | 24 => 3 | 25 => 80 | 3 => 3 | 39 => 99 | 0 => 0 | 53 => 127 | 55 => 33 | 4 => 4 | 46 => 120 | 45 => 119 | 50 => 124 | 5 => 5 | 9 => 9 | 66 => 140 | 70 => 144 | 76 => 152 | 77 => 153 | n => n, fun | n => n⟩
theorem Tryz.sf : Go.Proofs.SlLaysF.n6 Tryz.prog Tryz.sf_ren := {
  mixed := by kernel_rfl
  f6 := ⟨Tryz.f42.name, by decide, Tryz.func42.trans (congrArg some (by kernel_rfl))⟩
  f14 := ⟨Tryz.f69.name, by decide, Tryz.func69.trans (congrArg some (by kernel_rfl))⟩
  f15 := Tryz.func70.trans (congrArg some (by kernel_rfl))
  f20 := ⟨Tryz.f92.name, by decide, Tryz.func92.trans (congrArg some (by kernel_rfl))⟩
  f21 := ⟨Tryz.f93.name, by decide, Tryz.func93.trans (congrArg some (by kernel_rfl))⟩
  f22 := ⟨Tryz.f94.name, by decide, Tryz.func94.trans (congrArg some (by kernel_rfl))⟩
  f23 := ⟨Tryz.f95.name, by decide, Tryz.func95.trans (congrArg some (by kernel_rfl))⟩
  f24 := ⟨Tryz.f96.name, by decide, Tryz.func96.trans (congrArg some (by kernel_rfl))⟩
  f25 := ⟨Tryz.f97.name, by decide, Tryz.func97.trans (congrArg some (by kernel_rfl))⟩
  f26 := ⟨Tryz.f98.name, by decide, Tryz.func98.trans (congrArg some (by kernel_rfl))⟩
  f27 := ⟨Tryz.f99.name, by decide, Tryz.func99.trans (congrArg some (by kernel_rfl))⟩
  f28 := Tryz.func100.trans (congrArg some (by kernel_rfl))
  f29 := Tryz.func101.trans (congrArg some (by kernel_rfl))
  f46 := ⟨Tryz.f118.name, by decide, Tryz.func118.trans (congrArg some (by kernel_rfl))⟩
  f47 := Tryz.func119.trans (congrArg some (by kernel_rfl))
  f48 := Tryz.func120.trans (congrArg some (by kernel_rfl))
  f49 := ⟨Tryz.f121.name, by decide, Tryz.func121.trans (congrArg some (by kernel_rfl))⟩
  f50 := ⟨Tryz.f122.name, by decide, Tryz.func122.trans (congrArg some (by kernel_rfl))⟩
  f57 := ⟨Tryz.f132.name, by decide, Tryz.func132.trans (congrArg some (by kernel_rfl))⟩
  t0 := Tryz.underlying0
  a0 := Tryz.isAgg0
  z0 := Tryz.sizeOf0
  v0 := Tryz.zeroValue0
  t3 := Tryz.underlying3
  a3 := Tryz.isAgg3
  z3 := Tryz.sizeOf3
  v3 := Tryz.zeroValue3
  t4 := Tryz.underlying4
  a4 := Tryz.isAgg4
  z4 := Tryz.sizeOf4
  v4 := Tryz.zeroValue4
  t5 := Tryz.underlying5
  a5 := Tryz.isAgg5
  z5 := Tryz.sizeOf5
  v5 := Tryz.zeroValue5
  t9 := Tryz.underlying9
  a9 := Tryz.isAgg9
  z9 := Tryz.sizeOf9
  v9 := Tryz.zeroValue9
  t22 := Tryz.underlying40
  a22 := Tryz.isAgg40
  z22 := Tryz.sizeOf40
  v22 := Tryz.zeroValue40
  a24 := Tryz.isAgg3
  z24 := Tryz.sizeOf3
  t25 := Tryz.underlying80
  a25 := Tryz.isAgg80
  z25 := Tryz.sizeOf80
  v25 := Tryz.zeroValue80
  t39 := Tryz.underlying99
  a39 := Tryz.isAgg99
  z39 := Tryz.sizeOf99
  v39 := Tryz.zeroValue99
  t45 := Tryz.underlying119
  a45 := Tryz.isAgg119
  z45 := Tryz.sizeOf119
  v45 := Tryz.zeroValue119
  t46 := Tryz.underlying120
  a46 := Tryz.isAgg120
  z46 := Tryz.sizeOf120
  v46 := Tryz.zeroValue120
  t50 := Tryz.underlying124
  a50 := Tryz.isAgg124
  z50 := Tryz.sizeOf124
  v50 := Tryz.zeroValue124
  t53 := Tryz.underlying127
  a53 := Tryz.isAgg127
  z53 := Tryz.sizeOf127
  v53 := Tryz.zeroValue127
  t55 := Tryz.underlying33
  a55 := Tryz.isAgg33
  z55 := Tryz.sizeOf33
  v55 := Tryz.zeroValue33
  t66 := Tryz.underlying140
  a66 := Tryz.isAgg140
  z66 := Tryz.sizeOf140
  v66 := Tryz.zeroValue140
  t70 := Tryz.underlying144
  a70 := Tryz.isAgg144
  z70 := Tryz.sizeOf144
  v70 := Tryz.zeroValue144
  t76 := Tryz.underlying152
  a76 := Tryz.isAgg152
  z76 := Tryz.sizeOf152
  v76 := Tryz.zeroValue152
  t77 := Tryz.underlying153
  a77 := Tryz.isAgg153
  z77 := Tryz.sizeOf153
  v77 := Tryz.zeroValue153 }
end Go.Proofs
