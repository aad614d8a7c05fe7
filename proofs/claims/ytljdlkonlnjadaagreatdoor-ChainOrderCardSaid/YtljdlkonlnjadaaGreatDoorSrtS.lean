/-
  DERIVED: THE SHELF's CONTRACTS AT THIS DUMP, IN PLAIN WORDS (tools/lay-plain.mjs out of 'TryzSrtS.lean', which tools/lay-shelf.mjs wrote): THE SAME DECLARATIONS UNDER THE SAME NAMES: 'import', 'namespace', 'open', 'def', 'theorem' AND NOTHING ELSE: no command of the shelf's: FOR A HAND-IN. Each laying: the table of numbers ('.._ren') and one theorem, a field a fact of the dump's own or the kernel's comparison; each contract: ONE APPLICATION.
-/
import Derived.Test.YtljdlkonlnjadaaGreatDoorProg
import Derived.Shelf.SlSortCmp.NoneTotal
import Derived.Ground.SlsfProg
namespace Go.Proofs
open Go.Shelf
def Tryz.sf_ren : Go.Shelf.Ren := ⟨fun | 6 => 109 | 15 => 94 | 14 => 171 | 28 => 127 | 29 => 128 | 20 => 202 | 21 => 203 | 22 => 204 | 23 => 205 | 24 => 206 | 25 => 207 | 26 => 208 | 27 => 209 | 46 => 234 | 47 => 177 | 48 => 178 | 49 => 235 | 50 => 236 | 57 => 247 | n => n, fun | 22 => 43 | 24 => 3 | 25 => 174 | 3 => 3 | 39 => 150 | 0 => 0 | 53 => 189 | 55 => 191 | 4 => 4 | 46 => 182 | 45 => 181 | 50 => 186 | 5 => 5 | 9 => 9 | 66 => 221 | 70 => 225 | 76 => 258 | 77 => 259 | n => n, fun | n => n⟩
theorem Tryz.sf : Go.Proofs.SlLaysF.n6 Tryz.prog Tryz.sf_ren := {
  mixed := by kernel_rfl
  f6 := ⟨Tryz.f109.name, by decide, Tryz.func109.trans (congrArg some (by kernel_rfl))⟩
  f14 := ⟨Tryz.f171.name, by decide, Tryz.func171.trans (congrArg some (by kernel_rfl))⟩
  f15 := Tryz.func94.trans (congrArg some (by kernel_rfl))
  f20 := ⟨Tryz.f202.name, by decide, Tryz.func202.trans (congrArg some (by kernel_rfl))⟩
  f21 := ⟨Tryz.f203.name, by decide, Tryz.func203.trans (congrArg some (by kernel_rfl))⟩
  f22 := ⟨Tryz.f204.name, by decide, Tryz.func204.trans (congrArg some (by kernel_rfl))⟩
  f23 := ⟨Tryz.f205.name, by decide, Tryz.func205.trans (congrArg some (by kernel_rfl))⟩
  f24 := ⟨Tryz.f206.name, by decide, Tryz.func206.trans (congrArg some (by kernel_rfl))⟩
  f25 := ⟨Tryz.f207.name, by decide, Tryz.func207.trans (congrArg some (by kernel_rfl))⟩
  f26 := ⟨Tryz.f208.name, by decide, Tryz.func208.trans (congrArg some (by kernel_rfl))⟩
  f27 := ⟨Tryz.f209.name, by decide, Tryz.func209.trans (congrArg some (by kernel_rfl))⟩
  f28 := Tryz.func127.trans (congrArg some (by kernel_rfl))
  f29 := Tryz.func128.trans (congrArg some (by kernel_rfl))
  f46 := ⟨Tryz.f234.name, by decide, Tryz.func234.trans (congrArg some (by kernel_rfl))⟩
  f47 := Tryz.func177.trans (congrArg some (by kernel_rfl))
  f48 := Tryz.func178.trans (congrArg some (by kernel_rfl))
  f49 := ⟨Tryz.f235.name, by decide, Tryz.func235.trans (congrArg some (by kernel_rfl))⟩
  f50 := ⟨Tryz.f236.name, by decide, Tryz.func236.trans (congrArg some (by kernel_rfl))⟩
  f57 := ⟨Tryz.f247.name, by decide, Tryz.func247.trans (congrArg some (by kernel_rfl))⟩
  t0 := Tryz.underlying0
  a0 := Tryz.isAgg0
  z0 := Tryz.sizeOf0
  v0 := Tryz.zeroValue0
  t3 := Tryz.underlying3
  a3 := Tryz.isAgg3
  z3 := Tryz.sizeOf3
  v3 := Tryz.zeroValue3
  t4 := Tryz.underlying4
  a4 := Tryz.isAgg4
  z4 := Tryz.sizeOf4
  v4 := Tryz.zeroValue4
  t5 := Tryz.underlying5
  a5 := Tryz.isAgg5
  z5 := Tryz.sizeOf5
  v5 := Tryz.zeroValue5
  t9 := Tryz.underlying9
  a9 := Tryz.isAgg9
  z9 := Tryz.sizeOf9
  v9 := Tryz.zeroValue9
  t22 := Tryz.underlying43
  a22 := Tryz.isAgg43
  z22 := Tryz.sizeOf43
  v22 := Tryz.zeroValue43
  a24 := Tryz.isAgg3
  z24 := Tryz.sizeOf3
  t25 := Tryz.underlying174
  a25 := Tryz.isAgg174
  z25 := Tryz.sizeOf174
  v25 := Tryz.zeroValue174
  t39 := Tryz.underlying150
  a39 := Tryz.isAgg150
  z39 := Tryz.sizeOf150
  v39 := Tryz.zeroValue150
  t45 := Tryz.underlying181
  a45 := Tryz.isAgg181
  z45 := Tryz.sizeOf181
  v45 := Tryz.zeroValue181
  t46 := Tryz.underlying182
  a46 := Tryz.isAgg182
  z46 := Tryz.sizeOf182
  v46 := Tryz.zeroValue182
  t50 := Tryz.underlying186
  a50 := Tryz.isAgg186
  z50 := Tryz.sizeOf186
  v50 := Tryz.zeroValue186
  t53 := Tryz.underlying189
  a53 := Tryz.isAgg189
  z53 := Tryz.sizeOf189
  v53 := Tryz.zeroValue189
  t55 := Tryz.underlying191
  a55 := Tryz.isAgg191
  z55 := Tryz.sizeOf191
  v55 := Tryz.zeroValue191
  t66 := Tryz.underlying221
  a66 := Tryz.isAgg221
  z66 := Tryz.sizeOf221
  v66 := Tryz.zeroValue221
  t70 := Tryz.underlying225
  a70 := Tryz.isAgg225
  z70 := Tryz.sizeOf225
  v70 := Tryz.zeroValue225
  t76 := Tryz.underlying258
  a76 := Tryz.isAgg258
  z76 := Tryz.sizeOf258
  v76 := Tryz.zeroValue258
  t77 := Tryz.underlying259
  a77 := Tryz.isAgg259
  z77 := Tryz.sizeOf259
  v77 := Tryz.zeroValue259 }
end Go.Proofs
