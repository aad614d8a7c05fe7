/-
  DERIVED: THE SHELF's CONTRACTS AT THIS DUMP, IN PLAIN WORDS (tools/lay-plain.mjs out of 'TryzSrtS.lean', which tools/lay-shelf.mjs wrote): THE SAME DECLARATIONS UNDER THE SAME NAMES: 'import', 'namespace', 'open', 'def', 'theorem' AND NOTHING ELSE: no command of the shelf's: FOR A HAND-IN. Each laying: the table of numbers ('.._ren') and one theorem, a field a fact of the dump's own or the kernel's comparison; each contract: ONE APPLICATION.
-/
import Derived.Test.YtehcldnicefmeaaGreatDoorProg
import Derived.Shelf.SlSortCmp.NoneTotal
import Derived.Ground.SlsfProg
namespace Go.Proofs
open Go.Shelf
def Tryz.sf_ren : Go.Shelf.Ren := ⟨fun | 6 => 128 | 15 => 113 | 14 => 192 | 28 => 150 | 29 => 151 | 20 => 223 | 21 => 224 | 22 => 225 | 23 => 226 | 24 => 227 | 25 => 228 | 26 => 229 | 27 => 230 | 46 => 255 | 47 => 198 | 48 => 199 | 49 => 256 | 50 => 257 | 57 => 268 | n => n, fun | 22 => 60 | 24 => 3 | 25 => 196 | 3 => 3 | 39 => 173 | 0 => 0 | 53 => 215 | 55 => 217 | 4 => 4 | 46 => 208 | 45 => 207 | 50 => 212 | 5 => 5 | 9 => 9 | 66 => 245 | 70 => 249 | 76 => 282 | 77 => 283 | n => n, fun | n => n⟩
theorem Tryz.sf : Go.Proofs.SlLaysF.n6 Tryz.prog Tryz.sf_ren := {
  mixed := by kernel_rfl
  f6 := ⟨Tryz.f128.name, by decide, Tryz.func128.trans (congrArg some (by kernel_rfl))⟩
  f14 := ⟨Tryz.f192.name, by decide, Tryz.func192.trans (congrArg some (by kernel_rfl))⟩
  f15 := Tryz.func113.trans (congrArg some (by kernel_rfl))
  f20 := ⟨Tryz.f223.name, by decide, Tryz.func223.trans (congrArg some (by kernel_rfl))⟩
  f21 := ⟨Tryz.f224.name, by decide, Tryz.func224.trans (congrArg some (by kernel_rfl))⟩
  f22 := ⟨Tryz.f225.name, by decide, Tryz.func225.trans (congrArg some (by kernel_rfl))⟩
  f23 := ⟨Tryz.f226.name, by decide, Tryz.func226.trans (congrArg some (by kernel_rfl))⟩
  f24 := ⟨Tryz.f227.name, by decide, Tryz.func227.trans (congrArg some (by kernel_rfl))⟩
  f25 := ⟨Tryz.f228.name, by decide, Tryz.func228.trans (congrArg some (by kernel_rfl))⟩
  f26 := ⟨Tryz.f229.name, by decide, Tryz.func229.trans (congrArg some (by kernel_rfl))⟩
  f27 := ⟨Tryz.f230.name, by decide, Tryz.func230.trans (congrArg some (by kernel_rfl))⟩
  f28 := Tryz.func150.trans (congrArg some (by kernel_rfl))
  f29 := Tryz.func151.trans (congrArg some (by kernel_rfl))
  f46 := ⟨Tryz.f255.name, by decide, Tryz.func255.trans (congrArg some (by kernel_rfl))⟩
  f47 := Tryz.func198.trans (congrArg some (by kernel_rfl))
  f48 := Tryz.func199.trans (congrArg some (by kernel_rfl))
  f49 := ⟨Tryz.f256.name, by decide, Tryz.func256.trans (congrArg some (by kernel_rfl))⟩
  f50 := ⟨Tryz.f257.name, by decide, Tryz.func257.trans (congrArg some (by kernel_rfl))⟩
  f57 := ⟨Tryz.f268.name, by decide, Tryz.func268.trans (congrArg some (by kernel_rfl))⟩
  t0 := Tryz.underlying0
  a0 := Tryz.isAgg0
  z0 := Tryz.sizeOf0
  v0 := Tryz.zeroValue0
  t3 := Tryz.underlying3
  a3 := Tryz.isAgg3
  z3 := Tryz.sizeOf3
  v3 := Tryz.zeroValue3
  t4 := Tryz.underlying4
  a4 := Tryz.isAgg4
  z4 := Tryz.sizeOf4
  v4 := Tryz.zeroValue4
  t5 := Tryz.underlying5
  a5 := Tryz.isAgg5
  z5 := Tryz.sizeOf5
  v5 := Tryz.zeroValue5
  t9 := Tryz.underlying9
  a9 := Tryz.isAgg9
  z9 := Tryz.sizeOf9
  v9 := Tryz.zeroValue9
  t22 := Tryz.underlying60
  a22 := Tryz.isAgg60
  z22 := Tryz.sizeOf60
  v22 := Tryz.zeroValue60
  a24 := Tryz.isAgg3
  z24 := Tryz.sizeOf3
  t25 := Tryz.underlying196
  a25 := Tryz.isAgg196
  z25 := Tryz.sizeOf196
  v25 := Tryz.zeroValue196
  t39 := Tryz.underlying173
  a39 := Tryz.isAgg173
  z39 := Tryz.sizeOf173
  v39 := Tryz.zeroValue173
  t45 := Tryz.underlying207
  a45 := Tryz.isAgg207
  z45 := Tryz.sizeOf207
  v45 := Tryz.zeroValue207
  t46 := Tryz.underlying208
  a46 := Tryz.isAgg208
  z46 := Tryz.sizeOf208
  v46 := Tryz.zeroValue208
  t50 := Tryz.underlying212
  a50 := Tryz.isAgg212
  z50 := Tryz.sizeOf212
  v50 := Tryz.zeroValue212
  t53 := Tryz.underlying215
  a53 := Tryz.isAgg215
  z53 := Tryz.sizeOf215
  v53 := Tryz.zeroValue215
  t55 := Tryz.underlying217
  a55 := Tryz.isAgg217
  z55 := Tryz.sizeOf217
  v55 := Tryz.zeroValue217
  t66 := Tryz.underlying245
  a66 := Tryz.isAgg245
  z66 := Tryz.sizeOf245
  v66 := Tryz.zeroValue245
  t70 := Tryz.underlying249
  a70 := Tryz.isAgg249
  z70 := Tryz.sizeOf249
  v70 := Tryz.zeroValue249
  t76 := Tryz.underlying282
  a76 := Tryz.isAgg282
  z76 := Tryz.sizeOf282
  v76 := Tryz.zeroValue282
  t77 := Tryz.underlying283
  a77 := Tryz.isAgg283
  z77 := Tryz.sizeOf283
  v77 := Tryz.zeroValue283 }
end Go.Proofs
