/-
  DERIVED: THE SHELF's CONTRACTS AT THIS DUMP, IN PLAIN WORDS (tools/lay-plain.mjs out of 'TryzShelf.lean', which tools/lay-shelf.mjs wrote): THE SAME DECLARATIONS UNDER THE SAME NAMES: 'import', 'namespace', 'open', 'def', 'theorem' AND NOTHING ELSE: no command of the shelf's: FOR A HAND-IN. Each laying: the table of numbers ('.._ren') and one theorem, a field a fact of the dump's own or the kernel's comparison; each contract: ONE APPLICATION.
-/
import Derived.Shelf.Strings.Builder1
import Derived.Shelf.Strings.Trim
import Derived.Shelf.Small.Utf8
import Derived.Shelf.Small.Bits
import Derived.Shelf.Small.Strs
import Derived.Shelf.Small.Wraps
import Derived.Shelf.Strings.BuilderF
import Derived.Shelf.Strings.BuilderK
import Derived.Shelf.Strconv.Itoa0
import Derived.Shelf.Strings.Search1
import Derived.Shelf.Strings.Search2
import Derived.Shelf.Strings.Cut
import Derived.Shelf.LaysM
import Derived.Shelf.Strings.Shaped
import Derived.Shelf.Sort.Plain
import Derived.Shelf.Strings.Prefix
import Derived.Shelf.Strings.Runes
import Derived.Shelf.Strings.AsciiSet
import Derived.Shelf.Unicode.DecodeSlow
import Derived.Shelf.Strings.BuilderCap
import Derived.Ground.Names2Prog
import Derived.Shelf.Slices.Clone
import Derived.Shelf.Slices.CompactI
import Derived.Shelf.Slices.CompactS
import Derived.Shelf.Slices.In.SortNone
import Derived.Ground.SlgnProg
import Derived.Shelf.SlicesE.Clone
import Derived.Test.YtiijdojihleggaaGreatDoorProg
namespace Go.Proofs
open Go.Shelf
def Tryz.lays169_ren : Go.Shelf.Ren := ⟨fun | 169 => 88 | n => n, fun | 70 => 144 | 9 => 9 | 0 => 0 | 72 => 147 | 37 => 145 | 127 => 191 | 3 => 3 | 5 => 5 | n => n, fun | n => n⟩
theorem Tryz.lays169 : Go.Proofs.Lays.n169 Tryz.prog Tryz.lays169_ren := {
  mixed := by kernel_rfl
  f169 := Tryz.func88.trans (congrArg some (by kernel_rfl))
  t0 := Tryz.underlying0
  a0 := Tryz.isAgg0
  z0 := Tryz.sizeOf0
  v0 := Tryz.zeroValue0
  t3 := Tryz.underlying3
  a3 := Tryz.isAgg3
  z3 := Tryz.sizeOf3
  v3 := Tryz.zeroValue3
  t9 := Tryz.underlying9
  a9 := Tryz.isAgg9
  z9 := Tryz.sizeOf9
  v9 := Tryz.zeroValue9
  t37 := Tryz.underlying145
  a37 := Tryz.isAgg145
  z37 := Tryz.sizeOf145
  v37 := Tryz.zeroValue145
  t70 := Tryz.underlying144
  a70 := Tryz.isAgg144
  z70 := Tryz.sizeOf144
  v70 := Tryz.zeroValue144
  t72 := Tryz.underlying147
  a72 := Tryz.isAgg147
  z72 := Tryz.sizeOf147
  v72 := Tryz.zeroValue147
  t127 := Tryz.underlying191
  a127 := Tryz.isAgg191
  z127 := Tryz.sizeOf191
  v127 := Tryz.zeroValue191 }
theorem Tryz.Builder_Extra_169 : Builder.Extra Tryz.prog Tryz.lays169_ren := {
  sizeBuilder := by kernel_rfl
  liesBuilder := by kernel_rfl
  t5 := Tryz.underlying5
  a5 := Tryz.isAgg5
  z5 := Tryz.sizeOf5
  v5 := Tryz.zeroValue5
  infoByte := by kernel_rfl
  cellsByte := by kernel_rfl
  sizeByte := by kernel_rfl
  neB5 := by decide }
open Go.RowKit in
theorem Tryz.Builder_String_any (B b : Nat) (l : List UInt8) (w : World) (h : Lib.IsBuilder 147 5 B b (Lib.byteCells l) w) (hBw : B ≤ w.heap.size) :
    Calls Tryz.prog 88 #[.pointer (some ⟨b, 0, none⟩)] w fun e w' => e = .returned (.string ⟨l.toArray⟩) ∧ Below B w w' := Any.Builder_String_any Tryz.lays169 Tryz.Builder_Extra_169 B b l w h hBw
def Tryz.lays160_ren : Go.Shelf.Ren := ⟨fun | 160 => 208 | 232 => 212 | 231 => 211 | 227 => 213 | 234 => 215 | 233 => 214 | 236 => 217 | 235 => 216 | 228 => 221 | 271 => 224 | 151 => 223 | 197 => 222 | 120 => 228 | 152 => 227 | 260 => 226 | 137 => 177 | 119 => 229 | 224 => 219 | 225 => 218 | 217 => 195 | 266 => 201 | n => n, fun | 9 => 9 | 4 => 4 | 3 => 3 | 5 => 5 | 117 => 248 | 116 => 247 | 0 => 0 | 124 => 251 | 21 => 21 | 105 => 253 | 46 => 132 | 119 => 259 | 139 => 262 | 138 => 261 | n => n, fun | 3 => 1 | 4 => 2 | n => n⟩
theorem Tryz.lays160 : Go.Proofs.Lays.n160 Tryz.prog Tryz.lays160_ren := {
  mixed := by kernel_rfl
  f119 := Tryz.func229.trans (congrArg some (by kernel_rfl))
  f120 := Tryz.func228.trans (congrArg some (by kernel_rfl))
  f137 := Tryz.func177.trans (congrArg some (by kernel_rfl))
  f151 := Tryz.func223.trans (congrArg some (by kernel_rfl))
  f152 := Tryz.func227.trans (congrArg some (by kernel_rfl))
  f160 := Tryz.func208.trans (congrArg some (by kernel_rfl))
  f197 := Tryz.func222.trans (congrArg some (by kernel_rfl))
  f217 := Tryz.func195.trans (congrArg some (by kernel_rfl))
  f224 := Tryz.func219.trans (congrArg some (by kernel_rfl))
  f225 := Tryz.func218.trans (congrArg some (by kernel_rfl))
  f227 := Tryz.func213.trans (congrArg some (by kernel_rfl))
  f228 := Tryz.func221.trans (congrArg some (by kernel_rfl))
  f231 := Tryz.func211.trans (congrArg some (by kernel_rfl))
  f232 := Tryz.func212.trans (congrArg some (by kernel_rfl))
  f233 := Tryz.func214.trans (congrArg some (by kernel_rfl))
  f234 := Tryz.func215.trans (congrArg some (by kernel_rfl))
  f235 := Tryz.func216.trans (congrArg some (by kernel_rfl))
  f236 := Tryz.func217.trans (congrArg some (by kernel_rfl))
  f260 := Tryz.func226.trans (congrArg some (by kernel_rfl))
  f266 := Tryz.func201.trans (congrArg some (by kernel_rfl))
  f271 := Tryz.func224.trans (congrArg some (by kernel_rfl))
  t0 := Tryz.underlying0
  a0 := Tryz.isAgg0
  z0 := Tryz.sizeOf0
  v0 := Tryz.zeroValue0
  t3 := Tryz.underlying3
  a3 := Tryz.isAgg3
  z3 := Tryz.sizeOf3
  v3 := Tryz.zeroValue3
  t4 := Tryz.underlying4
  a4 := Tryz.isAgg4
  z4 := Tryz.sizeOf4
  v4 := Tryz.zeroValue4
  t5 := Tryz.underlying5
  a5 := Tryz.isAgg5
  z5 := Tryz.sizeOf5
  v5 := Tryz.zeroValue5
  t9 := Tryz.underlying9
  a9 := Tryz.isAgg9
  z9 := Tryz.sizeOf9
  v9 := Tryz.zeroValue9
  t21 := Tryz.underlying21
  a21 := Tryz.isAgg21
  z21 := Tryz.sizeOf21
  v21 := Tryz.zeroValue21
  t46 := Tryz.underlying132
  a46 := Tryz.isAgg132
  z46 := Tryz.sizeOf132
  v46 := Tryz.zeroValue132
  t105 := Tryz.underlying253
  a105 := Tryz.isAgg253
  z105 := Tryz.sizeOf253
  v105 := Tryz.zeroValue253
  t116 := Tryz.underlying247
  a116 := Tryz.isAgg247
  z116 := Tryz.sizeOf247
  t117 := Tryz.underlying248
  a117 := Tryz.isAgg248
  z117 := Tryz.sizeOf248
  v117 := Tryz.zeroValue248
  t119 := Tryz.underlying259
  a119 := Tryz.isAgg259
  z119 := Tryz.sizeOf259
  t124 := Tryz.underlying251
  a124 := Tryz.isAgg251
  z124 := Tryz.sizeOf251
  v124 := Tryz.zeroValue251
  t138 := Tryz.underlying261
  a138 := Tryz.isAgg261
  z138 := Tryz.sizeOf261
  v138 := Tryz.zeroValue261
  t139 := Tryz.underlying262
  a139 := Tryz.isAgg262
  z139 := Tryz.sizeOf262
  v139 := Tryz.zeroValue262
  g3 := by kernel_rfl
  g4 := by kernel_rfl }
def Tryz.lays137_ren : Go.Shelf.Ren := ⟨fun | 137 => 177 | 217 => 195 | 266 => 201 | n => n, fun | 9 => 9 | 5 => 5 | 3 => 3 | n => n, fun | n => n⟩
theorem Tryz.lays137 : Go.Proofs.Lays.n137 Tryz.prog Tryz.lays137_ren := {
  mixed := by kernel_rfl
  f137 := Tryz.func177.trans (congrArg some (by kernel_rfl))
  f217 := Tryz.func195.trans (congrArg some (by kernel_rfl))
  f266 := Tryz.func201.trans (congrArg some (by kernel_rfl))
  t3 := Tryz.underlying3
  a3 := Tryz.isAgg3
  z3 := Tryz.sizeOf3
  v3 := Tryz.zeroValue3
  t5 := Tryz.underlying5
  a5 := Tryz.isAgg5
  z5 := Tryz.sizeOf5
  v5 := Tryz.zeroValue5
  t9 := Tryz.underlying9
  a9 := Tryz.isAgg9
  z9 := Tryz.sizeOf9
  v9 := Tryz.zeroValue9 }
open Go.RowKit in
theorem Tryz.strings_IndexByte (s : ByteArray) (c : Int) (w : World) :
    Calls Tryz.prog 177 #[.string s, .int .u8 c] w fun e w' => e = .returned (.int .i64 (Lib.indexByte s.data.toList c.toNat.toUInt8)) ∧ w' = w := Any.strings_IndexByte Tryz.lays137 s c w
def Tryz.lays103_ren : Go.Shelf.Ren := ⟨fun | 103 => 178 | 210 => 196 | 206 => 202 | n => n, fun | 9 => 9 | 4 => 4 | 24 => 97 | 3 => 3 | n => n, fun | n => n⟩
theorem Tryz.lays103 : Go.Proofs.Lays.n103 Tryz.prog Tryz.lays103_ren := {
  mixed := by kernel_rfl
  f103 := Tryz.func178.trans (congrArg some (by kernel_rfl))
  f206 := Tryz.func202.trans (congrArg some (by kernel_rfl))
  f210 := Tryz.func196.trans (congrArg some (by kernel_rfl))
  t3 := Tryz.underlying3
  a3 := Tryz.isAgg3
  z3 := Tryz.sizeOf3
  v3 := Tryz.zeroValue3
  t4 := Tryz.underlying4
  a4 := Tryz.isAgg4
  z4 := Tryz.sizeOf4
  v4 := Tryz.zeroValue4
  t9 := Tryz.underlying9
  a9 := Tryz.isAgg9
  z9 := Tryz.sizeOf9
  v9 := Tryz.zeroValue9
  t24 := Tryz.underlying97
  a24 := Tryz.isAgg97
  z24 := Tryz.sizeOf97
  v24 := Tryz.zeroValue97 }
open Go.RowKit in
theorem Tryz.strings_CutPrefix (s p : ByteArray) (w : World) :
    Calls Tryz.prog 178 #[.string s, .string p] w fun e w' => e = .returned (.tuple #[.string ⟨(Lib.trimPrefix s.data.toList p.data.toList).toArray⟩, .bool (Lib.hasPrefix s.data.toList p.data.toList)]) ∧ w' = w := Any.strings_CutPrefix Tryz.lays103 s p w
def Tryz.lays104_ren : Go.Shelf.Ren := ⟨fun | 104 => 179 | 211 => 197 | 207 => 203 | n => n, fun | 9 => 9 | 4 => 4 | 24 => 97 | 3 => 3 | n => n, fun | n => n⟩
theorem Tryz.lays104 : Go.Proofs.Lays.n104 Tryz.prog Tryz.lays104_ren := {
  mixed := by kernel_rfl
  f104 := Tryz.func179.trans (congrArg some (by kernel_rfl))
  f207 := Tryz.func203.trans (congrArg some (by kernel_rfl))
  f211 := Tryz.func197.trans (congrArg some (by kernel_rfl))
  t3 := Tryz.underlying3
  a3 := Tryz.isAgg3
  z3 := Tryz.sizeOf3
  v3 := Tryz.zeroValue3
  t4 := Tryz.underlying4
  a4 := Tryz.isAgg4
  z4 := Tryz.sizeOf4
  v4 := Tryz.zeroValue4
  t9 := Tryz.underlying9
  a9 := Tryz.isAgg9
  z9 := Tryz.sizeOf9
  v9 := Tryz.zeroValue9
  t24 := Tryz.underlying97
  a24 := Tryz.isAgg97
  z24 := Tryz.sizeOf97
  v24 := Tryz.zeroValue97 }
open Go.RowKit in
theorem Tryz.strings_CutSuffix (s p : ByteArray) (w : World) (hs : s.size ≤ 9223372036854775807) :
    Calls Tryz.prog 179 #[.string s, .string p] w fun e w' => e = .returned (.tuple #[.string ⟨(Lib.trimSuffix s.data.toList p.data.toList).toArray⟩, .bool (Lib.hasSuffix s.data.toList p.data.toList)]) ∧ w' = w := Any.strings_CutSuffix Tryz.lays104 s p w hs
def Tryz.lays145_ren : Go.Shelf.Ren := ⟨fun | 145 => 204 | 220 => 207 | 219 => 210 | 217 => 195 | 225 => 218 | 224 => 219 | 267 => 220 | 266 => 201 | 314 => 225 | n => n, fun | 9 => 9 | 4 => 4 | 59 => 28 | 3 => 3 | 5 => 5 | 46 => 132 | 146 => 256 | 51 => 184 | n => n, fun | 1 => 0 | n => n⟩
theorem Tryz.lays145 : Go.Proofs.Lays.n145 Tryz.prog Tryz.lays145_ren := {
  mixed := by kernel_rfl
  f145 := Tryz.func204.trans (congrArg some (by kernel_rfl))
  f217 := Tryz.func195.trans (congrArg some (by kernel_rfl))
  f219 := Tryz.func210.trans (congrArg some (by kernel_rfl))
  f220 := Tryz.func207.trans (congrArg some (by kernel_rfl))
  f224 := Tryz.func219.trans (congrArg some (by kernel_rfl))
  f225 := Tryz.func218.trans (congrArg some (by kernel_rfl))
  f266 := Tryz.func201.trans (congrArg some (by kernel_rfl))
  f267 := Tryz.func220.trans (congrArg some (by kernel_rfl))
  f314 := Tryz.func225.trans (congrArg some (by kernel_rfl))
  t3 := Tryz.underlying3
  a3 := Tryz.isAgg3
  z3 := Tryz.sizeOf3
  v3 := Tryz.zeroValue3
  t4 := Tryz.underlying4
  a4 := Tryz.isAgg4
  z4 := Tryz.sizeOf4
  v4 := Tryz.zeroValue4
  t5 := Tryz.underlying5
  a5 := Tryz.isAgg5
  z5 := Tryz.sizeOf5
  v5 := Tryz.zeroValue5
  t9 := Tryz.underlying9
  a9 := Tryz.isAgg9
  z9 := Tryz.sizeOf9
  v9 := Tryz.zeroValue9
  t46 := Tryz.underlying132
  a46 := Tryz.isAgg132
  z46 := Tryz.sizeOf132
  v46 := Tryz.zeroValue132
  t51 := Tryz.underlying184
  a51 := Tryz.isAgg184
  z51 := Tryz.sizeOf184
  v51 := Tryz.zeroValue184
  t59 := Tryz.underlying28
  a59 := Tryz.isAgg28
  z59 := Tryz.sizeOf28
  v59 := Tryz.zeroValue28
  t146 := Tryz.underlying256
  a146 := Tryz.isAgg256
  z146 := Tryz.sizeOf256
  v146 := Tryz.zeroValue256
  g1 := by kernel_rfl }
open Go.RowKit Go.Lib in
theorem Tryz.strings_Cut (s sep : ByteArray) (m : Int) (w : World) (hs : s.size < 4294967281) (hm : w.cell? ⟨0, 0, none⟩ = some (.int .i64 m)) :
    Calls Tryz.prog 204 #[.string s, .string sep] w fun e w' => e = .returned (.tuple #[.string ⟨(Lib.cut s.data.toList sep.data.toList).1.toArray⟩, .string ⟨(Lib.cut s.data.toList sep.data.toList).2.1.toArray⟩, .bool (Lib.cut s.data.toList sep.data.toList).2.2]) ∧ ∃ n, w' = w.drewN n := Any.strings_Cut Tryz.lays145 s sep m w hs hm
def Tryz.lays189_ren : Go.Shelf.Ren := ⟨fun | 189 => 53 | 125 => 75 | 257 => 74 | 128 => 116 | 129 => 117 | 294 => 107 | 295 => 108 | 296 => 109 | 297 => 110 | 298 => 111 | 299 => 112 | 216 => 113 | 300 => 114 | 301 => 115 | 328 => 158 | 329 => 159 | 330 => 160 | 331 => 161 | 332 => 162 | 215 => 163 | 343 => 186 | n => n, fun | 28 => 84 | 3 => 3 | 46 => 132 | 0 => 0 | 51 => 184 | 53 => 186 | 4 => 4 | 183 => 176 | 182 => 175 | 131 => 181 | 5 => 5 | 9 => 9 | 218 => 211 | 222 => 215 | 228 => 230 | 229 => 196 | n => n, fun | n => n⟩
theorem Tryz.lays189 : Go.Proofs.Lays.n189 Tryz.prog Tryz.lays189_ren := {
  mixed := by kernel_rfl
  f125 := Tryz.func75.trans (congrArg some (by kernel_rfl))
  f128 := Tryz.func116.trans (congrArg some (by kernel_rfl))
  f129 := Tryz.func117.trans (congrArg some (by kernel_rfl))
  f189 := Tryz.func53.trans (congrArg some (by kernel_rfl))
  f215 := Tryz.func163.trans (congrArg some (by kernel_rfl))
  f216 := Tryz.func113.trans (congrArg some (by kernel_rfl))
  f257 := Tryz.func74.trans (congrArg some (by kernel_rfl))
  f294 := Tryz.func107.trans (congrArg some (by kernel_rfl))
  f295 := Tryz.func108.trans (congrArg some (by kernel_rfl))
  f296 := Tryz.func109.trans (congrArg some (by kernel_rfl))
  f297 := Tryz.func110.trans (congrArg some (by kernel_rfl))
  f298 := Tryz.func111.trans (congrArg some (by kernel_rfl))
  f299 := Tryz.func112.trans (congrArg some (by kernel_rfl))
  f300 := Tryz.func114.trans (congrArg some (by kernel_rfl))
  f301 := Tryz.func115.trans (congrArg some (by kernel_rfl))
  f328 := Tryz.func158.trans (congrArg some (by kernel_rfl))
  f329 := Tryz.func159.trans (congrArg some (by kernel_rfl))
  f330 := Tryz.func160.trans (congrArg some (by kernel_rfl))
  f331 := Tryz.func161.trans (congrArg some (by kernel_rfl))
  f332 := Tryz.func162.trans (congrArg some (by kernel_rfl))
  f343 := Tryz.func186.trans (congrArg some (by kernel_rfl))
  t0 := Tryz.underlying0
  a0 := Tryz.isAgg0
  z0 := Tryz.sizeOf0
  v0 := Tryz.zeroValue0
  t3 := Tryz.underlying3
  a3 := Tryz.isAgg3
  z3 := Tryz.sizeOf3
  v3 := Tryz.zeroValue3
  t4 := Tryz.underlying4
  a4 := Tryz.isAgg4
  z4 := Tryz.sizeOf4
  v4 := Tryz.zeroValue4
  t5 := Tryz.underlying5
  a5 := Tryz.isAgg5
  z5 := Tryz.sizeOf5
  v5 := Tryz.zeroValue5
  t9 := Tryz.underlying9
  a9 := Tryz.isAgg9
  z9 := Tryz.sizeOf9
  v9 := Tryz.zeroValue9
  t28 := Tryz.underlying84
  a28 := Tryz.isAgg84
  z28 := Tryz.sizeOf84
  v28 := Tryz.zeroValue84
  t46 := Tryz.underlying132
  a46 := Tryz.isAgg132
  z46 := Tryz.sizeOf132
  v46 := Tryz.zeroValue132
  t51 := Tryz.underlying184
  a51 := Tryz.isAgg184
  z51 := Tryz.sizeOf184
  v51 := Tryz.zeroValue184
  t53 := Tryz.underlying186
  a53 := Tryz.isAgg186
  z53 := Tryz.sizeOf186
  v53 := Tryz.zeroValue186
  t131 := Tryz.underlying181
  a131 := Tryz.isAgg181
  z131 := Tryz.sizeOf181
  v131 := Tryz.zeroValue181
  t182 := Tryz.underlying175
  a182 := Tryz.isAgg175
  z182 := Tryz.sizeOf175
  v182 := Tryz.zeroValue175
  t183 := Tryz.underlying176
  a183 := Tryz.isAgg176
  z183 := Tryz.sizeOf176
  v183 := Tryz.zeroValue176
  t218 := Tryz.underlying211
  a218 := Tryz.isAgg211
  z218 := Tryz.sizeOf211
  v218 := Tryz.zeroValue211
  t222 := Tryz.underlying215
  a222 := Tryz.isAgg215
  z222 := Tryz.sizeOf215
  v222 := Tryz.zeroValue215
  t228 := Tryz.underlying230
  a228 := Tryz.isAgg230
  z228 := Tryz.sizeOf230
  v228 := Tryz.zeroValue230
  t229 := Tryz.underlying196
  a229 := Tryz.isAgg196
  z229 := Tryz.sizeOf196
  v229 := Tryz.zeroValue196 }
open Go.Sort Go.RowKit in
theorem Tryz.slices_Sort_int (blk off cap : Nat) (zs : List Int) (w : World) (hH : Holds (Value.int .i64) w blk off zs.toArray) (hblk : blk < w.heap.size) (hsz : zs.length < 4611686018427387904) :
    Calls Tryz.prog 53 #[.slice (some ⟨blk, off, none⟩) zs.length cap] w fun e w' =>
      e = .returned (.tuple #[]) ∧ ∃ n os, w' = grow (putRow (Value.int .i64) (Sort.ahead w n) blk off (zs.mergeSort fun x y => decide (x ≤ y)).toArray) os := Any.slices_Sort_int Tryz.lays189 blk off cap zs w hH hblk hsz
def Tryz.lays190_ren : Go.Shelf.Ren := ⟨fun | 190 => 72 | 125 => 75 | 258 => 106 | 128 => 116 | 129 => 117 | 302 => 149 | 303 => 150 | 304 => 151 | 305 => 152 | 306 => 153 | 307 => 154 | 308 => 155 | 309 => 156 | 310 => 157 | 333 => 182 | 329 => 159 | 330 => 160 | 334 => 183 | 335 => 184 | 336 => 185 | 344 => 199 | n => n, fun | 31 => 44 | 9 => 9 | 3 => 3 | 46 => 132 | 0 => 0 | 51 => 184 | 53 => 186 | 4 => 4 | 183 => 176 | 182 => 175 | 131 => 181 | 5 => 5 | 218 => 211 | 222 => 215 | 228 => 230 | 229 => 196 | n => n, fun | n => n⟩
theorem Tryz.lays190 : Go.Proofs.Lays.n190 Tryz.prog Tryz.lays190_ren := {
  mixed := by kernel_rfl
  f125 := Tryz.func75.trans (congrArg some (by kernel_rfl))
  f128 := Tryz.func116.trans (congrArg some (by kernel_rfl))
  f129 := Tryz.func117.trans (congrArg some (by kernel_rfl))
  f190 := Tryz.func72.trans (congrArg some (by kernel_rfl))
  f258 := Tryz.func106.trans (congrArg some (by kernel_rfl))
  f302 := Tryz.func149.trans (congrArg some (by kernel_rfl))
  f303 := Tryz.func150.trans (congrArg some (by kernel_rfl))
  f304 := Tryz.func151.trans (congrArg some (by kernel_rfl))
  f305 := Tryz.func152.trans (congrArg some (by kernel_rfl))
  f306 := Tryz.func153.trans (congrArg some (by kernel_rfl))
  f307 := Tryz.func154.trans (congrArg some (by kernel_rfl))
  f308 := Tryz.func155.trans (congrArg some (by kernel_rfl))
  f309 := Tryz.func156.trans (congrArg some (by kernel_rfl))
  f310 := Tryz.func157.trans (congrArg some (by kernel_rfl))
  f329 := Tryz.func159.trans (congrArg some (by kernel_rfl))
  f330 := Tryz.func160.trans (congrArg some (by kernel_rfl))
  f333 := Tryz.func182.trans (congrArg some (by kernel_rfl))
  f334 := Tryz.func183.trans (congrArg some (by kernel_rfl))
  f335 := Tryz.func184.trans (congrArg some (by kernel_rfl))
  f336 := Tryz.func185.trans (congrArg some (by kernel_rfl))
  f344 := Tryz.func199.trans (congrArg some (by kernel_rfl))
  t0 := Tryz.underlying0
  a0 := Tryz.isAgg0
  z0 := Tryz.sizeOf0
  v0 := Tryz.zeroValue0
  t3 := Tryz.underlying3
  a3 := Tryz.isAgg3
  z3 := Tryz.sizeOf3
  v3 := Tryz.zeroValue3
  t4 := Tryz.underlying4
  a4 := Tryz.isAgg4
  z4 := Tryz.sizeOf4
  v4 := Tryz.zeroValue4
  t5 := Tryz.underlying5
  a5 := Tryz.isAgg5
  z5 := Tryz.sizeOf5
  v5 := Tryz.zeroValue5
  t9 := Tryz.underlying9
  a9 := Tryz.isAgg9
  z9 := Tryz.sizeOf9
  v9 := Tryz.zeroValue9
  t31 := Tryz.underlying44
  a31 := Tryz.isAgg44
  z31 := Tryz.sizeOf44
  v31 := Tryz.zeroValue44
  t46 := Tryz.underlying132
  a46 := Tryz.isAgg132
  z46 := Tryz.sizeOf132
  v46 := Tryz.zeroValue132
  t51 := Tryz.underlying184
  a51 := Tryz.isAgg184
  z51 := Tryz.sizeOf184
  v51 := Tryz.zeroValue184
  t53 := Tryz.underlying186
  a53 := Tryz.isAgg186
  z53 := Tryz.sizeOf186
  v53 := Tryz.zeroValue186
  t131 := Tryz.underlying181
  a131 := Tryz.isAgg181
  z131 := Tryz.sizeOf181
  v131 := Tryz.zeroValue181
  t182 := Tryz.underlying175
  a182 := Tryz.isAgg175
  z182 := Tryz.sizeOf175
  v182 := Tryz.zeroValue175
  t183 := Tryz.underlying176
  a183 := Tryz.isAgg176
  z183 := Tryz.sizeOf176
  v183 := Tryz.zeroValue176
  t218 := Tryz.underlying211
  a218 := Tryz.isAgg211
  z218 := Tryz.sizeOf211
  v218 := Tryz.zeroValue211
  t222 := Tryz.underlying215
  a222 := Tryz.isAgg215
  z222 := Tryz.sizeOf215
  v222 := Tryz.zeroValue215
  t228 := Tryz.underlying230
  a228 := Tryz.isAgg230
  z228 := Tryz.sizeOf230
  v228 := Tryz.zeroValue230
  t229 := Tryz.underlying196
  a229 := Tryz.isAgg196
  z229 := Tryz.sizeOf196
  v229 := Tryz.zeroValue196 }
open Go.Sort Go.RowKit in
theorem Tryz.slices_Sort_string (blk off cap : Nat) (ss : List (List UInt8)) (w : World) (hH : Holds encStr w blk off ss.toArray) (hblk : blk < w.heap.size) (hsz : ss.length < 4611686018427387904) :
    Calls Tryz.prog 72 #[.slice (some ⟨blk, off, none⟩) ss.length cap] w fun e w' =>
      e = .returned (.tuple #[]) ∧ ∃ n os, w' = grow (putRow encStr (Sort.ahead w n) blk off (ss.mergeSort fun x y => decide (x ≤ y)).toArray) os := Any.slices_Sort_string Tryz.lays190 blk off cap ss w hH hblk hsz
def Tryz.laysNm220_ren : Go.Shelf.Ren := ⟨fun | 20 => 54 | n => n, fun | 22 => 84 | 3 => 3 | 4 => 4 | 0 => 0 | n => n, fun | n => n⟩
theorem Tryz.laysNm220 : Go.Proofs.Lays2.n20 Tryz.prog Tryz.laysNm220_ren := {
  mixed := by kernel_rfl
  f20 := Tryz.func54.trans (congrArg some (by kernel_rfl))
  t0 := Tryz.underlying0
  a0 := Tryz.isAgg0
  z0 := Tryz.sizeOf0
  v0 := Tryz.zeroValue0
  t3 := Tryz.underlying3
  a3 := Tryz.isAgg3
  z3 := Tryz.sizeOf3
  v3 := Tryz.zeroValue3
  t4 := Tryz.underlying4
  a4 := Tryz.isAgg4
  z4 := Tryz.sizeOf4
  v4 := Tryz.zeroValue4
  t22 := Tryz.underlying84
  a22 := Tryz.isAgg84
  z22 := Tryz.sizeOf84
  v22 := Tryz.zeroValue84
  i3 := by kernel_rfl }
open Go.RowKit Go.Lib Go.Sort in
theorem Tryz.slices_Compact_int (blk off cap : Nat) (zs : List Int) (w : World) (hH : Holds (Value.int .i64) w blk off zs.toArray) (hsz : zs.length ≤ 9223372036854775807) (hcap : zs.length ≤ cap) :
    Calls Tryz.prog 54 #[.slice (some ⟨blk, off, none⟩) zs.length cap] w fun e w' => e = .returned (.slice (some ⟨blk, off, none⟩) (Lib.compact zs).length cap) ∧ ∃ q, w' = putRow (Value.int .i64) (Sort.ahead w q) blk off (Lib.compact zs ++ List.replicate (zs.length - (Lib.compact zs).length) 0).toArray := Any.slices_Compact_int Tryz.laysNm220 blk off cap zs w hH hsz hcap
open Go.RowKit Go.Lib Go.Sort in
theorem Tryz.slices_Compact_int_empty (a : Option Addr) (cap : Nat) (w : World) :
    Calls Tryz.prog 54 #[.slice a 0 cap] w fun e w' => e = .returned (.slice a 0 cap) ∧ w' = w := Any.slices_Compact_int_empty Tryz.laysNm220 a cap w
def Tryz.lays194_ren : Go.Shelf.Ren := ⟨fun | 194 => 73 | n => n, fun | 31 => 44 | 9 => 9 | 3 => 3 | 4 => 4 | 0 => 0 | n => n, fun | n => n⟩
theorem Tryz.lays194 : Go.Proofs.Lays.n194 Tryz.prog Tryz.lays194_ren := {
  mixed := by kernel_rfl
  f194 := Tryz.func73.trans (congrArg some (by kernel_rfl))
  t0 := Tryz.underlying0
  a0 := Tryz.isAgg0
  z0 := Tryz.sizeOf0
  v0 := Tryz.zeroValue0
  t3 := Tryz.underlying3
  a3 := Tryz.isAgg3
  z3 := Tryz.sizeOf3
  v3 := Tryz.zeroValue3
  t4 := Tryz.underlying4
  a4 := Tryz.isAgg4
  z4 := Tryz.sizeOf4
  v4 := Tryz.zeroValue4
  t9 := Tryz.underlying9
  a9 := Tryz.isAgg9
  z9 := Tryz.sizeOf9
  v9 := Tryz.zeroValue9
  t31 := Tryz.underlying44
  a31 := Tryz.isAgg44
  z31 := Tryz.sizeOf44
  v31 := Tryz.zeroValue44 }
open Go.RowKit Go.Lib Go.Sort in
theorem Tryz.slices_Compact_string (blk off cap : Nat) (zs : List (List UInt8)) (w : World) (hH : Holds encStr w blk off zs.toArray) (hsz : zs.length ≤ 9223372036854775807) (hcap : zs.length ≤ cap) :
    Calls Tryz.prog 73 #[.slice (some ⟨blk, off, none⟩) zs.length cap] w fun e w' => e = .returned (.slice (some ⟨blk, off, none⟩) (Lib.compact zs).length cap) ∧ ∃ q, w' = putRow encStr (Sort.ahead w q) blk off (Lib.compact zs ++ List.replicate (zs.length - (Lib.compact zs).length) []).toArray := Any.slices_Compact_string Tryz.lays194 blk off cap zs w hH hsz hcap
open Go.RowKit Go.Lib Go.Sort in
theorem Tryz.slices_Compact_string_empty (a : Option Addr) (cap : Nat) (w : World) :
    Calls Tryz.prog 73 #[.slice a 0 cap] w fun e w' => e = .returned (.slice a 0 cap) ∧ w' = w := Any.slices_Compact_string_empty Tryz.lays194 a cap w
open Go.RowKit Go.Sort in
theorem Tryz.slices_Sort_string_none (p : Option Addr) (cap : Nat) (w : World) :
    Calls Tryz.prog 72 #[.slice p 0 cap] w fun e w' => e = .returned (.tuple #[]) ∧ w' = w := Any.slices_Sort_string_none Tryz.lays190 p cap w
open Go.RowKit Go.Sort in
theorem Tryz.slices_Sort_int_none (p : Option Addr) (cap : Nat) (w : World) :
    Calls Tryz.prog 53 #[.slice p 0 cap] w fun e w' => e = .returned (.tuple #[]) ∧ w' = w := Any.slices_Sort_int_none Tryz.lays189 p cap w
end Go.Proofs
