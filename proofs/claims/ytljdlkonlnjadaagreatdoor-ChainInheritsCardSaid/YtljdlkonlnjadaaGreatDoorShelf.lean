/-
  DERIVED: THE SHELF's CONTRACTS AT THIS DUMP, IN PLAIN WORDS (tools/lay-plain.mjs out of 'TryzShelf.lean', which tools/lay-shelf.mjs wrote): THE SAME DECLARATIONS UNDER THE SAME NAMES: 'import', 'namespace', 'open', 'def', 'theorem' AND NOTHING ELSE: no command of the shelf's: FOR A HAND-IN. Each laying: the table of numbers ('.._ren') and one theorem, a field a fact of the dump's own or the kernel's comparison; each contract: ONE APPLICATION.
-/
import Derived.Shelf.Strings.Builder1
import Derived.Shelf.Strings.Builder2
import Derived.Shelf.Strings.OnBuilder
import Derived.Shelf.Small.Bits
import Derived.Shelf.Strings.BuilderF
import Derived.Shelf.Strings.BuilderK
import Derived.Shelf.Strings.Builder2Cap
import Derived.Shelf.Strconv.Itoa0
import Derived.Shelf.Strings.Search1
import Derived.Shelf.Strings.Search2
import Derived.Shelf.Strings.Search3
import Derived.Shelf.Strings.Count
import Derived.Shelf.LaysM
import Derived.Shelf.Strings.Shaped
import Derived.Shelf.Sort.Plain
import Derived.Shelf.Strings.Split
import Derived.Shelf.Strings.Replace
import Derived.Shelf.Strings.SplitShaped
import Derived.Shelf.Unicode.DecodeSlow
import Derived.Shelf.Strings.BuilderCap
import Derived.Shelf.Slices.Turned
import Derived.Shelf.Slices.Equal
import Derived.Ground.Names2Prog
import Derived.Shelf.Slices.Clone
import Derived.Shelf.Slices.CompactS
import Derived.Shelf.Slices.In.SortNone
import Derived.Shelf.Slices.Empties2
import Derived.Ground.SlgnProg
import Derived.Shelf.SlicesE.Equal
import Derived.Shelf.SlicesE.Compact
import Derived.Shelf.SlicesE.Clone
import Derived.Ground.SlgfProg
import Derived.Shelf.SlicesE.IndexFunc
import Derived.Shelf.SlicesE.DeleteFunc
import Derived.Ground.SlsfProg
import Derived.Shelf.SlSortCmp.Insertion
import Derived.Shelf.SlSortCmp.SiftDown1
import Derived.Shelf.SlSortCmp.HeapSort1
import Derived.Shelf.SlSortCmp.Insertion1
import Derived.Shelf.SlSortCmp.Median1
import Derived.Shelf.SlSortCmp.Pivot1
import Derived.Shelf.SlSortCmp.ReverseRange1
import Derived.Shelf.SlSortCmp.PartialInsertion1
import Derived.Shelf.SlSortCmp.PartitionEqual1
import Derived.Shelf.SlSortCmp.Partition1
import Derived.Shelf.SlSortCmp.Pdq1
import Derived.Shelf.SlSortCmp.Whole1
import Derived.Shelf.SlSortCmp.NoneTotal
import Derived.Test.YtljdlkonlnjadaaGreatDoorProg
namespace Go.Proofs
open Go.Shelf
def Tryz.lays156_ren : Go.Shelf.Ren := ⟨fun | 156 => 173 | 165 => 210 | 166 => 211 | 169 => 212 | 240 => 237 | 241 => 238 | 276 => 248 | 277 => 249 | n => n, fun | 31 => 35 | 9 => 9 | 3 => 3 | 4 => 4 | 0 => 0 | 20 => 20 | 72 => 251 | 76 => 255 | 70 => 249 | 37 => 231 | 75 => 254 | 127 => 275 | 164 => 281 | 5 => 5 | 80 => 179 | n => n, fun | n => n⟩
theorem Tryz.lays156 : Go.Proofs.Lays.n156 Tryz.prog Tryz.lays156_ren := {
  mixed := by kernel_rfl
  f156 := Tryz.func173.trans (congrArg some (by kernel_rfl))
  f165 := Tryz.func210.trans (congrArg some (by kernel_rfl))
  f166 := Tryz.func211.trans (congrArg some (by kernel_rfl))
  f169 := Tryz.func212.trans (congrArg some (by kernel_rfl))
  f240 := Tryz.func237.trans (congrArg some (by kernel_rfl))
  f241 := Tryz.func238.trans (congrArg some (by kernel_rfl))
  f276 := Tryz.func248.trans (congrArg some (by kernel_rfl))
  f277 := Tryz.func249.trans (congrArg some (by kernel_rfl))
  t0 := Tryz.underlying0
  a0 := Tryz.isAgg0
  z0 := Tryz.sizeOf0
  v0 := Tryz.zeroValue0
  t3 := Tryz.underlying3
  a3 := Tryz.isAgg3
  z3 := Tryz.sizeOf3
  v3 := Tryz.zeroValue3
  t4 := Tryz.underlying4
  a4 := Tryz.isAgg4
  z4 := Tryz.sizeOf4
  v4 := Tryz.zeroValue4
  t9 := Tryz.underlying9
  a9 := Tryz.isAgg9
  z9 := Tryz.sizeOf9
  v9 := Tryz.zeroValue9
  t20 := Tryz.underlying20
  a20 := Tryz.isAgg20
  z20 := Tryz.sizeOf20
  v20 := Tryz.zeroValue20
  t31 := Tryz.underlying35
  a31 := Tryz.isAgg35
  z31 := Tryz.sizeOf35
  v31 := Tryz.zeroValue35
  t37 := Tryz.underlying231
  a37 := Tryz.isAgg231
  z37 := Tryz.sizeOf231
  v37 := Tryz.zeroValue231
  t70 := Tryz.underlying249
  a70 := Tryz.isAgg249
  z70 := Tryz.sizeOf249
  v70 := Tryz.zeroValue249
  t72 := Tryz.underlying251
  a72 := Tryz.isAgg251
  z72 := Tryz.sizeOf251
  v72 := Tryz.zeroValue251
  t75 := Tryz.underlying254
  a75 := Tryz.isAgg254
  z75 := Tryz.sizeOf254
  v75 := Tryz.zeroValue254
  t76 := Tryz.underlying255
  a76 := Tryz.isAgg255
  z76 := Tryz.sizeOf255
  v76 := Tryz.zeroValue255
  t127 := Tryz.underlying275
  a127 := Tryz.isAgg275
  z127 := Tryz.sizeOf275
  v127 := Tryz.zeroValue275
  t164 := Tryz.underlying281
  a164 := Tryz.isAgg281
  z164 := Tryz.sizeOf281
  v164 := Tryz.zeroValue281 }
theorem Tryz.Builder_Extra_156 : Builder.Extra Tryz.prog Tryz.lays156_ren := {
  sizeBuilder := by kernel_rfl
  liesBuilder := by kernel_rfl
  t5 := Tryz.underlying5
  a5 := Tryz.isAgg5
  z5 := Tryz.sizeOf5
  v5 := Tryz.zeroValue5
  infoByte := by kernel_rfl
  cellsByte := by kernel_rfl
  sizeByte := by kernel_rfl
  neB5 := by decide }
open Go.RowKit in
theorem Tryz.strings_Join (bk o c : Nat) (xs : List ByteArray) (sep : ByteArray) (w : World) (hcells : ∀ (j : Nat) x, xs[j]? = some x → w.cell? ⟨bk, o + j, none⟩ = some (.string x)) (hbk : bk < w.heap.size) (hN : xs.length ≤ 140737488355328) (hcap : xs.length ≤ c) (hlen : (Lib.join (xs.map (·.data.toList)) sep.data.toList).length ≤ 140737488355328) :
    Calls Tryz.prog 173 #[.slice (some ⟨bk, o, none⟩) xs.length c, .string sep] w fun e w' => e = .returned (.string ⟨(Lib.join (xs.map (·.data.toList)) sep.data.toList).toArray⟩) ∧ Below w.heap.size w w' := Any.strings_Join Tryz.lays156 Tryz.Builder_Extra_156 bk o c xs sep w hcells hbk hN hcap hlen
def Tryz.lays190_ren : Go.Shelf.Ren := ⟨fun | 190 => 166 | 125 => 94 | 258 => 198 | 128 => 127 | 129 => 128 | 302 => 222 | 303 => 223 | 304 => 224 | 305 => 225 | 306 => 226 | 307 => 227 | 308 => 228 | 309 => 229 | 310 => 230 | 333 => 243 | 329 => 177 | 330 => 178 | 334 => 244 | 335 => 245 | 336 => 68 | 344 => 254 | n => n, fun | 31 => 35 | 9 => 9 | 3 => 3 | 46 => 150 | 0 => 0 | 51 => 189 | 53 => 191 | 4 => 4 | 183 => 182 | 182 => 181 | 131 => 186 | 5 => 5 | 218 => 221 | 222 => 225 | 228 => 258 | 229 => 259 | n => n, fun | n => n⟩
theorem Tryz.lays190 : Go.Proofs.Lays.n190 Tryz.prog Tryz.lays190_ren := {
  mixed := by kernel_rfl
  f125 := Tryz.func94.trans (congrArg some (by kernel_rfl))
  f128 := Tryz.func127.trans (congrArg some (by kernel_rfl))
  f129 := Tryz.func128.trans (congrArg some (by kernel_rfl))
  f190 := Tryz.func166.trans (congrArg some (by kernel_rfl))
  f258 := Tryz.func198.trans (congrArg some (by kernel_rfl))
  f302 := Tryz.func222.trans (congrArg some (by kernel_rfl))
  f303 := Tryz.func223.trans (congrArg some (by kernel_rfl))
  f304 := Tryz.func224.trans (congrArg some (by kernel_rfl))
  f305 := Tryz.func225.trans (congrArg some (by kernel_rfl))
  f306 := Tryz.func226.trans (congrArg some (by kernel_rfl))
  f307 := Tryz.func227.trans (congrArg some (by kernel_rfl))
  f308 := Tryz.func228.trans (congrArg some (by kernel_rfl))
  f309 := Tryz.func229.trans (congrArg some (by kernel_rfl))
  f310 := Tryz.func230.trans (congrArg some (by kernel_rfl))
  f329 := Tryz.func177.trans (congrArg some (by kernel_rfl))
  f330 := Tryz.func178.trans (congrArg some (by kernel_rfl))
  f333 := Tryz.func243.trans (congrArg some (by kernel_rfl))
  f334 := Tryz.func244.trans (congrArg some (by kernel_rfl))
  f335 := Tryz.func245.trans (congrArg some (by kernel_rfl))
  f336 := Tryz.func68.trans (congrArg some (by kernel_rfl))
  f344 := Tryz.func254.trans (congrArg some (by kernel_rfl))
  t0 := Tryz.underlying0
  a0 := Tryz.isAgg0
  z0 := Tryz.sizeOf0
  v0 := Tryz.zeroValue0
  t3 := Tryz.underlying3
  a3 := Tryz.isAgg3
  z3 := Tryz.sizeOf3
  v3 := Tryz.zeroValue3
  t4 := Tryz.underlying4
  a4 := Tryz.isAgg4
  z4 := Tryz.sizeOf4
  v4 := Tryz.zeroValue4
  t5 := Tryz.underlying5
  a5 := Tryz.isAgg5
  z5 := Tryz.sizeOf5
  v5 := Tryz.zeroValue5
  t9 := Tryz.underlying9
  a9 := Tryz.isAgg9
  z9 := Tryz.sizeOf9
  v9 := Tryz.zeroValue9
  t31 := Tryz.underlying35
  a31 := Tryz.isAgg35
  z31 := Tryz.sizeOf35
  v31 := Tryz.zeroValue35
  t46 := Tryz.underlying150
  a46 := Tryz.isAgg150
  z46 := Tryz.sizeOf150
  v46 := Tryz.zeroValue150
  t51 := Tryz.underlying189
  a51 := Tryz.isAgg189
  z51 := Tryz.sizeOf189
  v51 := Tryz.zeroValue189
  t53 := Tryz.underlying191
  a53 := Tryz.isAgg191
  z53 := Tryz.sizeOf191
  v53 := Tryz.zeroValue191
  t131 := Tryz.underlying186
  a131 := Tryz.isAgg186
  z131 := Tryz.sizeOf186
  v131 := Tryz.zeroValue186
  t182 := Tryz.underlying181
  a182 := Tryz.isAgg181
  z182 := Tryz.sizeOf181
  v182 := Tryz.zeroValue181
  t183 := Tryz.underlying182
  a183 := Tryz.isAgg182
  z183 := Tryz.sizeOf182
  v183 := Tryz.zeroValue182
  t218 := Tryz.underlying221
  a218 := Tryz.isAgg221
  z218 := Tryz.sizeOf221
  v218 := Tryz.zeroValue221
  t222 := Tryz.underlying225
  a222 := Tryz.isAgg225
  z222 := Tryz.sizeOf225
  v222 := Tryz.zeroValue225
  t228 := Tryz.underlying258
  a228 := Tryz.isAgg258
  z228 := Tryz.sizeOf258
  v228 := Tryz.zeroValue258
  t229 := Tryz.underlying259
  a229 := Tryz.isAgg259
  z229 := Tryz.sizeOf259
  v229 := Tryz.zeroValue259 }
open Go.Sort Go.RowKit in
theorem Tryz.slices_Sort_string (blk off cap : Nat) (ss : List (List UInt8)) (w : World) (hH : Holds encStr w blk off ss.toArray) (hblk : blk < w.heap.size) (hsz : ss.length < 4611686018427387904) :
    Calls Tryz.prog 166 #[.slice (some ⟨blk, off, none⟩) ss.length cap] w fun e w' =>
      e = .returned (.tuple #[]) ∧ ∃ n os, w' = grow (putRow encStr (Sort.ahead w n) blk off (ss.mergeSort fun x y => decide (x ≤ y)).toArray) os := Any.slices_Sort_string Tryz.lays190 blk off cap ss w hH hblk hsz
def Tryz.lays146_ren : Go.Shelf.Ren := ⟨fun | 146 => 162 | 221 => 196 | 268 => 218 | 138 => 219 | 143 => 220 | 195 => 239 | 197 => 221 | 218 => 240 | 219 => 241 | 260 => 242 | 217 => 250 | 225 => 251 | 224 => 252 | 267 => 253 | 266 => 255 | 314 => 256 | n => n, fun | 9 => 9 | 31 => 35 | 3 => 3 | 4 => 4 | 0 => 0 | 105 => 264 | 21 => 21 | 5 => 5 | 46 => 150 | 119 => 285 | 139 => 288 | 138 => 287 | 146 => 290 | 51 => 189 | n => n, fun | 1 => 0 | 3 => 1 | 4 => 2 | n => n⟩
theorem Tryz.lays146 : Go.Proofs.Lays.n146 Tryz.prog Tryz.lays146_ren := {
  mixed := by kernel_rfl
  f138 := Tryz.func219.trans (congrArg some (by kernel_rfl))
  f143 := Tryz.func220.trans (congrArg some (by kernel_rfl))
  f146 := Tryz.func162.trans (congrArg some (by kernel_rfl))
  f195 := Tryz.func239.trans (congrArg some (by kernel_rfl))
  f197 := Tryz.func221.trans (congrArg some (by kernel_rfl))
  f217 := Tryz.func250.trans (congrArg some (by kernel_rfl))
  f218 := Tryz.func240.trans (congrArg some (by kernel_rfl))
  f219 := Tryz.func241.trans (congrArg some (by kernel_rfl))
  f221 := Tryz.func196.trans (congrArg some (by kernel_rfl))
  f224 := Tryz.func252.trans (congrArg some (by kernel_rfl))
  f225 := Tryz.func251.trans (congrArg some (by kernel_rfl))
  f260 := Tryz.func242.trans (congrArg some (by kernel_rfl))
  f266 := Tryz.func255.trans (congrArg some (by kernel_rfl))
  f267 := Tryz.func253.trans (congrArg some (by kernel_rfl))
  f268 := Tryz.func218.trans (congrArg some (by kernel_rfl))
  f314 := Tryz.func256.trans (congrArg some (by kernel_rfl))
  t0 := Tryz.underlying0
  a0 := Tryz.isAgg0
  z0 := Tryz.sizeOf0
  v0 := Tryz.zeroValue0
  t3 := Tryz.underlying3
  a3 := Tryz.isAgg3
  z3 := Tryz.sizeOf3
  v3 := Tryz.zeroValue3
  t4 := Tryz.underlying4
  a4 := Tryz.isAgg4
  z4 := Tryz.sizeOf4
  v4 := Tryz.zeroValue4
  t5 := Tryz.underlying5
  a5 := Tryz.isAgg5
  z5 := Tryz.sizeOf5
  v5 := Tryz.zeroValue5
  t9 := Tryz.underlying9
  a9 := Tryz.isAgg9
  z9 := Tryz.sizeOf9
  v9 := Tryz.zeroValue9
  t21 := Tryz.underlying21
  a21 := Tryz.isAgg21
  z21 := Tryz.sizeOf21
  v21 := Tryz.zeroValue21
  t31 := Tryz.underlying35
  a31 := Tryz.isAgg35
  z31 := Tryz.sizeOf35
  v31 := Tryz.zeroValue35
  t46 := Tryz.underlying150
  a46 := Tryz.isAgg150
  z46 := Tryz.sizeOf150
  v46 := Tryz.zeroValue150
  t51 := Tryz.underlying189
  a51 := Tryz.isAgg189
  z51 := Tryz.sizeOf189
  v51 := Tryz.zeroValue189
  t105 := Tryz.underlying264
  a105 := Tryz.isAgg264
  z105 := Tryz.sizeOf264
  v105 := Tryz.zeroValue264
  t119 := Tryz.underlying285
  a119 := Tryz.isAgg285
  z119 := Tryz.sizeOf285
  t138 := Tryz.underlying287
  a138 := Tryz.isAgg287
  z138 := Tryz.sizeOf287
  v138 := Tryz.zeroValue287
  t139 := Tryz.underlying288
  a139 := Tryz.isAgg288
  z139 := Tryz.sizeOf288
  v139 := Tryz.zeroValue288
  t146 := Tryz.underlying290
  a146 := Tryz.isAgg290
  z146 := Tryz.sizeOf290
  v146 := Tryz.zeroValue290
  g1 := by kernel_rfl
  g3 := by kernel_rfl
  g4 := by kernel_rfl }
open Go.RowKit Go.Lib in
theorem Tryz.strings_Split (s sep : ByteArray) (m : Int) (w : World) (hs : s.size < 4294967281) (hm : w.cell? ⟨0, 0, none⟩ = some (.int .i64 m)) (h1 : 1 ≤ sep.size) :
    Calls Tryz.prog 162 #[.string s, .string sep] w fun e w' =>
      e = .returned (.slice (some ⟨w.heap.size, 0, none⟩) (Lib.countB s sep + 1) (Lib.countB s sep + 1)) ∧ w' = w.alloc (.cells ((Lib.splitB sep 0 (Lib.countB s sep) s).map Value.string).toArray 9) := Any.strings_Split Tryz.lays146 (by kernel_rfl) s sep m w hs hm h1
def Tryz.lays155_ren : Go.Shelf.Ren := ⟨fun | 155 => 163 | 154 => 197 | 138 => 219 | 165 => 210 | 143 => 220 | 166 => 211 | 197 => 221 | 169 => 212 | 195 => 239 | 218 => 240 | 240 => 237 | 241 => 238 | 219 => 241 | 260 => 242 | 276 => 248 | 277 => 249 | 217 => 250 | 225 => 251 | 224 => 252 | 267 => 253 | 266 => 255 | 314 => 256 | n => n, fun | 9 => 9 | 3 => 3 | 4 => 4 | 72 => 251 | 0 => 0 | 76 => 255 | 105 => 264 | 21 => 21 | 5 => 5 | 70 => 249 | 20 => 20 | 37 => 231 | 75 => 254 | 127 => 275 | 164 => 281 | 46 => 150 | 119 => 285 | 139 => 288 | 138 => 287 | 146 => 290 | 51 => 189 | 80 => 179 | n => n, fun | 1 => 0 | 3 => 1 | 4 => 2 | n => n⟩
theorem Tryz.lays155 : Go.Proofs.Lays.n155 Tryz.prog Tryz.lays155_ren := {
  mixed := by kernel_rfl
  f138 := Tryz.func219.trans (congrArg some (by kernel_rfl))
  f143 := Tryz.func220.trans (congrArg some (by kernel_rfl))
  f154 := Tryz.func197.trans (congrArg some (by kernel_rfl))
  f155 := Tryz.func163.trans (congrArg some (by kernel_rfl))
  f165 := Tryz.func210.trans (congrArg some (by kernel_rfl))
  f166 := Tryz.func211.trans (congrArg some (by kernel_rfl))
  f169 := Tryz.func212.trans (congrArg some (by kernel_rfl))
  f195 := Tryz.func239.trans (congrArg some (by kernel_rfl))
  f197 := Tryz.func221.trans (congrArg some (by kernel_rfl))
  f217 := Tryz.func250.trans (congrArg some (by kernel_rfl))
  f218 := Tryz.func240.trans (congrArg some (by kernel_rfl))
  f219 := Tryz.func241.trans (congrArg some (by kernel_rfl))
  f224 := Tryz.func252.trans (congrArg some (by kernel_rfl))
  f225 := Tryz.func251.trans (congrArg some (by kernel_rfl))
  f240 := Tryz.func237.trans (congrArg some (by kernel_rfl))
  f241 := Tryz.func238.trans (congrArg some (by kernel_rfl))
  f260 := Tryz.func242.trans (congrArg some (by kernel_rfl))
  f266 := Tryz.func255.trans (congrArg some (by kernel_rfl))
  f267 := Tryz.func253.trans (congrArg some (by kernel_rfl))
  f276 := Tryz.func248.trans (congrArg some (by kernel_rfl))
  f277 := Tryz.func249.trans (congrArg some (by kernel_rfl))
  f314 := Tryz.func256.trans (congrArg some (by kernel_rfl))
  t0 := Tryz.underlying0
  a0 := Tryz.isAgg0
  z0 := Tryz.sizeOf0
  v0 := Tryz.zeroValue0
  t3 := Tryz.underlying3
  a3 := Tryz.isAgg3
  z3 := Tryz.sizeOf3
  v3 := Tryz.zeroValue3
  t4 := Tryz.underlying4
  a4 := Tryz.isAgg4
  z4 := Tryz.sizeOf4
  v4 := Tryz.zeroValue4
  t5 := Tryz.underlying5
  a5 := Tryz.isAgg5
  z5 := Tryz.sizeOf5
  v5 := Tryz.zeroValue5
  t9 := Tryz.underlying9
  a9 := Tryz.isAgg9
  z9 := Tryz.sizeOf9
  v9 := Tryz.zeroValue9
  t20 := Tryz.underlying20
  a20 := Tryz.isAgg20
  z20 := Tryz.sizeOf20
  v20 := Tryz.zeroValue20
  t21 := Tryz.underlying21
  a21 := Tryz.isAgg21
  z21 := Tryz.sizeOf21
  v21 := Tryz.zeroValue21
  t37 := Tryz.underlying231
  a37 := Tryz.isAgg231
  z37 := Tryz.sizeOf231
  v37 := Tryz.zeroValue231
  t46 := Tryz.underlying150
  a46 := Tryz.isAgg150
  z46 := Tryz.sizeOf150
  v46 := Tryz.zeroValue150
  t51 := Tryz.underlying189
  a51 := Tryz.isAgg189
  z51 := Tryz.sizeOf189
  v51 := Tryz.zeroValue189
  t70 := Tryz.underlying249
  a70 := Tryz.isAgg249
  z70 := Tryz.sizeOf249
  v70 := Tryz.zeroValue249
  t72 := Tryz.underlying251
  a72 := Tryz.isAgg251
  z72 := Tryz.sizeOf251
  v72 := Tryz.zeroValue251
  t75 := Tryz.underlying254
  a75 := Tryz.isAgg254
  z75 := Tryz.sizeOf254
  v75 := Tryz.zeroValue254
  t76 := Tryz.underlying255
  a76 := Tryz.isAgg255
  z76 := Tryz.sizeOf255
  v76 := Tryz.zeroValue255
  t105 := Tryz.underlying264
  a105 := Tryz.isAgg264
  z105 := Tryz.sizeOf264
  v105 := Tryz.zeroValue264
  t119 := Tryz.underlying285
  a119 := Tryz.isAgg285
  z119 := Tryz.sizeOf285
  t127 := Tryz.underlying275
  a127 := Tryz.isAgg275
  z127 := Tryz.sizeOf275
  v127 := Tryz.zeroValue275
  t138 := Tryz.underlying287
  a138 := Tryz.isAgg287
  z138 := Tryz.sizeOf287
  v138 := Tryz.zeroValue287
  t139 := Tryz.underlying288
  a139 := Tryz.isAgg288
  z139 := Tryz.sizeOf288
  v139 := Tryz.zeroValue288
  t146 := Tryz.underlying290
  a146 := Tryz.isAgg290
  z146 := Tryz.sizeOf290
  v146 := Tryz.zeroValue290
  t164 := Tryz.underlying281
  a164 := Tryz.isAgg281
  z164 := Tryz.sizeOf281
  v164 := Tryz.zeroValue281
  g1 := by kernel_rfl
  g3 := by kernel_rfl
  g4 := by kernel_rfl }
theorem Tryz.Builder_Extra_155 : Builder.Extra Tryz.prog Tryz.lays155_ren := {
  sizeBuilder := by kernel_rfl
  liesBuilder := by kernel_rfl
  t5 := Tryz.underlying5
  a5 := Tryz.isAgg5
  z5 := Tryz.sizeOf5
  v5 := Tryz.zeroValue5
  infoByte := by kernel_rfl
  cellsByte := by kernel_rfl
  sizeByte := by kernel_rfl
  neB5 := by decide }
open Go.RowKit Go.Lib in
theorem Tryz.strings_ReplaceAll (s old new : ByteArray) (m : Int) (w : World) (hs : s.size < 4294967281) (hm : w.cell? ⟨0, 0, none⟩ = some (.int .i64 m)) (h1 : 1 ≤ old.size) (hlen : s.size + Lib.countB s old * new.size ≤ 140737488355328) :
    Calls Tryz.prog 163 #[.string s, .string old, .string new] w fun e w' =>
      e = .returned (.string ⟨(Lib.replaceAll s.data.toList old.data.toList new.data.toList).toArray⟩) ∧ Below w.heap.size w w' := Any.strings_ReplaceAll Tryz.lays155 Tryz.Builder_Extra_155 s old new m w hs hm h1 hlen
def Tryz.laysM146_ren : Go.Shelf.Ren := ⟨fun | 146 => 162 | 221 => 196 | 268 => 218 | 138 => 219 | 143 => 220 | 195 => 239 | 197 => 221 | 218 => 240 | 219 => 241 | 260 => 242 | 217 => 250 | 225 => 251 | 224 => 252 | 267 => 253 | 266 => 255 | 314 => 256 | n => n, fun | 9 => 9 | 31 => 35 | 3 => 3 | 4 => 4 | 0 => 0 | 105 => 264 | 21 => 21 | 5 => 5 | 46 => 150 | 119 => 285 | 139 => 288 | 138 => 287 | 146 => 290 | 51 => 189 | n => n, fun | 1 => 0 | 3 => 1 | 4 => 2 | n => n⟩
theorem Tryz.laysM146 : Go.Proofs.LaysM.n146 Tryz.prog Tryz.laysM146_ren := {
  mixed := by kernel_rfl
  f138 := Tryz.func219.trans (congrArg some (by kernel_rfl))
  f143 := Tryz.func220.trans (congrArg some (by kernel_rfl))
  f146 := Tryz.func162.trans (congrArg some (by kernel_rfl))
  f195 := Tryz.func239.trans (congrArg some (by kernel_rfl))
  f197 := Tryz.func221.trans (congrArg some (by kernel_rfl))
  f217 := Tryz.func250.trans (congrArg some (by kernel_rfl))
  f218 := Tryz.func240.trans (congrArg some (by kernel_rfl))
  f219 := Tryz.func241.trans (congrArg some (by kernel_rfl))
  f221 := Tryz.func196.trans (congrArg some (by kernel_rfl))
  f224 := Tryz.func252.trans (congrArg some (by kernel_rfl))
  f225 := Tryz.func251.trans (congrArg some (by kernel_rfl))
  f260 := Tryz.func242.trans (congrArg some (by kernel_rfl))
  f266 := Tryz.func255.trans (congrArg some (by kernel_rfl))
  f267 := Tryz.func253.trans (congrArg some (by kernel_rfl))
  f268 := Tryz.func218.trans (congrArg some (by kernel_rfl))
  f314 := Tryz.func256.trans (congrArg some (by kernel_rfl))
  t0 := Tryz.underlying0
  a0 := Tryz.isAgg0
  z0 := Tryz.sizeOf0
  v0 := Tryz.zeroValue0
  t3 := Tryz.underlying3
  a3 := Tryz.isAgg3
  z3 := Tryz.sizeOf3
  v3 := Tryz.zeroValue3
  t4 := Tryz.underlying4
  a4 := Tryz.isAgg4
  z4 := Tryz.sizeOf4
  v4 := Tryz.zeroValue4
  t5 := Tryz.underlying5
  a5 := Tryz.isAgg5
  z5 := Tryz.sizeOf5
  v5 := Tryz.zeroValue5
  t9 := Tryz.underlying9
  a9 := Tryz.isAgg9
  z9 := Tryz.sizeOf9
  v9 := Tryz.zeroValue9
  t21 := Tryz.underlying21
  a21 := Tryz.isAgg21
  z21 := Tryz.sizeOf21
  v21 := Tryz.zeroValue21
  t31 := Tryz.underlying35
  a31 := Tryz.isAgg35
  z31 := Tryz.sizeOf35
  v31 := Tryz.zeroValue35
  t46 := Tryz.underlying150
  a46 := Tryz.isAgg150
  z46 := Tryz.sizeOf150
  v46 := Tryz.zeroValue150
  t51 := Tryz.underlying189
  a51 := Tryz.isAgg189
  z51 := Tryz.sizeOf189
  v51 := Tryz.zeroValue189
  t105 := Tryz.underlying264
  a105 := Tryz.isAgg264
  z105 := Tryz.sizeOf264
  v105 := Tryz.zeroValue264
  t119 := Tryz.underlying285
  a119 := Tryz.isAgg285
  z119 := Tryz.sizeOf285
  t138 := Tryz.underlying287
  a138 := Tryz.isAgg287
  z138 := Tryz.sizeOf287
  v138 := Tryz.zeroValue287
  t139 := Tryz.underlying288
  a139 := Tryz.isAgg288
  z139 := Tryz.sizeOf288
  v139 := Tryz.zeroValue288
  t146 := Tryz.underlying290
  a146 := Tryz.isAgg290
  z146 := Tryz.sizeOf290
  v146 := Tryz.zeroValue290
  g1 := by kernel_rfl
  g3 := by kernel_rfl
  g4 := by kernel_rfl
  i0 := by kernel_rfl
  i3 := by kernel_rfl
  i4 := by kernel_rfl
  i5 := by kernel_rfl
  i9 := by kernel_rfl
  i21 := by kernel_rfl
  i31 := by kernel_rfl
  i46 := by kernel_rfl
  i51 := by kernel_rfl
  i105 := by kernel_rfl
  i138 := by kernel_rfl
  i139 := by kernel_rfl
  i146 := by kernel_rfl
  m1 := by kernel_rfl
  s1_3 := fun w h => Go.Proofs.cell_of_shapedOpen_int (zero := #[.int .i64 0]) (t := 3) h (of_decide_eq_true (by kernel_rfl)) (by kernel_rfl) rfl (by kernel_rfl) (by kernel_rfl) Tryz.underlying3
  m3 := by kernel_rfl
  m4 := by kernel_rfl }
def Tryz.lays107_ren : Go.Shelf.Ren := ⟨fun | 107 => 60 | 108 => 92 | n => n, fun | 28 => 43 | 3 => 3 | 4 => 4 | 0 => 0 | n => n, fun | n => n⟩
theorem Tryz.lays107 : Go.Proofs.Lays.n107 Tryz.prog Tryz.lays107_ren := {
  mixed := by kernel_rfl
  f107 := Tryz.func60.trans (congrArg some (by kernel_rfl))
  f108 := Tryz.func92.trans (congrArg some (by kernel_rfl))
  t0 := Tryz.underlying0
  a0 := Tryz.isAgg0
  z0 := Tryz.sizeOf0
  v0 := Tryz.zeroValue0
  t3 := Tryz.underlying3
  a3 := Tryz.isAgg3
  z3 := Tryz.sizeOf3
  v3 := Tryz.zeroValue3
  t4 := Tryz.underlying4
  a4 := Tryz.isAgg4
  z4 := Tryz.sizeOf4
  v4 := Tryz.zeroValue4
  t28 := Tryz.underlying43
  a28 := Tryz.isAgg43
  z28 := Tryz.sizeOf43
  v28 := Tryz.zeroValue43 }
open Go.Lib in
theorem Tryz.slices_Contains_int (b off n c : Nat) (zs : List Int) (x : Int) (w : World) (hz : n ≤ zs.length) (hbig : n ≤ 9223372036854775807) (hc : ∀ j, j < zs.length → w.cell? ⟨b, off + j, none⟩ = some (.int .i64 (zs.getD j 0))) :
    Calls Tryz.prog 60 #[.slice (some ⟨b, off, none⟩) n c, .int .i64 x] w fun e w' => e = .returned (.bool ((zs.take n).contains x)) ∧ w' = w := Any.slices_Contains_int Tryz.lays107 b off n c zs x w hz hbig hc
open Go.Lib in
theorem Tryz.slices_Contains_int_empty (a : Option Addr) (c : Nat) (x : Int) (w : World) :
    Calls Tryz.prog 60 #[.slice a 0 c, .int .i64 x] w fun e w' => e = .returned (.bool false) ∧ w' = w := Any.slices_Contains_int_empty Tryz.lays107 a c x w
def Tryz.lays110_ren : Go.Shelf.Ren := ⟨fun | 110 => 199 | 109 => 231 | n => n, fun | 31 => 35 | 9 => 9 | 4 => 4 | 3 => 3 | 0 => 0 | n => n, fun | n => n⟩
theorem Tryz.lays110 : Go.Proofs.Lays.n110 Tryz.prog Tryz.lays110_ren := {
  mixed := by kernel_rfl
  f109 := Tryz.func231.trans (congrArg some (by kernel_rfl))
  f110 := Tryz.func199.trans (congrArg some (by kernel_rfl))
  t0 := Tryz.underlying0
  a0 := Tryz.isAgg0
  z0 := Tryz.sizeOf0
  v0 := Tryz.zeroValue0
  t3 := Tryz.underlying3
  a3 := Tryz.isAgg3
  z3 := Tryz.sizeOf3
  v3 := Tryz.zeroValue3
  t4 := Tryz.underlying4
  a4 := Tryz.isAgg4
  z4 := Tryz.sizeOf4
  v4 := Tryz.zeroValue4
  t9 := Tryz.underlying9
  a9 := Tryz.isAgg9
  z9 := Tryz.sizeOf9
  v9 := Tryz.zeroValue9
  t31 := Tryz.underlying35
  a31 := Tryz.isAgg35
  z31 := Tryz.sizeOf35
  v31 := Tryz.zeroValue35 }
open Go.Lib in
theorem Tryz.slices_Contains_string (b off n c : Nat) (zs : List ByteArray) (x : ByteArray) (w : World) (hz : n ≤ zs.length) (hbig : n ≤ 9223372036854775807) (hc : ∀ j, j < zs.length → w.cell? ⟨b, off + j, none⟩ = some (.string (zs.getD j ByteArray.empty))) :
    Calls Tryz.prog 199 #[.slice (some ⟨b, off, none⟩) n c, .string x] w fun e w' => e = .returned (.bool (Lib.containsS (zs.take n) x)) ∧ w' = w := Any.slices_Contains_string Tryz.lays110 b off n c zs x w hz hbig hc
open Go.Lib in
theorem Tryz.slices_Contains_string_empty (a : Option Addr) (c : Nat) (x : ByteArray) (w : World) :
    Calls Tryz.prog 199 #[.slice a 0 c, .string x] w fun e w' => e = .returned (.bool false) ∧ w' = w := Any.slices_Contains_string_empty Tryz.lays110 a c x w
def Tryz.lays193_ren : Go.Shelf.Ren := ⟨fun | 193 => 113 | n => n, fun | 31 => 35 | 9 => 9 | 4 => 4 | 3 => 3 | 0 => 0 | n => n, fun | n => n⟩
theorem Tryz.lays193 : Go.Proofs.Lays.n193 Tryz.prog Tryz.lays193_ren := {
  mixed := by kernel_rfl
  f193 := Tryz.func113.trans (congrArg some (by kernel_rfl))
  t0 := Tryz.underlying0
  a0 := Tryz.isAgg0
  z0 := Tryz.sizeOf0
  v0 := Tryz.zeroValue0
  t3 := Tryz.underlying3
  a3 := Tryz.isAgg3
  z3 := Tryz.sizeOf3
  v3 := Tryz.zeroValue3
  t4 := Tryz.underlying4
  a4 := Tryz.isAgg4
  z4 := Tryz.sizeOf4
  v4 := Tryz.zeroValue4
  t9 := Tryz.underlying9
  a9 := Tryz.isAgg9
  z9 := Tryz.sizeOf9
  v9 := Tryz.zeroValue9
  t31 := Tryz.underlying35
  a31 := Tryz.isAgg35
  z31 := Tryz.sizeOf35
  v31 := Tryz.zeroValue35 }
open Go.RowKit Go.Lib in
theorem Tryz.slices_Equal_string (b1 o1 n c b2 o2 m d : Nat) (xs ys : List ByteArray) (w : World) (hx : n ≤ xs.length) (hy : m ≤ ys.length) (hbig : n ≤ 9223372036854775807) (hbig2 : m ≤ 9223372036854775807) (hc1 : ∀ j, j < xs.length → w.cell? ⟨b1, o1 + j, none⟩ = some (.string (xs.getD j ByteArray.empty))) (hc2 : ∀ j, j < ys.length → w.cell? ⟨b2, o2 + j, none⟩ = some (.string (ys.getD j ByteArray.empty))) :
    Calls Tryz.prog 113 #[.slice (some ⟨b1, o1, none⟩) n c, .slice (some ⟨b2, o2, none⟩) m d] w fun e w' => e = .returned (.bool (decide (xs.take n = ys.take m))) ∧ ∃ q, w' = w.drewN q := Any.slices_Equal_string Tryz.lays193 b1 o1 n c b2 o2 m d xs ys w hx hy hbig hbig2 hc1 hc2
open Go.RowKit Go.Lib in
theorem Tryz.slices_Equal_string_empty (a1 a2 : Option Addr) (c m d : Nat) (w : World) (hbig2 : m ≤ 9223372036854775807) :
    Calls Tryz.prog 113 #[.slice a1 0 c, .slice a2 m d] w fun e w' => e = .returned (.bool (decide (m = 0))) ∧ w' = w := Any.slices_Equal_string_empty Tryz.lays193 a1 a2 c m d w hbig2
def Tryz.laysNm216_ren : Go.Shelf.Ren := ⟨fun | 16 => 65 | n => n, fun | 24 => 35 | 9 => 9 | 4 => 4 | n => n, fun | n => n⟩
theorem Tryz.laysNm216 : Go.Proofs.Lays2.n16 Tryz.prog Tryz.laysNm216_ren := {
  mixed := by kernel_rfl
  f16 := Tryz.func65.trans (congrArg some (by kernel_rfl))
  t4 := Tryz.underlying4
  a4 := Tryz.isAgg4
  z4 := Tryz.sizeOf4
  v4 := Tryz.zeroValue4
  t9 := Tryz.underlying9
  a9 := Tryz.isAgg9
  z9 := Tryz.sizeOf9
  v9 := Tryz.zeroValue9
  t24 := Tryz.underlying35
  a24 := Tryz.isAgg35
  z24 := Tryz.sizeOf35
  v24 := Tryz.zeroValue35
  i9 := by kernel_rfl }
open Go.RowKit Go.Lib in
theorem Tryz.slices_Clone_string (b off n c : Nat) (zs : List ByteArray) (w : World) (hz : n ≤ zs.length) (hbig : n * 16 ≤ 140737488355328) (hc : ∀ j, j < zs.length → w.cell? ⟨b, off + j, none⟩ = some (.string (zs.getD j ByteArray.empty))) :
    Calls Tryz.prog 65 #[.slice (some ⟨b, off, none⟩) n c] w fun e w' => ∃ v', e = .returned v' ∧ w'.ownsRow w.heap.size 9 1 v' n ((zs.take n).map (Value.string)) ∧ v' ≠ .slice none 0 0 ∧ Below w.heap.size w w' := Any.slices_Clone_string Tryz.laysNm216 b off n c zs w hz hbig hc
def Tryz.lays194_ren : Go.Shelf.Ren := ⟨fun | 194 => 167 | n => n, fun | 31 => 35 | 9 => 9 | 3 => 3 | 4 => 4 | 0 => 0 | n => n, fun | n => n⟩
theorem Tryz.lays194 : Go.Proofs.Lays.n194 Tryz.prog Tryz.lays194_ren := {
  mixed := by kernel_rfl
  f194 := Tryz.func167.trans (congrArg some (by kernel_rfl))
  t0 := Tryz.underlying0
  a0 := Tryz.isAgg0
  z0 := Tryz.sizeOf0
  v0 := Tryz.zeroValue0
  t3 := Tryz.underlying3
  a3 := Tryz.isAgg3
  z3 := Tryz.sizeOf3
  v3 := Tryz.zeroValue3
  t4 := Tryz.underlying4
  a4 := Tryz.isAgg4
  z4 := Tryz.sizeOf4
  v4 := Tryz.zeroValue4
  t9 := Tryz.underlying9
  a9 := Tryz.isAgg9
  z9 := Tryz.sizeOf9
  v9 := Tryz.zeroValue9
  t31 := Tryz.underlying35
  a31 := Tryz.isAgg35
  z31 := Tryz.sizeOf35
  v31 := Tryz.zeroValue35 }
open Go.RowKit Go.Lib Go.Sort in
theorem Tryz.slices_Compact_string (blk off cap : Nat) (zs : List (List UInt8)) (w : World) (hH : Holds encStr w blk off zs.toArray) (hsz : zs.length ≤ 9223372036854775807) (hcap : zs.length ≤ cap) :
    Calls Tryz.prog 167 #[.slice (some ⟨blk, off, none⟩) zs.length cap] w fun e w' => e = .returned (.slice (some ⟨blk, off, none⟩) (Lib.compact zs).length cap) ∧ ∃ q, w' = putRow encStr (Sort.ahead w q) blk off (Lib.compact zs ++ List.replicate (zs.length - (Lib.compact zs).length) []).toArray := Any.slices_Compact_string Tryz.lays194 blk off cap zs w hH hsz hcap
open Go.RowKit Go.Lib Go.Sort in
theorem Tryz.slices_Compact_string_empty (a : Option Addr) (cap : Nat) (w : World) :
    Calls Tryz.prog 167 #[.slice a 0 cap] w fun e w' => e = .returned (.slice a 0 cap) ∧ w' = w := Any.slices_Compact_string_empty Tryz.lays194 a cap w
open Go.RowKit Go.Sort in
theorem Tryz.slices_Sort_string_none (p : Option Addr) (cap : Nat) (w : World) :
    Calls Tryz.prog 166 #[.slice p 0 cap] w fun e w' => e = .returned (.tuple #[]) ∧ w' = w := Any.slices_Sort_string_none Tryz.lays190 p cap w
open Go.RowKit Go.Lib in
theorem Tryz.slices_Equal_string_lens (a1 a2 : Option Addr) (n c m d : Nat) (w : World) (hnm : n ≠ m) :
    Calls Tryz.prog 113 #[.slice a1 n c, .slice a2 m d] w fun e w' => e = .returned (.bool false) ∧ w' = w := Any.slices_Equal_string_lens Tryz.lays193 a1 a2 n c m d w hnm
def Tryz.laysSlH10_f174_ren : Go.Shelf.Ren := ⟨fun | 10 => 174 | 6 => 213 | n => n, fun | 22 => 35 | 23 => 9 | 25 => 100 | 3 => 3 | 4 => 4 | 0 => 0 | n => n, fun | n => n⟩
theorem Tryz.laysSlH10_f174 : Go.Proofs.SlLaysH.n10 Tryz.prog Tryz.laysSlH10_f174_ren := {
  mixed := by kernel_rfl
  f6 := ⟨Tryz.f213.name, by decide, Tryz.func213.trans (congrArg some (by kernel_rfl))⟩
  f10 := ⟨Tryz.f174.name, by decide, Tryz.func174.trans (congrArg some (by kernel_rfl))⟩
  t0 := Tryz.underlying0
  a0 := Tryz.isAgg0
  z0 := Tryz.sizeOf0
  v0 := Tryz.zeroValue0
  t3 := Tryz.underlying3
  a3 := Tryz.isAgg3
  z3 := Tryz.sizeOf3
  v3 := Tryz.zeroValue3
  t4 := Tryz.underlying4
  a4 := Tryz.isAgg4
  z4 := Tryz.sizeOf4
  v4 := Tryz.zeroValue4
  t22 := Tryz.underlying35
  a22 := Tryz.isAgg35
  z22 := Tryz.sizeOf35
  v22 := Tryz.zeroValue35
  a23 := Tryz.isAgg9
  z23 := Tryz.sizeOf9
  t25 := Tryz.underlying100
  a25 := Tryz.isAgg100
  z25 := Tryz.sizeOf100
  v25 := Tryz.zeroValue100 }
open Go.RowKit Go.Lib Go.Sort in
theorem Tryz.slices_DeleteFunc {α : Type} [Inhabited α] (enc : α → Value) (hO : OneCell enc) (p : α → Bool) (g : Nat) (lb : Array Value) (eg : ∀ args w, (callFunc g args).run Tryz.prog w = .ok (.enter g args) w) (zr : α) (v23 : ∀ w, (zeroValue 9).run Tryz.prog w = .ok (enc zr) w) (blk off cap : Nat) (d : Array α) (w : World) (hp : PredAt Tryz.prog g lb enc p w) (hpo : PredOver Tryz.prog g lb enc p blk off d.size w) (hH : Holds enc w blk off d) (hsz : d.size ≤ 9223372036854775807) (hcap : d.size ≤ cap) :
    Calls Tryz.prog 174 #[.slice (some ⟨blk, off, none⟩) d.size cap, .func (.func g) #[] lb] w fun e w' => e = .returned (.slice (some ⟨blk, off, none⟩) (d.toList.filter fun x => !p x).length cap) ∧ ∃ q, w' = putRow enc (Sort.ahead w q) blk off ((d.toList.filter fun x => !p x) ++ List.replicate (d.size - (d.toList.filter fun x => !p x).length) zr).toArray := AnyE.slices_DeleteFunc Tryz.laysSlH10_f174 enc hO p g lb eg zr v23 blk off cap d w hp hpo hH hsz hcap
end Go.Proofs
