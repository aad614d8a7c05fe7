import Derived.Test.YtljdlkonlnjadaaGreatDoorYn
import Derived.Test.YtljdlkonlnjadaaGreatDoorYs
import Derived.Test.YtljdlkonlnjadaaGreatDoorAw22
import Derived.Test.YtljdlkonlnjadaaGreatDoorNZ6
import Derived.Test.YtljdlkonlnjadaaGreatDoorNZE
import Derived.Test.YtljdlkonlnjadaaGreatDoorNZF
import Derived.Test.YtljdlkonlnjadaaGreatDoorNZD
import Derived.Test.YtljdlkonlnjadaaGreatDoorNX4
import Derived.Test.YtljdlkonlnjadaaGreatDoorShelf
import Derived.Test.YtljdlkonlnjadaaGreatDoorRows
import Derived.Test.YtljdlkonlnjadaaGreatDoorCards
import Derived.Test.YtljdlkonlnjadaaGreatDoorTie
import Derived.Shelf.Vars
set_option maxRecDepth 100000
set_option linter.unusedSimpArgs false
set_option linter.unusedVariables false
open Go.Lib (hid)
namespace Go.Proofs.YtljdlkonlnjadaaGreatDoor
open Go.RowKit
theorem dir_stay : ∀ (l : List ByteArray) (y : ByteArray), y ≠ eB → l.foldl (fun o x => if o = eB then x else o) y = y
 | [], _, _ => rfl
 | z :: l, y, hy => by rw [List.foldl_cons, if_neg hy]; exact dir_stay l y hy
theorem dir_head {l : List ByteArray} {y : ByteArray} (hy : y ≠ eB) : dirF (y :: l) = y := by
 unfold dirF
 rw [List.foldl_cons, if_pos rfl]
 exact dir_stay l y hy
theorem sym_head {l : List (List ByteArray × List Int)} {y : List ByteArray × List Int} (hy : symE y = false) : symF (y :: l) = y := by
 unfold symF
 rw [List.foldl_cons, show stF symZ y = y from by unfold stF; rw [if_pos ⟨rfl, hy⟩]]
 exact stF_stay l y hy
theorem or_head {α : Type} {l : List (List α)} {y : List α} (hy : y.length ≠ 0) : orF (y :: l) = y := orF_at (i := 0) (fun j z hj => absurd hj (Nat.not_lt_zero j)) rfl hy
theorem inh_facts {z : Lk} {Y : List Lk} {y : Lk} (h : lkP z = effP ((y :: Y).map lkP)) :
 z.x.t = y.x.t ∧ (y.x.d ≠ eB → z.x.d = y.x.d) ∧ (y.x.s 0 ≠ eB → ([z.x.s 0, z.x.s 1, z.x.s 2, z.x.s 3], [z.x.i 0, z.x.i 1]) = ([y.x.s 0, y.x.s 1, y.x.s 2, y.x.s 3], [y.x.i 0, y.x.i 1])) ∧ ((y.e 3).length ≠ 0 → z.e 3 = y.e 3) ∧
  z.e 1 = mrgE 2 ((y :: Y).map (·.e 1)) := by
 unfold lkP effP at h
 injection h with h1 h2 h3 h4 h5 h6 h7
 refine ⟨h1, fun hd => ?_, fun hs => ?_, fun he => ?_, ?_⟩
 ·rw [h3, List.map_cons, List.map_cons]; exact dir_head hd
 ·rw [h6, List.map_cons, List.map_cons]
  refine sym_head ?_
  unfold symE
  show ((y.x.s 0).data.toList).isEmpty = false
  have := eB_size hs
  rwa [ByteArray.toList_eq] at this
 ·rw [h7]
  show orF _ = _
  rw [List.map_cons, List.map_cons]
  exact or_head he
 ·rw [h7]
  show mrgE 2 _ = _
  rw [List.map_map]
  rfl
theorem unit_mem {u : El} {L : List (List El)} (h : u ∈ mrgE 2 L) : ∃ l ∈ L, u ∈ l := by
 rw [mrg_flat] at h
 obtain ⟨l, hl, hu⟩ := List.mem_flatten.1 (yMrg_mem h)
 exact ⟨l, hl, hu⟩
theorem unit_key {u : El} {L : List (List El)} {l : List El} (hl : l ∈ L) (h : u ∈ l) : ∃ v ∈ mrgE 2 L, kyE 2 v = kyE 2 u := by
 rw [mrg_flat]
 exact yMrg_key (List.mem_flatten.2 ⟨l, hl, h⟩)
theorem unit_sorted {L : List (List El)} {i : Nat} {u v : El} (hu : (mrgE 2 L)[i]? = some u) (hv : (mrgE 2 L)[i + 1]? = some v) : kyE 2 u ≠ kyE 2 v := by
 have hs : ySorted (kyE 2) ltK (mrgE 2 L) := by rw [mrg_flat]; exact yMrg_sorted stoK _
 obtain ⟨hi, h1⟩ := List.getElem?_eq_some_iff.1 hu
 obtain ⟨hj, h2⟩ := List.getElem?_eq_some_iff.1 hv
 have h3 := List.pairwise_iff_getElem.1 hs i (i + 1) hi hj (Nat.lt_succ_self i)
 rw [h1, h2] at h3
 intro h
 rw [h, ltK_irr] at h3
 cases h3
end Go.Proofs.YtljdlkonlnjadaaGreatDoor
namespace Go.Proofs.YtljdlkonlnjadaaGreatDoor
open Go.RowKit
noncomputable def regI9 : Code := ((Tryz.f4).body.bind (regOf 9)).getD .skip
set_option maxHeartbeats 4000000 in
theorem ireg9 {u0 u1 u3 u4 u5 u6 u8 u9 u10 u11 u12 u13 u14 u15 u16 u17 u18 u19 u20 u21 u22 u23 u24 u25 u26 u27 u28 u29 u30 u31 u32 u33 u34 u35 u36 u37 u38 u39 u40 u41 u42 u43 u44 u45 u46 u47 u48 u49 u50 u51 u52 u53 u54 u55 u56 u57 u58 u59 u60 u61 u62 u63 u64 u65 u66 u67 u68 u69 u70 u71 u72 u73 u74 u75 u76 u77 u78 u79 u80 u81 u82 u83 u84 u85 u86 u87 u88 u89 u90 u91 u92 u93 u94 u95 u96 u97 u98 u99 u100 u101 u102 u103 u104 u105 u106 u107 u108 u109 u110 u111 u112 u113 u114 u115 u116 u117 u118 u119 u120 u121 u122 u123 u124 u125 u126 u127 u128 u129 u130 u131 u132 u133 u134 u135 u136 u137 u138 u139 u140 u141 u142 u143 u144 u145 u146 u147 u148 u149 u150 u151 u152 u153 u154 u155 u156 u157 u158 u159 u160 u161 u162 u163 u164 u165 u166 u167 u168 u169 u170 u171 u172 u173 u174 u175 u176 u177 u178 u179 u180 u181 u182 u183 u184 u185 u186 u187 u188 u189 u190 u191 u192 u193 u194 u195 u196 u197 u198 u199 u200 u201 u202 u203 u204 u205 u206 u207 u208 u209 u210 u211 u212 u213 u214 u215 u216 u217 u218 u219 u220 u221 u222 u223 u224 : Value} {ad : Addr} {tb n2 c2 bL oL ln lc q : Nat} {x : Lc} {w : World} {Q : Exit → Act → World → Prop} {C : Code} (hC : C = regI9) (hk : 0 < n2) (hq : q < ln)
 (h0 : w.cell? ⟨tb, 0, none⟩ = some (.slice (some ⟨bL, oL, none⟩) ln lc)) (h1 : w.cell? ad = some (.int .i64 q))
 (hx : ∀ j u, (lcC x)[j]? = some u → w.cell? ⟨bL, oL + q * 16 + j, none⟩ = some u)
 (hQ : ∀ v50 v51 v52 v53 v54 v55 p wx, AtC 37 wx p #[.string x.t, .string x.p, .string x.d, .slice (x.A 0) (x.n 0) (x.c 0), .slice (x.A 1) (x.n 1) (x.c 1), .string (x.s 0), .string (x.s 1), .string (x.s 2), .string (x.s 3), .int .i64 (x.i 0), .int .i64 (x.i 1), .slice (x.A 2) (x.n 2) (x.c 2), .slice (x.A 3) (x.n 3) (x.c 3), .slice (x.A 4) (x.n 4) (x.c 4), .slice (x.A 5) (x.n 5) (x.c 5), .slice (x.A 6) (x.n 6) (x.c 6)] → Ext w wx → Q .normal ⟨#[u0, u1, .pointer (some ⟨tb, 0, none⟩), u3, u4, u5, u6, .slice (some ad) n2 c2, u8, .pointer (some ⟨p, 0, none⟩), u10, u11, u12, u13, u14, u15, u16, u17, u18, u19, u20, u21, u22, u23, u24, u25, u26, u27, u28, u29, u30, u31, u32, u33, u34, u35, u36, u37, u38, u39, u40, u41, u42, u43, u44, u45, u46, u47, u48, u49, v50, v51, v52, v53, v54, v55, .agg #[.string x.t, .string x.p, .string x.d, .slice (x.A 0) (x.n 0) (x.c 0), .slice (x.A 1) (x.n 1) (x.c 1), .string (x.s 0), .string (x.s 1), .string (x.s 2), .string (x.s 3), .int .i64 (x.i 0), .int .i64 (x.i 1), .slice (x.A 2) (x.n 2) (x.c 2), .slice (x.A 3) (x.n 3) (x.c 3), .slice (x.A 4) (x.n 4) (x.c 4), .slice (x.A 5) (x.n 5) (x.c 5), .slice (x.A 6) (x.n 6) (x.c 6)], u57, u58, u59, u60, u61, u62, u63, u64, u65, u66, u67, u68, u69, u70, u71, u72, u73, u74, u75, u76, u77, u78, u79, u80, u81, u82, u83, u84, u85, u86, u87, u88, u89, u90, u91, u92, u93, u94, u95, u96, u97, u98, u99, u100, u101, u102, u103, u104, u105, u106, u107, u108, u109, u110, u111, u112, u113, u114, u115, u116, u117, u118, u119, u120, u121, u122, u123, u124, u125, u126, u127, u128, u129, u130, u131, u132, u133, u134, u135, u136, u137, u138, u139, u140, u141, u142, u143, u144, u145, u146, u147, u148, u149, u150, u151, u152, u153, u154, u155, u156, u157, u158, u159, u160, u161, u162, u163, u164, u165, u166, u167, u168, u169, u170, u171, u172, u173, u174, u175, u176, u177, u178, u179, u180, u181, u182, u183, u184, u185, u186, u187, u188, u189, u190, u191, u192, u193, u194, u195, u196, u197, u198, u199, u200, u201, u202, u203, u204, u205, u206, u207, u208, u209, u210, u211, u212, u213, u214, u215, u216, u217, u218, u219, u220, u221, u222, u223, u224], []⟩ wx) :
 Code.wp Tryz.prog C Q ⟨#[u0, u1, .pointer (some ⟨tb, 0, none⟩), u3, u4, u5, u6, .slice (some ad) n2 c2, u8, u9, u10, u11, u12, u13, u14, u15, u16, u17, u18, u19, u20, u21, u22, u23, u24, u25, u26, u27, u28, u29, u30, u31, u32, u33, u34, u35, u36, u37, u38, u39, u40, u41, u42, u43, u44, u45, u46, u47, u48, u49, u50, u51, u52, u53, u54, u55, u56, u57, u58, u59, u60, u61, u62, u63, u64, u65, u66, u67, u68, u69, u70, u71, u72, u73, u74, u75, u76, u77, u78, u79, u80, u81, u82, u83, u84, u85, u86, u87, u88, u89, u90, u91, u92, u93, u94, u95, u96, u97, u98, u99, u100, u101, u102, u103, u104, u105, u106, u107, u108, u109, u110, u111, u112, u113, u114, u115, u116, u117, u118, u119, u120, u121, u122, u123, u124, u125, u126, u127, u128, u129, u130, u131, u132, u133, u134, u135, u136, u137, u138, u139, u140, u141, u142, u143, u144, u145, u146, u147, u148, u149, u150, u151, u152, u153, u154, u155, u156, u157, u158, u159, u160, u161, u162, u163, u164, u165, u166, u167, u168, u169, u170, u171, u172, u173, u174, u175, u176, u177, u178, u179, u180, u181, u182, u183, u184, u185, u186, u187, u188, u189, u190, u191, u192, u193, u194, u195, u196, u197, u198, u199, u200, u201, u202, u203, u204, u205, u206, u207, u208, u209, u210, u211, u212, u213, u214, u215, u216, u217, u218, u219, u220, u221, u222, u223, u224], []⟩ w := by
 subst hC
 conv => arg 2; whnf
 have hkI : (0 : Int) < (n2 : Int) := by omega
 have hqI : (q : Int) < (ln : Int) := by omega
 have a0 := hx 0 _ rfl
 simp only [Nat.add_zero] at a0
 have a1 := hx 1 _ rfl; have a2 := hx 2 _ rfl; have a3 := hx 3 _ rfl; have a4 := hx 4 _ rfl; have a5 := hx 5 _ rfl; have a6 := hx 6 _ rfl; have a7 := hx 7 _ rfl; have a8 := hx 8 _ rfl; have a9 := hx 9 _ rfl; have a10 := hx 10 _ rfl; have a11 := hx 11 _ rfl; have a12 := hx 12 _ rfl; have a13 := hx 13 _ rfl; have a14 := hx 14 _ rfl; have a15 := hx 15 _ rfl
 have HQ := hid hQ
 have e0 := World.new_ne w _ h0
 have e1 := World.new_ne w _ h1
 have e2 := World.new_ne w _ a0
 clear hx hQ
 go_region_held3 (fun w' => w'.cell? ⟨tb, 0, none⟩ = some (.slice (some ⟨bL, oL, none⟩) ln lc) ∧ w'.cell? ad = some (.int .i64 q) ∧ w'.cell? ⟨bL, oL + q * 16, none⟩ = some (.string x.t) ∧ w'.cell? ⟨bL, oL + q * 16 + 1, none⟩ = some (.string x.p) ∧ w'.cell? ⟨bL, oL + q * 16 + 2, none⟩ = some (.string x.d) ∧ w'.cell? ⟨bL, oL + q * 16 + 3, none⟩ = some (.slice (x.A 0) (x.n 0) (x.c 0)) ∧ w'.cell? ⟨bL, oL + q * 16 + 4, none⟩ = some (.slice (x.A 1) (x.n 1) (x.c 1)) ∧ w'.cell? ⟨bL, oL + q * 16 + 5, none⟩ = some (.string (x.s 0)) ∧ w'.cell? ⟨bL, oL + q * 16 + 6, none⟩ = some (.string (x.s 1)) ∧ w'.cell? ⟨bL, oL + q * 16 + 7, none⟩ = some (.string (x.s 2)) ∧ w'.cell? ⟨bL, oL + q * 16 + 8, none⟩ = some (.string (x.s 3)) ∧ w'.cell? ⟨bL, oL + q * 16 + 9, none⟩ = some (.int .i64 (x.i 0)) ∧ w'.cell? ⟨bL, oL + q * 16 + 10, none⟩ = some (.int .i64 (x.i 1)) ∧ w'.cell? ⟨bL, oL + q * 16 + 11, none⟩ = some (.slice (x.A 2) (x.n 2) (x.c 2)) ∧ w'.cell? ⟨bL, oL + q * 16 + 12, none⟩ = some (.slice (x.A 3) (x.n 3) (x.c 3)) ∧ w'.cell? ⟨bL, oL + q * 16 + 13, none⟩ = some (.slice (x.A 4) (x.n 4) (x.c 4)) ∧ w'.cell? ⟨bL, oL + q * 16 + 14, none⟩ = some (.slice (x.A 5) (x.n 5) (x.c 5)) ∧ w'.cell? ⟨bL, oL + q * 16 + 15, none⟩ = some (.slice (x.A 6) (x.n 6) (x.c 6))) (go_keep) (fail)
 exact HQ.out _ _ _ _ _ _ _ _ ((AtC.new w _).ext (Ext.refl _).drew) ((Ext.refl w).alloc _).drew
end Go.Proofs.YtljdlkonlnjadaaGreatDoor
namespace Go.Proofs.YtljdlkonlnjadaaGreatDoor.lawChainInherits
open Go.ChangeShapes Go.WideShapes Go.ChangeAt Go.RowKit
open Go.ChangeMaps (open_string shut_string)
theorem eq_up3 (a0 a1 a2 b0 b1 b2 : ByteArray) (w : World) : (Op.equalIn 10000 48 (.agg #[.string a0, .string a1, .string a2]) (.agg #[.string b0, .string b1, .string b2])).run Tryz.prog w = .ok (a0.toList == b0.toList && (a1.toList == b1.toList && a2.toList == b2.toList)) w := by
 have u3 := Tryz.underlying9
 have u5 := Tryz.underlying48
 have a3 := Tryz.isAgg9
 have z3 := Tryz.sizeOf9
 rw [show (10000 : Nat) = 9999 + 1 from rfl, run_equalIn_agg w 9999 _ _ _ (by kernel_rfl) (by kernel_rfl)]
 go_simp
 by_cases h1 : a0.toList = b0.toList <;> by_cases h2 : a1.toList = b1.toList <;> by_cases h3 : a2.toList = b2.toList <;> simp [h1, h2, h3]
theorem eq_symI (b0 b1 b2 b3 : ByteArray) (i0 i1 : Int) (w : World) : (Op.equalIn 10000 31 (.agg #[.string b0, .string b1, .string b2, .string b3, .int .i64 i0, .int .i64 i1]) (.agg #[.string b0, .string b1, .string b2, .string b3, .int .i64 i0, .int .i64 i1])).run Tryz.prog w = .ok true w := by
 have u3 := Tryz.underlying9
 have u4 := Tryz.underlying3
 have u5 := Tryz.underlying31
 have a3 := Tryz.isAgg9
 have z3 := Tryz.sizeOf9
 have a4 := Tryz.isAgg3
 have z4 := Tryz.sizeOf3
 rw [show (10000 : Nat) = 9999 + 1 from rfl, run_equalIn_agg w 9999 _ _ _ (by kernel_rfl) (by kernel_rfl)]
 go_simp
theorem ba_list {a b : ByteArray} (h : (a.toList == b.toList) = true) : a = b := by
 rw [ByteArray.toList_eq, ByteArray.toList_eq, beq_iff_eq] at h
 exact ByteArray.ext (Array.toList_inj.1 h)
theorem ky2 {a0 a1 a2 b0 b1 b2 : ByteArray} : kyE 2 [a0, a1, a2] = kyE 2 [b0, b1, b2] ↔ ((a0.toList == b0.toList) = true ∧ (a1.toList == b1.toList) = true) := by
 rw [beq_iff_eq, beq_iff_eq, ByteArray.toList_eq, ByteArray.toList_eq, ByteArray.toList_eq, ByteArray.toList_eq]
 unfold kyE
 simp
def InB (b : Bool) (wx : World) (v : Value) (w : World) : Prop := v = .bool b ∧ Ext wx w
def InK (wi : World) (YL : List Lk) (u : El) (n : Nat) (f i : Value) (wr : World) : Prop := ∃ (k : Nat) (fd : Bool), k ≤ n ∧ f = .bool fd ∧ i = .int .i64 k ∧ (∀ k' y, k' < k → YL[k']? = some y → u ∈ y.e 1 → fd = true) ∧ Ext wi wr
def InJ3 (wi : World) (YL : List Lk) (u : El) (k : Nat) (E : List El) (n : Nat) (f i : Value) (wr : World) : Prop := ∃ (j : Nat) (fd : Bool), j ≤ n ∧ f = .bool fd ∧ i = .int .i64 j ∧ (∀ k' y, k' < k → YL[k']? = some y → u ∈ y.e 1 → fd = true) ∧ (∀ j' x, j' < j → E[j']? = some x → x = u → fd = true) ∧ Ext wi wr
def InQ (wi : World) (U : List El) (x : El) (n : Nat) (f i : Value) (wr : World) : Prop := ∃ (k : Nat) (fd : Bool), k ≤ n ∧ f = .bool fd ∧ i = .int .i64 k ∧ (∀ k' v, k' < k → U[k']? = some v → kyE 2 v = kyE 2 x → fd = true) ∧ Ext wi wr
theorem el3 {w : World} {A : Option Addr} {n : Nat} {l : List El} (h : ElM 3 w A n l) {k : Nat} (hk : k < n) : ∃ a0 a1 a2 b o, l[k]? = some [a0, a1, a2] ∧ A = some ⟨b, o, none⟩ ∧ w.cell? ⟨b, o + k * 3, none⟩ = some (.string a0) ∧ w.cell? ⟨b, o + k * 3 + 1, none⟩ = some (.string a1) ∧ w.cell? ⟨b, o + k * 3 + 2, none⟩ = some (.string a2) := by
 obtain ⟨x, hx⟩ : ∃ x, l[k]? = some x := ⟨_, List.getElem?_eq_getElem (by rw [h.len (by decide)]; exact hk)⟩
 obtain ⟨hl, b, o, hA, _, hc⟩ := h.at_ (by decide) hx
 match x, hl with
 | [a0, a1, a2], _ =>
   have c0 := hc 0 a0 rfl
   rw [Nat.add_zero] at c0
   exact ⟨a0, a1, a2, b, o, hx, hA, c0, hc 1 a1 rfl, hc 2 a2 rfl⟩
set_option maxHeartbeats 8000000 in
theorem law (l : List Lk) (al : List Ali) (nl : List Nr) (L A N : Option Addr) (ln lc n c m d : Nat) (s : ByteArray) (w : World) (hm : Mx w) (hL : Lcs w L ln (l.map (·.x))) (hln : ln ≤ maxLen) (hok : ∀ x ∈ l.map (·.x), lcOK x) (hlk : ∀ y ∈ l, LkM (fun _ => True) w y) (hA : Als w A n al) (hn : n ≤ maxLen) (hz : ∀ a ∈ al, a.1.size ≤ reachBytes ∧ a.2.size ≤ reachBytes) (hN : Nrs w N m nl) (hmm : m ≤ maxLen) (hzn : ∀ a ∈ nl, a.f.size ≤ reachBytes ∧ a.o.size ≤ reachBytes) (hs : s.size ≤ maxLen) :
 Calls Tryz.prog 4 #[.agg #[.slice L ln lc, .slice A n c, .slice N m d], .string s] w (RetTrue w) := by
 have HLK := hid (fun y (hy : y ∈ l) => (hlk y hy).ext ((Ext.refl w).alloc (.cells #[.slice L ln lc, .slice A n c, .slice N m d] 26)))
 clear hlk
 have HX0 := hid ((Ext.refl w).alloc (.cells #[.slice L ln lc, .slice A n c, .slice N m d] 26))
 have HL := hid (hL.ext HX0.out)
 have hm0 := hid (hm.ext HX0.out)
 have HA := hid (hA.ext HX0.out)
 have HN := hid (hN.ext HX0.out)
 have KB := hid (AtC.new w #[.slice L ln lc, .slice A n c, .slice N m d] : AtC 26 _ _ _)
 have x0 := KB.out.cell 0 _ rfl
 have x1 := KB.out.cell 1 _ rfl
 have x2 := KB.out.cell 2 _ rfl
 have hf1 := fun W (h : Ext (w.alloc (.cells #[.slice L ln lc, .slice A n c, .slice N m d] 26)) W) => few22_any (l.map (·.x)) al nl L A N ln lc n c m d W (HL.out.ext h) hln hok (HA.out.ext h) hn hz (HN.out.ext h) hmm hzn
 clear hL hA hN
 cases q0 : fewC (l.map (·.x)) al nl with
 | false =>
  rw [q0] at hf1
  have HF1 := hid hf1
  clear q0 hf1
  go_enter Tryz.func4, Tryz.ntmps4
  go_wp2_with fail
  refine (awake_any _ (hm0.out.ext (Ext.refl _))).mono ?_
  rintro e w1 ⟨rfl, hw1⟩
  have HW1 := hid ((Ext.refl _).trans hw1)
  clear x0 x1 x2
  have x0 := (KB.out.ext HW1.out).cell 0 _ rfl
  have x1 := (KB.out.ext HW1.out).cell 1 _ rfl
  have x2 := (KB.out.ext HW1.out).cell 2 _ rfl
  clear hw1
  go_wp2_with fail
  refine (HF1.out _ HW1.out).mono ?_
  rintro e w2 ⟨rfl, hw2⟩
  have HW2 := hid (HW1.out.trans hw2)
  clear x0 x1 x2
  have x0 := (KB.out.ext HW2.out).cell 0 _ rfl
  have x1 := (KB.out.ext HW2.out).cell 1 _ rfl
  have x2 := (KB.out.ext HW2.out).cell 2 _ rfl
  clear hw2
  go_wp2_with fail
  refine (awake_any _ (hm0.out.ext HW2.out)).mono ?_
  rintro e w3 ⟨rfl, hw3⟩
  have HW3 := hid (HW2.out.trans hw3)
  clear x0 x1 x2
  have x0 := (KB.out.ext HW3.out).cell 0 _ rfl
  have x1 := (KB.out.ext HW3.out).cell 1 _ rfl
  have x2 := (KB.out.ext HW3.out).cell 2 _ rfl
  clear hw3
  go_wp2
  go_ret
  exact ⟨rfl, HX0.out.trans HW3.out⟩
 | true =>
  obtain ⟨g1, g2, g3, g4, g5⟩ := fewC_len q0
  have hl12 : ln ≤ 12 := by have := HL.out.len; omega
  have hn12 : n ≤ 12 := by have := HA.out.len; omega
  have hm30 : m ≤ 30 := by have := HN.out.len; omega
  have HZ1 := hid (show ∀ a ∈ al, a.1.size ≤ 60000 ∧ a.2.size ≤ 60000 from fun a ha => by have := g4 a ha; omega)
  have HZ2 := hid (show ∀ x ∈ l.map (·.x), x.t.size ≤ 60000 from fun x hx => by have := g2 x hx; omega)
  have HZ3 := hid (show ∀ x ∈ nl, x.f.size ≤ 1000000 ∧ x.o.size ≤ 1000000 from fun x hx => by have := g5 x hx; omega)
  have HSEC := hid (show ∀ y ∈ l, ∀ j, j < 7 → y.x.n j ≤ 120 from fun y hy j hj => by
   have h := (g2 y.x (List.mem_map.2 ⟨y, hy, rfl⟩)).2
   match j, hj with
   | 0, _ => omega
   | 1, _ => omega
   | 2, _ => omega
   | 3, _ => omega
   | 4, _ => omega
   | 5, _ => omega
   | 6, _ => omega)
  have HZK := hid (show ∀ y ∈ l, y.x.t.size ≤ 60000 from fun y hy => by have := g2 y.x (List.mem_map.2 ⟨y, hy, rfl⟩); omega)
  clear g1 g2 g3 g4 g5
  rw [q0] at hf1
  have HF1 := hid hf1
  clear q0 hf1
  by_cases h100 : s.size ≤ 100
  rotate_left
  ·have u100 : decide ((100 : Int) < (s.size : Int)) = true := by simp; omega
   go_enter Tryz.func4, Tryz.ntmps4
   go_wp2_with fail
   refine (awake_any _ (hm0.out.ext (Ext.refl _))).mono ?_
   rintro e w1 ⟨rfl, hw1⟩
   have HW1 := hid ((Ext.refl _).trans hw1)
   clear x0 x1 x2
   have x0 := (KB.out.ext HW1.out).cell 0 _ rfl
   have x1 := (KB.out.ext HW1.out).cell 1 _ rfl
   have x2 := (KB.out.ext HW1.out).cell 2 _ rfl
   clear hw1
   go_wp2_with fail
   refine (HF1.out _ HW1.out).mono ?_
   rintro e w2 ⟨rfl, hw2⟩
   have HW2 := hid (HW1.out.trans hw2)
   clear x0 x1 x2
   have x0 := (KB.out.ext HW2.out).cell 0 _ rfl
   have x1 := (KB.out.ext HW2.out).cell 1 _ rfl
   have x2 := (KB.out.ext HW2.out).cell 2 _ rfl
   clear hw2
   go_wp2_with fail
   refine (awake_any _ (hm0.out.ext HW2.out)).mono ?_
   rintro e w3 ⟨rfl, hw3⟩
   have HW3 := hid (HW2.out.trans hw3)
   clear x0 x1 x2
   have x0 := (KB.out.ext HW3.out).cell 0 _ rfl
   have x1 := (KB.out.ext HW3.out).cell 1 _ rfl
   have x2 := (KB.out.ext HW3.out).cell 2 _ rfl
   clear hw3
   go_wp2
   go_ret
   exact ⟨rfl, HX0.out.trans HW3.out⟩
  have u100 : decide ((100 : Int) < (s.size : Int)) = false := by simp; omega
  have hs60 : s.size ≤ 60000 := by omega
  have k1 := fun W (h : Ext (w.alloc (.cells #[.slice L ln lc, .slice A n c, .slice N m d] 26)) W) => teff_any l al L A N ln lc n c m d s W (hm0.out.ext h) (HL.out.ext h) (by omega) (fun y hy => (HLK.out y hy).ext h) HSEC.out (HA.out.ext h) (by omega) HZ1.out HZK.out hs60
  have k2 := fun W (h : Ext (w.alloc (.cells #[.slice L ln lc, .slice A n c, .slice N m d] 26)) W) => rlocs_any (l.map (·.x)) al L A N ln lc n c m d s W (HL.out.ext h) (by omega) (HA.out.ext h) (by omega) HZ1.out (fun x hx => by obtain ⟨y, hy, rfl⟩ := List.mem_map.1 hx; exact HZK.out y hy) hs60
  have hlt := locs_lt (T := (l.map (·.x)).map locOf) (al := al) (s := s.data.toList)
  have hle := locs_len (T := (l.map (·.x)).map locOf) (al := al) (s := s.data.toList)
  have hok := fun h => (locs_ok (T := (l.map (·.x)).map locOf) (al := al) (s := s.data.toList) h).2.2
  have hll := HL.out.len
  rw [List.length_map] at hll
  have hlen := effX_len (T := (l.map (·.x)).map locOf) (al := al) (s := s.data.toList) HLK.out HSEC.out (by rw [List.length_map, List.length_map]) (by omega)
  have HLEN := hid hlen
  clear hlen
  unfold effX at k1 HLEN
  generalize locsC ((l.map (·.x)).map locOf) al s.data.toList = R at k1 k2 hlt hle hok HLEN
  obtain ⟨r, er⟩ := R
  simp only at hlt hle hok
  rw [List.length_map, List.length_map] at hle
  have HLT := hid (show ∀ i ∈ r, i < ln from fun i hi => by have := hlt i hi; rw [List.length_map, List.length_map] at this; omega)
  have HLL := hid hll
  have HLE := hid hle
  have HNE := hid (show er = 0 → r ≠ [] from fun he => by obtain ⟨q, hq, _⟩ := hok he; rw [hq]; exact List.cons_ne_nil _ _)
  have K1 := hid k1
  have K2 := hid k2
  clear k1 k2 hlt hle hok hll
  by_cases he : er = 0
  rotate_left
  ·have hnz : (er == 0) = false := by simpa using he
   go_enter Tryz.func4, Tryz.ntmps4
   go_wp2_with fail
   refine (awake_any _ (hm0.out.ext (Ext.refl _))).mono ?_
   rintro e w1 ⟨rfl, hw1⟩
   have HW1 := hid ((Ext.refl _).trans hw1)
   clear x0 x1 x2
   have x0 := (KB.out.ext HW1.out).cell 0 _ rfl
   have x1 := (KB.out.ext HW1.out).cell 1 _ rfl
   have x2 := (KB.out.ext HW1.out).cell 2 _ rfl
   clear hw1
   go_wp2_with fail
   refine (HF1.out _ HW1.out).mono ?_
   rintro e w2 ⟨rfl, hw2⟩
   have HW2 := hid (HW1.out.trans hw2)
   clear x0 x1 x2
   have x0 := (KB.out.ext HW2.out).cell 0 _ rfl
   have x1 := (KB.out.ext HW2.out).cell 1 _ rfl
   have x2 := (KB.out.ext HW2.out).cell 2 _ rfl
   clear hw2
   go_wp2_with fail
   refine (K1.out _ HW2.out).mono ?_
   rintro e1 wa ⟨z1, rfl, hz1, hwa, hn1, hv1⟩
   unfold lcV
   have HZA := hid hz1
   have HWA := hid (HW2.out.trans hwa)
   have HV1 := hid hv1
   have HZS := hid (ef_short hn1 hv1 HLEN.out)
   have HXA := hid (HWA.out.alloc (.cells #[.string z1.x.t, .string z1.x.p, .string z1.x.d, .slice (z1.x.A 0) (z1.x.n 0) (z1.x.c 0), .slice (z1.x.A 1) (z1.x.n 1) (z1.x.c 1), .string (z1.x.s 0), .string (z1.x.s 1), .string (z1.x.s 2), .string (z1.x.s 3), .int .i64 (z1.x.i 0), .int .i64 (z1.x.i 1), .slice (z1.x.A 2) (z1.x.n 2) (z1.x.c 2), .slice (z1.x.A 3) (z1.x.n 3) (z1.x.c 3), .slice (z1.x.A 4) (z1.x.n 4) (z1.x.c 4), .slice (z1.x.A 5) (z1.x.n 5) (z1.x.c 5), .slice (z1.x.A 6) (z1.x.n 6) (z1.x.c 6)] 37))
   have KA := hid (AtC.new wa #[.string z1.x.t, .string z1.x.p, .string z1.x.d, .slice (z1.x.A 0) (z1.x.n 0) (z1.x.c 0), .slice (z1.x.A 1) (z1.x.n 1) (z1.x.c 1), .string (z1.x.s 0), .string (z1.x.s 1), .string (z1.x.s 2), .string (z1.x.s 3), .int .i64 (z1.x.i 0), .int .i64 (z1.x.i 1), .slice (z1.x.A 2) (z1.x.n 2) (z1.x.c 2), .slice (z1.x.A 3) (z1.x.n 3) (z1.x.c 3), .slice (z1.x.A 4) (z1.x.n 4) (z1.x.c 4), .slice (z1.x.A 5) (z1.x.n 5) (z1.x.c 5), .slice (z1.x.A 6) (z1.x.n 6) (z1.x.c 6)] : AtC 37 _ _ _)
   clear x0 x1 x2
   have x0 := (KB.out.ext HXA.out).cell 0 _ rfl
   have x1 := (KB.out.ext HXA.out).cell 1 _ rfl
   have x2 := (KB.out.ext HXA.out).cell 2 _ rfl
   clear hz1 hwa hn1 hv1
   simp only
   go_wp2_with fail
   refine (K2.out _ HXA.out).mono ?_
   rintro e2 wb ⟨A2, n2, c2, rfl, hs2, hc2, hwb⟩
   have HS2 := hid hs2
   have HWB := hid (HXA.out.trans hwb)
   have HWAB := hid hwb
   have hn2 : n2 = r.length := by have h := hs2.1; rw [List.length_map] at h; exact h.symm
   clear hs2 hwb x0 x1 x2
   clear hn2
   simp only
   go_wp2
   go_ret
   exact ⟨by first | rfl | simp | simp [*], HX0.out.trans HWB.out⟩
  subst he
  go_enter Tryz.func4, Tryz.ntmps4
  go_wp2_with fail
  refine (awake_any _ (hm0.out.ext (Ext.refl _))).mono ?_
  rintro e w1 ⟨rfl, hw1⟩
  have HW1 := hid ((Ext.refl _).trans hw1)
  clear x0 x1 x2
  have x0 := (KB.out.ext HW1.out).cell 0 _ rfl
  have x1 := (KB.out.ext HW1.out).cell 1 _ rfl
  have x2 := (KB.out.ext HW1.out).cell 2 _ rfl
  clear hw1
  go_wp2_with fail
  refine (HF1.out _ HW1.out).mono ?_
  rintro e w2 ⟨rfl, hw2⟩
  have HW2 := hid (HW1.out.trans hw2)
  clear x0 x1 x2
  have x0 := (KB.out.ext HW2.out).cell 0 _ rfl
  have x1 := (KB.out.ext HW2.out).cell 1 _ rfl
  have x2 := (KB.out.ext HW2.out).cell 2 _ rfl
  clear hw2
  go_wp2_with fail
  refine (K1.out _ HW2.out).mono ?_
  rintro e1 wa ⟨z1, rfl, hz1, hwa, hn1, hv1⟩
  unfold lcV
  have HZA := hid hz1
  have HWA := hid (HW2.out.trans hwa)
  have HV1 := hid hv1
  have HZS := hid (ef_short hn1 hv1 HLEN.out)
  have HXA := hid (HWA.out.alloc (.cells #[.string z1.x.t, .string z1.x.p, .string z1.x.d, .slice (z1.x.A 0) (z1.x.n 0) (z1.x.c 0), .slice (z1.x.A 1) (z1.x.n 1) (z1.x.c 1), .string (z1.x.s 0), .string (z1.x.s 1), .string (z1.x.s 2), .string (z1.x.s 3), .int .i64 (z1.x.i 0), .int .i64 (z1.x.i 1), .slice (z1.x.A 2) (z1.x.n 2) (z1.x.c 2), .slice (z1.x.A 3) (z1.x.n 3) (z1.x.c 3), .slice (z1.x.A 4) (z1.x.n 4) (z1.x.c 4), .slice (z1.x.A 5) (z1.x.n 5) (z1.x.c 5), .slice (z1.x.A 6) (z1.x.n 6) (z1.x.c 6)] 37))
  have KA := hid (AtC.new wa #[.string z1.x.t, .string z1.x.p, .string z1.x.d, .slice (z1.x.A 0) (z1.x.n 0) (z1.x.c 0), .slice (z1.x.A 1) (z1.x.n 1) (z1.x.c 1), .string (z1.x.s 0), .string (z1.x.s 1), .string (z1.x.s 2), .string (z1.x.s 3), .int .i64 (z1.x.i 0), .int .i64 (z1.x.i 1), .slice (z1.x.A 2) (z1.x.n 2) (z1.x.c 2), .slice (z1.x.A 3) (z1.x.n 3) (z1.x.c 3), .slice (z1.x.A 4) (z1.x.n 4) (z1.x.c 4), .slice (z1.x.A 5) (z1.x.n 5) (z1.x.c 5), .slice (z1.x.A 6) (z1.x.n 6) (z1.x.c 6)] : AtC 37 _ _ _)
  clear x0 x1 x2
  have x0 := (KB.out.ext HXA.out).cell 0 _ rfl
  have x1 := (KB.out.ext HXA.out).cell 1 _ rfl
  have x2 := (KB.out.ext HXA.out).cell 2 _ rfl
  clear hz1 hwa hn1 hv1
  simp only
  go_wp2_with fail
  refine (K2.out _ HXA.out).mono ?_
  rintro e2 wb ⟨A2, n2, c2, rfl, hs2, hc2, hwb⟩
  have HS2 := hid hs2
  have HWB := hid (HXA.out.trans hwb)
  have HWAB := hid hwb
  have hn2 : n2 = r.length := by have h := hs2.1; rw [List.length_map] at h; exact h.symm
  clear hs2 hwb x0 x1 x2
  have hrne := HNE.out (by first | exact rfl | trivial)
  obtain ⟨q0, rs, hr⟩ : ∃ q rs, r = q :: rs := by
   cases r with
   | nil => exact absurd rfl hrne
   | cons a b => exact ⟨a, b, rfl⟩
  have hr0 : 0 < n2 := by rw [hn2, hr]; simp
  obtain ⟨ad, q, had, hq, hcq⟩ := HS2.out.at_map hr0
  subst had
  have hqr : q0 = q := by rw [hr] at hq; injection hq
  subst hqr
  unfold natV at hcq
  have hcq1 : wb.cell? ad = some (.int .i64 q0) := hcq
  have hqln : q0 < ln := HLT.out q0 (List.mem_of_getElem? hq)
  obtain ⟨y0, hy0⟩ : ∃ y, l[q0]? = some y := ⟨_, List.getElem?_eq_getElem (by have := HLL.out; omega)⟩
  obtain ⟨b, o, rfl, hb, hc⟩ := (HL.out.ext HWB.out).at_ (show (l.map (·.x))[q0]? = some y0.x from by rw [List.getElem?_map, hy0]; rfl)
  obtain ⟨YL, hYL⟩ : ∃ YL, YL = r.map fun q => l.getD q lk0 := ⟨_, rfl⟩
  have hyl : ∀ y ∈ YL, y ∈ l := fun y hy => by
   rw [hYL] at hy
   obtain ⟨q, hq, rfl⟩ := List.mem_map.1 hy
   have h1 := HLT.out q hq
   have h2 := HLL.out
   rw [List.getD_eq_getElem?_getD, List.getElem?_eq_getElem (by omega)]
   exact List.getElem_mem _
  have hyc : ∃ Y, YL = y0 :: Y := ⟨rs.map fun q => l.getD q lk0, by rw [hYL, hr, List.map_cons, List.getD_eq_getElem?_getD, hy0]; rfl⟩
  obtain ⟨Y, hY⟩ := hyc
  obtain ⟨f1, f2, f3, f4, f5⟩ := inh_facts (z := z1) (Y := Y) (y := y0) (by rw [HV1.out (by first | exact rfl | trivial), ← hY, hYL, List.map_map]; rfl)
  rw [← hY] at f5
  have HF2 := hid f2
  have HF3 := hid f3
  have HF4 := hid f4
  have HF5 := hid f5
  have HF1 := hid f1
  have HY := hid hY
  have HYL := hid hYL
  have HYM := hid hyl
  have HN2 := hid hn2
  have hn12 : n2 ≤ 12 := by have h1 := HLL.out; have h2 := HLE.out; omega
  have x0 : wb.cell? ⟨w.heap.size, 0, none⟩ = some (.slice (some ⟨b, o, none⟩) ln lc) := (KB.out.ext HWB.out).cell 0 _ rfl
  clear f1 f2 f3 f4 f5 hY hYL hyl hn2 hcq hrne HNE
  simp only
  go_upto_region 9 with fail
  refine ireg9 (by kernel_rfl) hr0 hqln x0 hcq1 hc ?_
  intro v50 v51 v52 v53 v54 v55 p wx hat hxx
  have HP := hid hat
  have HWX := hid (HWB.out.trans hxx)
  have HAX := hid (KA.out.ext (HWAB.out.trans hxx))
  have HZX := hid ((HZA.out.ext ((Ext.refl wa).alloc (.cells #[.string z1.x.t, .string z1.x.p, .string z1.x.d, .slice (z1.x.A 0) (z1.x.n 0) (z1.x.c 0), .slice (z1.x.A 1) (z1.x.n 1) (z1.x.c 1), .string (z1.x.s 0), .string (z1.x.s 1), .string (z1.x.s 2), .string (z1.x.s 3), .int .i64 (z1.x.i 0), .int .i64 (z1.x.i 1), .slice (z1.x.A 2) (z1.x.n 2) (z1.x.c 2), .slice (z1.x.A 3) (z1.x.n 3) (z1.x.c 3), .slice (z1.x.A 4) (z1.x.n 4) (z1.x.c 4), .slice (z1.x.A 5) (z1.x.n 5) (z1.x.c 5), .slice (z1.x.A 6) (z1.x.n 6) (z1.x.c 6)] 37))).ext (HWAB.out.trans hxx))
  have HS3 := hid (HS2.out.ext hxx)
  have hy0l : y0 ∈ l := HYM.out y0 (by rw [HY.out]; exact List.mem_cons_self ..)
  have HY0X := hid ((HLK.out y0 hy0l).ext HWX.out)
  have HY0N := hid (HSEC.out y0 hy0l)
  have HQR := hid hr
  have HZL := hid (show z1.x.n 3 ≤ 1000000 from by have h1 : (z1.e 1).length = z1.x.n 3 := (HZX.out.2.2 1 (by decide)).len (by decide); have h2 := HZS.out 1 (by decide); omega)
  have KS := hid (fun (hm : y0.x.n 5 ≠ 0) W (h : Ext wx W) => by
   have h1 : ElM 1 W (y0.x.A 5) (y0.x.n 5) (y0.e 3) := (HY0X.out.2.2 3 (by decide)).ext h
   have h2 : ElM 1 W (z1.x.A 5) (z1.x.n 5) (z1.e 3) := (HZX.out.2.2 3 (by decide)).ext h
   have hl := h1.len (by decide)
   have he := HF4.out (by rw [hl]; exact hm)
   have hl2 := h2.len (by decide)
   rw [he] at h2
   have hn := HY0N.out 5 (by decide)
   have hzn : z1.x.n 5 = y0.x.n 5 := by rw [he] at hl2; omega
   exact same_any _ _ _ _ _ _ (z1.x.c 5) (y0.x.c 5) W h2.sl h1.sl (by unfold maxLen; omega) (by unfold maxLen; omega))
  clear hat hxx x0 hcq1 hc hb hq hr hy0 HZA HS2 HWAB K1 K2
  go_upto_region 10 with fail
  go_cut [100] (InB false wx)
  case first =>
   by_cases hmE : y0.x.n 5 = 0
   ·by_cases hdE : y0.x.d = eB
    ·by_cases hsE : y0.x.s 0 = eB
     ·as_aux_lemma =>
      have q0 := HAX.out.cell 0 _ rfl
      rw [HF1.out] at q0
      have t0 := HP.out.cell 0 _ rfl
      have h0 : (!y0.x.t.toList == y0.x.t.toList) = false := by simp
      have t14 := HP.out.cell 14 _ rfl
      have hd1 : y0.x.d.toList.isEmpty = true := by rw [isE_dec]; exact decide_eq_true hdE
      have hs1 : (y0.x.s 0).toList.isEmpty = true := by rw [isE_dec]; exact decide_eq_true hsE
      have hm0 : ¬ (0 : Int) < (y0.x.n 5 : Int) := by omega
      have hm0N : y0.x.n 5 = 0 := hmE
      have t2 := (HP.out.ext (Ext.refl wx)).cell 2 _ rfl
      have q2 := (HAX.out.ext (Ext.refl wx)).cell 2 _ rfl
      have t5 := (HP.out.ext (Ext.refl wx)).cell 5 _ rfl
      have q5 := (HAX.out.ext (Ext.refl wx)).cell 5 _ rfl
      have t6 := (HP.out.ext (Ext.refl wx)).cell 6 _ rfl
      have q6 := (HAX.out.ext (Ext.refl wx)).cell 6 _ rfl
      have t7 := (HP.out.ext (Ext.refl wx)).cell 7 _ rfl
      have q7 := (HAX.out.ext (Ext.refl wx)).cell 7 _ rfl
      have t8 := (HP.out.ext (Ext.refl wx)).cell 8 _ rfl
      have q8 := (HAX.out.ext (Ext.refl wx)).cell 8 _ rfl
      have t9 := (HP.out.ext (Ext.refl wx)).cell 9 _ rfl
      have q9 := (HAX.out.ext (Ext.refl wx)).cell 9 _ rfl
      have t10 := (HP.out.ext (Ext.refl wx)).cell 10 _ rfl
      have q10 := (HAX.out.ext (Ext.refl wx)).cell 10 _ rfl
      have HW4 := hid (Ext.refl wx)
      clear hmE hdE hsE
      go_wp2_with fail
      go_meet
      exact ⟨by first | rfl | simp | simp [*], HW4.out⟩
     ·as_aux_lemma =>
      have q0 := HAX.out.cell 0 _ rfl
      rw [HF1.out] at q0
      have t0 := HP.out.cell 0 _ rfl
      have h0 : (!y0.x.t.toList == y0.x.t.toList) = false := by simp
      have t14 := HP.out.cell 14 _ rfl
      have hd1 : y0.x.d.toList.isEmpty = true := by rw [isE_dec]; exact decide_eq_true hdE
      have hs1 : (y0.x.s 0).toList.isEmpty = false := by rw [isE_dec]; exact decide_eq_false hsE
      have hm0 : ¬ (0 : Int) < (y0.x.n 5 : Int) := by omega
      have hm0N : y0.x.n 5 = 0 := hmE
      have t2 := (HP.out.ext (Ext.refl wx)).cell 2 _ rfl
      have q2 := (HAX.out.ext (Ext.refl wx)).cell 2 _ rfl
      have t5 := (HP.out.ext (Ext.refl wx)).cell 5 _ rfl
      have q5 := (HAX.out.ext (Ext.refl wx)).cell 5 _ rfl
      have t6 := (HP.out.ext (Ext.refl wx)).cell 6 _ rfl
      have q6 := (HAX.out.ext (Ext.refl wx)).cell 6 _ rfl
      have t7 := (HP.out.ext (Ext.refl wx)).cell 7 _ rfl
      have q7 := (HAX.out.ext (Ext.refl wx)).cell 7 _ rfl
      have t8 := (HP.out.ext (Ext.refl wx)).cell 8 _ rfl
      have q8 := (HAX.out.ext (Ext.refl wx)).cell 8 _ rfl
      have t9 := (HP.out.ext (Ext.refl wx)).cell 9 _ rfl
      have q9 := (HAX.out.ext (Ext.refl wx)).cell 9 _ rfl
      have t10 := (HP.out.ext (Ext.refl wx)).cell 10 _ rfl
      have q10 := (HAX.out.ext (Ext.refl wx)).cell 10 _ rfl
      have hsy := HF3.out hsE
      injection hsy with hsa hsb
      injection hsa with k0 hsa
      injection hsa with k1 hsa
      injection hsa with k2 hsa
      injection hsa with k3 _
      injection hsb with k4 hsb
      injection hsb with k5 _
      rw [k0] at q5
      rw [k1] at q6
      rw [k2] at q7
      rw [k3] at q8
      rw [k4] at q9
      rw [k5] at q10
      clear k0 k1 k2 k3 k4 k5
      have e31 : ∀ W : World, (Op.equalIn 10000 31 (.agg #[.string (y0.x.s 0), .string (y0.x.s 1), .string (y0.x.s 2), .string (y0.x.s 3), .int .i64 (y0.x.i 0), .int .i64 (y0.x.i 1)]) (.agg #[.string (y0.x.s 0), .string (y0.x.s 1), .string (y0.x.s 2), .string (y0.x.s 3), .int .i64 (y0.x.i 0), .int .i64 (y0.x.i 1)])).run Tryz.prog W = .ok true W := fun W => eq_symI _ _ _ _ _ _ W
      have g31 : Tryz.prog.eqGuardType Tryz.prog.depth 31 = false := by kernel_rfl
      have HW4 := hid (Ext.refl wx)
      clear hmE hdE hsE
      go_wp2_with fail
      go_meet
      exact ⟨by first | rfl | simp | simp [*], HW4.out⟩
    ·by_cases hsE : y0.x.s 0 = eB
     ·as_aux_lemma =>
      have q0 := HAX.out.cell 0 _ rfl
      rw [HF1.out] at q0
      have t0 := HP.out.cell 0 _ rfl
      have h0 : (!y0.x.t.toList == y0.x.t.toList) = false := by simp
      have t14 := HP.out.cell 14 _ rfl
      have hd1 : y0.x.d.toList.isEmpty = false := by rw [isE_dec]; exact decide_eq_false hdE
      have hs1 : (y0.x.s 0).toList.isEmpty = true := by rw [isE_dec]; exact decide_eq_true hsE
      have hm0 : ¬ (0 : Int) < (y0.x.n 5 : Int) := by omega
      have hm0N : y0.x.n 5 = 0 := hmE
      have t2 := (HP.out.ext (Ext.refl wx)).cell 2 _ rfl
      have q2 := (HAX.out.ext (Ext.refl wx)).cell 2 _ rfl
      rw [HF2.out hdE] at q2
      have hd2 : (!y0.x.d.toList == y0.x.d.toList) = false := by simp
      have t5 := (HP.out.ext (Ext.refl wx)).cell 5 _ rfl
      have q5 := (HAX.out.ext (Ext.refl wx)).cell 5 _ rfl
      have t6 := (HP.out.ext (Ext.refl wx)).cell 6 _ rfl
      have q6 := (HAX.out.ext (Ext.refl wx)).cell 6 _ rfl
      have t7 := (HP.out.ext (Ext.refl wx)).cell 7 _ rfl
      have q7 := (HAX.out.ext (Ext.refl wx)).cell 7 _ rfl
      have t8 := (HP.out.ext (Ext.refl wx)).cell 8 _ rfl
      have q8 := (HAX.out.ext (Ext.refl wx)).cell 8 _ rfl
      have t9 := (HP.out.ext (Ext.refl wx)).cell 9 _ rfl
      have q9 := (HAX.out.ext (Ext.refl wx)).cell 9 _ rfl
      have t10 := (HP.out.ext (Ext.refl wx)).cell 10 _ rfl
      have q10 := (HAX.out.ext (Ext.refl wx)).cell 10 _ rfl
      have HW4 := hid (Ext.refl wx)
      clear hmE hdE hsE
      go_wp2_with fail
      go_meet
      exact ⟨by first | rfl | simp | simp [*], HW4.out⟩
     ·as_aux_lemma =>
      have q0 := HAX.out.cell 0 _ rfl
      rw [HF1.out] at q0
      have t0 := HP.out.cell 0 _ rfl
      have h0 : (!y0.x.t.toList == y0.x.t.toList) = false := by simp
      have t14 := HP.out.cell 14 _ rfl
      have hd1 : y0.x.d.toList.isEmpty = false := by rw [isE_dec]; exact decide_eq_false hdE
      have hs1 : (y0.x.s 0).toList.isEmpty = false := by rw [isE_dec]; exact decide_eq_false hsE
      have hm0 : ¬ (0 : Int) < (y0.x.n 5 : Int) := by omega
      have hm0N : y0.x.n 5 = 0 := hmE
      have t2 := (HP.out.ext (Ext.refl wx)).cell 2 _ rfl
      have q2 := (HAX.out.ext (Ext.refl wx)).cell 2 _ rfl
      rw [HF2.out hdE] at q2
      have hd2 : (!y0.x.d.toList == y0.x.d.toList) = false := by simp
      have t5 := (HP.out.ext (Ext.refl wx)).cell 5 _ rfl
      have q5 := (HAX.out.ext (Ext.refl wx)).cell 5 _ rfl
      have t6 := (HP.out.ext (Ext.refl wx)).cell 6 _ rfl
      have q6 := (HAX.out.ext (Ext.refl wx)).cell 6 _ rfl
      have t7 := (HP.out.ext (Ext.refl wx)).cell 7 _ rfl
      have q7 := (HAX.out.ext (Ext.refl wx)).cell 7 _ rfl
      have t8 := (HP.out.ext (Ext.refl wx)).cell 8 _ rfl
      have q8 := (HAX.out.ext (Ext.refl wx)).cell 8 _ rfl
      have t9 := (HP.out.ext (Ext.refl wx)).cell 9 _ rfl
      have q9 := (HAX.out.ext (Ext.refl wx)).cell 9 _ rfl
      have t10 := (HP.out.ext (Ext.refl wx)).cell 10 _ rfl
      have q10 := (HAX.out.ext (Ext.refl wx)).cell 10 _ rfl
      have hsy := HF3.out hsE
      injection hsy with hsa hsb
      injection hsa with k0 hsa
      injection hsa with k1 hsa
      injection hsa with k2 hsa
      injection hsa with k3 _
      injection hsb with k4 hsb
      injection hsb with k5 _
      rw [k0] at q5
      rw [k1] at q6
      rw [k2] at q7
      rw [k3] at q8
      rw [k4] at q9
      rw [k5] at q10
      clear k0 k1 k2 k3 k4 k5
      have e31 : ∀ W : World, (Op.equalIn 10000 31 (.agg #[.string (y0.x.s 0), .string (y0.x.s 1), .string (y0.x.s 2), .string (y0.x.s 3), .int .i64 (y0.x.i 0), .int .i64 (y0.x.i 1)]) (.agg #[.string (y0.x.s 0), .string (y0.x.s 1), .string (y0.x.s 2), .string (y0.x.s 3), .int .i64 (y0.x.i 0), .int .i64 (y0.x.i 1)])).run Tryz.prog W = .ok true W := fun W => eq_symI _ _ _ _ _ _ W
      have g31 : Tryz.prog.eqGuardType Tryz.prog.depth 31 = false := by kernel_rfl
      have HW4 := hid (Ext.refl wx)
      clear hmE hdE hsE
      go_wp2_with fail
      go_meet
      exact ⟨by first | rfl | simp | simp [*], HW4.out⟩
   ·by_cases hdE : y0.x.d = eB
    ·by_cases hsE : y0.x.s 0 = eB
     ·as_aux_lemma =>
      have q0 := HAX.out.cell 0 _ rfl
      rw [HF1.out] at q0
      have t0 := HP.out.cell 0 _ rfl
      have h0 : (!y0.x.t.toList == y0.x.t.toList) = false := by simp
      have t14 := HP.out.cell 14 _ rfl
      have hd1 : y0.x.d.toList.isEmpty = true := by rw [isE_dec]; exact decide_eq_true hdE
      have hs1 : (y0.x.s 0).toList.isEmpty = true := by rw [isE_dec]; exact decide_eq_true hsE
      have q14 := HAX.out.cell 14 _ rfl
      have hm0 : (0 : Int) < (y0.x.n 5 : Int) := by omega
      have hm0N : 0 < y0.x.n 5 := by omega
      have HKS := hid (KS.out hmE _ (Ext.refl _))
      have HMD := hid hdE
      have HMS := hid hsE
      clear hmE hdE hsE
      go_wp2_with fail
      refine HKS.out.mono ?_
      rintro e5 w4 ⟨rfl, hw4⟩
      have HW4 := hid hw4
      have hdE := HMD.out
      have hsE := HMS.out
      clear hw4 q0 t0 t14 q14
      have t2 := (HP.out.ext HW4.out).cell 2 _ rfl
      have q2 := (HAX.out.ext HW4.out).cell 2 _ rfl
      have t5 := (HP.out.ext HW4.out).cell 5 _ rfl
      have q5 := (HAX.out.ext HW4.out).cell 5 _ rfl
      have t6 := (HP.out.ext HW4.out).cell 6 _ rfl
      have q6 := (HAX.out.ext HW4.out).cell 6 _ rfl
      have t7 := (HP.out.ext HW4.out).cell 7 _ rfl
      have q7 := (HAX.out.ext HW4.out).cell 7 _ rfl
      have t8 := (HP.out.ext HW4.out).cell 8 _ rfl
      have q8 := (HAX.out.ext HW4.out).cell 8 _ rfl
      have t9 := (HP.out.ext HW4.out).cell 9 _ rfl
      have q9 := (HAX.out.ext HW4.out).cell 9 _ rfl
      have t10 := (HP.out.ext HW4.out).cell 10 _ rfl
      have q10 := (HAX.out.ext HW4.out).cell 10 _ rfl
      clear hdE hsE
      simp only [decide_true]
      go_wp2_with fail
      go_meet
      exact ⟨by first | rfl | simp | simp [*], HW4.out⟩
     ·as_aux_lemma =>
      have q0 := HAX.out.cell 0 _ rfl
      rw [HF1.out] at q0
      have t0 := HP.out.cell 0 _ rfl
      have h0 : (!y0.x.t.toList == y0.x.t.toList) = false := by simp
      have t14 := HP.out.cell 14 _ rfl
      have hd1 : y0.x.d.toList.isEmpty = true := by rw [isE_dec]; exact decide_eq_true hdE
      have hs1 : (y0.x.s 0).toList.isEmpty = false := by rw [isE_dec]; exact decide_eq_false hsE
      have q14 := HAX.out.cell 14 _ rfl
      have hm0 : (0 : Int) < (y0.x.n 5 : Int) := by omega
      have hm0N : 0 < y0.x.n 5 := by omega
      have HKS := hid (KS.out hmE _ (Ext.refl _))
      have HMD := hid hdE
      have HMS := hid hsE
      clear hmE hdE hsE
      go_wp2_with fail
      refine HKS.out.mono ?_
      rintro e5 w4 ⟨rfl, hw4⟩
      have HW4 := hid hw4
      have hdE := HMD.out
      have hsE := HMS.out
      clear hw4 q0 t0 t14 q14
      have t2 := (HP.out.ext HW4.out).cell 2 _ rfl
      have q2 := (HAX.out.ext HW4.out).cell 2 _ rfl
      have t5 := (HP.out.ext HW4.out).cell 5 _ rfl
      have q5 := (HAX.out.ext HW4.out).cell 5 _ rfl
      have t6 := (HP.out.ext HW4.out).cell 6 _ rfl
      have q6 := (HAX.out.ext HW4.out).cell 6 _ rfl
      have t7 := (HP.out.ext HW4.out).cell 7 _ rfl
      have q7 := (HAX.out.ext HW4.out).cell 7 _ rfl
      have t8 := (HP.out.ext HW4.out).cell 8 _ rfl
      have q8 := (HAX.out.ext HW4.out).cell 8 _ rfl
      have t9 := (HP.out.ext HW4.out).cell 9 _ rfl
      have q9 := (HAX.out.ext HW4.out).cell 9 _ rfl
      have t10 := (HP.out.ext HW4.out).cell 10 _ rfl
      have q10 := (HAX.out.ext HW4.out).cell 10 _ rfl
      have hsy := HF3.out hsE
      injection hsy with hsa hsb
      injection hsa with k0 hsa
      injection hsa with k1 hsa
      injection hsa with k2 hsa
      injection hsa with k3 _
      injection hsb with k4 hsb
      injection hsb with k5 _
      rw [k0] at q5
      rw [k1] at q6
      rw [k2] at q7
      rw [k3] at q8
      rw [k4] at q9
      rw [k5] at q10
      clear k0 k1 k2 k3 k4 k5
      have e31 : ∀ W : World, (Op.equalIn 10000 31 (.agg #[.string (y0.x.s 0), .string (y0.x.s 1), .string (y0.x.s 2), .string (y0.x.s 3), .int .i64 (y0.x.i 0), .int .i64 (y0.x.i 1)]) (.agg #[.string (y0.x.s 0), .string (y0.x.s 1), .string (y0.x.s 2), .string (y0.x.s 3), .int .i64 (y0.x.i 0), .int .i64 (y0.x.i 1)])).run Tryz.prog W = .ok true W := fun W => eq_symI _ _ _ _ _ _ W
      have g31 : Tryz.prog.eqGuardType Tryz.prog.depth 31 = false := by kernel_rfl
      clear hdE hsE
      simp only [decide_true]
      go_wp2_with fail
      go_meet
      exact ⟨by first | rfl | simp | simp [*], HW4.out⟩
    ·by_cases hsE : y0.x.s 0 = eB
     ·as_aux_lemma =>
      have q0 := HAX.out.cell 0 _ rfl
      rw [HF1.out] at q0
      have t0 := HP.out.cell 0 _ rfl
      have h0 : (!y0.x.t.toList == y0.x.t.toList) = false := by simp
      have t14 := HP.out.cell 14 _ rfl
      have hd1 : y0.x.d.toList.isEmpty = false := by rw [isE_dec]; exact decide_eq_false hdE
      have hs1 : (y0.x.s 0).toList.isEmpty = true := by rw [isE_dec]; exact decide_eq_true hsE
      have q14 := HAX.out.cell 14 _ rfl
      have hm0 : (0 : Int) < (y0.x.n 5 : Int) := by omega
      have hm0N : 0 < y0.x.n 5 := by omega
      have HKS := hid (KS.out hmE _ (Ext.refl _))
      have HMD := hid hdE
      have HMS := hid hsE
      clear hmE hdE hsE
      go_wp2_with fail
      refine HKS.out.mono ?_
      rintro e5 w4 ⟨rfl, hw4⟩
      have HW4 := hid hw4
      have hdE := HMD.out
      have hsE := HMS.out
      clear hw4 q0 t0 t14 q14
      have t2 := (HP.out.ext HW4.out).cell 2 _ rfl
      have q2 := (HAX.out.ext HW4.out).cell 2 _ rfl
      rw [HF2.out hdE] at q2
      have hd2 : (!y0.x.d.toList == y0.x.d.toList) = false := by simp
      have t5 := (HP.out.ext HW4.out).cell 5 _ rfl
      have q5 := (HAX.out.ext HW4.out).cell 5 _ rfl
      have t6 := (HP.out.ext HW4.out).cell 6 _ rfl
      have q6 := (HAX.out.ext HW4.out).cell 6 _ rfl
      have t7 := (HP.out.ext HW4.out).cell 7 _ rfl
      have q7 := (HAX.out.ext HW4.out).cell 7 _ rfl
      have t8 := (HP.out.ext HW4.out).cell 8 _ rfl
      have q8 := (HAX.out.ext HW4.out).cell 8 _ rfl
      have t9 := (HP.out.ext HW4.out).cell 9 _ rfl
      have q9 := (HAX.out.ext HW4.out).cell 9 _ rfl
      have t10 := (HP.out.ext HW4.out).cell 10 _ rfl
      have q10 := (HAX.out.ext HW4.out).cell 10 _ rfl
      clear hdE hsE
      simp only [decide_true]
      go_wp2_with fail
      go_meet
      exact ⟨by first | rfl | simp | simp [*], HW4.out⟩
     ·as_aux_lemma =>
      have q0 := HAX.out.cell 0 _ rfl
      rw [HF1.out] at q0
      have t0 := HP.out.cell 0 _ rfl
      have h0 : (!y0.x.t.toList == y0.x.t.toList) = false := by simp
      have t14 := HP.out.cell 14 _ rfl
      have hd1 : y0.x.d.toList.isEmpty = false := by rw [isE_dec]; exact decide_eq_false hdE
      have hs1 : (y0.x.s 0).toList.isEmpty = false := by rw [isE_dec]; exact decide_eq_false hsE
      have q14 := HAX.out.cell 14 _ rfl
      have hm0 : (0 : Int) < (y0.x.n 5 : Int) := by omega
      have hm0N : 0 < y0.x.n 5 := by omega
      have HKS := hid (KS.out hmE _ (Ext.refl _))
      have HMD := hid hdE
      have HMS := hid hsE
      clear hmE hdE hsE
      go_wp2_with fail
      refine HKS.out.mono ?_
      rintro e5 w4 ⟨rfl, hw4⟩
      have HW4 := hid hw4
      have hdE := HMD.out
      have hsE := HMS.out
      clear hw4 q0 t0 t14 q14
      have t2 := (HP.out.ext HW4.out).cell 2 _ rfl
      have q2 := (HAX.out.ext HW4.out).cell 2 _ rfl
      rw [HF2.out hdE] at q2
      have hd2 : (!y0.x.d.toList == y0.x.d.toList) = false := by simp
      have t5 := (HP.out.ext HW4.out).cell 5 _ rfl
      have q5 := (HAX.out.ext HW4.out).cell 5 _ rfl
      have t6 := (HP.out.ext HW4.out).cell 6 _ rfl
      have q6 := (HAX.out.ext HW4.out).cell 6 _ rfl
      have t7 := (HP.out.ext HW4.out).cell 7 _ rfl
      have q7 := (HAX.out.ext HW4.out).cell 7 _ rfl
      have t8 := (HP.out.ext HW4.out).cell 8 _ rfl
      have q8 := (HAX.out.ext HW4.out).cell 8 _ rfl
      have t9 := (HP.out.ext HW4.out).cell 9 _ rfl
      have q9 := (HAX.out.ext HW4.out).cell 9 _ rfl
      have t10 := (HP.out.ext HW4.out).cell 10 _ rfl
      have q10 := (HAX.out.ext HW4.out).cell 10 _ rfl
      have hsy := HF3.out hsE
      injection hsy with hsa hsb
      injection hsa with k0 hsa
      injection hsa with k1 hsa
      injection hsa with k2 hsa
      injection hsa with k3 _
      injection hsb with k4 hsb
      injection hsb with k5 _
      rw [k0] at q5
      rw [k1] at q6
      rw [k2] at q7
      rw [k3] at q8
      rw [k4] at q9
      rw [k5] at q10
      clear k0 k1 k2 k3 k4 k5
      have e31 : ∀ W : World, (Op.equalIn 10000 31 (.agg #[.string (y0.x.s 0), .string (y0.x.s 1), .string (y0.x.s 2), .string (y0.x.s 3), .int .i64 (y0.x.i 0), .int .i64 (y0.x.i 1)]) (.agg #[.string (y0.x.s 0), .string (y0.x.s 1), .string (y0.x.s 2), .string (y0.x.s 3), .int .i64 (y0.x.i 0), .int .i64 (y0.x.i 1)])).run Tryz.prog W = .ok true W := fun W => eq_symI _ _ _ _ _ _ W
      have g31 : Tryz.prog.eqGuardType Tryz.prog.depth 31 = false := by kernel_rfl
      clear hdE hsE
      simp only [decide_true]
      go_wp2_with fail
      go_meet
      exact ⟨by first | rfl | simp | simp [*], HW4.out⟩
  case rest =>
   obtain ⟨rfl, hxc⟩ := hcut
   obtain ⟨w5, hw5⟩ : ∃ W : World, W = wc := ⟨_, rfl⟩
   rw [← hw5] at hxc ⊢
   clear hw5
   have HW5 := hid (HWX.out.trans hxc)
   have HA5 := hid (HAX.out.ext hxc)
   have HP5 := hid (HP.out.ext hxc)
   have HS5 := hid (HS3.out.ext hxc)
   have HU5 := hid (show ElM 3 w5 (z1.x.A 3) (z1.x.n 3) (z1.e 1) from (HZX.out.2.2 1 (by decide)).ext hxc)
   have HV5 := hid (show ElM 3 w5 (y0.x.A 3) (y0.x.n 3) (y0.e 1) from (HY0X.out.2.2 1 (by decide)).ext hxc)
   have HKB5 := hid (KB.out.ext HW5.out)
   have HL5 := hid (HL.out.ext HW5.out)
   clear hxc HAX HP HS3 HZX HY0X HWB HXA HWA
   obtain ⟨U, hU⟩ : ∃ U, U = z1.e 1 := ⟨_, rfl⟩
   rw [← hU] at HU5 HF5
   clear hU
   obtain ⟨nU, hnU⟩ : ∃ nU, nU = z1.x.n 3 := ⟨_, rfl⟩
   have a12 := HA5.out.cell 12 _ rfl
   rw [← hnU] at HU5 a12
   have HnU := hid hnU
   clear hnU
   have hgz : True := trivial
   go_wp2_with fail
   go_loopw [10] (YsI w5 nU) (fun i _ => nU - (intOf i).toNat)
   case atStart => exact ⟨0, Nat.zero_le _, rfl, Ext.refl _⟩
   case round =>
    obtain ⟨i, hi, rfl, hw⟩ := hrel
    obtain ⟨wi, rfl⟩ : ∃ wi : World, wi = wr := ⟨_, rfl⟩
    have HWI := hid hw
    have a12 : wi.cell? ⟨wa.heap.size, 12, none⟩ = some (.slice (z1.x.A 3) nU (z1.x.c 3)) := by rw [HnU.out]; exact (HA5.out.ext HWI.out).cell 12 _ rfl
    clear hw
    by_cases hin : i < nU
    ·as_aux_lemma =>
     have hn9 : nU ≤ 1000000 := by rw [HnU.out]; exact HZL.out
     obtain ⟨u0, u1, u2, bU, oU, hu, hAU, c0, c1, c2_⟩ := el3 (HU5.out.ext HWI.out) hin
     rw [hAU] at a12
     have HU := hid hu
     have HC0 := hid c0
     have HC1 := hid c1
     have HC2 := hid c2_
     have HA12 := hid a12
     have hiI : (i : Int) < (nU : Int) := by omega
     clear hu c0 c1 c2_
     have E12 : ∀ v : ExtW wi, v.v.cell? ⟨wa.heap.size, 12, none⟩ = some (.slice (some ⟨bU, oU, none⟩) nU (z1.x.c 3)) := fun v => ys_cell HA12.out v
     have E0 : ∀ v : ExtW wi, v.v.cell? ⟨bU, oU + i * 3, none⟩ = some (.string u0) := fun v => ys_cell HC0.out v
     have E1 : ∀ v : ExtW wi, v.v.cell? ⟨bU, oU + i * 3 + 1, none⟩ = some (.string u1) := fun v => ys_cell HC1.out v
     go_upto_region 15 with fail
     go_cut [141] (InB false wi)
     case first =>
      rcases Nat.eq_zero_or_pos i with hi0 | hi0
      ·as_aux_lemma =>
       subst hi0
       refine wp_region_ext (by kernel_rfl) (by kernel_rfl) ?_
       repeat (go_big_quiet_step (fail))
       refine wpQuiet_nil ?_
       intro wz hwz
       go_wp2_with fail
       go_meet
       exact ⟨rfl, ys_ext hwz⟩
      ·as_aux_lemma =>
       obtain ⟨v0, v1, v2, bV, oV, hv, hAV, d0, d1, d2⟩ := el3 (HU5.out.ext HWI.out) (show i - 1 < nU by omega)
       rw [hAU] at hAV
       injection hAV with hAV
       injection hAV with hb1 hb2 _
       subst hb1 hb2
       have HKE := hid (show kyE 2 [v0, v1, v2] ≠ kyE 2 [u0, u1, u2] from unit_sorted (i := i - 1) (by rw [← HF5.out]; exact hv) (by rw [← HF5.out, show i - 1 + 1 = i by omega]; exact HU.out))
       have F0 : ∀ v : ExtW wi, v.v.cell? ⟨bU, oU + (i - 1) * 3, none⟩ = some (.string v0) := fun v => ys_cell d0 v
       have F1 : ∀ v : ExtW wi, v.v.cell? ⟨bU, oU + (i - 1) * 3 + 1, none⟩ = some (.string v1) := fun v => ys_cell d1 v
       have hI : ((i : Int) - 1).toNat = i - 1 := by omega
       have hz1I : (0 : Int) ≤ (i : Int) - 1 := by omega
       have hltI : (i : Int) - 1 < (nU : Int) := by omega
       have hwr : IntKind.i64.wrap ((i : Int) - 1) = (i : Int) - 1 := by rw [IntKind.wrap_i64]; omega
       have hi0I : (0 : Int) < (i : Int) := by omega
       clear hv d0 d1 d2 hAU
       cases t1 : (u0.toList == v0.toList)
       ·clear HKE
        refine wp_region_ext (by kernel_rfl) (by kernel_rfl) ?_
        repeat (go_big_quiet_step (fail))
        refine wpQuiet_nil ?_
        intro wz hwz
        go_wp2_with fail
        go_meet
        exact ⟨rfl, ys_ext hwz⟩
       ·have t2 : (u1.toList == v1.toList) = false := by
         cases h2 : (u1.toList == v1.toList)
         ·rfl
         ·exact absurd (ky2.2 ⟨by rw [beq_iff_eq] at t1 ⊢; exact t1.symm, by rw [beq_iff_eq] at h2 ⊢; exact h2.symm⟩) HKE.out
        clear HKE
        refine wp_region_ext (by kernel_rfl) (by kernel_rfl) ?_
        repeat (go_big_quiet_step (fail))
        refine wpQuiet_nil ?_
        intro wz hwz
        go_wp2_with fail
        go_meet
        exact ⟨rfl, ys_ext hwz⟩
     case rest =>
      obtain ⟨rfl, hxc⟩ := hcut
      obtain ⟨wj, hwj⟩ : ∃ W : World, W = wc := ⟨_, rfl⟩
      rw [← hwj] at hxc ⊢
      clear hwj E12 E0 E1 hAU a12
      have HWJ := hid (HWI.out.trans hxc)
      have HWJ1 := hid hxc
      clear hxc
      go_wp2_with fail
      go_loopw [11, 12] (InK wj YL [u0, u1, u2] n2) (fun _ i _ => n2 - (intOf i).toNat)
      case atStart => exact ⟨0, false, Nat.zero_le _, rfl, rfl, fun k' _ h => absurd h (Nat.not_lt_zero k'), Ext.refl _⟩
      case round =>
       obtain ⟨k, fd, hk, rfl, rfl, hfd, hw⟩ := hrel
       obtain ⟨wk, rfl⟩ : ∃ wk : World, wk = wr := ⟨_, rfl⟩
       have HFD := hid hfd
       have HWK := hid (HWJ.out.trans hw)
       have HWK1 := hid hw
       clear hfd hw
       by_cases hkn : k < n2
       ·as_aux_lemma =>
        obtain ⟨ad', q', had, hq, hcq⟩ := (HS5.out.ext HWK.out).at_map hkn
        injection had with had
        subst had
        unfold natV at hcq
        have hqln' : q' < ln := HLT.out q' (List.mem_of_getElem? hq)
        obtain ⟨y, hy⟩ : ∃ y, l[q']? = some y := ⟨_, List.getElem?_eq_getElem (by have := HLL.out; omega)⟩
        have HYK := hid (show YL[k]? = some y from by rw [HYL.out, List.getElem?_map, hq, Option.map_some, List.getD_eq_getElem?_getD, hy]; rfl)
        obtain ⟨b', o', hL', hb', hc'⟩ := (HL5.out.ext HWK.out).at_ (show (l.map (·.x))[q']? = some y.x from by rw [List.getElem?_map, hy]; rfl)
        injection hL' with hL'
        injection hL' with h1 h2 _
        subst h1; subst h2
        have hc12 : wk.cell? ⟨b, o + q' * 16 + 12, none⟩ = some (.slice (y.x.A 3) (y.x.n 3) (y.x.c 3)) := hc' 12 _ rfl
        have x0 : wk.cell? ⟨w.heap.size, 0, none⟩ = some (.slice (some ⟨b, o, none⟩) ln lc) := (HKB5.out.ext HWK.out).cell 0 _ rfl
        have hkI : (k : Int) < (n2 : Int) := by omega
        have hqI : (q' : Int) < (ln : Int) := by omega
        have hym := List.mem_of_getElem? hy
        have HYM2 := hid ((HLK.out y hym).ext (HW5.out.trans HWK.out))
        have hyn : y.x.n 3 ≤ 120 := HSEC.out y hym 3 (by decide)
        obtain ⟨yA, hyA⟩ : ∃ A, A = y.x.A 3 := ⟨_, rfl⟩
        obtain ⟨yn, hyN⟩ : ∃ A, A = y.x.n 3 := ⟨_, rfl⟩
        obtain ⟨yc, hyC⟩ : ∃ A, A = y.x.c 3 := ⟨_, rfl⟩
        obtain ⟨E, hE⟩ : ∃ E, E = y.e 1 := ⟨_, rfl⟩
        have HEL := hid (show ElM 3 wk (y.x.A 3) (y.x.n 3) (y.e 1) from HYM2.out.2.2 1 (by decide))
        rw [← hyA, ← hyN, ← hyC] at hc12
        rw [← hyA, ← hyN, ← hE] at HEL
        rw [← hyN] at hyn
        have HE := hid hE
        clear hq hy hc' hym hyA hyN hyC hE HYM2
        go_upto_region 21 with fail
        go_quiet (fail)
        obtain ⟨w6, hw6⟩ : ∃ w6, w6 = wk.drewN nq := ⟨_, rfl⟩
        rw [← hw6]
        have HW6 := hid (show Ext wk w6 from by rw [hw6]; exact (Ext.refl wk).drewN nq)
        clear hw6 x0 hcq hc12
        go_wp2_with fail
        go_loopw [11, 14] (InJ3 w6 YL [u0, u1, u2] k E yn) (fun _ i _ => yn - (intOf i).toNat)
        case atStart => exact ⟨0, fd, Nat.zero_le _, rfl, rfl, HFD.out, fun j' _ h => absurd h (Nat.not_lt_zero j'), Ext.refl _⟩
        case round =>
         obtain ⟨j, fe, hj, rfl, rfl, hfe, hfj, hw⟩ := hrel
         have HFE := hid hfe
         have HFJ := hid hfj
         have HWL := hid (HW6.out.trans hw)
         have HWL1 := hid hw
         clear hfe hfj hw
         by_cases hjn : j < yn
         ·as_aux_lemma =>
          obtain ⟨x0, x1, x2, bX, oX, hx, hAX, c0, c1, c2_⟩ := el3 (HEL.out.ext HWL.out) hjn
          have HX := hid hx
          have HWIX := hid (show Ext wi wr from (HWJ1.out).trans (HWK1.out.trans HWL.out))
          subst hAX
          have E12 : ∀ v : ExtW wr, v.v.cell? ⟨wa.heap.size, 12, none⟩ = some (.slice (some ⟨bU, oU, none⟩) nU (z1.x.c 3)) := fun v => cell_midY (HWIX.out.trans v.h) HA12.out
          have E0 : ∀ v : ExtW wr, v.v.cell? ⟨bU, oU + i * 3, none⟩ = some (.string u0) := fun v => cell_midY (HWIX.out.trans v.h) HC0.out
          have E1 : ∀ v : ExtW wr, v.v.cell? ⟨bU, oU + i * 3 + 1, none⟩ = some (.string u1) := fun v => cell_midY (HWIX.out.trans v.h) HC1.out
          have E2 : ∀ v : ExtW wr, v.v.cell? ⟨bU, oU + i * 3 + 2, none⟩ = some (.string u2) := fun v => cell_midY (HWIX.out.trans v.h) HC2.out
          have G0 : ∀ v : ExtW wr, v.v.cell? ⟨bX, oX + j * 3, none⟩ = some (.string x0) := fun v => ys_cell c0 v
          have G1 : ∀ v : ExtW wr, v.v.cell? ⟨bX, oX + j * 3 + 1, none⟩ = some (.string x1) := fun v => ys_cell c1 v
          have G2 : ∀ v : ExtW wr, v.v.cell? ⟨bX, oX + j * 3 + 2, none⟩ = some (.string x2) := fun v => ys_cell c2_ v
          have hjI : (j : Int) < (yn : Int) := by omega
          have g48 : Tryz.prog.eqGuardType Tryz.prog.depth 48 = false := by kernel_rfl
          clear hx c0 c1 c2_
          cases hq : (x0.toList == u0.toList && (x1.toList == u1.toList && x2.toList == u2.toList))
          ·have e48 : ∀ W : World, (Op.equalIn 10000 48 (.agg #[.string x0, .string x1, .string x2]) (.agg #[.string u0, .string u1, .string u2])).run Tryz.prog W = .ok false W := fun W => by rw [eq_up3, hq]
           have HNX := hid (show ∀ j' x, j' < j + 1 → E[j']? = some x → x = [u0, u1, u2] → fe = true from fun j' x h1 h2 h3 => by
            rcases Nat.lt_succ_iff_lt_or_eq.1 h1 with h1 | h1
            ·exact HFJ.out j' x h1 h2 h3
            ·rw [h1, HX.out] at h2
             injection h2 with h2
             rw [← h2] at h3
             injection h3 with g0 h3
             injection h3 with g1 h3
             injection h3 with g2 _
             rw [g0, g1, g2] at hq
             simp at hq)
           clear hq
           cases fe
           ·go_upto_region 25 with fail
            refine wp_region_ext (by kernel_rfl) (by kernel_rfl) ?_
            repeat (go_big_quiet_step (fail))
            refine wpQuiet_nil ?_
            intro wz hwz
            have HWZ := hid (HWL1.out.trans (ys_ext hwz))
            clear hwz E12 E0 E1 E2 G0 G1 G2 g48 e48
            go_wp2
            exact ⟨⟨j + 1, false, by omega, rfl, by go_num, HFE.out, HNX.out, HWZ.out⟩, by simp [intOf]; omega⟩
           ·go_upto_region 25 with fail
            refine wp_region_ext (by kernel_rfl) (by kernel_rfl) ?_
            repeat (go_big_quiet_step (fail))
            refine wpQuiet_nil ?_
            intro wz hwz
            have HWZ := hid (HWL1.out.trans (ys_ext hwz))
            clear hwz E12 E0 E1 E2 G0 G1 G2 g48 e48
            go_wp2
            exact ⟨⟨j + 1, true, by omega, rfl, by go_num, fun _ _ _ _ _ => rfl, fun _ _ _ _ _ => rfl, HWZ.out⟩, by simp [intOf]; omega⟩
          ·have e48 : ∀ W : World, (Op.equalIn 10000 48 (.agg #[.string x0, .string x1, .string x2]) (.agg #[.string u0, .string u1, .string u2])).run Tryz.prog W = .ok true W := fun W => by rw [eq_up3, hq]
           clear hq
           cases fe
           ·go_upto_region 25 with fail
            refine wp_region_ext (by kernel_rfl) (by kernel_rfl) ?_
            repeat (go_big_quiet_step (fail))
            refine wpQuiet_nil ?_
            intro wz hwz
            have HWZ := hid (HWL1.out.trans (ys_ext hwz))
            clear hwz E12 E0 E1 E2 G0 G1 G2 g48 e48
            go_wp2
            exact ⟨⟨j + 1, true, by omega, rfl, by go_num, fun _ _ _ _ _ => rfl, fun _ _ _ _ _ => rfl, HWZ.out⟩, by simp [intOf]; omega⟩
           ·go_upto_region 25 with fail
            refine wp_region_ext (by kernel_rfl) (by kernel_rfl) ?_
            repeat (go_big_quiet_step (fail))
            refine wpQuiet_nil ?_
            intro wz hwz
            have HWZ := hid (HWL1.out.trans (ys_ext hwz))
            clear hwz E12 E0 E1 E2 G0 G1 G2 g48 e48
            go_wp2
            exact ⟨⟨j + 1, true, by omega, rfl, by go_num, fun _ _ _ _ _ => rfl, fun _ _ _ _ _ => rfl, HWZ.out⟩, by simp [intOf]; omega⟩
         ·have HNX := hid (show ∀ k' y, k' < k + 1 → YL[k']? = some y → [u0, u1, u2] ∈ y.e 1 → fe = true from fun k' y' h1 h2 h3 => by
           rcases Nat.lt_succ_iff_lt_or_eq.1 h1 with h1 | h1
           ·exact HFE.out k' y' h1 h2 h3
           ·rw [h1, HYK.out] at h2
            injection h2 with h2
            rw [← h2, ← HE.out] at h3
            obtain ⟨j', hj', hh⟩ := List.getElem_of_mem h3
            refine HFJ.out j' _ ?_ (List.getElem?_eq_getElem hj') hh
            have := HEL.out.len (by decide)
            omega)
          go_wp2
          exact ⟨⟨k + 1, fe, by omega, rfl, by go_num, HNX.out, HWK1.out.trans HWL.out⟩, by simp [intOf]; omega⟩
       ·have hfd2 : fd = true := by
         have hmem : [u0, u1, u2] ∈ mrgE 2 (YL.map (·.e 1)) := by rw [← HF5.out]; exact List.mem_of_getElem? HU.out
         obtain ⟨L', hL', hu⟩ := unit_mem hmem
         obtain ⟨y, hy, rfl⟩ := List.mem_map.1 hL'
         obtain ⟨k', hk', hh⟩ := List.getElem_of_mem hy
         refine HFD.out k' y ?_ (by rw [List.getElem?_eq_getElem hk', hh]) hu
         have h1 := HN2.out
         have h2 : YL.length = r.length := by rw [HYL.out, List.length_map]
         omega
        subst hfd2
        go_wp2
        exact ⟨⟨i + 1, by omega, by go_num, HWJ.out.trans HWK1.out⟩, by simp [intOf]; omega⟩
    ·as_aux_lemma =>
     have a12 : wi.cell? ⟨wa.heap.size, 12, none⟩ = some (.slice (z1.x.A 3) nU (z1.x.c 3)) := by rw [HnU.out]; exact (HA5.out.ext HWI.out).cell 12 _ rfl
     have p12 : wi.cell? ⟨p, 12, none⟩ = some (.slice (y0.x.A 3) (y0.x.n 3) (y0.x.c 3)) := (HP5.out.ext HWI.out).cell 12 _ rfl
     obtain ⟨oA, hoA⟩ : ∃ A, A = y0.x.A 3 := ⟨_, rfl⟩
     obtain ⟨on, hoN⟩ : ∃ A, A = y0.x.n 3 := ⟨_, rfl⟩
     obtain ⟨oc, hoC⟩ : ∃ A, A = y0.x.c 3 := ⟨_, rfl⟩
     have hon : on ≤ 120 := by rw [hoN]; exact HY0N.out 3 (by decide)
     rw [← hoA, ← hoN, ← hoC] at p12
     have HV6 := hid (HV5.out)
     rw [← hoA, ← hoN] at HV6
     have HP12 := hid p12
     have HA12 := hid a12
     have hn9 : nU ≤ 1000000 := by rw [HnU.out]; exact HZL.out
     clear hoA hoN hoC
     go_wp2_with fail
     go_loopw [15] (YsI wi on) (fun i _ => on - (intOf i).toNat)
     case atStart => exact ⟨0, Nat.zero_le _, rfl, Ext.refl _⟩
     case round =>
      obtain ⟨j, hj, rfl, hw⟩ := hrel
      obtain ⟨wj, rfl⟩ : ∃ wj : World, wj = wr := ⟨_, rfl⟩
      have HWJ := hid hw
      clear hw a12 p12
      have p12 := cell_midY HWJ.out HP12.out
      by_cases hjn : j < on
      ·as_aux_lemma =>
       obtain ⟨x0, x1, x2, bX, oX, hx, hAX, c0, c1, c2_⟩ := el3 (HV6.out.ext (HWI.out.trans HWJ.out)) hjn
       have HX := hid hx
       have HC0 := hid c0
       have HC1 := hid c1
       have hjI : (j : Int) < (on : Int) := by omega
       subst hAX
       clear hx c0 c1 c2_
       have a12 := cell_midY HWJ.out HA12.out
       go_wp2_with fail
       go_loopw [16, 17] (InQ wj U [x0, x1, x2] nU) (fun _ i _ => nU - (intOf i).toNat)
       case atStart => exact ⟨0, false, Nat.zero_le _, rfl, rfl, fun k' _ h => absurd h (Nat.not_lt_zero k'), Ext.refl _⟩
       case round =>
        obtain ⟨k, fd, hk, rfl, rfl, hfd, hw⟩ := hrel
        have HFD := hid hfd
        have HWK := hid hw
        clear hfd hw a12 p12
        have a12 := cell_midY (HWJ.out.trans HWK.out) HA12.out
        by_cases hkn : k < nU
        ·as_aux_lemma =>
         obtain ⟨u0, u1, u2, bU, oU, hu, hAU, c0, c1, c2_⟩ := el3 (HU5.out.ext (HWI.out.trans (HWJ.out.trans HWK.out))) hkn
         have HU := hid hu
         rw [hAU] at a12
         have p12 := cell_midY (HWJ.out.trans HWK.out) HP12.out
         have HE12 := hid (fun v : ExtW wr => ys_cell a12 v)
         have E12 : ∀ v : ExtW wr, v.v.cell? ⟨wa.heap.size, 12, none⟩ = some (.slice (some ⟨bU, oU, none⟩) nU (z1.x.c 3)) := fun v => HE12.out v
         have HE13 := hid (fun v : ExtW wr => ys_cell p12 v)
         have P12 : ∀ v : ExtW wr, v.v.cell? ⟨p, 12, none⟩ = some (.slice (some ⟨bX, oX, none⟩) on oc) := fun v => HE13.out v
         have E0 : ∀ v : ExtW wr, v.v.cell? ⟨bU, oU + k * 3, none⟩ = some (.string u0) := fun v => ys_cell c0 v
         have E1 : ∀ v : ExtW wr, v.v.cell? ⟨bU, oU + k * 3 + 1, none⟩ = some (.string u1) := fun v => ys_cell c1 v
         have G0 : ∀ v : ExtW wr, v.v.cell? ⟨bX, oX + j * 3, none⟩ = some (.string x0) := fun v => cell_midY (HWK.out.trans v.h) HC0.out
         have G1 : ∀ v : ExtW wr, v.v.cell? ⟨bX, oX + j * 3 + 1, none⟩ = some (.string x1) := fun v => cell_midY (HWK.out.trans v.h) HC1.out
         have hkI : (k : Int) < (nU : Int) := by omega
         clear hu c0 c1 c2_ hAU
         have HNX := hid (show ((u0.toList == x0.toList) && (u1.toList == x1.toList)) = false → ∀ k' v, k' < k + 1 → U[k']? = some v → kyE 2 v = kyE 2 [x0, x1, x2] → fd = true from fun hff k' v h1 h2 h3 => by
          rcases Nat.lt_succ_iff_lt_or_eq.1 h1 with h1 | h1
          ·exact HFD.out k' v h1 h2 h3
          ·rw [h1, HU.out] at h2
           injection h2 with h2
           rw [← h2] at h3
           obtain ⟨g1, g2⟩ := ky2.1 h3
           rw [g1, g2] at hff
           cases hff)
         cases t1 : (u0.toList == x0.toList) <;> cases t2 : (u1.toList == x1.toList)
         all_goals rw [t1, t2] at HNX
         all_goals cases fd
         all_goals go_upto_region 35 with fail
         all_goals refine wp_region_ext (by kernel_rfl) (by kernel_rfl) ?_
         all_goals repeat (go_big_quiet_step (fail))
         all_goals refine wpQuiet_nil ?_
         all_goals intro wz hwz
         all_goals have HWZ := hid (HWK.out.trans (ys_ext hwz))
         all_goals clear hwz E12 P12 E0 E1 G0 G1 t1 t2 a12 p12
         all_goals go_wp2
         all_goals first
          | exact ⟨⟨k + 1, true, by omega, rfl, by go_num, fun _ _ _ _ _ => rfl, HWZ.out⟩, by simp [intOf]; omega⟩
          | exact ⟨⟨k + 1, false, by omega, rfl, by go_num, HNX.out rfl, HWZ.out⟩, by simp [intOf]; omega⟩
        ·have hfd2 : fd = true := by
          have hm : y0.e 1 ∈ YL.map (·.e 1) := by rw [HY.out]; exact List.mem_map.2 ⟨y0, List.mem_cons_self .., rfl⟩
          obtain ⟨v, hv, hk⟩ := unit_key hm (List.mem_of_getElem? HX.out)
          rw [← HF5.out] at hv
          obtain ⟨k', hk', hh⟩ := List.getElem_of_mem hv
          refine HFD.out k' v ?_ (by rw [List.getElem?_eq_getElem hk', hh]) hk
          have := HU5.out.len (by decide)
          omega
         subst hfd2
         go_wp2
         exact ⟨⟨j + 1, by omega, by go_num, HWJ.out.trans HWK.out⟩, by simp [intOf]; omega⟩
      ·go_wp2
       go_ret
       exact ⟨by first | rfl | simp | simp [*], HX0.out.trans (HW5.out.trans (HWI.out.trans HWJ.out))⟩
end Go.Proofs.YtljdlkonlnjadaaGreatDoor.lawChainInherits
namespace Go.Proofs.YtljdlkonlnjadaaGreatDoor.lawChainInherits
open Go.ChangeShapes Go.WideShapes Go.ChangeAt Go.RowKit
open Go.ChangeMaps (open_string shut_string)
def laidL : List (String × DataW Unit) := Rows.chainInheritsRow.laid
theorem mx_of {W : World} (h : W.ShapedOpen Tryz.prog) : Mx W := Tryz.laysM146.s1_3 W h
theorem lifted (os : Os) (started : os.Started) (H : Type) (enc : TypeId × Value → H) :
 ReturnsInHanded {} Tryz.checked os 4 .any (fun w args => (Rows.chainInheritsSpec.pre enc Tryz.prog Tryz.f4 [] false w args ∧ laidMetH Tryz.prog laidL w) ∧ sizedMet enc Tryz.prog Tryz.f4 (OpenSpec.ofChange Rows.chainInheritsSpec) false w args)
  (Rows.chainInheritsSpec.post enc Tryz.prog Tryz.f4 false true false false) := by
 refine lifted_and_sized (C := Tryz.checked) (X := fun w _ => laidMetH Tryz.prog laidL w) (fun _ _ _ hh h => h.of_heap hh) own started (by kernel_rfl) Tryz.func4
  (ChangeSpec.witness_shaped (enc := enc) (C := Tryz.checked) (os := os) (X := fun w _ => laidMetH Tryz.prog laidL w) false (World.laidAll Tryz.prog os laidL) #[.agg #[.slice none 0 0, .slice none 0 0, .slice none 0 0], .string ⟨#[]⟩] 8 (World.laidAll_os _ _ _)
   (World.shaped_of_ZipB (by kernel_rfl) (by kernel_rfl)) (by kernel_rfl) (by kernel_rfl) (by kernel_rfl)
   (by rw [MakeChecks.laidMetH_plain _ _ _ (by kernel_rfl)]; exact laidMet_laidAll _ (by kernel_rfl) (by kernel_rfl))) ?_
 intro W base args ds gs before hval0 hW hL hshape hsz0
 have hval : ∀ (j : Nat) t v, Tryz.f4.params[j]? = some t → args[j]? = some v → Value.okWide Tryz.prog W .any base t v := hval0
 have hW' := hW
 obtain ⟨p, q, hA0, hV, rfl, hfz, hnd⟩ := hW
 have hA : DataW.TrodAll enc Tryz.prog W 0 (fun _ => true) true Tryz.f4.params.toList args.toList ds p := hA0
 obtain ⟨rfl, rfl⟩ := trodVars_none hV
 have hsz : ∀ m ∈ DataW.weightsEach Tryz.prog Tryz.f4.params.toList ds, m ≤ reachBytes := fun m hm => hsz0 m (by
  rw [List.append_nil, show Rows.chainInheritsSpec.plain.varTypes Tryz.checked.prog = [] from rfl, List.append_nil]
  exact hm)
 rw [Tryz.params4] at hA hval hsz
 obtain ⟨v0, v1, d0, d1, p0, p1, rfl, rfl, rfl, h0, h1⟩ := trodAll_two hA
 obtain ⟨L, A, N, ln, lc, n, c, m, k, l, al, nl, rfl, hL, hln, hok, hlk, hA1, hn, hz, hN, hm2, hzn⟩ := open_tableK (hval 0 26 v0 rfl rfl) h0 (fun m hm => hsz m (DataW.weights_mem_each (j := 0) rfl rfl m hm))
 obtain ⟨s1, rfl, rfl, rfl, hs1⟩ := open_string Tryz.underlying9 (hval 1 9 v1 rfl rfl) h1
 refine (law l al nl L A N ln lc n c m k s1 W (mx_of hshape) hL hln hok hlk hA1 hn hz hN hm2 hzn hs1).mono fun e W' ⟨he, hw⟩ => ?_
 subst he
 exact ⟨_, rfl, law_post (t := 4) laidOut (by rw [Tryz.params4]; intro t ht; simp at ht; rcases ht with rfl | rfl <;> exact ⟨by kernel_rfl, of_decide_eq_true (by kernel_rfl)⟩) rfl Tryz.underlying4 rfl ⟨rfl, rfl, rfl⟩ hW' hw⟩
end Go.Proofs.YtljdlkonlnjadaaGreatDoor.lawChainInherits
