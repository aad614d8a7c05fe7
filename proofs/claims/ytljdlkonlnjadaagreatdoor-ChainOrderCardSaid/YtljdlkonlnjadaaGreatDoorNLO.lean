import Derived.Test.YtljdlkonlnjadaaGreatDoorYs
import Derived.Test.YtljdlkonlnjadaaGreatDoorNZ7
import Derived.Test.YtljdlkonlnjadaaGreatDoorNZA
import Derived.Deep.RegionHeld3
import Derived.Test.YtljdlkonlnjadaaGreatDoorYn
import Derived.Test.YtljdlkonlnjadaaGreatDoorNXO
import Derived.Test.YtljdlkonlnjadaaGreatDoorAw22
import Derived.Test.YtljdlkonlnjadaaGreatDoorNZ6
import Derived.Test.YtljdlkonlnjadaaGreatDoorNZE
import Derived.Test.YtljdlkonlnjadaaGreatDoorNZF
import Derived.Test.YtljdlkonlnjadaaGreatDoorNX4
import Derived.Test.YtljdlkonlnjadaaGreatDoorShelf
import Derived.Test.YtljdlkonlnjadaaGreatDoorRows
import Derived.Test.YtljdlkonlnjadaaGreatDoorCards
import Derived.Test.YtljdlkonlnjadaaGreatDoorTie
import Derived.Shelf.Vars
set_option maxRecDepth 100000
set_option linter.unusedSimpArgs false
set_option linter.unusedVariables false
open Go.Lib (hid)
namespace Go.Proofs.YtljdlkonlnjadaaGreatDoor
open Go.RowKit
theorem wpOp_stepO {P : Program} {ops : Array Oper} {Q : Exit → Act → World → Prop} {i : Nat} {o : Oper} {K : Act → World → Prop} {a : Act} {w : World} (ho : ops[i]? = some o) (hw : Region.wanted o (yielded ops a.tmps) = true)
 (h : ∀ K' : Act → World → Prop, RowKit.Hid (∀ a w, K a w → K' a w) → Oper.wp P o a w K' Q) : wpOp P ops Q i K a w := by
 unfold wpOp
 rw [ho]
 simp only [hw, if_true]
 exact .inl (h K (hid fun _ _ h => h))
theorem own_oneN (w : World) (cs : Array Value) (e : TypeId) (size : Nat) (h : cs.size = size) : (w.alloc (.cells cs e)).ownsRow w.heap.size e size (.slice (some ⟨w.heap.size, 0, none⟩) 1 1) 1 cs.toList :=
 ⟨by simp [h], .inr ⟨w.heap.size, 1, cs, rfl, Nat.le_refl _, heap_alloc_new w _, Nat.le_refl _, by unfold maxLen; omega, by simp [h], by rw [List.take_of_length_le (by simp [h])]⟩⟩
def RO10 (U tb bL oL i ln lc n0 c0 : Nat) (A0 : Option Addr) (x : Lc) (w' : World) : Prop := w'.cell? ⟨U, 0, none⟩ = some (.slice A0 n0 c0) ∧ w'.cell? ⟨tb, 0, none⟩ = some (.slice (some ⟨bL, oL, none⟩) ln lc) ∧ w'.cell? ⟨bL, oL + i * 16, none⟩ = some (.string x.t) ∧ w'.cell? ⟨bL, oL + i * 16 + 1, none⟩ = some (.string x.p) ∧ w'.cell? ⟨bL, oL + i * 16 + 2, none⟩ = some (.string x.d) ∧ w'.cell? ⟨bL, oL + i * 16 + 3, none⟩ = some (.slice (x.A 0) (x.n 0) (x.c 0)) ∧ w'.cell? ⟨bL, oL + i * 16 + 4, none⟩ = some (.slice (x.A 1) (x.n 1) (x.c 1)) ∧ w'.cell? ⟨bL, oL + i * 16 + 5, none⟩ = some (.string (x.s 0)) ∧ w'.cell? ⟨bL, oL + i * 16 + 6, none⟩ = some (.string (x.s 1)) ∧ w'.cell? ⟨bL, oL + i * 16 + 7, none⟩ = some (.string (x.s 2)) ∧ w'.cell? ⟨bL, oL + i * 16 + 8, none⟩ = some (.string (x.s 3)) ∧ w'.cell? ⟨bL, oL + i * 16 + 9, none⟩ = some (.int .i64 (x.i 0)) ∧ w'.cell? ⟨bL, oL + i * 16 + 10, none⟩ = some (.int .i64 (x.i 1)) ∧ w'.cell? ⟨bL, oL + i * 16 + 11, none⟩ = some (.slice (x.A 2) (x.n 2) (x.c 2)) ∧ w'.cell? ⟨bL, oL + i * 16 + 12, none⟩ = some (.slice (x.A 3) (x.n 3) (x.c 3)) ∧ w'.cell? ⟨bL, oL + i * 16 + 13, none⟩ = some (.slice (x.A 4) (x.n 4) (x.c 4)) ∧ w'.cell? ⟨bL, oL + i * 16 + 14, none⟩ = some (.slice (x.A 5) (x.n 5) (x.c 5)) ∧ w'.cell? ⟨bL, oL + i * 16 + 15, none⟩ = some (.slice (x.A 6) (x.n 6) (x.c 6))
noncomputable def regO10 : Code := ((Tryz.f5).body.bind (regOf 10)).getD .skip
set_option maxHeartbeats 4000000 in
theorem oreg10 {u0 u1 u3 u4 u7 u8 u9 u10 u11 u12 u13 u14 u15 u16 u17 u18 u19 u20 u21 u22 u23 u24 u25 u26 u27 u28 u29 u30 u31 u32 u33 u34 u35 u36 u37 u38 u39 u40 u41 u42 u43 u44 u45 u46 u47 u48 u49 u50 u51 u52 u53 u54 u55 u56 u57 u58 u59 u60 u61 u62 u63 u64 u65 u66 u67 u68 u69 u70 u71 u72 u73 u74 u75 u76 u77 u78 u79 u80 u81 u82 u83 u84 u85 u86 u87 u88 u89 u90 u91 u92 u93 u94 u95 u96 u97 u98 u99 u100 u101 u102 u103 u104 u105 u106 u107 u108 u109 u110 u111 u112 u113 u114 u115 u116 u117 u118 u119 u120 u121 u122 u123 u124 u125 y1 y2 : Value} {U tb bL oL i ln lc n0 c0 B : Nat} {A0 : Option Addr} {x : Lc} {xs : List Value} {w : World} {Q : Exit → Act → World → Prop} {C : Code} (hC : C = regO10) (hi : i < ln)
 (hU : AtC 26 w U #[.slice A0 n0 c0, y1, y2]) (htb : w.cell? ⟨tb, 0, none⟩ = some (.slice (some ⟨bL, oL, none⟩) ln lc)) (hx : ∀ j u, (lcC x)[j]? = some u → w.cell? ⟨bL, oL + i * 16 + j, none⟩ = some u)
 (hown : w.ownsRow B 37 16 (.slice A0 n0 c0) n0 xs) (hUB : U < B) (hB : B ≤ w.heap.size) (hn : n0 ≤ 100)
 (hQ : ∀ v50 v51 v52 v53 v54 v55 v56 v57 v58 v59 A' c' wx, wx.ownsRow B 37 16 (.slice A' (n0 + 1) c') (n0 + 1) (xs ++ lcC x) → AtC 26 wx U #[.slice A' (n0 + 1) c', y1, y2] → Below U w wx → Q .normal ⟨#[u0, u1, .pointer (some ⟨tb, 0, none⟩), u3, u4, .pointer (some ⟨U, 0, none⟩), .int .i64 i, u7, u8, u9, u10, u11, u12, u13, u14, u15, u16, u17, u18, u19, u20, u21, u22, u23, u24, u25, u26, u27, u28, u29, u30, u31, u32, u33, u34, u35, u36, u37, u38, u39, u40, u41, u42, u43, u44, u45, u46, u47, u48, u49, v50, v51, v52, v53, v54, v55, v56, v57, v58, v59, u60, u61, u62, u63, u64, u65, u66, u67, u68, u69, u70, u71, u72, u73, u74, u75, u76, u77, u78, u79, u80, u81, u82, u83, u84, u85, u86, u87, u88, u89, u90, u91, u92, u93, u94, u95, u96, u97, u98, u99, u100, u101, u102, u103, u104, u105, u106, u107, u108, u109, u110, u111, u112, u113, u114, u115, u116, u117, u118, u119, u120, u121, u122, u123, u124, u125], []⟩ wx) :
 Code.wp Tryz.prog C Q ⟨#[u0, u1, .pointer (some ⟨tb, 0, none⟩), u3, u4, .pointer (some ⟨U, 0, none⟩), .int .i64 i, u7, u8, u9, u10, u11, u12, u13, u14, u15, u16, u17, u18, u19, u20, u21, u22, u23, u24, u25, u26, u27, u28, u29, u30, u31, u32, u33, u34, u35, u36, u37, u38, u39, u40, u41, u42, u43, u44, u45, u46, u47, u48, u49, u50, u51, u52, u53, u54, u55, u56, u57, u58, u59, u60, u61, u62, u63, u64, u65, u66, u67, u68, u69, u70, u71, u72, u73, u74, u75, u76, u77, u78, u79, u80, u81, u82, u83, u84, u85, u86, u87, u88, u89, u90, u91, u92, u93, u94, u95, u96, u97, u98, u99, u100, u101, u102, u103, u104, u105, u106, u107, u108, u109, u110, u111, u112, u113, u114, u115, u116, u117, u118, u119, u120, u121, u122, u123, u124, u125], []⟩ w := by
 obtain ⟨i0, hi0, hz0, hz1, hz2⟩ := info_parts (show (Tryz.prog.info? 37).map (fun i => (i.zero, i.size, i.bytes)) = some (some (.agg #[.string ⟨#[]⟩, .string ⟨#[]⟩, .string ⟨#[]⟩, .slice none 0 0, .slice none 0 0, .string ⟨#[]⟩, .string ⟨#[]⟩, .string ⟨#[]⟩, .string ⟨#[]⟩, .int .i64 0, .int .i64 0, .slice none 0 0, .slice none 0 0, .slice none 0 0, .slice none 0 0, .slice none 0 0]), 16, 296) from by kernel_rfl)
 subst hC
 conv => arg 2; whnf
 have hiI : (i : Int) < (ln : Int) := by omega
 have HQ := hid hQ
 have hx0 := hx 0 _ rfl
 rw [Nat.add_zero] at hx0
 have HSX := hid (show ∀ W, Ext w W → RO10 U tb bL oL i ln lc n0 c0 A0 x W from fun W h => ⟨(hU.ext h).cell 0 _ rfl, cell_midY h htb, cell_midY h hx0, cell_midY h (hx 1 _ rfl), cell_midY h (hx 2 _ rfl), cell_midY h (hx 3 _ rfl), cell_midY h (hx 4 _ rfl), cell_midY h (hx 5 _ rfl), cell_midY h (hx 6 _ rfl), cell_midY h (hx 7 _ rfl), cell_midY h (hx 8 _ rfl), cell_midY h (hx 9 _ rfl), cell_midY h (hx 10 _ rfl), cell_midY h (hx 11 _ rfl), cell_midY h (hx 12 _ rfl), cell_midY h (hx 13 _ rfl), cell_midY h (hx 14 _ rfl), cell_midY h (hx 15 _ rfl)⟩)
 have HUX := hid (fun W (h : Ext w W) => hU.ext h)
 have HOW := hid hown
 have HX0 := hid (show Ext w w.drew from (Ext.refl w).drew)
 have HONE := hid (show ∀ u ∈ lcC x, u.oneCell' = true from fun u hu => by
  simp [lcC] at hu
  rcases hu with rfl | rfl | rfl | rfl | rfl | rfl | rfl | rfl | rfl | rfl | rfl | rfl | rfl | rfl | rfl | rfl <;> rfl)
 clear hQ hU htb hx hx0 hown
 refine wp_region_noPanic ?_
 refine wp_region_T (n := 8) (S := RO10 U tb bL oL i ln lc n0 c0 A0 x) (by kernel_rfl) ?_
 have hS := HSX.out _ HX0.out
 refine wpAnyT_take (i := 0) (v := .pointer (some ⟨U, 0, none⟩)) rfl (by kernel_rfl) (by kernel_rfl) (by kernel_rfl) (fun _ _ _ h => h) hS (Or.inl ⟨by rfl, ?_⟩) ?_
 ·intro w1 hSw
  unfold RO10 at hSw
  go_split_ands
  go_simp
 simp only [Act.put, List.setIfInBounds_toArray, List.set_cons_zero, List.set_cons_succ]
 refine wpAnyT_take (i := 1) (v := .slice A0 n0 c0) rfl (by kernel_rfl) (by kernel_rfl) (by kernel_rfl) (fun _ _ _ h => h) hS (Or.inl ⟨by rfl, ?_⟩) ?_
 ·intro w1 hSw
  unfold RO10 at hSw
  go_split_ands
  go_simp
 simp only [Act.put, List.setIfInBounds_toArray, List.set_cons_zero, List.set_cons_succ]
 refine wpAnyT_take (i := 2) (v := .pointer (some ⟨tb, 0, none⟩)) rfl (by kernel_rfl) (by kernel_rfl) (by kernel_rfl) (fun _ _ _ h => h) hS (Or.inl ⟨by rfl, ?_⟩) ?_
 ·intro w1 hSw
  unfold RO10 at hSw
  go_split_ands
  go_simp
 simp only [Act.put, List.setIfInBounds_toArray, List.set_cons_zero, List.set_cons_succ]
 refine wpAnyT_take (i := 3) (v := .slice (some ⟨bL, oL, none⟩) ln lc) rfl (by kernel_rfl) (by kernel_rfl) (by kernel_rfl) (fun _ _ _ h => h) hS (Or.inl ⟨by rfl, ?_⟩) ?_
 ·intro w1 hSw
  unfold RO10 at hSw
  go_split_ands
  go_simp
 simp only [Act.put, List.setIfInBounds_toArray, List.set_cons_zero, List.set_cons_succ]
 refine wpAnyT_take (i := 4) (v := .int .i64 i) rfl (by kernel_rfl) (by kernel_rfl) (by kernel_rfl) (fun _ _ _ h => h) hS (Or.inl ⟨by rfl, ?_⟩) ?_
 ·intro w1 hSw
  unfold RO10 at hSw
  go_split_ands
  go_simp
 simp only [Act.put, List.setIfInBounds_toArray, List.set_cons_zero, List.set_cons_succ]
 refine wpAnyT_take (i := 5) (v := .pointer (some ⟨bL, oL + i * 16, none⟩)) rfl (by kernel_rfl) (by kernel_rfl) (by kernel_rfl) (fun _ _ _ h => h) hS (Or.inl ⟨by rfl, ?_⟩) ?_
 ·intro w1 hSw
  unfold RO10 at hSw
  go_split_ands
  go_simp
 simp only [Act.put, List.setIfInBounds_toArray, List.set_cons_zero, List.set_cons_succ]
 refine wpAnyT_take (i := 6) (v := .agg #[.string x.t, .string x.p, .string x.d, .slice (x.A 0) (x.n 0) (x.c 0), .slice (x.A 1) (x.n 1) (x.c 1), .string (x.s 0), .string (x.s 1), .string (x.s 2), .string (x.s 3), .int .i64 (x.i 0), .int .i64 (x.i 1), .slice (x.A 2) (x.n 2) (x.c 2), .slice (x.A 3) (x.n 3) (x.c 3), .slice (x.A 4) (x.n 4) (x.c 4), .slice (x.A 5) (x.n 5) (x.c 5), .slice (x.A 6) (x.n 6) (x.c 6)]) rfl (by kernel_rfl) (by kernel_rfl) (by kernel_rfl) (fun _ _ _ h => h) hS (Or.inl ⟨by rfl, ?_⟩) ?_
 ·intro w1 hSw
  unfold RO10 at hSw
  go_split_ands
  go_simp
 simp only [Act.put, List.setIfInBounds_toArray, List.set_cons_zero, List.set_cons_succ]
 refine wpAnyT_all (rs := [7]) (by kernel_rfl) (by simp) ?_
 intro i_ hi_
 rw [List.mem_singleton] at hi_
 subst hi_
 refine wpOp_stepO rfl (by rfl) fun K' hK' => ?_
 go_simp
 have HX1 := hid (HX0.out.alloc (.cells #[.string x.t, .string x.p, .string x.d, .slice (x.A 0) (x.n 0) (x.c 0), .slice (x.A 1) (x.n 1) (x.c 1), .string (x.s 0), .string (x.s 1), .string (x.s 2), .string (x.s 3), .int .i64 (x.i 0), .int .i64 (x.i 1), .slice (x.A 2) (x.n 2) (x.c 2), .slice (x.A 3) (x.n 3) (x.c 3), .slice (x.A 4) (x.n 4) (x.c 4), .slice (x.A 5) (x.n 5) (x.c 5), .slice (x.A 6) (x.n 6) (x.c 6)] 37))
 refine hK'.out _ _ ⟨fun _ => HSX.out _ HX1.out, ?_⟩
 clear hK'
 try simp only [Act.put, List.setIfInBounds_toArray, List.set_cons_zero, List.set_cons_succ]
 refine wpAnyT_all (rs := [8]) (by kernel_rfl) (by simp) ?_
 intro i_ hi_
 rw [List.mem_singleton] at hi_
 subst hi_
 refine wpOp_stepO rfl (by rfl) fun K' hK' => ?_
 refine wp_appN _ _ _ 22 rfl B 37 i0 _ 16 296 Tryz.underlying22 hi0 hz0 hz1 hz2 rfl (by decide) _ n0 xs rfl (HOW.out.drew.alloc (.cells #[.string x.t, .string x.p, .string x.d, .slice (x.A 0) (x.n 0) (x.c 0), .slice (x.A 1) (x.n 1) (x.c 1), .string (x.s 0), .string (x.s 1), .string (x.s 2), .string (x.s 3), .int .i64 (x.i 0), .int .i64 (x.i 1), .slice (x.A 2) (x.n 2) (x.c 2), .slice (x.A 3) (x.n 3) (x.c 3), .slice (x.A 4) (x.n 4) (x.c 4), .slice (x.A 5) (x.n 5) (x.c 5), .slice (x.A 6) (x.n 6) (x.c 6)] 37)) _ 1 _ (lcC x) rfl (slN_newY _ _ _ 1 16 rfl) HONE.out (by unfold maxLen; omega) (by omega) (by simp; omega) ?_
 intro v' w6 hown6 hgrow6
 obtain ⟨A', c', rfl, _⟩ := own_slN hown6
 refine hK'.out _ _ ⟨fun h => absurd h (by decide), ?_⟩
 clear hK'
 try simp only [Act.put, List.setIfInBounds_toArray, List.set_cons_zero, List.set_cons_succ]
 simp only [List.getElem_toArray, List.getElem_cons_succ, List.getElem_cons_zero, Act.put, List.setIfInBounds_toArray, List.set_cons_zero, List.set_cons_succ]
 have HO6 := hid hown6
 have HB6 := hid (show Below U w w6 from by
  have h := Below.mono HX1.out (show U ≤ w.heap.size by omega)
  exact h.grown hgrow6 (by simp; omega) fun q hq => Nat.le_trans (Nat.le_of_lt hUB) (HOW.out.lt q hq).1)
 have HU6 := hid (show AtC 26 w6 U #[.slice A0 n0 c0, y1, y2] from by
  have h := HUX.out _ HX1.out
  exact (hgrow6.block U h.lt (fun e => by have := (HOW.out.lt U e.symm).1; omega)).trans h)
 clear hown6 hgrow6
 refine wpAnyT_all (rs := [9]) (by kernel_rfl) (by simp) ?_
 intro i_ hi_
 rw [List.mem_singleton] at hi_
 subst hi_
 refine wpOp_stepO rfl (by rfl) fun K' hK' => ?_
 go_simp
 refine hK'.out _ _ ⟨fun h => absurd h (by decide), ?_⟩
 clear hK'
 try simp only [Act.put, List.setIfInBounds_toArray, List.set_cons_zero, List.set_cons_succ]
 have q0 := HU6.out.cell 0 _ rfl
 have f0 := frz_of HU6.out 0
 refine wpAnyT_all (rs := [10]) (by kernel_rfl) (by simp) ?_
 intro i_ hi_
 rw [List.mem_singleton] at hi_
 subst hi_
 refine wpOp_stepO rfl (by rfl) fun K' hK' => ?_
 go_simp
 refine hK'.out _ _ ⟨fun h => absurd h (by decide), ?_⟩
 clear hK'
 try simp only [Act.put, List.setIfInBounds_toArray, List.set_cons_zero, List.set_cons_succ]
 refine ⟨by kernel_rfl, ?_⟩
 show Q _ _ _
 exact HQ.out _ _ _ _ _ _ _ _ _ _ A' c' _ (ownsRow_setCell_below HO6.out (a := ⟨U, 0, none⟩) (by show U < B; exact hUB) _) (heap_setCell_same w6 U 0 _ _ _ HU6.out) (HB6.out.setCell (p := ⟨U, 0, none⟩) (Nat.le_refl _) _)
end Go.Proofs.YtljdlkonlnjadaaGreatDoor
namespace Go.Proofs.YtljdlkonlnjadaaGreatDoor
open Go.RowKit
theorem turn_getD {α : Type} {l : List α} {i : Nat} (d : α) (h : i < l.length) : (turnL l).getD (turnI l.length i) d = l.getD i d := by
 rw [List.getD_eq_getElem?_getD, List.getD_eq_getElem?_getD, turn_at h]
theorem effX_turn {l : List Lk} {T : List LocP} {al : List Ali} {s : BytesC} (hT : T.length = l.length) : effX (turnL l) (turnL T) al s = effX l T al s := by
 unfold effX
 rw [locs_turn, List.map_map]
 refine List.map_congr_left fun i hi => ?_
 have hlt := locs_lt i hi
 show lkP ((turnL l).getD (turnI T.length i) lk0) = lkP (l.getD i lk0)
 rw [hT, turn_getD _ (by omega)]
def OrI (w3 : World) (U : Nat) (x0 : Lc) (R : List Lc) (ln : Nat) (y1 y2 : Value) (j : Value) (wr : World) : Prop :=
 ∃ (k i : Nat) (A' : Option Addr) (c' : Nat), k + i + 1 = ln ∧ j = .int .i64 i ∧ AtC 26 wr U #[.slice A' (k + 1) c', y1, y2] ∧
   wr.ownsRow (U + 1) 37 16 (.slice A' (k + 1) c') (k + 1) ((x0 :: R.reverse.take k).flatMap lcC) ∧ Ext w3 wr
theorem or_next {x0 x : Lc} {R : List Lc} {k i : Nat} (hi : 0 < i) (hk : k + i = R.length) (hx : (x0 :: R)[i]? = some x) : (x0 :: R.reverse.take k).flatMap lcC ++ lcC x = (x0 :: R.reverse.take (k + 1)).flatMap lcC := by
 have h1 : R.reverse[k]? = some x := by
  rw [List.getElem?_reverse (by omega)]
  obtain ⟨j, rfl⟩ : ∃ j, i = j + 1 := ⟨i - 1, by omega⟩
  rw [List.getElem?_cons_succ] at hx
  rw [show R.length - 1 - k = j by omega]
  exact hx
 rw [take_nextY h1, ← List.cons_append, List.flatMap_append, List.flatMap_singleton]
end Go.Proofs.YtljdlkonlnjadaaGreatDoor
namespace Go.Proofs.YtljdlkonlnjadaaGreatDoor.lawChainOrder
open Go.ChangeShapes Go.WideShapes Go.ChangeAt Go.RowKit
open Go.ChangeMaps (open_string shut_string)
theorem neg_det {P : Program} {f : FuncId} {args : Array Value} {W : World} {rb : ByteArray} {e : Int} (h : Calls P f args W (RetNeg W (rb.data.toList, e))) : Calls P f args W fun e' W' => e' = .returned (.tuple #[.string rb, .int .i64 e]) ∧ Ext W W' := by
 refine h.mono ?_
 rintro e' W' ⟨b, he, hb, hw⟩
 have hb2 : b = rb := ByteArray.ext (Array.toList_inj.1 hb)
 subst hb2
 exact ⟨he, hw⟩
theorem tags_maxO {w : World} {A : Option Addr} {n : Nat} {r : List BytesC} (h : Sl w A n (r.map strv)) (hr : r.length ≤ 100000) : n ≤ maxLen := by
 have h1 := h.1
 rw [List.length_map] at h1
 unfold maxLen
 omega
theorem of_lenO {T : List LocP} {al : List Ali} {s : BytesC} : (ofC T al s).1.length ≤ T.length := by
 unfold ofC
 rw [List.length_map]
 exact locs_len
theorem sl_oneO (w : World) (s : ByteArray) : Sl (w.alloc (.cells #[.string s] 9)) (some ⟨w.heap.size, 0, none⟩) 1 ([s].map .string) :=
 ⟨rfl, fun j u hu => by
  match j, hu with
  | 0, hu => exact ⟨⟨w.heap.size, 0, none⟩, rfl, by simp, by rw [add_none]; exact (AtC.new w #[.string s] : AtC 9 _ _ _).cell 0 _ (by simpa using hu)⟩⟩
set_option maxHeartbeats 8000000 in
theorem law (l : List Lk) (al : List Ali) (nl : List Nr) (L A N : Option Addr) (ln lc n c m d : Nat) (s : ByteArray) (w : World) (hm : Mx w) (hL : Lcs w L ln (l.map (·.x))) (hln : ln ≤ maxLen) (hok : ∀ x ∈ l.map (·.x), lcOK x) (hlk : ∀ y ∈ l, LkM (fun _ => True) w y) (hA : Als w A n al) (hn : n ≤ maxLen) (hz : ∀ a ∈ al, a.1.size ≤ reachBytes ∧ a.2.size ≤ reachBytes) (hN : Nrs w N m nl) (hmm : m ≤ maxLen) (hzn : ∀ a ∈ nl, a.f.size ≤ reachBytes ∧ a.o.size ≤ reachBytes) (hs : s.size ≤ maxLen) :
 Calls Tryz.prog 5 #[.agg #[.slice L ln lc, .slice A n c, .slice N m d], .string s] w (RetTrue w) := by
 have HLK := hid (fun y (hy : y ∈ l) => (hlk y hy).ext ((Ext.refl w).alloc (.cells #[.slice L ln lc, .slice A n c, .slice N m d] 26)))
 clear hlk
 have HX0 := hid ((Ext.refl w).alloc (.cells #[.slice L ln lc, .slice A n c, .slice N m d] 26))
 have HL := hid (hL.ext HX0.out)
 have hm0 := hid (hm.ext HX0.out)
 have HA := hid (hA.ext HX0.out)
 have HN := hid (hN.ext HX0.out)
 have KB := hid (AtC.new w #[.slice L ln lc, .slice A n c, .slice N m d] : AtC 26 _ _ _)
 have x0 := KB.out.cell 0 _ rfl
 have x1 := KB.out.cell 1 _ rfl
 have x2 := KB.out.cell 2 _ rfl
 have hf1 := fun W (h : Ext (w.alloc (.cells #[.slice L ln lc, .slice A n c, .slice N m d] 26)) W) => few22_any (l.map (·.x)) al nl L A N ln lc n c m d W (HL.out.ext h) hln hok (HA.out.ext h) hn hz (HN.out.ext h) hmm hzn
 clear hL hA hN
 cases q0 : fewC (l.map (·.x)) al nl with
 | false =>
  rw [q0] at hf1
  have HF1 := hid hf1
  clear q0 hf1
  go_enter Tryz.func5, Tryz.ntmps5
  go_wp2_with fail
  refine (awake_any _ (hm0.out.ext (Ext.refl _))).mono ?_
  rintro e w1 ⟨rfl, hw1⟩
  have HW1 := hid ((Ext.refl _).trans hw1)
  clear x0 x1 x2
  have x0 := (KB.out.ext HW1.out).cell 0 _ rfl
  have x1 := (KB.out.ext HW1.out).cell 1 _ rfl
  have x2 := (KB.out.ext HW1.out).cell 2 _ rfl
  clear hw1
  go_wp2_with fail
  refine (HF1.out _ HW1.out).mono ?_
  rintro e w2 ⟨rfl, hw2⟩
  have HW2 := hid (HW1.out.trans hw2)
  clear x0 x1 x2
  have x0 := (KB.out.ext HW2.out).cell 0 _ rfl
  have x1 := (KB.out.ext HW2.out).cell 1 _ rfl
  have x2 := (KB.out.ext HW2.out).cell 2 _ rfl
  clear hw2
  go_wp2_with fail
  refine (awake_any _ (hm0.out.ext HW2.out)).mono ?_
  rintro e w3 ⟨rfl, hw3⟩
  have HW3 := hid (HW2.out.trans hw3)
  clear x0 x1 x2
  have x0 := (KB.out.ext HW3.out).cell 0 _ rfl
  have x1 := (KB.out.ext HW3.out).cell 1 _ rfl
  have x2 := (KB.out.ext HW3.out).cell 2 _ rfl
  clear hw3
  go_wp2
  go_ret
  exact ⟨rfl, HX0.out.trans HW3.out⟩
 | true =>
  obtain ⟨g1, g2, g3, g4, g5⟩ := fewC_len q0
  have hl12 : ln ≤ 12 := by have := HL.out.len; omega
  have hn12 : n ≤ 12 := by have := HA.out.len; omega
  have hm30 : m ≤ 30 := by have := HN.out.len; omega
  have HZ1 := hid (show ∀ a ∈ al, a.1.size ≤ 60000 ∧ a.2.size ≤ 60000 from fun a ha => by have := g4 a ha; omega)
  have HZ2 := hid (show ∀ x ∈ l.map (·.x), x.t.size ≤ 60000 from fun x hx => by have := g2 x hx; omega)
  have HZ3 := hid (show ∀ x ∈ nl, x.f.size ≤ 1000000 ∧ x.o.size ≤ 1000000 from fun x hx => by have := g5 x hx; omega)
  have HSEC := hid (show ∀ y ∈ l, ∀ j, j < 7 → y.x.n j ≤ 120 from fun y hy j hj => by
   have h := (g2 y.x (List.mem_map.2 ⟨y, hy, rfl⟩)).2
   match j, hj with
   | 0, _ => omega
   | 1, _ => omega
   | 2, _ => omega
   | 3, _ => omega
   | 4, _ => omega
   | 5, _ => omega
   | 6, _ => omega)
  have HZK := hid (show ∀ y ∈ l, y.x.t.size ≤ 60000 from fun y hy => by have := g2 y.x (List.mem_map.2 ⟨y, hy, rfl⟩); omega)
  clear g1 g2 g3 g4 g5
  rw [q0] at hf1
  have HF1 := hid hf1
  clear q0 hf1
  by_cases h100 : s.size ≤ 100
  rotate_left
  ·have u100 : decide ((100 : Int) < (s.size : Int)) = true := by simp; omega
   go_enter Tryz.func5, Tryz.ntmps5
   go_wp2_with fail
   refine (awake_any _ (hm0.out.ext (Ext.refl _))).mono ?_
   rintro e w1 ⟨rfl, hw1⟩
   have HW1 := hid ((Ext.refl _).trans hw1)
   clear x0 x1 x2
   have x0 := (KB.out.ext HW1.out).cell 0 _ rfl
   have x1 := (KB.out.ext HW1.out).cell 1 _ rfl
   have x2 := (KB.out.ext HW1.out).cell 2 _ rfl
   clear hw1
   go_wp2_with fail
   refine (HF1.out _ HW1.out).mono ?_
   rintro e w2 ⟨rfl, hw2⟩
   have HW2 := hid (HW1.out.trans hw2)
   clear x0 x1 x2
   have x0 := (KB.out.ext HW2.out).cell 0 _ rfl
   have x1 := (KB.out.ext HW2.out).cell 1 _ rfl
   have x2 := (KB.out.ext HW2.out).cell 2 _ rfl
   clear hw2
   go_wp2_with fail
   refine (awake_any _ (hm0.out.ext HW2.out)).mono ?_
   rintro e w3 ⟨rfl, hw3⟩
   have HW3 := hid (HW2.out.trans hw3)
   clear x0 x1 x2
   have x0 := (KB.out.ext HW3.out).cell 0 _ rfl
   have x1 := (KB.out.ext HW3.out).cell 1 _ rfl
   have x2 := (KB.out.ext HW3.out).cell 2 _ rfl
   clear hw3
   go_wp2
   go_ret
   exact ⟨rfl, HX0.out.trans HW3.out⟩
  have u100 : decide ((100 : Int) < (s.size : Int)) = false := by simp; omega
  have hs60 : s.size ≤ 60000 := by omega
  have hus := fun W (h : Ext (w.alloc (.cells #[.slice L ln lc, .slice A n c, .slice N m d] 26)) W) => rusable_any (l.map (·.x)) al L A N ln lc n c m d W (HL.out.ext h) (by omega) (HA.out.ext h) (by omega) HZ1.out HZ2.out
  cases q1 : usableC ((l.map (·.x)).map locOf) al with
  | false =>
   rw [q1] at hus
   have HUS := hid hus
   clear q1 hus
   go_enter Tryz.func5, Tryz.ntmps5
   go_wp2_with fail
   refine (awake_any _ (hm0.out.ext (Ext.refl _))).mono ?_
   rintro e w1 ⟨rfl, hw1⟩
   have HW1 := hid ((Ext.refl _).trans hw1)
   clear x0 x1 x2
   have x0 := (KB.out.ext HW1.out).cell 0 _ rfl
   have x1 := (KB.out.ext HW1.out).cell 1 _ rfl
   have x2 := (KB.out.ext HW1.out).cell 2 _ rfl
   clear hw1
   go_wp2_with fail
   refine (HF1.out _ HW1.out).mono ?_
   rintro e w2 ⟨rfl, hw2⟩
   have HW2 := hid (HW1.out.trans hw2)
   clear x0 x1 x2
   have x0 := (KB.out.ext HW2.out).cell 0 _ rfl
   have x1 := (KB.out.ext HW2.out).cell 1 _ rfl
   have x2 := (KB.out.ext HW2.out).cell 2 _ rfl
   clear hw2
   go_wp2_with fail
   refine (HUS.out _ HW2.out).mono ?_
   rintro e w3 ⟨rfl, hw3⟩
   have HW3 := hid (HW2.out.trans hw3)
   clear x0 x1 x2
   have x0 := (KB.out.ext HW3.out).cell 0 _ rfl
   have x1 := (KB.out.ext HW3.out).cell 1 _ rfl
   have x2 := (KB.out.ext HW3.out).cell 2 _ rfl
   clear hw3
   go_wp2_with fail
   refine (awake_any _ (hm0.out.ext HW3.out)).mono ?_
   rintro e w4 ⟨rfl, hw4⟩
   have HW4 := hid (HW3.out.trans hw4)
   clear x0 x1 x2
   have x0 := (KB.out.ext HW4.out).cell 0 _ rfl
   have x1 := (KB.out.ext HW4.out).cell 1 _ rfl
   have x2 := (KB.out.ext HW4.out).cell 2 _ rfl
   clear hw4
   go_wp2
   go_ret
   exact ⟨rfl, HX0.out.trans HW4.out⟩
  | true =>
   have hne : l ≠ [] := by
    obtain ⟨h1, _⟩ := usable_ok q1
    rintro rfl
    exact h1 rfl
   rw [q1] at hus
   have HUS := hid hus
   clear q1 hus
   obtain ⟨yz, Y, hY⟩ : ∃ y Y, l = y :: Y := by
    cases l with
    | nil => exact absurd rfl hne
    | cons y Y => exact ⟨y, Y, rfl⟩
   have HY := hid hY
   clear hY hne
   have k1 := fun W (h : Ext (w.alloc (.cells #[.slice L ln lc, .slice A n c, .slice N m d] 26)) W) => tof_any (l.map (·.x)) al L A N ln lc n c m d s W (hm0.out.ext h) (HL.out.ext h) (by omega) (HA.out.ext h) (by omega) HZ1.out HZ2.out hs60
   have k3 := fun W (h : Ext (w.alloc (.cells #[.slice L ln lc, .slice A n c, .slice N m d] 26)) W) => teff_any l al L A N ln lc n c m d s W (hm0.out.ext h) (HL.out.ext h) (by omega) (fun y hy => (HLK.out y hy).ext h) HSEC.out (HA.out.ext h) (by omega) HZ1.out HZK.out hs60
   have k5 := fun W (h : Ext (w.alloc (.cells #[.slice L ln lc, .slice A n c, .slice N m d] 26)) W) (E : Option Addr) (ec : Nat) (hE : Sl W E 1 ([s].map .string)) => tneg_any (l.map (·.x)) al nl L A N ln lc n c m d [s] E 1 ec W (hm0.out.ext h) (HL.out.ext h) (by omega) (HA.out.ext h) (by omega) HZ1.out HZ2.out (HN.out.ext h) hmm HZ3.out hE (by omega) (fun x hx => by rw [List.mem_singleton] at hx; rw [hx]; exact hs60)
   have HT2 := hid (show ∀ x ∈ (turnL l).map (·.x), x.t.size ≤ 60000 from fun x hx => by
    obtain ⟨y, hy, rfl⟩ := List.mem_map.1 hx
    exact HZK.out y ((turn_perm l).mem_iff.1 hy))
   have k2 := fun (A' : Option Addr) (c' : Nat) W (h : Ext (w.alloc (.cells #[.slice L ln lc, .slice A n c, .slice N m d] 26)) W) (hU : Lcs W A' ln ((turnL l).map (·.x))) => tof_any ((turnL l).map (·.x)) al A' A N ln c' n c m d s W (hm0.out.ext h) hU (by omega) (HA.out.ext h) (by omega) HZ1.out HT2.out hs60
   have k4 := fun (A' : Option Addr) (c' : Nat) W (h : Ext (w.alloc (.cells #[.slice L ln lc, .slice A n c, .slice N m d] 26)) W) (hU : Lcs W A' ln ((turnL l).map (·.x))) => teff_any (turnL l) al A' A N ln c' n c m d s W (hm0.out.ext h) hU (by omega) (fun y hy => (HLK.out y ((turn_perm l).mem_iff.1 hy)).ext h) (fun y hy => HSEC.out y ((turn_perm l).mem_iff.1 hy)) (HA.out.ext h) (by omega) HZ1.out (fun y hy => HZK.out y ((turn_perm l).mem_iff.1 hy)) hs60
   have k6 := fun (A' : Option Addr) (c' : Nat) W (h : Ext (w.alloc (.cells #[.slice L ln lc, .slice A n c, .slice N m d] 26)) W) (hU : Lcs W A' ln ((turnL l).map (·.x))) (E : Option Addr) (ec : Nat) (hE : Sl W E 1 ([s].map .string)) => tneg_any ((turnL l).map (·.x)) al nl A' A N ln c' n c m d [s] E 1 ec W (hm0.out.ext h) hU (by omega) (HA.out.ext h) (by omega) HZ1.out HT2.out (HN.out.ext h) hmm HZ3.out hE (by omega) (fun x hx => by rw [List.mem_singleton] at hx; rw [hx]; exact hs60)
   have hlen := effX_len (T := (l.map (·.x)).map locOf) (al := al) (s := s.data.toList) HLK.out HSEC.out (by rw [List.length_map, List.length_map]) (by have := HL.out.len; rw [List.length_map] at this; omega)
   rw [show ((turnL l).map (·.x)).map locOf = turnL ((l.map (·.x)).map locOf) from by rw [← turn_map, ← turn_map]] at k2 k4 k6
   rw [of_turn] at k2
   rw [neg_turn] at k6
   rw [effX_turn (by rw [List.length_map, List.length_map]), locs_turn] at k4
   have hkl := of_lenO (T := (l.map (·.x)).map locOf) (al := al) (s := s.data.toList)
   rw [List.length_map, HL.out.len] at hkl
   generalize ofC ((l.map (·.x)).map locOf) al s.data.toList = D at k1 k2 hkl
   generalize effX l ((l.map (·.x)).map locOf) al s.data.toList = EX at k3 k4 hlen
   simp only at k4
   generalize (locsC ((l.map (·.x)).map locOf) al s.data.toList).2 = er at k3 k4
   generalize negC ((l.map (·.x)).map locOf) al (nl.map nearOf) (dl [s]) = G at k5 k6
   obtain ⟨r, e⟩ := D
   obtain ⟨gr, ge⟩ := G
   obtain ⟨gb, hgb⟩ : ∃ gb : ByteArray, gb.data.toList = gr := ⟨⟨gr.toArray⟩, by simp⟩
   subst hgb
   have HKL := hid (show r.length ≤ 100000 from by simp only at hkl; omega)
   have HLEN := hid hlen
   have K1 := hid k1
   have K2 := hid k2
   have K3 := hid k3
   have K4 := hid k4
   have K5 := hid (fun W h E ec hE => neg_det (k5 W h E ec hE))
   have K6 := hid (fun A' c' W h hU E ec hE => neg_det (k6 A' c' W h hU E ec hE))
   have KS := hid (fun (W : World) (A1 A2 : Option Addr) (n1 n2 c1 c2 : Nat) (h1 : Sl W A1 n1 (r.map strv)) (h2 : Sl W A2 n2 (r.map strv)) (g1 : n1 ≤ maxLen) (g2 : n2 ≤ maxLen) => samestr_any r r A1 A2 n1 n2 c1 c2 W h1 h2 g1 g2)
   clear k1 k2 k3 k4 k5 k6 hlen hkl
   go_enter Tryz.func5, Tryz.ntmps5
   go_wp2_with fail
   refine (awake_any _ (hm0.out.ext (Ext.refl _))).mono ?_
   rintro e w1 ⟨rfl, hw1⟩
   have HW1 := hid ((Ext.refl _).trans hw1)
   clear x0 x1 x2
   have x0 := (KB.out.ext HW1.out).cell 0 _ rfl
   have x1 := (KB.out.ext HW1.out).cell 1 _ rfl
   have x2 := (KB.out.ext HW1.out).cell 2 _ rfl
   clear hw1
   go_wp2_with fail
   refine (HF1.out _ HW1.out).mono ?_
   rintro e w2 ⟨rfl, hw2⟩
   have HW2 := hid (HW1.out.trans hw2)
   clear x0 x1 x2
   have x0 := (KB.out.ext HW2.out).cell 0 _ rfl
   have x1 := (KB.out.ext HW2.out).cell 1 _ rfl
   have x2 := (KB.out.ext HW2.out).cell 2 _ rfl
   clear hw2
   go_wp2_with fail
   refine (HUS.out _ HW2.out).mono ?_
   rintro e w3 ⟨rfl, hw3⟩
   have HW3 := hid (HW2.out.trans hw3)
   clear x0 x1 x2
   have x0 := (KB.out.ext HW3.out).cell 0 _ rfl
   have x1 := (KB.out.ext HW3.out).cell 1 _ rfl
   have x2 := (KB.out.ext HW3.out).cell 2 _ rfl
   clear hw3
   obtain ⟨b, o, rfl, hb, hc⟩ := (HL.out.ext HW3.out).at_ (show (l.map (·.x))[0]? = some yz.x from by rw [HY.out]; rfl)
   have a0 := hc 0 _ rfl
   have a1 := hc 1 _ rfl
   have a2 := hc 2 _ rfl
   have a3 := hc 3 _ rfl
   have a4 := hc 4 _ rfl
   have a5 := hc 5 _ rfl
   have a6 := hc 6 _ rfl
   have a7 := hc 7 _ rfl
   have a8 := hc 8 _ rfl
   have a9 := hc 9 _ rfl
   have a10 := hc 10 _ rfl
   have a11 := hc 11 _ rfl
   have a12 := hc 12 _ rfl
   have a13 := hc 13 _ rfl
   have a14 := hc 14 _ rfl
   have a15 := hc 15 _ rfl
   simp only [Nat.zero_mul, Nat.add_zero] at a0 a1 a2 a3 a4 a5 a6 a7 a8 a9 a10 a11 a12 a13 a14 a15
   have b0 := cell_midY ((Ext.refl w3).alloc (.cells #[.slice (some ⟨b, o, none⟩) ln lc, .slice A n c, .slice N m d] 26)) a0
   have b1 := cell_midY ((Ext.refl w3).alloc (.cells #[.slice (some ⟨b, o, none⟩) ln lc, .slice A n c, .slice N m d] 26)) a1
   have b2 := cell_midY ((Ext.refl w3).alloc (.cells #[.slice (some ⟨b, o, none⟩) ln lc, .slice A n c, .slice N m d] 26)) a2
   have b3 := cell_midY ((Ext.refl w3).alloc (.cells #[.slice (some ⟨b, o, none⟩) ln lc, .slice A n c, .slice N m d] 26)) a3
   have b4 := cell_midY ((Ext.refl w3).alloc (.cells #[.slice (some ⟨b, o, none⟩) ln lc, .slice A n c, .slice N m d] 26)) a4
   have b5 := cell_midY ((Ext.refl w3).alloc (.cells #[.slice (some ⟨b, o, none⟩) ln lc, .slice A n c, .slice N m d] 26)) a5
   have b6 := cell_midY ((Ext.refl w3).alloc (.cells #[.slice (some ⟨b, o, none⟩) ln lc, .slice A n c, .slice N m d] 26)) a6
   have b7 := cell_midY ((Ext.refl w3).alloc (.cells #[.slice (some ⟨b, o, none⟩) ln lc, .slice A n c, .slice N m d] 26)) a7
   have b8 := cell_midY ((Ext.refl w3).alloc (.cells #[.slice (some ⟨b, o, none⟩) ln lc, .slice A n c, .slice N m d] 26)) a8
   have b9 := cell_midY ((Ext.refl w3).alloc (.cells #[.slice (some ⟨b, o, none⟩) ln lc, .slice A n c, .slice N m d] 26)) a9
   have b10 := cell_midY ((Ext.refl w3).alloc (.cells #[.slice (some ⟨b, o, none⟩) ln lc, .slice A n c, .slice N m d] 26)) a10
   have b11 := cell_midY ((Ext.refl w3).alloc (.cells #[.slice (some ⟨b, o, none⟩) ln lc, .slice A n c, .slice N m d] 26)) a11
   have b12 := cell_midY ((Ext.refl w3).alloc (.cells #[.slice (some ⟨b, o, none⟩) ln lc, .slice A n c, .slice N m d] 26)) a12
   have b13 := cell_midY ((Ext.refl w3).alloc (.cells #[.slice (some ⟨b, o, none⟩) ln lc, .slice A n c, .slice N m d] 26)) a13
   have b14 := cell_midY ((Ext.refl w3).alloc (.cells #[.slice (some ⟨b, o, none⟩) ln lc, .slice A n c, .slice N m d] 26)) a14
   have b15 := cell_midY ((Ext.refl w3).alloc (.cells #[.slice (some ⟨b, o, none⟩) ln lc, .slice A n c, .slice N m d] 26)) a15
   have hln0 : 0 < ln := by have := HL.out.len; rw [HY.out] at this; simp at this; omega
   have hln0I : (0 : Int) < (ln : Int) := by omega
   have hwrl : IntKind.i64.wrap ((ln : Int) - 1) = ((ln - 1 : Nat) : Int) := by rw [IntKind.wrap_i64]; omega
   obtain ⟨U, hU⟩ : ∃ U, U = w3.heap.size := ⟨_, rfl⟩
   have hub := (AtC.new w3 #[.slice (some ⟨b, o, none⟩) ln lc, .slice A n c, .slice N m d] : AtC 26 _ _ _).alloc (.cells #[.string yz.x.t, .string yz.x.p, .string yz.x.d, .slice (yz.x.A 0) (yz.x.n 0) (yz.x.c 0), .slice (yz.x.A 1) (yz.x.n 1) (yz.x.c 1), .string (yz.x.s 0), .string (yz.x.s 1), .string (yz.x.s 2), .string (yz.x.s 3), .int .i64 (yz.x.i 0), .int .i64 (yz.x.i 1), .slice (yz.x.A 2) (yz.x.n 2) (yz.x.c 2), .slice (yz.x.A 3) (yz.x.n 3) (yz.x.c 3), .slice (yz.x.A 4) (yz.x.n 4) (yz.x.c 4), .slice (yz.x.A 5) (yz.x.n 5) (yz.x.c 5), .slice (yz.x.A 6) (yz.x.n 6) (yz.x.c 6)] 37)
   have hu0 := hub.cell 0 _ rfl
   have hfu0 := frz_of hub 0
   have x0b := ((KB.out.ext HW3.out).alloc (.cells #[.slice (some ⟨b, o, none⟩) ln lc, .slice A n c, .slice N m d] 26)).cell 0 _ rfl
   have HUB := hid hub
   clear hub hc hb
   go_upto_region 7 with fail
   obtain ⟨wS, hwS⟩ : ∃ wS, wS = (w3.alloc (.cells #[.slice (some ⟨w3.heap.size + 1, 0, none⟩) 1 1, .slice A n c, .slice N m d] 26)).alloc (.cells #[.string yz.x.t, .string yz.x.p, .string yz.x.d, .slice (yz.x.A 0) (yz.x.n 0) (yz.x.c 0), .slice (yz.x.A 1) (yz.x.n 1) (yz.x.c 1), .string (yz.x.s 0), .string (yz.x.s 1), .string (yz.x.s 2), .string (yz.x.s 3), .int .i64 (yz.x.i 0), .int .i64 (yz.x.i 1), .slice (yz.x.A 2) (yz.x.n 2) (yz.x.c 2), .slice (yz.x.A 3) (yz.x.n 3) (yz.x.c 3), .slice (yz.x.A 4) (yz.x.n 4) (yz.x.c 4), .slice (yz.x.A 5) (yz.x.n 5) (yz.x.c 5), .slice (yz.x.A 6) (yz.x.n 6) (yz.x.c 6)] 37) := ⟨_, rfl⟩
   have HU0 := hid (show AtC 26 wS U #[.slice (some ⟨U + 1, 0, none⟩) 1 1, .slice A n c, .slice N m d] from by
    rw [hwS, hU]
    exact (AtC.new w3 _ : AtC 26 _ _ _).alloc _)
   have HOW := hid (show wS.ownsRow (U + 1) 37 16 (.slice (some ⟨U + 1, 0, none⟩) 1 1) 1 (lcC yz.x) from by
    have h := own_oneN (w3.alloc (.cells #[.slice (some ⟨w3.heap.size + 1, 0, none⟩) 1 1, .slice A n c, .slice N m d] 26)) #[.string yz.x.t, .string yz.x.p, .string yz.x.d, .slice (yz.x.A 0) (yz.x.n 0) (yz.x.c 0), .slice (yz.x.A 1) (yz.x.n 1) (yz.x.c 1), .string (yz.x.s 0), .string (yz.x.s 1), .string (yz.x.s 2), .string (yz.x.s 3), .int .i64 (yz.x.i 0), .int .i64 (yz.x.i 1), .slice (yz.x.A 2) (yz.x.n 2) (yz.x.c 2), .slice (yz.x.A 3) (yz.x.n 3) (yz.x.c 3), .slice (yz.x.A 4) (yz.x.n 4) (yz.x.c 4), .slice (yz.x.A 5) (yz.x.n 5) (yz.x.c 5), .slice (yz.x.A 6) (yz.x.n 6) (yz.x.c 6)] 37 16 rfl
    rw [World.size_alloc] at h
    rw [hwS, hU]
    exact h)
   have HXS := hid (show Ext w3 wS from by rw [hwS]; exact ((Ext.refl w3).alloc _).alloc _)
   rw [← hwS, ← hU]
   have x0 := (KB.out.ext (HW3.out.trans HXS.out)).cell 0 _ rfl
   have HUW := hid hU
   have HRL := hid (show (Y.map (·.x)).length + 1 = ln from by have := HL.out.len; rw [HY.out] at this; simpa using this)
   clear hwS a0 a1 a2 a3 a4 a5 a6 a7 a8 a9 a10 a11 a12 a13 a14 a15 b0 b1 b2 b3 b4 b5 b6 b7 b8 b9 b10 b11 b12 b13 b14 b15 hu0 hfu0 x0b x1 x2 hU
   go_wp2_with fail
   go_loopw [6] (OrI w3 U yz.x (Y.map (·.x)) ln (.slice A n c) (.slice N m d)) (fun i _ => (intOf i).toNat)
   case atStart => exact ⟨0, ln - 1, some ⟨U + 1, 0, none⟩, 1, by omega, rfl, HU0.out, by simpa using HOW.out, HXS.out⟩
   case round =>
    obtain ⟨k, i, A', c', hki, rfl, hu, how, hw⟩ := hrel
    have HU := hid hu
    have HO := hid how
    have HW := hid hw
    clear hu how hw x0 hwrl
    by_cases hi : 0 < i
    ·as_aux_lemma =>
     obtain ⟨x, hx⟩ : ∃ x, (l.map (·.x))[i]? = some x := ⟨_, List.getElem?_eq_getElem (by rw [HL.out.len]; omega)⟩
     obtain ⟨b', o', hL', hb', hc'⟩ := (HL.out.ext (HW3.out.trans HW.out)).at_ hx
     injection hL' with hL'
     injection hL' with h1 h2 _
     subst h1; subst h2
     have HX := hid (show (yz.x :: Y.map (·.x))[i]? = some x from by rw [HY.out] at hx; exact hx)
     have x0 : wr.cell? ⟨w.heap.size, 0, none⟩ = some (.slice (some ⟨b, o, none⟩) ln lc) := (KB.out.ext (HW3.out.trans HW.out)).cell 0 _ rfl
     have HC := hid hc'
     have hiI : (0 : Int) < (i : Int) := by omega
     have hwri : IntKind.i64.wrap ((i : Int) - 1) = ((i - 1 : Nat) : Int) := by rw [IntKind.wrap_i64]; omega
     clear hx hc' hb'
     go_upto_region 10 with fail
     refine oreg10 (by kernel_rfl) (show i < ln by omega) HU.out x0 HC.out HO.out (Nat.lt_succ_self U) (HU.out.lt) (by omega) ?_
     intro v50 v51 v52 v53 v54 v55 v56 v57 v58 v59 A2 c2 wx hown hu2 hbel
     have HO2 := hid hown
     have HU2 := hid hu2
     have HB2 := hid hbel
     clear hown hu2 hbel x0
     go_wp2
     refine ⟨⟨k + 1, i - 1, A2, c2, by omega, rfl, HU2.out, ?_, HW.out.trans' HB2.out (by rw [HUW.out]; exact Nat.le_refl _)⟩, by simp [intOf]; omega⟩
     rw [← or_next hi (by have := HRL.out; omega) HX.out]
     exact HO2.out
    ·as_aux_lemma =>
     obtain ⟨we, hwe⟩ : ∃ W : World, W = wr := ⟨_, rfl⟩
     rw [← hwe] at HU HO HW ⊢
     clear hwe
     have hk1 : k + 1 = ln := by omega
     have HLU := hid (show Lcs we A' ln ((turnL l).map (·.x)) from by
      obtain ⟨A2, c2, e1, hs⟩ := own_slN HO.out
      injection e1 with e1 e2 e3
      subst e1
      rw [List.take_of_length_le (by rw [List.length_reverse]; have := HRL.out; omega), hk1] at hs
      rw [HY.out]
      show SlN we A' ln 16 (((yz :: Y.reverse).map (·.x)).flatMap lcC)
      rw [List.map_cons, List.map_reverse]
      exact hs)
     have HUE := hid (show AtC 26 we U #[.slice A' ln c', .slice A n c, .slice N m d] from by rw [← hk1]; exact HU.out)
     have HWE := hid (HW3.out.trans HW.out)
     have hi0I : ¬ (0 : Int) < (i : Int) := by omega
     clear HU HO HW HU0 HOW HXS
     have x0 := (KB.out.ext HWE.out).cell 0 _ rfl
     have x1 := (KB.out.ext HWE.out).cell 1 _ rfl
     have x2 := (KB.out.ext HWE.out).cell 2 _ rfl
     go_wp2_with fail
     refine (K1.out _ HWE.out).mono ?_
     rintro e1 w5 ⟨A1, n1, c1, rfl, hs1, hc1, hw5⟩
     have HS1 := hid hs1
     have HW5 := hid (HWE.out.trans hw5)
     have HUE5 := hid (HUE.out.ext hw5)
     have HLU5 := hid (HLU.out.ext hw5)
     clear hs1 hw5 x0 x1 x2 hi0I
     have y0 := AtC.cell HUE5.out 0 _ rfl
     have y1 := AtC.cell HUE5.out 1 _ rfl
     have y2 := AtC.cell HUE5.out 2 _ rfl
     simp only
     go_wp2_with fail
     refine (K2.out _ _ _ HW5.out HLU5.out).mono ?_
     rintro e2 w6 ⟨A3, n3, c3, rfl, hs3, hc3, hw6⟩
     have HS3 := hid hs3
     have HS16 := hid (HS1.out.ext hw6)
     have HW6 := hid (HW5.out.trans hw6)
     have HUE6 := hid (HUE5.out.ext hw6)
     have HLU6 := hid (HLU5.out.ext hw6)
     clear hs3 hw6 y0 y1 y2
     have x0 := (KB.out.ext HW6.out).cell 0 _ rfl
     have x1 := (KB.out.ext HW6.out).cell 1 _ rfl
     have x2 := (KB.out.ext HW6.out).cell 2 _ rfl
     simp only
     as_aux_lemma =>
     go_wp2_with fail
     refine (K3.out _ HW6.out).mono ?_
     rintro e3 w7 ⟨z1, rfl, hz1, hw7, hn1, hv1⟩
     unfold lcV
     have HZ1_ := hid (hz1.ext ((Ext.refl w7).alloc (.cells #[.string z1.x.t, .string z1.x.p, .string z1.x.d, .slice (z1.x.A 0) (z1.x.n 0) (z1.x.c 0), .slice (z1.x.A 1) (z1.x.n 1) (z1.x.c 1), .string (z1.x.s 0), .string (z1.x.s 1), .string (z1.x.s 2), .string (z1.x.s 3), .int .i64 (z1.x.i 0), .int .i64 (z1.x.i 1), .slice (z1.x.A 2) (z1.x.n 2) (z1.x.c 2), .slice (z1.x.A 3) (z1.x.n 3) (z1.x.c 3), .slice (z1.x.A 4) (z1.x.n 4) (z1.x.c 4), .slice (z1.x.A 5) (z1.x.n 5) (z1.x.c 5), .slice (z1.x.A 6) (z1.x.n 6) (z1.x.c 6)] 37)))
     have HN1 := hid hn1
     have HV1 := hid hv1
     have HW7 := hid ((HW6.out.trans hw7).alloc (.cells #[.string z1.x.t, .string z1.x.p, .string z1.x.d, .slice (z1.x.A 0) (z1.x.n 0) (z1.x.c 0), .slice (z1.x.A 1) (z1.x.n 1) (z1.x.c 1), .string (z1.x.s 0), .string (z1.x.s 1), .string (z1.x.s 2), .string (z1.x.s 3), .int .i64 (z1.x.i 0), .int .i64 (z1.x.i 1), .slice (z1.x.A 2) (z1.x.n 2) (z1.x.c 2), .slice (z1.x.A 3) (z1.x.n 3) (z1.x.c 3), .slice (z1.x.A 4) (z1.x.n 4) (z1.x.c 4), .slice (z1.x.A 5) (z1.x.n 5) (z1.x.c 5), .slice (z1.x.A 6) (z1.x.n 6) (z1.x.c 6)] 37))
     have HUE7 := hid ((HUE6.out.ext hw7).alloc (.cells #[.string z1.x.t, .string z1.x.p, .string z1.x.d, .slice (z1.x.A 0) (z1.x.n 0) (z1.x.c 0), .slice (z1.x.A 1) (z1.x.n 1) (z1.x.c 1), .string (z1.x.s 0), .string (z1.x.s 1), .string (z1.x.s 2), .string (z1.x.s 3), .int .i64 (z1.x.i 0), .int .i64 (z1.x.i 1), .slice (z1.x.A 2) (z1.x.n 2) (z1.x.c 2), .slice (z1.x.A 3) (z1.x.n 3) (z1.x.c 3), .slice (z1.x.A 4) (z1.x.n 4) (z1.x.c 4), .slice (z1.x.A 5) (z1.x.n 5) (z1.x.c 5), .slice (z1.x.A 6) (z1.x.n 6) (z1.x.c 6)] 37))
     have HLU7 := hid ((HLU6.out.ext hw7).ext ((Ext.refl w7).alloc (.cells #[.string z1.x.t, .string z1.x.p, .string z1.x.d, .slice (z1.x.A 0) (z1.x.n 0) (z1.x.c 0), .slice (z1.x.A 1) (z1.x.n 1) (z1.x.c 1), .string (z1.x.s 0), .string (z1.x.s 1), .string (z1.x.s 2), .string (z1.x.s 3), .int .i64 (z1.x.i 0), .int .i64 (z1.x.i 1), .slice (z1.x.A 2) (z1.x.n 2) (z1.x.c 2), .slice (z1.x.A 3) (z1.x.n 3) (z1.x.c 3), .slice (z1.x.A 4) (z1.x.n 4) (z1.x.c 4), .slice (z1.x.A 5) (z1.x.n 5) (z1.x.c 5), .slice (z1.x.A 6) (z1.x.n 6) (z1.x.c 6)] 37)))
     have HS17 := hid ((HS16.out.ext hw7).ext ((Ext.refl w7).alloc (.cells #[.string z1.x.t, .string z1.x.p, .string z1.x.d, .slice (z1.x.A 0) (z1.x.n 0) (z1.x.c 0), .slice (z1.x.A 1) (z1.x.n 1) (z1.x.c 1), .string (z1.x.s 0), .string (z1.x.s 1), .string (z1.x.s 2), .string (z1.x.s 3), .int .i64 (z1.x.i 0), .int .i64 (z1.x.i 1), .slice (z1.x.A 2) (z1.x.n 2) (z1.x.c 2), .slice (z1.x.A 3) (z1.x.n 3) (z1.x.c 3), .slice (z1.x.A 4) (z1.x.n 4) (z1.x.c 4), .slice (z1.x.A 5) (z1.x.n 5) (z1.x.c 5), .slice (z1.x.A 6) (z1.x.n 6) (z1.x.c 6)] 37)))
     have HS37 := hid ((HS3.out.ext hw7).ext ((Ext.refl w7).alloc (.cells #[.string z1.x.t, .string z1.x.p, .string z1.x.d, .slice (z1.x.A 0) (z1.x.n 0) (z1.x.c 0), .slice (z1.x.A 1) (z1.x.n 1) (z1.x.c 1), .string (z1.x.s 0), .string (z1.x.s 1), .string (z1.x.s 2), .string (z1.x.s 3), .int .i64 (z1.x.i 0), .int .i64 (z1.x.i 1), .slice (z1.x.A 2) (z1.x.n 2) (z1.x.c 2), .slice (z1.x.A 3) (z1.x.n 3) (z1.x.c 3), .slice (z1.x.A 4) (z1.x.n 4) (z1.x.c 4), .slice (z1.x.A 5) (z1.x.n 5) (z1.x.c 5), .slice (z1.x.A 6) (z1.x.n 6) (z1.x.c 6)] 37)))
     have KA := hid (AtC.new w7 #[.string z1.x.t, .string z1.x.p, .string z1.x.d, .slice (z1.x.A 0) (z1.x.n 0) (z1.x.c 0), .slice (z1.x.A 1) (z1.x.n 1) (z1.x.c 1), .string (z1.x.s 0), .string (z1.x.s 1), .string (z1.x.s 2), .string (z1.x.s 3), .int .i64 (z1.x.i 0), .int .i64 (z1.x.i 1), .slice (z1.x.A 2) (z1.x.n 2) (z1.x.c 2), .slice (z1.x.A 3) (z1.x.n 3) (z1.x.c 3), .slice (z1.x.A 4) (z1.x.n 4) (z1.x.c 4), .slice (z1.x.A 5) (z1.x.n 5) (z1.x.c 5), .slice (z1.x.A 6) (z1.x.n 6) (z1.x.c 6)] : AtC 37 _ _ _)
     clear hz1 hw7 hn1 hv1 x0 x1 x2 K1 K2 K3
     have y0 := AtC.cell HUE7.out 0 _ rfl
     have y1 := AtC.cell HUE7.out 1 _ rfl
     have y2 := AtC.cell HUE7.out 2 _ rfl
     simp only
     go_wp2_with fail
     refine (K4.out _ _ _ HW7.out HLU7.out).mono ?_
     rintro e4 w8 ⟨z2, rfl, hz2, hw8, hn2, hv2⟩
     unfold lcV
     have HEQ := hid (show lkP z1 = lkP z2 from by
      by_cases he : er = 0
      ·rw [HV1.out he, hv2 he]
      ·rw [HN1.out he, hn2 he])
     have HZ2_ := hid (hz2.ext ((Ext.refl w8).alloc (.cells #[.string z2.x.t, .string z2.x.p, .string z2.x.d, .slice (z2.x.A 0) (z2.x.n 0) (z2.x.c 0), .slice (z2.x.A 1) (z2.x.n 1) (z2.x.c 1), .string (z2.x.s 0), .string (z2.x.s 1), .string (z2.x.s 2), .string (z2.x.s 3), .int .i64 (z2.x.i 0), .int .i64 (z2.x.i 1), .slice (z2.x.A 2) (z2.x.n 2) (z2.x.c 2), .slice (z2.x.A 3) (z2.x.n 3) (z2.x.c 3), .slice (z2.x.A 4) (z2.x.n 4) (z2.x.c 4), .slice (z2.x.A 5) (z2.x.n 5) (z2.x.c 5), .slice (z2.x.A 6) (z2.x.n 6) (z2.x.c 6)] 37)))
     have HZ18 := hid ((HZ1_.out.ext hw8).ext ((Ext.refl w8).alloc (.cells #[.string z2.x.t, .string z2.x.p, .string z2.x.d, .slice (z2.x.A 0) (z2.x.n 0) (z2.x.c 0), .slice (z2.x.A 1) (z2.x.n 1) (z2.x.c 1), .string (z2.x.s 0), .string (z2.x.s 1), .string (z2.x.s 2), .string (z2.x.s 3), .int .i64 (z2.x.i 0), .int .i64 (z2.x.i 1), .slice (z2.x.A 2) (z2.x.n 2) (z2.x.c 2), .slice (z2.x.A 3) (z2.x.n 3) (z2.x.c 3), .slice (z2.x.A 4) (z2.x.n 4) (z2.x.c 4), .slice (z2.x.A 5) (z2.x.n 5) (z2.x.c 5), .slice (z2.x.A 6) (z2.x.n 6) (z2.x.c 6)] 37)))
     have HW8 := hid ((HW7.out.trans hw8).alloc (.cells #[.string z2.x.t, .string z2.x.p, .string z2.x.d, .slice (z2.x.A 0) (z2.x.n 0) (z2.x.c 0), .slice (z2.x.A 1) (z2.x.n 1) (z2.x.c 1), .string (z2.x.s 0), .string (z2.x.s 1), .string (z2.x.s 2), .string (z2.x.s 3), .int .i64 (z2.x.i 0), .int .i64 (z2.x.i 1), .slice (z2.x.A 2) (z2.x.n 2) (z2.x.c 2), .slice (z2.x.A 3) (z2.x.n 3) (z2.x.c 3), .slice (z2.x.A 4) (z2.x.n 4) (z2.x.c 4), .slice (z2.x.A 5) (z2.x.n 5) (z2.x.c 5), .slice (z2.x.A 6) (z2.x.n 6) (z2.x.c 6)] 37))
     have HUE8 := hid ((HUE7.out.ext hw8).alloc (.cells #[.string z2.x.t, .string z2.x.p, .string z2.x.d, .slice (z2.x.A 0) (z2.x.n 0) (z2.x.c 0), .slice (z2.x.A 1) (z2.x.n 1) (z2.x.c 1), .string (z2.x.s 0), .string (z2.x.s 1), .string (z2.x.s 2), .string (z2.x.s 3), .int .i64 (z2.x.i 0), .int .i64 (z2.x.i 1), .slice (z2.x.A 2) (z2.x.n 2) (z2.x.c 2), .slice (z2.x.A 3) (z2.x.n 3) (z2.x.c 3), .slice (z2.x.A 4) (z2.x.n 4) (z2.x.c 4), .slice (z2.x.A 5) (z2.x.n 5) (z2.x.c 5), .slice (z2.x.A 6) (z2.x.n 6) (z2.x.c 6)] 37))
     have HLU8 := hid ((HLU7.out.ext hw8).ext ((Ext.refl w8).alloc (.cells #[.string z2.x.t, .string z2.x.p, .string z2.x.d, .slice (z2.x.A 0) (z2.x.n 0) (z2.x.c 0), .slice (z2.x.A 1) (z2.x.n 1) (z2.x.c 1), .string (z2.x.s 0), .string (z2.x.s 1), .string (z2.x.s 2), .string (z2.x.s 3), .int .i64 (z2.x.i 0), .int .i64 (z2.x.i 1), .slice (z2.x.A 2) (z2.x.n 2) (z2.x.c 2), .slice (z2.x.A 3) (z2.x.n 3) (z2.x.c 3), .slice (z2.x.A 4) (z2.x.n 4) (z2.x.c 4), .slice (z2.x.A 5) (z2.x.n 5) (z2.x.c 5), .slice (z2.x.A 6) (z2.x.n 6) (z2.x.c 6)] 37)))
     have HS18 := hid ((HS17.out.ext hw8).ext ((Ext.refl w8).alloc (.cells #[.string z2.x.t, .string z2.x.p, .string z2.x.d, .slice (z2.x.A 0) (z2.x.n 0) (z2.x.c 0), .slice (z2.x.A 1) (z2.x.n 1) (z2.x.c 1), .string (z2.x.s 0), .string (z2.x.s 1), .string (z2.x.s 2), .string (z2.x.s 3), .int .i64 (z2.x.i 0), .int .i64 (z2.x.i 1), .slice (z2.x.A 2) (z2.x.n 2) (z2.x.c 2), .slice (z2.x.A 3) (z2.x.n 3) (z2.x.c 3), .slice (z2.x.A 4) (z2.x.n 4) (z2.x.c 4), .slice (z2.x.A 5) (z2.x.n 5) (z2.x.c 5), .slice (z2.x.A 6) (z2.x.n 6) (z2.x.c 6)] 37)))
     have HS38 := hid ((HS37.out.ext hw8).ext ((Ext.refl w8).alloc (.cells #[.string z2.x.t, .string z2.x.p, .string z2.x.d, .slice (z2.x.A 0) (z2.x.n 0) (z2.x.c 0), .slice (z2.x.A 1) (z2.x.n 1) (z2.x.c 1), .string (z2.x.s 0), .string (z2.x.s 1), .string (z2.x.s 2), .string (z2.x.s 3), .int .i64 (z2.x.i 0), .int .i64 (z2.x.i 1), .slice (z2.x.A 2) (z2.x.n 2) (z2.x.c 2), .slice (z2.x.A 3) (z2.x.n 3) (z2.x.c 3), .slice (z2.x.A 4) (z2.x.n 4) (z2.x.c 4), .slice (z2.x.A 5) (z2.x.n 5) (z2.x.c 5), .slice (z2.x.A 6) (z2.x.n 6) (z2.x.c 6)] 37)))
     have KA8 := hid ((KA.out.ext hw8).alloc (.cells #[.string z2.x.t, .string z2.x.p, .string z2.x.d, .slice (z2.x.A 0) (z2.x.n 0) (z2.x.c 0), .slice (z2.x.A 1) (z2.x.n 1) (z2.x.c 1), .string (z2.x.s 0), .string (z2.x.s 1), .string (z2.x.s 2), .string (z2.x.s 3), .int .i64 (z2.x.i 0), .int .i64 (z2.x.i 1), .slice (z2.x.A 2) (z2.x.n 2) (z2.x.c 2), .slice (z2.x.A 3) (z2.x.n 3) (z2.x.c 3), .slice (z2.x.A 4) (z2.x.n 4) (z2.x.c 4), .slice (z2.x.A 5) (z2.x.n 5) (z2.x.c 5), .slice (z2.x.A 6) (z2.x.n 6) (z2.x.c 6)] 37))
     have KB8 := hid (AtC.new w8 #[.string z2.x.t, .string z2.x.p, .string z2.x.d, .slice (z2.x.A 0) (z2.x.n 0) (z2.x.c 0), .slice (z2.x.A 1) (z2.x.n 1) (z2.x.c 1), .string (z2.x.s 0), .string (z2.x.s 1), .string (z2.x.s 2), .string (z2.x.s 3), .int .i64 (z2.x.i 0), .int .i64 (z2.x.i 1), .slice (z2.x.A 2) (z2.x.n 2) (z2.x.c 2), .slice (z2.x.A 3) (z2.x.n 3) (z2.x.c 3), .slice (z2.x.A 4) (z2.x.n 4) (z2.x.c 4), .slice (z2.x.A 5) (z2.x.n 5) (z2.x.c 5), .slice (z2.x.A 6) (z2.x.n 6) (z2.x.c 6)] : AtC 37 _ _ _)
     clear hz2 hw8 hn2 hv2 y0 y1 y2 K4
     simp only
     as_aux_lemma =>
     go_upto_region 15 with fail
     obtain ⟨g1, hg1⟩ : ∃ g, g = w7.heap.size := ⟨_, rfl⟩
     obtain ⟨g2, hg2⟩ : ∃ g, g = w8.heap.size := ⟨_, rfl⟩
     obtain ⟨w9, hw9⟩ : ∃ W, W = w8.alloc (.cells #[.string z2.x.t, .string z2.x.p, .string z2.x.d, .slice (z2.x.A 0) (z2.x.n 0) (z2.x.c 0), .slice (z2.x.A 1) (z2.x.n 1) (z2.x.c 1), .string (z2.x.s 0), .string (z2.x.s 1), .string (z2.x.s 2), .string (z2.x.s 3), .int .i64 (z2.x.i 0), .int .i64 (z2.x.i 1), .slice (z2.x.A 2) (z2.x.n 2) (z2.x.c 2), .slice (z2.x.A 3) (z2.x.n 3) (z2.x.c 3), .slice (z2.x.A 4) (z2.x.n 4) (z2.x.c 4), .slice (z2.x.A 5) (z2.x.n 5) (z2.x.c 5), .slice (z2.x.A 6) (z2.x.n 6) (z2.x.c 6)] 37) := ⟨_, rfl⟩
     rw [← hw9] at HZ2_ HZ18 HW8 HUE8 HLU8 HS18 HS38 KA8 KB8 ⊢
     rw [← hg1] at KA8 ⊢
     rw [← hg2] at KB8 ⊢
     clear hg1 hg2 hw9
     have x0 := (KB.out.ext HW8.out).cell 0 _ rfl
     have x1 := (KB.out.ext HW8.out).cell 1 _ rfl
     have x2 := (KB.out.ext HW8.out).cell 2 _ rfl
     go_wp2_with fail
     refine (K5.out _ (HW8.out.alloc (.cells #[.string s] 9)) _ _ (sl_oneO w9 s)).mono ?_
     rintro e5 wa ⟨rfl, hwa⟩
     have HXA := hid (show Ext w9 wa from ((Ext.refl w9).alloc (.cells #[.string s] 9)).trans hwa)
     clear hwa x0 x1 x2
     have y0 := AtC.cell (HUE8.out.ext HXA.out) 0 _ rfl
     have y1 := AtC.cell (HUE8.out.ext HXA.out) 1 _ rfl
     have y2 := AtC.cell (HUE8.out.ext HXA.out) 2 _ rfl
     simp only
     go_wp2_with fail
     refine (K6.out _ _ _ ((HW8.out.trans HXA.out).alloc (.cells #[.string s] 9)) (HLU8.out.ext (HXA.out.alloc (.cells #[.string s] 9))) _ _ (sl_oneO wa s)).mono ?_
     rintro e6 wb ⟨rfl, hwb⟩
     have HXB := hid (HXA.out.trans (((Ext.refl wa).alloc (.cells #[.string s] 9)).trans hwb))
     have KSB := hid (KS.out wb A1 A3 n1 n3 c1 c3 (HS18.out.ext HXB.out) (HS38.out.ext HXB.out) (tags_maxO HS18.out HKL.out) (tags_maxO HS38.out HKL.out))
     clear hwb y0 y1 y2 K5 K6 KS
     have hrr : (r == r) = true := by simp
     rw [hrr] at KSB
     clear hrr
     simp only
     go_wp2_with fail
     refine KSB.out.mono ?_
     rintro e7 wd ⟨rfl, hwd⟩
     have HXD := hid (HXB.out.trans hwd)
     clear hwd KSB
     as_aux_lemma =>
     have p0 := (KA8.out.ext HXD.out).cell 0 _ rfl
     have q0 := (KB8.out.ext HXD.out).cell 0 _ rfl
     have p1 := (KA8.out.ext HXD.out).cell 1 _ rfl
     have q1 := (KB8.out.ext HXD.out).cell 1 _ rfl
     have p2 := (KA8.out.ext HXD.out).cell 2 _ rfl
     have q2 := (KB8.out.ext HXD.out).cell 2 _ rfl
     have p3 := (KA8.out.ext HXD.out).cell 3 _ rfl
     have q3 := (KB8.out.ext HXD.out).cell 3 _ rfl
     have p4 := (KA8.out.ext HXD.out).cell 4 _ rfl
     have q4 := (KB8.out.ext HXD.out).cell 4 _ rfl
     have p5 := (KA8.out.ext HXD.out).cell 5 _ rfl
     have q5 := (KB8.out.ext HXD.out).cell 5 _ rfl
     have p6 := (KA8.out.ext HXD.out).cell 6 _ rfl
     have q6 := (KB8.out.ext HXD.out).cell 6 _ rfl
     have p7 := (KA8.out.ext HXD.out).cell 7 _ rfl
     have q7 := (KB8.out.ext HXD.out).cell 7 _ rfl
     have p8 := (KA8.out.ext HXD.out).cell 8 _ rfl
     have q8 := (KB8.out.ext HXD.out).cell 8 _ rfl
     have p9 := (KA8.out.ext HXD.out).cell 9 _ rfl
     have q9 := (KB8.out.ext HXD.out).cell 9 _ rfl
     have p10 := (KA8.out.ext HXD.out).cell 10 _ rfl
     have q10 := (KB8.out.ext HXD.out).cell 10 _ rfl
     have p11 := (KA8.out.ext HXD.out).cell 11 _ rfl
     have q11 := (KB8.out.ext HXD.out).cell 11 _ rfl
     have p12 := (KA8.out.ext HXD.out).cell 12 _ rfl
     have q12 := (KB8.out.ext HXD.out).cell 12 _ rfl
     have p13 := (KA8.out.ext HXD.out).cell 13 _ rfl
     have q13 := (KB8.out.ext HXD.out).cell 13 _ rfl
     have p14 := (KA8.out.ext HXD.out).cell 14 _ rfl
     have q14 := (KB8.out.ext HXD.out).cell 14 _ rfl
     have p15 := (KA8.out.ext HXD.out).cell 15 _ rfl
     have q15 := (KB8.out.ext HXD.out).cell 15 _ rfl
     have HSL := hid (rsame_any z1 z2 wd (HZ18.out.ext HXD.out) (HZ2_.out.ext HXD.out) HEQ.out (ef_short HN1.out HV1.out HLEN.out))
     simp only
     go_wp2_with fail
     refine HSL.out.mono ?_
     rintro e8 wf ⟨rfl, hwf⟩
     have HXF := hid (HXD.out.trans hwf)
     clear hwf HSL p0 q0 p1 q1 p2 q2 p3 q3 p4 q4 p5 q5 p6 q6 p7 q7 p8 q8 p9 q9 p10 q10 p11 q11 p12 q12 p13 q13 p14 q14 p15 q15
     simp only
     go_wp2
     go_ret
     exact ⟨by first | rfl | simp | simp [*], HX0.out.trans (HW8.out.trans HXF.out)⟩
end Go.Proofs.YtljdlkonlnjadaaGreatDoor.lawChainOrder
namespace Go.Proofs.YtljdlkonlnjadaaGreatDoor.lawChainOrder
open Go.ChangeShapes Go.WideShapes Go.ChangeAt Go.RowKit
open Go.ChangeMaps (open_string shut_string)
def laidL : List (String × DataW Unit) := Rows.chainOrderRow.laid
theorem mx_of {W : World} (h : W.ShapedOpen Tryz.prog) : Mx W := Tryz.laysM146.s1_3 W h
theorem lifted (os : Os) (started : os.Started) (H : Type) (enc : TypeId × Value → H) :
 ReturnsInHanded {} Tryz.checked os 5 .any (fun w args => (Rows.chainOrderSpec.pre enc Tryz.prog Tryz.f5 [] false w args ∧ laidMetH Tryz.prog laidL w) ∧ sizedMet enc Tryz.prog Tryz.f5 (OpenSpec.ofChange Rows.chainOrderSpec) false w args)
  (Rows.chainOrderSpec.post enc Tryz.prog Tryz.f5 false true false false) := by
 refine lifted_and_sized (C := Tryz.checked) (X := fun w _ => laidMetH Tryz.prog laidL w) (fun _ _ _ hh h => h.of_heap hh) own started (by kernel_rfl) Tryz.func5
  (ChangeSpec.witness_shaped (enc := enc) (C := Tryz.checked) (os := os) (X := fun w _ => laidMetH Tryz.prog laidL w) false (World.laidAll Tryz.prog os laidL) #[.agg #[.slice none 0 0, .slice none 0 0, .slice none 0 0], .string ⟨#[]⟩] 8 (World.laidAll_os _ _ _)
   (World.shaped_of_ZipB (by kernel_rfl) (by kernel_rfl)) (by kernel_rfl) (by kernel_rfl) (by kernel_rfl)
   (by rw [MakeChecks.laidMetH_plain _ _ _ (by kernel_rfl)]; exact laidMet_laidAll _ (by kernel_rfl) (by kernel_rfl))) ?_
 intro W base args ds gs before hval0 hW hL hshape hsz0
 have hval : ∀ (j : Nat) t v, Tryz.f5.params[j]? = some t → args[j]? = some v → Value.okWide Tryz.prog W .any base t v := hval0
 have hW' := hW
 obtain ⟨p, q, hA0, hV, rfl, hfz, hnd⟩ := hW
 have hA : DataW.TrodAll enc Tryz.prog W 0 (fun _ => true) true Tryz.f5.params.toList args.toList ds p := hA0
 obtain ⟨rfl, rfl⟩ := trodVars_none hV
 have hsz : ∀ m ∈ DataW.weightsEach Tryz.prog Tryz.f5.params.toList ds, m ≤ reachBytes := fun m hm => hsz0 m (by
  rw [List.append_nil, show Rows.chainOrderSpec.plain.varTypes Tryz.checked.prog = [] from rfl, List.append_nil]
  exact hm)
 rw [Tryz.params5] at hA hval hsz
 obtain ⟨v0, v1, d0, d1, p0, p1, rfl, rfl, rfl, h0, h1⟩ := trodAll_two hA
 obtain ⟨L, A, N, ln, lc, n, c, m, k, l, al, nl, rfl, hL, hln, hok, hlk, hA1, hn, hz, hN, hm2, hzn⟩ := open_tableK (hval 0 26 v0 rfl rfl) h0 (fun m hm => hsz m (DataW.weights_mem_each (j := 0) rfl rfl m hm))
 obtain ⟨s1, rfl, rfl, rfl, hs1⟩ := open_string Tryz.underlying9 (hval 1 9 v1 rfl rfl) h1
 refine (law l al nl L A N ln lc n c m k s1 W (mx_of hshape) hL hln hok hlk hA1 hn hz hN hm2 hzn hs1).mono fun e W' ⟨he, hw⟩ => ?_
 subst he
 exact ⟨_, rfl, law_post (t := 4) laidOut (by rw [Tryz.params5]; intro t ht; simp at ht; rcases ht with rfl | rfl <;> exact ⟨by kernel_rfl, of_decide_eq_true (by kernel_rfl)⟩) rfl Tryz.underlying4 rfl ⟨rfl, rfl, rfl⟩ hW' hw⟩
end Go.Proofs.YtljdlkonlnjadaaGreatDoor.lawChainOrder
