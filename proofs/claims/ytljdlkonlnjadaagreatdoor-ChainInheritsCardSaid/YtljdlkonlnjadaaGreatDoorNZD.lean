import Derived.Test.YtljdlkonlnjadaaGreatDoorYs
import Derived.Test.YtljdlkonlnjadaaGreatDoorNZ7
import Derived.Deep.RegionHeld3
import Derived.Test.YtljdlkonlnjadaaGreatDoorYpL
import Derived.Test.YtljdlkonlnjadaaGreatDoorYpU
import Derived.Test.YtljdlkonlnjadaaGreatDoorYpD
set_option maxRecDepth 100000
set_option linter.unusedSimpArgs false
set_option linter.unusedVariables false
open Go.Lib (hid)
namespace Go.Proofs.YtljdlkonlnjadaaGreatDoor
open Go.RowKit
theorem wpOp_step21 {P : Program} {ops : Array Oper} {Q : Exit → Act → World → Prop} {i : Nat} {o : Oper} {K : Act → World → Prop} {a : Act} {w : World} (ho : ops[i]? = some o) (hw : Region.wanted o (yielded ops a.tmps) = true)
 (h : ∀ K' : Act → World → Prop, RowKit.Hid (∀ a w, K a w → K' a w) → Oper.wp P o a w K' Q) : wpOp P ops Q i K a w := by
 unfold wpOp
 rw [ho]
 simp only [hw, if_true]
 exact .inl (h K (hid fun _ _ h => h))
def RS21 (g p : Nat) (a2 a3 a4 b2 b3 b4 : Option Addr) (n2 n3 n4 c2 c3 c4 e2 e3 e4 k2 k3 k4 : Nat) (w' : World) : Prop := w'.cell? ⟨g, 11, none⟩ = some (.slice a2 n2 c2) ∧ w'.cell? ⟨g, 12, none⟩ = some (.slice a3 n3 c3) ∧ w'.cell? ⟨g, 13, none⟩ = some (.slice a4 n4 c4) ∧ w'.cell? ⟨p, 11, none⟩ = some (.slice b2 e2 k2) ∧ w'.cell? ⟨p, 12, none⟩ = some (.slice b3 e3 k3) ∧ w'.cell? ⟨p, 13, none⟩ = some (.slice b4 e4 k4)
noncomputable def regR21 : Code := ((Tryz.f9).body.bind (regOf 21)).getD .skip
set_option maxHeartbeats 4000000 in
theorem rreg21 {u0 u1 u2 u3 u4 u5 u6 u7 u9 u11 u12 u13 u14 u15 u16 u17 u18 u19 u20 u21 u22 u23 u24 u25 u26 u27 u28 u29 u30 u31 u32 u33 u34 u35 u36 u37 u38 u39 u40 u41 u42 u43 u44 u45 u46 u47 u48 u49 u50 u51 u52 u53 u54 u55 u56 u57 u58 u59 u60 u61 u62 u63 u64 u65 u66 u67 u68 u69 u70 u71 u72 u73 u74 u75 u76 u77 u78 u79 u80 u81 u82 u83 u84 u85 u86 u87 u88 u89 u90 u91 u92 u93 u94 u95 u96 u97 u98 u99 u100 u101 u102 u103 u104 u105 u106 u107 u108 u109 x0 x1 x2 x3 x4 x5 x6 x7 x8 x9 x10 x14 x15 y0 y1 y2 y3 y4 y5 y6 y7 y8 y9 y10 y14 y15 : Value} {g p n2 n3 n4 c2 c3 c4 e2 e3 e4 k2 k3 k4 : Nat} {a2 a3 a4 b2 b3 b4 : Option Addr} {O2 O3 O4 E2 E3 E4 : List El} {w : World} {Q : Exit → Act → World → Prop} {C : Code} (hC : C = regR21)
 (hg : AtC 37 w g #[x0, x1, x2, x3, x4, x5, x6, x7, x8, x9, x10, .slice a2 n2 c2, .slice a3 n3 c3, .slice a4 n4 c4, x14, x15]) (hp : AtC 37 w p #[y0, y1, y2, y3, y4, y5, y6, y7, y8, y9, y10, .slice b2 e2 k2, .slice b3 e3 k3, .slice b4 e4 k4, y14, y15]) (hA2 : ElM 5 w a2 n2 O2) (hB2 : ElM 5 w b2 e2 E2) (hc2 : n2 ≤ c2) (hn2 : n2 + e2 ≤ 1000000) (hA3 : ElM 3 w a3 n3 O3) (hB3 : ElM 3 w b3 e3 E3) (hc3 : n3 ≤ c3) (hn3 : n3 + e3 ≤ 1000000) (hA4 : ElM 2 w a4 n4 O4) (hB4 : ElM 2 w b4 e4 E4) (hc4 : n4 ≤ c4) (hn4 : n4 + e4 ≤ 1000000)
 (hQ : ∀ z2 z3 z4 m2 m3 m4 d2 d3 d4 wx, ((ElM 5 wx z2 m2 (E2.foldl (fun o x => yIns (kyE 1) ltK x o) O2) ∧ (∀ ad, z2 = some ad → a2 = some ad ∨ w.heap.size ≤ ad.block)) ∧ m2 ≤ d2 ∧ m2 ≤ n2 + e2) ∧ ((ElM 3 wx z3 m3 (E3.foldl (fun o x => yIns (kyE 2) ltK x o) O3) ∧ (∀ ad, z3 = some ad → a3 = some ad ∨ w.heap.size ≤ ad.block)) ∧ m3 ≤ d3 ∧ m3 ≤ n3 + e3) ∧ ((ElM 2 wx z4 m4 (E4.foldl (fun o x => yIns (kyE 1) ltK x o) O4) ∧ (∀ ad, z4 = some ad → a4 = some ad ∨ w.heap.size ≤ ad.block)) ∧ m4 ≤ d4 ∧ m4 ≤ n4 + e4) → Ext w wx → Q .normal ⟨#[u0, u1, u2, u3, u4, u5, u6, u7, .pointer (some ⟨g, 0, none⟩), u9, .pointer (some ⟨p, 0, none⟩), u11, u12, u13, u14, u15, u16, u17, u18, u19, u20, u21, u22, u23, u24, u25, u26, u27, u28, u29, u30, u31, u32, u33, u34, u35, u36, u37, u38, u39, u40, u41, u42, u43, u44, u45, u46, u47, u48, u49, u50, u51, u52, u53, u54, u55, u56, u57, u58, u59, u60, u61, u62, u63, u64, u65, u66, u67, u68, u69, u70, u71, u72, u73, u74, u75, u76, u77, u78, u79, u80, u81, u82, u83, u84, u85, u86, u87, u88, u89, u90, .pointer (some ⟨g, 11, none⟩), .slice a2 n2 c2, .pointer (some ⟨p, 11, none⟩), .slice b2 e2 k2, .slice z2 m2 d2, .pointer (some ⟨g, 12, none⟩), .slice a3 n3 c3, .pointer (some ⟨p, 12, none⟩), .slice b3 e3 k3, .slice z3 m3 d3, .pointer (some ⟨g, 13, none⟩), .slice a4 n4 c4, .pointer (some ⟨p, 13, none⟩), .slice b4 e4 k4, .slice z4 m4 d4, .pointer (some ⟨g, 11, none⟩), .pointer (some ⟨g, 12, none⟩), .pointer (some ⟨g, 13, none⟩), u109], []⟩ (((wx.setCell ⟨g, 11, none⟩ (.slice z2 m2 d2)).setCell ⟨g, 12, none⟩ (.slice z3 m3 d3)).setCell ⟨g, 13, none⟩ (.slice z4 m4 d4))) :
 Code.wp Tryz.prog C Q ⟨#[u0, u1, u2, u3, u4, u5, u6, u7, .pointer (some ⟨g, 0, none⟩), u9, .pointer (some ⟨p, 0, none⟩), u11, u12, u13, u14, u15, u16, u17, u18, u19, u20, u21, u22, u23, u24, u25, u26, u27, u28, u29, u30, u31, u32, u33, u34, u35, u36, u37, u38, u39, u40, u41, u42, u43, u44, u45, u46, u47, u48, u49, u50, u51, u52, u53, u54, u55, u56, u57, u58, u59, u60, u61, u62, u63, u64, u65, u66, u67, u68, u69, u70, u71, u72, u73, u74, u75, u76, u77, u78, u79, u80, u81, u82, u83, u84, u85, u86, u87, u88, u89, u90, u91, u92, u93, u94, u95, u96, u97, u98, u99, u100, u101, u102, u103, u104, u105, u106, u107, u108, u109], []⟩ w := by
 subst hC
 conv => arg 2; whnf
 have HQ := hid hQ
 have HX0 := hid (show Ext w w.drew from (Ext.refl w).drew)
 have HSX := hid (show ∀ W, Ext w W → RS21 g p a2 a3 a4 b2 b3 b4 n2 n3 n4 c2 c3 c4 e2 e3 e4 k2 k3 k4 W from fun W h => ⟨(hg.ext h).cell 11 _ rfl, (hg.ext h).cell 12 _ rfl, (hg.ext h).cell 13 _ rfl, (hp.ext h).cell 11 _ rfl, (hp.ext h).cell 12 _ rfl, (hp.ext h).cell 13 _ rfl⟩)
 have HGX := hid (fun W (h : Ext w W) => hg.ext h)
 have HA2 := hid hA2; have HB2 := hid hB2; have HA3 := hid hA3; have HB3 := hid hB3; have HA4 := hid hA4; have HB4 := hid hB4
 clear hQ hg hp hA2 hB2 hA3 hB3 hA4 hB4
 refine wp_region_noPanic ?_
 refine wp_region_T (n := 16) (S := RS21 g p a2 a3 a4 b2 b3 b4 n2 n3 n4 c2 c3 c4 e2 e3 e4 k2 k3 k4) (by kernel_rfl) ?_
 have hS := HSX.out _ HX0.out
 refine wpAnyT_take (i := 0) (v := .pointer (some ⟨g, 11, none⟩)) rfl (by kernel_rfl) (by kernel_rfl) (by kernel_rfl) (fun _ _ _ h => h) hS (Or.inl ⟨by rfl, ?_⟩) ?_
 ·intro w1 hSw
  unfold RS21 at hSw
  go_split_ands
  go_simp
 simp only [Act.put, List.setIfInBounds_toArray, List.set_cons_zero, List.set_cons_succ]
 refine wpAnyT_take (i := 1) (v := .slice a2 n2 c2) rfl (by kernel_rfl) (by kernel_rfl) (by kernel_rfl) (fun _ _ _ h => h) hS (Or.inl ⟨by rfl, ?_⟩) ?_
 ·intro w1 hSw
  unfold RS21 at hSw
  go_split_ands
  go_simp
 simp only [Act.put, List.setIfInBounds_toArray, List.set_cons_zero, List.set_cons_succ]
 refine wpAnyT_take (i := 2) (v := .pointer (some ⟨p, 11, none⟩)) rfl (by kernel_rfl) (by kernel_rfl) (by kernel_rfl) (fun _ _ _ h => h) hS (Or.inl ⟨by rfl, ?_⟩) ?_
 ·intro w1 hSw
  unfold RS21 at hSw
  go_split_ands
  go_simp
 simp only [Act.put, List.setIfInBounds_toArray, List.set_cons_zero, List.set_cons_succ]
 refine wpAnyT_take (i := 3) (v := .slice b2 e2 k2) rfl (by kernel_rfl) (by kernel_rfl) (by kernel_rfl) (fun _ _ _ h => h) hS (Or.inl ⟨by rfl, ?_⟩) ?_
 ·intro w1 hSw
  unfold RS21 at hSw
  go_split_ands
  go_simp
 simp only [Act.put, List.setIfInBounds_toArray, List.set_cons_zero, List.set_cons_succ]
 refine wpAnyT_take (i := 5) (v := .pointer (some ⟨g, 12, none⟩)) rfl (by kernel_rfl) (by kernel_rfl) (by kernel_rfl) (fun _ _ _ h => h) hS (Or.inl ⟨by rfl, ?_⟩) ?_
 ·intro w1 hSw
  unfold RS21 at hSw
  go_split_ands
  go_simp
 simp only [Act.put, List.setIfInBounds_toArray, List.set_cons_zero, List.set_cons_succ]
 refine wpAnyT_take (i := 6) (v := .slice a3 n3 c3) rfl (by kernel_rfl) (by kernel_rfl) (by kernel_rfl) (fun _ _ _ h => h) hS (Or.inl ⟨by rfl, ?_⟩) ?_
 ·intro w1 hSw
  unfold RS21 at hSw
  go_split_ands
  go_simp
 simp only [Act.put, List.setIfInBounds_toArray, List.set_cons_zero, List.set_cons_succ]
 refine wpAnyT_take (i := 7) (v := .pointer (some ⟨p, 12, none⟩)) rfl (by kernel_rfl) (by kernel_rfl) (by kernel_rfl) (fun _ _ _ h => h) hS (Or.inl ⟨by rfl, ?_⟩) ?_
 ·intro w1 hSw
  unfold RS21 at hSw
  go_split_ands
  go_simp
 simp only [Act.put, List.setIfInBounds_toArray, List.set_cons_zero, List.set_cons_succ]
 refine wpAnyT_take (i := 8) (v := .slice b3 e3 k3) rfl (by kernel_rfl) (by kernel_rfl) (by kernel_rfl) (fun _ _ _ h => h) hS (Or.inl ⟨by rfl, ?_⟩) ?_
 ·intro w1 hSw
  unfold RS21 at hSw
  go_split_ands
  go_simp
 simp only [Act.put, List.setIfInBounds_toArray, List.set_cons_zero, List.set_cons_succ]
 refine wpAnyT_take (i := 10) (v := .pointer (some ⟨g, 13, none⟩)) rfl (by kernel_rfl) (by kernel_rfl) (by kernel_rfl) (fun _ _ _ h => h) hS (Or.inl ⟨by rfl, ?_⟩) ?_
 ·intro w1 hSw
  unfold RS21 at hSw
  go_split_ands
  go_simp
 simp only [Act.put, List.setIfInBounds_toArray, List.set_cons_zero, List.set_cons_succ]
 refine wpAnyT_take (i := 11) (v := .slice a4 n4 c4) rfl (by kernel_rfl) (by kernel_rfl) (by kernel_rfl) (fun _ _ _ h => h) hS (Or.inl ⟨by rfl, ?_⟩) ?_
 ·intro w1 hSw
  unfold RS21 at hSw
  go_split_ands
  go_simp
 simp only [Act.put, List.setIfInBounds_toArray, List.set_cons_zero, List.set_cons_succ]
 refine wpAnyT_take (i := 12) (v := .pointer (some ⟨p, 13, none⟩)) rfl (by kernel_rfl) (by kernel_rfl) (by kernel_rfl) (fun _ _ _ h => h) hS (Or.inl ⟨by rfl, ?_⟩) ?_
 ·intro w1 hSw
  unfold RS21 at hSw
  go_split_ands
  go_simp
 simp only [Act.put, List.setIfInBounds_toArray, List.set_cons_zero, List.set_cons_succ]
 refine wpAnyT_take (i := 13) (v := .slice b4 e4 k4) rfl (by kernel_rfl) (by kernel_rfl) (by kernel_rfl) (fun _ _ _ h => h) hS (Or.inl ⟨by rfl, ?_⟩) ?_
 ·intro w1 hSw
  unfold RS21 at hSw
  go_split_ands
  go_simp
 simp only [Act.put, List.setIfInBounds_toArray, List.set_cons_zero, List.set_cons_succ]
 refine wpAnyT_all (rs := [4]) (by kernel_rfl) (by simp) ?_
 intro i_ hi_
 rw [List.mem_singleton] at hi_
 subst hi_
 refine wpOp_step21 rfl (by rfl) fun K' hK' => ?_
 go_simp
 refine (rinsL_any O2 E2 a2 b2 n2 c2 e2 k2 _ (HA2.out.ext HX0.out) (HB2.out.ext HX0.out) hc2 hn2).mono ?_
 rintro ev w1 ⟨z2, m2, d2, rfl, hr2, hd2, hm2, hw2, hk2⟩
 have HX1 := hid (HX0.out.trans hw2)
 have HXY2 := hid hw2
 have HR2 := hid hr2
 have HK2 := hid (show ∀ ad, z2 = some ad → a2 = some ad ∨ w.heap.size ≤ ad.block from fun ad had => (hk2 ad had).imp id fun h => Nat.le_trans (Ext.size HX0.out) h)
 clear hr2 hk2 hw2
 (try simp only)
 refine hK'.out _ _ ⟨fun _ => HSX.out _ HX1.out, ?_⟩
 clear hK'
 have hS := HSX.out _ HX1.out
 try simp only [Act.put, List.setIfInBounds_toArray, List.set_cons_zero, List.set_cons_succ]
 refine wpAnyT_take (i := 15) (v := .pointer (some ⟨g, 11, none⟩)) rfl (by kernel_rfl) (by kernel_rfl) (by kernel_rfl) (fun _ _ _ h => h) hS (Or.inl ⟨by rfl, ?_⟩) ?_
 ·intro w1 hSw
  unfold RS21 at hSw
  go_split_ands
  go_simp
 simp only [Act.put, List.setIfInBounds_toArray, List.set_cons_zero, List.set_cons_succ]
 refine wpAnyT_all (rs := [9]) (by kernel_rfl) (by simp) ?_
 intro i_ hi_
 rw [List.mem_singleton] at hi_
 subst hi_
 refine wpOp_step21 rfl (by rfl) fun K' hK' => ?_
 go_simp
 refine (rinsU_any O3 E3 a3 b3 n3 c3 e3 k3 _ (HA3.out.ext HX1.out) (HB3.out.ext HX1.out) hc3 hn3).mono ?_
 rintro ev w2 ⟨z3, m3, d3, rfl, hr3, hd3, hm3, hw3, hk3⟩
 have HX2 := hid (HX1.out.trans hw3)
 have HXY3 := hid hw3
 have HR3 := hid hr3
 have HK3 := hid (show ∀ ad, z3 = some ad → a3 = some ad ∨ w.heap.size ≤ ad.block from fun ad had => (hk3 ad had).imp id fun h => Nat.le_trans (Ext.size HX1.out) h)
 clear hr3 hk3 hw3
 (try simp only)
 refine hK'.out _ _ ⟨fun _ => HSX.out _ HX2.out, ?_⟩
 clear hK'
 have hS := HSX.out _ HX2.out
 try simp only [Act.put, List.setIfInBounds_toArray, List.set_cons_zero, List.set_cons_succ]
 refine wpAnyT_all (rs := [14]) (by kernel_rfl) (by simp) ?_
 intro i_ hi_
 rw [List.mem_singleton] at hi_
 subst hi_
 refine wpOp_step21 rfl (by rfl) fun K' hK' => ?_
 go_simp
 refine (rinsD_any O4 E4 a4 b4 n4 c4 e4 k4 _ (HA4.out.ext HX2.out) (HB4.out.ext HX2.out) hc4 hn4).mono ?_
 rintro ev w3 ⟨z4, m4, d4, rfl, hr4, hd4, hm4, hw4, hk4⟩
 have HX3 := hid (HX2.out.trans hw4)
 have HXY4 := hid hw4
 have HR4 := hid hr4
 have HK4 := hid (show ∀ ad, z4 = some ad → a4 = some ad ∨ w.heap.size ≤ ad.block from fun ad had => (hk4 ad had).imp id fun h => Nat.le_trans (Ext.size HX2.out) h)
 clear hr4 hk4 hw4
 (try simp only)
 refine hK'.out _ _ ⟨fun _ => HSX.out _ HX3.out, ?_⟩
 clear hK'
 have hS := HSX.out _ HX3.out
 try simp only [Act.put, List.setIfInBounds_toArray, List.set_cons_zero, List.set_cons_succ]
 have HXX3 := hid HXY4.out
 have HXX2 := hid (HXY3.out.trans HXY4.out)
 have g0 := HGX.out _ HX3.out
 have q11 : w3.cell? ⟨g, 11, none⟩ = some (.slice a2 n2 c2) := AtC.cell g0 11 _ rfl
 have f11 := frz_of g0 11
 refine wpAnyT_all (rs := [16]) (by kernel_rfl) (by simp) ?_
 intro i_ hi_
 rw [List.mem_singleton] at hi_
 subst hi_
 refine wpOp_step21 rfl (by rfl) fun K' hK' => ?_
 go_simp
 refine hK'.out _ _ ⟨fun h => absurd h (by decide), ?_⟩
 clear hK'
 try simp only [Act.put, List.setIfInBounds_toArray, List.set_cons_zero, List.set_cons_succ]
 have g1 := heap_setCell_same w3 g 11 _ _ (.slice z2 m2 d2) g0
 obtain ⟨v1, hv1⟩ : ∃ v, v = w3.setCell ⟨g, 11, none⟩ (.slice z2 m2 d2) := ⟨_, rfl⟩
 rw [← hv1] at g1 ⊢
 have HV1 := hid hv1
 clear q11 f11 hv1
 have q12 : v1.cell? ⟨g, 12, none⟩ = some (.slice a3 n3 c3) := AtC.cell g1 12 _ rfl
 have f12 := frz_of g1 12
 refine wpAnyT_all (rs := [17]) (by kernel_rfl) (by simp) ?_
 intro i_ hi_
 rw [List.mem_singleton] at hi_
 subst hi_
 refine wpOp_step21 rfl (by rfl) fun K' hK' => ?_
 go_simp
 refine hK'.out _ _ ⟨fun h => absurd h (by decide), ?_⟩
 clear hK'
 try simp only [Act.put, List.setIfInBounds_toArray, List.set_cons_zero, List.set_cons_succ]
 refine wpAnyT_all (rs := [18]) (by kernel_rfl) (by simp) ?_
 intro i_ hi_
 rw [List.mem_singleton] at hi_
 subst hi_
 refine wpOp_step21 rfl (by rfl) fun K' hK' => ?_
 go_simp
 refine hK'.out _ _ ⟨fun h => absurd h (by decide), ?_⟩
 clear hK'
 try simp only [Act.put, List.setIfInBounds_toArray, List.set_cons_zero, List.set_cons_succ]
 have g2 := heap_setCell_same v1 g 12 _ _ (.slice z3 m3 d3) g1
 obtain ⟨v2, hv2⟩ : ∃ v, v = v1.setCell ⟨g, 12, none⟩ (.slice z3 m3 d3) := ⟨_, rfl⟩
 rw [← hv2] at g2 ⊢
 have HV2 := hid hv2
 clear q12 f12 hv2
 have q13 : v2.cell? ⟨g, 13, none⟩ = some (.slice a4 n4 c4) := AtC.cell g2 13 _ rfl
 have f13 := frz_of g2 13
 refine wpAnyT_all (rs := [19]) (by kernel_rfl) (by simp) ?_
 intro i_ hi_
 rw [List.mem_singleton] at hi_
 subst hi_
 refine wpOp_step21 rfl (by rfl) fun K' hK' => ?_
 go_simp
 refine hK'.out _ _ ⟨fun h => absurd h (by decide), ?_⟩
 clear hK'
 try simp only [Act.put, List.setIfInBounds_toArray, List.set_cons_zero, List.set_cons_succ]
 refine wpAnyT_all (rs := [20]) (by kernel_rfl) (by simp) ?_
 intro i_ hi_
 rw [List.mem_singleton] at hi_
 subst hi_
 refine wpOp_step21 rfl (by rfl) fun K' hK' => ?_
 go_simp
 refine hK'.out _ _ ⟨fun h => absurd h (by decide), ?_⟩
 clear hK'
 try simp only [Act.put, List.setIfInBounds_toArray, List.set_cons_zero, List.set_cons_succ]
 have g3 := heap_setCell_same v2 g 13 _ _ (.slice z4 m4 d4) g2
 refine ⟨by kernel_rfl, ?_⟩
 show Q _ _ _
 rw [HV2.out, HV1.out]
 exact HQ.out z2 z3 z4 m2 m3 m4 d2 d3 d4 w3 ⟨⟨⟨HR2.out.ext HXX2.out, HK2.out⟩, hd2, hm2⟩, ⟨⟨HR3.out.ext HXX3.out, HK3.out⟩, hd3, hm3⟩, ⟨⟨HR4.out, HK4.out⟩, hd4, hm4⟩⟩ HX3.out
end Go.Proofs.YtljdlkonlnjadaaGreatDoor
namespace Go.Proofs.YtljdlkonlnjadaaGreatDoor
open Go.RowKit
theorem or_snoc {α : Type} {X : List Lk} {k : Nat} {y : Lk} (f : Lk → List α) (h : X[k]? = some y) : orF ((X.take (k + 1)).map f) = if (orF ((X.take k).map f)).length = 0 then f y else orF ((X.take k).map f) := by
 rw [take_nextY h, List.map_append]
 unfold orF
 rw [List.foldl_append]
 rfl
theorem mrg_snoc {X : List Lk} {k : Nat} {y : Lk} (q : Nat) (f : Lk → List El) (h : X[k]? = some y) : mrgE q ((X.take (k + 1)).map f) = (f y).foldl (fun o x => yIns (kyE q) ltK x o) (mrgE q ((X.take k).map f)) := by
 rw [take_nextY h, List.map_append]
 unfold mrgE
 rw [List.foldl_append]
 rfl
theorem symF_snoc {X : List Lk} {k : Nat} {y : Lk} (f : Lk → List ByteArray × List Int) (h : X[k]? = some y) : symF ((X.take (k + 1)).map f) = stF (symF ((X.take k).map f)) (f y) := by
 rw [take_nextY h, List.map_append]
 unfold symF
 rw [List.foldl_append]
 rfl
theorem dirF_snoc {X : List Lk} {k : Nat} {y : Lk} (f : Lk → ByteArray) (h : X[k]? = some y) : dirF ((X.take (k + 1)).map f) = if dirF ((X.take k).map f) = eB then f y else dirF ((X.take k).map f) := by
 rw [take_nextY h, List.map_append]
 unfold dirF
 rw [List.foldl_append]
 rfl
def GB (rb g j : Nat) : Prop := j = rb ∨ j = g
theorem Exc.weak {S S' : Nat → Prop} {w w' : World} (h : Exc S w w') (hs : ∀ k, S k → S' k) : Exc S' w w' := ⟨h.os, h.tape, h.output, h.size, fun k hk hn => h.block k hk fun s => hn (hs k s)⟩
theorem Exc.gb {rb g : Nat} {w w' : World} (h : Exc (fun q => q = g) w w') : Exc (GB rb g) w w' := h.weak fun _ => .inr
theorem Exc.rb {rb g : Nat} {w w' : World} (h : Exc (fun q => q = rb) w w') : Exc (GB rb g) w w' := h.weak fun _ => .inl
def ElO (rb g m : Nat) (w : World) (A : Option Addr) (n : Nat) (l : List El) : Prop := ElM m w A n l ∧ (0 < n → ∀ ad, A = some ad → ¬ GB rb g ad.block)
theorem ElO.exc {rb g m : Nat} {w w' : World} {A : Option Addr} {n : Nat} {l : List El} (h : ElO rb g m w A n l) (hm : 0 < m) (hw : Exc (GB rb g) w w') : ElO rb g m w' A n l := by
 refine ⟨?_, h.2⟩
 rcases Nat.eq_zero_or_pos n with h0 | h0
 ·subst h0
  have hl : l = [] := List.eq_nil_of_length_eq_zero (h.1.len hm)
  subst hl
  exact ElM.nil _ _ _
 ·exact h.1.exc hw (h.2 h0)
theorem ElM.lt {m : Nat} {w : World} {A : Option Addr} {n : Nat} {l : List El} (h : ElM m w A n l) (hm : 0 < m) : 0 < n → ∀ ad, A = some ad → ad.block < w.heap.size := fun hn ad had => by
 have hl := h.len hm
 obtain ⟨_, b, o, hA, hb, _⟩ := h.at_ hm (List.getElem?_eq_getElem (show 0 < l.length by omega))
 rw [hA] at had
 injection had with had
 rw [← had]
 exact hb
theorem RusM.exc {rb g : Nat} {w w' : World} {A : Option Addr} {n : Nat} {l : List Ru} (h : RusM (fun j => ¬ GB rb g j) w A n l) (hw : Exc (GB rb g) w w') : RusM (fun j => ¬ GB rb g j) w' A n l := h.kp (hw.kp fun _ _ hj => hj)
theorem LkM.old {rb g : Nat} {w w' : World} {y : Lk} (h : LkM (fun _ => True) w y) (hr : w.heap.size ≤ rb) (hg : w.heap.size ≤ g) (hw : Exc (GB rb g) w w') :
 (RusM (fun j => ¬ GB rb g j) w' (y.x.A 0) (y.x.n 0) (y.r 0) ∧ RusM (fun j => ¬ GB rb g j) w' (y.x.A 1) (y.x.n 1) (y.r 1)) ∧ ∀ j, j < 5 → ElO rb g (wdE j) w' (y.x.A (j + 2)) (y.x.n (j + 2)) (y.e j) := by
 have hn : ∀ k, k < w.heap.size → ¬ GB rb g k := fun k hk h => by rcases h with h | h <;> omega
 refine ⟨⟨RusM.exc (h.1.mono fun k hk _ => hn k hk) hw, RusM.exc (h.2.1.mono fun k hk _ => hn k hk) hw⟩, fun j hj => ?_⟩
 have hm : 0 < wdE j := by unfold wdE; split <;> (try split) <;> (try split) <;> omega
 exact ElO.exc ⟨h.2.2 j hj, fun h0 ad had => hn _ ((h.2.2 j hj).lt hm h0 ad had)⟩ hm hw
theorem rus_len {ok : Nat → Prop} {w : World} {A : Option Addr} {n : Nat} {l : List Ru} (h : RusM ok w A n l) : l.length = n := SlO.len (f := ruC) (m := 2) (fun _ => rfl) (by decide) h.1.1
def Ef2 (wo : World) (g p : Nat) (cs xs : Array Value) (w : World) : Prop := AtC 37 w g cs ∧ AtC 37 w p xs ∧ Exc (fun q => q = g) wo w ∧ p ≠ g
theorem Ef2.set {wo w : World} {g p : Nat} {cs xs : Array Value} (h : Ef2 wo g p cs xs w) (j : Nat) (v : Value) : Ef2 wo g p (cs.setIfInBounds j v) xs (w.setCell ⟨g, j, none⟩ v) :=
 have e : Exc (fun q => q = g) w (w.setCell ⟨g, j, none⟩ v) := Exc.setCell (S := fun q => q = g) (p := ⟨g, j, none⟩) rfl v
 ⟨h.1.setAt j v, h.2.1.exc e h.2.2.2, h.2.2.1.trans e, h.2.2.2⟩
theorem or_stepR {w : World} {rb g i k m n : Nat} {YL : List Lk} {y : Lk} {a A : Option Addr} (hY : YL[k]? = some y) (hr : RusM (fun j => ¬ GB rb g j) w a m (orF ((YL.take k).map (·.r i)))) (hy : RusM (fun j => ¬ GB rb g j) w (y.x.A i) (y.x.n i) (y.r i))
 (h1 : m = 0 → A = y.x.A i ∧ n = y.x.n i) (h2 : m ≠ 0 → A = a ∧ n = m) : RusM (fun j => ¬ GB rb g j) w A n (orF ((YL.take (k + 1)).map (·.r i))) := by
 rw [or_snoc (·.r i) hY, rus_len hr]
 by_cases h : m = 0
 ·obtain ⟨rfl, rfl⟩ := h1 h
  rw [if_pos h]
  exact hy
 ·obtain ⟨rfl, rfl⟩ := h2 h
  rw [if_neg h]
  exact hr
theorem or_stepE {w : World} {rb g i k m n : Nat} {YL : List Lk} {y : Lk} {a A : Option Addr} (hY : YL[k]? = some y) (hr : ElO rb g 1 w a m (orF ((YL.take k).map (·.e i)))) (hy : ElO rb g 1 w (y.x.A (i + 2)) (y.x.n (i + 2)) (y.e i))
 (h1 : m = 0 → A = y.x.A (i + 2) ∧ n = y.x.n (i + 2)) (h2 : m ≠ 0 → A = a ∧ n = m) : ElO rb g 1 w A n (orF ((YL.take (k + 1)).map (·.e i))) := by
 rw [or_snoc (·.e i) hY, hr.1.len (by decide)]
 by_cases h : m = 0
 ·obtain ⟨rfl, rfl⟩ := h1 h
  rw [if_pos h]
  exact hy
 ·obtain ⟨rfl, rfl⟩ := h2 h
  rw [if_neg h]
  exact hr
theorem sel3 (m : Nat) (a b : Option Addr) (n c n' c' : Nat) : ∃ A N C, (m = 0 → A = b ∧ N = n' ∧ C = c') ∧ (m ≠ 0 → A = a ∧ N = n ∧ C = c) := by
 by_cases h : m = 0
 ·exact ⟨b, n', c', fun _ => ⟨rfl, rfl, rfl⟩, fun h' => absurd h h'⟩
 ·exact ⟨a, n, c, fun h' => absurd h' h, fun _ => ⟨rfl, rfl, rfl⟩⟩
theorem isE_dec (a : ByteArray) : a.toList.isEmpty = decide (a = eB) := by
 by_cases h : a = eB
 ·rw [h, decide_eq_true rfl]; first | rfl | (rw [ByteArray.toList_eq]; rfl)
 ·rw [eB_size h, decide_eq_false h]
theorem zero_dec (m : Nat) : ((m : Int) == 0) = decide (m = 0) := by
 by_cases h : m = 0
 ·rw [h, decide_eq_true rfl]; first | rfl | (rw [ByteArray.toList_eq]; rfl)
 ·rw [decide_eq_false h]; simpa using h
end Go.Proofs.YtljdlkonlnjadaaGreatDoor
