import Derived.Test.YtljdlkonlnjadaaGreatDoorYs
set_option maxRecDepth 100000
set_option linter.unusedSimpArgs false
set_option linter.unusedVariables false
open Go.Lib (hid)
namespace Go.Proofs.YtljdlkonlnjadaaGreatDoor
open Go.RowKit
noncomputable def regR3 : Code := ((Tryz.f9).body.bind (regOf 3)).getD .skip
noncomputable def regR22 : Code := ((Tryz.f9).body.bind (regOf 22)).getD .skip
set_option maxHeartbeats 4000000 in
theorem rfin22 {u0 u1 u2 u3 u5 u6 u7 u9 u10 u11 u12 u13 u14 u15 u16 u17 u18 u19 u20 u21 u22 u23 u24 u25 u26 u27 u28 u29 u30 u31 u32 u33 u34 u35 u36 u37 u38 u39 u40 u41 u42 u43 u44 u45 u46 u47 u48 u49 u50 u51 u52 u53 u54 u55 u56 u57 u58 u59 u60 u61 u62 u63 u64 u65 u66 u67 u68 u69 u70 u71 u72 u73 u74 u75 u76 u77 u78 u79 u80 u81 u82 u83 u84 u85 u86 u87 u88 u89 u90 u91 u92 u93 u94 u95 u96 u97 u98 u99 u100 u101 u102 u103 u104 u105 u106 u107 u108 u109 b0 b1 b2 b3 b4 b5 b6 b7 b8 b9 b10 b11 b12 b13 b14 b15 : Value} {a0 a1 a2 a3 a4 a5 a6 : Option Addr} {n0 n1 n2 n3 n4 n5 n6 c0 c1 c2 c3 c4 c5 c6 g rb : Nat} {t d s0 s1 s2 s3 : ByteArray} {i0 i1 : Int} {w : World} {Q : Exit → Act → World → Prop} {C : Code} (hC : C = regR22)
 (hg : AtC 37 w g (boxG t d ([s0, s1, s2, s3], [i0, i1]) (.slice a0 n0 c0) (.slice a1 n1 c1) (.slice a2 n2 c2) (.slice a3 n3 c3) (.slice a4 n4 c4) (.slice a5 n5 c5) (.slice a6 n6 c6))) (hb : AtC 37 w rb #[b0, b1, b2, b3, b4, b5, b6, b7, b8, b9, b10, b11, b12, b13, b14, b15])
 (hQ : ∀ wf, AtC 37 wf rb (boxG t d ([s0, s1, s2, s3], [i0, i1]) (.slice a0 n0 c0) (.slice a1 n1 c1) (.slice a2 n2 c2) (.slice a3 n3 c3) (.slice a4 n4 c4) (.slice a5 n5 c5) (.slice a6 n6 c6)) → Exc (fun q => q = rb) w wf → Q .normal ⟨#[u0, u1, u2, u3, .pointer (some ⟨rb, 0, none⟩), .int .i64 0, u6, u7, .pointer (some ⟨g, 0, none⟩), u9, u10, u11, u12, u13, u14, u15, u16, u17, u18, u19, u20, u21, u22, u23, u24, u25, u26, u27, u28, u29, u30, u31, u32, u33, u34, u35, u36, u37, u38, u39, u40, u41, u42, u43, u44, u45, u46, u47, u48, u49, u50, u51, u52, u53, u54, u55, u56, u57, u58, u59, u60, u61, u62, u63, u64, u65, u66, u67, u68, u69, u70, u71, u72, u73, u74, u75, u76, u77, u78, u79, u80, u81, u82, u83, u84, u85, u86, u87, u88, u89, u90, u91, u92, u93, u94, u95, u96, u97, u98, u99, u100, u101, u102, u103, u104, u105, u106, u107, u108, .agg #[.string t, .string ⟨#[]⟩, .string d, .slice a0 n0 c0, .slice a1 n1 c1, .string s0, .string s1, .string s2, .string s3, .int .i64 i0, .int .i64 i1, .slice a2 n2 c2, .slice a3 n3 c3, .slice a4 n4 c4, .slice a5 n5 c5, .slice a6 n6 c6]], []⟩ wf) :
 Code.wp Tryz.prog C Q ⟨#[u0, u1, u2, u3, .pointer (some ⟨rb, 0, none⟩), u5, u6, u7, .pointer (some ⟨g, 0, none⟩), u9, u10, u11, u12, u13, u14, u15, u16, u17, u18, u19, u20, u21, u22, u23, u24, u25, u26, u27, u28, u29, u30, u31, u32, u33, u34, u35, u36, u37, u38, u39, u40, u41, u42, u43, u44, u45, u46, u47, u48, u49, u50, u51, u52, u53, u54, u55, u56, u57, u58, u59, u60, u61, u62, u63, u64, u65, u66, u67, u68, u69, u70, u71, u72, u73, u74, u75, u76, u77, u78, u79, u80, u81, u82, u83, u84, u85, u86, u87, u88, u89, u90, u91, u92, u93, u94, u95, u96, u97, u98, u99, u100, u101, u102, u103, u104, u105, u106, u107, u108, u109], []⟩ w := by
 subst hC
 conv => arg 2; whnf
 obtain ⟨q0, q1, q2, q3, q4, q5, q6, q7, q8, q9, q10, q11, q12, q13, q14, q15⟩ := bg16 hg
 have HB := hid hb
 have HQ := hid hQ
 have f0 := frz_of HB.out 0
 have y0 := HB.out.cell 0 _ rfl
 have f1 := frz_of HB.out 1
 have y1 := HB.out.cell 1 _ rfl
 have f2 := frz_of HB.out 2
 have y2 := HB.out.cell 2 _ rfl
 have f3 := frz_of HB.out 3
 have y3 := HB.out.cell 3 _ rfl
 have f4 := frz_of HB.out 4
 have y4 := HB.out.cell 4 _ rfl
 have f5 := frz_of HB.out 5
 have y5 := HB.out.cell 5 _ rfl
 have f6 := frz_of HB.out 6
 have y6 := HB.out.cell 6 _ rfl
 have f7 := frz_of HB.out 7
 have y7 := HB.out.cell 7 _ rfl
 have f8 := frz_of HB.out 8
 have y8 := HB.out.cell 8 _ rfl
 have f9 := frz_of HB.out 9
 have y9 := HB.out.cell 9 _ rfl
 have f10 := frz_of HB.out 10
 have y10 := HB.out.cell 10 _ rfl
 have f11 := frz_of HB.out 11
 have y11 := HB.out.cell 11 _ rfl
 have f12 := frz_of HB.out 12
 have y12 := HB.out.cell 12 _ rfl
 have f13 := frz_of HB.out 13
 have y13 := HB.out.cell 13 _ rfl
 have f14 := frz_of HB.out 14
 have y14 := HB.out.cell 14 _ rfl
 have f15 := frz_of HB.out 15
 have y15 := HB.out.cell 15 _ rfl
 clear hg hb hQ
 go_wp2
 refine HQ.out _ ?_ ?_
 ·exact at_set16 HB.out
 ·exact exc_set16 (S := fun q => q = rb) (Exc.refl _ w) rfl _ _ _ _ _ _ _ _ _ _ _ _ _ _ _ _
set_option maxHeartbeats 4000000 in
theorem rfin3 {u0 u1 u2 u3 u5 u6 u8 u9 u10 u11 u12 u13 u14 u15 u16 u17 u18 u19 u20 u21 u22 u23 u24 u25 u26 u27 u28 u29 u30 u31 u32 u33 u34 u35 u36 u37 u38 u39 u40 u41 u42 u43 u44 u45 u46 u47 u48 u49 u50 u51 u52 u53 u54 u55 u56 u57 u58 u59 u60 u61 u62 u63 u64 u65 u66 u67 u68 u69 u70 u71 u72 u73 u74 u75 u76 u77 u78 u79 u80 u81 u82 u83 u84 u85 u86 u87 u88 u89 u90 u91 u92 u93 u94 u95 u96 u97 u98 u99 u100 u101 u102 u103 u104 u105 u106 u107 u108 u109 : Value} {rb : Nat} {ee : Int} {w : World} {Q : Exit → Act → World → Prop} {C : Code} (hC : C = regR3)
 (hb : AtC 37 w rb #[.string ⟨#[]⟩, .string ⟨#[]⟩, .string ⟨#[]⟩, .slice none 0 0, .slice none 0 0, .string ⟨#[]⟩, .string ⟨#[]⟩, .string ⟨#[]⟩, .string ⟨#[]⟩, .int .i64 0, .int .i64 0, .slice none 0 0, .slice none 0 0, .slice none 0 0, .slice none 0 0, .slice none 0 0])
 (hQ : ∀ wf, AtC 37 wf rb #[.string ⟨#[]⟩, .string ⟨#[]⟩, .string ⟨#[]⟩, .slice none 0 0, .slice none 0 0, .string ⟨#[]⟩, .string ⟨#[]⟩, .string ⟨#[]⟩, .string ⟨#[]⟩, .int .i64 0, .int .i64 0, .slice none 0 0, .slice none 0 0, .slice none 0 0, .slice none 0 0, .slice none 0 0] → Exc (fun q => q = rb) w wf → Q .normal ⟨#[u0, u1, u2, u3, .pointer (some ⟨rb, 0, none⟩), .int .i64 ee, u6, .int .i64 ee, u8, u9, u10, u11, u12, u13, u14, u15, u16, u17, u18, .agg #[.string ⟨#[]⟩, .string ⟨#[]⟩, .string ⟨#[]⟩, .slice none 0 0, .slice none 0 0, .string ⟨#[]⟩, .string ⟨#[]⟩, .string ⟨#[]⟩, .string ⟨#[]⟩, .int .i64 0, .int .i64 0, .slice none 0 0, .slice none 0 0, .slice none 0 0, .slice none 0 0, .slice none 0 0], .int .i64 ee, u21, u22, u23, u24, u25, u26, u27, u28, u29, u30, u31, u32, u33, u34, u35, u36, u37, u38, u39, u40, u41, u42, u43, u44, u45, u46, u47, u48, u49, u50, u51, u52, u53, u54, u55, u56, u57, u58, u59, u60, u61, u62, u63, u64, u65, u66, u67, u68, u69, u70, u71, u72, u73, u74, u75, u76, u77, u78, u79, u80, u81, u82, u83, u84, u85, u86, u87, u88, u89, u90, u91, u92, u93, u94, u95, u96, u97, u98, u99, u100, u101, u102, u103, u104, u105, u106, u107, u108, u109], []⟩ wf) :
 Code.wp Tryz.prog C Q ⟨#[u0, u1, u2, u3, .pointer (some ⟨rb, 0, none⟩), u5, u6, .int .i64 ee, u8, u9, u10, u11, u12, u13, u14, u15, u16, u17, u18, u19, u20, u21, u22, u23, u24, u25, u26, u27, u28, u29, u30, u31, u32, u33, u34, u35, u36, u37, u38, u39, u40, u41, u42, u43, u44, u45, u46, u47, u48, u49, u50, u51, u52, u53, u54, u55, u56, u57, u58, u59, u60, u61, u62, u63, u64, u65, u66, u67, u68, u69, u70, u71, u72, u73, u74, u75, u76, u77, u78, u79, u80, u81, u82, u83, u84, u85, u86, u87, u88, u89, u90, u91, u92, u93, u94, u95, u96, u97, u98, u99, u100, u101, u102, u103, u104, u105, u106, u107, u108, u109], []⟩ w := by
 subst hC
 conv => arg 2; whnf
 have HB := hid hb
 have HQ := hid hQ
 have f0 := frz_of HB.out 0
 have y0 := HB.out.cell 0 _ rfl
 have f1 := frz_of HB.out 1
 have y1 := HB.out.cell 1 _ rfl
 have f2 := frz_of HB.out 2
 have y2 := HB.out.cell 2 _ rfl
 have f3 := frz_of HB.out 3
 have y3 := HB.out.cell 3 _ rfl
 have f4 := frz_of HB.out 4
 have y4 := HB.out.cell 4 _ rfl
 have f5 := frz_of HB.out 5
 have y5 := HB.out.cell 5 _ rfl
 have f6 := frz_of HB.out 6
 have y6 := HB.out.cell 6 _ rfl
 have f7 := frz_of HB.out 7
 have y7 := HB.out.cell 7 _ rfl
 have f8 := frz_of HB.out 8
 have y8 := HB.out.cell 8 _ rfl
 have f9 := frz_of HB.out 9
 have y9 := HB.out.cell 9 _ rfl
 have f10 := frz_of HB.out 10
 have y10 := HB.out.cell 10 _ rfl
 have f11 := frz_of HB.out 11
 have y11 := HB.out.cell 11 _ rfl
 have f12 := frz_of HB.out 12
 have y12 := HB.out.cell 12 _ rfl
 have f13 := frz_of HB.out 13
 have y13 := HB.out.cell 13 _ rfl
 have f14 := frz_of HB.out 14
 have y14 := HB.out.cell 14 _ rfl
 have f15 := frz_of HB.out 15
 have y15 := HB.out.cell 15 _ rfl
 clear hb hQ
 go_wp2
 refine HQ.out _ ?_ ?_
 ·exact at_set16 HB.out
 ·exact exc_set16 (S := fun q => q = rb) (Exc.refl _ w) rfl _ _ _ _ _ _ _ _ _ _ _ _ _ _ _ _
end Go.Proofs.YtljdlkonlnjadaaGreatDoor
namespace Go.Proofs.YtljdlkonlnjadaaGreatDoor
open Go.RowKit
noncomputable def regR8 : Code := ((Tryz.f9).body.bind (regOf 8)).getD .skip
set_option maxHeartbeats 4000000 in
theorem rreg8 {u0 u1 u3 u4 u5 u7 u8 u10 u11 u12 u13 u14 u15 u16 u17 u18 u19 u20 u21 u22 u23 u24 u25 u26 u27 u28 u29 u30 u31 u32 u33 u34 u35 u36 u37 u38 u39 u40 u41 u42 u43 u44 u45 u46 u47 u48 u49 u50 u51 u52 u53 u54 u55 u56 u57 u58 u59 u60 u61 u62 u63 u64 u65 u66 u67 u68 u69 u70 u71 u72 u73 u74 u75 u76 u77 u78 u79 u80 u81 u82 u83 u84 u85 u86 u87 u88 u89 u90 u91 u92 u93 u94 u95 u96 u97 u98 u99 u100 u101 u102 u103 u104 u105 u106 u107 u108 u109 : Value} {ad : Addr} {tb n2 c2 k bL oL ln lc q : Nat} {x : Lc} {w : World} {Q : Exit → Act → World → Prop} {C : Code} (hC : C = regR8) (hk : k < n2) (hq : q < ln)
 (h0 : w.cell? ⟨tb, 0, none⟩ = some (.slice (some ⟨bL, oL, none⟩) ln lc)) (h1 : w.cell? (ad.add k) = some (.int .i64 q))
 (hx : ∀ j u, (lcC x)[j]? = some u → w.cell? ⟨bL, oL + q * 16 + j, none⟩ = some u)
 (hQ : ∀ v36 v37 v38 v39 v40 v41 v42 p wx, AtC 37 wx p #[.string x.t, .string x.p, .string x.d, .slice (x.A 0) (x.n 0) (x.c 0), .slice (x.A 1) (x.n 1) (x.c 1), .string (x.s 0), .string (x.s 1), .string (x.s 2), .string (x.s 3), .int .i64 (x.i 0), .int .i64 (x.i 1), .slice (x.A 2) (x.n 2) (x.c 2), .slice (x.A 3) (x.n 3) (x.c 3), .slice (x.A 4) (x.n 4) (x.c 4), .slice (x.A 5) (x.n 5) (x.c 5), .slice (x.A 6) (x.n 6) (x.c 6)] → Ext w wx → w.heap.size ≤ p → Q .normal ⟨#[u0, u1, .pointer (some ⟨tb, 0, none⟩), u3, u4, u5, .slice (some ad) n2 c2, u7, u8, .int .i64 k, .pointer (some ⟨p, 0, none⟩), u11, u12, u13, u14, u15, u16, u17, u18, u19, u20, u21, u22, u23, u24, u25, u26, u27, u28, u29, u30, u31, u32, u33, u34, u35, v36, v37, v38, v39, v40, v41, v42, .agg #[.string x.t, .string x.p, .string x.d, .slice (x.A 0) (x.n 0) (x.c 0), .slice (x.A 1) (x.n 1) (x.c 1), .string (x.s 0), .string (x.s 1), .string (x.s 2), .string (x.s 3), .int .i64 (x.i 0), .int .i64 (x.i 1), .slice (x.A 2) (x.n 2) (x.c 2), .slice (x.A 3) (x.n 3) (x.c 3), .slice (x.A 4) (x.n 4) (x.c 4), .slice (x.A 5) (x.n 5) (x.c 5), .slice (x.A 6) (x.n 6) (x.c 6)], u44, u45, u46, u47, u48, u49, u50, u51, u52, u53, u54, u55, u56, u57, u58, u59, u60, u61, u62, u63, u64, u65, u66, u67, u68, u69, u70, u71, u72, u73, u74, u75, u76, u77, u78, u79, u80, u81, u82, u83, u84, u85, u86, u87, u88, u89, u90, u91, u92, u93, u94, u95, u96, u97, u98, u99, u100, u101, u102, u103, u104, u105, u106, u107, u108, u109], []⟩ wx) :
 Code.wp Tryz.prog C Q ⟨#[u0, u1, .pointer (some ⟨tb, 0, none⟩), u3, u4, u5, .slice (some ad) n2 c2, u7, u8, .int .i64 k, u10, u11, u12, u13, u14, u15, u16, u17, u18, u19, u20, u21, u22, u23, u24, u25, u26, u27, u28, u29, u30, u31, u32, u33, u34, u35, u36, u37, u38, u39, u40, u41, u42, u43, u44, u45, u46, u47, u48, u49, u50, u51, u52, u53, u54, u55, u56, u57, u58, u59, u60, u61, u62, u63, u64, u65, u66, u67, u68, u69, u70, u71, u72, u73, u74, u75, u76, u77, u78, u79, u80, u81, u82, u83, u84, u85, u86, u87, u88, u89, u90, u91, u92, u93, u94, u95, u96, u97, u98, u99, u100, u101, u102, u103, u104, u105, u106, u107, u108, u109], []⟩ w := by
 subst hC
 conv => arg 2; whnf
 have hkI : (k : Int) < (n2 : Int) := by omega
 have hqI : (q : Int) < (ln : Int) := by omega
 have a0 := hx 0 _ rfl
 simp only [Nat.add_zero] at a0
 have a1 := hx 1 _ rfl
 have a2 := hx 2 _ rfl
 have a3 := hx 3 _ rfl
 have a4 := hx 4 _ rfl
 have a5 := hx 5 _ rfl
 have a6 := hx 6 _ rfl
 have a7 := hx 7 _ rfl
 have a8 := hx 8 _ rfl
 have a9 := hx 9 _ rfl
 have a10 := hx 10 _ rfl
 have a11 := hx 11 _ rfl
 have a12 := hx 12 _ rfl
 have a13 := hx 13 _ rfl
 have a14 := hx 14 _ rfl
 have a15 := hx 15 _ rfl
 have HQ := hid hQ
 have e0 := World.new_ne w _ h0
 have e1 := World.new_ne w _ h1
 have e2 := World.new_ne w _ a0
 clear hx hQ
 go_region_held3 (fun w' => w'.cell? ⟨tb, 0, none⟩ = some (.slice (some ⟨bL, oL, none⟩) ln lc) ∧ w'.cell? (ad.add k) = some (.int .i64 q) ∧ w'.cell? ⟨bL, oL + q * 16, none⟩ = some (.string x.t) ∧ w'.cell? ⟨bL, oL + q * 16 + 1, none⟩ = some (.string x.p) ∧ w'.cell? ⟨bL, oL + q * 16 + 2, none⟩ = some (.string x.d) ∧ w'.cell? ⟨bL, oL + q * 16 + 3, none⟩ = some (.slice (x.A 0) (x.n 0) (x.c 0)) ∧ w'.cell? ⟨bL, oL + q * 16 + 4, none⟩ = some (.slice (x.A 1) (x.n 1) (x.c 1)) ∧ w'.cell? ⟨bL, oL + q * 16 + 5, none⟩ = some (.string (x.s 0)) ∧ w'.cell? ⟨bL, oL + q * 16 + 6, none⟩ = some (.string (x.s 1)) ∧ w'.cell? ⟨bL, oL + q * 16 + 7, none⟩ = some (.string (x.s 2)) ∧ w'.cell? ⟨bL, oL + q * 16 + 8, none⟩ = some (.string (x.s 3)) ∧ w'.cell? ⟨bL, oL + q * 16 + 9, none⟩ = some (.int .i64 (x.i 0)) ∧ w'.cell? ⟨bL, oL + q * 16 + 10, none⟩ = some (.int .i64 (x.i 1)) ∧ w'.cell? ⟨bL, oL + q * 16 + 11, none⟩ = some (.slice (x.A 2) (x.n 2) (x.c 2)) ∧ w'.cell? ⟨bL, oL + q * 16 + 12, none⟩ = some (.slice (x.A 3) (x.n 3) (x.c 3)) ∧ w'.cell? ⟨bL, oL + q * 16 + 13, none⟩ = some (.slice (x.A 4) (x.n 4) (x.c 4)) ∧ w'.cell? ⟨bL, oL + q * 16 + 14, none⟩ = some (.slice (x.A 5) (x.n 5) (x.c 5)) ∧ w'.cell? ⟨bL, oL + q * 16 + 15, none⟩ = some (.slice (x.A 6) (x.n 6) (x.c 6))) (go_keep) (fail)
 exact HQ.out _ _ _ _ _ _ _ _ _ ((AtC.new w _).ext (Ext.refl _).drew) ((Ext.refl w).alloc _).drew (Nat.le_refl _)
end Go.Proofs.YtljdlkonlnjadaaGreatDoor
namespace Go.Proofs.YtljdlkonlnjadaaGreatDoor
open Go.RowKit
noncomputable def regR4 : Code := ((Tryz.f9).body.bind (regOf 4)).getD .skip
set_option maxHeartbeats 4000000 in
theorem rreg4 {u0 u1 u3 u4 u5 u7 u8 u9 u10 u11 u12 u13 u14 u15 u16 u17 u18 u19 u20 u21 u22 u23 u24 u25 u26 u27 u28 u29 u30 u31 u32 u33 u34 u35 u36 u37 u38 u39 u40 u41 u42 u43 u44 u45 u46 u47 u48 u49 u50 u51 u52 u53 u54 u55 u56 u57 u58 u59 u60 u61 u62 u63 u64 u65 u66 u67 u68 u69 u70 u71 u72 u73 u74 u75 u76 u77 u78 u79 u80 u81 u82 u83 u84 u85 u86 u87 u88 u89 u90 u91 u92 u93 u94 u95 u96 u97 u98 u99 u100 u101 u102 u103 u104 u105 u106 u107 u108 u109 : Value} {ad : Addr} {tb n2 c2 bL oL ln lc q : Nat} {xt : ByteArray} {w : World} {Q : Exit → Act → World → Prop} {C : Code} (hC : C = regR4) (hk : 0 < n2) (hq : q < ln)
 (h0 : w.cell? ⟨tb, 0, none⟩ = some (.slice (some ⟨bL, oL, none⟩) ln lc)) (h1 : w.cell? ad = some (.int .i64 q)) (h2 : w.cell? ⟨bL, oL + q * 16, none⟩ = some (.string xt))
 (hQ : ∀ v21 v22 v23 v24 v25 v26 v27 v28 v29 p wx, AtC 37 wx p #[.string xt, .string ⟨#[]⟩, .string ⟨#[]⟩, .slice none 0 0, .slice none 0 0, .string ⟨#[]⟩, .string ⟨#[]⟩, .string ⟨#[]⟩, .string ⟨#[]⟩, .int .i64 0, .int .i64 0, .slice none 0 0, .slice none 0 0, .slice none 0 0, .slice none 0 0, .slice none 0 0] → Ext w wx → p = w.heap.size → Q .normal ⟨#[u0, u1, .pointer (some ⟨tb, 0, none⟩), u3, u4, u5, .slice (some ad) n2 c2, u7, .pointer (some ⟨p, 0, none⟩), u9, u10, u11, u12, u13, u14, u15, u16, u17, u18, u19, u20, v21, v22, v23, v24, v25, v26, v27, v28, v29, u30, u31, u32, u33, u34, u35, u36, u37, u38, u39, u40, u41, u42, u43, u44, u45, u46, u47, u48, u49, u50, u51, u52, u53, u54, u55, u56, u57, u58, u59, u60, u61, u62, u63, u64, u65, u66, u67, u68, u69, u70, u71, u72, u73, u74, u75, u76, u77, u78, u79, u80, u81, u82, u83, u84, u85, u86, u87, u88, u89, u90, u91, u92, u93, u94, u95, u96, u97, u98, u99, u100, u101, u102, u103, u104, u105, u106, u107, u108, u109], []⟩ wx) :
 Code.wp Tryz.prog C Q ⟨#[u0, u1, .pointer (some ⟨tb, 0, none⟩), u3, u4, u5, .slice (some ad) n2 c2, u7, u8, u9, u10, u11, u12, u13, u14, u15, u16, u17, u18, u19, u20, u21, u22, u23, u24, u25, u26, u27, u28, u29, u30, u31, u32, u33, u34, u35, u36, u37, u38, u39, u40, u41, u42, u43, u44, u45, u46, u47, u48, u49, u50, u51, u52, u53, u54, u55, u56, u57, u58, u59, u60, u61, u62, u63, u64, u65, u66, u67, u68, u69, u70, u71, u72, u73, u74, u75, u76, u77, u78, u79, u80, u81, u82, u83, u84, u85, u86, u87, u88, u89, u90, u91, u92, u93, u94, u95, u96, u97, u98, u99, u100, u101, u102, u103, u104, u105, u106, u107, u108, u109], []⟩ w := by
 subst hC
 conv => arg 2; whnf
 have hkI : (0 : Int) < (n2 : Int) := by omega
 have hqI : (q : Int) < (ln : Int) := by omega
 have HQ := hid hQ
 have e0 := World.new_ne w _ h0
 have e1 := World.new_ne w _ h1
 have e2 := World.new_ne w _ h2
 clear hQ
 go_region_held3 (fun w' => w'.cell? ⟨tb, 0, none⟩ = some (.slice (some ⟨bL, oL, none⟩) ln lc) ∧ w'.cell? ad = some (.int .i64 q) ∧ w'.cell? ⟨bL, oL + q * 16, none⟩ = some (.string xt)) (go_keep) (fail)
 exact HQ.out _ _ _ _ _ _ _ _ _ _ _ ((AtC.new w _).ext (Ext.refl _).drew) ((Ext.refl w).alloc _).drew rfl
end Go.Proofs.YtljdlkonlnjadaaGreatDoor
