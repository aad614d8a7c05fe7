import Derived.Test.YtljdlkonlnjadaaGreatDoorNZB
set_option maxRecDepth 100000
set_option linter.unusedSimpArgs false
set_option linter.unusedVariables false
open Go.Lib (hid)
namespace Go.Proofs.YtljdlkonlnjadaaGreatDoor
open Go.RowKit
def regOf (n : Nat) : Code → Option Code
 | .region k o b => if k = n then some (.region k o b) else none
 | .loop c => regOf n c
 | .seq a b => match regOf n a with
   | some c => some c
   | none => regOf n b
 | .block _ c => regOf n c
 | .scope c => regOf n c
 | .cond _ a b => match regOf n a with
   | some c => some c
   | none => regOf n b
 | _ => none
noncomputable def regT13 : Code := ((Tryz.f8).body.bind (regOf 13)).getD .skip
noncomputable def regT3 : Code := ((Tryz.f8).body.bind (regOf 3)).getD .skip
noncomputable def regT : Code := ((Tryz.f8).body.bind (regOf 27)).getD .skip
set_option maxHeartbeats 4000000 in
theorem fin27 {u0 u1 u2 u3 u5 u6 u7 u8 u9 u10 u12 u13 u14 u15 u16 u17 u18 u19 u20 u21 u22 u23 u24 u25 u26 u27 u28 u29 u30 u31 u32 u33 u34 u35 u36 u37 u38 u39 u40 u41 u42 u43 u44 u45 u46 u47 u48 u49 u50 u51 u52 u53 u54 u55 u56 u57 u58 u59 u60 u61 u62 u63 u64 u65 u66 u67 u68 u69 u70 u71 u72 u73 u74 u75 u76 u77 u78 u79 u80 u81 u82 u83 u84 u85 u86 u87 u88 u89 u90 u91 u92 u93 u94 u95 u96 u97 u98 u99 u100 u101 b0 b1 b2 b3 b4 b5 b6 b7 b8 b9 b10 b11 b12 b13 b14 b15 : Value} {a0 a1 a2 a3 a4 a5 a6 : Option Addr} {n0 n1 n2 n3 n4 n5 n6 c0 c1 c2 c3 c4 c5 c6 g rb : Nat} {t d s0 s1 s2 s3 : ByteArray} {i0 i1 : Int} {w : World} {Q : Exit → Act → World → Prop} {C : Code} (hC : C = regT)
 (hg : AtC 37 w g (boxG t d ([s0, s1, s2, s3], [i0, i1]) (.slice a0 n0 c0) (.slice a1 n1 c1) (.slice a2 n2 c2) (.slice a3 n3 c3) (.slice a4 n4 c4) (.slice a5 n5 c5) (.slice a6 n6 c6))) (hb : AtC 37 w rb #[b0, b1, b2, b3, b4, b5, b6, b7, b8, b9, b10, b11, b12, b13, b14, b15])
 (hQ : ∀ wf, AtC 37 wf rb (boxG t d ([s0, s1, s2, s3], [i0, i1]) (.slice a0 n0 c0) (.slice a1 n1 c1) (.slice a2 n2 c2) (.slice a3 n3 c3) (.slice a4 n4 c4) (.slice a5 n5 c5) (.slice a6 n6 c6)) → Exc (fun q => q = rb) w wf → Q .normal ⟨#[u0, u1, u2, u3, .pointer (some ⟨rb, 0, none⟩), .int .i64 0, u6, u7, u8, u9, u10, .pointer (some ⟨g, 0, none⟩), u12, u13, u14, u15, u16, u17, u18, u19, u20, u21, u22, u23, u24, u25, u26, u27, u28, u29, u30, u31, u32, u33, u34, u35, u36, u37, u38, u39, u40, u41, u42, u43, u44, u45, u46, u47, u48, u49, u50, u51, u52, u53, u54, u55, u56, u57, u58, u59, u60, u61, u62, u63, u64, u65, u66, u67, u68, u69, u70, u71, u72, u73, u74, u75, u76, u77, u78, u79, u80, u81, u82, u83, u84, u85, u86, u87, u88, u89, u90, u91, u92, u93, u94, u95, u96, u97, u98, u99, u100, .agg #[.string t, .string ⟨#[]⟩, .string d, .slice a0 n0 c0, .slice a1 n1 c1, .string s0, .string s1, .string s2, .string s3, .int .i64 i0, .int .i64 i1, .slice a2 n2 c2, .slice a3 n3 c3, .slice a4 n4 c4, .slice a5 n5 c5, .slice a6 n6 c6]], []⟩ wf) :
 Code.wp Tryz.prog C Q ⟨#[u0, u1, u2, u3, .pointer (some ⟨rb, 0, none⟩), u5, u6, u7, u8, u9, u10, .pointer (some ⟨g, 0, none⟩), u12, u13, u14, u15, u16, u17, u18, u19, u20, u21, u22, u23, u24, u25, u26, u27, u28, u29, u30, u31, u32, u33, u34, u35, u36, u37, u38, u39, u40, u41, u42, u43, u44, u45, u46, u47, u48, u49, u50, u51, u52, u53, u54, u55, u56, u57, u58, u59, u60, u61, u62, u63, u64, u65, u66, u67, u68, u69, u70, u71, u72, u73, u74, u75, u76, u77, u78, u79, u80, u81, u82, u83, u84, u85, u86, u87, u88, u89, u90, u91, u92, u93, u94, u95, u96, u97, u98, u99, u100, u101], []⟩ w := by
 subst hC
 conv => arg 2; whnf
 obtain ⟨q0, q1, q2, q3, q4, q5, q6, q7, q8, q9, q10, q11, q12, q13, q14, q15⟩ := bg16 hg
 have HB := hid hb
 have HQ := hid hQ
 have f0 := frz_of HB.out 0
 have y0 := HB.out.cell 0 _ rfl
 have f1 := frz_of HB.out 1
 have y1 := HB.out.cell 1 _ rfl
 have f2 := frz_of HB.out 2
 have y2 := HB.out.cell 2 _ rfl
 have f3 := frz_of HB.out 3
 have y3 := HB.out.cell 3 _ rfl
 have f4 := frz_of HB.out 4
 have y4 := HB.out.cell 4 _ rfl
 have f5 := frz_of HB.out 5
 have y5 := HB.out.cell 5 _ rfl
 have f6 := frz_of HB.out 6
 have y6 := HB.out.cell 6 _ rfl
 have f7 := frz_of HB.out 7
 have y7 := HB.out.cell 7 _ rfl
 have f8 := frz_of HB.out 8
 have y8 := HB.out.cell 8 _ rfl
 have f9 := frz_of HB.out 9
 have y9 := HB.out.cell 9 _ rfl
 have f10 := frz_of HB.out 10
 have y10 := HB.out.cell 10 _ rfl
 have f11 := frz_of HB.out 11
 have y11 := HB.out.cell 11 _ rfl
 have f12 := frz_of HB.out 12
 have y12 := HB.out.cell 12 _ rfl
 have f13 := frz_of HB.out 13
 have y13 := HB.out.cell 13 _ rfl
 have f14 := frz_of HB.out 14
 have y14 := HB.out.cell 14 _ rfl
 have f15 := frz_of HB.out 15
 have y15 := HB.out.cell 15 _ rfl
 clear hg hb hQ
 go_wp2
 refine HQ.out _ ?_ ?_
 ·exact at_set16 HB.out
 ·exact exc_set16 (S := fun q => q = rb) (Exc.refl _ w) rfl _ _ _ _ _ _ _ _ _ _ _ _ _ _ _ _
set_option maxHeartbeats 4000000 in
theorem fin3 {u0 u1 u2 u3 u5 u6 u8 u9 u10 u11 u12 u13 u14 u15 u16 u17 u18 u19 u20 u21 u22 u23 u24 u25 u26 u27 u28 u29 u30 u31 u32 u33 u34 u35 u36 u37 u38 u39 u40 u41 u42 u43 u44 u45 u46 u47 u48 u49 u50 u51 u52 u53 u54 u55 u56 u57 u58 u59 u60 u61 u62 u63 u64 u65 u66 u67 u68 u69 u70 u71 u72 u73 u74 u75 u76 u77 u78 u79 u80 u81 u82 u83 u84 u85 u86 u87 u88 u89 u90 u91 u92 u93 u94 u95 u96 u97 u98 u99 u100 u101 : Value} {rb : Nat} {ee : Int} {w : World} {Q : Exit → Act → World → Prop} {C : Code} (hC : C = regT3)
 (hb : AtC 37 w rb #[.string ⟨#[]⟩, .string ⟨#[]⟩, .string ⟨#[]⟩, .slice none 0 0, .slice none 0 0, .string ⟨#[]⟩, .string ⟨#[]⟩, .string ⟨#[]⟩, .string ⟨#[]⟩, .int .i64 0, .int .i64 0, .slice none 0 0, .slice none 0 0, .slice none 0 0, .slice none 0 0, .slice none 0 0])
 (hQ : ∀ wf, AtC 37 wf rb #[.string ⟨#[]⟩, .string ⟨#[]⟩, .string ⟨#[]⟩, .slice none 0 0, .slice none 0 0, .string ⟨#[]⟩, .string ⟨#[]⟩, .string ⟨#[]⟩, .string ⟨#[]⟩, .int .i64 0, .int .i64 0, .slice none 0 0, .slice none 0 0, .slice none 0 0, .slice none 0 0, .slice none 0 0] → Exc (fun q => q = rb) w wf → Q .normal ⟨#[u0, u1, u2, u3, .pointer (some ⟨rb, 0, none⟩), .int .i64 ee, u6, .int .i64 ee, u8, u9, u10, u11, u12, u13, u14, u15, u16, u17, u18, u19, u20, u21, .agg #[.string ⟨#[]⟩, .string ⟨#[]⟩, .string ⟨#[]⟩, .slice none 0 0, .slice none 0 0, .string ⟨#[]⟩, .string ⟨#[]⟩, .string ⟨#[]⟩, .string ⟨#[]⟩, .int .i64 0, .int .i64 0, .slice none 0 0, .slice none 0 0, .slice none 0 0, .slice none 0 0, .slice none 0 0], .int .i64 ee, u24, u25, u26, u27, u28, u29, u30, u31, u32, u33, u34, u35, u36, u37, u38, u39, u40, u41, u42, u43, u44, u45, u46, u47, u48, u49, u50, u51, u52, u53, u54, u55, u56, u57, u58, u59, u60, u61, u62, u63, u64, u65, u66, u67, u68, u69, u70, u71, u72, u73, u74, u75, u76, u77, u78, u79, u80, u81, u82, u83, u84, u85, u86, u87, u88, u89, u90, u91, u92, u93, u94, u95, u96, u97, u98, u99, u100, u101], []⟩ wf) :
 Code.wp Tryz.prog C Q ⟨#[u0, u1, u2, u3, .pointer (some ⟨rb, 0, none⟩), u5, u6, .int .i64 ee, u8, u9, u10, u11, u12, u13, u14, u15, u16, u17, u18, u19, u20, u21, u22, u23, u24, u25, u26, u27, u28, u29, u30, u31, u32, u33, u34, u35, u36, u37, u38, u39, u40, u41, u42, u43, u44, u45, u46, u47, u48, u49, u50, u51, u52, u53, u54, u55, u56, u57, u58, u59, u60, u61, u62, u63, u64, u65, u66, u67, u68, u69, u70, u71, u72, u73, u74, u75, u76, u77, u78, u79, u80, u81, u82, u83, u84, u85, u86, u87, u88, u89, u90, u91, u92, u93, u94, u95, u96, u97, u98, u99, u100, u101], []⟩ w := by
 subst hC
 conv => arg 2; whnf
 have HB := hid hb
 have HQ := hid hQ
 have f0 := frz_of HB.out 0
 have y0 := HB.out.cell 0 _ rfl
 have f1 := frz_of HB.out 1
 have y1 := HB.out.cell 1 _ rfl
 have f2 := frz_of HB.out 2
 have y2 := HB.out.cell 2 _ rfl
 have f3 := frz_of HB.out 3
 have y3 := HB.out.cell 3 _ rfl
 have f4 := frz_of HB.out 4
 have y4 := HB.out.cell 4 _ rfl
 have f5 := frz_of HB.out 5
 have y5 := HB.out.cell 5 _ rfl
 have f6 := frz_of HB.out 6
 have y6 := HB.out.cell 6 _ rfl
 have f7 := frz_of HB.out 7
 have y7 := HB.out.cell 7 _ rfl
 have f8 := frz_of HB.out 8
 have y8 := HB.out.cell 8 _ rfl
 have f9 := frz_of HB.out 9
 have y9 := HB.out.cell 9 _ rfl
 have f10 := frz_of HB.out 10
 have y10 := HB.out.cell 10 _ rfl
 have f11 := frz_of HB.out 11
 have y11 := HB.out.cell 11 _ rfl
 have f12 := frz_of HB.out 12
 have y12 := HB.out.cell 12 _ rfl
 have f13 := frz_of HB.out 13
 have y13 := HB.out.cell 13 _ rfl
 have f14 := frz_of HB.out 14
 have y14 := HB.out.cell 14 _ rfl
 have f15 := frz_of HB.out 15
 have y15 := HB.out.cell 15 _ rfl
 clear hb hQ
 go_wp2
 refine HQ.out _ ?_ ?_
 ·exact at_set16 HB.out
 ·exact exc_set16 (S := fun q => q = rb) (Exc.refl _ w) rfl _ _ _ _ _ _ _ _ _ _ _ _ _ _ _ _
set_option maxHeartbeats 4000000 in
theorem reg13 {u0 u1 u2 u3 u4 u5 u6 u7 u8 u9 u10 u11 u12 u13 u14 u15 u16 u17 u18 u19 u20 u21 u22 u23 u24 u25 u26 u27 u28 u29 u30 u31 u32 u33 u34 u35 u36 u37 u38 u39 u40 u41 u42 u43 u45 u47 u48 u49 u50 u51 u52 u53 u54 u55 u56 u57 u58 u59 u60 u61 u62 u63 u64 u65 u66 u67 u68 u69 u70 u71 u72 u73 u74 u75 u76 u77 u78 u79 u80 u81 u82 u83 u84 u85 u86 u87 u88 u89 u90 u91 u92 u93 u94 u95 u96 u97 u98 u99 u100 u101 : Value} {b o k c5 j : Nat} {x : Lc} {w : World} {Q : Exit → Act → World → Prop} {C : Code} (hC : C = regT13) (hj : j < k) (hk : k ≤ 12)
 (hx : ∀ q u, (lcC x)[q]? = some u → w.cell? ⟨b, o + j * 16 + q, none⟩ = some u)
 (hQ : ∀ v, Q .normal ⟨#[u0, u1, u2, u3, u4, u5, u6, u7, u8, u9, u10, u11, u12, .pointer (some ⟨w.heap.size, 0, none⟩), u14, u15, u16, u17, u18, u19, u20, u21, u22, u23, u24, u25, u26, u27, u28, u29, u30, u31, u32, u33, u34, u35, u36, u37, u38, u39, u40, u41, u42, u43, .slice (some ⟨b, o, none⟩) k c5, u45, .int .i64 j, u47, v, .agg #[.string x.t, .string x.p, .string x.d, .slice (x.A 0) (x.n 0) (x.c 0), .slice (x.A 1) (x.n 1) (x.c 1), .string (x.s 0), .string (x.s 1), .string (x.s 2), .string (x.s 3), .int .i64 (x.i 0), .int .i64 (x.i 1), .slice (x.A 2) (x.n 2) (x.c 2), .slice (x.A 3) (x.n 3) (x.c 3), .slice (x.A 4) (x.n 4) (x.c 4), .slice (x.A 5) (x.n 5) (x.c 5), .slice (x.A 6) (x.n 6) (x.c 6)], u50, u51, u52, u53, u54, u55, u56, u57, u58, u59, u60, u61, u62, u63, u64, u65, u66, u67, u68, u69, u70, u71, u72, u73, u74, u75, u76, u77, u78, u79, u80, u81, u82, u83, u84, u85, u86, u87, u88, u89, u90, u91, u92, u93, u94, u95, u96, u97, u98, u99, u100, u101], []⟩ (w.alloc (.cells #[.string x.t, .string x.p, .string x.d, .slice (x.A 0) (x.n 0) (x.c 0), .slice (x.A 1) (x.n 1) (x.c 1), .string (x.s 0), .string (x.s 1), .string (x.s 2), .string (x.s 3), .int .i64 (x.i 0), .int .i64 (x.i 1), .slice (x.A 2) (x.n 2) (x.c 2), .slice (x.A 3) (x.n 3) (x.c 3), .slice (x.A 4) (x.n 4) (x.c 4), .slice (x.A 5) (x.n 5) (x.c 5), .slice (x.A 6) (x.n 6) (x.c 6)] 37))) :
 Code.wp Tryz.prog C Q ⟨#[u0, u1, u2, u3, u4, u5, u6, u7, u8, u9, u10, u11, u12, u13, u14, u15, u16, u17, u18, u19, u20, u21, u22, u23, u24, u25, u26, u27, u28, u29, u30, u31, u32, u33, u34, u35, u36, u37, u38, u39, u40, u41, u42, u43, .slice (some ⟨b, o, none⟩) k c5, u45, .int .i64 j, u47, u48, u49, u50, u51, u52, u53, u54, u55, u56, u57, u58, u59, u60, u61, u62, u63, u64, u65, u66, u67, u68, u69, u70, u71, u72, u73, u74, u75, u76, u77, u78, u79, u80, u81, u82, u83, u84, u85, u86, u87, u88, u89, u90, u91, u92, u93, u94, u95, u96, u97, u98, u99, u100, u101], []⟩ w := by
 subst hC
 conv => arg 2; whnf
 have a0 := hx 0 _ rfl
 simp only [Nat.add_zero] at a0
 have a1 := hx 1 _ rfl
 have a2 := hx 2 _ rfl
 have a3 := hx 3 _ rfl
 have a4 := hx 4 _ rfl
 have a5 := hx 5 _ rfl
 have a6 := hx 6 _ rfl
 have a7 := hx 7 _ rfl
 have a8 := hx 8 _ rfl
 have a9 := hx 9 _ rfl
 have a10 := hx 10 _ rfl
 have a11 := hx 11 _ rfl
 have a12 := hx 12 _ rfl
 have a13 := hx 13 _ rfl
 have a14 := hx 14 _ rfl
 have a15 := hx 15 _ rfl
 have HQ := hid hQ
 have hjI : (j : Int) < (k : Int) := by omega
 clear hx hQ
 go_wp2
 exact HQ.out _
end Go.Proofs.YtljdlkonlnjadaaGreatDoor
