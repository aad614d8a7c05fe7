import Derived.Test.YtiijdojihleggaaGreatDoorRNZB
import Derived.Test.YtiijdojihleggaaGreatDoorRZrjg
set_option maxRecDepth 100000
set_option linter.unusedSimpArgs false
set_option linter.unusedVariables false
open Go.Lib (hid)
namespace Go.Proofs.YtiijdojihleggaaGreatDoor
open Go.RowKit
noncomputable def regE8 : Code := ((Tryz.f5).body.bind (regOf15 8)).getD .skip
def RE8 (b o q bx : Nat) (x s : ByteArray) (w' : World) : Prop := w'.cell? ⟨b, o + q * 2, none⟩ = some (.string x) ∧ w'.cell? ⟨bx, 1, none⟩ = some (.int .i64 1000) ∧ w'.cell? ⟨bx, 2, none⟩ = some (.string s)
theorem wpAnyT_step {P : Program} {ops : Array Oper} {Q : Exit → Act → World → Prop} {md : Region.Mode} {S : World → Prop} {n i : Nat} {o : Oper} {f : Nat} {listed : Array Bool} {a : Act} {w : World} (hr : Region.ready md ops listed = [i]) (ho : ops[i]? = some o) (hw : Region.wanted o (yielded ops a.tmps) = true)
 (h : ∀ K' : Act → World → Prop, RowKit.Hid (∀ a' w', ((i < n → S w') ∧ wpAnyT P md ops Q S n f (listed.setIfInBounds i true) a' w') → K' a' w') → Oper.wp P o a w K' Q) : wpAnyT P md ops Q S n (f + 1) listed a w :=
 wpAnyT_all hr (by simp) fun j hj => by
  rw [List.mem_singleton] at hj
  subst hj
  exact wpOp_step15 ho hw h
set_option maxHeartbeats 4000000 in
theorem re8 {u2 u3 u4 u5 u6 u7 u8 u9 u10 u11 u12 u15 u16 u17 u18 u19 u20 u21 u22 u23 u24 u25 u26 u27 u28 u29 u30 u31 u32 u33 u34 u35 u36 u37 u38 u39 u40 u41 u42 u43 u44 u45 u46 u47 u48 u49 u50 u51 u52 u53 u54 u55 u56 u57 u58 u59 u60 u61 u62 u63 u64 u65 u66 u67 u68 u69 u70 u71 u72 u73 u74 u75 u76 u77 u78 u79 u80 u81 u82 u83 u84 u85 u86 u87 u88 u89 u90 u91 u92 u93 u94 u95 u96 u97 u98 u99 u100 u101 u102 u103 u104 u105 u106 u107 u108 u109 u110 u111 u112 u113 u114 u115 u116 u117 u118 u119 u120 u121 u122 u123 u124 u125 u126 u127 : Value} {b o a q N c bx : Nat} {x s : ByteArray} {w : World} {Q : Exit → Act → World → Prop} {C : Code} (hC : C = regE8)
 (h0 : w.cell? ⟨b, o + q * 2, none⟩ = some (.string x)) (h1 : w.cell? ⟨bx, 1, none⟩ = some (.int .i64 1000)) (h2 : w.cell? ⟨bx, 2, none⟩ = some (.string s)) (hb : b < w.heap.size) (hbx : bx < w.heap.size) (hqm : q = a % N) (hN : 0 < N) (hN2 : N ≤ 1000) (ha : a < 256) (hws : wsB s = wsB x) (hs : s.size ≤ 400) (hxs : x.size ≤ 400)
 (hQ : ∀ z66 z67 z68 z69 z70 z71 z72 z73 z74 z75 z76 z77 z78 z79 z80 z81 z82 z83 z84 z85 z86 z87 z88 w', Ext w w' → Q .normal ⟨#[.slice (some ⟨b, o, none⟩) N c, .int .u8 a, u2, u3, u4, u5, u6, u7, u8, u9, u10, u11, u12, .pointer (some ⟨bx, 0, none⟩), .bool true, u15, u16, u17, u18, u19, u20, u21, u22, u23, u24, u25, u26, u27, u28, u29, u30, u31, u32, u33, u34, u35, u36, u37, u38, u39, u40, u41, u42, u43, u44, u45, u46, u47, u48, u49, u50, u51, u52, u53, u54, u55, u56, u57, u58, u59, u60, u61, u62, u63, u64, u65, z66, z67, z68, z69, z70, z71, z72, z73, z74, z75, z76, z77, z78, z79, z80, z81, z82, z83, z84, z85, z86, z87, z88, .bool false, u90, u91, u92, u93, u94, u95, u96, u97, u98, u99, u100, u101, u102, u103, u104, u105, u106, u107, u108, u109, u110, u111, u112, u113, u114, u115, u116, u117, u118, u119, u120, u121, u122, u123, u124, u125, u126, u127], []⟩ w') :
 Code.wp Tryz.prog C Q ⟨#[.slice (some ⟨b, o, none⟩) N c, .int .u8 a, u2, u3, u4, u5, u6, u7, u8, u9, u10, u11, u12, .pointer (some ⟨bx, 0, none⟩), .bool true, u15, u16, u17, u18, u19, u20, u21, u22, u23, u24, u25, u26, u27, u28, u29, u30, u31, u32, u33, u34, u35, u36, u37, u38, u39, u40, u41, u42, u43, u44, u45, u46, u47, u48, u49, u50, u51, u52, u53, u54, u55, u56, u57, u58, u59, u60, u61, u62, u63, u64, u65, u66, u67, u68, u69, u70, u71, u72, u73, u74, u75, u76, u77, u78, u79, u80, u81, u82, u83, u84, u85, u86, u87, u88, u89, u90, u91, u92, u93, u94, u95, u96, u97, u98, u99, u100, u101, u102, u103, u104, u105, u106, u107, u108, u109, u110, u111, u112, u113, u114, u115, u116, u117, u118, u119, u120, u121, u122, u123, u124, u125, u126, u127], []⟩ w := by
 subst hC
 conv => arg 2; whnf
 have HQ := hid hQ
 have HSX := hid (show ∀ W, Ext w W → RE8 b o q bx x s W from fun W hW => ⟨(Ext.cell hW hb).trans h0, (Ext.cell hW hbx).trans h1, (Ext.cell hW hbx).trans h2⟩)
 have hqN : (q : Int) < (N : Int) := by have := Nat.mod_lt a hN; omega
 have hqi : ((a : Int)).tmod (N : Int) = (q : Int) := by rw [hqm]; exact (Int.ofNat_tmod a N).symm
 have hqe : (a : Int) % (N : Int) = (q : Int) := by rw [hqm]; rfl
 have hNz : ¬ N = 0 := by omega
 have p3 : IntKind.i64.wrap (a : Int) = (a : Int) := by rw [IntKind.wrap_i64]; omega
 have p4 : IntKind.i64.wrap (q : Int) = (q : Int) := by rw [IntKind.wrap_i64]; omega
 have hNm : ((N : Int) == -1) = false := by rw [beq_eq_false_iff_ne]; omega
 have HWS := hid hws
 clear hQ h0 h1 h2 hqm hws
 refine wp_region_noPanic ?_
 refine wp_region_T (n := 24) (S := RE8 b o q bx x s) (by kernel_rfl) ?_
 have X0 := hid (show Ext w w.drew from (Ext.refl w).drew)
 obtain ⟨wa0, hwa0⟩ : ∃ W, W = w.drew := ⟨_, rfl⟩
 rw [← hwa0] at X0 ⊢
 clear hwa0
 have hS := HSX.out wa0 X0.out
 refine wpAnyT_take (i := 0) (v := .bool true) rfl (by kernel_rfl) (by kernel_rfl) (by kernel_rfl) (fun _ _ _ h => h) hS (Or.inl ⟨by kernel_rfl, ?_⟩) ?_
 ·intro w1 hSw
  unfold RE8 at hSw
  obtain ⟨q1, q2, q3⟩ := hSw
  go_simp
 simp only [Act.put, List.setIfInBounds_toArray, List.set_cons_zero, List.set_cons_succ]
 refine wpAnyT_take (i := 1) (v := .bool false) rfl (by kernel_rfl) (by kernel_rfl) (by kernel_rfl) (fun _ _ _ h => h) hS (Or.inl ⟨by kernel_rfl, ?_⟩) ?_
 ·intro w1 hSw
  unfold RE8 at hSw
  obtain ⟨q1, q2, q3⟩ := hSw
  go_simp
 simp only [Act.put, List.setIfInBounds_toArray, List.set_cons_zero, List.set_cons_succ]
 refine wpAnyT_take (i := 2) (v := .bool false) rfl (by kernel_rfl) (by kernel_rfl) (by kernel_rfl) (fun _ _ _ h => h) hS (Or.inl ⟨by kernel_rfl, ?_⟩) ?_
 ·intro w1 hSw
  unfold RE8 at hSw
  obtain ⟨q1, q2, q3⟩ := hSw
  go_simp
 simp only [Act.put, List.setIfInBounds_toArray, List.set_cons_zero, List.set_cons_succ]
 refine wpAnyT_take (i := 3) (v := .pointer (some ⟨bx, 1, none⟩)) rfl (by kernel_rfl) (by kernel_rfl) (by kernel_rfl) (fun _ _ _ h => h) hS (Or.inl ⟨by kernel_rfl, ?_⟩) ?_
 ·intro w1 hSw
  unfold RE8 at hSw
  obtain ⟨q1, q2, q3⟩ := hSw
  go_simp
 simp only [Act.put, List.setIfInBounds_toArray, List.set_cons_zero, List.set_cons_succ]
 refine wpAnyT_take (i := 4) (v := .int .i64 1000) rfl (by kernel_rfl) (by kernel_rfl) (by kernel_rfl) (fun _ _ _ h => h) hS (Or.inl ⟨by kernel_rfl, ?_⟩) ?_
 ·intro w1 hSw
  unfold RE8 at hSw
  obtain ⟨q1, q2, q3⟩ := hSw
  go_simp
 simp only [Act.put, List.setIfInBounds_toArray, List.set_cons_zero, List.set_cons_succ]
 refine wpAnyT_take (i := 5) (v := .bool false) rfl (by kernel_rfl) (by kernel_rfl) (by kernel_rfl) (fun _ _ _ h => h) hS (Or.inl ⟨by kernel_rfl, ?_⟩) ?_
 ·intro w1 hSw
  unfold RE8 at hSw
  obtain ⟨q1, q2, q3⟩ := hSw
  go_simp
 simp only [Act.put, List.setIfInBounds_toArray, List.set_cons_zero, List.set_cons_succ]
 refine wpAnyT_take (i := 6) (v := .bool false) rfl (by kernel_rfl) (by kernel_rfl) (by kernel_rfl) (fun _ _ _ h => h) hS (Or.inl ⟨by kernel_rfl, ?_⟩) ?_
 ·intro w1 hSw
  unfold RE8 at hSw
  obtain ⟨q1, q2, q3⟩ := hSw
  go_simp
 simp only [Act.put, List.setIfInBounds_toArray, List.set_cons_zero, List.set_cons_succ]
 refine wpAnyT_take (i := 7) (v := .bool false) rfl (by kernel_rfl) (by kernel_rfl) (by kernel_rfl) (fun _ _ _ h => h) hS (Or.inl ⟨by kernel_rfl, ?_⟩) ?_
 ·intro w1 hSw
  unfold RE8 at hSw
  obtain ⟨q1, q2, q3⟩ := hSw
  go_simp
 simp only [Act.put, List.setIfInBounds_toArray, List.set_cons_zero, List.set_cons_succ]
 refine wpAnyT_take (i := 8) (v := .pointer (some ⟨bx, 2, none⟩)) rfl (by kernel_rfl) (by kernel_rfl) (by kernel_rfl) (fun _ _ _ h => h) hS (Or.inl ⟨by kernel_rfl, ?_⟩) ?_
 ·intro w1 hSw
  unfold RE8 at hSw
  obtain ⟨q1, q2, q3⟩ := hSw
  go_simp
 simp only [Act.put, List.setIfInBounds_toArray, List.set_cons_zero, List.set_cons_succ]
 refine wpAnyT_take (i := 9) (v := .string s) rfl (by kernel_rfl) (by kernel_rfl) (by kernel_rfl) (fun _ _ _ h => h) hS (Or.inl ⟨by kernel_rfl, ?_⟩) ?_
 ·intro w1 hSw
  unfold RE8 at hSw
  obtain ⟨q1, q2, q3⟩ := hSw
  go_simp
 simp only [Act.put, List.setIfInBounds_toArray, List.set_cons_zero, List.set_cons_succ]
 refine wpAnyT_take (i := 11) (v := .slice (some ⟨b, o, none⟩) N c) rfl (by kernel_rfl) (by kernel_rfl) (by kernel_rfl) (fun _ _ _ h => h) hS (Or.inl ⟨by kernel_rfl, ?_⟩) ?_
 ·intro w1 hSw
  unfold RE8 at hSw
  obtain ⟨q1, q2, q3⟩ := hSw
  go_simp
 simp only [Act.put, List.setIfInBounds_toArray, List.set_cons_zero, List.set_cons_succ]
 refine wpAnyT_take (i := 12) (v := .int .u8 a) rfl (by kernel_rfl) (by kernel_rfl) (by kernel_rfl) (fun _ _ _ h => h) hS (Or.inl ⟨by kernel_rfl, ?_⟩) ?_
 ·intro w1 hSw
  unfold RE8 at hSw
  obtain ⟨q1, q2, q3⟩ := hSw
  go_simp
 simp only [Act.put, List.setIfInBounds_toArray, List.set_cons_zero, List.set_cons_succ]
 refine wpAnyT_take (i := 13) (v := .int .i64 a) rfl (by kernel_rfl) (by kernel_rfl) (by kernel_rfl) (fun _ _ _ h => h) hS (Or.inl ⟨by kernel_rfl, ?_⟩) ?_
 ·intro w1 hSw
  unfold RE8 at hSw
  obtain ⟨q1, q2, q3⟩ := hSw
  go_simp
 simp only [Act.put, List.setIfInBounds_toArray, List.set_cons_zero, List.set_cons_succ]
 refine wpAnyT_take (i := 14) (v := .slice (some ⟨b, o, none⟩) N c) rfl (by kernel_rfl) (by kernel_rfl) (by kernel_rfl) (fun _ _ _ h => h) hS (Or.inl ⟨by kernel_rfl, ?_⟩) ?_
 ·intro w1 hSw
  unfold RE8 at hSw
  obtain ⟨q1, q2, q3⟩ := hSw
  go_simp
 simp only [Act.put, List.setIfInBounds_toArray, List.set_cons_zero, List.set_cons_succ]
 refine wpAnyT_take (i := 15) (v := .int .i64 N) rfl (by kernel_rfl) (by kernel_rfl) (by kernel_rfl) (fun _ _ _ h => h) hS (Or.inl ⟨by kernel_rfl, ?_⟩) ?_
 ·intro w1 hSw
  unfold RE8 at hSw
  obtain ⟨q1, q2, q3⟩ := hSw
  go_simp
 simp only [Act.put, List.setIfInBounds_toArray, List.set_cons_zero, List.set_cons_succ]
 refine wpAnyT_take (i := 16) (v := .int .i64 q) rfl (by kernel_rfl) (by kernel_rfl) (by kernel_rfl) (fun _ _ _ h => h) hS (Or.inl ⟨by kernel_rfl, ?_⟩) ?_
 ·intro w1 hSw
  unfold RE8 at hSw
  obtain ⟨q1, q2, q3⟩ := hSw
  go_simp
 simp only [Act.put, List.setIfInBounds_toArray, List.set_cons_zero, List.set_cons_succ]
 refine wpAnyT_take (i := 17) (v := .pointer (some ⟨b, o + q * 2, none⟩)) rfl (by kernel_rfl) (by kernel_rfl) (by kernel_rfl) (fun _ _ _ h => h) hS (Or.inl ⟨by kernel_rfl, ?_⟩) ?_
 ·intro w1 hSw
  unfold RE8 at hSw
  obtain ⟨q1, q2, q3⟩ := hSw
  go_simp
 simp only [Act.put, List.setIfInBounds_toArray, List.set_cons_zero, List.set_cons_succ]
 refine wpAnyT_take (i := 18) (v := .pointer (some ⟨b, o + q * 2, none⟩)) rfl (by kernel_rfl) (by kernel_rfl) (by kernel_rfl) (fun _ _ _ h => h) hS (Or.inl ⟨by kernel_rfl, ?_⟩) ?_
 ·intro w1 hSw
  unfold RE8 at hSw
  obtain ⟨q1, q2, q3⟩ := hSw
  go_simp
 simp only [Act.put, List.setIfInBounds_toArray, List.set_cons_zero, List.set_cons_succ]
 refine wpAnyT_take (i := 19) (v := .string x) rfl (by kernel_rfl) (by kernel_rfl) (by kernel_rfl) (fun _ _ _ h => h) hS (Or.inl ⟨by kernel_rfl, ?_⟩) ?_
 ·intro w1 hSw
  unfold RE8 at hSw
  obtain ⟨q1, q2, q3⟩ := hSw
  go_simp
 simp only [Act.put, List.setIfInBounds_toArray, List.set_cons_zero, List.set_cons_succ]
 refine wpAnyT_step (i := 10) (by kernel_rfl) rfl (by kernel_rfl) fun K' hK' => ?_
 go_simp
 refine (rwords_any2 s wa0 (by omega)).mono ?_
 rintro ev wa1 ⟨A1, n1, c1, rfl, hr1, hn1, hw⟩
 have X1 := hid (X0.out.trans hw)
 have H1 := hid (hr1)
 (try simp only)
 refine hK'.out _ _ ⟨fun _ => HSX.out wa1 X1.out, ?_⟩
 clear hK'
 try simp only [Act.put, List.setIfInBounds_toArray, List.set_cons_zero, List.set_cons_succ]
 have hS := HSX.out wa1 X1.out
 refine wpAnyT_step (i := 20) (by kernel_rfl) rfl (by kernel_rfl) fun K' hK' => ?_
 go_simp
 refine (rwords_any2 x wa1 (by omega)).mono ?_
 rintro ev wa2 ⟨A2, n2, c2, rfl, hr2, hn2, hw⟩
 have X2 := hid (X1.out.trans hw)
 have H2 := hid (hr2)
 have H1b := hid (H1.out.ext hw)
 (try simp only)
 refine hK'.out _ _ ⟨fun _ => HSX.out wa2 X2.out, ?_⟩
 clear hK'
 try simp only [Act.put, List.setIfInBounds_toArray, List.set_cons_zero, List.set_cons_succ]
 have hS := HSX.out wa2 X2.out
 have hnn : n1 = n2 := by
  have h1 := H1b.out.1
  have h2 := H2.out.1
  rw [List.length_map] at h1 h2
  rw [← h1, ← h2, HWS.out]
 subst hnn
 refine wpAnyT_step (i := 21) (by kernel_rfl) rfl (by kernel_rfl) fun K' hK' => ?_
 go_simp
 refine (rsame_eq (ca := c1) (cb := c2) (ws := wsB x) (by have h := H1b.out; rw [HWS.out] at h; exact h) H2.out (by omega)).mono ?_
 rintro ev wa3 ⟨rfl, hw⟩
 have X3 := hid (X2.out.trans hw)
 (try simp only)
 refine hK'.out _ _ ⟨fun _ => HSX.out wa3 X3.out, ?_⟩
 clear hK'
 try simp only [Act.put, List.setIfInBounds_toArray, List.set_cons_zero, List.set_cons_succ]
 have hS := HSX.out wa3 X3.out
 refine wpAnyT_take (i := 22) (v := .bool false) rfl (by kernel_rfl) (by kernel_rfl) (by kernel_rfl) (fun _ _ _ h => h) hS (Or.inl ⟨by kernel_rfl, ?_⟩) ?_
 ·intro w1 hSw
  unfold RE8 at hSw
  obtain ⟨q1, q2, q3⟩ := hSw
  go_simp
 simp only [Act.put, List.setIfInBounds_toArray, List.set_cons_zero, List.set_cons_succ]
 refine wpAnyT_take (i := 23) (v := .bool false) rfl (by kernel_rfl) (by kernel_rfl) (by kernel_rfl) (fun _ _ _ h => h) hS (Or.inl ⟨by kernel_rfl, ?_⟩) ?_
 ·intro w1 hSw
  unfold RE8 at hSw
  obtain ⟨q1, q2, q3⟩ := hSw
  go_simp
 simp only [Act.put, List.setIfInBounds_toArray, List.set_cons_zero, List.set_cons_succ]
 refine ⟨by kernel_rfl, ?_⟩
 show Q _ _ _
 exact HQ.out _ _ _ _ _ _ _ _ _ _ _ _ _ _ _ _ _ _ _ _ _ _ _ wa3 X3.out
end Go.Proofs.YtiijdojihleggaaGreatDoor
