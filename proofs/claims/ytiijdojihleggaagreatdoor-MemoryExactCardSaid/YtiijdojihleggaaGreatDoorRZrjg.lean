import Derived.Test.YtiijdojihleggaaGreatDoorRNZM
import Derived.Test.YtiijdojihleggaaGreatDoorRNZG
import Derived.Test.YtiijdojihleggaaGreatDoorRNZB
import Derived.Test.YtiijdojihleggaaGreatDoorRZapg
import Derived.Test.YtiijdojihleggaaGreatDoorRZhag
import Derived.Deep.RegionHeld3
import Derived.Test.YtiijdojihleggaaGreatDoorRNB1
set_option maxRecDepth 100000
set_option linter.unusedSimpArgs false
set_option linter.unusedVariables false
open Go.Lib (hid)
namespace Go.Proofs.YtiijdojihleggaaGreatDoor
open Go.RowKit
theorem rsim_any2 {xs ys : List ByteArray} {A B : Option Addr} {n m ca cb : Nat} {w : World} (hA : Sl w A n (xs.map .string)) (hB : Sl w B m (ys.map .string)) (hn : n ≤ 400) (hm : m ≤ 400) :
 Calls Tryz.prog 37 #[.slice A n ca, .slice B m cb] w fun e w' => e = .returned (.int .i64 (simB xs ys)) ∧ Ext w w' := by
 have h := D6.refSim_any xs ys A B n m ca cb w hA hB hn hm
 have e1 : n = xs.length := by have := hA.1; rw [List.length_map] at this; exact this.symm
 have e2 : m = ys.length := by have := hB.1; rw [List.length_map] at this; exact this.symm
 subst e1 e2
 exact h
def RetW (w : World) (s : ByteArray) (e : Ending) (w' : World) : Prop := ∃ A n c, e = .returned (.slice A n c) ∧ Sl w' A n ((wsB s).map .string) ∧ n ≤ s.size ∧ Ext w w'
theorem rwords_any2 (s : ByteArray) (w : World) (hs : s.size ≤ 1048576) : Calls Tryz.prog 18 #[.string s] w (RetW w s) := by
 refine (D6.refWords_any s w hs).mono ?_
 rintro e w' ⟨A, n, c, rfl, h1, h2⟩
 have h3 : Sl w' A n ((wsB s).map .string) := by unfold wsB; rw [List.map_map]; exact h1
 refine ⟨A, n, c, rfl, h3, ?_, h2⟩
 have := h3.1
 rw [List.length_map] at this
 have := ws_len s
 omega
end Go.Proofs.YtiijdojihleggaaGreatDoor
namespace Go.Proofs.YtiijdojihleggaaGreatDoor
open Go.RowKit
def RS5 (b o j : Nat) (p q : ByteArray) (w' : World) : Prop := w'.cell? ⟨b, o + j * 2, none⟩ = some (.string p) ∧ w'.cell? ⟨b, o + j * 2 + 1, none⟩ = some (.string q)
noncomputable def regA5 : Code := ((Tryz.f15).body.bind (regOf15 5)).getD .skip
set_option maxHeartbeats 4000000 in
theorem rl5 {u2 u3 u4 u5 u6 u7 u9 u10 u11 u12 u13 u14 u15 u16 u17 u18 u19 u20 u21 u22 u23 u24 u25 u26 u27 u28 u29 u30 u31 u32 u33 u34 u35 u36 u37 u38 u39 u40 u41 u42 u43 u44 u45 u46 u47 u48 u49 u50 u51 u52 u53 u54 u55 u56 u57 u58 u59 u60 u61 u62 u63 u64 u65 u66 u67 u68 u69 u70 u71 u72 u73 u74 u75 u76 : Value} {b o j N c : Nat} {p q text : ByteArray} {w : World} {Q : Exit → Act → World → Prop} {C : Code} (hC : C = regA5)
 (h1 : w.cell? ⟨b, o + j * 2, none⟩ = some (.string p)) (h2 : w.cell? ⟨b, o + j * 2 + 1, none⟩ = some (.string q)) (hb : b < w.heap.size) (hj : (j : Int) < (N : Int)) (hps : p.size ≤ 400) (hts : text.size ≤ 400)
 (hQ : ∀ z22 z23 z24 z25 z26 z27 z28 z29 z30 z31 z32 z33 z34 z35 z36 z37 z38 z39 z40 z41 z42 bx w', AtC 38 w' bx #[.int .i64 j, .int .i64 (simB (wsB p) (wsB text)), .string p, .string q] → Ext w w' → Q .normal ⟨#[.slice (some ⟨b, o, none⟩) N c, .string text, u2, u3, u4, u5, u6, u7, .int .i64 j, .pointer (some ⟨bx, 0, none⟩), u10, u11, u12, u13, u14, u15, u16, u17, u18, u19, u20, u21, z22, z23, z24, z25, z26, z27, z28, z29, z30, z31, z32, z33, z34, z35, z36, z37, z38, z39, z40, z41, z42, u43, u44, u45, u46, u47, u48, u49, u50, u51, u52, u53, u54, u55, u56, u57, u58, u59, u60, u61, u62, u63, u64, u65, u66, u67, u68, u69, u70, u71, u72, u73, u74, u75, u76], []⟩ w') :
 Code.wp Tryz.prog C Q ⟨#[.slice (some ⟨b, o, none⟩) N c, .string text, u2, u3, u4, u5, u6, u7, .int .i64 j, u9, u10, u11, u12, u13, u14, u15, u16, u17, u18, u19, u20, u21, u22, u23, u24, u25, u26, u27, u28, u29, u30, u31, u32, u33, u34, u35, u36, u37, u38, u39, u40, u41, u42, u43, u44, u45, u46, u47, u48, u49, u50, u51, u52, u53, u54, u55, u56, u57, u58, u59, u60, u61, u62, u63, u64, u65, u66, u67, u68, u69, u70, u71, u72, u73, u74, u75, u76], []⟩ w := by
 subst hC
 conv => arg 2; whnf
 have HQ := hid hQ
 have HSX := hid (show ∀ W, Ext w W → RS5 b o j p q W from fun W hW => ⟨(Ext.cell hW hb).trans h1, (Ext.cell hW hb).trans h2⟩)
 clear hQ h1 h2
 refine wp_region_noPanic ?_
 refine wp_region_T (n := 22) (S := RS5 b o j p q) (by kernel_rfl) ?_
 have Xwa0 := hid (show Ext w w.drew from (Ext.refl w).drew)
 obtain ⟨wa0, hwa0⟩ : ∃ W, W = w.drew := ⟨_, rfl⟩
 rw [← hwa0] at Xwa0 ⊢
 clear hwa0
 have hS := HSX.out wa0 Xwa0.out
 refine wpAnyT_take (i := 0) (v := .int .i64 j) rfl (by kernel_rfl) (by kernel_rfl) (by kernel_rfl) (fun _ _ _ h => h) hS (Or.inl ⟨by rfl, ?_⟩) ?_
 ·intro w1 hSw
  unfold RS5 at hSw
  obtain ⟨q1, q2⟩ := hSw
  go_simp
 simp only [Act.put, List.setIfInBounds_toArray, List.set_cons_zero, List.set_cons_succ]
 refine wpAnyT_take (i := 1) (v := .slice (some ⟨b, o, none⟩) N c) rfl (by kernel_rfl) (by kernel_rfl) (by kernel_rfl) (fun _ _ _ h => h) hS (Or.inl ⟨by rfl, ?_⟩) ?_
 ·intro w1 hSw
  unfold RS5 at hSw
  obtain ⟨q1, q2⟩ := hSw
  go_simp
 simp only [Act.put, List.setIfInBounds_toArray, List.set_cons_zero, List.set_cons_succ]
 refine wpAnyT_take (i := 2) (v := .int .i64 j) rfl (by kernel_rfl) (by kernel_rfl) (by kernel_rfl) (fun _ _ _ h => h) hS (Or.inl ⟨by rfl, ?_⟩) ?_
 ·intro w1 hSw
  unfold RS5 at hSw
  obtain ⟨q1, q2⟩ := hSw
  go_simp
 simp only [Act.put, List.setIfInBounds_toArray, List.set_cons_zero, List.set_cons_succ]
 refine wpAnyT_take (i := 3) (v := .pointer (some ⟨b, o + j * 2, none⟩)) rfl (by kernel_rfl) (by kernel_rfl) (by kernel_rfl) (fun _ _ _ h => h) hS (Or.inl ⟨by rfl, ?_⟩) ?_
 ·intro w1 hSw
  unfold RS5 at hSw
  obtain ⟨q1, q2⟩ := hSw
  go_simp
 simp only [Act.put, List.setIfInBounds_toArray, List.set_cons_zero, List.set_cons_succ]
 refine wpAnyT_take (i := 4) (v := .pointer (some ⟨b, o + j * 2, none⟩)) rfl (by kernel_rfl) (by kernel_rfl) (by kernel_rfl) (fun _ _ _ h => h) hS (Or.inl ⟨by rfl, ?_⟩) ?_
 ·intro w1 hSw
  unfold RS5 at hSw
  obtain ⟨q1, q2⟩ := hSw
  go_simp
 simp only [Act.put, List.setIfInBounds_toArray, List.set_cons_zero, List.set_cons_succ]
 refine wpAnyT_take (i := 5) (v := .string p) rfl (by kernel_rfl) (by kernel_rfl) (by kernel_rfl) (fun _ _ _ h => h) hS (Or.inl ⟨by rfl, ?_⟩) ?_
 ·intro w1 hSw
  unfold RS5 at hSw
  obtain ⟨q1, q2⟩ := hSw
  go_simp
 simp only [Act.put, List.setIfInBounds_toArray, List.set_cons_zero, List.set_cons_succ]
 refine wpAnyT_take (i := 7) (v := .string text) rfl (by kernel_rfl) (by kernel_rfl) (by kernel_rfl) (fun _ _ _ h => h) hS (Or.inl ⟨by rfl, ?_⟩) ?_
 ·intro w1 hSw
  unfold RS5 at hSw
  obtain ⟨q1, q2⟩ := hSw
  go_simp
 simp only [Act.put, List.setIfInBounds_toArray, List.set_cons_zero, List.set_cons_succ]
 refine wpAnyT_take (i := 10) (v := .slice (some ⟨b, o, none⟩) N c) rfl (by kernel_rfl) (by kernel_rfl) (by kernel_rfl) (fun _ _ _ h => h) hS (Or.inl ⟨by rfl, ?_⟩) ?_
 ·intro w1 hSw
  unfold RS5 at hSw
  obtain ⟨q1, q2⟩ := hSw
  go_simp
 simp only [Act.put, List.setIfInBounds_toArray, List.set_cons_zero, List.set_cons_succ]
 refine wpAnyT_take (i := 11) (v := .int .i64 j) rfl (by kernel_rfl) (by kernel_rfl) (by kernel_rfl) (fun _ _ _ h => h) hS (Or.inl ⟨by rfl, ?_⟩) ?_
 ·intro w1 hSw
  unfold RS5 at hSw
  obtain ⟨q1, q2⟩ := hSw
  go_simp
 simp only [Act.put, List.setIfInBounds_toArray, List.set_cons_zero, List.set_cons_succ]
 refine wpAnyT_take (i := 12) (v := .pointer (some ⟨b, o + j * 2, none⟩)) rfl (by kernel_rfl) (by kernel_rfl) (by kernel_rfl) (fun _ _ _ h => h) hS (Or.inl ⟨by rfl, ?_⟩) ?_
 ·intro w1 hSw
  unfold RS5 at hSw
  obtain ⟨q1, q2⟩ := hSw
  go_simp
 simp only [Act.put, List.setIfInBounds_toArray, List.set_cons_zero, List.set_cons_succ]
 refine wpAnyT_take (i := 13) (v := .pointer (some ⟨b, o + j * 2, none⟩)) rfl (by kernel_rfl) (by kernel_rfl) (by kernel_rfl) (fun _ _ _ h => h) hS (Or.inl ⟨by rfl, ?_⟩) ?_
 ·intro w1 hSw
  unfold RS5 at hSw
  obtain ⟨q1, q2⟩ := hSw
  go_simp
 simp only [Act.put, List.setIfInBounds_toArray, List.set_cons_zero, List.set_cons_succ]
 refine wpAnyT_take (i := 14) (v := .string p) rfl (by kernel_rfl) (by kernel_rfl) (by kernel_rfl) (fun _ _ _ h => h) hS (Or.inl ⟨by rfl, ?_⟩) ?_
 ·intro w1 hSw
  unfold RS5 at hSw
  obtain ⟨q1, q2⟩ := hSw
  go_simp
 simp only [Act.put, List.setIfInBounds_toArray, List.set_cons_zero, List.set_cons_succ]
 refine wpAnyT_take (i := 15) (v := .slice (some ⟨b, o, none⟩) N c) rfl (by kernel_rfl) (by kernel_rfl) (by kernel_rfl) (fun _ _ _ h => h) hS (Or.inl ⟨by rfl, ?_⟩) ?_
 ·intro w1 hSw
  unfold RS5 at hSw
  obtain ⟨q1, q2⟩ := hSw
  go_simp
 simp only [Act.put, List.setIfInBounds_toArray, List.set_cons_zero, List.set_cons_succ]
 refine wpAnyT_take (i := 16) (v := .int .i64 j) rfl (by kernel_rfl) (by kernel_rfl) (by kernel_rfl) (fun _ _ _ h => h) hS (Or.inl ⟨by rfl, ?_⟩) ?_
 ·intro w1 hSw
  unfold RS5 at hSw
  obtain ⟨q1, q2⟩ := hSw
  go_simp
 simp only [Act.put, List.setIfInBounds_toArray, List.set_cons_zero, List.set_cons_succ]
 refine wpAnyT_take (i := 17) (v := .pointer (some ⟨b, o + j * 2, none⟩)) rfl (by kernel_rfl) (by kernel_rfl) (by kernel_rfl) (fun _ _ _ h => h) hS (Or.inl ⟨by rfl, ?_⟩) ?_
 ·intro w1 hSw
  unfold RS5 at hSw
  obtain ⟨q1, q2⟩ := hSw
  go_simp
 simp only [Act.put, List.setIfInBounds_toArray, List.set_cons_zero, List.set_cons_succ]
 refine wpAnyT_take (i := 18) (v := .pointer (some ⟨b, o + j * 2 + 1, none⟩)) rfl (by kernel_rfl) (by kernel_rfl) (by kernel_rfl) (fun _ _ _ h => h) hS (Or.inl ⟨by rfl, ?_⟩) ?_
 ·intro w1 hSw
  unfold RS5 at hSw
  obtain ⟨q1, q2⟩ := hSw
  go_simp
 simp only [Act.put, List.setIfInBounds_toArray, List.set_cons_zero, List.set_cons_succ]
 refine wpAnyT_take (i := 19) (v := .string q) rfl (by kernel_rfl) (by kernel_rfl) (by kernel_rfl) (fun _ _ _ h => h) hS (Or.inl ⟨by rfl, ?_⟩) ?_
 ·intro w1 hSw
  unfold RS5 at hSw
  obtain ⟨q1, q2⟩ := hSw
  go_simp
 simp only [Act.put, List.setIfInBounds_toArray, List.set_cons_zero, List.set_cons_succ]
 refine wpAnyT_all (rs := [6, 21]) (by kernel_rfl) (by simp) ?_
 intro i_ hi_
 rw [List.mem_cons, List.mem_singleton] at hi_
 rcases hi_ with rfl | rfl
 ·refine wpOp_step15 rfl (by rfl) fun K' hK' => ?_
  go_simp
  refine (rwords_any2 p wa0 (by omega)).mono ?_
  rintro ev wa1 ⟨A1, n1, c1, rfl, hr, hn1, hw⟩
  have A1wa1 := hid hr
  have Xwa1 := hid (Xwa0.out.trans hw)
  clear hr hw
  (try simp only)
  refine hK'.out _ _ ⟨fun _ => HSX.out wa1 Xwa1.out, ?_⟩
  clear hK'
  try simp only [Act.put, List.setIfInBounds_toArray, List.set_cons_zero, List.set_cons_succ]
  have hS := HSX.out wa1 Xwa1.out
  refine wpAnyT_all (rs := [8, 21]) (by kernel_rfl) (by simp) ?_
  intro i_ hi_
  rw [List.mem_cons, List.mem_singleton] at hi_
  rcases hi_ with rfl | rfl
  ·refine wpOp_step15 rfl (by rfl) fun K' hK' => ?_
   go_simp
   refine (rwords_any2 text wa1 (by omega)).mono ?_
   rintro ev wa2 ⟨A2, n2, c2, rfl, hr, hn2, hw⟩
   have A2wa2 := hid hr
   have A1wa2 := hid (A1wa1.out.ext hw)
   have Xwa2 := hid (Xwa1.out.trans hw)
   clear hr hw
   (try simp only)
   refine hK'.out _ _ ⟨fun _ => HSX.out wa2 Xwa2.out, ?_⟩
   clear hK'
   try simp only [Act.put, List.setIfInBounds_toArray, List.set_cons_zero, List.set_cons_succ]
   have hS := HSX.out wa2 Xwa2.out
   refine wpAnyT_all (rs := [9, 21]) (by kernel_rfl) (by simp) ?_
   intro i_ hi_
   rw [List.mem_cons, List.mem_singleton] at hi_
   rcases hi_ with rfl | rfl
   ·refine wpOp_step15 rfl (by rfl) fun K' hK' => ?_
    go_simp
    refine (rsim_any2 (ca := c1) (cb := c2) A1wa2.out A2wa2.out (by omega) (by omega)).mono ?_
    rintro ev wa3 ⟨rfl, hw⟩
    have Xwa3 := hid (Xwa2.out.trans hw)
    clear hw
    (try simp only)
    refine hK'.out _ _ ⟨fun _ => HSX.out wa3 Xwa3.out, ?_⟩
    clear hK'
    try simp only [Act.put, List.setIfInBounds_toArray, List.set_cons_zero, List.set_cons_succ]
    have hS := HSX.out wa3 Xwa3.out
    refine wpAnyT_take (i := 20) (v := .agg #[.int .i64 j, .int .i64 (simB (wsB p) (wsB text)), .string p, .string q]) rfl (by kernel_rfl) (by kernel_rfl) (by kernel_rfl) (fun _ _ _ h => h) hS (Or.inl ⟨by rfl, ?_⟩) ?_
    ·intro w1 hSw
     unfold RS5 at hSw
     obtain ⟨q1, q2⟩ := hSw
     go_simp
    simp only [Act.put, List.setIfInBounds_toArray, List.set_cons_zero, List.set_cons_succ]
    refine wpAnyT_all (rs := [21]) (by kernel_rfl) (by simp) ?_
    intro i_ hi_
    rw [List.mem_singleton] at hi_
    subst hi_
    refine wpOp_step15 rfl (by rfl) fun K' hK' => ?_
    go_simp
    obtain ⟨wa4, hwa4⟩ : ∃ W, W = wa3.alloc (.cells #[.int .i64 0, .int .i64 0, .string ⟨#[]⟩, .string ⟨#[]⟩] 38) := ⟨_, rfl⟩
    rw [← hwa4]
    have Xwa4 := hid (show Ext w wa4 from by rw [hwa4]; exact Xwa3.out.alloc _)
    have Ywa4 := hid (show Ext wa3 wa4 from by rw [hwa4]; exact (Ext.refl _).alloc _)
    obtain ⟨bx, hbx⟩ : ∃ bx, bx = wa3.heap.size := ⟨_, rfl⟩
    have Bwa4 := hid (show AtC 38 wa4 bx #[.int .i64 0, .int .i64 0, .string ⟨#[]⟩, .string ⟨#[]⟩] from by rw [hwa4, hbx]; exact AtC.new _ _)
    have BL := hid (show w.heap.size ≤ bx from by rw [hbx]; exact Ext.size Xwa3.out)
    rw [← hbx]
    clear hwa4 hbx
    refine hK'.out _ _ ⟨fun _ => HSX.out wa4 Xwa4.out, ?_⟩
    clear hK'
    try simp only [Act.put, List.setIfInBounds_toArray, List.set_cons_zero, List.set_cons_succ]
    have hS := HSX.out wa4 Xwa4.out
    refine wpAnyT_all (rs := [22]) (by kernel_rfl) (by simp) ?_
    intro i_ hi_
    rw [List.mem_singleton] at hi_
    subst hi_
    have q0 := Bwa4.out.cell 0 _ rfl
    have q1 := Bwa4.out.cell 1 _ rfl
    have q2 := Bwa4.out.cell 2 _ rfl
    have q3 := Bwa4.out.cell 3 _ rfl
    have f0 := frz_of Bwa4.out 0
    have f1 := frz_of Bwa4.out 1
    have f2 := frz_of Bwa4.out 2
    have f3 := frz_of Bwa4.out 3
    refine wpOp_step15 rfl (by rfl) fun K' hK' => ?_
    go_simp
    refine hK'.out _ _ ⟨fun h => absurd h (by decide), ?_⟩
    clear hK'
    try simp only [Act.put, List.setIfInBounds_toArray, List.set_cons_zero, List.set_cons_succ]
    refine ⟨by kernel_rfl, ?_⟩
    show Q _ _ _
    have g1 := heap_setCell_same wa4 bx 0 _ _ (.int .i64 j) Bwa4.out
    have g2 := heap_setCell_same _ bx 1 _ _ (.int .i64 (simB (wsB p) (wsB text))) g1
    have g3 := heap_setCell_same _ bx 2 _ _ (.string p) g2
    have g4 := heap_setCell_same _ bx 3 _ _ (.string q) g3
    exact HQ.out _ _ _ _ _ _ _ _ _ _ _ _ _ _ _ _ _ _ _ _ _ bx _ g4 ((((Xwa4.out.setCell BL.out _).setCell BL.out _).setCell BL.out _).setCell BL.out _)
   ·refine wpOp_step15 rfl (by rfl) fun K' hK' => ?_
    go_simp
    obtain ⟨wa3, hwa3⟩ : ∃ W, W = wa2.alloc (.cells #[.int .i64 0, .int .i64 0, .string ⟨#[]⟩, .string ⟨#[]⟩] 38) := ⟨_, rfl⟩
    rw [← hwa3]
    have Xwa3 := hid (show Ext w wa3 from by rw [hwa3]; exact Xwa2.out.alloc _)
    have Ywa3 := hid (show Ext wa2 wa3 from by rw [hwa3]; exact (Ext.refl _).alloc _)
    obtain ⟨bx, hbx⟩ : ∃ bx, bx = wa2.heap.size := ⟨_, rfl⟩
    have Bwa3 := hid (show AtC 38 wa3 bx #[.int .i64 0, .int .i64 0, .string ⟨#[]⟩, .string ⟨#[]⟩] from by rw [hwa3, hbx]; exact AtC.new _ _)
    have BL := hid (show w.heap.size ≤ bx from by rw [hbx]; exact Ext.size Xwa2.out)
    rw [← hbx]
    clear hwa3 hbx
    have A1wa3 := hid (A1wa2.out.ext Ywa3.out)
    have A2wa3 := hid (A2wa2.out.ext Ywa3.out)
    refine hK'.out _ _ ⟨fun _ => HSX.out wa3 Xwa3.out, ?_⟩
    clear hK'
    try simp only [Act.put, List.setIfInBounds_toArray, List.set_cons_zero, List.set_cons_succ]
    have hS := HSX.out wa3 Xwa3.out
    refine wpAnyT_all (rs := [9]) (by kernel_rfl) (by simp) ?_
    intro i_ hi_
    rw [List.mem_singleton] at hi_
    subst hi_
    refine wpOp_step15 rfl (by rfl) fun K' hK' => ?_
    go_simp
    refine (rsim_any2 (ca := c1) (cb := c2) A1wa3.out A2wa3.out (by omega) (by omega)).mono ?_
    rintro ev wa4 ⟨rfl, hw⟩
    have Xwa4 := hid (Xwa3.out.trans hw)
    have Bwa4 := hid (Bwa3.out.ext hw)
    clear hw
    (try simp only)
    refine hK'.out _ _ ⟨fun _ => HSX.out wa4 Xwa4.out, ?_⟩
    clear hK'
    try simp only [Act.put, List.setIfInBounds_toArray, List.set_cons_zero, List.set_cons_succ]
    have hS := HSX.out wa4 Xwa4.out
    refine wpAnyT_take (i := 20) (v := .agg #[.int .i64 j, .int .i64 (simB (wsB p) (wsB text)), .string p, .string q]) rfl (by kernel_rfl) (by kernel_rfl) (by kernel_rfl) (fun _ _ _ h => h) hS (Or.inl ⟨by rfl, ?_⟩) ?_
    ·intro w1 hSw
     unfold RS5 at hSw
     obtain ⟨q1, q2⟩ := hSw
     go_simp
    simp only [Act.put, List.setIfInBounds_toArray, List.set_cons_zero, List.set_cons_succ]
    refine wpAnyT_all (rs := [22]) (by kernel_rfl) (by simp) ?_
    intro i_ hi_
    rw [List.mem_singleton] at hi_
    subst hi_
    have q0 := Bwa4.out.cell 0 _ rfl
    have q1 := Bwa4.out.cell 1 _ rfl
    have q2 := Bwa4.out.cell 2 _ rfl
    have q3 := Bwa4.out.cell 3 _ rfl
    have f0 := frz_of Bwa4.out 0
    have f1 := frz_of Bwa4.out 1
    have f2 := frz_of Bwa4.out 2
    have f3 := frz_of Bwa4.out 3
    refine wpOp_step15 rfl (by rfl) fun K' hK' => ?_
    go_simp
    refine hK'.out _ _ ⟨fun h => absurd h (by decide), ?_⟩
    clear hK'
    try simp only [Act.put, List.setIfInBounds_toArray, List.set_cons_zero, List.set_cons_succ]
    refine ⟨by kernel_rfl, ?_⟩
    show Q _ _ _
    have g1 := heap_setCell_same wa4 bx 0 _ _ (.int .i64 j) Bwa4.out
    have g2 := heap_setCell_same _ bx 1 _ _ (.int .i64 (simB (wsB p) (wsB text))) g1
    have g3 := heap_setCell_same _ bx 2 _ _ (.string p) g2
    have g4 := heap_setCell_same _ bx 3 _ _ (.string q) g3
    exact HQ.out _ _ _ _ _ _ _ _ _ _ _ _ _ _ _ _ _ _ _ _ _ bx _ g4 ((((Xwa4.out.setCell BL.out _).setCell BL.out _).setCell BL.out _).setCell BL.out _)
  ·refine wpOp_step15 rfl (by rfl) fun K' hK' => ?_
   go_simp
   obtain ⟨wa2, hwa2⟩ : ∃ W, W = wa1.alloc (.cells #[.int .i64 0, .int .i64 0, .string ⟨#[]⟩, .string ⟨#[]⟩] 38) := ⟨_, rfl⟩
   rw [← hwa2]
   have Xwa2 := hid (show Ext w wa2 from by rw [hwa2]; exact Xwa1.out.alloc _)
   have Ywa2 := hid (show Ext wa1 wa2 from by rw [hwa2]; exact (Ext.refl _).alloc _)
   obtain ⟨bx, hbx⟩ : ∃ bx, bx = wa1.heap.size := ⟨_, rfl⟩
   have Bwa2 := hid (show AtC 38 wa2 bx #[.int .i64 0, .int .i64 0, .string ⟨#[]⟩, .string ⟨#[]⟩] from by rw [hwa2, hbx]; exact AtC.new _ _)
   have BL := hid (show w.heap.size ≤ bx from by rw [hbx]; exact Ext.size Xwa1.out)
   rw [← hbx]
   clear hwa2 hbx
   have A1wa2 := hid (A1wa1.out.ext Ywa2.out)
   refine hK'.out _ _ ⟨fun _ => HSX.out wa2 Xwa2.out, ?_⟩
   clear hK'
   try simp only [Act.put, List.setIfInBounds_toArray, List.set_cons_zero, List.set_cons_succ]
   have hS := HSX.out wa2 Xwa2.out
   refine wpAnyT_all (rs := [8]) (by kernel_rfl) (by simp) ?_
   intro i_ hi_
   rw [List.mem_singleton] at hi_
   subst hi_
   refine wpOp_step15 rfl (by rfl) fun K' hK' => ?_
   go_simp
   refine (rwords_any2 text wa2 (by omega)).mono ?_
   rintro ev wa3 ⟨A2, n2, c2, rfl, hr, hn2, hw⟩
   have A2wa3 := hid hr
   have A1wa3 := hid (A1wa2.out.ext hw)
   have Xwa3 := hid (Xwa2.out.trans hw)
   have Bwa3 := hid (Bwa2.out.ext hw)
   clear hr hw
   (try simp only)
   refine hK'.out _ _ ⟨fun _ => HSX.out wa3 Xwa3.out, ?_⟩
   clear hK'
   try simp only [Act.put, List.setIfInBounds_toArray, List.set_cons_zero, List.set_cons_succ]
   have hS := HSX.out wa3 Xwa3.out
   refine wpAnyT_all (rs := [9]) (by kernel_rfl) (by simp) ?_
   intro i_ hi_
   rw [List.mem_singleton] at hi_
   subst hi_
   refine wpOp_step15 rfl (by rfl) fun K' hK' => ?_
   go_simp
   refine (rsim_any2 (ca := c1) (cb := c2) A1wa3.out A2wa3.out (by omega) (by omega)).mono ?_
   rintro ev wa4 ⟨rfl, hw⟩
   have Xwa4 := hid (Xwa3.out.trans hw)
   have Bwa4 := hid (Bwa3.out.ext hw)
   clear hw
   (try simp only)
   refine hK'.out _ _ ⟨fun _ => HSX.out wa4 Xwa4.out, ?_⟩
   clear hK'
   try simp only [Act.put, List.setIfInBounds_toArray, List.set_cons_zero, List.set_cons_succ]
   have hS := HSX.out wa4 Xwa4.out
   refine wpAnyT_take (i := 20) (v := .agg #[.int .i64 j, .int .i64 (simB (wsB p) (wsB text)), .string p, .string q]) rfl (by kernel_rfl) (by kernel_rfl) (by kernel_rfl) (fun _ _ _ h => h) hS (Or.inl ⟨by rfl, ?_⟩) ?_
   ·intro w1 hSw
    unfold RS5 at hSw
    obtain ⟨q1, q2⟩ := hSw
    go_simp
   simp only [Act.put, List.setIfInBounds_toArray, List.set_cons_zero, List.set_cons_succ]
   refine wpAnyT_all (rs := [22]) (by kernel_rfl) (by simp) ?_
   intro i_ hi_
   rw [List.mem_singleton] at hi_
   subst hi_
   have q0 := Bwa4.out.cell 0 _ rfl
   have q1 := Bwa4.out.cell 1 _ rfl
   have q2 := Bwa4.out.cell 2 _ rfl
   have q3 := Bwa4.out.cell 3 _ rfl
   have f0 := frz_of Bwa4.out 0
   have f1 := frz_of Bwa4.out 1
   have f2 := frz_of Bwa4.out 2
   have f3 := frz_of Bwa4.out 3
   refine wpOp_step15 rfl (by rfl) fun K' hK' => ?_
   go_simp
   refine hK'.out _ _ ⟨fun h => absurd h (by decide), ?_⟩
   clear hK'
   try simp only [Act.put, List.setIfInBounds_toArray, List.set_cons_zero, List.set_cons_succ]
   refine ⟨by kernel_rfl, ?_⟩
   show Q _ _ _
   have g1 := heap_setCell_same wa4 bx 0 _ _ (.int .i64 j) Bwa4.out
   have g2 := heap_setCell_same _ bx 1 _ _ (.int .i64 (simB (wsB p) (wsB text))) g1
   have g3 := heap_setCell_same _ bx 2 _ _ (.string p) g2
   have g4 := heap_setCell_same _ bx 3 _ _ (.string q) g3
   exact HQ.out _ _ _ _ _ _ _ _ _ _ _ _ _ _ _ _ _ _ _ _ _ bx _ g4 ((((Xwa4.out.setCell BL.out _).setCell BL.out _).setCell BL.out _).setCell BL.out _)
 ·refine wpOp_step15 rfl (by rfl) fun K' hK' => ?_
  go_simp
  obtain ⟨wa1, hwa1⟩ : ∃ W, W = wa0.alloc (.cells #[.int .i64 0, .int .i64 0, .string ⟨#[]⟩, .string ⟨#[]⟩] 38) := ⟨_, rfl⟩
  rw [← hwa1]
  have Xwa1 := hid (show Ext w wa1 from by rw [hwa1]; exact Xwa0.out.alloc _)
  have Ywa1 := hid (show Ext wa0 wa1 from by rw [hwa1]; exact (Ext.refl _).alloc _)
  obtain ⟨bx, hbx⟩ : ∃ bx, bx = wa0.heap.size := ⟨_, rfl⟩
  have Bwa1 := hid (show AtC 38 wa1 bx #[.int .i64 0, .int .i64 0, .string ⟨#[]⟩, .string ⟨#[]⟩] from by rw [hwa1, hbx]; exact AtC.new _ _)
  have BL := hid (show w.heap.size ≤ bx from by rw [hbx]; exact Ext.size Xwa0.out)
  rw [← hbx]
  clear hwa1 hbx
  refine hK'.out _ _ ⟨fun _ => HSX.out wa1 Xwa1.out, ?_⟩
  clear hK'
  try simp only [Act.put, List.setIfInBounds_toArray, List.set_cons_zero, List.set_cons_succ]
  have hS := HSX.out wa1 Xwa1.out
  refine wpAnyT_all (rs := [6]) (by kernel_rfl) (by simp) ?_
  intro i_ hi_
  rw [List.mem_singleton] at hi_
  subst hi_
  refine wpOp_step15 rfl (by rfl) fun K' hK' => ?_
  go_simp
  refine (rwords_any2 p wa1 (by omega)).mono ?_
  rintro ev wa2 ⟨A1, n1, c1, rfl, hr, hn1, hw⟩
  have A1wa2 := hid hr
  have Xwa2 := hid (Xwa1.out.trans hw)
  have Bwa2 := hid (Bwa1.out.ext hw)
  clear hr hw
  (try simp only)
  refine hK'.out _ _ ⟨fun _ => HSX.out wa2 Xwa2.out, ?_⟩
  clear hK'
  try simp only [Act.put, List.setIfInBounds_toArray, List.set_cons_zero, List.set_cons_succ]
  have hS := HSX.out wa2 Xwa2.out
  refine wpAnyT_all (rs := [8]) (by kernel_rfl) (by simp) ?_
  intro i_ hi_
  rw [List.mem_singleton] at hi_
  subst hi_
  refine wpOp_step15 rfl (by rfl) fun K' hK' => ?_
  go_simp
  refine (rwords_any2 text wa2 (by omega)).mono ?_
  rintro ev wa3 ⟨A2, n2, c2, rfl, hr, hn2, hw⟩
  have A2wa3 := hid hr
  have A1wa3 := hid (A1wa2.out.ext hw)
  have Xwa3 := hid (Xwa2.out.trans hw)
  have Bwa3 := hid (Bwa2.out.ext hw)
  clear hr hw
  (try simp only)
  refine hK'.out _ _ ⟨fun _ => HSX.out wa3 Xwa3.out, ?_⟩
  clear hK'
  try simp only [Act.put, List.setIfInBounds_toArray, List.set_cons_zero, List.set_cons_succ]
  have hS := HSX.out wa3 Xwa3.out
  refine wpAnyT_all (rs := [9]) (by kernel_rfl) (by simp) ?_
  intro i_ hi_
  rw [List.mem_singleton] at hi_
  subst hi_
  refine wpOp_step15 rfl (by rfl) fun K' hK' => ?_
  go_simp
  refine (rsim_any2 (ca := c1) (cb := c2) A1wa3.out A2wa3.out (by omega) (by omega)).mono ?_
  rintro ev wa4 ⟨rfl, hw⟩
  have Xwa4 := hid (Xwa3.out.trans hw)
  have Bwa4 := hid (Bwa3.out.ext hw)
  clear hw
  (try simp only)
  refine hK'.out _ _ ⟨fun _ => HSX.out wa4 Xwa4.out, ?_⟩
  clear hK'
  try simp only [Act.put, List.setIfInBounds_toArray, List.set_cons_zero, List.set_cons_succ]
  have hS := HSX.out wa4 Xwa4.out
  refine wpAnyT_take (i := 20) (v := .agg #[.int .i64 j, .int .i64 (simB (wsB p) (wsB text)), .string p, .string q]) rfl (by kernel_rfl) (by kernel_rfl) (by kernel_rfl) (fun _ _ _ h => h) hS (Or.inl ⟨by rfl, ?_⟩) ?_
  ·intro w1 hSw
   unfold RS5 at hSw
   obtain ⟨q1, q2⟩ := hSw
   go_simp
  simp only [Act.put, List.setIfInBounds_toArray, List.set_cons_zero, List.set_cons_succ]
  refine wpAnyT_all (rs := [22]) (by kernel_rfl) (by simp) ?_
  intro i_ hi_
  rw [List.mem_singleton] at hi_
  subst hi_
  have q0 := Bwa4.out.cell 0 _ rfl
  have q1 := Bwa4.out.cell 1 _ rfl
  have q2 := Bwa4.out.cell 2 _ rfl
  have q3 := Bwa4.out.cell 3 _ rfl
  have f0 := frz_of Bwa4.out 0
  have f1 := frz_of Bwa4.out 1
  have f2 := frz_of Bwa4.out 2
  have f3 := frz_of Bwa4.out 3
  refine wpOp_step15 rfl (by rfl) fun K' hK' => ?_
  go_simp
  refine hK'.out _ _ ⟨fun h => absurd h (by decide), ?_⟩
  clear hK'
  try simp only [Act.put, List.setIfInBounds_toArray, List.set_cons_zero, List.set_cons_succ]
  refine ⟨by kernel_rfl, ?_⟩
  show Q _ _ _
  have g1 := heap_setCell_same wa4 bx 0 _ _ (.int .i64 j) Bwa4.out
  have g2 := heap_setCell_same _ bx 1 _ _ (.int .i64 (simB (wsB p) (wsB text))) g1
  have g3 := heap_setCell_same _ bx 2 _ _ (.string p) g2
  have g4 := heap_setCell_same _ bx 3 _ _ (.string q) g3
  exact HQ.out _ _ _ _ _ _ _ _ _ _ _ _ _ _ _ _ _ _ _ _ _ bx _ g4 ((((Xwa4.out.setCell BL.out _).setCell BL.out _).setCell BL.out _).setCell BL.out _)
end Go.Proofs.YtiijdojihleggaaGreatDoor
namespace Go.Proofs.YtiijdojihleggaaGreatDoor
open Go.RowKit
def rallN (m : List SgP) (text : ByteArray) (least : Int) (i : Nat) : List Mt := isoS leM (((List.range i).map (mtAt m text)).filter fun x => decide (least ≤ x.n))
theorem rall_next (m : List SgP) (text : ByteArray) (least : Int) (i : Nat) : rallN m text least (i + 1) = if least ≤ (mtAt m text i).n then insS leM (rallN m text least i) (mtAt m text i) else rallN m text least i := by
 unfold rallN isoS
 rw [List.range_succ, List.map_append, List.filter_append, List.foldl_append]
 simp only [List.map_cons, List.map_nil, List.filter_cons, List.filter_nil]
 split
 ·rename_i h
  rw [if_pos (of_decide_eq_true h)]
  rfl
 ·rename_i h
  rw [if_neg (by simpa using h)]
  rfl
theorem rall_all {m : List SgP} {text : ByteArray} (least : Int) (hl : longB text = false) : rallN m text least m.length = allM m text least := by
 unfold rallN allM
 rw [if_neg (by rw [hl]; decide), zip_range]
theorem rall_len (m : List SgP) (text : ByteArray) (least : Int) (i : Nat) : (rallN m text least i).length ≤ i := by
 unfold rallN
 rw [isoS_len]
 refine Nat.le_trans (List.length_filter_le _ _) ?_
 simp
theorem rall_sorted (m : List SgP) (text : ByteArray) (least : Int) (i : Nat) : SortedS leM (rallN m text least i) := isoS_sorted preM _
def RlI (w : World) (m : List SgP) (text : ByteArray) (least : Int) (v i : Value) (wr : World) : Prop := ∃ j : Nat, i = .int .i64 j ∧ j ≤ m.length ∧ wr.ownsRow w.heap.size 38 4 v (rallN m text least j).length ((rallN m text least j).flatMap mtC) ∧ Ext w wr
def R5m (wo : World) (x : Mt) (v : Value) (wx : World) : Prop := ∃ bx, v = .pointer (some ⟨bx, 0, none⟩) ∧ AtC 38 wx bx #[.int .i64 x.i, .int .i64 x.n, .string x.s, .string x.t] ∧ Ext wo wx
theorem mt_simC {w : World} {g L : Nat} {R : List Mt} (h : SlN w (some ⟨g, 0, none⟩) L 4 (R.flatMap mtC)) {k : Nat} {y : Mt} (hy : R[k]? = some y) : w.cell? ⟨g, k * 4 + 1, none⟩ = some (.int .i64 y.n) := by
 have h1 := flat_get mtC 4 (fun _ => rfl) R k 1 y hy (by decide)
 obtain ⟨b, o, e, _, hc⟩ := h.2 (k * 4 + 1) (.int .i64 y.n) (by rw [h1]; rfl)
 injection e with e
 injection e with e1 e2 _
 subst e1 e2
 rwa [Nat.zero_add] at hc
theorem mt_flat_one (R : List Mt) : ∀ u ∈ R.flatMap mtC, u.oneCell' = true := by
 intro u hu
 obtain ⟨x, _, hx⟩ := List.mem_flatMap.1 hu
 exact mt_one x u hx
theorem flat_takeM (R : List Mt) : ∀ p : Nat, (R.flatMap mtC).take (p * 4) = (R.take p).flatMap mtC ∧ (R.flatMap mtC).drop (p * 4) = (R.drop p).flatMap mtC := by
 induction R with
 | nil => intro p; simp
 | cons x R ih =>
   intro p
   cases p with
   | zero => simp
   | succ p =>
     obtain ⟨h1, h2⟩ := ih p
     have e : (x :: R).flatMap mtC = mtC x ++ R.flatMap mtC := rfl
     rw [e, show (p + 1) * 4 = 4 + p * 4 from by omega]
     constructor
     ·rw [List.take_append, List.take_of_length_le (by show 4 ≤ 4 + p * 4; omega)]
      rw [show 4 + p * 4 - (mtC x).length = p * 4 from by show 4 + p * 4 - 4 = _; omega, h1]
      rfl
     ·rw [List.drop_append, List.drop_of_length_le (by show 4 ≤ 4 + p * 4; omega)]
      rw [show 4 + p * 4 - (mtC x).length = p * 4 from by show 4 + p * 4 - 4 = _; omega, h2]
      rfl
theorem own_lower {w : World} {B B' : Nat} {e : TypeId} {size : Nat} {v : Value} {n : Nat} {xs : List Value} (h : w.ownsRow B' e size v n xs) (hB : B ≤ B') : w.ownsRow B e size v n xs := by
 refine ⟨h.1, ?_⟩
 rcases h.2 with h2 | ⟨g, cap, cur, h1, h2, h3⟩
 ·exact .inl h2
 ·exact .inr ⟨g, cap, cur, h1, Nat.le_trans hB h2, h3⟩
def AtI2 (wk : World) (o : List Mt) (x : Mt) (i : Value) (wr : World) : Prop := ∃ p : Nat, i = .int .i64 p ∧ p ≤ o.length ∧ (∀ k y, p ≤ k → o[k]? = some y → y.n < x.n) ∧ Ext wk wr
theorem ins_at {o : List Mt} {x : Mt} {p : Nat} (hs : SortedS leM o) (h1 : ∀ k y, p ≤ k → o[k]? = some y → y.n < x.n) (h2 : ∀ k y, p = k + 1 → o[k]? = some y → x.n ≤ y.n) (hp : p ≤ o.length) : insS leM o x = o.take p ++ x :: o.drop p := by
 obtain ⟨U, V, rfl, hU⟩ := list_cut o p hp
 rw [← hU, List.take_left, List.drop_left]
 unfold insS
 refine up_all preM hs ?_ ?_
 ·rcases List.eq_nil_or_concat U with e | ⟨U0, u, e⟩
  ·exact .inl e
  ·right
   rw [List.concat_eq_append] at e
   subst e
   refine ⟨U0, u, rfl, ?_⟩
   have := h2 U0.length u (by rw [← hU]; simp) (by simp)
   unfold leM
   exact decide_eq_true this
 ·cases V with
  | nil => exact .inl rfl
  | cons v V =>
    right
    refine ⟨v, V, rfl, ?_⟩
    have := h1 U.length v (by omega) (by simp)
    unfold leM
    exact decide_eq_false (by omega)
set_option maxHeartbeats 8000000 in
theorem rAll_any (m : List SgP) (A : Option Addr) (n c : Nat) (text : ByteArray) (least : Int) (w : World) (hA : Als w A n m) (hm : ∀ x ∈ m, x.1.size ≤ 400) (ht : text.size ≤ 400) (hn : n ≤ 1000) :
 Calls Tryz.prog 15 #[.slice A n c, .string text, .int .i64 least] w (RetAll w (allM m text least)) := by
 have hlong := short_not ht
 have hln := hA.len
 have HA := hid hA
 have HM := hid hm
 subst hln
 have KL := hid (fun W => rLong_any text W (by omega))
 rw [hlong] at KL
 have HLG := hid hlong
 have HI0 := hid (show RlI w m text least (.slice none 0 0) (.int .i64 0) w from ⟨0, rfl, Nat.zero_le _, World.ownsRow_nil _ _ _ _, Ext.refl _⟩)
 clear hA hm hlong
 go_enter Tryz.func15, Tryz.ntmps15
 go_wp2
 go_loopw [7, 8] (RlI w m text least) (fun _ i _ => m.length - (intOf i).toNat)
 case atStart => exact HI0.out
 case round =>
  obtain ⟨j, rfl, hj, ho, hx⟩ := hrel
  have HO := hid ho
  have HX := hid hx
  clear ho hx HI0
  by_cases hjl : j < m.length
  rotate_left
  ·have hje : j = m.length := by omega
   have hjI : ¬ (j : Int) < (m.length : Int) := by omega
   have HR := hid (show allM m text least = rallN m text least j from by rw [hje, rall_all least HLG.out])
   as_aux_lemma =>
   go_wp2
   go_ret
   rw [HR.out]
   obtain ⟨A', c', rfl, hs⟩ := own_slN HO.out
   exact ⟨A', c', rfl, hs, HX.out⟩
  ·have hjI : (j : Int) < (m.length : Int) := by omega
   obtain ⟨wo, hwo⟩ : ∃ wo : World, wo = wr := ⟨_, rfl⟩
   rw [← hwo] at HO HX ⊢
   clear hwo
   obtain ⟨x, hx⟩ : ∃ x, m[j]? = some x := ⟨_, List.getElem?_eq_getElem hjl⟩
   have hmt : mtAt m text j = ⟨j, simB (wsB x.1) (wsB text), x.1, x.2⟩ := by
    unfold mtAt mtOf
    rw [List.getD_eq_getElem?_getD, hx]
    rfl
   obtain ⟨b, o, rfl, hb, d0, d1⟩ := (HA.out.ext HX.out).at_ hx
   rw [← Nat.add_assoc] at d1
   have hz := HM.out x (List.mem_of_getElem? hx)
   have HNX := hid (rall_next m text least j)
   rw [hmt] at HNX
   clear hx hmt
   obtain ⟨p, q⟩ := x
   simp only at d0 d1 hz HNX
   have HSW := hid (show ∀ W, Ext wo W → W.cell? ⟨b, o + j * 2, none⟩ = some (.string p) ∧ W.cell? ⟨b, o + j * 2 + 1, none⟩ = some (.string q) from fun W hW => ⟨(Ext.cell hW hb).trans d0, (Ext.cell hW hb).trans d1⟩)
   obtain ⟨sm, hsm⟩ : ∃ sm, sm = simB (wsB p) (wsB text) := ⟨_, rfl⟩
   rw [← hsm] at HNX
   have HSM := hid hsm
   clear hsm
   have hj0 : (0 : Int) ≤ (j : Int) := by omega
   go_upto_region 5 with (go_at_call 36; refine (KL.out _).mono ?_; rintro e wl ⟨rfl, hxl⟩; have HXL := hid hxl; clear hxl)
   clear d0 d1
   have d0 := (HSW.out _ HXL.out).1
   have d1 := (HSW.out _ HXL.out).2
   have HSW2 := hid (show ∀ W, Ext wl W → W.cell? ⟨b, o + j * 2, none⟩ = some (.string p) ∧ W.cell? ⟨b, o + j * 2 + 1, none⟩ = some (.string q) from fun W hW => HSW.out W (HXL.out.trans hW))
   have HXo := hid (HX.out.trans HXL.out)
   have HOl := hid (own_ext HO.out HXL.out)
   clear HSW HX HO
   go_cut [9] (R5m wl ⟨j, sm, p, q⟩)
   case first =>
    as_aux_lemma =>
    refine rl5 (by kernel_rfl) d0 d1 (Nat.lt_of_lt_of_le hb (Ext.size HXL.out)) hjI hz ht ?_
    intros
    rename_i bx w' hbx hxx
    rw [← HSM.out] at hbx
    (try go_wp2_with fail)
    go_meet
    exact ⟨bx, rfl, hbx, hxx⟩
   case rest =>
   obtain ⟨bx, rfl, hbx, hxx⟩ := hcut
   obtain ⟨wk, hwk⟩ : ∃ wk : World, wk = wc := ⟨_, rfl⟩
   rw [← hwk] at hbx hxx ⊢
   clear hwk
   have HBX := hid hbx
   have HXk := hid (HXo.out.trans hxx)
   have HOk := hid (own_ext HOl.out hxx)
   have b0 : wk.cell? ⟨bx, 1, none⟩ = some (.int .i64 sm) := hbx.cell 1 _ rfl
   have hbl := hbx.lt
   clear hbx hxx d0 d1 HSW2 HXo HOl HXL
   by_cases hle : least ≤ sm
   rotate_left
   ·as_aux_lemma =>
    have hls : sm < least := by omega
    have HN2 := hid (HNX.out.trans (if_neg hle))
    clear HNX hle
    go_wp2
    refine ⟨⟨j + 1, by go_num, hjl, ?_, HXk.out⟩, by simp [intOf]; omega⟩
    rw [HN2.out]
    exact HOk.out
   have hls : ¬ sm < least := by omega
   have HN2 := hid (HNX.out.trans (if_pos hle))
   have hol := rall_len m text least j
   have HSO := hid (rall_sorted m text least j)
   obtain ⟨R, hR⟩ : ∃ R, R = rallN m text least j := ⟨_, rfl⟩
   rw [← hR] at HOk HN2 hol HSO
   clear HNX hle hR
   obtain ⟨L, hL⟩ : ∃ L, L = R.length := ⟨_, rfl⟩
   rw [← hL] at HOk hol
   have HL := hid hL
   clear hL
   rcases HOk.out.2 with ⟨hv, hx0⟩ | ⟨g, cap, cur, hv, hbase, hblk, hcap, _⟩
   ·as_aux_lemma =>
    subst hv
    have hL0 : L = 0 := by
     have h := HOk.out.1
     rw [hx0] at h
     simp at h
     omega
    have hR0 : R = [] := List.eq_nil_of_length_eq_zero (by rw [← HL.out]; exact hL0)
    subst hR0
    have HN3 := hid (show rallN m text least (j + 1) = [⟨j, sm, p, q⟩] from by rw [HN2.out]; unfold insS; rw [List.nil_merge])
    clear HN2 hL0 HL HSO hol hx0 HOk
    go_wp2_with fail
    refine wp_loop_rounds 1 ?_
    rw [rounds_succ]
    go_upto_region 8 with (fail)
    go_quiet (fail)
    obtain ⟨wq, hwq⟩ : ∃ wq, wq = wk.drewN nq := ⟨_, rfl⟩
    have hxq : Ext wk wq := by rw [hwq]; exact (Ext.refl _).drewN _
    rw [← hwq]
    clear hwq
    have HBQ := hid (HBX.out.ext hxq)
    have HXQ := hid (HXk.out.trans hxq)
    clear hxq b0
    go_upto_region 10 with (fail)
    refine rl10n (by kernel_rfl) (x := ⟨j, sm, p, q⟩) (HBQ.out.cell 0 _ rfl) (HBQ.out.cell 1 _ rfl) (HBQ.out.cell 2 _ rfl) (HBQ.out.cell 3 _ rfl) HBQ.out.lt ?_
    intros
    rename_i v' w' ho' hx'
    have HO' := hid (show w'.ownsRow w.heap.size 38 4 v' [(⟨j, sm, p, q⟩ : Mt)].length ([(⟨j, sm, p, q⟩ : Mt)].flatMap mtC) from own_lower (by simpa using ho') (Ext.size HXQ.out))
    have HX' := hid (HXQ.out.trans hx')
    clear ho' hx'
    go_wp2_with fail
    refine ⟨⟨j + 1, by go_num, hjl, ?_, HX'.out⟩, by simp [intOf]; omega⟩
    rw [HN3.out]
    exact HO'.out
   ·as_aux_lemma =>
    subst hv
    obtain ⟨A', c', he, hsl⟩ := own_slN HOk.out
    injection he with he1 he2 he3
    subst he1
    have HSL := hid hsl
    have HI2 := hid (show AtI2 wk R ⟨j, sm, p, q⟩ (.int .i64 L) wk from by
     refine ⟨L, rfl, by rw [HL.out]; exact Nat.le_refl _, fun k y h1 h2 => ?_, Ext.refl _⟩
     rw [List.getElem?_eq_none (by rw [← HL.out]; exact h1)] at h2
     cases h2)
    have HCAP := hid hcap
    have HBASE := hid hbase
    have HLT := hid (Array.getElem?_eq_some_iff.1 hblk).1
    clear hsl hblk hcap hbase he2 he3
    go_wp2_with fail
    clear b0
    go_loopw [10] (AtI2 wk R ⟨j, sm, p, q⟩) (fun i _ => (intOf i).toNat)
    case atStart => exact HI2.out
    case round =>
     obtain ⟨at_, rfl, hat, hlow, hx2⟩ := hrel
     obtain ⟨w9, hw9⟩ : ∃ w9 : World, w9 = wr := ⟨_, rfl⟩
     rw [← hw9] at hx2 ⊢
     clear hw9
     have HLOW := hid hlow
     have HX2 := hid hx2
     have HAT := hid hat
     have b0 : w9.cell? ⟨bx, 1, none⟩ = some (.int .i64 sm) := (HBX.out.ext hx2).cell 1 _ rfl
     clear hlow hat
     cases at_ with
     | zero =>
       as_aux_lemma =>
       go_upto_region 8 with (fail)
       go_quiet (fail)
       go_wp2_with fail
       obtain ⟨wq, hwq⟩ : ∃ wq, wq = w9.drewN nq := ⟨_, rfl⟩
       have hxq : Ext wk wq := by rw [hwq]; exact HX2.out.drewN _
       rw [← hwq]
       clear hwq b0
       have HBQ := hid (HBX.out.ext hxq)
       have HXQ := hid (HXk.out.trans hxq)
       have HSQ := hid (HSL.out.ext hxq)
       have HNI := hid (HN2.out.trans (ins_at HSO.out HLOW.out (fun k y h => by omega) HAT.out))
       clear hxq
       go_upto_region 10 with (fail)
       refine rl10 (by kernel_rfl) (x := ⟨j, sm, p, q⟩) (p := 0) (HBQ.out.cell 0 _ rfl) (HBQ.out.cell 1 _ rfl) (HBQ.out.cell 2 _ rfl) (HBQ.out.cell 3 _ rfl) HBQ.out.lt HSQ.out (mt_flat_one R) (by have := HAT.out; have := HL.out; omega) HCAP.out (by omega) ?_
       intros
       rename_i v' w' ho' hx'
       have HO' := hid (show w'.ownsRow w.heap.size 38 4 v' (R.take (0) ++ ⟨j, sm, p, q⟩ :: R.drop (0)).length ((R.take (0) ++ ⟨j, sm, p, q⟩ :: R.drop (0)).flatMap mtC) from by
        have h := own_lower ho' (Ext.size HXQ.out)
        rw [(flat_takeM R _).1, (flat_takeM R _).2] at h
        have e1 : (R.take (0) ++ (⟨j, sm, p, q⟩ : Mt) :: R.drop (0)).length = L + 1 := by
         have h1 := HAT.out
         have h2 := HL.out
         simp
         omega
        rw [e1, List.flatMap_append, List.flatMap_cons, ← List.append_assoc]
        exact h)
       have HX' := hid (HXQ.out.trans hx')
       clear ho' hx'
       go_wp2_with fail
       refine ⟨⟨j + 1, by go_num, hjl, ?_, HX'.out⟩, by simp [intOf]; omega⟩
       rw [HNI.out]
       exact HO'.out
     | succ k =>
       have hkR : k < R.length := HAT.out
       obtain ⟨y, hy⟩ : ∃ y, R[k]? = some y := ⟨_, List.getElem?_eq_getElem hkR⟩
       have hkL : (k : Int) < (L : Int) := by have := HL.out; omega
       have c0 : w9.cell? ⟨g, k * 4 + 1, none⟩ = some (.int .i64 y.n) := mt_simC (HSL.out.ext HX2.out) hy
       have e1 : ((k + 1 : Nat) : Int) - 1 = (k : Int) := by omega
       have e2 : (0 : Int) < ((k + 1 : Nat) : Int) := by omega
       have e3 : (0 : Int) ≤ (k : Int) := by omega
       have HY := hid hy
       clear hkR hy
       by_cases hyn : y.n < sm
       ·as_aux_lemma =>
        go_upto_region 8 with (fail)
        go_quiet (fail)
        go_wp2_with fail
        refine ⟨⟨k, by go_num, Nat.le_of_succ_le HAT.out, fun i z h1 h2 => ?_, HX2.out.drewN _⟩, by simp [intOf]⟩
        by_cases hik : i = k
        ·rw [hik, HY.out] at h2
         injection h2 with h2
         rw [← h2]; exact hyn
        ·exact HLOW.out i z (by omega) h2
       ·as_aux_lemma =>
        have HGE := hid (show ∀ i z, k + 1 = i + 1 → R[i]? = some z → sm ≤ z.n from fun i z h1 h2 => by
         have e : i = k := by omega
         rw [e, HY.out] at h2
         injection h2 with h2
         rw [← h2]; omega)
        have hge : sm ≤ y.n := by omega
        go_upto_region 8 with (fail)
        go_quiet (fail)
        go_wp2_with fail
        clear c0
        obtain ⟨wq, hwq⟩ : ∃ wq, wq = w9.drewN nq := ⟨_, rfl⟩
        have hxq : Ext wk wq := by rw [hwq]; exact HX2.out.drewN _
        rw [← hwq]
        clear hwq b0
        have HBQ := hid (HBX.out.ext hxq)
        have HXQ := hid (HXk.out.trans hxq)
        have HSQ := hid (HSL.out.ext hxq)
        have HNI := hid (HN2.out.trans (ins_at HSO.out HLOW.out HGE.out HAT.out))
        clear hxq
        go_upto_region 10 with (fail)
        refine rl10 (by kernel_rfl) (x := ⟨j, sm, p, q⟩) (p := k + 1) (HBQ.out.cell 0 _ rfl) (HBQ.out.cell 1 _ rfl) (HBQ.out.cell 2 _ rfl) (HBQ.out.cell 3 _ rfl) HBQ.out.lt HSQ.out (mt_flat_one R) (by have := HAT.out; have := HL.out; omega) HCAP.out (by omega) ?_
        intros
        rename_i v' w' ho' hx'
        have HO' := hid (show w'.ownsRow w.heap.size 38 4 v' (R.take (k + 1) ++ ⟨j, sm, p, q⟩ :: R.drop (k + 1)).length ((R.take (k + 1) ++ ⟨j, sm, p, q⟩ :: R.drop (k + 1)).flatMap mtC) from by
         have h := own_lower ho' (Ext.size HXQ.out)
         rw [(flat_takeM R _).1, (flat_takeM R _).2] at h
         have e1 : (R.take (k + 1) ++ (⟨j, sm, p, q⟩ : Mt) :: R.drop (k + 1)).length = L + 1 := by
          have h1 := HAT.out
          have h2 := HL.out
          simp
          omega
         rw [e1, List.flatMap_append, List.flatMap_cons, ← List.append_assoc]
         exact h)
        have HX' := hid (HXQ.out.trans hx')
        clear ho' hx'
        go_wp2_with fail
        refine ⟨⟨j + 1, by go_num, hjl, ?_, HX'.out⟩, by simp [intOf]; omega⟩
        rw [HNI.out]
        exact HO'.out
end Go.Proofs.YtiijdojihleggaaGreatDoor
namespace Go.Proofs.YtiijdojihleggaaGreatDoor
open Go.RowKit
section
open Go
variable {H : Type} {enc : TypeId × Value → H} {P : Program}
theorem open_cap {t e : TypeId} {W : World} {A : Option Addr} {n c : Nat} {d : DataW H} {ps : List MemPlace} (ht : P.underlying t = some (.slice e)) (h : DataW.Trod enc P W 0 (fun _ => true) true t (.slice A n c) d ps) : n ≤ c := by
 obtain ⟨fuel, hf⟩ := h
 rcases DataW.trod_slice ht hf with ⟨hcs, _⟩ | ⟨a, len, cap, elems, rest, k, _, hcs, _, _, hl, hm, hlen, hel, _, _⟩
 ·simp [Value.cells] at hcs
  omega
 ·simp [Value.cells] at hcs
  omega
end
theorem flat_takeA (l : List SgP) : ∀ q : Nat, (l.flatMap aliC).take (q * 2) = (l.take q).flatMap aliC := by
 induction l with
 | nil => intro q; simp
 | cons x l ih =>
   intro q
   cases q with
   | zero => simp
   | succ q =>
     have e : (x :: l).flatMap aliC = aliC x ++ l.flatMap aliC := rfl
     rw [e, show (q + 1) * 2 = 2 + q * 2 from by omega]
     rw [List.take_append, List.take_of_length_le (by show 2 ≤ 2 + q * 2; omega)]
     rw [show 2 + q * 2 - (aliC x).length = q * 2 from by show 2 + q * 2 - 2 = _; omega, ih q]
     rfl
theorem als_take {w : World} {A : Option Addr} {n q : Nat} {l : List SgP} (h : Als w A n l) (hq : q ≤ n) : Als w A q (l.take q) := by
 unfold Als at h ⊢
 rw [← flat_takeA]
 refine ⟨by rw [List.length_take, h.1]; exact Nat.min_eq_left (Nat.mul_le_mul_right _ hq), fun j u hj => ?_⟩
 rw [List.getElem?_take] at hj
 split at hj
 ·exact h.2 j u hj
 ·cases hj
def SaI (w : World) (n : Nat) (i : Value) (wr : World) : Prop := ∃ j : Nat, i = .int .i64 j ∧ j ≤ n ∧ Ext w wr
set_option maxHeartbeats 4000000 in
theorem rsame_eq {ws : List ByteArray} {A B : Option Addr} {n ca cb : Nat} {w : World} (hA : Sl w A n (ws.map .string)) (hB : Sl w B n (ws.map .string)) (hn : n ≤ 1000000) :
 Calls Tryz.prog 17 #[.slice A n ca, .slice B n cb] w fun e w' => e = .returned (.bool true) ∧ Ext w w' := by
 have HA := hid hA
 have HB := hid hB
 have HI0 := hid (show SaI w n (.int .i64 0) w from ⟨0, rfl, Nat.zero_le _, Ext.refl _⟩)
 clear hA hB
 go_enter Tryz.func17, Tryz.ntmps17
 go_wp2
 go_loopw [5] (SaI w n) (fun i _ => n - (intOf i).toNat)
 case atStart => exact HI0.out
 case round =>
  obtain ⟨j, rfl, hj, hx⟩ := hrel
  have HX := hid hx
  clear hx
  by_cases hjn : j < n
  ·obtain ⟨adA, x, rfl, hx, c0⟩ := (HA.out.ext HX.out).at_map hjn
   obtain ⟨b1, o1, rfl, hb1⟩ := addr_flat HA.out (by omega)
   rw [add_flat] at c0
   obtain ⟨adB, y, rfl, hy, d0⟩ := (HB.out.ext HX.out).at_map hjn
   obtain ⟨b2, o2, rfl, hb2⟩ := addr_flat HB.out (by omega)
   rw [add_flat] at d0
   rw [hx] at hy
   injection hy with hy
   subst hy
   have e1 : (x.toList == x.toList) = true := by simp
   clear hx
   as_aux_lemma =>
   go_upto_region 6 with (fail)
   go_quiet (fail)
   go_wp2_with fail
   exact ⟨⟨j + 1, by go_num, hjn, HX.out.drewN _⟩, by simp [intOf]; omega⟩
  ·go_wp2
   go_ret
   exact ⟨rfl, HX.out⟩
end Go.Proofs.YtiijdojihleggaaGreatDoor
