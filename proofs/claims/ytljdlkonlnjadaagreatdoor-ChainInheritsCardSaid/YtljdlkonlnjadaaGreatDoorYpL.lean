import Derived.Test.YtljdlkonlnjadaaGreatDoorNZ7
import Derived.Test.YtljdlkonlnjadaaGreatDoorNZ8
import Derived.Test.YtljdlkonlnjadaaGreatDoorNZ9
import Derived.Test.YtljdlkonlnjadaaGreatDoorNZA
set_option maxRecDepth 100000
set_option linter.unusedSimpArgs false
set_option linter.unusedVariables false
open Go.Lib (hid)
namespace Go.Proofs.YtljdlkonlnjadaaGreatDoor
open Go.RowKit
def BkYL (w : World) (A0 A : Option Addr) : Prop := ∀ ad, A = some ad → A0 = some ad ∨ w.heap.size ≤ ad.block
def InIL (w : World) (A0 : Option Addr) (O0 E : List El) (n0 e : Nat) (v i : Value) (wr : World) : Prop := ∃ (p : Nat) (A : Option Addr) (n c : Nat) (O : List El), p ≤ e ∧ i = .int .i64 p ∧ v = .slice A n c ∧ ElM 5 wr A n O ∧ n ≤ c ∧ O = (E.take p).foldl (fun o x => yIns (kyE 1) ltK x o) O0 ∧ n ≤ n0 + p ∧ Ext w wr ∧ BkYL w A0 A
def InJL (wo : World) (O : List El) (x : El) (n : Nat) (i : Value) (wr : World) : Prop := ∃ k : Nat, k ≤ n ∧ i = .int .i64 k ∧ PreY (kyE 1) ltK O x k ∧ Ext wo wr
theorem lt_ofL {x0 x1 x2 x3 x4 y0 y1 y2 y3 y4 : ByteArray} : ltK (kyE 1 [y0, y1, y2, y3, y4]) (kyE 1 [x0, x1, x2, x3, x4]) = decide (y0.data.toList < x0.data.toList) := by
 rw [ky_one (by simp), ky_one (by simp)]
 simp [ltK, atE]
theorem key_ofL {x0 x1 x2 x3 x4 y0 y1 y2 y3 y4 : ByteArray} : kyE 1 [y0, y1, y2, y3, y4] = kyE 1 [x0, x1, x2, x3, x4] ↔ y0.data.toList = x0.data.toList := by
 rw [ky_one (by simp), ky_one (by simp)]
 simp [atE]
theorem in_stepL {w wo w3 : World} {A0 : Option Addr} {O0 E O : List El} {n0 e p k N B : Nat} {x : El} {v3 : Value} {A : Option Addr} (hx : E[p]? = some x) (hE : (∀ x ∈ E, x.length = 5) ∧ ∀ x ∈ E, ∀ s ∈ x, s.size ≤ maxLen) (hO : ElM 5 wo A N O)
 (hOF : O = (E.take p).foldl (fun o x => yIns (kyE 1) ltK x o) O0) (hm : yIns (kyE 1) ltK x O = O.take k ++ x :: O.drop k) (h3 : w3.ownsRow B 71 5 v3 (0 + k + 1 + (N - k)) ((([] ++ (O.take k).flatMap elC) ++ elC x) ++ (O.drop k).flatMap elC))
 (hk : k ≤ N) (hNn : N ≤ n0 + p) (hpe : p < e) (hw : Ext w w3) (hBw : w.heap.size ≤ B) {iv : Value} (hiv : iv = .int .i64 ((p + 1 : Nat) : Int)) : InIL w A0 O0 E n0 e v3 iv w3 := by
 obtain ⟨A3, c3, rfl, hs3⟩ := own_slN h3
 have hxm := List.mem_of_getElem? hx
 refine ⟨p + 1, A3, 0 + k + 1 + (N - k), c3, O.take k ++ x :: O.drop k, hpe, hiv, rfl, ⟨?_, ?_, ?_⟩, own_capY h3, ?_, by omega, hw, fun ad had => .inr (Nat.le_trans hBw (own_notY h3 ad had))⟩
 ·rw [List.flatMap_append, List.flatMap_cons]
  simpa using hs3
 ·intro z hz
  rcases List.mem_append.1 hz with hz | hz
  ·exact hO.2.1 z (List.mem_of_mem_take hz)
  ·rcases List.mem_cons.1 hz with rfl | hz
   ·exact hE.1 _ hxm
   ·exact hO.2.1 z (List.mem_of_mem_drop hz)
 ·intro z hz
  rcases List.mem_append.1 hz with hz | hz
  ·exact hO.2.2 z (List.mem_of_mem_take hz)
  ·rcases List.mem_cons.1 hz with rfl | hz
   ·exact hE.2 _ hxm
   ·exact hO.2.2 z (List.mem_of_mem_drop hz)
 ·rw [take_nextY hx, List.foldl_append, ← hOF]
  exact hm.symm
theorem in_sameL {w w3 : World} {A0 : Option Addr} {O0 E O : List El} {n0 e p N c : Nat} {x : El} {A : Option Addr} (hx : E[p]? = some x) (hO : ElM 5 w3 A N O) (hOF : O = (E.take p).foldl (fun o x => yIns (kyE 1) ltK x o) O0) (hm : yIns (kyE 1) ltK x O = O)
 (hNc : N ≤ c) (hNn : N ≤ n0 + p) (hpe : p < e) (hw : Ext w w3) (hbk : BkYL w A0 A) {iv : Value} (hiv : iv = .int .i64 ((p + 1 : Nat) : Int)) : InIL w A0 O0 E n0 e (.slice A N c) iv w3 := by
 refine ⟨p + 1, A, N, c, O, hpe, hiv, rfl, hO, hNc, ?_, by omega, hw, hbk⟩
 rw [take_nextY hx, List.foldl_append, ← hOF]
 exact hm.symm
set_option maxHeartbeats 8000000 in
theorem rinsL_any (O0 E : List El) (A0 B : Option Addr) (n0 c0 e ec : Nat) (w : World) (hA : ElM 5 w A0 n0 O0) (hB : ElM 5 w B e E) (hnc : n0 ≤ c0) (hn : n0 + e ≤ 1000000) :
 Calls Tryz.prog 44 #[.slice A0 n0 c0, .slice B e ec] w fun ev w' => ∃ A' n' c', ev = .returned (.slice A' n' c') ∧ ElM 5 w' A' n' (E.foldl (fun o x => yIns (kyE 1) ltK x o) O0) ∧ n' ≤ c' ∧ n' ≤ n0 + e ∧ Ext w w' ∧ BkYL w A0 A' := by
 obtain ⟨i0, hi, hz0, hz1, hz2⟩ := info_parts (show (Tryz.prog.info? 71).map (fun i => (i.zero, i.size, i.bytes)) = some (some (.agg #[.string ⟨#[]⟩, .string ⟨#[]⟩, .string ⟨#[]⟩, .string ⟨#[]⟩, .string ⟨#[]⟩]), 5, 80) from by kernel_rfl)
 have HA := hid hA
 have HB := hid hB
 have HEL := hid (hB.len (by decide))
 obtain ⟨R, hR⟩ : ∃ R, R = E.foldl (fun o x => yIns (kyE 1) ltK x o) O0 := ⟨_, rfl⟩
 rw [← hR]
 have HR := hid hR
 clear hA hB hR
 go_enter Tryz.func44, Tryz.ntmps44
 go_wp2_with fail
 go_loopw [0, 5] (InIL w A0 O0 E n0 e) (fun _ i _ => e - (intOf i).toNat)
 case atStart => exact ⟨0, A0, n0, c0, O0, Nat.zero_le _, rfl, rfl, HA.out, hnc, rfl, Nat.le_refl _, Ext.refl _, fun ad h => .inl h⟩
 case round =>
  obtain ⟨p, A, N, c, O, hp, rfl, rfl, hO, hNc, hOf, hNn, hw, hbk⟩ := hrel
  have HBK := hid hbk
  clear hbk
  obtain ⟨wo, rfl⟩ : ∃ wo : World, wo = wr := ⟨_, rfl⟩
  have HO := hid hO
  have HOF := hid hOf
  have HW := hid hw
  have HON := hid (hO.len (by decide))
  have hN6 : N ≤ 1000000 := by omega
  clear hO hOf hw
  by_cases hpe : p < e
  ·obtain ⟨x, hx⟩ : ∃ x, E[p]? = some x := ⟨_, List.getElem?_eq_getElem (by have := HEL.out; omega)⟩
   have HXE := hid hx
   have HXL := hid (HB.out.2.1 x (List.mem_of_getElem? hx))
   have hpI : (p : Int) < (e : Int) := by omega
   obtain ⟨x0, x1, x2, x3, x4, rfl⟩ : ∃ x0 x1 x2 x3 x4 : ByteArray, x = [x0, x1, x2, x3, x4] := by
    match x, HXL.out with
    | [x0, x1, x2, x3, x4], _ => exact ⟨x0, x1, x2, x3, x4, rfl⟩
   obtain ⟨_, bB, oB, rfl, hbB, hcB⟩ := (HB.out.ext HW.out).at_ (by decide) hx
   have HBX := hid (fun (W : World) (h : Ext wo W) j u hu => cell_midY h (hcB j u hu))
   clear hx hcB
   go_wp2_with fail
   go_loopw [6] (InJL wo O [x0, x1, x2, x3, x4] N) (fun i _ => N - (intOf i).toNat)
   case atStart => exact ⟨0, Nat.zero_le _, rfl, preY_zero _ _, Ext.refl _⟩
   case round =>
    obtain ⟨k, hk, rfl, hpre, hwi⟩ := hrel
    obtain ⟨wi, rfl⟩ : ∃ wi : World, wi = wr := ⟨_, rfl⟩
    have HPR := hid hpre
    have HWI := hid hwi
    clear hpre hwi
    by_cases hkn : k < N
    ·obtain ⟨y, hy⟩ : ∃ y, O[k]? = some y := ⟨_, List.getElem?_eq_getElem (by have := HON.out; omega)⟩
     have HYO := hid hy
     have HYL := hid (HO.out.2.1 y (List.mem_of_getElem? hy))
     obtain ⟨y0, y1, y2, y3, y4, rfl⟩ : ∃ y0 y1 y2 y3 y4 : ByteArray, y = [y0, y1, y2, y3, y4] := by
      match y, HYL.out with
      | [y0, y1, y2, y3, y4], _ => exact ⟨y0, y1, y2, y3, y4, rfl⟩
     obtain ⟨_, bA, oA, rfl, hbA, hcA⟩ := (HO.out.ext HWI.out).at_ (by decide) hy
     have HAX := hid (fun (W : World) (h : Ext wi W) j u hu => cell_midY h (hcA j u hu))
     have hkI : (k : Int) < (N : Int) := by omega
     clear hy hcA
     have a0 := HAX.out wi (Ext.refl wi) 0 y0 rfl
     have b0 := HBX.out wi HWI.out 0 x0 rfl
     rw [Nat.add_zero] at a0 b0
     cases t2 : Op.bytesLess y0.toList x0.toList
     ·go_upto_region 5 with (fail)
      go_quiet (fail)
      obtain ⟨wj, hwj⟩ : ∃ wj, wj = wi.drewN nq := ⟨_, rfl⟩
      rw [← hwj]
      have HWJ := hid (show Ext wi wj from by rw [hwj]; exact (Ext.refl wi).drewN nq)
      clear hwj a0 b0
      have a0 := HAX.out wj HWJ.out 0 y0 rfl
      have b0 := HBX.out wj (HWI.out.trans HWJ.out) 0 x0 rfl
      rw [Nat.add_zero] at a0 b0
      have hkNe : ((k : Int) == (N : Int)) = false := by rw [beq_eq_false_iff_ne]; omega
      have HLT := hid (show ltK (kyE 1 [y0, y1, y2, y3, y4]) (kyE 1 [x0, x1, x2, x3, x4]) = false from by rw [lt_ofL, ← less_b]; exact t2)
      cases t3 : (y0.toList == x0.toList)
      ·have t4 : (y0.toList != x0.toList) = true := by rw [bne, t3]; rfl
       have HKE := hid (show kyE 1 [y0, y1, y2, y3, y4] ≠ kyE 1 [x0, x1, x2, x3, x4] from fun h => by rw [key_ofL] at h; rw [ByteArray.toList_eq, ByteArray.toList_eq, h] at t3; simp at t3)
       go_upto_region 7 with (fail)
       go_quiet (fail)
       go_upto_region 8 with (fail)
       obtain ⟨wx, hwx⟩ : ∃ wx, wx = wj.drewN nq := ⟨_, rfl⟩
       rw [← hwx]
       have HWX := hid (show Ext wo wx from by rw [hwx]; exact (HWI.out.trans HWJ.out).drewN nq)
       clear hwx a0 b0 t2 t3 t4 hkNe
       have HM := hid (yIns_mid HPR.out HYO.out HLT.out HKE.out)
       have HWX2 := hid (HW.out.trans HWX.out)
       have S1 := hid (show SlN wx (some ⟨bA, oA, none⟩) k 5 ((O.take k).flatMap elC) from by rw [← flat_take2 O k HO.out.2.1]; exact SlN.takeY (HO.out.1.ext HWX.out) k hk)
       have S3 := hid (show SlN wx (some ⟨bA, oA + k * 5, none⟩) (N - k) 5 ((O.drop k).flatMap elC) from by rw [← flat_drop2 O k HO.out.2.1]; exact SlN.dropY (HO.out.1.ext HWX.out) k hk)
       have HT1 := hid (el_one (O.take k))
       have HT2 := hid (el_oneX [x0, x1, x2, x3, x4])
       have HT3 := hid (el_one (O.drop k))
       have d0 := HBX.out wx HWX.out 0 x0 rfl
       have d1 := HBX.out wx HWX.out 1 x1 rfl
       have d2 := HBX.out wx HWX.out 2 x2 rfl
       have d3 := HBX.out wx HWX.out 3 x3 rfl
       have d4 := HBX.out wx HWX.out 4 x4 rfl
       rw [Nat.add_zero] at d0
       have g0 := fun ob => cell_midY ((Ext.refl wx).alloc ob) d0
       have g1 := fun ob => cell_midY ((Ext.refl wx).alloc ob) d1
       have g2 := fun ob => cell_midY ((Ext.refl wx).alloc ob) d2
       have g3 := fun ob => cell_midY ((Ext.refl wx).alloc ob) d3
       have g4 := fun ob => cell_midY ((Ext.refl wx).alloc ob) d4
       have hkc : (k : Int) ≤ (c : Int) := by omega
       have hck : ¬ c = k := by omega
       have tok1 : True := trivial
       have tok2 : True := trivial
       have tok3 : True := trivial
       go_region_law (first
        | (have _t := tok1; refine step_appN _ rfl _ _ 32 rfl wx.heap.size 71 i0 _ 5 80 Tryz.underlying32 hi hz0 hz1 hz2 rfl (by decide) _ 0 [] rfl ((own_emptyN wx 71 5).drew) _ k _ ((O.take k).flatMap elC) rfl (SlN.ext S1.out (((Ext.refl wx).alloc _).drew)) HT1.out (by unfold maxLen; omega) (by omega) (by simp; try omega) ?_; intro v1 w1 hown1 hgrow1; have HX1 := hid (extY (a := wx) (((Ext.refl wx).alloc _).drew) ((own_emptyN wx 71 5).drew) hgrow1); have c0 := cell_midY HX1.out d0; have c1 := cell_midY HX1.out d1; have c2 := cell_midY HX1.out d2; have c3 := cell_midY HX1.out d3; have c4 := cell_midY HX1.out d4; have HO1 := hid hown1; clear hown1 hgrow1 tok1)
        | (have _t := tok1; refine step_appN _ rfl _ _ 32 rfl wx.heap.size 71 i0 _ 5 80 Tryz.underlying32 hi hz0 hz1 hz2 rfl (by decide) _ 0 [] rfl (((own_emptyN wx 71 5).alloc _).drew) _ k _ ((O.take k).flatMap elC) rfl (SlN.ext S1.out ((((Ext.refl wx).alloc (.cells #[] 71)).alloc (.cells #[.string x0, .string x1, .string x2, .string x3, .string x4] 71)).drew)) HT1.out (by unfold maxLen; omega) (by omega) (by simp; try omega) ?_; intro v1 w1 hown1 hgrow1; have HX1 := hid (extY (a := wx) ((((Ext.refl wx).alloc (.cells #[] 71)).alloc (.cells #[.string x0, .string x1, .string x2, .string x3, .string x4] 71)).drew) (((own_emptyN wx 71 5).alloc _).drew) hgrow1); have c0 := cell_midY HX1.out d0; have c1 := cell_midY HX1.out d1; have c2 := cell_midY HX1.out d2; have c3 := cell_midY HX1.out d3; have c4 := cell_midY HX1.out d4; have HZ1 := hid (slN_keptY (n := 1) (size := 5) (row := some wx.heap.size) hgrow1 (two_newY wx _ _) (by simp) rfl); have HO1 := hid hown1; clear hown1 hgrow1 tok1)
        | (have _t := tok1; refine step_appN _ rfl _ _ 32 rfl wx.heap.size 71 i0 _ 5 80 Tryz.underlying32 hi hz0 hz1 hz2 rfl (by decide) _ 0 [] rfl (own_empty2 wx _ 71 5) _ k _ ((O.take k).flatMap elC) rfl (SlN.ext S1.out ((((Ext.refl wx).alloc (.cells #[.string x0, .string x1, .string x2, .string x3, .string x4] 71)).alloc (.cells #[] 71)).drew)) HT1.out (by unfold maxLen; omega) (by omega) (by simp; try omega) ?_; intro v1 w1 hown1 hgrow1; have HX1 := hid (extY (a := wx) ((((Ext.refl wx).alloc (.cells #[.string x0, .string x1, .string x2, .string x3, .string x4] 71)).alloc (.cells #[] 71)).drew) (own_empty2 wx _ 71 5) hgrow1); have c0 := cell_midY HX1.out d0; have c1 := cell_midY HX1.out d1; have c2 := cell_midY HX1.out d2; have c3 := cell_midY HX1.out d3; have c4 := cell_midY HX1.out d4; have HZ1 := hid (slN_keptY (n := 1) (size := 5) (row := some (wx.heap.size + 1)) hgrow1 (two_oldY wx _ _) (by simp) rfl); have HO1 := hid hown1; clear hown1 hgrow1 tok1)
        | (have _t := tok2; refine step_appN _ rfl _ _ 32 rfl wx.heap.size 71 i0 _ 5 80 Tryz.underlying32 hi hz0 hz1 hz2 rfl (by decide) _ (0 + k) _ rfl (HO1.out) _ 1 _ (elC [x0, x1, x2, x3, x4]) rfl (HZ1.out) HT2.out (by unfold maxLen; omega) (by omega) (by have := Ext.size HX1.out; first | omega | (simp; omega)) ?_; intro v2 w2 hown2 hgrow2; have HX2 := hid (extY (a := wx) (HX1.out) (HO1.out) hgrow2); have HO2 := hid hown2; clear hown2 hgrow2 tok2)
        | (have _t := tok2; refine step_appN _ rfl _ _ 32 rfl wx.heap.size 71 i0 _ 5 80 Tryz.underlying32 hi hz0 hz1 hz2 rfl (by decide) _ (0 + k) _ rfl (HO1.out.alloc _) _ 1 _ (elC [x0, x1, x2, x3, x4]) rfl (slN_newY _ _ _ 1 5 rfl) HT2.out (by unfold maxLen; omega) (by omega) (by have := Ext.size HX1.out; first | omega | (simp; omega)) ?_; intro v2 w2 hown2 hgrow2; have HX2 := hid (extY (a := wx) (HX1.out.alloc _) (HO1.out.alloc _) hgrow2); have HO2 := hid hown2; clear hown2 hgrow2 tok2)
        | (have _t := tok3; refine step_appN _ rfl _ _ 32 rfl wx.heap.size 71 i0 _ 5 80 Tryz.underlying32 hi hz0 hz1 hz2 rfl (by decide) _ (0 + k + 1) _ rfl HO2.out _ (N - k) _ ((O.drop k).flatMap elC) rfl (SlN.ext S3.out HX2.out) HT3.out (by unfold maxLen; omega) (by omega) (by have := Ext.size HX2.out; first | omega | (simp; omega)) ?_; intro v3 w3 hown3 hgrow3; have HX3 := hid (extY (a := wx) HX2.out HO2.out hgrow3); have HO3 := hid hown3; clear hown3 hgrow3 tok3))
       all_goals go_wp2
       all_goals exact ⟨in_stepL HXE.out HB.out.2 HO.out HOF.out HM.out HO3.out hk hNn hpe (HWX2.out.trans HX3.out) HWX2.out.size (by go_num), by simp [intOf]; omega⟩
      ·have t4 : (y0.toList != x0.toList) = false := by rw [bne, t3]; rfl
       have HKE := hid (show kyE 1 [y0, y1, y2, y3, y4] = kyE 1 [x0, x1, x2, x3, x4] from by rw [key_ofL]; rw [ByteArray.toList_eq, ByteArray.toList_eq] at t3; exact beq_iff_eq.1 t3)
       go_upto_region 7 with (fail)
       go_quiet (fail)
       have HSM := hid (yIns_same HPR.out HYO.out HLT.out HKE.out)
       have HWX := hid ((HWI.out.trans HWJ.out).drewN nq)
       clear a0 b0 t2 t3 t4 hkNe
       go_wp2
       exact ⟨in_sameL HXE.out (HO.out.ext HWX.out) HOF.out HSM.out hNc hNn hpe (HW.out.trans HWX.out) HBK.out (by go_num), by simp [intOf]; omega⟩
     ·go_upto_region 5 with (fail)
      go_quiet (fail)
      have HLT := hid (show ltK (kyE 1 [y0, y1, y2, y3, y4]) (kyE 1 [x0, x1, x2, x3, x4]) = true from by rw [lt_ofL, ← less_b]; exact t2)
      have HPN := hid (preY_next HPR.out HYO.out HLT.out)
      have HWX := hid (HWI.out.drewN nq)
      clear t2 a0 b0
      go_wp2
      exact ⟨⟨k + 1, by omega, by go_num, HPN.out, HWX.out⟩, by simp [intOf]; omega⟩
    ·have hkk : k = N := by omega
     have HM := hid (show yIns (kyE 1) ltK [x0, x1, x2, x3, x4] O = O.take k ++ [x0, x1, x2, x3, x4] :: O.drop k from by
      rw [yIns_end HPR.out (by rw [hkk]; exact HON.out.symm), List.take_of_length_le (by rw [hkk, HON.out]; exact Nat.le_refl _), List.drop_eq_nil_of_le (by rw [hkk, HON.out]; exact Nat.le_refl _)])
     have hkF : decide ((k : Int) < (N : Int)) = false := decide_eq_false (by omega)
     have hkE : ((k : Int) == (N : Int)) = true := by rw [beq_iff_eq]; omega
     go_upto_region 5 with (fail)
     go_quiet (fail)
     obtain ⟨wj, hwj⟩ : ∃ wj, wj = wi.drewN nq := ⟨_, rfl⟩
     rw [← hwj]
     have HWJ := hid (show Ext wi wj from by rw [hwj]; exact (Ext.refl wi).drewN nq)
     clear hwj
     go_upto_region 7 with (fail)
     go_quiet (fail)
     go_upto_region 8 with (fail)
     obtain ⟨wx, hwx⟩ : ∃ wx, wx = wj.drewN nq := ⟨_, rfl⟩
     rw [← hwx]
     have HWX := hid (show Ext wo wx from by rw [hwx]; exact (HWI.out.trans HWJ.out).drewN nq)
     clear hwx hkF hkE
     subst hkk
     by_cases hN0 : k = 0
     ·subst hN0
      have hO0 : O = [] := List.eq_nil_of_length_eq_zero HON.out
      have HT1 := hid (show ∀ u ∈ ([] : List Value), u.oneCell' = true from fun u h => by cases h)
      have HT3 := hid (show ∀ u ∈ ([] : List Value), u.oneCell' = true from fun u h => by cases h)
      have HWX2 := hid (HW.out.trans HWX.out)
      have HT2 := hid (el_oneX [x0, x1, x2, x3, x4])
      have d0 := HBX.out wx HWX.out 0 x0 rfl
      have d1 := HBX.out wx HWX.out 1 x1 rfl
      have d2 := HBX.out wx HWX.out 2 x2 rfl
      have d3 := HBX.out wx HWX.out 3 x3 rfl
      have d4 := HBX.out wx HWX.out 4 x4 rfl
      rw [Nat.add_zero] at d0
      have g0 := fun ob => cell_midY ((Ext.refl wx).alloc ob) d0
      have g1 := fun ob => cell_midY ((Ext.refl wx).alloc ob) d1
      have g2 := fun ob => cell_midY ((Ext.refl wx).alloc ob) d2
      have g3 := fun ob => cell_midY ((Ext.refl wx).alloc ob) d3
      have g4 := fun ob => cell_midY ((Ext.refl wx).alloc ob) d4
      have tok1 : True := trivial
      have tok2 : True := trivial
      have tok3 : True := trivial
      subst hO0
      cases A with
      | none =>
        go_region_law (first
         | (have _t := tok1; refine step_appN _ rfl _ _ 32 rfl wx.heap.size 71 i0 _ 5 80 Tryz.underlying32 hi hz0 hz1 hz2 rfl (by decide) _ 0 [] rfl ((own_emptyN wx 71 5).drew) _ 0 _ (([] : List Value)) rfl (SlN.nil _ _ _) HT1.out (by unfold maxLen; omega) (by omega) (by simp; try omega) ?_; intro v1 w1 hown1 hgrow1; have HX1 := hid (extY (a := wx) (((Ext.refl wx).alloc _).drew) ((own_emptyN wx 71 5).drew) hgrow1); have c0 := cell_midY HX1.out d0; have c1 := cell_midY HX1.out d1; have c2 := cell_midY HX1.out d2; have c3 := cell_midY HX1.out d3; have c4 := cell_midY HX1.out d4; have HO1 := hid hown1; clear hown1 hgrow1 tok1)
         | (have _t := tok1; refine step_appN _ rfl _ _ 32 rfl wx.heap.size 71 i0 _ 5 80 Tryz.underlying32 hi hz0 hz1 hz2 rfl (by decide) _ 0 [] rfl (((own_emptyN wx 71 5).alloc _).drew) _ 0 _ (([] : List Value)) rfl (SlN.nil _ _ _) HT1.out (by unfold maxLen; omega) (by omega) (by simp; try omega) ?_; intro v1 w1 hown1 hgrow1; have HX1 := hid (extY (a := wx) ((((Ext.refl wx).alloc (.cells #[] 71)).alloc (.cells #[.string x0, .string x1, .string x2, .string x3, .string x4] 71)).drew) (((own_emptyN wx 71 5).alloc _).drew) hgrow1); have c0 := cell_midY HX1.out d0; have c1 := cell_midY HX1.out d1; have c2 := cell_midY HX1.out d2; have c3 := cell_midY HX1.out d3; have c4 := cell_midY HX1.out d4; have HZ1 := hid (slN_keptY (n := 1) (size := 5) (row := some wx.heap.size) hgrow1 (two_newY wx _ _) (by simp) rfl); have HO1 := hid hown1; clear hown1 hgrow1 tok1)
         | (have _t := tok1; refine step_appN _ rfl _ _ 32 rfl wx.heap.size 71 i0 _ 5 80 Tryz.underlying32 hi hz0 hz1 hz2 rfl (by decide) _ 0 [] rfl (own_empty2 wx _ 71 5) _ 0 _ (([] : List Value)) rfl (SlN.nil _ _ _) HT1.out (by unfold maxLen; omega) (by omega) (by simp; try omega) ?_; intro v1 w1 hown1 hgrow1; have HX1 := hid (extY (a := wx) ((((Ext.refl wx).alloc (.cells #[.string x0, .string x1, .string x2, .string x3, .string x4] 71)).alloc (.cells #[] 71)).drew) (own_empty2 wx _ 71 5) hgrow1); have c0 := cell_midY HX1.out d0; have c1 := cell_midY HX1.out d1; have c2 := cell_midY HX1.out d2; have c3 := cell_midY HX1.out d3; have c4 := cell_midY HX1.out d4; have HZ1 := hid (slN_keptY (n := 1) (size := 5) (row := some (wx.heap.size + 1)) hgrow1 (two_oldY wx _ _) (by simp) rfl); have HO1 := hid hown1; clear hown1 hgrow1 tok1)
         | (have _t := tok2; refine step_appN _ rfl _ _ 32 rfl wx.heap.size 71 i0 _ 5 80 Tryz.underlying32 hi hz0 hz1 hz2 rfl (by decide) _ (0 + 0) _ rfl (HO1.out) _ 1 _ (elC [x0, x1, x2, x3, x4]) rfl (HZ1.out) HT2.out (by unfold maxLen; omega) (by omega) (by have := Ext.size HX1.out; first | omega | (simp; omega)) ?_; intro v2 w2 hown2 hgrow2; have HX2 := hid (extY (a := wx) (HX1.out) (HO1.out) hgrow2); have HO2 := hid hown2; clear hown2 hgrow2 tok2)
         | (have _t := tok2; refine step_appN _ rfl _ _ 32 rfl wx.heap.size 71 i0 _ 5 80 Tryz.underlying32 hi hz0 hz1 hz2 rfl (by decide) _ (0 + 0) _ rfl (HO1.out.alloc _) _ 1 _ (elC [x0, x1, x2, x3, x4]) rfl (slN_newY _ _ _ 1 5 rfl) HT2.out (by unfold maxLen; omega) (by omega) (by have := Ext.size HX1.out; first | omega | (simp; omega)) ?_; intro v2 w2 hown2 hgrow2; have HX2 := hid (extY (a := wx) (HX1.out.alloc _) (HO1.out.alloc _) hgrow2); have HO2 := hid hown2; clear hown2 hgrow2 tok2)
         | (have _t := tok3; refine step_appN _ rfl _ _ 32 rfl wx.heap.size 71 i0 _ 5 80 Tryz.underlying32 hi hz0 hz1 hz2 rfl (by decide) _ (0 + 0 + 1) _ rfl HO2.out _ (0) _ (([] : List Value)) rfl (SlN.nil _ _ _) HT3.out (by unfold maxLen; omega) (by omega) (by have := Ext.size HX2.out; first | omega | (simp; omega)) ?_; intro v3 w3 hown3 hgrow3; have HX3 := hid (extY (a := wx) HX2.out HO2.out hgrow3); have HO3 := hid hown3; clear hown3 hgrow3 tok3))
        all_goals go_wp2
        all_goals exact ⟨in_stepL (k := 0) (N := 0) (O := []) HXE.out HB.out.2 HO.out HOF.out HM.out HO3.out (Nat.le_refl _) hNn hpe (HWX2.out.trans HX3.out) HWX2.out.size (by go_num), by simp [intOf]; omega⟩
      | some ad =>
        go_region_law (first
         | (have _t := tok1; refine step_appN _ rfl _ _ 32 rfl wx.heap.size 71 i0 _ 5 80 Tryz.underlying32 hi hz0 hz1 hz2 rfl (by decide) _ 0 [] rfl ((own_emptyN wx 71 5).drew) _ 0 _ (([] : List Value)) rfl (SlN.nil _ _ _) HT1.out (by unfold maxLen; omega) (by omega) (by simp; try omega) ?_; intro v1 w1 hown1 hgrow1; have HX1 := hid (extY (a := wx) (((Ext.refl wx).alloc _).drew) ((own_emptyN wx 71 5).drew) hgrow1); have c0 := cell_midY HX1.out d0; have c1 := cell_midY HX1.out d1; have c2 := cell_midY HX1.out d2; have c3 := cell_midY HX1.out d3; have c4 := cell_midY HX1.out d4; have HO1 := hid hown1; clear hown1 hgrow1 tok1)
         | (have _t := tok1; refine step_appN _ rfl _ _ 32 rfl wx.heap.size 71 i0 _ 5 80 Tryz.underlying32 hi hz0 hz1 hz2 rfl (by decide) _ 0 [] rfl (((own_emptyN wx 71 5).alloc _).drew) _ 0 _ (([] : List Value)) rfl (SlN.nil _ _ _) HT1.out (by unfold maxLen; omega) (by omega) (by simp; try omega) ?_; intro v1 w1 hown1 hgrow1; have HX1 := hid (extY (a := wx) ((((Ext.refl wx).alloc (.cells #[] 71)).alloc (.cells #[.string x0, .string x1, .string x2, .string x3, .string x4] 71)).drew) (((own_emptyN wx 71 5).alloc _).drew) hgrow1); have c0 := cell_midY HX1.out d0; have c1 := cell_midY HX1.out d1; have c2 := cell_midY HX1.out d2; have c3 := cell_midY HX1.out d3; have c4 := cell_midY HX1.out d4; have HZ1 := hid (slN_keptY (n := 1) (size := 5) (row := some wx.heap.size) hgrow1 (two_newY wx _ _) (by simp) rfl); have HO1 := hid hown1; clear hown1 hgrow1 tok1)
         | (have _t := tok1; refine step_appN _ rfl _ _ 32 rfl wx.heap.size 71 i0 _ 5 80 Tryz.underlying32 hi hz0 hz1 hz2 rfl (by decide) _ 0 [] rfl (own_empty2 wx _ 71 5) _ 0 _ (([] : List Value)) rfl (SlN.nil _ _ _) HT1.out (by unfold maxLen; omega) (by omega) (by simp; try omega) ?_; intro v1 w1 hown1 hgrow1; have HX1 := hid (extY (a := wx) ((((Ext.refl wx).alloc (.cells #[.string x0, .string x1, .string x2, .string x3, .string x4] 71)).alloc (.cells #[] 71)).drew) (own_empty2 wx _ 71 5) hgrow1); have c0 := cell_midY HX1.out d0; have c1 := cell_midY HX1.out d1; have c2 := cell_midY HX1.out d2; have c3 := cell_midY HX1.out d3; have c4 := cell_midY HX1.out d4; have HZ1 := hid (slN_keptY (n := 1) (size := 5) (row := some (wx.heap.size + 1)) hgrow1 (two_oldY wx _ _) (by simp) rfl); have HO1 := hid hown1; clear hown1 hgrow1 tok1)
         | (have _t := tok2; refine step_appN _ rfl _ _ 32 rfl wx.heap.size 71 i0 _ 5 80 Tryz.underlying32 hi hz0 hz1 hz2 rfl (by decide) _ (0 + 0) _ rfl (HO1.out) _ 1 _ (elC [x0, x1, x2, x3, x4]) rfl (HZ1.out) HT2.out (by unfold maxLen; omega) (by omega) (by have := Ext.size HX1.out; first | omega | (simp; omega)) ?_; intro v2 w2 hown2 hgrow2; have HX2 := hid (extY (a := wx) (HX1.out) (HO1.out) hgrow2); have HO2 := hid hown2; clear hown2 hgrow2 tok2)
         | (have _t := tok2; refine step_appN _ rfl _ _ 32 rfl wx.heap.size 71 i0 _ 5 80 Tryz.underlying32 hi hz0 hz1 hz2 rfl (by decide) _ (0 + 0) _ rfl (HO1.out.alloc _) _ 1 _ (elC [x0, x1, x2, x3, x4]) rfl (slN_newY _ _ _ 1 5 rfl) HT2.out (by unfold maxLen; omega) (by omega) (by have := Ext.size HX1.out; first | omega | (simp; omega)) ?_; intro v2 w2 hown2 hgrow2; have HX2 := hid (extY (a := wx) (HX1.out.alloc _) (HO1.out.alloc _) hgrow2); have HO2 := hid hown2; clear hown2 hgrow2 tok2)
         | (have _t := tok3; refine step_appN _ rfl _ _ 32 rfl wx.heap.size 71 i0 _ 5 80 Tryz.underlying32 hi hz0 hz1 hz2 rfl (by decide) _ (0 + 0 + 1) _ rfl HO2.out _ (0) _ (([] : List Value)) rfl (SlN.nil _ _ _) HT3.out (by unfold maxLen; omega) (by omega) (by have := Ext.size HX2.out; first | omega | (simp; omega)) ?_; intro v3 w3 hown3 hgrow3; have HX3 := hid (extY (a := wx) HX2.out HO2.out hgrow3); have HO3 := hid hown3; clear hown3 hgrow3 tok3))
        all_goals go_wp2
        all_goals exact ⟨in_stepL (k := 0) (N := 0) (O := []) HXE.out HB.out.2 HO.out HOF.out HM.out HO3.out (Nat.le_refl _) hNn hpe (HWX2.out.trans HX3.out) HWX2.out.size (by go_num), by simp [intOf]; omega⟩
     ·obtain ⟨y, hy⟩ : ∃ y, O[0]? = some y := ⟨_, List.getElem?_eq_getElem (by have := HON.out; omega)⟩
      obtain ⟨_, bA, oA, rfl, _⟩ := HO.out.at_ (by decide) hy
      clear hy
      have HT1 := hid (el_one (O.take k))
      have HT3 := hid (show ∀ u ∈ ([] : List Value), u.oneCell' = true from fun u h => by cases h)
      have S1 := hid (show SlN wx (some ⟨bA, oA, none⟩) k 5 ((O.take k).flatMap elC) from by rw [← flat_take2 O k HO.out.2.1]; exact SlN.takeY (HO.out.1.ext HWX.out) k (Nat.le_refl _))
      have HWX2 := hid (HW.out.trans HWX.out)
      have HT2 := hid (el_oneX [x0, x1, x2, x3, x4])
      have d0 := HBX.out wx HWX.out 0 x0 rfl
      have d1 := HBX.out wx HWX.out 1 x1 rfl
      have d2 := HBX.out wx HWX.out 2 x2 rfl
      have d3 := HBX.out wx HWX.out 3 x3 rfl
      have d4 := HBX.out wx HWX.out 4 x4 rfl
      rw [Nat.add_zero] at d0
      have g0 := fun ob => cell_midY ((Ext.refl wx).alloc ob) d0
      have g1 := fun ob => cell_midY ((Ext.refl wx).alloc ob) d1
      have g2 := fun ob => cell_midY ((Ext.refl wx).alloc ob) d2
      have g3 := fun ob => cell_midY ((Ext.refl wx).alloc ob) d3
      have g4 := fun ob => cell_midY ((Ext.refl wx).alloc ob) d4
      have tok1 : True := trivial
      have tok2 : True := trivial
      have tok3 : True := trivial
      have hkc : (k : Int) ≤ (c : Int) := by omega
      by_cases hkc2 : k = c
      ·subst hkc2
       go_region_law (first
        | (have _t := tok1; refine step_appN _ rfl _ _ 32 rfl wx.heap.size 71 i0 _ 5 80 Tryz.underlying32 hi hz0 hz1 hz2 rfl (by decide) _ 0 [] rfl ((own_emptyN wx 71 5).drew) _ k _ ((O.take k).flatMap elC) rfl (SlN.ext S1.out (((Ext.refl wx).alloc _).drew)) HT1.out (by unfold maxLen; omega) (by omega) (by simp; try omega) ?_; intro v1 w1 hown1 hgrow1; have HX1 := hid (extY (a := wx) (((Ext.refl wx).alloc _).drew) ((own_emptyN wx 71 5).drew) hgrow1); have c0 := cell_midY HX1.out d0; have c1 := cell_midY HX1.out d1; have c2 := cell_midY HX1.out d2; have c3 := cell_midY HX1.out d3; have c4 := cell_midY HX1.out d4; have HO1 := hid hown1; clear hown1 hgrow1 tok1)
        | (have _t := tok1; refine step_appN _ rfl _ _ 32 rfl wx.heap.size 71 i0 _ 5 80 Tryz.underlying32 hi hz0 hz1 hz2 rfl (by decide) _ 0 [] rfl (((own_emptyN wx 71 5).alloc _).drew) _ k _ ((O.take k).flatMap elC) rfl (SlN.ext S1.out ((((Ext.refl wx).alloc (.cells #[] 71)).alloc (.cells #[.string x0, .string x1, .string x2, .string x3, .string x4] 71)).drew)) HT1.out (by unfold maxLen; omega) (by omega) (by simp; try omega) ?_; intro v1 w1 hown1 hgrow1; have HX1 := hid (extY (a := wx) ((((Ext.refl wx).alloc (.cells #[] 71)).alloc (.cells #[.string x0, .string x1, .string x2, .string x3, .string x4] 71)).drew) (((own_emptyN wx 71 5).alloc _).drew) hgrow1); have c0 := cell_midY HX1.out d0; have c1 := cell_midY HX1.out d1; have c2 := cell_midY HX1.out d2; have c3 := cell_midY HX1.out d3; have c4 := cell_midY HX1.out d4; have HZ1 := hid (slN_keptY (n := 1) (size := 5) (row := some wx.heap.size) hgrow1 (two_newY wx _ _) (by simp) rfl); have HO1 := hid hown1; clear hown1 hgrow1 tok1)
        | (have _t := tok1; refine step_appN _ rfl _ _ 32 rfl wx.heap.size 71 i0 _ 5 80 Tryz.underlying32 hi hz0 hz1 hz2 rfl (by decide) _ 0 [] rfl (own_empty2 wx _ 71 5) _ k _ ((O.take k).flatMap elC) rfl (SlN.ext S1.out ((((Ext.refl wx).alloc (.cells #[.string x0, .string x1, .string x2, .string x3, .string x4] 71)).alloc (.cells #[] 71)).drew)) HT1.out (by unfold maxLen; omega) (by omega) (by simp; try omega) ?_; intro v1 w1 hown1 hgrow1; have HX1 := hid (extY (a := wx) ((((Ext.refl wx).alloc (.cells #[.string x0, .string x1, .string x2, .string x3, .string x4] 71)).alloc (.cells #[] 71)).drew) (own_empty2 wx _ 71 5) hgrow1); have c0 := cell_midY HX1.out d0; have c1 := cell_midY HX1.out d1; have c2 := cell_midY HX1.out d2; have c3 := cell_midY HX1.out d3; have c4 := cell_midY HX1.out d4; have HZ1 := hid (slN_keptY (n := 1) (size := 5) (row := some (wx.heap.size + 1)) hgrow1 (two_oldY wx _ _) (by simp) rfl); have HO1 := hid hown1; clear hown1 hgrow1 tok1)
        | (have _t := tok2; refine step_appN _ rfl _ _ 32 rfl wx.heap.size 71 i0 _ 5 80 Tryz.underlying32 hi hz0 hz1 hz2 rfl (by decide) _ (0 + k) _ rfl (HO1.out) _ 1 _ (elC [x0, x1, x2, x3, x4]) rfl (HZ1.out) HT2.out (by unfold maxLen; omega) (by omega) (by have := Ext.size HX1.out; first | omega | (simp; omega)) ?_; intro v2 w2 hown2 hgrow2; have HX2 := hid (extY (a := wx) (HX1.out) (HO1.out) hgrow2); have HO2 := hid hown2; clear hown2 hgrow2 tok2)
        | (have _t := tok2; refine step_appN _ rfl _ _ 32 rfl wx.heap.size 71 i0 _ 5 80 Tryz.underlying32 hi hz0 hz1 hz2 rfl (by decide) _ (0 + k) _ rfl (HO1.out.alloc _) _ 1 _ (elC [x0, x1, x2, x3, x4]) rfl (slN_newY _ _ _ 1 5 rfl) HT2.out (by unfold maxLen; omega) (by omega) (by have := Ext.size HX1.out; first | omega | (simp; omega)) ?_; intro v2 w2 hown2 hgrow2; have HX2 := hid (extY (a := wx) (HX1.out.alloc _) (HO1.out.alloc _) hgrow2); have HO2 := hid hown2; clear hown2 hgrow2 tok2)
        | (have _t := tok3; refine step_appN _ rfl _ _ 32 rfl wx.heap.size 71 i0 _ 5 80 Tryz.underlying32 hi hz0 hz1 hz2 rfl (by decide) _ (0 + k + 1) _ rfl HO2.out _ (0) _ (([] : List Value)) rfl (SlN.nil _ _ _) HT3.out (by unfold maxLen; omega) (by omega) (by have := Ext.size HX2.out; first | omega | (simp; omega)) ?_; intro v3 w3 hown3 hgrow3; have HX3 := hid (extY (a := wx) HX2.out HO2.out hgrow3); have HO3 := hid hown3; clear hown3 hgrow3 tok3))
       all_goals go_wp2
       all_goals exact ⟨in_stepL (k := k) (N := k) HXE.out HB.out.2 HO.out HOF.out HM.out (by rw [Nat.sub_self, List.drop_eq_nil_of_le (by rw [HON.out]; exact Nat.le_refl _)]; exact HO3.out) (Nat.le_refl _) hNn hpe (HWX2.out.trans HX3.out) HWX2.out.size (by go_num), by simp [intOf]; omega⟩
      ·have hck : ¬ c = k := fun h => hkc2 h.symm
       clear hkc2
       go_region_law (first
        | (have _t := tok1; refine step_appN _ rfl _ _ 32 rfl wx.heap.size 71 i0 _ 5 80 Tryz.underlying32 hi hz0 hz1 hz2 rfl (by decide) _ 0 [] rfl ((own_emptyN wx 71 5).drew) _ k _ ((O.take k).flatMap elC) rfl (SlN.ext S1.out (((Ext.refl wx).alloc _).drew)) HT1.out (by unfold maxLen; omega) (by omega) (by simp; try omega) ?_; intro v1 w1 hown1 hgrow1; have HX1 := hid (extY (a := wx) (((Ext.refl wx).alloc _).drew) ((own_emptyN wx 71 5).drew) hgrow1); have c0 := cell_midY HX1.out d0; have c1 := cell_midY HX1.out d1; have c2 := cell_midY HX1.out d2; have c3 := cell_midY HX1.out d3; have c4 := cell_midY HX1.out d4; have HO1 := hid hown1; clear hown1 hgrow1 tok1)
        | (have _t := tok1; refine step_appN _ rfl _ _ 32 rfl wx.heap.size 71 i0 _ 5 80 Tryz.underlying32 hi hz0 hz1 hz2 rfl (by decide) _ 0 [] rfl (((own_emptyN wx 71 5).alloc _).drew) _ k _ ((O.take k).flatMap elC) rfl (SlN.ext S1.out ((((Ext.refl wx).alloc (.cells #[] 71)).alloc (.cells #[.string x0, .string x1, .string x2, .string x3, .string x4] 71)).drew)) HT1.out (by unfold maxLen; omega) (by omega) (by simp; try omega) ?_; intro v1 w1 hown1 hgrow1; have HX1 := hid (extY (a := wx) ((((Ext.refl wx).alloc (.cells #[] 71)).alloc (.cells #[.string x0, .string x1, .string x2, .string x3, .string x4] 71)).drew) (((own_emptyN wx 71 5).alloc _).drew) hgrow1); have c0 := cell_midY HX1.out d0; have c1 := cell_midY HX1.out d1; have c2 := cell_midY HX1.out d2; have c3 := cell_midY HX1.out d3; have c4 := cell_midY HX1.out d4; have HZ1 := hid (slN_keptY (n := 1) (size := 5) (row := some wx.heap.size) hgrow1 (two_newY wx _ _) (by simp) rfl); have HO1 := hid hown1; clear hown1 hgrow1 tok1)
        | (have _t := tok1; refine step_appN _ rfl _ _ 32 rfl wx.heap.size 71 i0 _ 5 80 Tryz.underlying32 hi hz0 hz1 hz2 rfl (by decide) _ 0 [] rfl (own_empty2 wx _ 71 5) _ k _ ((O.take k).flatMap elC) rfl (SlN.ext S1.out ((((Ext.refl wx).alloc (.cells #[.string x0, .string x1, .string x2, .string x3, .string x4] 71)).alloc (.cells #[] 71)).drew)) HT1.out (by unfold maxLen; omega) (by omega) (by simp; try omega) ?_; intro v1 w1 hown1 hgrow1; have HX1 := hid (extY (a := wx) ((((Ext.refl wx).alloc (.cells #[.string x0, .string x1, .string x2, .string x3, .string x4] 71)).alloc (.cells #[] 71)).drew) (own_empty2 wx _ 71 5) hgrow1); have c0 := cell_midY HX1.out d0; have c1 := cell_midY HX1.out d1; have c2 := cell_midY HX1.out d2; have c3 := cell_midY HX1.out d3; have c4 := cell_midY HX1.out d4; have HZ1 := hid (slN_keptY (n := 1) (size := 5) (row := some (wx.heap.size + 1)) hgrow1 (two_oldY wx _ _) (by simp) rfl); have HO1 := hid hown1; clear hown1 hgrow1 tok1)
        | (have _t := tok2; refine step_appN _ rfl _ _ 32 rfl wx.heap.size 71 i0 _ 5 80 Tryz.underlying32 hi hz0 hz1 hz2 rfl (by decide) _ (0 + k) _ rfl (HO1.out) _ 1 _ (elC [x0, x1, x2, x3, x4]) rfl (HZ1.out) HT2.out (by unfold maxLen; omega) (by omega) (by have := Ext.size HX1.out; first | omega | (simp; omega)) ?_; intro v2 w2 hown2 hgrow2; have HX2 := hid (extY (a := wx) (HX1.out) (HO1.out) hgrow2); have HO2 := hid hown2; clear hown2 hgrow2 tok2)
        | (have _t := tok2; refine step_appN _ rfl _ _ 32 rfl wx.heap.size 71 i0 _ 5 80 Tryz.underlying32 hi hz0 hz1 hz2 rfl (by decide) _ (0 + k) _ rfl (HO1.out.alloc _) _ 1 _ (elC [x0, x1, x2, x3, x4]) rfl (slN_newY _ _ _ 1 5 rfl) HT2.out (by unfold maxLen; omega) (by omega) (by have := Ext.size HX1.out; first | omega | (simp; omega)) ?_; intro v2 w2 hown2 hgrow2; have HX2 := hid (extY (a := wx) (HX1.out.alloc _) (HO1.out.alloc _) hgrow2); have HO2 := hid hown2; clear hown2 hgrow2 tok2)
        | (have _t := tok3; refine step_appN _ rfl _ _ 32 rfl wx.heap.size 71 i0 _ 5 80 Tryz.underlying32 hi hz0 hz1 hz2 rfl (by decide) _ (0 + k + 1) _ rfl HO2.out _ (0) _ (([] : List Value)) rfl (SlN.nil _ _ _) HT3.out (by unfold maxLen; omega) (by omega) (by have := Ext.size HX2.out; first | omega | (simp; omega)) ?_; intro v3 w3 hown3 hgrow3; have HX3 := hid (extY (a := wx) HX2.out HO2.out hgrow3); have HO3 := hid hown3; clear hown3 hgrow3 tok3))
       all_goals go_wp2
       all_goals exact ⟨in_stepL (k := k) (N := k) HXE.out HB.out.2 HO.out HOF.out HM.out (by rw [Nat.sub_self, List.drop_eq_nil_of_le (by rw [HON.out]; exact Nat.le_refl _)]; exact HO3.out) (Nat.le_refl _) hNn hpe (HWX2.out.trans HX3.out) HWX2.out.size (by go_num), by simp [intOf]; omega⟩
  ·have hpp : p = e := by omega
   have HOF2 := hid HOF.out
   rw [show E.take p = E from List.take_of_length_le (by have := HEL.out; omega), ← HR.out] at HOF2
   subst hpp
   go_wp2
   go_ret
   exact ⟨A, N, c, by first | rfl | done, by rw [← HOF2.out]; exact HO.out, hNc, hNn, HW.out, HBK.out⟩
end Go.Proofs.YtljdlkonlnjadaaGreatDoor
