import Derived.Test.YtljdlkonlnjadaaGreatDoorNXD
import Derived.Test.YtljdlkonlnjadaaGreatDoorNXK
set_option maxRecDepth 100000
set_option linter.unusedSimpArgs false
set_option linter.unusedVariables false
open Go.Lib (hid)
namespace Go.Proofs.YtljdlkonlnjadaaGreatDoor
open Go.RowKit
def mL (f o t : List (List UInt8)) : List (List UInt8) := t.filter fun v => !f.contains v && !o.contains v
theorem mL_next {f o t : List (List UInt8)} {k : Nat} {x : List UInt8} (hx : t[k]? = some x) : mL f o (t.take (k + 1)) = mL f o (t.take k) ++ (if !f.contains x && !o.contains x then [x] else []) := by
 unfold mL
 rw [take_next hx, List.filter_append]
 congr 1
 cases h : (!f.contains x && !o.contains x) <;> simp only [List.filter_cons, List.filter_nil, h] <;> rfl
def M1Inv (w : World) (f o t : List (List UInt8)) (n : Nat) (al i : Value) (wr : World) : Prop :=
 ∃ k : Nat, k ≤ n ∧ i = .int .i64 k ∧ wr.ownsRow w.heap.size 9 1 al (mL f o (t.take k)).length ((mL f o (t.take k)).map strv) ∧ Ext w wr
def M2Inv (W1 : World) (al : List (List UInt8)) (N : Nat) (out i : Value) (wr : World) : Prop :=
 ∃ (j : Nat) (A : Option Addr) (c : Nat), j ≤ N ∧ i = .int .i64 j ∧ out = .slice A j c ∧ Sl wr A j ((sortS (al.take j)).map strv) ∧ j ≤ c ∧ Ext W1 wr ∧ ∀ ad, A = some ad → W1.heap.size ≤ ad.block
def M3Inv (W2 : World) (l : List (List UInt8)) (x : List UInt8) (i : Value) (wr : World) : Prop :=
 ∃ k : Nat, k ≤ l.length ∧ i = .int .i64 k ∧ (∀ j y, j < k → l[j]? = some y → y < x) ∧ Ext W2 wr
theorem cell_mid {w w' : World} {p : Addr} {u : Value} (h : Ext w w') (hc : w.cell? p = some u) : w'.cell? p = some u :=
 (Ext.cell h (World.block_lt_of_cell? w p hc)).trans hc
theorem ins_end2 {w3 : World} {B : Nat} {v3 : Value} {j K : Nat} {l : List (List UInt8)} {x : List UInt8} {xb : ByteArray} {m : Nat} {us : List Value} (h : w3.ownsRow B 9 1 v3 (0 + K + 1 + m) ([] ++ (l.take K).map strv ++ [.string xb] ++ us))
 (hus : us = (l.drop K).map strv) (hm : K + m = j) (hx : strv x = .string xb) (hK : insK l x = K) : w3.ownsRow B 9 1 v3 (j + 1) ((insS l x).map strv) := by
 have e1 : 0 + K + 1 + m = j + 1 := by omega
 rw [e1] at h
 have e2 : (insS l x).map strv = [] ++ (l.take K).map strv ++ [.string xb] ++ us := by
  unfold insS
  rw [hK, hus, ← hx]
  simp
 rw [e2]
 exact h
set_option maxHeartbeats 8000000 in
theorem rmerge_any (f o t : List (List UInt8)) (Af Ao At : Option Addr) (nf cf no co nt ct : Nat) (w : World) (hf : Sl w Af nf (f.map strv)) (ho : Sl w Ao no (o.map strv)) (ht : Sl w At nt (t.map strv)) (h1 : nf ≤ 60000) (h2 : no ≤ 60000) (h3 : nt ≤ 60000) :
 Calls Tryz.prog 190 #[.slice Af nf cf, .slice Ao no co, .slice At nt ct] w fun e w' => ∃ A n c, e = .returned (.slice A n c) ∧ Sl w' A n ((varsP f o t).map strv) ∧ n ≤ c ∧ Ext w w' ∧ ∀ ad, A = some ad → w.heap.size ≤ ad.block := by
 obtain ⟨i0, hi, hz0, hz1, hz2⟩ := info_parts (show (Tryz.prog.info? 9).map (fun i => (i.zero, i.size, i.bytes)) = some (some (.string ⟨#[]⟩), 1, 16) from by kernel_rfl)
 have hlt : t.length = nt := by have := ht.1; rwa [List.length_map] at this
 have hlo : o.length = no := by have := ho.1; rwa [List.length_map] at this
 have hml : ∀ k, (mL f o (t.take k)).length ≤ nt := fun k => by
  unfold mL
  have g1 := List.length_filter_le (fun v => !f.contains v && !o.contains v) (t.take k)
  have g2 := List.length_take_le k t
  have g3 : (t.take k).length ≤ t.length := by rw [List.length_take]; omega
  omega
 have HF := hid hf
 have HO := hid ho
 have HT := hid ht
 have HLT := hid hlt
 have HLO := hid hlo
 have HML := hid hml
 clear hf ho ht hlt hlo hml
 go_enter Tryz.func190, Tryz.ntmps190
 go_wp2_with fail
 go_loopw [7, 8] (M1Inv w f o t nt) (fun _ i _ => nt - (intOf i).toNat)
 case atStart => exact ⟨0, Nat.zero_le _, rfl, World.ownsRow_nil w w.heap.size _ 1, Ext.refl _⟩
 case round =>
  obtain ⟨k, hk, rfl, how, hw⟩ := hrel
  have HOW := hid how
  have HW := hid hw
  clear how hw
  by_cases hkn : k < nt
  ·cases At with
   | none => exact absurd (none_nil HT.out) (by omega)
   | some ad =>
     obtain ⟨b, o', rfl, hblt⟩ := addr_flat HT.out (by omega)
     obtain ⟨ad', x, ha', hu, hc⟩ := (HT.out.ext HW.out).at_map hkn
     injection ha' with ha'
     subst ha'
     rw [add_flat] at hc
     have hcf := fun W (h : Ext w W) => rhas_any f x Af nf cf W (HF.out.ext h) (by unfold maxLen; omega)
     have hco := fun W (h : Ext w W) => rhas_any o x Ao no co W (HO.out.ext h) (by unfold maxLen; omega)
     have hnx := mL_next (f := f) (o := o) hu
     have hcell : ∀ W, Ext wr W → W.cell? ⟨b, o' + k, none⟩ = some (strv x) := fun W h => by rw [← hc]; exact Ext.cell h (World.block_lt_of_cell? wr _ hc)
     obtain ⟨xb, hx1, hx2⟩ := strv_b x
     rw [hx1] at hc hcf hco hcell
     generalize f.contains x = bf at hcf hnx
     generalize o.contains x = bo at hco hnx
     have HCF := hid hcf
     have HCO := hid hco
     have HNX := hid hnx
     have HCL := hid hcell
     have HX1 := hid hx1
     clear hcf hco hnx hcell hu hx1 hx2
     cases bf with
     | true =>
       go_wp2_with fail
       refine (HCF.out _ HW.out).mono ?_
       rintro e w2 ⟨rfl, hw2⟩
       have HW2 := hid hw2
       clear hw2
       go_wp2
       refine ⟨⟨k + 1, by omega, by go_num, ?_, HW.out.trans HW2.out⟩, by simp [intOf]; omega⟩
       rw [HNX.out]
       simpa using own_ext HOW.out HW2.out
     | false =>
       cases bo with
       | true =>
         go_wp2_with fail
         refine (HCF.out _ HW.out).mono ?_
         rintro e w2 ⟨rfl, hw2⟩
         have HW2 := hid hw2
         have c2 := HCL.out _ hw2
         clear hw2
         go_wp2_with fail
         refine (HCO.out _ (HW.out.trans HW2.out)).mono ?_
         rintro e w3 ⟨rfl, hw3⟩
         have HW3 := hid (HW2.out.trans hw3)
         clear hw3
         go_wp2
         refine ⟨⟨k + 1, by omega, by go_num, ?_, HW.out.trans HW3.out⟩, by simp [intOf]; omega⟩
         rw [HNX.out]
         simpa using own_ext HOW.out HW3.out
       | false =>
         go_wp2_with fail
         refine (HCF.out _ HW.out).mono ?_
         rintro e w2 ⟨rfl, hw2⟩
         have HW2 := hid hw2
         have c2 := HCL.out _ hw2
         clear hw2
         go_wp2_with fail
         refine (HCO.out _ (HW.out.trans HW2.out)).mono ?_
         rintro e w3 ⟨rfl, hw3⟩
         have HW3 := hid (HW2.out.trans hw3)
         have c3 := HCL.out _ (HW2.out.trans hw3)
         have HOX := hid (own_ext HOW.out ((HW2.out.trans hw3).alloc (.cells #[.string xb] 9)))
         have hm1 := HML.out k
         clear hw3
         go_wp2_with (at_builtin; refine wpList_app2 _ rfl _ _ 35 rfl w.heap.size 9 i0 _ 16 Tryz.underlying35 hi hz0 hz1 hz2 rfl _ _ _ rfl HOX.out ⟨w3.heap.size, 0, none⟩ 1 1 _ rfl (Sl.lit w3 #[.string xb] 9 1 rfl) (string_one [xb]) (by unfold maxLen; omega) (by omega) ((HW.out.trans HW3.out).alloc (.cells #[.string xb] 9)).size ?_; intro v' w4 hown' hgrow' _; have HO' := hid hown'; have HG' := hid hgrow'; clear hown' hgrow')
         refine ⟨⟨k + 1, by omega, by go_num, ?_, ((HW.out.trans HW3.out).alloc _).grown HG'.out (own_lt HOW.out)⟩, by simp [intOf]; omega⟩
         rw [HNX.out]
         have h := HO'.out
         simp only [Bool.not_false, Bool.and_self, if_true, List.map_append, List.length_append]
         show World.ownsRow _ _ _ _ _ (_ + 1) (_ ++ [strv x])
         rw [HX1.out]
         exact h
  ·have hkk : k = nt := by omega
   subst hkk
   have HOW2 := hid (show wr.ownsRow w.heap.size 9 1 u7 (mL f o t).length ((mL f o t).map strv) from by
    have h := HOW.out
    rwa [List.take_of_length_le (by have := HLT.out; omega)] at h)
   have hm1 : (mL f o t).length ≤ k := by have h := HML.out k; rwa [List.take_of_length_le (by have := HLT.out; omega)] at h
   go_wp2_with (at_builtin; refine wpList_app _ rfl _ _ 35 rfl w.heap.size 9 i0 _ 16 Tryz.underlying35 hi hz0 hz1 hz2 rfl _ _ _ rfl HOW2.out _ no _ _ rfl (HO.out.ext HW.out) (strv_one _) (by unfold maxLen; omega) (by omega) HW.out.size ?_; intro v1 w1 hown1 hgrow1; have HO1 := hid hown1; have HG1 := hid hgrow1; clear hown1 hgrow1)
   have hown1 := HO1.out
   rw [← List.map_append] at hown1
   have hW1 : Ext w w1 := HW.out.grown HG1.out (own_lt HOW2.out)
   have hlal : (mL f o t ++ o).length = (mL f o t).length + no := by rw [List.length_append, HLO.out]
   have hvs : varsP f o t = sortS (mL f o t ++ o) := rfl
   have hN : (mL f o t).length + no ≤ 120000 := by omega
   generalize mL f o t ++ o = al at hown1 hlal hvs
   generalize (mL f o t).length + no = N at hown1 hlal hN
   obtain ⟨A1, c1, hv1, hs1, hnc1⟩ := own_sl hown1
   subst hv1
   have HS1 := hid hs1
   have HW1 := hid hW1
   have HVS := hid hvs
   have HAL := hid hlal
   clear hown1 hs1 hW1 hvs hlal HO1 HG1 HOW2 HOW
   go_wp2_with fail
   go_loopw [9, 10] (M2Inv w1 al N) (fun _ i _ => N - (intOf i).toNat)
   case atStart => exact ⟨0, none, 0, Nat.zero_le _, rfl, rfl, by simpa [sortS] using Sl.nil w1 none, Nat.le_refl _, Ext.refl _, fun _ h => by cases h⟩
   case round =>
    obtain ⟨j, A9, c9, hj, rfl, rfl, hs9, hjc, hw, hfr⟩ := hrel
    obtain ⟨wo, rfl⟩ : ∃ wo : World, wo = wr := ⟨_, rfl⟩
    have HS9 := hid hs9
    have HWR := hid hw
    have HFR := hid hfr
    clear hs9 hw hfr
    by_cases hjn : j < N
    ·cases A1 with
     | none => exact absurd (none_nil HS1.out) (by omega)
     | some adA =>
       obtain ⟨bA, oA, rfl, hbA⟩ := addr_flat HS1.out (by omega)
       obtain ⟨ad', x, ha', hu, hc⟩ := (HS1.out.ext HWR.out).at_map hjn
       injection ha' with ha'
       subst ha'
       rw [add_flat] at hc
       have hcell : ∀ W, Ext wo W → W.cell? ⟨bA, oA + j, none⟩ = some (strv x) := fun W h => by rw [← hc]; exact Ext.cell h (World.block_lt_of_cell? wo _ hc)
       obtain ⟨xb, hx1, hx2⟩ := strv_b x
       rw [hx1] at hcell
       have HCL := hid hcell
       have HXB := hid hx1
       have HX2 := hid hx2
       have HU := hid hu
       have hll : (sortS (al.take j)).length = j := by
        rw [sortS_len, List.length_take]
        have := HAL.out
        omega
       have hsn := insS_sort (al.take j) x
       rw [← take_next hu] at hsn
       generalize sortS (al.take j) = l at HS9 hll hsn
       have HLL := hid hll
       have HSN := hid hsn
       clear hcell hx1 hx2 hu hc hll hsn
       have jN : (j : Int) < (N : Int) := by omega
       go_wp2_with fail
       go_loopw [11] (M3Inv wo l x) (fun i _ => j - (intOf i).toNat)
       case atStart => exact ⟨0, Nat.zero_le _, rfl, fun j y hj => absurd hj (Nat.not_lt_zero _), Ext.refl _⟩
       case round =>
        obtain ⟨K, hK, rfl, hall, hw2⟩ := hrel
        have hKj' : K ≤ j := by have := HLL.out; omega
        have HALL := hid hall
        have HW2 := hid hw2
        clear hall hw2
        by_cases hKj : K < j
        ·cases A9 with
         | none => exact absurd (none_nil HS9.out) (by omega)
         | some ad9 =>
           obtain ⟨b9, o9, rfl, hb9⟩ := addr_flat HS9.out (by omega)
           obtain ⟨ad', y, ha', hu, hc⟩ := (HS9.out.ext HW2.out).at_map hKj
           injection ha' with ha'
           subst ha'
           rw [add_flat] at hc
           have q1 : ∀ z : ExtW wr, z.v.cell? ⟨b9, o9 + K, none⟩ = some (strv y) := fun z => by rw [← hc]; exact Ext.cell z.h (World.block_lt_of_cell? wr _ hc)
           have q2 : ∀ z : ExtW wr, z.v.cell? ⟨bA, oA + j, none⟩ = some (.string xb) := fun z => HCL.out _ (HW2.out.trans z.h)
           obtain ⟨yb, hy1, hy2⟩ := strv_b y
           rw [hy1] at q1
           have HY2 := hid hy2
           have HU2 := hid hu
           have KI : (K : Int) < (j : Int) := by omega
           clear hc hy1 hy2 hu
           by_cases hxy : y < x
           ·have hb : Op.bytesLess yb.toList xb.toList = true := by rw [less_b, HY2.out, HX2.out]; simpa using hxy
            have HXY := hid hxy
            clear hxy
            go_wp2_with fail
            refine wp_region_ext (by kernel_rfl) (by kernel_rfl) ?_
            repeat (go_big_quiet_step (fail))
            refine wpQuiet_nil ?_
            intro wx hx
            have HX := hid (show Ext wr wx from by obtain ⟨y, hy⟩ := hx; rw [hy]; exact y.h)
            clear hx
            go_wp2
            refine ⟨⟨K + 1, by have := HLL.out; omega, by go_num, fun i z hi hz => ?_, HW2.out.trans HX.out⟩, by simp [intOf]; omega⟩
            by_cases hiK : i = K
            ·subst hiK
             rw [HU2.out] at hz
             injection hz with hz
             rw [← hz]
             exact HXY.out
            ·exact HALL.out i z (by omega) hz
           ·have hb : Op.bytesLess yb.toList xb.toList = false := by rw [less_b, HY2.out, HX2.out]; simpa using hxy
            have hKK : insK l x = K := insK_at HALL.out (fun z hz => by rw [HU2.out] at hz; injection hz with hz; rw [← hz]; exact hxy) (by have := HLL.out; omega)
            have HKK := hid hKK
            clear hxy hKK
            go_wp2_with fail
            refine wp_region_ext (by kernel_rfl) (by kernel_rfl) ?_
            repeat (go_big_quiet_step (fail))
            refine wpQuiet_nil ?_
            intro wx hx
            have HX := hid (show Ext wr wx from by obtain ⟨y, hy⟩ := hx; rw [hy]; exact y.h)
            clear hx q1 q2
            have hzc := HCL.out _ (HW2.out.trans HX.out)
            have hzo : ∀ ob, (wx.alloc ob).cell? ⟨bA, oA + j, none⟩ = some (.string xb) := fun ob => HCL.out _ ((HW2.out.trans HX.out).alloc ob)
            have hkc : (K : Int) ≤ (c9 : Int) := by omega
            have hck : ¬ c9 = K := by omega
            have S1 := hid (show Sl wx (some ⟨b9, o9, none⟩) K ((l.take K).map strv) from by rw [List.map_take]; exact ((HS9.out.ext HW2.out).ext HX.out).take K (by omega))
            have S3 := hid (show Sl wx (some ⟨b9, o9 + K, none⟩) (j - K) ((l.drop K).map strv) from by have h := ((HS9.out.ext HW2.out).ext HX.out).drop K (by omega); rw [add_flat] at h; rw [List.map_drop]; exact h)
            go_wp2_with fail
            have tok1 : True := trivial
            have tok2 : True := trivial
            have tok3 : True := trivial
            go_region_law (first
             | (have _t := tok1; refine step_app _ rfl _ _ 35 rfl wx.heap.size 9 i0 _ 16 Tryz.underlying35 hi hz0 hz1 hz2 rfl _ 0 [] rfl (by first | exact (own_empty wx 9).drew | exact ((own_empty wx 9).alloc _).drew | exact own3 wx _) _ K _ ((l.take K).map strv) rfl (S1.out.ext (by first | exact ((Ext.refl wx).alloc _).drew | exact (((Ext.refl wx).alloc _).alloc _).drew)) (strv_one _) (by unfold maxLen; omega) (by omega) (by simp; try omega) ?_; intro v1 w1 hown1 hgrow1; have HX1 := hid (ext_grown (a := wx) (B := wx.heap.size) (by first | exact ((Ext.refl wx).alloc _).drew | exact (((Ext.refl wx).alloc _).alloc _).drew) (by first | exact (own_empty wx 9).drew | exact ((own_empty wx 9).alloc _).drew | exact own3 wx _) (Nat.le_refl _) hgrow1); have hc1 : w1.cell? ⟨bA, oA + j, none⟩ = some (.string xb) := (cell_mid HX1.out hzc); (first | have HZ1 := hid (one_kept (row := some wx.heap.size) hgrow1 (two_new wx _ _) (by simp)) | have HZ1 := hid (one_kept (row := some (wx.heap.size + 1)) hgrow1 (two_old wx _ _) (by simp)) | skip); have HO1 := hid hown1; clear hown1 hgrow1 tok1)
             | (have _t := tok2; (refine step_app _ rfl _ _ 35 rfl wx.heap.size 9 i0 _ 16 Tryz.underlying35 hi hz0 hz1 hz2 rfl _ (0 + K) _ rfl (by first | exact HO1.out | exact HO1.out.alloc _) _ 1 _ [.string xb] rfl (by first | exact HZ1.out | exact Sl.one _ _ _) (by simp [Value.oneCell']) (by unfold maxLen; omega) (by omega) (by have := Ext.size HX1.out; first | omega | (simp; omega)) ?_); intro v2 w2 hown2 hgrow2; have HX2 := hid (ext_grown (a := wx) (B := wx.heap.size) (by first | exact HX1.out | exact HX1.out.alloc _) (by first | exact HO1.out | exact HO1.out.alloc _) (Nat.le_refl _) hgrow2); have HO2 := hid hown2; clear hown2 hgrow2 tok2)
             | (have _t := tok3; refine step_app _ rfl _ _ 35 rfl wx.heap.size 9 i0 _ 16 Tryz.underlying35 hi hz0 hz1 hz2 rfl _ (0 + K + 1) _ rfl HO2.out _ (j - K) _ ((l.drop K).map strv) rfl (S3.out.ext HX2.out) (strv_one _) (by unfold maxLen; omega) (by omega) (by have := Ext.size HX2.out; first | omega | (simp; omega)) ?_; intro v3 w3 hown3 hgrow3; have HX3 := hid (ext_grown (a := wx) (B := wx.heap.size) HX2.out HO2.out (Nat.le_refl _) hgrow3); have HO3 := hid hown3; clear hown3 hgrow3 tok3))
            all_goals
             go_wp2
             obtain ⟨A', c', hv3, hs3, hc3⟩ := own_sl (ins_end2 (j := j) HO3.out rfl (by omega) HXB.out HKK.out)
             refine ⟨⟨j + 1, A', c', by omega, by go_num, hv3, ?_, hc3, HWR.out.trans ((HW2.out.trans HX.out).trans HX3.out), fun ad had => Nat.le_trans (HWR.out.trans (HW2.out.trans HX.out)).size (own_lt HO3.out ad.block (by rw [hv3, had]; rfl))⟩, by simp [intOf]; omega⟩
             rw [← HSN.out]
             exact hs3
        ·have hKe : K = j := by omega
         subst hKe
         have hKK : insK l x = K := insK_at HALL.out (fun z hz => by rw [List.getElem?_eq_none (by rw [HLL.out]; exact Nat.le_refl _)] at hz; cases hz) (by rw [HLL.out]; exact Nat.le_refl _)
         have HKK := hid hKK
         have KI : ¬ (K : Int) < (K : Int) := by omega
         have q2 : ∀ z : ExtW wr, z.v.cell? ⟨bA, oA + K, none⟩ = some (.string xb) := fun z => HCL.out _ (HW2.out.trans z.h)
         clear hKK
         go_wp2_with fail
         refine wp_region_ext (by kernel_rfl) (by kernel_rfl) ?_
         repeat (go_big_quiet_step (fail))
         refine wpQuiet_nil ?_
         intro wx hx
         have HX := hid (show Ext wr wx from by obtain ⟨y, hy⟩ := hx; rw [hy]; exact y.h)
         clear hx q2
         have hzc := HCL.out _ (HW2.out.trans HX.out)
         have hzo : ∀ ob, (wx.alloc ob).cell? ⟨bA, oA + K, none⟩ = some (.string xb) := fun ob => HCL.out _ ((HW2.out.trans HX.out).alloc ob)
         have S1 := hid (show Sl wx A9 K ((l.take K).map strv) from by rw [List.map_take]; exact ((HS9.out.ext HW2.out).ext HX.out).take K (Nat.le_refl _))
         rcases A9 with _ | ad9
         ·have hK0 : K = 0 := none_nil HS9.out
          have hkc : (K : Int) ≤ (c9 : Int) := by omega
          subst hK0
          simp only [Nat.add_zero] at hzc hzo
          go_wp2_with fail
          have tok1 : True := trivial
          have tok2 : True := trivial
          have tok3 : True := trivial
          go_region_law (first
           | (have _t := tok1; refine step_app _ rfl _ _ 35 rfl wx.heap.size 9 i0 _ 16 Tryz.underlying35 hi hz0 hz1 hz2 rfl _ 0 [] rfl (by first | exact (own_empty wx 9).drew | exact ((own_empty wx 9).alloc _).drew | exact own3 wx _) _ 0 _ ((l.take 0).map strv) rfl (S1.out.ext (by first | exact ((Ext.refl wx).alloc _).drew | exact (((Ext.refl wx).alloc _).alloc _).drew)) (strv_one _) (by unfold maxLen; omega) (by omega) (by simp; try omega) ?_; intro v1 w1 hown1 hgrow1; have HX1 := hid (ext_grown (a := wx) (B := wx.heap.size) (by first | exact ((Ext.refl wx).alloc _).drew | exact (((Ext.refl wx).alloc _).alloc _).drew) (by first | exact (own_empty wx 9).drew | exact ((own_empty wx 9).alloc _).drew | exact own3 wx _) (Nat.le_refl _) hgrow1); have hc1 : w1.cell? ⟨bA, oA, none⟩ = some (.string xb) := (cell_mid HX1.out hzc); (first | have HZ1 := hid (one_kept (row := some wx.heap.size) hgrow1 (two_new wx _ _) (by simp)) | have HZ1 := hid (one_kept (row := some (wx.heap.size + 1)) hgrow1 (two_old wx _ _) (by simp)) | skip); have HO1 := hid hown1; clear hown1 hgrow1 tok1)
           | (have _t := tok2; (refine step_app _ rfl _ _ 35 rfl wx.heap.size 9 i0 _ 16 Tryz.underlying35 hi hz0 hz1 hz2 rfl _ (0 + 0) _ rfl (by first | exact HO1.out | exact HO1.out.alloc _) _ 1 _ [.string xb] rfl (by first | exact HZ1.out | exact Sl.one _ _ _) (by simp [Value.oneCell']) (by unfold maxLen; omega) (by omega) (by have := Ext.size HX1.out; first | omega | (simp; omega)) ?_); intro v2 w2 hown2 hgrow2; have HX2 := hid (ext_grown (a := wx) (B := wx.heap.size) (by first | exact HX1.out | exact HX1.out.alloc _) (by first | exact HO1.out | exact HO1.out.alloc _) (Nat.le_refl _) hgrow2); have HO2 := hid hown2; clear hown2 hgrow2 tok2)
           | (have _t := tok3; refine step_app _ rfl _ _ 35 rfl wx.heap.size 9 i0 _ 16 Tryz.underlying35 hi hz0 hz1 hz2 rfl _ (0 + 0 + 1) _ rfl HO2.out _ 0 _ [] rfl (Sl.nil _ _) (by simp) (by unfold maxLen; omega) (by omega) (by have := Ext.size HX2.out; first | omega | (simp; omega)) ?_; intro v3 w3 hown3 hgrow3; have HX3 := hid (ext_grown (a := wx) (B := wx.heap.size) HX2.out HO2.out (Nat.le_refl _) hgrow3); have HO3 := hid hown3; clear hown3 hgrow3 tok3))
          all_goals
           go_wp2
           obtain ⟨A', c', hv3, hs3, hc3⟩ := own_sl (ins_end2 (j := 0) HO3.out (by rw [List.drop_of_length_le (by rw [HLL.out]; exact Nat.le_refl _)]; rfl) (by omega) HXB.out HKK.out)
           refine ⟨⟨0 + 1, A', c', by omega, by first | go_num | rfl | simp, hv3, ?_, hc3, HWR.out.trans ((HW2.out.trans HX.out).trans HX3.out), fun ad had => Nat.le_trans (HWR.out.trans (HW2.out.trans HX.out)).size (own_lt HO3.out ad.block (by rw [hv3, had]; rfl))⟩, by simp [intOf]; omega⟩
           rw [← HSN.out]
           exact hs3
         ·have hkc : (K : Int) ≤ (c9 : Int) := by omega
          by_cases hck : c9 = K
          all_goals
           go_wp2_with fail
           have tok1 : True := trivial
           have tok2 : True := trivial
           have tok3 : True := trivial
           go_region_law (first
            | (have _t := tok1; refine step_app _ rfl _ _ 35 rfl wx.heap.size 9 i0 _ 16 Tryz.underlying35 hi hz0 hz1 hz2 rfl _ 0 [] rfl (by first | exact (own_empty wx 9).drew | exact ((own_empty wx 9).alloc _).drew | exact own3 wx _) _ K _ ((l.take K).map strv) rfl (S1.out.ext (by first | exact ((Ext.refl wx).alloc _).drew | exact (((Ext.refl wx).alloc _).alloc _).drew)) (strv_one _) (by unfold maxLen; omega) (by omega) (by simp; try omega) ?_; intro v1 w1 hown1 hgrow1; have HX1 := hid (ext_grown (a := wx) (B := wx.heap.size) (by first | exact ((Ext.refl wx).alloc _).drew | exact (((Ext.refl wx).alloc _).alloc _).drew) (by first | exact (own_empty wx 9).drew | exact ((own_empty wx 9).alloc _).drew | exact own3 wx _) (Nat.le_refl _) hgrow1); have hc1 : w1.cell? ⟨bA, oA + K, none⟩ = some (.string xb) := (cell_mid HX1.out hzc); (first | have HZ1 := hid (one_kept (row := some wx.heap.size) hgrow1 (two_new wx _ _) (by simp)) | have HZ1 := hid (one_kept (row := some (wx.heap.size + 1)) hgrow1 (two_old wx _ _) (by simp)) | skip); have HO1 := hid hown1; clear hown1 hgrow1 tok1)
            | (have _t := tok2; (refine step_app _ rfl _ _ 35 rfl wx.heap.size 9 i0 _ 16 Tryz.underlying35 hi hz0 hz1 hz2 rfl _ (0 + K) _ rfl (by first | exact HO1.out | exact HO1.out.alloc _) _ 1 _ [.string xb] rfl (by first | exact HZ1.out | exact Sl.one _ _ _) (by simp [Value.oneCell']) (by unfold maxLen; omega) (by omega) (by have := Ext.size HX1.out; first | omega | (simp; omega)) ?_); intro v2 w2 hown2 hgrow2; have HX2 := hid (ext_grown (a := wx) (B := wx.heap.size) (by first | exact HX1.out | exact HX1.out.alloc _) (by first | exact HO1.out | exact HO1.out.alloc _) (Nat.le_refl _) hgrow2); have HO2 := hid hown2; clear hown2 hgrow2 tok2)
            | (have _t := tok3; refine step_app _ rfl _ _ 35 rfl wx.heap.size 9 i0 _ 16 Tryz.underlying35 hi hz0 hz1 hz2 rfl _ (0 + K + 1) _ rfl HO2.out _ 0 _ [] rfl (Sl.nil _ _) (by simp) (by unfold maxLen; omega) (by omega) (by have := Ext.size HX2.out; first | omega | (simp; omega)) ?_; intro v3 w3 hown3 hgrow3; have HX3 := hid (ext_grown (a := wx) (B := wx.heap.size) HX2.out HO2.out (Nat.le_refl _) hgrow3); have HO3 := hid hown3; clear hown3 hgrow3 tok3))
           all_goals
            go_wp2
            obtain ⟨A', c', hv3, hs3, hc3⟩ := own_sl (ins_end2 (j := K) HO3.out (by rw [List.drop_of_length_le (by rw [HLL.out]; exact Nat.le_refl _)]; rfl) (by omega) HXB.out HKK.out)
            refine ⟨⟨K + 1, A', c', by omega, by go_num, hv3, ?_, hc3, HWR.out.trans ((HW2.out.trans HX.out).trans HX3.out), fun ad had => Nat.le_trans (HWR.out.trans (HW2.out.trans HX.out)).size (own_lt HO3.out ad.block (by rw [hv3, had]; rfl))⟩, by simp [intOf]; omega⟩
            rw [← HSN.out]
            exact hs3
    ·have hjj : j = N := by omega
     subst hjj
     go_wp2
     go_ret
     refine ⟨A9, j, c9, rfl, ?_, hjc, HW1.out.trans HWR.out, fun ad had => Nat.le_trans HW1.out.size (HFR.out ad had)⟩
     rw [HVS.out]
     have h := HS9.out
     rwa [List.take_of_length_le (by have := HAL.out; omega)] at h
end Go.Proofs.YtljdlkonlnjadaaGreatDoor
