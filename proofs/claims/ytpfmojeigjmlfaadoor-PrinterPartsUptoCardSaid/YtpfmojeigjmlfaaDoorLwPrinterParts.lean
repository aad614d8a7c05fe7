import Derived.Test.YtpfmojeigjmlfaaDoorKf
import Derived.Test.YtpfmojeigjmlfaaDoorKh
import Derived.Test.YtpfmojeigjmlfaaDoorKq
import Derived.Test.YtpfmojeigjmlfaaDoorJa
import Derived.Test.YtpfmojeigjmlfaaDoorId
namespace Go.Proofs.YtpfmojeigjmlfaaDoor.lawPrinterParts
open Go.ChangeShapes Go.WideShapes Go.ChangeAt Go.RowKit
set_option linter.unusedSimpArgs false
set_option linter.unusedVariables false

theorem case_wtP : ∀ (ca : F) (i : Nat) {k : Int} {t n s : By} {cs ps r : F}, fdrop ca i = .cons k t n s cs ps r → wt ps ≤ wt ca := case_wtK
def CvR (b : Nat) (W : World) (v : Value) (wr : World) : Prop := v = .pointer (some ⟨b, 0, none⟩) ∧ W = wr
set_option maxHeartbeats 8000000 in
set_option maxRecDepth 100000 in
theorem law {f : F} {v : Value} (a b : Nat) (w : World) (hm : Mx w) (hF : FwS w (fun _ => True) f v) (hcan : Can f) (hwt : wt f ≤ 40000000) (hcap : ∀ A n c, v = .slice A n c → n ≤ c) (ha : a < 256) (hb : b < 256) :
    Calls Tryd.prog 3 #[v, .agg #[.int .u8 a, .int .u8 b]] w (RetTrue w) := by
  obtain ⟨Af, cf, rfl⟩ := hF.val
  have hcf : f.len ≤ cf := hcap _ _ _ rfl
  have hn : f.nodes < 100000000 := by have := nodes_wtk f; omega
  have hfl : f.len ≤ 100000000 := by have := flJ_nodesK f; omega
  have HM := Lib.hid hm
  have HFW := Lib.hid hF
  have HCAN := Lib.hid hcan
  have HWT := Lib.hid hwt
  have HNO := Lib.hid hn
  have HXA := Lib.hid ((Ext.refl w).alloc (.cells #[.int .u8 a, .int .u8 b] 23))
  have HQA := Lib.hid (AtC.new w #[.int .u8 a, .int .u8 b] : AtC 23 _ _ _)
  have KF := Lib.hid (fun W (hx : Ext w W) => rfew_any (hF.ext hx) hcan hwt hn)
  have K1 := Lib.hid (fun W (hx : Ext w W) => tprint_any (hF.ext hx) hcan hwt (hm.ext hx))
  clear hm hcan hwt hn hcap hF
  cases hv : validF false f
  · rw [show prtP false f = ([], 1) from if_neg (by rw [hv]; decide)] at K1
    clear hcf hfl hv
    go_enter Tryd.func3, Tryd.ntmps3
    go_wp2_with fail
    refine (awake27_any _ (HM.out.ext HXA.out)).mono ?_
    rintro e w1 ⟨rfl, hw1⟩
    have HW1 := Lib.hid (HXA.out.trans hw1)
    clear hw1
    go_wp2_with fail
    refine (KF.out _ HW1.out).mono ?_
    rintro e w2 ⟨bb, rfl, hx2⟩
    have HW2 := Lib.hid (HW1.out.trans hx2)
    clear hx2
    cases bb
    · go_wp2
      go_ret
      exact ⟨rfl, HW2.out⟩
    go_wp2_with fail
    refine (K1.out _ HW2.out).mono ?_
    rintro e w3 ⟨rfl, hx3⟩
    have HW3 := Lib.hid (HW2.out.trans hx3)
    clear hx3
    go_wp2
    go_ret
    exact ⟨rfl, HW3.out⟩
  rw [show prtP false f = (txtP [32] f, 0) from if_pos hv] at K1
  by_cases h0 : f.len = 0
  · have h0b : ((f.len : Int) == 0) = true := by rw [h0]; rfl
    have hnil : f = .nil := nil_of_len h0
    rw [show txtP [32] f = [] from by rw [hnil, txtP]] at K1
    clear h0 hcf hfl hnil hv
    go_enter Tryd.func3, Tryd.ntmps3
    go_wp2_with fail
    refine (awake27_any _ (HM.out.ext HXA.out)).mono ?_
    rintro e w1 ⟨rfl, hw1⟩
    have HW1 := Lib.hid (HXA.out.trans hw1)
    clear hw1
    go_wp2_with fail
    refine (KF.out _ HW1.out).mono ?_
    rintro e w2 ⟨bb, rfl, hx2⟩
    have HW2 := Lib.hid (HW1.out.trans hx2)
    clear hx2
    cases bb
    · go_wp2
      go_ret
      exact ⟨rfl, HW2.out⟩
    go_wp2_with fail
    refine (K1.out _ HW2.out).mono ?_
    rintro e w3 ⟨rfl, hx3⟩
    have HW3 := Lib.hid (HW2.out.trans hx3)
    clear hx3
    go_wp2
    go_ret
    exact ⟨rfl, HW3.out⟩
  have h0b : ((f.len : Int) == 0) = false := by rw [beq_eq_false_iff_ne]; omega
  obtain ⟨j, hj⟩ : ∃ j, j = a % f.len := ⟨_, rfl⟩
  have hjl : j < f.len := by rw [hj]; exact Nat.mod_lt _ (by omega)
  have hmod : (a : Int) % (f.len : Int) = (j : Int) := by rw [hj]; omega
  have hjI : (j : Int) < (f.len : Int) := by omega
  have HJL := Lib.hid hjl
  have HVF := Lib.hid hv
  have hwj := wt_take f j
  obtain ⟨v1, v2⟩ := valid_take hv j
  obtain ⟨bb, o, cc0, k, t, n, st, ca, pa, Ac, cc, Ap, cp, hv0, hbw, _, hdr, c0, c1, c2, c3, c4, c5, hCA, hPA⟩ := HFW.out.at_ hjl
  injection hv0 with hA _ hcc
  subst hA hcc
  have KA := Lib.hid (fun W (hx : Ext w W) => tprint_any ((HFW.out.ext hx).take j (Nat.le_of_lt hjl) cf) (can_take f j HCAN.out) (by have := HWT.out; omega) (HM.out.ext hx))
  have KB := Lib.hid (fun W (hx : Ext w W) => tprint_any ((HFW.out.ext hx).drop j (Nat.le_of_lt hjl) (cf - j)) ((can_drop f j).1 HCAN.out) (by have := HWT.out; omega) (HM.out.ext hx))
  rw [show prtP false (ftake f j) = (txtP [32] (ftake f j), 0) from if_pos v1] at KA
  rw [show prtP false (fdrop f j) = (txtP [32] (fdrop f j), 0) from if_pos v2] at KB
  have hts : txtP [32] f = txtP [32] (ftake f j) ++ txtP [32] (fdrop f j) := (txt_split [32] f j).symm
  have hS4 : (txtP [32] f).length ≤ 4000 := (validF_iff.1 hv).2.2
  have HHO := Lib.hid (fun j2 k' t' n' s' ca' pa' r' (h2 : fdrop ca j2 = .cons k' t' n' s' ca' pa' r') => txt_holds hv hdr h2)
  have HIV := Lib.hid (fun q (hi : Inner q f) (hc : countB q = false) => (inner_valid hi hv).2 hc)
  have HCV := Lib.hid (fun j2 k' t' n' s' ca' pa' r' (h2 : fdrop ca j2 = .cons k' t' n' s' ca' pa' r') => (inner_of hdr (inner_elem h2) : Inner pa' f))
  generalize txtP [32] f = S at K1 hts hS4 HHO
  generalize txtP [32] (ftake f j) = SA at KA hts
  generalize txtP [32] (fdrop f j) = SB at KB hts
  subst hts
  have HS4 := Lib.hid hS4
  have hcat : (SA ++ SB == ((⟨SA.toArray⟩ : ByteArray) ++ ⟨SB.toArray⟩).toList) = true := by rw [ByteArray.toList_eq, beq_iff_eq]; simp
  have hSA : SA.length ≤ 4000 := by rw [List.length_append] at hS4; omega
  have hSB : SB.length ≤ 4000 := by rw [List.length_append] at hS4; omega
  have HCC := Lib.hid hCA
  have HDR := Lib.hid hdr
  have HBW := Lib.hid hbw
  have HC := Lib.hid (And.intro c0 (And.intro c1 (And.intro c2 (And.intro c3 (And.intro c4 c5)))))
  have HCN := Lib.hid (show CanC ca from by have h := (can_drop f j).1 HCAN.out; rw [hdr, Can] at h; exact h.2.2.1)
  have HND := Lib.hid (show ca.nodes < 100000000 from by have h := fdrop_nodes f j; rw [hdr, F.nodes] at h; have := HNO.out; omega)
  have HWC := Lib.hid (show wt ca ≤ 40000000 from by have := wt_drop f j hdr; have := HWT.out; omega)
  have hcl : ca.len ≤ 100000000 := by have := flJ_nodesK ca; have := HND.out; omega
  have hcj : ¬ cf = j := by omega
  have hjc : (j : Int) ≤ (cf : Int) := by omega
  clear hj hjl hv hdr hCA hPA hbw hwj v1 v2 c0 c1 c2 c3 c4 c5 h0 hS4
  go_enter Tryd.func3, Tryd.ntmps3
  go_wp2_with fail
  refine (awake27_any _ (HM.out.ext HXA.out)).mono ?_
  rintro e0 w1 ⟨rfl, hw1⟩
  have HW1 := Lib.hid (HXA.out.trans hw1)
  have HQ1 := Lib.hid (HQA.out.ext hw1)
  clear hw1
  go_wp2_with fail
  refine (KF.out _ HW1.out).mono ?_
  rintro e0 w2 ⟨bf, rfl, hx2⟩
  have HW2 := Lib.hid (HW1.out.trans hx2)
  have HQ2 := Lib.hid (HQ1.out.ext hx2)
  clear hx2
  cases bf
  · go_wp2
    go_ret
    exact ⟨rfl, HW2.out⟩
  go_wp2_with fail
  refine (K1.out _ HW2.out).mono ?_
  rintro e0 w3 ⟨rfl, hx3⟩
  have HW3 := Lib.hid (HW2.out.trans hx3)
  have HQ3 := Lib.hid (HQ2.out.ext hx3)
  have q0 := HQ3.out.cell 0 _ rfl
  clear hx3
  go_wp2_with fail
  refine (KA.out _ HW3.out).mono ?_
  rintro e0 w4 ⟨rfl, hx4⟩
  have HW4 := Lib.hid (HW3.out.trans hx4)
  have HQ4 := Lib.hid (HQ3.out.ext hx4)
  clear hx4 q0
  go_wp2_with fail
  refine (KB.out _ HW4.out).mono ?_
  rintro e0 w5 ⟨rfl, hx5⟩
  have HW5 := Lib.hid (HW4.out.trans hx5)
  have HQ5 := Lib.hid (HQ4.out.ext hx5)
  clear hx5
  have c0 := (Ext.cell (p := ⟨bb, o + j * 6, none⟩) HW5.out HBW.out).trans HC.out.1
  have c1 := (Ext.cell (p := ⟨bb, o + j * 6 + 1, none⟩) HW5.out HBW.out).trans HC.out.2.1
  have c2 := (Ext.cell (p := ⟨bb, o + j * 6 + 2, none⟩) HW5.out HBW.out).trans HC.out.2.2.1
  have c3 := (Ext.cell (p := ⟨bb, o + j * 6 + 3, none⟩) HW5.out HBW.out).trans HC.out.2.2.2.1
  have c4 := (Ext.cell (p := ⟨bb, o + j * 6 + 4, none⟩) HW5.out HBW.out).trans HC.out.2.2.2.2.1
  have c5 := (Ext.cell (p := ⟨bb, o + j * 6 + 5, none⟩) HW5.out HBW.out).trans HC.out.2.2.2.2.2
  by_cases hc0 : ca.len = 0
  · have hcb : ((ca.len : Int) == 0) = true := by rw [hc0]; rfl
    have HW6 := Lib.hid (HW5.out.alloc (.cells #[.int .i64 k, .string ⟨t.toArray⟩, .string ⟨n.toArray⟩, .string ⟨st.toArray⟩, .slice Ac ca.len cc, .slice Ap pa.len cp] 31))
    clear hc0
    go_wp2
    go_ret
    exact ⟨rfl, HW6.out⟩
  have hcb : ((ca.len : Int) == 0) = false := by rw [beq_eq_false_iff_ne]; omega
  have hcI2 : ¬ (ca.len : Int) = 0 := by omega
  obtain ⟨j2, hj2⟩ : ∃ j2, j2 = b % ca.len := ⟨_, rfl⟩
  have hjl2 : j2 < ca.len := by rw [hj2]; exact Nat.mod_lt _ (by omega)
  have hmod2 : (b : Int) % (ca.len : Int) = (j2 : Int) := by rw [hj2]; omega
  have hjI2 : (j2 : Int) < (ca.len : Int) := by omega
  have hmw : (IntKind.i64.wrap (b : Int)).tmod (ca.len : Int) = (j2 : Int) := by rw [IntWalk.i64_in _ (by omega), Int.tmod_eq_emod_of_nonneg (by omega), hmod2]
  obtain ⟨w6, hw6⟩ : ∃ w6, w6 = w5.alloc (.cells #[.int .i64 k, .string ⟨t.toArray⟩, .string ⟨n.toArray⟩, .string ⟨st.toArray⟩, .slice Ac ca.len cc, .slice Ap pa.len cp] 31) := ⟨_, rfl⟩
  have hx6 : Ext w5 w6 := by rw [hw6]; exact (Ext.refl w5).alloc _
  have HB6 := Lib.hid (show AtC 31 w6 w5.heap.size #[.int .i64 k, .string ⟨t.toArray⟩, .string ⟨n.toArray⟩, .string ⟨st.toArray⟩, .slice Ac ca.len cc, .slice Ap pa.len cp] from by rw [hw6]; exact AtC.new w5 _)
  have HW6 := Lib.hid (HW5.out.trans hx6)
  have x1 := (HQ5.out.ext hx6).cell 1 _ rfl
  have b4 := HB6.out.cell 4 _ rfl
  obtain ⟨b2, o2, cc2, k2, t2, n2, s2, ca2, pa2, Ap2, cp2, hv2, hbw2, _, hdr2, z0, z1, hPA2⟩ := (HCC.out.ext HW6.out).at_ hjl2
  injection hv2 with hA2 _ hcc2
  subst hA2 hcc2
  have hcan2 : Can pa2 := by
    have h2 := (can_drop ca j2).2 HCN.out
    rw [hdr2, CanC] at h2
    exact h2.2.2.2.2.2.1
  have hwt2 : wt pa2 ≤ 40000000 := by have := case_wtP ca j2 hdr2; have := HWC.out; omega
  have hnd2 : pa2.nodes < 100000000 := by have h := fdrop_nodes ca j2; rw [hdr2, F.nodes] at h; have := HND.out; omega
  have KC := Lib.hid (fun W (hx : Ext w6 W) => rcounts_any hnd2 (hPA2.ext hx) hcan2)
  have KQ := Lib.hid (fun W (hx : Ext w6 W) => tprint_any (hPA2.ext hx) hcan2 hwt2 (HM.out.ext (HW6.out.trans hx)))
  have HHX := Lib.hid (HHO.out j2 _ _ _ _ _ _ _ hdr2)
  have HVX := Lib.hid (HIV.out pa2 (HCV.out j2 _ _ _ _ _ _ _ hdr2))
  have y4 := fun ob => (HB6.out.alloc ob).cell 4 _ rfl
  have y1 := fun ob => ((HQ5.out.ext hx6).alloc ob).cell 1 _ rfl
  have y0 := fun ob => (Ext.cell ((Ext.refl w6).alloc ob) hbw2).trans z0
  have y5 := fun ob => (Ext.cell ((Ext.refl w6).alloc ob) hbw2).trans z1
  clear hj2 hjl2 hdr2 hPA2 hcan2 hwt2 hnd2 hbw2 hx6 HHO HIV HCV
  go_upto_region 14 with (fail)
  rw [← hw6]
  clear hw6 c0 c1 c2 c3 c4 c5
  obtain ⟨W7, hW7⟩ : ∃ W7, W7 = (w6.alloc (.cells #[.string ⟨n2.toArray⟩, .slice Ap2 pa2.len cp2] 33)).drew := ⟨_, rfl⟩
  have HX7 := Lib.hid (show Ext w6 W7 from by rw [hW7]; exact ((Ext.refl w6).alloc _).drew)
  have HB7 := Lib.hid (show AtC 33 W7 w6.heap.size #[.string ⟨n2.toArray⟩, .slice Ap2 pa2.len cp2] from by rw [hW7]; exact (AtC.new w6 _).ext ((Ext.refl _).drew))
  go_upto_region 16 with (fail)
  go_cut [13] (CvR w6.heap.size W7)
  case first =>
    go_region_law (fail)
    all_goals try go_wp2
    all_goals go_meet
    all_goals exact ⟨rfl, hW7⟩
  case rest =>
  obtain ⟨rfl, rfl⟩ := hcut
  clear hW7 y0 y1 y4 y5 z0 z1 x1 b4
  have v1 := HB7.out.cell 1 _ rfl
  have KC7 := Lib.hid (KC.out _ HX7.out)
  cases hcb2 : countB pa2
  rotate_left
  · rw [hcb2] at KC7
    clear hcb2 HVX KC
    go_wp2_with fail
    refine KC7.out.mono ?_
    rintro e0 w8 ⟨rfl, hx8⟩
    have HW8 := Lib.hid ((HW6.out.trans HX7.out).trans hx8)
    clear hx8
    go_wp2
    go_ret
    exact ⟨rfl, HW8.out⟩
  rw [hcb2] at KC7
  have hv2 := HVX.out hcb2
  rw [show prtP false pa2 = (txtP [32] pa2, 0) from if_pos hv2] at KQ
  have hT4 : (txtP [32] pa2).length ≤ 4000 := (validF_iff.1 hv2).2.2
  generalize txtP [32] pa2 = S2 at KQ hT4 HHX
  clear hcb2 HVX hv2 KC
  go_wp2_with fail
  refine KC7.out.mono ?_
  rintro e0 w8 ⟨rfl, hx8⟩
  have HW8 := Lib.hid ((HW6.out.trans HX7.out).trans hx8)
  have HX8 := Lib.hid (HX7.out.trans hx8)
  have HB8 := Lib.hid (HB7.out.ext hx8)
  have u1 := HB8.out.cell 1 _ rfl
  clear hx8 v1 KC7
  go_wp2_with fail
  refine (KQ.out _ HX8.out).mono ?_
  rintro e0 w9 ⟨rfl, hx9⟩
  have HW9 := Lib.hid (HW8.out.trans hx9)
  have HB9 := Lib.hid (HB8.out.ext hx9)
  have t0 := HB9.out.cell 0 _ rfl
  clear hx9 u1 KQ
  have hn2 : n2.length ≤ 8000 := by
    obtain ⟨a1, b1, e1⟩ := HHX.out
    have h := congrArg List.length e1
    simp only [List.length_append, List.length_cons, List.length_nil] at h
    omega
  obtain ⟨a1, b1, e1⟩ := HHX.out
  have KH := Lib.hid (fun (p : ByteArray) (hp : p.data.toList = [32] ++ (n2 ++ ([32, 123] ++ (S2 ++ [125])))) W => rholds_any ⟨(SA ++ SB).toArray⟩ p a1 b1 (by rw [hp]; exact e1) W (by show (SA ++ SB).length ≤ _; rw [List.length_append]; omega))
  clear e1
  go_wp2_with (first | (go_at_call 8; (with_reducible refine (KH.out _ (by simp) _).mono ?_); rintro e0 w10 ⟨rfl, hx10⟩; have HW10 := Lib.hid (HW9.out.trans hx10); clear hx10))
  go_ret
  exact ⟨rfl, HW10.out⟩
end Go.Proofs.YtpfmojeigjmlfaaDoor.lawPrinterParts
