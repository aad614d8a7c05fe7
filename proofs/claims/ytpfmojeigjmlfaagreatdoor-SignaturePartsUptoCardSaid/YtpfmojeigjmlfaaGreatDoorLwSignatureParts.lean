import Derived.Test.YtpfmojeigjmlfaaGreatDoorAx28
import Derived.Test.YtpfmojeigjmlfaaGreatDoorJa
import Derived.Test.YtpfmojeigjmlfaaGreatDoorKq
import Derived.Test.YtpfmojeigjmlfaaGreatDoorId
import Derived.Test.YtpfmojeigjmlfaaGreatDoorNP6
namespace Go.Proofs.YtpfmojeigjmlfaaGreatDoor.lawSignatureParts
open Go.ChangeShapes Go.WideShapes Go.ChangeAt Go.RowKit
set_option linter.unusedSimpArgs false
set_option linter.unusedVariables false

theorem known_wfP {t : Int} (h : knownB t = true) : (Lit.int .i64 t).wf = true := by
  rcases known_cases h with rfl | rfl | rfl | rfl | rfl <;> decide
def SmallP (M : List ArgP) : Prop := M.length ≤ 20 ∧ ∀ x ∈ M, x.1.length ≤ 40 ∧ (Lit.int .i64 x.2).wf = true
theorem small_nil : SmallP [] := ⟨Nat.zero_le _, fun x hx => (by cases hx)⟩
theorem small_valid {o : List ArgP} (h : validA o = true) : SmallP o := ⟨(sig_ok h).2.2, fun x hx => ⟨name_lenV ((sig_ok h).1 x hx).1, known_wfP ((sig_ok h).1 x hx).2⟩⟩
theorem small_inf (f : F) : SmallP (inferV f).1 := by
  unfold inferV inferA
  split
  · rename_i hv
    cases h : foldA [] (usesR f) with
    | none => exact small_nil
    | some o => exact small_valid (infer_valid hv h)
  · exact small_nil
theorem small_sz {M : List ArgP} (h : SmallP M) : ∀ x ∈ M.map agP, x.n.size ≤ maxLen ∧ (Lit.int .i64 x.t).wf = true := by
  intro x hx
  obtain ⟨y, hy, rfl⟩ := List.mem_map.1 hx
  have h2 := h.2 y hy
  refine ⟨?_, h2.2⟩
  show y.1.length ≤ maxLen
  unfold maxLen
  omega
/-- What the signatures of a message and of its halves have to do with each other. -/
theorem halves {f : F} (hv : validF false f = true) (k : Nat) :
    ((inferV (ftake f k)).2 = 0 ∨ (inferV (ftake f k)).2 = 11) ∧ ((inferV (fdrop f k)).2 = 0 ∨ (inferV (fdrop f k)).2 = 11) ∧
    ((inferV (ftake f k)).2 = 0 → (inferV (fdrop f k)).2 = 0 → mergeA (inferV (ftake f k)).1 (inferV (fdrop f k)).1 = inferV f) ∧
    ((inferV (ftake f k)).2 = 11 ∨ (inferV (fdrop f k)).2 = 11 → (inferV f).2 = 11) := by
  obtain ⟨v1, v2⟩ := valid_take hv k
  have hv' := hv
  rw [← take_drop f k] at hv'
  have hs := infer_split v1 v2 hv'
  rw [take_drop] at hs
  have e1 : inferV (ftake f k) = inferA (ftake f k) := if_pos v1
  have e2 : inferV (fdrop f k) = inferA (fdrop f k) := if_pos v2
  have e3 : inferV f = inferA f := if_pos hv
  rw [e1, e2, e3]
  unfold inferA at *
  cases h1 : foldA [] (usesR (ftake f k)) with
  | none =>
    rw [hs.2 (.inl h1)]
    refine ⟨.inr rfl, ?_, fun h => (by cases h), fun _ => rfl⟩
    cases foldA [] (usesR (fdrop f k)) with
    | none => exact .inr rfl
    | some o => exact .inl rfl
  | some a =>
    cases h2 : foldA [] (usesR (fdrop f k)) with
    | none =>
      rw [hs.2 (.inr h2)]
      exact ⟨.inl rfl, .inr rfl, fun _ h => (by cases h), fun _ => rfl⟩
    | some b => exact ⟨.inl rfl, .inl rfl, fun _ _ => hs.1 a b h1 h2, fun h => (by rcases h with h | h <;> cases h)⟩
theorem inner_cov {q f : F} (hi : Inner q f) (hv : validF false f = true) (h0 : (inferV f).2 = 0) (hc : countB q = false) : (inferV q).2 = 0 ∧ coversA (inferV f).1 (inferV q).1 = true := by
  have e3 : inferV f = inferA f := if_pos hv
  have e4 : inferV q = inferA q := if_pos ((inner_valid hi hv).2 hc)
  rw [e3] at h0 ⊢
  rw [e4]
  unfold inferA at *
  cases h1 : foldA [] (usesR f) with
  | none => rw [h1] at h0; cases h0
  | some o =>
    obtain ⟨x, h2, h3, h4⟩ := infer_inner hi hv h1
    rw [h2]
    exact ⟨rfl, h4⟩
/-- The parts within the part that is asked for. -/
def InR (w : World) (f : F) (v : Value) (wr : World) : Prop := ∃ q Aq cq, v = .slice Aq q.len cq ∧ Inner q f ∧ FwS wr (fun _ => True) q (.slice Aq q.len cq) ∧ Can q ∧ wt q ≤ 40000000 ∧ q.nodes < 100000000 ∧ Ext w wr
set_option maxHeartbeats 8000000 in
set_option maxRecDepth 100000 in
theorem law {f : F} {v : Value} (a b : Nat) (w : World) (hm : Mx w) (hF : FwS w (fun _ => True) f v) (hcan : Can f) (hwt : wt f ≤ 40000000) (hcap : ∀ A n c, v = .slice A n c → n ≤ c) (ha : a < 256) (hb : b < 256) :
    Calls Tryz.prog 9 #[v, .agg #[.int .u8 a, .int .u8 b]] w (RetTrue w) := by
  obtain ⟨Af, cf, rfl⟩ := hF.val
  have hcf : f.len ≤ cf := hcap _ _ _ rfl
  have hn : f.nodes < 100000000 := by have := nodes_wtg f; omega
  have hfl : f.len ≤ 100000000 := by have := fmNodes f; omega
  have HM := Lib.hid hm
  have HFW := Lib.hid hF
  have HCAN := Lib.hid hcan
  have HWT := Lib.hid hwt
  have HNO := Lib.hid hn
  have HXA := Lib.hid ((Ext.refl w).alloc (.cells #[.int .u8 a, .int .u8 b] 46))
  have HQA := Lib.hid (AtC.new w #[.int .u8 a, .int .u8 b] : AtC 46 _ _ _)
  have KF := Lib.hid (fun W (hx : Ext w W) => rfew_any (hF.ext hx) hcan hwt hn)
  have K1 := Lib.hid (fun W (hx : Ext w W) => tinfer_any (hF.ext hx) hcan hwt (hm.ext hx))
  have HSM := Lib.hid (small_inf f)
  clear hm hcan hwt hn hcap hF
  by_cases h0 : f.len = 0
  · have h0b : ((f.len : Int) == 0) = true := by rw [h0]; rfl
    clear h0 hcf hfl
    go_enter Tryz.func9, Tryz.ntmps9
    go_wp2_with fail
    refine (awake28_any _ (HM.out.ext HXA.out)).mono ?_
    rintro e w1 ⟨rfl, hw1⟩
    have HW1 := Lib.hid (HXA.out.trans hw1)
    clear hw1
    go_wp2_with fail
    refine (KF.out _ HW1.out).mono ?_
    rintro e w2 ⟨bb, rfl, hx2⟩
    have HW2 := Lib.hid (HW1.out.trans hx2)
    clear hx2
    cases bb
    · go_wp2
      go_ret
      exact ⟨rfl, HW2.out⟩
    · go_wp2
      go_ret
      exact ⟨rfl, HW2.out⟩
  have h0b : ((f.len : Int) == 0) = false := by rw [beq_eq_false_iff_ne]; omega
  cases hv : validF false f
  · rw [show inferV f = ([], 1) from if_neg (by rw [hv]; decide)] at K1
    clear hcf hfl h0 hv
    go_enter Tryz.func9, Tryz.ntmps9
    go_wp2_with fail
    refine (awake28_any _ (HM.out.ext HXA.out)).mono ?_
    rintro e w1 ⟨rfl, hw1⟩
    have HW1 := Lib.hid (HXA.out.trans hw1)
    clear hw1
    go_wp2_with fail
    refine (KF.out _ HW1.out).mono ?_
    rintro e w2 ⟨bb, rfl, hx2⟩
    have HW2 := Lib.hid (HW1.out.trans hx2)
    clear hx2
    cases bb
    · go_wp2
      go_ret
      exact ⟨rfl, HW2.out⟩
    go_wp2_with fail
    refine (K1.out _ HW2.out).mono ?_
    rintro e w3 ⟨A3, n3, c3, rfl, hs3, hx3⟩
    obtain rfl : n3 = 0 := by have := hs3.len; exact this.symm
    have HW3 := Lib.hid (HW2.out.trans hx3)
    clear hs3 hx3
    go_wp2
    go_ret
    exact ⟨rfl, HW3.out⟩
  obtain ⟨j, hj⟩ : ∃ j, j = a % f.len := ⟨_, rfl⟩
  have hjl : j < f.len := by rw [hj]; exact Nat.mod_lt _ (by omega)
  have hmod : (a : Int) % (f.len : Int) = (j : Int) := by rw [hj]; omega
  have hjI : (j : Int) < (f.len : Int) := by omega
  have HJL := Lib.hid hjl
  have HVF := Lib.hid hv
  obtain ⟨hh1, hh2, hh3, hh4⟩ := halves hv j
  have hwj := wt_take f j
  have hnj := fdrop_nodes f j
  obtain ⟨bb, o, cc0, k, t, n, st, ca, pa, Ac, cc, Ap, cp, hv0, hbw, _, hdr, c0, c1, c2, c3, c4, c5, hCA, hPA⟩ := HFW.out.at_ hjl
  injection hv0 with hA _ hcc
  subst hA hcc
  have KA := Lib.hid (fun W (hx : Ext w W) => tinfer_any ((HFW.out.ext hx).take j (Nat.le_of_lt hjl) cf) (can_take f j HCAN.out) (by have := HWT.out; omega) (HM.out.ext hx))
  have KB := Lib.hid (fun W (hx : Ext w W) => tinfer_any ((HFW.out.ext hx).drop j (Nat.le_of_lt hjl) (cf - j)) ((can_drop f j).1 HCAN.out) (by have := HWT.out; omega) (HM.out.ext hx))
  have HSA := Lib.hid (small_inf (ftake f j))
  have HSB := Lib.hid (small_inf (fdrop f j))
  have HIC := Lib.hid (fun q (hi : Inner q f) (hc : countB q = false) (h0 : (inferV f).2 = 0) => inner_cov hi hv h0 hc)
  have HSQ := Lib.hid small_inf
  generalize inferV (ftake f j) = MA at KA hh1 hh2 hh3 hh4 HSA
  generalize inferV (fdrop f j) = MB at KB hh1 hh2 hh3 hh4 HSB
  have HLEN := Lib.hid (show (inferV f).2 = 11 → (inferV f).1 = [] from fun h => by
    have e3 : inferV f = inferA f := if_pos hv
    rw [e3] at h ⊢
    unfold inferA at *
    cases h1 : foldA [] (usesR f) with
    | none => rfl
    | some o => rw [h1] at h; cases h)
  have H01 := Lib.hid (show (inferV f).2 = 0 ∨ (inferV f).2 = 11 from by
    have e3 : inferV f = inferA f := if_pos hv
    rw [e3]
    unfold inferA
    cases foldA [] (usesR f) with
    | none => exact .inr rfl
    | some o => exact .inl rfl)
  generalize inferV f = M at K1 HSM hh3 hh4 HIC HLEN H01
  obtain ⟨LA, ea⟩ := MA
  obtain ⟨LB, eb⟩ := MB
  obtain ⟨L, e⟩ := M
  simp only at hh1 hh2 hh3 hh4
  have HH3 := Lib.hid hh3
  have HH4 := Lib.hid hh4
  have HH1 := Lib.hid hh1
  have HH2 := Lib.hid hh2
  have hb1 : (e == 1) = false := by
    rw [beq_eq_false_iff_ne]
    rcases H01.out with h | h <;> (have h : e = _ := h; omega)
  have HCC := Lib.hid hCA
  have HPP := Lib.hid hPA
  have HDR := Lib.hid hdr
  have HBW := Lib.hid hbw
  have HC4 := Lib.hid c4
  have HC5 := Lib.hid c5
  have hcj : ¬ cf = j := by omega
  have hjc : (j : Int) ≤ (cf : Int) := by omega
  clear hj hjl hh1 hh2 hh3 hh4 hv hdr hCA hPA hbw hwj hnj c0 c1 c2 c3 c4 c5 h0
  go_enter Tryz.func9, Tryz.ntmps9
  go_wp2_with fail
  refine (awake28_any _ (HM.out.ext HXA.out)).mono ?_
  rintro e0 w1 ⟨rfl, hw1⟩
  have HW1 := Lib.hid (HXA.out.trans hw1)
  have HQ1 := Lib.hid (HQA.out.ext hw1)
  clear hw1
  go_wp2_with fail
  refine (KF.out _ HW1.out).mono ?_
  rintro e0 w2 ⟨bf, rfl, hx2⟩
  have HW2 := Lib.hid (HW1.out.trans hx2)
  have HQ2 := Lib.hid (HQ1.out.ext hx2)
  clear hx2
  cases bf
  · go_wp2
    go_ret
    exact ⟨rfl, HW2.out⟩
  go_wp2_with fail
  refine (K1.out _ HW2.out).mono ?_
  rintro e0 w3 ⟨A3, n3, c3, rfl, hs3, hx3⟩
  obtain rfl : n3 = L.length := by have := hs3.len; rw [List.length_map] at this; exact this.symm
  have HW3 := Lib.hid (HW2.out.trans hx3)
  have HQ3 := Lib.hid (HQ2.out.ext hx3)
  have HS3 := Lib.hid hs3
  have q0 := HQ3.out.cell 0 _ rfl
  clear hs3 hx3
  go_wp2_with fail
  refine (KA.out _ HW3.out).mono ?_
  rintro e0 w4 ⟨A4, n4, c4, rfl, hs4, hx4⟩
  obtain rfl : n4 = LA.length := by have := hs4.len; rw [List.length_map] at this; exact this.symm
  have HW4 := Lib.hid (HW3.out.trans hx4)
  have HQ4 := Lib.hid (HQ3.out.ext hx4)
  have HS4 := Lib.hid hs4
  have HS34 := Lib.hid (HS3.out.ext hx4)
  clear hs4 hx4 q0
  go_wp2_with fail
  refine (KB.out _ HW4.out).mono ?_
  rintro e0 w5 ⟨A5, n5, c5, rfl, hs5, hx5⟩
  obtain rfl : n5 = LB.length := by have := hs5.len; rw [List.length_map] at this; exact this.symm
  have HW5 := Lib.hid (HW4.out.trans hx5)
  have HQ5 := Lib.hid (HQ4.out.ext hx5)
  have HS5 := Lib.hid hs5
  have HS45 := Lib.hid (HS4.out.ext hx5)
  have HS35 := Lib.hid (HS34.out.ext hx5)
  clear hs5 hx5
  by_cases hok : ea = 0 ∧ eb = 0
  rotate_left
  · have he : e = 11 := HH4.out (by
      rcases HH1.out with h | h
      · rcases HH2.out with h' | h'
        · exact absurd ⟨h, h'⟩ hok
        · exact .inr h'
      · exact .inl h)
    subst he
    rcases HH1.out with h1 | h1
    · rcases HH2.out with h2 | h2
      · exact absurd ⟨h1, h2⟩ hok
      · subst h1 h2
        clear hok HH1 HH2 HH3 HH4 H01
        go_wp2
        go_ret
        exact ⟨rfl, HW5.out⟩
    · rcases HH2.out with h2 | h2
      · subst h1 h2
        clear hok HH1 HH2 HH3 HH4 H01
        go_wp2
        go_ret
        exact ⟨rfl, HW5.out⟩
      · subst h1 h2
        clear hok HH1 HH2 HH3 HH4 H01
        go_wp2
        go_ret
        exact ⟨rfl, HW5.out⟩
  obtain ⟨rfl, rfl⟩ := hok
  have HMG := Lib.hid (HH3.out rfl rfl)
  have KM := tmerge_any (LA.map agP) (LB.map agP) A4 A5 _ _ c4 c5 w5 HS45.out HS5.out (by have := HSA.out.1; unfold maxLen; show LA.length ≤ _; have h : LA.length ≤ 20 := this; omega) (by have h : LB.length ≤ 20 := HSB.out.1; unfold maxLen; omega) (small_sz HSA.out) (small_sz HSB.out)
  rw [agP_list, agP_list, HMG.out] at KM
  have KM := Lib.hid KM
  clear HH1 HH2 HH3 HH4 HMG
  go_wp2_with fail
  refine KM.out.mono ?_
  rintro e0 w6 ⟨A6, n6, c6, rfl, hs6, hx6⟩
  obtain rfl : n6 = L.length := by have := hs6.len; rw [List.length_map] at this; exact this.symm
  have HW6 := Lib.hid (HW5.out.trans hx6)
  have HQ6 := Lib.hid (HQ5.out.ext hx6)
  have HS36 := Lib.hid (HS35.out.ext hx6)
  have hL20 : L.length ≤ 20 := HSM.out.1
  have KE := Lib.hid (requal28_any (L.map agP) (L.map agP) A6 A3 _ _ c6 c3 w6 hs6 HS36.out (by unfold maxLen; omega) (by unfold maxLen; omega))
  rw [show ((L.map agP).map agOf == (L.map agP).map agOf) = true from by simp] at KE
  have HCX := Lib.hid (fun W (hx : Ext w W) => (Ext.cell (p := ⟨bb, o + j * 6 + 4, none⟩) hx HBW.out).trans HC4.out)
  have HCY := Lib.hid (fun W (hx : Ext w W) => (Ext.cell (p := ⟨bb, o + j * 6 + 5, none⟩) hx HBW.out).trans HC5.out)
  clear hs6 hx6 KM
  go_upto_if 99 with (first | (go_at_call 31; (with_reducible refine KE.out.mono ?_); rintro e0 w7 ⟨rfl, hx7⟩; have HX7 := Lib.hid hx7; have HW7 := Lib.hid (HW6.out.trans hx7); have x4 := HCX.out w7 HW7.out; have x5 := HCY.out w7 HW7.out; have x1 := (HQ6.out.ext hx7).cell 1 _ rfl; clear hx7))
  have HIA := Lib.hid (can_drop f j)
  have HWD := Lib.hid (wt_drop f j HDR.out)
  have HND := Lib.hid (show pa.nodes < 100000000 ∧ ca.nodes < 100000000 from by have h := fdrop_nodes f j; rw [HDR.out, F.nodes] at h; have := HNO.out; omega)
  have HCN := Lib.hid (show CanC ca ∧ Can pa from by have h := (can_drop f j).1 HCAN.out; rw [HDR.out, Can] at h; exact ⟨h.2.2.1, h.2.2.2.1⟩)
  go_cut [14] (InR w7 f)
  case first =>
    by_cases hc0 : ca.len = 0
    · have hcI : ¬ (0 : Int) < (ca.len : Int) := by omega
      have hcJ : ¬ 0 < ca.len := by omega
      have HR := Lib.hid (show InR w7 f (.slice Ap pa.len cp) w7 from ⟨pa, Ap, cp, rfl, inner_elem HDR.out, HPP.out.ext HW7.out, HCN.out.2, by have := HWD.out; have := HWT.out; omega, HND.out.1, Ext.refl _⟩)
      clear hc0
      go_wp2_with fail
      go_meet
      exact HR.out
    · have hcI : (0 : Int) < (ca.len : Int) := by omega
      have hcJ : 0 < ca.len := by omega
      obtain ⟨j2, hj2⟩ : ∃ j2, j2 = b % ca.len := ⟨_, rfl⟩
      have hjl2 : j2 < ca.len := by rw [hj2]; exact Nat.mod_lt _ (by omega)
      have hmod2 : (b : Int) % (ca.len : Int) = (j2 : Int) := by rw [hj2]; omega
      have hjI2 : (j2 : Int) < (ca.len : Int) := by omega
      have hcI2 : ¬ (ca.len : Int) = 0 := by omega
      obtain ⟨b2, o2, cc2, k2, t2, n2, s2, ca2, pa2, Ap2, cp2, hv2, hbw2, _, hdr2, z0, z1, hPA2⟩ := (HCC.out.ext HW7.out).at_ hjl2
      injection hv2 with hA2 _ hcc2
      subst hA2 hcc2
      have hcan2 : Can pa2 := by
        have h2 := (can_drop ca j2).2 HCN.out.1
        rw [hdr2, CanC] at h2
        exact h2.2.2.2.2.2.1
      have hwt2 : wt pa2 ≤ wt ca := case_wt ca j2 hdr2
      have hnd2 := fdrop_nodes ca j2
      rw [hdr2, F.nodes] at hnd2
      have HR := Lib.hid (fun W (hx : Ext w7 W) => (show InR w7 f (.slice Ap2 pa2.len cp2) W from ⟨pa2, Ap2, cp2, rfl, inner_of HDR.out (inner_elem hdr2), hPA2.ext hx, hcan2, by have := HWD.out; have := HWT.out; omega, by have := HND.out.2; omega, hx⟩))
      clear hj2 hjl2 hdr2 z0 hPA2 hcan2 hwt2 hnd2 hbw2 hc0
      go_wp2_with fail
      go_quiet (fail)
      all_goals go_wp2_with fail
      all_goals go_meet
      all_goals exact HR.out _ ((Ext.refl w7).drewN _)
  case rest =>
  obtain ⟨q, Aq, cq, hvq, hiq, hfq, hcq, hwq, hnq, hxq⟩ := hcut
  subst hvq
  obtain ⟨w8, hw8⟩ : ∃ w8 : World, w8 = wc := ⟨_, rfl⟩
  rw [← hw8] at hfq hxq
  have HW8 := Lib.hid (HW7.out.trans hxq)
  have HFQ := Lib.hid hfq
  have HS68 := Lib.hid (HS36.out.ext (HX7.out.trans hxq))
  have KC := Lib.hid (rcounts_any hnq hfq hcq)
  have KQ := Lib.hid (fun W (hx : Ext w8 W) => tinfer_any (hfq.ext hx) hcq hwq (HM.out.ext (HW8.out.trans hx)))
  have HIQ := Lib.hid (HIC.out q hiq)
  have HSX := Lib.hid (small_inf q)
  clear hfq hcq hwq hnq hxq hiq x1 x4 x5 KE
  go_upto_region 19 with (fail)
  rw [← hw8]
  clear hw8
  rcases H01.out with he | he
  rotate_left
  · have he : e = 11 := he
    subst he
    clear H01 HIQ
    go_wp2
    go_ret
    exact ⟨rfl, HW8.out⟩
  have he : e = 0 := he
  subst he
  cases hcb : countB q
  rotate_left
  · rw [hcb] at KC
    clear H01 HIQ hcb
    go_wp2_with (first | (go_at_call 34; (with_reducible refine KC.out.mono ?_); rintro e0 w9 ⟨rfl, hx9⟩; have HW9 := Lib.hid (HW8.out.trans hx9); clear hx9))
    go_ret
    exact ⟨rfl, HW9.out⟩
  rw [hcb] at KC
  obtain ⟨hq1, hq2⟩ := HIQ.out hcb rfl
  generalize inferV q = X at KQ hq1 hq2 HSX
  obtain ⟨LX, eX⟩ := X
  have hq1 : eX = 0 := hq1
  subst hq1
  have HCV := Lib.hid (show coversA L LX = true from hq2)
  clear hq2 hcb HIQ H01
  go_wp2_with (first | (go_at_call 34; (with_reducible refine KC.out.mono ?_); rintro e0 w9 ⟨rfl, hx9⟩; have HX9 := Lib.hid hx9; have HW9 := Lib.hid (HW8.out.trans hx9); clear hx9))
  refine (KQ.out _ HX9.out).mono ?_
  rintro e0 w10 ⟨A10, n10, c10, rfl, hs10, hx10⟩
  obtain rfl : n10 = LX.length := by have := hs10.len; rw [List.length_map] at this; exact this.symm
  have HW10 := Lib.hid (HW9.out.trans hx10)
  have hX20 : LX.length ≤ 20 := HSX.out.1
  have KV := Lib.hid (tcovers_any (L.map agP) (LX.map agP) A3 A10 _ _ c3 c10 w10 ((HS68.out.ext (HX9.out.trans hx10))) hs10 (by unfold maxLen; omega) (by unfold maxLen; omega) (fun x hx => (small_sz HSM.out x hx).1) (fun x hx => (small_sz HSX.out x hx).1))
  rw [agP_list, agP_list, HCV.out] at KV
  clear hs10 hx10 KQ KC
  go_wp2_with (first | (go_at_call 35; (with_reducible refine KV.out.mono ?_); rintro e0 w11 ⟨rfl, hx11⟩; have HW11 := Lib.hid (HW10.out.trans hx11); clear hx11))
  go_ret
  exact ⟨rfl, HW11.out⟩
end Go.Proofs.YtpfmojeigjmlfaaGreatDoor.lawSignatureParts
