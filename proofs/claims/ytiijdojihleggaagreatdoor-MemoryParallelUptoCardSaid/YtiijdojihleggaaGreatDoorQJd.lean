import Derived.Test.YtiijdojihleggaaGreatDoorQJag
import Derived.Test.YtiijdojihleggaaGreatDoorQRDecg
import Derived.Test.YtiijdojihleggaaGreatDoorQNPI
set_option maxRecDepth 100000
set_option linter.unusedSimpArgs false
set_option linter.unusedVariables false
open Go.Lib (hid)
namespace Go.Proofs.YtiijdojihleggaaGreatDoor
open Go.RowKit
theorem prt_el (d : Nat) (c : Bool) (t n s : By) (ca pa : F) : prtB d c 11 t n s ca pa = (decide (d < 8) && nameB n && t.isEmpty && s.isEmpty && (ca.len == 0) && formB (d + 1) c false pa) := by
 unfold prtB fldB
 simp
 cases decide (d < 8) <;> cases nameB n <;> cases t.isEmpty <;> cases s.isEmpty <;> simp
theorem prt_se {d : Nat} {c : Bool} {k : Int} {t n s : By} {ca pa : F} (hk : k = 7 ∨ k = 8 ∨ k = 9) :
 prtB d c k t n s ca pa = (decide (d < 8) && nameB n && t.isEmpty && s.isEmpty && (pa.len == 0) && (casB k.toNat (d + 1) (c || k != 9) [] ca && decide (ca.len ≤ 20) && decide (otherP ∈ ca.keys))) := by
 unfold prtB fldB
 rcases hk with rfl | rfl | rfl <;> simp <;> cases decide (d < 8) <;> cases nameB n <;> cases t.isEmpty <;> cases s.isEmpty <;> simp
theorem prt_pl {d : Nat} {c : Bool} {k : Int} {t n s : By} {ca pa : F} (h11 : k ≠ 11) (hk : ¬ (k = 7 ∨ k = 8 ∨ k = 9)) : prtB d c k t n s ca pa = plnB c k t n s (ca.len == 0) (pa.len == 0) := by
 have e11 : (k == 11) = false := by rw [beq_eq_false_iff_ne]; exact h11
 have e79 : (decide (7 ≤ k) && decide (k ≤ 9)) = false := by
  rw [Bool.and_eq_false_iff, decide_eq_false_iff_not, decide_eq_false_iff_not]
  omega
 unfold prtB fldB plnB
 rw [e11, e79]
 by_cases h1 : k = 1
 ·subst h1; simp
 by_cases h10 : k = 10
 ·subst h10; simp; cases c <;> simp
 have e10 : (k == 10) = false := by rw [beq_eq_false_iff_ne]; exact h10
 rw [e10]
 simp [h1, h10, h11, hk]
theorem prt_g {d : Nat} {c : Bool} {k : Int} {t n s : By} {ca pa : F} {g : Bool} (hk : k = 7 ∨ k = 8 ∨ k = 9) (hg : g = (decide (d < 8) && nameB n && t.isEmpty && s.isEmpty && decide (pa.len = 0) && decide (1 ≤ ca.len) && decide (ca.len ≤ 20))) :
 prtB d c k t n s ca pa = (g && (casB k.toNat (d + 1) (c || k != 9) [] ca && decide (otherP ∈ ca.keys))) := by
 rw [prt_se hk, hg]
 have hp : (pa.len == 0) = decide (pa.len = 0) := by rw [Bool.eq_iff_iff]; simp
 rw [hp]
 by_cases h1 : 1 ≤ ca.len
 ·rw [decide_eq_true h1]
  cases decide (d < 8) <;> cases nameB n <;> cases t.isEmpty <;> cases s.isEmpty <;> cases decide (pa.len = 0) <;> cases casB k.toNat (d + 1) (c || k != 9) [] ca <;> cases decide (ca.len ≤ 20) <;> simp
 ·have h0 : ca = .nil := nil_of_len (by omega)
  subst h0
  simp [F.keys]
def FmH (N : Nat) : Prop := ∀ (f : F) (v : Value) (ok : Nat → Prop) (d : Nat) (c : Bool) (w : World), f.nodes < N → N ≤ 1000000000 → FwS w ok f v → Can f → d ≤ 8 →
 Calls Tryz.prog 60 #[v, .int .i64 ((d : Int) + 1), .bool c] w fun e w' => e = .returned (.bool (formB d c false f)) ∧ Ext w w'
def FmI (w : World) (f : F) (d : Nat) (c R : Bool) (i : Value) (wr : World) : Prop := ∃ j : Nat, j ≤ f.len ∧ i = .int .i64 j ∧ R = formB d c (ptK f j) (fdrop f j) ∧ Ext w wr
def FmJ (w : World) (kd d : Nat) (c R : Bool) (ca : F) (l i : Value) (wr : World) : Prop :=
 ∃ (j : Nat) (seen : List By), j ≤ ca.len ∧ i = .int .i64 j ∧ seen.length = j ∧ wr.ownsRow w.heap.size 9 1 l seen.length (strC seen) ∧ R = casB kd d c seen (fdrop ca j) ∧ ca.keys = seen ++ (fdrop ca j).keys ∧ Ext w wr
def BWq (b : Bool) (W : World) (v : Value) (wx : World) : Prop := v = .bool b ∧ W = wx
def BXq (b : Bool) (W : World) (v : Value) (wx : World) : Prop := v = .bool b ∧ Ext W wx
theorem key_eq (k : Int) (n : By) (h : k = 7 ∨ k = 8 ∨ k = 9) : (if k = 9 then nameB n else classB n || (n.head? == some 61 && decB (n.drop 1))) = keyB k.toNat n := by
 unfold keyB
 rcases h with rfl | rfl | rfl <;> rfl
set_option maxHeartbeats 60000000 in
theorem form_step (N : Nat) (hN : FmH N) : FmH (N + 1) := by
 intro f v ok d c w hnd hNB hF hcan hd
 obtain ⟨A, cc, rfl⟩ := hF.val
 have HFW := hid hF
 have HCAN := hid hcan
 have HND := hid hnd
 have hfl : f.len ≤ 1000000000 := by have := flJ_nodes f; omega
 obtain ⟨R, hR⟩ : ∃ R, R = formB d c false f := ⟨_, rfl⟩
 rw [← hR]
 have H0 := hid (show FmI w f d c R (.int .i64 0) w from ⟨0, Nat.zero_le _, rfl, by rw [fdrop_zero]; exact hR, Ext.refl _⟩)
 clear hF hcan hnd hR
 obtain ⟨i0, hi0, hz0, hz1, hz2⟩ := info_parts (show (Tryz.prog.info? 9).map (fun i => (i.zero, i.size, i.bytes)) = some (some (.string ⟨#[]⟩), 1, 16) from by kernel_rfl)
 go_enter Tryz.func60, Tryz.ntmps60
 go_wp2_with fail
 go_loopw [7] (FmI w f d c R) (fun i _ => f.len - (intOf i).toNat)
 case atStart => exact H0.out
 case round =>
  obtain ⟨j, hj, rfl, hr, hw⟩ := hrel
  obtain ⟨wo, rfl⟩ : ∃ wo : World, wo = wr := ⟨_, rfl⟩
  have HW := hid hw
  by_cases hjl : j < f.len
  rotate_left
  ·have hjI : ¬ (j : Int) < (f.len : Int) := by omega
   rw [fdrop_end f j (by omega), formB] at hr
   subst hr
   clear hw
   go_wp2
   go_ret
   exact ⟨rfl, HW.out⟩
  have hjI : (j : Int) < (f.len : Int) := by omega
  obtain ⟨b, o, cc', k, t, n, s, ca, pa, Ac, cac, Ap, cpa, hv, hbw, _, hdr, c0, c1, c2, c3, c4, c5, hCA, hPA⟩ := (HFW.out.ext hw).at_ hjl
  injection hv with hA _ hcc
  subst hA hcc
  have hpv : ∀ j', j = j' + 1 → ∃ kp : Int, wo.cell? ⟨b, o + j' * 6, none⟩ = some (.int .i64 kp) ∧ headK (fdrop f j') = kp := by
   intro j' e
   obtain ⟨b2, o2, cc2, k2, _, _, _, _, _, _, _, _, _, hv2, _, _, hdr2, e0, _⟩ := (HFW.out.ext hw).at_ (i := j') (by omega)
   injection hv2 with hA2 _ _
   injection hA2 with hA2
   injection hA2 with h1 h2
   subst h1 h2
   exact ⟨k2, e0, by rw [hdr2]; rfl⟩
  have hcn := (can_drop f j).1 HCAN.out
  rw [hdr] at hcn hr
  rw [form_prt] at hr
  rw [Can] at hcn
  obtain ⟨hnl, hsl, hcc, hcp, _⟩ := hcn
  have hpt1 : ptK f (j + 1) = (k == 1) := by
   unfold ptK
   rw [if_neg (Nat.succ_ne_zero j), Nat.add_sub_cancel, hdr]
   rfl
  rw [← hpt1] at hr
  have hnd2 : ca.nodes < N ∧ pa.nodes < N := by have h1 := fdrop_nodes f j; rw [hdr, F.nodes] at h1; have := HND.out; constructor <;> omega
  have HR := hid hr
  have HPT1 := hid hpt1
  have HCA := hid hCA
  have HPA := hid hPA
  have HPV := hid hpv
  have HXP := hid ((Ext.refl wo).alloc (.cells #[.int .i64 k, .string ⟨t.toArray⟩, .string ⟨n.toArray⟩, .string ⟨s.toArray⟩, .slice Ac ca.len cac, .slice Ap pa.len cpa] 96))
  have HB1 := hid (AtC.new wo #[.int .i64 k, .string ⟨t.toArray⟩, .string ⟨n.toArray⟩, .string ⟨s.toArray⟩, .slice Ac ca.len cac, .slice Ap pa.len cpa] : AtC 96 _ _ _)
  have KN := hid (fun W => (show Calls Tryz.prog 80 #[.string ⟨n.toArray⟩] W fun e w' => e = .returned (.bool (nameB n)) ∧ W = w' from rname_any ⟨n.toArray⟩ W (by unfold maxLen; show n.length ≤ _; omega)))
  have KS := hid (fun W => rsel26_any k W)
  have KP := hid (fun W (hx : Ext wo W) (h8 : d < 8) => (show Calls Tryz.prog 60 #[.slice Ap pa.len cpa, .int .i64 ((d : Int) + 1 + 1), .bool c] W (fun e w' => e = .returned (.bool (formB (d + 1) c false pa)) ∧ Ext W w') from
   hN pa _ ok (d + 1) c W hnd2.2 (by omega) (HPA.out.ext hx) hcp (by omega)))
  have KQ := hid (fun W => (show Calls Tryz.prog 85 #[.agg #[.int .i64 k, .string ⟨t.toArray⟩, .string ⟨n.toArray⟩, .string ⟨s.toArray⟩, .slice Ac ca.len cac, .slice Ap pa.len cpa], .bool c] W fun e w' => e = .returned (.bool (plnB c k t n s (ca.len == 0) (pa.len == 0))) ∧ Ext W w' from
   plain_any k c ⟨t.toArray⟩ ⟨n.toArray⟩ ⟨s.toArray⟩ Ac ca.len cac Ap pa.len cpa W (by unfold maxLen; show n.length ≤ _; omega) (by unfold maxLen; show s.length ≤ _; omega)))
  have HCC := hid hcc
  have HNDC := hid hnd2.1
  have HNB := hid hNB
  have hcl : ca.len ≤ 1000000000 := by have h1 := flJ_nodes ca; have h2 := hnd2.1; omega
  have HPTF := hid (show j ≠ 0 → ∃ j' kp, j = j' + 1 ∧ wo.cell? ⟨b, o + j' * 6, none⟩ = some (.int .i64 kp) ∧ ptK f j = (kp == 1) from fun h => by
   obtain ⟨kp, e1, e2⟩ := hpv (j - 1) (by omega)
   exact ⟨j - 1, kp, by omega, e1, by unfold ptK; rw [if_neg (by omega), e2]⟩)
  have HJ0 := hid (show j = 0 → ptK f j = false from fun h => by unfold ptK; rw [if_pos h])
  clear hw hr hpt1 hCA hPA hpv hcc hcp hnd2 hdr H0
  obtain ⟨W1, hW1⟩ : ∃ W1, W1 = wo.alloc (.cells #[.int .i64 k, .string ⟨t.toArray⟩, .string ⟨n.toArray⟩, .string ⟨s.toArray⟩, .slice Ac ca.len cac, .slice Ap pa.len cpa] 96) := ⟨_, rfl⟩
  rw [← hW1] at HXP HB1
  have hbW : wo.heap.size < W1.heap.size := by rw [hW1, World.size_alloc]; omega
  have p0 := HB1.out.cell 0 _ rfl
  have p1 := HB1.out.cell 1 _ rfl
  have p2 := HB1.out.cell 2 _ rfl
  have p3 := HB1.out.cell 3 _ rfl
  have p4 := HB1.out.cell 4 _ rfl
  have p5 := HB1.out.cell 5 _ rfl
  obtain ⟨bad, hbad⟩ : ∃ bad, bad = (ptK f j && k == 1) := ⟨_, rfl⟩
  have HBAD := hid hbad
  clear hbad
  go_upto_region 5 with (fail)
  rw [← hW1]
  clear hW1
  go_cut [37] (BWq bad W1)
  case first =>
   as_aux_lemma =>
   by_cases hj0 : j = 0
   ·have hI : ¬ (0 : Int) < (j : Int) := by omega
    have HF := hid (show bad = false from by rw [HBAD.out, HJ0.out hj0]; rfl)
    clear hj0 HBAD
    go_wp2_with fail
    all_goals go_meet
    all_goals exact ⟨by rw [HF.out], rfl⟩
   have hI : (0 : Int) < (j : Int) := by omega
   cases hk1 : (k == 1)
   ·have HF := hid (show bad = false from by rw [HBAD.out, hk1, Bool.and_false])
    clear HBAD hj0
    go_wp2_with fail
    all_goals go_meet
    all_goals exact ⟨by rw [HF.out], rfl⟩
   obtain ⟨j', kp, hj', e1, hpt⟩ := HPTF.out hj0
   have e3 := (Ext.cell HXP.out (World.block_lt_of_cell? _ _ e1)).trans e1
   have hI2 : (j : Int) - 1 = (j' : Int) := by omega
   have hI3 : (j' : Int) < (f.len : Int) := by omega
   have HF := hid (show bad = (kp == 1) from by rw [HBAD.out, hk1, hpt, Bool.and_true])
   clear HBAD e1 hpt hj' hj0
   go_wp2_with fail
   all_goals go_meet
   all_goals exact ⟨by rw [HF.out], rfl⟩
  case rest =>
  obtain ⟨rfl, rfl⟩ := hcut
  cases bad
  rotate_left
  ·have hR0 : R = false := by rw [HR.out, HPT1.out, ← HBAD.out]; rfl
   subst hR0
   go_wp2_with fail
   go_ret
   exact ⟨rfl, HW.out.trans HXP.out⟩
  have HR2 := hid (show R = (prtB d c k t n s ca pa && formB d c (ptK f (j + 1)) (fdrop f (j + 1))) from by rw [HR.out, HPT1.out, ← HBAD.out]; simp)
  clear HBAD HPTF HJ0 HPV HR HPT1
  by_cases h11 : k = 11
  ·obtain rfl := h11
   by_cases hd8 : d < 8
   rotate_left
   ·have hdI : (8 : Int) < (d : Int) + 1 := by omega
    have hdJ : (8 : Int) ≤ (d : Int) := by omega
    go_wp2_with (first | (go_at_call 80; with_reducible refine (KN.out _).mono ?_; rintro e w2 ⟨rfl, rfl⟩))
    all_goals go_ret
    all_goals exact ⟨ret_bool (by rw [HR2.out, prt_el, decide_eq_false hd8]; simp), by first | exact HW.out.trans HXP.out | exact HW.out.trans HX3.out | exact HW.out.trans HX3.out.drew | exact HW.out.trans HXP.out.drew⟩
   have hdI : ¬ (8 : Int) < (d : Int) + 1 := by omega
   have hdJ : ¬ (8 : Int) ≤ (d : Int) := by omega
   have HD8 := hid hd8
   generalize hfb : formB (d + 1) c false pa = FB at KP
   go_wp2_with (first | (go_at_call 80; with_reducible refine (KN.out _).mono ?_; rintro e w2 ⟨rfl, rfl⟩) | (go_at_call 60; ((with_reducible refine (KP.out _ HXP.out HD8.out).mono ?_); rintro e w3 ⟨rfl, hx3⟩; have HX3 := hid (Ext.trans HXP.out hx3); clear hx3)))
   all_goals first
    | (go_ret; exact ⟨ret_bool (by rw [HR2.out, prt_el]; simp_all), by first | exact HW.out.trans HXP.out | exact HW.out.trans HX3.out | exact HW.out.trans HX3.out.drew | exact HW.out.trans HXP.out.drew⟩)
    | exact ⟨⟨j + 1, hjl, by go_num, by rw [HR2.out, prt_el]; simp_all, by first | exact HW.out.trans HXP.out | exact HW.out.trans HX3.out | exact HW.out.trans HX3.out.drew | exact HW.out.trans HXP.out.drew⟩, by simp [intOf]; omega⟩
  by_cases hns : k = 7 ∨ k = 8 ∨ k = 9
  rotate_left
  ·have hse : ((k == 7 || k == 8) || k == 9) = false := by rw [Bool.eq_false_iff]; intro h; simp at h; omega
   rw [hse] at KS
   have b11 : (k == 11) = false := by rw [beq_eq_false_iff_ne]; exact h11
   generalize hpl : plnB c k t n s (ca.len == 0) (pa.len == 0) = PL at KQ
   go_wp2_with (first | (go_at_call 81; with_reducible refine (KS.out _).mono ?_; rintro e w5 ⟨rfl, rfl⟩) | (go_at_call 85; ((with_reducible refine (KQ.out _).mono ?_); rintro e w3 ⟨rfl, hx3⟩; have HX3 := hid (Ext.trans HXP.out hx3); clear hx3)))
   all_goals first
    | (go_ret; exact ⟨ret_bool (by rw [HR2.out, prt_pl h11 hns]; simp_all), by first | exact HW.out.trans HXP.out | exact HW.out.trans HX3.out | exact HW.out.trans HX3.out.drew | exact HW.out.trans HXP.out.drew⟩)
    | exact ⟨⟨j + 1, hjl, by go_num, by rw [HR2.out, prt_pl h11 hns]; simp_all, by first | exact HW.out.trans HXP.out | exact HW.out.trans HX3.out | exact HW.out.trans HX3.out.drew | exact HW.out.trans HXP.out.drew⟩, by simp [intOf]; omega⟩
  have hse : ((k == 7 || k == 8) || k == 9) = true := by rcases hns with rfl | rfl | rfl <;> rfl
  rw [hse] at KS
  have b11 : (k == 11) = false := by rw [beq_eq_false_iff_ne]; exact h11
  obtain ⟨g, hg⟩ : ∃ g, g = (decide (d < 8) && nameB n && t.isEmpty && s.isEmpty && decide (pa.len = 0) && decide (1 ≤ ca.len) && decide (ca.len ≤ 20)) := ⟨_, rfl⟩
  have HG := hid hg
  have HNS := hid hns
  clear hg hse hns
  go_upto_region 11 with (first | (go_at_call 81; with_reducible refine (KS.out _).mono ?_; rintro e w5 ⟨rfl, rfl⟩))
  go_cut [114] (BWq (!g) W1)
  case first =>
   as_aux_lemma =>
   by_cases hd8 : d < 8
   rotate_left
   ·have hdI : (8 : Int) < (d : Int) + 1 := by omega
    have hdJ : (8 : Int) ≤ (d : Int) := by omega
    have HF := hid (show g = false from by rw [HG.out, decide_eq_false hd8]; rfl)
    clear HG
    go_wp2_with fail
    all_goals go_meet
    all_goals exact ⟨by rw [HF.out]; rfl, rfl⟩
   have hdI : ¬ (8 : Int) < (d : Int) + 1 := by omega
   have hdJ : ¬ (8 : Int) ≤ (d : Int) := by omega
   have HG2 := hid (show g = (nameB n && t.isEmpty && s.isEmpty && decide (pa.len = 0) && decide (1 ≤ ca.len) && decide (ca.len ≤ 20)) from by rw [HG.out, decide_eq_true hd8]; rfl)
   clear HG
   cases hnm : nameB n
   ·rw [hnm] at KN
    have HF := hid (show g = false from by rw [HG2.out, hnm]; rfl)
    clear HG2 hnm
    go_wp2_with (first | (go_at_call 80; with_reducible refine (KN.out _).mono ?_; rintro e w2 ⟨rfl, rfl⟩))
    all_goals go_meet
    all_goals exact ⟨by rw [HF.out]; rfl, rfl⟩
   rw [hnm] at KN
   have HG3 := hid (show g = (t.isEmpty && s.isEmpty && decide (pa.len = 0) && decide (1 ≤ ca.len) && decide (ca.len ≤ 20)) from by rw [HG2.out, hnm]; rfl)
   clear HG2 hnm
   go_wp2_with (first | (go_at_call 80; with_reducible refine (KN.out _).mono ?_; rintro e w2 ⟨rfl, rfl⟩))
   all_goals go_meet
   all_goals refine ⟨?_, rfl⟩
   all_goals first
    | (rw [HG3.out, decide_eq_false (show ¬ 1 ≤ ca.len from by omega)]; simp; done)
    | (have e1 : decide ((ca.len : Int) < 1) = false := by rw [decide_eq_false_iff_not]; omega
       have e2 : decide (20 < (ca.len : Int)) = !decide (ca.len ≤ 20) := by
        by_cases h : ca.len ≤ 20
        ·rw [decide_eq_true h, decide_eq_false (by omega)]; rfl
        ·rw [decide_eq_false h, decide_eq_true (by omega)]; rfl
       have e4 : decide (1 ≤ ca.len) = true := decide_eq_true (by omega)
       have q1 : t = [] := by assumption
       have q2 : s = [] := by assumption
       have q3 : pa.len = 0 := by assumption
       rw [HG3.out, e1, e2, e4, q1, q2, q3]; rfl)
    | (rw [HG3.out]; simp_all; done)
  case rest =>
  as_aux_lemma =>
  obtain ⟨rfl, rfl⟩ := hcut
  have HPG := hid (prt_g (c := c) HNS.out HG.out)
  cases g
  ·have hR0 : R = false := by rw [HR2.out, HPG.out]; rfl
   subst hR0
   go_wp2_with fail
   go_ret
   exact ⟨rfl, HW.out.trans HXP.out⟩
  obtain ⟨hd8, h20⟩ : d < 8 ∧ ca.len ≤ 20 := by
   have h := HG.out.symm
   simp only [Bool.and_eq_true, decide_eq_true_eq] at h
   exact ⟨h.1.1.1.1.1.1, h.2⟩
  obtain ⟨C, hC⟩ : ∃ C, C = (c || k != 9) := ⟨_, rfl⟩
  obtain ⟨RC, hRC⟩ : ∃ RC, RC = casB k.toNat (d + 1) C [] ca := ⟨_, rfl⟩
  have HR3 := hid (show R = (RC && decide (otherP ∈ ca.keys) && formB d c (ptK f (j + 1)) (fdrop f (j + 1))) from by rw [HR2.out, HPG.out, ← hC, ← hRC]; rfl)
  have HCD := hid hC
  have H1 := hid (show FmJ W1 k.toNat (d + 1) C RC ca (.slice none 0 0) (.int .i64 0) W1 from ⟨0, [], Nat.zero_le _, rfl, rfl, World.ownsRow_nil _ _ _ _, by rw [fdrop_zero]; exact hRC, by rw [fdrop_zero]; rfl, Ext.refl _⟩)
  have H20 := hid h20
  have HD8 := hid hd8
  obtain ⟨kc, hkc⟩ : ∃ kc, kc = (k == 7 || k == 8) := ⟨_, rfl⟩
  have K3 := hid (fun W => rcnt26_any k W)
  rw [← hkc] at K3
  have HKC := hid (show C = (c || kc) from by
   rw [hC, hkc]
   congr 1
   rcases HNS.out with rfl | rfl | rfl <;> rfl)
  clear hC hRC HPG HG HR2 hkc p0 p1 p2 p3 p4 p5 KP KQ KS KN h20 hd8
  go_wp2_with fail
  go_loopw [9, 10] (FmJ W1 k.toNat (d + 1) C RC ca) (fun _ i _ => ca.len - (intOf i).toNat)
  case atStart => exact H1.out
  case round =>
   obtain ⟨i, seen, hi, rfl, hsn, hl, hrc, hkeys, hw1⟩ := hrel
   obtain ⟨wi, rfl⟩ : ∃ wi : World, wi = wr := ⟨_, rfl⟩
   have HW1 := hid hw1
   rw [hsn] at hl
   have HL := hid hl
   obtain ⟨Al, cl, rfl, hsl⟩ := own_slN hl
   have HXI := hid (HXP.out.trans hw1)
   have HBI := hid (HB1.out.ext hw1)
   have h20 := H20.out
   have hsl9 : seen.length ≤ 1000000000 := by omega
   have hin : ∀ (x : By) (W : World), Ext wi W → Calls Tryz.prog 83 #[.slice Al i cl, .string ⟨x.toArray⟩] W fun e w' => e = .returned (.bool (decide (x ∈ seen))) ∧ W = w' := fun x W hW => by
    have h := rin26_any seen Al cl x W (by rw [hsn]; exact hsl.ext hW) hsl9
    rw [hsn] at h
    exact h
   have HIN0 := hid hin
   clear hin
   have p4 := HBI.out.cell 4 _ rfl
   by_cases hil : i < ca.len
   rotate_left
   ·have hiI : ¬ (i : Int) < (ca.len : Int) := by omega
    rw [fdrop_end ca i (by omega)] at hrc hkeys
    rw [casB] at hrc
    rw [F.keys, List.append_nil] at hkeys
    have HIN := hid (show Calls Tryz.prog 83 #[.slice Al i cl, .string ⟨#[111, 116, 104, 101, 114]⟩] wi fun e w' => e = .returned (.bool (decide (otherP ∈ seen))) ∧ wi = w' from HIN0.out otherP wi (Ext.refl _))
    rw [← hkeys] at HIN
    have HR4 := hid (show R = (decide (otherP ∈ ca.keys) && formB d c (ptK f (j + 1)) (fdrop f (j + 1))) from by rw [HR3.out, hrc]; simp)
    generalize decide (otherP ∈ ca.keys) = IO at HIN HR4
    clear hl hsl hw1 hrc hkeys HL HR3 H1 H20 h20 hsn hsl9 HIN0
    cases IO
    ·have hR0 : R = false := HR4.out
     subst hR0
     go_wp2_with (go_at_call 83; with_reducible refine HIN.out.mono ?_; rintro e w2 ⟨rfl, rfl⟩)
     go_ret
     exact ⟨rfl, HW.out.trans HXI.out⟩
    ·go_wp2_with (go_at_call 83; with_reducible refine HIN.out.mono ?_; rintro e w2 ⟨rfl, rfl⟩)
     exact ⟨⟨j + 1, hjl, by go_num, HR4.out, HW.out.trans HXI.out⟩, by simp [intOf]; omega⟩
   have hiI : (i : Int) < (ca.len : Int) := by omega
   obtain ⟨b', o', cc2, k', t', n', s', ca', pa', Ap', cp', hv', hbw', _, hdr', d0, d1, hPA'⟩ := (HCA.out.ext HXI.out).at_ hil
   injection hv' with hA' _ hcc'
   subst hA' hcc'
   have hcn' := (can_drop ca i).2 HCC.out
   rw [hdr'] at hcn'
   rw [hdr', cas_cons hcn'] at hrc
   rw [hdr', F.keys] at hkeys
   rw [CanC] at hcn'
   obtain ⟨_, _, _, _, hnl', hcp', _⟩ := hcn'
   have hn2' : pa'.nodes < N := by have h1 := fdrop_nodes ca i; rw [hdr', F.nodes] at h1; have := HNDC.out; omega
   obtain ⟨KB, hKB⟩ : ∃ KB, KB = keyB k.toNat n' := ⟨_, rfl⟩
   obtain ⟨IN, hIN⟩ : ∃ IN, IN = decide (n' ∈ seen) := ⟨_, rfl⟩
   obtain ⟨FB, hFB⟩ : ∃ FB, FB = formB (d + 1) C false pa' := ⟨_, rfl⟩
   rw [← hKB, ← hIN, ← hFB] at hrc
   obtain ⟨W7, hW7⟩ : ∃ W7, W7 = wi.alloc (.cells #[.string ⟨n'.toArray⟩, .slice Ap' pa'.len cp'] 106) := ⟨_, rfl⟩
   have HX7 := hid (show Ext wi W7 from by rw [hW7]; exact (Ext.refl wi).alloc _)
   have HB7 := hid (show AtC 106 W7 wi.heap.size #[.string ⟨n'.toArray⟩, .slice Ap' pa'.len cp'] from by rw [hW7]; exact AtC.new wi _)
   have K1 := hid (fun y : ExtW W7 => (show Calls Tryz.prog 82 #[.int .i64 k, .string ⟨n'.toArray⟩] y.v fun e w' => e = .returned (.bool KB) ∧ Ext y.v w' from by
    rw [hKB, ← key_eq k n' HNS.out]
    exact rkey_any k ⟨n'.toArray⟩ y.v hnl'))
   have K2 := hid (fun y : ExtW W7 => (show Calls Tryz.prog 83 #[.slice Al i cl, .string ⟨n'.toArray⟩] y.v fun e w' => e = .returned (.bool IN) ∧ y.v = w' from by
    rw [hIN]
    exact HIN0.out n' y.v (HX7.out.trans y.h)))
   have K4 := hid (fun y : ExtW W7 => (show Calls Tryz.prog 60 #[.slice Ap' pa'.len cp', .int .i64 ((d : Int) + 1 + 1), .bool C] y.v fun e w' => e = .returned (.bool FB) ∧ Ext y.v w' from by
    rw [hFB]
    exact hN pa' _ ok (d + 1) C y.v hn2' (by have := HNB.out; omega) (hPA'.ext (HX7.out.trans y.h)) hcp' (by have := HD8.out; omega)))
   have K3' := hid (fun y : ExtW W7 => K3.out y.v)
   have hwi : W1.heap.size ≤ wi.heap.size := Ext.size HW1.out
   have y0 : ∀ y : ExtW W7, y.v.cell? ⟨wi.heap.size, 0, none⟩ = some (.string ⟨n'.toArray⟩) := fun y => (HB7.out.ext y.h).cell 0 _ rfl
   have y1 : ∀ y : ExtW W7, y.v.cell? ⟨wi.heap.size, 1, none⟩ = some (.slice Ap' pa'.len cp') := fun y => (HB7.out.ext y.h).cell 1 _ rfl
   have z0 : ∀ y : ExtW W7, y.v.cell? ⟨wo.heap.size, 0, none⟩ = some (.int .i64 k) := fun y => (HBI.out.ext (HX7.out.trans y.h)).cell 0 _ rfl
   have HRC := hid hrc
   have HKEYS := hid hkeys
   have HSN := hid hsn
   have hdw : IntKind.i64.wrap ((d : Int) + 1 + 1) = (d : Int) + 1 + 1 := IntWalk.i64_in _ (by have := HD8.out; omega)
   clear hl hsl hw1 hrc hkeys hsn hKB hIN hFB hnl' hcp' hn2' hdr' hPA' H1 hsl9 HIN0
   go_upto_region 18 with (fail)
   rw [← hW7]
   clear hW7
   go_cut [152] (BXq (!(KB && !IN && FB)) W7)
   case first =>
    as_aux_lemma =>
    have HKC2 := HKC.out
    clear HR3 HRC HKEYS HKC HCD HL
    cases KB
    ·refine wp_region_ext (by kernel_rfl) (by kernel_rfl) ?_
     repeat (go_big_quiet_step (first | (go_at_call 82; with_reducible exact ExtW.call (K1.out _)) | (go_at_call 83; with_reducible exact ExtW.same (K2.out _)) | (go_at_call 84; with_reducible exact ExtW.same (K3'.out _)) | (go_at_call 60; with_reducible exact ExtW.call (K4.out _))))
     refine wpQuiet_nil ?_
     intro wx hx
     have HX8 := hid (show Ext W7 wx from by obtain ⟨y, hy⟩ := hx; rw [hy]; exact y.h)
     clear hx
     go_wp2
     go_meet
     exact ⟨rfl, HX8.out⟩
    cases IN
    rotate_left
    ·refine wp_region_ext (by kernel_rfl) (by kernel_rfl) ?_
     repeat (go_big_quiet_step (first | (go_at_call 82; with_reducible exact ExtW.call (K1.out _)) | (go_at_call 83; with_reducible exact ExtW.same (K2.out _)) | (go_at_call 84; with_reducible exact ExtW.same (K3'.out _)) | (go_at_call 60; with_reducible exact ExtW.call (K4.out _))))
     refine wpQuiet_nil ?_
     intro wx hx
     have HX8 := hid (show Ext W7 wx from by obtain ⟨y, hy⟩ := hx; rw [hy]; exact y.h)
     clear hx
     go_wp2
     go_meet
     exact ⟨rfl, HX8.out⟩
    have HKC3 := hid HKC2
    clear HKC2
    cases c
    ·have hC1 : C = kc := HKC3.out
     subst hC1
     clear HKC3
     refine wp_region_ext (by kernel_rfl) (by kernel_rfl) ?_
     repeat (go_big_quiet_step (first | (go_at_call 82; with_reducible exact ExtW.call (K1.out _)) | (go_at_call 83; with_reducible exact ExtW.same (K2.out _)) | (go_at_call 84; with_reducible exact ExtW.same (K3'.out _)) | (go_at_call 60; with_reducible exact ExtW.call (K4.out _))))
     refine wpQuiet_nil ?_
     intro wx hx
     have HX8 := hid (show Ext W7 wx from by obtain ⟨y, hy⟩ := hx; rw [hy]; exact y.h)
     clear hx
     go_wp2
     go_meet
     exact ⟨rfl, HX8.out⟩
    ·have hC1 : C = true := HKC3.out
     subst hC1
     clear HKC3
     refine wp_region_ext (by kernel_rfl) (by kernel_rfl) ?_
     repeat (go_big_quiet_step (first | (go_at_call 82; with_reducible exact ExtW.call (K1.out _)) | (go_at_call 83; with_reducible exact ExtW.same (K2.out _)) | (go_at_call 84; with_reducible exact ExtW.same (K3'.out _)) | (go_at_call 60; with_reducible exact ExtW.call (K4.out _))))
     refine wpQuiet_nil ?_
     intro wx hx
     have HX8 := hid (show Ext W7 wx from by obtain ⟨y, hy⟩ := hx; rw [hy]; exact y.h)
     clear hx
     go_wp2
     go_meet
     exact ⟨rfl, HX8.out⟩
   case rest =>
   as_aux_lemma =>
   obtain ⟨rfl, hx8⟩ := hcut
   have HX8 := hid hx8
   have HXF := hid (HXI.out.trans (HX7.out.trans hx8))
   have q0 := (HB7.out.ext hx8).cell 0 _ rfl
   clear hx8 y0 y1 z0 K1 K2 K3' K4
   cases hKB : KB
   ·have hR0 : R = false := by rw [HR3.out, HRC.out, hKB]; rfl
    subst hR0 hKB
    go_wp2_with fail
    go_ret
    exact ⟨rfl, HW.out.trans HXF.out⟩
   cases hIN : IN
   rotate_left
   ·have hR0 : R = false := by rw [HR3.out, HRC.out, hKB, hIN]; rfl
    subst hR0 hKB hIN
    go_wp2_with fail
    go_ret
    exact ⟨rfl, HW.out.trans HXF.out⟩
   cases hFB : FB
   ·have hR0 : R = false := by rw [HR3.out, HRC.out, hKB, hIN, hFB]; rfl
    subst hR0 hKB hIN hFB
    go_wp2_with fail
    go_ret
    exact ⟨rfl, HW.out.trans HXF.out⟩
   have HRC2 := hid (show RC = casB k.toNat (d + 1) C (seen ++ [n']) (fdrop ca (i + 1)) from by rw [HRC.out, hKB, hIN, hFB]; rfl)
   subst hKB hIN hFB
   have HXG := hid (HW1.out.trans (HX7.out.trans HX8.out))
   go_wp2_with (at_builtin; refine wpList_app _ rfl _ _ 44 rfl W1.heap.size 9 i0 _ 16 Tryz.underlying44 hi0 hz0 hz1 hz2 rfl _ i _ rfl ((own_ext HL.out (HX7.out.trans HX8.out)).alloc _) _ 1 _ [_] rfl (Sl.one _ _ _) (by simp [Value.oneCell']) (by unfold maxLen; omega) (by omega) (by have := Ext.size HXG.out; simp; omega) ?_; intro v9 w9 hown9 hgrow9; have HO9 := hid hown9; have HX9 := hid (ext_grown (a := W1) (HXG.out.alloc _) ((own_ext HL.out (HX7.out.trans HX8.out)).alloc _) (Nat.le_refl _) hgrow9); clear hown9 hgrow9)
   refine ⟨⟨_, v9, .int .i64 ((i : Int) + 1), ⟨i + 1, seen ++ [n'], hil, by go_num, by rw [List.length_append, HSN.out]; rfl, ?_, HRC2.out, by rw [HKEYS.out]; simp, HX9.out⟩, rfl, rfl, rfl⟩, by simp [intOf]; omega⟩
   rw [List.length_append, HSN.out]
   unfold strC
   rw [List.map_append]
   exact HO9.out
theorem rform_all : ∀ N, FmH N
 | 0 => fun f v ok d c w h => absurd h (Nat.not_lt_zero _)
 | N + 1 => form_step N (rform_all N)
theorem formed_any {f : F} {v : Value} {ok : Nat → Prop} (c : Bool) {w : World} (hF : FwS w ok f v) (hcan : Can f) (hn : f.nodes < 1000000000) :
 Calls Tryz.prog 60 #[v, .int .i64 1, .bool c] w fun e w' => e = .returned (.bool (formB 0 c false f)) ∧ Ext w w' :=
 rform_all (f.nodes + 1) f v ok 0 c w (Nat.lt_succ_self _) hn hF hcan (Nat.zero_le _)
end Go.Proofs.YtiijdojihleggaaGreatDoor
