import Derived.Test.YtblkpgglkhmggaaGreatDoorAw28
import Derived.Test.YtblkpgglkhmggaaGreatDoorMgK
namespace Go.Proofs.YtblkpgglkhmggaaGreatDoor.lawSignatureMerges
open Go.ChangeShapes Go.WideShapes Go.ChangeAt Go.RowKit
open Go.ChangeMaps (open_string shut_string)
set_option linter.unusedSimpArgs false
set_option linter.unusedVariables false


set_option maxRecDepth 100000 in
set_option maxHeartbeats 8000000 in
theorem law (a : List Ag) (A : Option Addr) (n na : Nat) (b : List Ag) (B : Option Addr) (m mb : Nat) (c : List Ag) (C : Option Addr) (k kc : Nat) (w : World) (hA : Ags w A n a) (hnA : n ≤ maxLen) (hzA : ∀ x ∈ a, x.n.size ≤ maxLen ∧ (Lit.int .i64 x.t).wf = true) (hB : Ags w B m b) (hnB : m ≤ maxLen) (hzB : ∀ x ∈ b, x.n.size ≤ maxLen ∧ (Lit.int .i64 x.t).wf = true) (hC : Ags w C k c) (hnC : k ≤ maxLen) (hzC : ∀ x ∈ c, x.n.size ≤ maxLen ∧ (Lit.int .i64 x.t).wf = true) :
    Calls Tryz.prog 4 #[.slice A n na, .slice B m mb, .slice C k kc] w (RetTrue w) := by
  have HA := Lib.hid hA
  have HB := Lib.hid hB
  have HC := Lib.hid hC
  have HZA := Lib.hid hzA
  have HZB := Lib.hid hzB
  have HZC := Lib.hid hzC
  have hva := fun W (h : Ext w W) => rvalid28_any a A n na W (HA.out.ext h) hnA (fun x hx => (HZA.out x hx).1)
  have hvb := fun W (h : Ext w W) => rvalid28_any b B m mb W (HB.out.ext h) hnB (fun x hx => (HZB.out x hx).1)
  have hvc := fun W (h : Ext w W) => rvalid28_any c C k kc W (HC.out.ext h) hnC (fun x hx => (HZC.out x hx).1)
  clear hA hB hC hzA hzB hzC
  cases qa : validA (a.map agOf)
  · rw [qa] at hva
    have HVa := Lib.hid hva
    clear hva hvb hvc qa
    go_enter Tryz.func4, Tryz.ntmps4
    go_wp2_with fail
    refine (awake_any _).mono ?_
    rintro e w1 ⟨rfl, hw1⟩
    have HW1 := Lib.hid ((Ext.refl w).trans hw1)
    clear hw1
    go_wp2_with fail
    refine (HVa.out _ HW1.out).mono ?_
    rintro e w2 ⟨rfl, hw2⟩
    have HW2 := Lib.hid (HW1.out.trans hw2)
    clear hw2
    go_wp2
    go_ret
    exact ⟨rfl, HW2.out⟩
  rw [qa] at hva
  cases qb : validA (b.map agOf)
  · rw [qb] at hvb
    have HVa := Lib.hid hva
    have HVb := Lib.hid hvb
    clear hva hvb hvc qa qb
    go_enter Tryz.func4, Tryz.ntmps4
    go_wp2_with fail
    refine (awake_any _).mono ?_
    rintro e w1 ⟨rfl, hw1⟩
    have HW1 := Lib.hid ((Ext.refl w).trans hw1)
    clear hw1
    go_wp2_with fail
    refine (HVa.out _ HW1.out).mono ?_
    rintro e w2 ⟨rfl, hw2⟩
    have HW2 := Lib.hid (HW1.out.trans hw2)
    clear hw2
    go_wp2_with fail
    refine (HVb.out _ HW2.out).mono ?_
    rintro e w3 ⟨rfl, hw3⟩
    have HW3 := Lib.hid (HW2.out.trans hw3)
    clear hw3
    go_wp2
    go_ret
    exact ⟨rfl, HW3.out⟩
  rw [qb] at hvb
  cases qc : validA (c.map agOf)
  · rw [qc] at hvc
    have HVa := Lib.hid hva
    have HVb := Lib.hid hvb
    have HVc := Lib.hid hvc
    clear hva hvb hvc qa qb qc
    go_enter Tryz.func4, Tryz.ntmps4
    go_wp2_with fail
    refine (awake_any _).mono ?_
    rintro e w1 ⟨rfl, hw1⟩
    have HW1 := Lib.hid ((Ext.refl w).trans hw1)
    clear hw1
    go_wp2_with fail
    refine (HVa.out _ HW1.out).mono ?_
    rintro e w2 ⟨rfl, hw2⟩
    have HW2 := Lib.hid (HW1.out.trans hw2)
    clear hw2
    go_wp2_with fail
    refine (HVb.out _ HW2.out).mono ?_
    rintro e w3 ⟨rfl, hw3⟩
    have HW3 := Lib.hid (HW2.out.trans hw3)
    clear hw3
    go_wp2_with fail
    refine (HVc.out _ HW3.out).mono ?_
    rintro e w4 ⟨rfl, hw4⟩
    have HW4 := Lib.hid (HW3.out.trans hw4)
    clear hw4
    go_wp2
    go_ret
    exact ⟨rfl, HW4.out⟩
  rw [qc] at hvc
  have HVa := Lib.hid hva
  have HVb := Lib.hid hvb
  have HVc := Lib.hid hvc
  clear hva hvb hvc
  have la := valid_map qa
  have lb := valid_map qb
  have lc := valid_map qc
  obtain ⟨M, hM⟩ : ∃ M, M = mergeA (a.map agOf) (b.map agOf) := ⟨_, rfl⟩
  obtain ⟨N, hN⟩ : ∃ N, N = mergeA (b.map agOf) (c.map agOf) := ⟨_, rfl⟩
  have hk1 := fun W (h : Ext w W) => tmerge_any a b A B n m na mb W (HA.out.ext h) (HB.out.ext h) hnA hnB HZA.out HZB.out
  have hk2 := fun W (h : Ext w W) => tmerge_any b a B A m n mb na W (HB.out.ext h) (HA.out.ext h) hnB hnA HZB.out HZA.out
  have hk3 := fun W (h : Ext w W) => tmerge_any a a A A n n na na W (HA.out.ext h) (HA.out.ext h) hnA hnA HZA.out HZA.out
  have hk4 := fun W (h : Ext w W) => tmerge_any [] a none A 0 n 0 na W (SlN.nil _ _ _) (HA.out.ext h) (Nat.zero_le _) hnA (by simp) HZA.out
  have hk5 := fun W (h : Ext w W) => tmerge_any b c B C m k mb kc W (HB.out.ext h) (HC.out.ext h) hnB hnC HZB.out HZC.out
  rw [← hM] at hk1
  rw [merge_comm, ← hM] at hk2
  simp only [merge_self qa] at hk3
  simp only [List.map_nil, merge_nil qa] at hk4
  rw [← hN] at hk5
  have HK1 := Lib.hid hk1
  have HK2 := Lib.hid hk2
  have HK3 := Lib.hid hk3
  have HK4 := Lib.hid hk4
  have HK5 := Lib.hid hk5
  have HML := Lib.hid (show M.1.length ≤ 20 from by rw [hM]; exact merge_len _ _)
  have HNL := Lib.hid (show N.1.length ≤ 20 from by rw [hN]; exact merge_len _ _)
  have HM0 := Lib.hid hM
  have HN0 := Lib.hid hN
  have HQA := Lib.hid qa
  have eqm : Hid (∀ (L : List ArgP) (A B : Option Addr) (n m c d : Nat) (W : World), L.length ≤ 20 → Ags W A n (L.map agP) → Ags W B m (L.map agP) → Calls Tryz.prog 13 #[.slice A n c, .slice B m d] W fun e w' => e = .returned (.bool true) ∧ Ext W w') := Lib.hid (fun L A B n m c d W hl h1 h2 => by
    have e1 := ags_len h1
    have e2 := ags_len h2
    have h := requal_any (L.map agP) (L.map agP) A B n m c d W h1 h2 (by unfold maxLen; omega) (by unfold maxLen; omega)
    rwa [show ((L.map agP).map agOf == (L.map agP).map agOf) = true from by simp] at h)
  have eqa : Hid (∀ (A2 : Option Addr) (n2 c2 : Nat) (W : World), Ext w W → Ags W A2 n2 ((a.map agOf).map agP) → Calls Tryz.prog 13 #[.slice A2 n2 c2, .slice A n na] W fun e w' => e = .returned (.bool true) ∧ Ext W w') := Lib.hid (fun A2 n2 c2 W hw h1 => by
    have e1 := ags_max2 la h1
    have h := requal_any ((a.map agOf).map agP) a A2 A n2 n c2 na W h1 (HA.out.ext hw) e1 hnA
    rwa [show (((a.map agOf).map agP).map agOf == a.map agOf) = true from by rw [agP_list]; simp] at h)
  clear hk1 hk2 hk3 hk4 hk5 hM hN qa qb qc
  obtain ⟨M1, e⟩ := M
  obtain ⟨N1, i⟩ := N
  simp only at HML HNL
  by_cases he : e = 0
  rotate_left
  · have hez : (e == 0) = false := by simpa using he
    go_enter Tryz.func4, Tryz.ntmps4
    go_wp2_with fail
    refine (awake_any _).mono ?_
    rintro e w1 ⟨rfl, hw1⟩
    have HW1 := Lib.hid ((Ext.refl w).trans hw1)
    clear hw1
    go_wp2_with fail
    refine (HVa.out _ HW1.out).mono ?_
    rintro e w2 ⟨rfl, hw2⟩
    have HW2 := Lib.hid (HW1.out.trans hw2)
    clear hw2
    go_wp2_with fail
    refine (HVb.out _ HW2.out).mono ?_
    rintro e w3 ⟨rfl, hw3⟩
    have HW3 := Lib.hid (HW2.out.trans hw3)
    clear hw3
    go_wp2_with fail
    refine (HVc.out _ HW3.out).mono ?_
    rintro e w4 ⟨rfl, hw4⟩
    have HW4 := Lib.hid (HW3.out.trans hw4)
    clear hw4
    go_wp2_with fail
    refine (HK1.out _ HW4.out).mono ?_
    rintro e w5 ⟨A1, n1, c1, rfl, hq5, hw5⟩
    have HW5 := Lib.hid (HW4.out.trans hw5)
    have HS1 := Lib.hid hq5
    have HM5 := Lib.hid hw5
    clear hw5 hq5
    simp only
    go_wp2_with fail
    refine (HK2.out _ HW5.out).mono ?_
    rintro e w6 ⟨A2, n2, c2, rfl, hq6, hw6⟩
    have HW6 := Lib.hid (HW5.out.trans hw6)
    have HS2 := Lib.hid hq6
    have HM6 := Lib.hid hw6
    clear hw6 hq6
    simp only
    go_wp2_with fail
    refine (HK3.out _ HW6.out).mono ?_
    rintro e w7 ⟨A3, n3, c3, rfl, hq7, hw7⟩
    have HW7 := Lib.hid (HW6.out.trans hw7)
    have HS3 := Lib.hid hq7
    have HM7 := Lib.hid hw7
    clear hw7 hq7
    simp only
    go_wp2_with fail
    refine (HK4.out _ HW7.out).mono ?_
    rintro e w8 ⟨A4, n4, c4, rfl, hq8, hw8⟩
    have HW8 := Lib.hid (HW7.out.trans hw8)
    have HS4 := Lib.hid hq8
    have HM8 := Lib.hid hw8
    clear hw8 hq8
    simp only
    go_wp2_with fail
    refine (eqm.out M1 _ _ _ _ _ _ _ HML.out (((HS1.out.ext HM6.out).ext HM7.out).ext HM8.out) ((HS2.out.ext HM7.out).ext HM8.out)).mono ?_
    rintro e w9 ⟨rfl, hw9⟩
    have HW9 := Lib.hid (HW8.out.trans hw9)
    have HQ1 := Lib.hid hw9
    clear hw9
    go_wp2_with fail
    refine (eqa.out _ _ _ _ HW9.out ((HS3.out.ext HM8.out).ext HQ1.out)).mono ?_
    rintro e w10 ⟨rfl, hw10⟩
    have HW10 := Lib.hid (HW9.out.trans hw10)
    have HQ2 := Lib.hid hw10
    clear hw10
    go_wp2_with fail
    refine (eqa.out _ _ _ _ HW10.out ((HS4.out.ext HQ1.out).ext HQ2.out)).mono ?_
    rintro e w11 ⟨rfl, hw11⟩
    have HW11 := Lib.hid (HW10.out.trans hw11)
    have HQ3 := Lib.hid hw11
    clear hw11
    go_wp2_with fail
    refine (HK5.out _ HW11.out).mono ?_
    rintro e w12 ⟨A5, n5, c5, rfl, hq12, hw12⟩
    have HW12 := Lib.hid (HW11.out.trans hw12)
    have HS5 := Lib.hid hq12
    have HM12 := Lib.hid hw12
    clear hw12 hq12
    simp only
    go_wp2
    go_ret
    exact ⟨by first | rfl | simp | simp [*], HW12.out⟩
  subst he
  by_cases hi : i = 0
  rotate_left
  · have hiz : (i == 0) = false := by simpa using hi
    go_enter Tryz.func4, Tryz.ntmps4
    go_wp2_with fail
    refine (awake_any _).mono ?_
    rintro e w1 ⟨rfl, hw1⟩
    have HW1 := Lib.hid ((Ext.refl w).trans hw1)
    clear hw1
    go_wp2_with fail
    refine (HVa.out _ HW1.out).mono ?_
    rintro e w2 ⟨rfl, hw2⟩
    have HW2 := Lib.hid (HW1.out.trans hw2)
    clear hw2
    go_wp2_with fail
    refine (HVb.out _ HW2.out).mono ?_
    rintro e w3 ⟨rfl, hw3⟩
    have HW3 := Lib.hid (HW2.out.trans hw3)
    clear hw3
    go_wp2_with fail
    refine (HVc.out _ HW3.out).mono ?_
    rintro e w4 ⟨rfl, hw4⟩
    have HW4 := Lib.hid (HW3.out.trans hw4)
    clear hw4
    go_wp2_with fail
    refine (HK1.out _ HW4.out).mono ?_
    rintro e w5 ⟨A1, n1, c1, rfl, hq5, hw5⟩
    have HW5 := Lib.hid (HW4.out.trans hw5)
    have HS1 := Lib.hid hq5
    have HM5 := Lib.hid hw5
    clear hw5 hq5
    simp only
    go_wp2_with fail
    refine (HK2.out _ HW5.out).mono ?_
    rintro e w6 ⟨A2, n2, c2, rfl, hq6, hw6⟩
    have HW6 := Lib.hid (HW5.out.trans hw6)
    have HS2 := Lib.hid hq6
    have HM6 := Lib.hid hw6
    clear hw6 hq6
    simp only
    go_wp2_with fail
    refine (HK3.out _ HW6.out).mono ?_
    rintro e w7 ⟨A3, n3, c3, rfl, hq7, hw7⟩
    have HW7 := Lib.hid (HW6.out.trans hw7)
    have HS3 := Lib.hid hq7
    have HM7 := Lib.hid hw7
    clear hw7 hq7
    simp only
    go_wp2_with fail
    refine (HK4.out _ HW7.out).mono ?_
    rintro e w8 ⟨A4, n4, c4, rfl, hq8, hw8⟩
    have HW8 := Lib.hid (HW7.out.trans hw8)
    have HS4 := Lib.hid hq8
    have HM8 := Lib.hid hw8
    clear hw8 hq8
    simp only
    go_wp2_with fail
    refine (eqm.out M1 _ _ _ _ _ _ _ HML.out (((HS1.out.ext HM6.out).ext HM7.out).ext HM8.out) ((HS2.out.ext HM7.out).ext HM8.out)).mono ?_
    rintro e w9 ⟨rfl, hw9⟩
    have HW9 := Lib.hid (HW8.out.trans hw9)
    have HQ1 := Lib.hid hw9
    clear hw9
    go_wp2_with fail
    refine (eqa.out _ _ _ _ HW9.out ((HS3.out.ext HM8.out).ext HQ1.out)).mono ?_
    rintro e w10 ⟨rfl, hw10⟩
    have HW10 := Lib.hid (HW9.out.trans hw10)
    have HQ2 := Lib.hid hw10
    clear hw10
    go_wp2_with fail
    refine (eqa.out _ _ _ _ HW10.out ((HS4.out.ext HQ1.out).ext HQ2.out)).mono ?_
    rintro e w11 ⟨rfl, hw11⟩
    have HW11 := Lib.hid (HW10.out.trans hw11)
    have HQ3 := Lib.hid hw11
    clear hw11
    go_wp2_with fail
    refine (HK5.out _ HW11.out).mono ?_
    rintro e w12 ⟨A5, n5, c5, rfl, hq12, hw12⟩
    have HW12 := Lib.hid (HW11.out.trans hw12)
    have HS5 := Lib.hid hq12
    have HM12 := Lib.hid hw12
    clear hw12 hq12
    simp only
    go_wp2
    go_ret
    exact ⟨by first | rfl | simp | simp [*], HW12.out⟩
  subst hi
  have hm0 : (mergeA (a.map agOf) (b.map agOf)).2 = 0 := by rw [← HM0.out]
  have hn0 : (mergeA (b.map agOf) (c.map agOf)).2 = 0 := by rw [← HN0.out]
  have hm1 : (mergeA (a.map agOf) (b.map agOf)).1 = M1 := by rw [← HM0.out]
  have hn1 : (mergeA (b.map agOf) (c.map agOf)).1 = N1 := by rw [← HN0.out]
  have hcv1 := merge_covers hm0
  have hcv2 := merge_covers2 hm0
  have hzm := merge_fit hm0
  have hzn := merge_fit hn0
  have has := fun h3 h4 => merge_assoc hm0 hn0 h3 h4
  rw [hm1] at hcv1 hcv2 hzm has
  rw [hn1] at hzn has
  obtain ⟨L, hL⟩ : ∃ L, L = mergeA M1 (c.map agOf) := ⟨_, rfl⟩
  obtain ⟨R, hR⟩ : ∃ R, R = mergeA (a.map agOf) N1 := ⟨_, rfl⟩
  have cov1 : Hid (∀ (A1 : Option Addr) (n1 c1 : Nat) (W : World), Ext w W → Ags W A1 n1 (M1.map agP) → Calls Tryz.prog 17 #[.slice A1 n1 c1, .slice A n na] W fun e w' => e = .returned (.bool true) ∧ Ext W w') := Lib.hid (fun A1 n1 c1 W hw h1 => by
    have e1 := ags_len h1
    have e2 := HML.out
    have h := tcovers_any (M1.map agP) a A1 A n1 n c1 na W h1 (HA.out.ext hw) (by unfold maxLen; omega) hnA (fun x hx => (hzm x hx).1) (fun x hx => (HZA.out x hx).1)
    rwa [agP_list, hcv1] at h)
  have cov2 : Hid (∀ (A1 : Option Addr) (n1 c1 : Nat) (W : World), Ext w W → Ags W A1 n1 (M1.map agP) → Calls Tryz.prog 17 #[.slice A1 n1 c1, .slice B m mb] W fun e w' => e = .returned (.bool true) ∧ Ext W w') := Lib.hid (fun A1 n1 c1 W hw h1 => by
    have e1 := ags_len h1
    have e2 := HML.out
    have h := tcovers_any (M1.map agP) b A1 B n1 m c1 mb W h1 (HB.out.ext hw) (by unfold maxLen; omega) hnB (fun x hx => (hzm x hx).1) (fun x hx => (HZB.out x hx).1)
    rwa [agP_list, hcv2] at h)
  have mL : Hid (∀ (A1 : Option Addr) (n1 c1 : Nat) (W : World), Ext w W → Ags W A1 n1 (M1.map agP) → Calls Tryz.prog 16 #[.slice A1 n1 c1, .slice C k kc] W (RetMg W L)) := Lib.hid (fun A1 n1 c1 W hw h1 => by
    have e1 := ags_len h1
    have e2 := HML.out
    have h := tmerge_any (M1.map agP) c A1 C n1 k c1 kc W h1 (HC.out.ext hw) (by unfold maxLen; omega) hnC hzm HZC.out
    rwa [agP_list, ← hL] at h)
  have mR : Hid (∀ (A1 : Option Addr) (n1 c1 : Nat) (W : World), Ext w W → Ags W A1 n1 (N1.map agP) → Calls Tryz.prog 16 #[.slice A n na, .slice A1 n1 c1] W (RetMg W R)) := Lib.hid (fun A1 n1 c1 W hw h1 => by
    have e1 := ags_len h1
    have e2 := HNL.out
    have h := tmerge_any a (N1.map agP) A A1 n n1 na c1 W (HA.out.ext hw) h1 hnA (by unfold maxLen; omega) HZA.out hzn
    rwa [agP_list, ← hR] at h)
  have HLL := Lib.hid (show L.1.length ≤ 20 from by rw [hL]; exact merge_len _ _)
  rw [← hL, ← hR] at has
  clear hcv1 hcv2 hzm hzn hL hR hm0 hn0 hm1 hn1
  obtain ⟨L1, j⟩ := L
  obtain ⟨R1, q⟩ := R
  simp only at HLL has
  by_cases hj : j = 0
  rotate_left
  · have hjz : (j == 0) = false := by simpa using hj
    go_enter Tryz.func4, Tryz.ntmps4
    go_wp2_with fail
    refine (awake_any _).mono ?_
    rintro e w1 ⟨rfl, hw1⟩
    have HW1 := Lib.hid ((Ext.refl w).trans hw1)
    clear hw1
    go_wp2_with fail
    refine (HVa.out _ HW1.out).mono ?_
    rintro e w2 ⟨rfl, hw2⟩
    have HW2 := Lib.hid (HW1.out.trans hw2)
    clear hw2
    go_wp2_with fail
    refine (HVb.out _ HW2.out).mono ?_
    rintro e w3 ⟨rfl, hw3⟩
    have HW3 := Lib.hid (HW2.out.trans hw3)
    clear hw3
    go_wp2_with fail
    refine (HVc.out _ HW3.out).mono ?_
    rintro e w4 ⟨rfl, hw4⟩
    have HW4 := Lib.hid (HW3.out.trans hw4)
    clear hw4
    go_wp2_with fail
    refine (HK1.out _ HW4.out).mono ?_
    rintro e w5 ⟨A1, n1, c1, rfl, hq5, hw5⟩
    have HW5 := Lib.hid (HW4.out.trans hw5)
    have HS1 := Lib.hid hq5
    have HM5 := Lib.hid hw5
    clear hw5 hq5
    simp only
    go_wp2_with fail
    refine (HK2.out _ HW5.out).mono ?_
    rintro e w6 ⟨A2, n2, c2, rfl, hq6, hw6⟩
    have HW6 := Lib.hid (HW5.out.trans hw6)
    have HS2 := Lib.hid hq6
    have HM6 := Lib.hid hw6
    clear hw6 hq6
    simp only
    go_wp2_with fail
    refine (HK3.out _ HW6.out).mono ?_
    rintro e w7 ⟨A3, n3, c3, rfl, hq7, hw7⟩
    have HW7 := Lib.hid (HW6.out.trans hw7)
    have HS3 := Lib.hid hq7
    have HM7 := Lib.hid hw7
    clear hw7 hq7
    simp only
    go_wp2_with fail
    refine (HK4.out _ HW7.out).mono ?_
    rintro e w8 ⟨A4, n4, c4, rfl, hq8, hw8⟩
    have HW8 := Lib.hid (HW7.out.trans hw8)
    have HS4 := Lib.hid hq8
    have HM8 := Lib.hid hw8
    clear hw8 hq8
    simp only
    go_wp2_with fail
    refine (eqm.out M1 _ _ _ _ _ _ _ HML.out (((HS1.out.ext HM6.out).ext HM7.out).ext HM8.out) ((HS2.out.ext HM7.out).ext HM8.out)).mono ?_
    rintro e w9 ⟨rfl, hw9⟩
    have HW9 := Lib.hid (HW8.out.trans hw9)
    have HQ1 := Lib.hid hw9
    clear hw9
    go_wp2_with fail
    refine (eqa.out _ _ _ _ HW9.out ((HS3.out.ext HM8.out).ext HQ1.out)).mono ?_
    rintro e w10 ⟨rfl, hw10⟩
    have HW10 := Lib.hid (HW9.out.trans hw10)
    have HQ2 := Lib.hid hw10
    clear hw10
    go_wp2_with fail
    refine (eqa.out _ _ _ _ HW10.out ((HS4.out.ext HQ1.out).ext HQ2.out)).mono ?_
    rintro e w11 ⟨rfl, hw11⟩
    have HW11 := Lib.hid (HW10.out.trans hw11)
    have HQ3 := Lib.hid hw11
    clear hw11
    go_wp2_with fail
    refine (HK5.out _ HW11.out).mono ?_
    rintro e w12 ⟨A5, n5, c5, rfl, hq12, hw12⟩
    have HW12 := Lib.hid (HW11.out.trans hw12)
    have HS5 := Lib.hid hq12
    have HM12 := Lib.hid hw12
    clear hw12 hq12
    simp only
    go_wp2_with fail
    refine (cov1.out _ _ _ _ HW12.out ((((((HS1.out.ext HM6.out).ext HM7.out).ext HM8.out).ext HQ1.out).ext (HQ2.out.trans HQ3.out)).ext HM12.out)).mono ?_
    rintro e w13 ⟨rfl, hw13⟩
    have HW13 := Lib.hid (HW12.out.trans hw13)
    have HQ4 := Lib.hid hw13
    clear hw13
    go_wp2_with fail
    refine (cov2.out _ _ _ _ HW13.out (((((((HS1.out.ext HM6.out).ext HM7.out).ext HM8.out).ext HQ1.out).ext (HQ2.out.trans HQ3.out)).ext HM12.out).ext HQ4.out)).mono ?_
    rintro e w14 ⟨rfl, hw14⟩
    have HW14 := Lib.hid (HW13.out.trans hw14)
    have HQ5 := Lib.hid hw14
    clear hw14
    go_wp2_with fail
    refine (mL.out _ _ _ _ HW14.out ((((((((HS1.out.ext HM6.out).ext HM7.out).ext HM8.out).ext HQ1.out).ext (HQ2.out.trans HQ3.out)).ext HM12.out).ext HQ4.out).ext HQ5.out)).mono ?_
    rintro e w15 ⟨A6, n6, c6, rfl, hq15, hw15⟩
    have HW15 := Lib.hid (HW14.out.trans hw15)
    have HS6 := Lib.hid hq15
    have HM15 := Lib.hid hw15
    clear hw15 hq15
    simp only
    go_wp2_with fail
    refine (mR.out _ _ _ _ HW15.out (((HS5.out.ext HQ4.out).ext HQ5.out).ext HM15.out)).mono ?_
    rintro e w16 ⟨A7, n7, c7, rfl, hq16, hw16⟩
    have HW16 := Lib.hid (HW15.out.trans hw16)
    have HS7 := Lib.hid hq16
    have HM16 := Lib.hid hw16
    clear hw16 hq16
    simp only
    go_wp2
    go_ret
    exact ⟨by first | rfl | simp | simp [*], HW16.out⟩
  subst hj
  by_cases hq : q = 0
  rotate_left
  · have hqz : (q == 0) = false := by simpa using hq
    go_enter Tryz.func4, Tryz.ntmps4
    go_wp2_with fail
    refine (awake_any _).mono ?_
    rintro e w1 ⟨rfl, hw1⟩
    have HW1 := Lib.hid ((Ext.refl w).trans hw1)
    clear hw1
    go_wp2_with fail
    refine (HVa.out _ HW1.out).mono ?_
    rintro e w2 ⟨rfl, hw2⟩
    have HW2 := Lib.hid (HW1.out.trans hw2)
    clear hw2
    go_wp2_with fail
    refine (HVb.out _ HW2.out).mono ?_
    rintro e w3 ⟨rfl, hw3⟩
    have HW3 := Lib.hid (HW2.out.trans hw3)
    clear hw3
    go_wp2_with fail
    refine (HVc.out _ HW3.out).mono ?_
    rintro e w4 ⟨rfl, hw4⟩
    have HW4 := Lib.hid (HW3.out.trans hw4)
    clear hw4
    go_wp2_with fail
    refine (HK1.out _ HW4.out).mono ?_
    rintro e w5 ⟨A1, n1, c1, rfl, hq5, hw5⟩
    have HW5 := Lib.hid (HW4.out.trans hw5)
    have HS1 := Lib.hid hq5
    have HM5 := Lib.hid hw5
    clear hw5 hq5
    simp only
    go_wp2_with fail
    refine (HK2.out _ HW5.out).mono ?_
    rintro e w6 ⟨A2, n2, c2, rfl, hq6, hw6⟩
    have HW6 := Lib.hid (HW5.out.trans hw6)
    have HS2 := Lib.hid hq6
    have HM6 := Lib.hid hw6
    clear hw6 hq6
    simp only
    go_wp2_with fail
    refine (HK3.out _ HW6.out).mono ?_
    rintro e w7 ⟨A3, n3, c3, rfl, hq7, hw7⟩
    have HW7 := Lib.hid (HW6.out.trans hw7)
    have HS3 := Lib.hid hq7
    have HM7 := Lib.hid hw7
    clear hw7 hq7
    simp only
    go_wp2_with fail
    refine (HK4.out _ HW7.out).mono ?_
    rintro e w8 ⟨A4, n4, c4, rfl, hq8, hw8⟩
    have HW8 := Lib.hid (HW7.out.trans hw8)
    have HS4 := Lib.hid hq8
    have HM8 := Lib.hid hw8
    clear hw8 hq8
    simp only
    go_wp2_with fail
    refine (eqm.out M1 _ _ _ _ _ _ _ HML.out (((HS1.out.ext HM6.out).ext HM7.out).ext HM8.out) ((HS2.out.ext HM7.out).ext HM8.out)).mono ?_
    rintro e w9 ⟨rfl, hw9⟩
    have HW9 := Lib.hid (HW8.out.trans hw9)
    have HQ1 := Lib.hid hw9
    clear hw9
    go_wp2_with fail
    refine (eqa.out _ _ _ _ HW9.out ((HS3.out.ext HM8.out).ext HQ1.out)).mono ?_
    rintro e w10 ⟨rfl, hw10⟩
    have HW10 := Lib.hid (HW9.out.trans hw10)
    have HQ2 := Lib.hid hw10
    clear hw10
    go_wp2_with fail
    refine (eqa.out _ _ _ _ HW10.out ((HS4.out.ext HQ1.out).ext HQ2.out)).mono ?_
    rintro e w11 ⟨rfl, hw11⟩
    have HW11 := Lib.hid (HW10.out.trans hw11)
    have HQ3 := Lib.hid hw11
    clear hw11
    go_wp2_with fail
    refine (HK5.out _ HW11.out).mono ?_
    rintro e w12 ⟨A5, n5, c5, rfl, hq12, hw12⟩
    have HW12 := Lib.hid (HW11.out.trans hw12)
    have HS5 := Lib.hid hq12
    have HM12 := Lib.hid hw12
    clear hw12 hq12
    simp only
    go_wp2_with fail
    refine (cov1.out _ _ _ _ HW12.out ((((((HS1.out.ext HM6.out).ext HM7.out).ext HM8.out).ext HQ1.out).ext (HQ2.out.trans HQ3.out)).ext HM12.out)).mono ?_
    rintro e w13 ⟨rfl, hw13⟩
    have HW13 := Lib.hid (HW12.out.trans hw13)
    have HQ4 := Lib.hid hw13
    clear hw13
    go_wp2_with fail
    refine (cov2.out _ _ _ _ HW13.out (((((((HS1.out.ext HM6.out).ext HM7.out).ext HM8.out).ext HQ1.out).ext (HQ2.out.trans HQ3.out)).ext HM12.out).ext HQ4.out)).mono ?_
    rintro e w14 ⟨rfl, hw14⟩
    have HW14 := Lib.hid (HW13.out.trans hw14)
    have HQ5 := Lib.hid hw14
    clear hw14
    go_wp2_with fail
    refine (mL.out _ _ _ _ HW14.out ((((((((HS1.out.ext HM6.out).ext HM7.out).ext HM8.out).ext HQ1.out).ext (HQ2.out.trans HQ3.out)).ext HM12.out).ext HQ4.out).ext HQ5.out)).mono ?_
    rintro e w15 ⟨A6, n6, c6, rfl, hq15, hw15⟩
    have HW15 := Lib.hid (HW14.out.trans hw15)
    have HS6 := Lib.hid hq15
    have HM15 := Lib.hid hw15
    clear hw15 hq15
    simp only
    go_wp2_with fail
    refine (mR.out _ _ _ _ HW15.out (((HS5.out.ext HQ4.out).ext HQ5.out).ext HM15.out)).mono ?_
    rintro e w16 ⟨A7, n7, c7, rfl, hq16, hw16⟩
    have HW16 := Lib.hid (HW15.out.trans hw16)
    have HS7 := Lib.hid hq16
    have HM16 := Lib.hid hw16
    clear hw16 hq16
    simp only
    go_wp2
    go_ret
    exact ⟨by first | rfl | simp | simp [*], HW16.out⟩
  subst hq
  obtain rfl : L1 = R1 := has (by first | exact rfl | trivial) (by first | exact rfl | trivial)
  go_enter Tryz.func4, Tryz.ntmps4
  go_wp2_with fail
  refine (awake_any _).mono ?_
  rintro e w1 ⟨rfl, hw1⟩
  have HW1 := Lib.hid ((Ext.refl w).trans hw1)
  clear hw1
  go_wp2_with fail
  refine (HVa.out _ HW1.out).mono ?_
  rintro e w2 ⟨rfl, hw2⟩
  have HW2 := Lib.hid (HW1.out.trans hw2)
  clear hw2
  go_wp2_with fail
  refine (HVb.out _ HW2.out).mono ?_
  rintro e w3 ⟨rfl, hw3⟩
  have HW3 := Lib.hid (HW2.out.trans hw3)
  clear hw3
  go_wp2_with fail
  refine (HVc.out _ HW3.out).mono ?_
  rintro e w4 ⟨rfl, hw4⟩
  have HW4 := Lib.hid (HW3.out.trans hw4)
  clear hw4
  go_wp2_with fail
  refine (HK1.out _ HW4.out).mono ?_
  rintro e w5 ⟨A1, n1, c1, rfl, hq5, hw5⟩
  have HW5 := Lib.hid (HW4.out.trans hw5)
  have HS1 := Lib.hid hq5
  have HM5 := Lib.hid hw5
  clear hw5 hq5
  simp only
  go_wp2_with fail
  refine (HK2.out _ HW5.out).mono ?_
  rintro e w6 ⟨A2, n2, c2, rfl, hq6, hw6⟩
  have HW6 := Lib.hid (HW5.out.trans hw6)
  have HS2 := Lib.hid hq6
  have HM6 := Lib.hid hw6
  clear hw6 hq6
  simp only
  go_wp2_with fail
  refine (HK3.out _ HW6.out).mono ?_
  rintro e w7 ⟨A3, n3, c3, rfl, hq7, hw7⟩
  have HW7 := Lib.hid (HW6.out.trans hw7)
  have HS3 := Lib.hid hq7
  have HM7 := Lib.hid hw7
  clear hw7 hq7
  simp only
  go_wp2_with fail
  refine (HK4.out _ HW7.out).mono ?_
  rintro e w8 ⟨A4, n4, c4, rfl, hq8, hw8⟩
  have HW8 := Lib.hid (HW7.out.trans hw8)
  have HS4 := Lib.hid hq8
  have HM8 := Lib.hid hw8
  clear hw8 hq8
  simp only
  go_wp2_with fail
  refine (eqm.out M1 _ _ _ _ _ _ _ HML.out (((HS1.out.ext HM6.out).ext HM7.out).ext HM8.out) ((HS2.out.ext HM7.out).ext HM8.out)).mono ?_
  rintro e w9 ⟨rfl, hw9⟩
  have HW9 := Lib.hid (HW8.out.trans hw9)
  have HQ1 := Lib.hid hw9
  clear hw9
  go_wp2_with fail
  refine (eqa.out _ _ _ _ HW9.out ((HS3.out.ext HM8.out).ext HQ1.out)).mono ?_
  rintro e w10 ⟨rfl, hw10⟩
  have HW10 := Lib.hid (HW9.out.trans hw10)
  have HQ2 := Lib.hid hw10
  clear hw10
  go_wp2_with fail
  refine (eqa.out _ _ _ _ HW10.out ((HS4.out.ext HQ1.out).ext HQ2.out)).mono ?_
  rintro e w11 ⟨rfl, hw11⟩
  have HW11 := Lib.hid (HW10.out.trans hw11)
  have HQ3 := Lib.hid hw11
  clear hw11
  go_wp2_with fail
  refine (HK5.out _ HW11.out).mono ?_
  rintro e w12 ⟨A5, n5, c5, rfl, hq12, hw12⟩
  have HW12 := Lib.hid (HW11.out.trans hw12)
  have HS5 := Lib.hid hq12
  have HM12 := Lib.hid hw12
  clear hw12 hq12
  simp only
  go_wp2_with fail
  refine (cov1.out _ _ _ _ HW12.out ((((((HS1.out.ext HM6.out).ext HM7.out).ext HM8.out).ext HQ1.out).ext (HQ2.out.trans HQ3.out)).ext HM12.out)).mono ?_
  rintro e w13 ⟨rfl, hw13⟩
  have HW13 := Lib.hid (HW12.out.trans hw13)
  have HQ4 := Lib.hid hw13
  clear hw13
  go_wp2_with fail
  refine (cov2.out _ _ _ _ HW13.out (((((((HS1.out.ext HM6.out).ext HM7.out).ext HM8.out).ext HQ1.out).ext (HQ2.out.trans HQ3.out)).ext HM12.out).ext HQ4.out)).mono ?_
  rintro e w14 ⟨rfl, hw14⟩
  have HW14 := Lib.hid (HW13.out.trans hw14)
  have HQ5 := Lib.hid hw14
  clear hw14
  go_wp2_with fail
  refine (mL.out _ _ _ _ HW14.out ((((((((HS1.out.ext HM6.out).ext HM7.out).ext HM8.out).ext HQ1.out).ext (HQ2.out.trans HQ3.out)).ext HM12.out).ext HQ4.out).ext HQ5.out)).mono ?_
  rintro e w15 ⟨A6, n6, c6, rfl, hq15, hw15⟩
  have HW15 := Lib.hid (HW14.out.trans hw15)
  have HS6 := Lib.hid hq15
  have HM15 := Lib.hid hw15
  clear hw15 hq15
  simp only
  go_wp2_with fail
  refine (mR.out _ _ _ _ HW15.out (((HS5.out.ext HQ4.out).ext HQ5.out).ext HM15.out)).mono ?_
  rintro e w16 ⟨A7, n7, c7, rfl, hq16, hw16⟩
  have HW16 := Lib.hid (HW15.out.trans hw16)
  have HS7 := Lib.hid hq16
  have HM16 := Lib.hid hw16
  clear hw16 hq16
  simp only
  go_wp2_with fail
  refine (eqm.out L1 _ _ _ _ _ _ _ HLL.out (HS6.out.ext HM16.out) HS7.out).mono ?_
  rintro e w17 ⟨rfl, hw17⟩
  have HW17 := Lib.hid (HW16.out.trans hw17)
  clear hw17
  go_wp2
  go_ret
  exact ⟨by first | rfl | simp | simp [*], HW17.out⟩

end Go.Proofs.YtblkpgglkhmggaaGreatDoor.lawSignatureMerges
