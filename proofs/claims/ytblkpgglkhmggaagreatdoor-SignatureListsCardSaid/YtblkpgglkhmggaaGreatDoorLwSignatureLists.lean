import Derived.Test.YtblkpgglkhmggaaGreatDoorAw28
import Derived.Test.YtblkpgglkhmggaaGreatDoorMgK
import Derived.Test.YtblkpgglkhmggaaGreatDoorUc
import Derived.Test.YtblkpgglkhmggaaGreatDoorSj
import Derived.Test.YtblkpgglkhmggaaGreatDoorArr
namespace Go.Proofs.YtblkpgglkhmggaaGreatDoor.lawSignatureLists
open Go.ChangeShapes Go.WideShapes Go.ChangeAt Go.RowKit
set_option linter.unusedSimpArgs false
set_option linter.unusedVariables false

set_option maxRecDepth 100000 in
set_option maxHeartbeats 8000000 in
theorem law (a : List Ag) (A : Option Addr) (n na : Nat) (b : List Ag) (B : Option Addr) (m mb : Nat) (t0 t1 : Int) (w : World) (hA : Ags w A n a) (hnA : n ≤ maxLen) (hzA : ∀ x ∈ a, x.n.size ≤ maxLen ∧ (Lit.int .i64 x.t).wf = true) (hB : Ags w B m b) (hnB : m ≤ maxLen) (hzB : ∀ x ∈ b, x.n.size ≤ maxLen ∧ (Lit.int .i64 x.t).wf = true) :
    Calls Tryz.prog 8 #[.slice A n na, .slice B m mb, .agg #[.int .i64 t0, .int .i64 t1]] w (RetTrue w) := by
  have HA := Lib.hid hA
  have HB := Lib.hid hB
  have HZA := Lib.hid hzA
  have HZB := Lib.hid hzB
  obtain ⟨w0, hw0⟩ : ∃ w0, w0 = w.alloc (.cells #[.int .i64 t0, .int .i64 t1] 53) := ⟨_, rfl⟩
  have HX := Lib.hid (show Ext w w0 from by rw [hw0]; exact (Ext.refl w).alloc _)
  have HG := Lib.hid (show AtC 53 w0 w.heap.size #[.int .i64 t0, .int .i64 t1] from by rw [hw0]; exact AtC.new w _)
  have HW00 := Lib.hid hw0
  have hfa := fun W (h : Ext w0 W) => fewa_any a A n na W (HA.out.ext (HX.out.trans h)) hnA
  have hfb := fun W (h : Ext w0 W) => fewa_any b B m mb W (HB.out.ext (HX.out.trans h)) hnB
  clear hA hB hzA hzB
  cases qa : fewA a
  · rw [qa] at hfa
    have HFA := Lib.hid hfa
    clear hfa hfb qa
    go_enter Tryz.func8, Tryz.ntmps8
    go_wp2_with fail
    rw [← hw0]
    clear hw0
    refine (awake_any _).mono ?_
    rintro e w1 ⟨rfl, hw1⟩
    have HW1 := Lib.hid hw1
    clear hw1
    go_wp2_with fail
    refine (HFA.out _ HW1.out).mono ?_
    rintro e w2 ⟨rfl, hw2⟩
    have HW2 := Lib.hid (HX.out.trans (HW1.out.trans hw2))
    clear hw2
    go_wp2
    go_ret
    exact ⟨rfl, HW2.out⟩
  rw [qa] at hfa
  have HFA := Lib.hid hfa
  cases qb : fewA b
  · rw [qb] at hfb
    have HFB := Lib.hid hfb
    clear hfa hfb qa qb
    go_enter Tryz.func8, Tryz.ntmps8
    go_wp2_with fail
    rw [← hw0]
    clear hw0
    refine (awake_any _).mono ?_
    rintro e w1 ⟨rfl, hw1⟩
    have HW1 := Lib.hid hw1
    clear hw1
    go_wp2_with fail
    refine (HFA.out _ HW1.out).mono ?_
    rintro e w2 ⟨rfl, hw2⟩
    have HW2 := Lib.hid (HW1.out.trans hw2)
    clear hw2
    go_wp2_with fail
    refine (HFB.out _ HW2.out).mono ?_
    rintro e w3 ⟨rfl, hw3⟩
    have HW3 := Lib.hid (HX.out.trans (HW2.out.trans hw3))
    clear hw3
    go_wp2
    go_ret
    exact ⟨rfl, HW3.out⟩
  rw [qb] at hfb
  have HFB := Lib.hid hfb
  obtain ⟨M, hM⟩ : ∃ M, M = mergeA (a.map agOf) (b.map agOf) := ⟨_, rfl⟩
  obtain ⟨C, hC⟩ : ∃ C, C = comA t0 t1 := ⟨_, rfl⟩
  obtain ⟨V, hV⟩ : ∃ V, V = validA (a.map agOf) := ⟨_, rfl⟩
  obtain ⟨E, hE⟩ : ∃ E, E = (a.map agOf == b.map agOf) := ⟨_, rfl⟩
  obtain ⟨D, hD⟩ : ∃ D, D = coversA (a.map agOf) (b.map agOf) := ⟨_, rfl⟩
  have k1 := fun W (h : Ext w0 W) => tmerge_any a b A B n m na mb W (HA.out.ext (HX.out.trans h)) (HB.out.ext (HX.out.trans h)) hnA hnB HZA.out HZB.out
  have k2 := fun W (h : Ext w0 W) => rmerge28_any a b A B n m na mb W (HA.out.ext (HX.out.trans h)) (HB.out.ext (HX.out.trans h)) hnA hnB (fun x hx => (HZA.out x hx).1) (fun x hx => (HZB.out x hx).1)
  have k3 := fun W => com_any t0 t1 W
  have k4 := fun W => rcom_any t0 t1 W
  have k5 := fun W (h : Ext w0 W) => tvalid28_any a A n na W (HA.out.ext (HX.out.trans h)) hnA (fun x hx => (HZA.out x hx).1)
  have k6 := fun W (h : Ext w0 W) => rvalid28_any a A n na W (HA.out.ext (HX.out.trans h)) hnA (fun x hx => (HZA.out x hx).1)
  have k7 := fun W (h : Ext w0 W) => tequal_any a b A B n m na mb W (HA.out.ext (HX.out.trans h)) (HB.out.ext (HX.out.trans h)) hnA hnB
  have k8 := fun W (h : Ext w0 W) => requal_any a b A B n m na mb W (HA.out.ext (HX.out.trans h)) (HB.out.ext (HX.out.trans h)) hnA hnB
  have k9 := fun W (h : Ext w0 W) => tequal_any a a A A n n na na W (HA.out.ext (HX.out.trans h)) (HA.out.ext (HX.out.trans h)) hnA hnA
  have k10 := fun W (h : Ext w0 W) => tcovers_any a b A B n m na mb W (HA.out.ext (HX.out.trans h)) (HB.out.ext (HX.out.trans h)) hnA hnB (fun x hx => (HZA.out x hx).1) (fun x hx => (HZB.out x hx).1)
  have k11 := fun W (h : Ext w0 W) => rcovers_any a b A B n m na mb W (HA.out.ext (HX.out.trans h)) (HB.out.ext (HX.out.trans h)) hnA hnB (fun x hx => (HZA.out x hx).1) (fun x hx => (HZB.out x hx).1)
  rw [← hM] at k1 k2
  rw [← hC] at k3 k4
  rw [← hV] at k5 k6
  rw [← hE] at k7 k8
  rw [show (a.map agOf == a.map agOf) = true from by simp] at k9
  rw [← hD] at k10 k11
  have HML := Lib.hid (show M.1.length ≤ 20 from by rw [hM]; exact merge_len _ _)
  clear hM hC hV hE hD
  obtain ⟨M1, Me⟩ := M
  obtain ⟨C1, C2⟩ := C
  simp only at HML k3 k4
  have K1 := Lib.hid k1
  have K2 := Lib.hid k2
  have K3 := Lib.hid k3
  have K4 := Lib.hid k4
  have K5 := Lib.hid k5
  have K6 := Lib.hid k6
  have K7 := Lib.hid k7
  have K8 := Lib.hid k8
  have K9 := Lib.hid k9
  have K10 := Lib.hid k10
  have K11 := Lib.hid k11
  have eqm : Hid (∀ (A B : Option Addr) (n m c d : Nat) (W : World), Ags W A n (M1.map agP) → Ags W B m (M1.map agP) → Calls Tryz.prog 13 #[.slice A n c, .slice B m d] W fun e w' => e = .returned (.bool true) ∧ Ext W w') := Lib.hid (fun A B n m c d W h1 h2 => by
    have e1 := ags_len h1
    have e2 := ags_len h2
    have hl := HML.out
    have h := requal_any (M1.map agP) (M1.map agP) A B n m c d W h1 h2 (by unfold maxLen; omega) (by unfold maxLen; omega)
    rwa [show ((M1.map agP).map agOf == (M1.map agP).map agOf) = true from by simp] at h)
  clear k1 k2 k3 k4 k5 k6 k7 k8 k9 k10 k11 hfa hfb qa qb
  go_enter Tryz.func8, Tryz.ntmps8
  go_wp2_with fail
  rw [← hw0]
  clear hw0
  refine (awake_any _).mono ?_
  rintro e w1 ⟨rfl, hw1⟩
  have HW1 := Lib.hid hw1
  clear hw1
  go_wp2_with fail
  refine (HFA.out _ HW1.out).mono ?_
  rintro e w2 ⟨rfl, hw2⟩
  have HW2 := Lib.hid (HW1.out.trans hw2)
  clear hw2
  go_wp2_with fail
  refine (HFB.out _ HW2.out).mono ?_
  rintro e w3 ⟨rfl, hw3⟩
  have HW3 := Lib.hid (HW2.out.trans hw3)
  clear hw3
  go_wp2_with fail
  refine (K1.out _ HW3.out).mono ?_
  rintro e w4 ⟨A1, n1, c1, rfl, hq4, hw4⟩
  have HW4 := Lib.hid (HW3.out.trans hw4)
  have HS4 := Lib.hid hq4
  clear hw4 hq4
  simp only
  go_wp2_with fail
  refine (K2.out _ HW4.out).mono ?_
  rintro e w5 ⟨A2, n2, c2, rfl, hq5, hw5⟩
  have HW5 := Lib.hid (HW4.out.trans hw5)
  have HS5 := Lib.hid hq5
  have HM5 := Lib.hid hw5
  clear hw5 hq5
  simp only
  have g0 := (HG.out.ext HW5.out).cell 0 _ rfl
  have g1 := (HG.out.ext HW5.out).cell 1 _ rfl
  go_wp2_with fail
  refine (K3.out _).mono ?_
  rintro e w6 ⟨rfl, hw6⟩
  have HW6 := Lib.hid (HW5.out.trans hw6)
  have HM6 := Lib.hid (HM5.out.trans hw6)
  have HE6 := Lib.hid hw6
  clear hw6 g0 g1
  have g0 := (HG.out.ext HW6.out).cell 0 _ rfl
  have g1 := (HG.out.ext HW6.out).cell 1 _ rfl
  go_wp2_with fail
  refine (K4.out _).mono ?_
  rintro e w7 ⟨rfl, hw7⟩
  have HW7 := Lib.hid (HW6.out.trans hw7)
  have HS7a := Lib.hid (HS4.out.ext (HM6.out.trans hw7))
  have HS7b := Lib.hid (HS5.out.ext (HE6.out.trans hw7))
  clear hw7 g0 g1
  have tok1 := True.intro
  have tok2 := True.intro
  have tok3 := True.intro
  go_wp2_with (first
    | (go_at_call 13; have _t := tok1; with_reducible refine (eqm.out _ _ _ _ _ _ _ HS7a.out HS7b.out).mono ?_; rintro e w8 ⟨rfl, hw8⟩; have HW8 := Lib.hid (HW7.out.trans hw8); clear hw8 tok1)
    | (go_at_call 14; with_reducible refine (K5.out _ HW8.out).mono ?_; rintro e w9 ⟨rfl, hw9⟩; have HW9 := Lib.hid (HW8.out.trans hw9); clear hw9)
    | (go_at_call 15; with_reducible refine (K6.out _ HW9.out).mono ?_; rintro e wa ⟨rfl, hwa⟩; have HWA := Lib.hid (HW9.out.trans hwa); clear hwa)
    | (go_at_call 31; have _t := tok2; with_reducible refine (K7.out _ HWA.out).mono ?_; rintro e wb ⟨rfl, hwb⟩; have HWB := Lib.hid (HWA.out.trans hwb); clear hwb tok2)
    | (go_at_call 13; with_reducible refine (K8.out _ HWB.out).mono ?_; rintro e wc ⟨rfl, hwc⟩; have HWC := Lib.hid (HWB.out.trans hwc); clear hwc)
    | (go_at_call 31; with_reducible refine (K9.out _ HWC.out).mono ?_; rintro e wd ⟨rfl, hwd⟩; have HWD := Lib.hid (HWC.out.trans hwd); clear hwd)
    | (go_at_call 17; with_reducible refine (K10.out _ HWD.out).mono ?_; rintro e we ⟨rfl, hwe⟩; have HWE := Lib.hid (HWD.out.trans hwe); clear hwe)
    | (go_at_call 32; with_reducible refine (K11.out _ HWE.out).mono ?_; rintro e wf ⟨rfl, hwf⟩; have HWF := Lib.hid (HWE.out.trans hwf); clear hwf))
  go_ret
  exact ⟨by first | rfl | simp, HX.out.trans HWF.out⟩
end Go.Proofs.YtblkpgglkhmggaaGreatDoor.lawSignatureLists
