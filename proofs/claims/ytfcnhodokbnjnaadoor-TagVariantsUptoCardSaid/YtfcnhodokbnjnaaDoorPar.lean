import Derived.Test.YtfcnhodokbnjnaaDoorUp
import Derived.Test.YtfcnhodokbnjnaaDoorRTxt
namespace Go.Proofs.YtfcnhodokbnjnaaDoor
open Go.RowKit
set_option linter.unusedSimpArgs false
set_option linter.unusedVariables false

theorem txt_valid {t : TagP} (h : validP t = true) : txtOf t = textP t := by unfold txtOf; rw [if_pos h]
/-- The parent's text, and the code. -/
def parentP (s : List UInt8) : List UInt8 × Int := if (parseP EC s).2 ≠ 0 then ([], (parseP EC s).2) else match upP (parseP EC s).1 with
  | none => ([], 8)
  | some u => (textP u, 0)

set_option maxRecDepth 100000 in
theorem rcan_any (s : ByteArray) (w : World) (hs : s.size ≤ 2000000) :
    Calls Tryd.prog 14 #[.string s] w fun e w' => e = .returned (.tuple #[strv (canP s.data.toList).1, .int .i64 (canP s.data.toList).2]) ∧ Ext w w' := by
  unfold canP
  have hok := @parse_ok s.data.toList
  have hpa := fun W => rparse_any s W hs
  generalize parseP EC s.data.toList = R at hok hpa
  obtain ⟨t, code⟩ := R
  have HOK := Lib.hid hok
  have HPA := Lib.hid hpa
  clear hok hpa
  by_cases h0 : code = 0
  · subst h0
    have hv := HOK.out rfl
    have HV := Lib.hid hv
    simp only [if_true]
    clear hv
    go_enter Tryd.func14, Tryd.ntmps14
    go_wp2_with fail
    refine (HPA.out _).mono ?_
    rintro e w1 ⟨A, n, c, rfl, hs1, hnc, hw1⟩
    have HS1 := Lib.hid hs1
    have HW1 := Lib.hid hw1
    clear hs1 hw1
    unfold tagV strv
    go_wp2_with fail
    have h3 := rText_any t A n c (w1.alloc (.cells #[strv t.lang, strv t.script, strv t.region, .slice A n c] 29)) (HS1.out.ext ((Ext.refl w1).alloc _)) (TL_of HV.out)
    rw [txt_valid HV.out] at h3
    unfold tagV strv at h3
    with_reducible refine h3.mono ?_
    clear h3
    rintro e w3 ⟨rfl, hw3⟩
    have HW3 := Lib.hid ((HW1.out.alloc _).trans hw3)
    clear hw3
    go_wp2
    go_ret2
    exact ⟨rfl, HW3.out⟩
  · simp only [if_neg h0]
    have hb : (code == 0) = false := by simpa using h0
    have hb2 : (!code == 0) = true := by simpa using h0
    go_enter Tryd.func14, Tryd.ntmps14
    go_wp2_with fail
    refine (HPA.out _).mono ?_
    rintro e w1 ⟨A, n, c, rfl, hs1, hnc, hw1⟩
    have HW1 := Lib.hid hw1
    clear hs1 hw1
    unfold tagV strv
    go_wp2
    go_ret2
    exact ⟨rfl, HW1.out.alloc _⟩

set_option maxHeartbeats 1000000 in
set_option maxRecDepth 100000 in
theorem tparent2_any (s : ByteArray) (w : World) (hm : Mx w) (hs : s.size ≤ 60000) :
    Calls Tryd.prog 18 #[.string s] w fun e w' => e = .returned (.tuple #[strv (parentP s.data.toList).1, .int .i64 (parentP s.data.toList).2]) ∧ Ext w w' := by
  generalize hP : parentP s.data.toList = PR
  have hpr : PR = parentP s.data.toList := hP.symm
  clear hP
  unfold parentP at hpr
  have hok := @parse_ok s.data.toList
  have hpa := fun W (hM : Mx W) => tparse_any s W hM hs
  generalize parseP EC s.data.toList = R at hok hpa hpr
  obtain ⟨t, code⟩ := R
  have HOK := Lib.hid hok
  have HPA := Lib.hid hpa
  clear hok hpa
  by_cases h0 : code = 0
  · subst h0
    have hv := HOK.out rfl
    have HV := Lib.hid hv
    simp only [ne_eq, not_true_eq_false, if_false] at hpr
    have HPR0 := Lib.hid hpr
    clear hv hpr
    go_enter Tryd.func18, Tryd.ntmps18
    go_wp2_with fail
    refine (HPA.out _ hm).mono ?_
    rintro e w1 ⟨A, n, c, rfl, hs1, hnc, hw1⟩
    have hn : n ≤ 60000 := by
      have h1 := hs1.1
      rw [List.length_map] at h1
      rw [← h1]
      exact (TL_of HV.out).2.2.2.2
    have HS1 := Lib.hid hs1
    have HW1 := Lib.hid hw1
    clear hs1 hw1
    unfold tagV strv
    go_wp2_with fail
    have h4 := tparent_any t A n c (w1.alloc (.cells #[strv t.lang, strv t.script, strv t.region, .slice A n c] 25)) (HS1.out.ext ((Ext.refl w1).alloc _)) hn hnc (TL_of HV.out)
    cases hup : upP t with
    | none =>
      have hr : upR t = (TagP.zero, false) := by unfold upR; rw [hup]
      rw [hr] at h4
      unfold tagV strv at h4
      simp only at h4
      have hpr := HPR0.out
      rw [hup] at hpr
      simp only at hpr
      have HPR := Lib.hid hpr
      clear hup hr hpr HPR0
      with_reducible refine h4.mono ?_
      clear h4
      rintro e w3 ⟨A2, n2, c2, rfl, hs2, hc2, hw3⟩
      have HW3 := Lib.hid ((HW1.out.alloc _).trans hw3)
      obtain ⟨⟨p0, p1, p2, p3⟩, ⟨e0, e1, e2, e3⟩⟩ := ((AtT.new w1 : AtT 25 (w1.alloc (.cells #[.string ⟨t.lang.toArray⟩, .string ⟨t.script.toArray⟩, .string ⟨t.region.toArray⟩, .slice A n c] 25)) w1.heap.size _ _ _ _).ext hw3).cells
      have HLE := Lib.hid (Ext.size HW1.out)
      clear hw3 hs2
      go_wp2
      go_ret2
      exact ⟨by rw [HPR.out]; rfl, (HW3.out.alloc _)⟩
    | some u =>
      have hu := up_valid HV.out hup
      have hr : upR t = (u, true) := by unfold upR; rw [hup]
      rw [hr] at h4
      unfold tagV strv at h4
      simp only at h4
      have hpr := HPR0.out
      rw [hup] at hpr
      simp only at hpr
      have HPR := Lib.hid hpr
      clear hup hr hpr HPR0
      with_reducible refine h4.mono ?_
      clear h4
      rintro e w3 ⟨A2, n2, c2, rfl, hs2, hc2, hw3⟩
      have HS2 := Lib.hid hs2
      have HX3 := Lib.hid hw3
      have HU := Lib.hid hu
      have HW3 := Lib.hid ((HW1.out.alloc _).trans hw3)
      obtain ⟨⟨p0, p1, p2, p3⟩, ⟨e0, e1, e2, e3⟩⟩ := ((AtT.new w1 : AtT 25 (w1.alloc (.cells #[.string ⟨t.lang.toArray⟩, .string ⟨t.script.toArray⟩, .string ⟨t.region.toArray⟩, .slice A n c] 25)) w1.heap.size _ _ _ _).ext hw3).cells
      have HLE := Lib.hid (Ext.size HW1.out)
      clear hw3 hs2 hu
      go_wp2_with fail
      have hu := HU.out
      have h5 := ttext_any u A2 n2 c2 _ ((HS2.out w3 (Later.refl _ _) (HS1.out.ext (((Ext.refl w1).alloc (.cells #[strv t.lang, strv t.script, strv t.region, .slice A n c] 25)).trans HX3.out))).ext ((Ext.refl w3).alloc (.cells #[strv u.lang, strv u.script, strv u.region, .slice A2 n2 c2] 25))) (by have h1 := (HS2.out w3 (Later.refl _ _) (HS1.out.ext (((Ext.refl w1).alloc (.cells #[strv t.lang, strv t.script, strv t.region, .slice A n c] 25)).trans HX3.out))).1; rw [List.length_map] at h1; rw [← h1]; exact (TL_of hu.1).2.2.2.2) (by have := textP_len hu.1; omega)
      unfold tagV strv at h5
      with_reducible refine h5.mono ?_
      clear h5
      rintro e w5 ⟨rfl, hw5⟩
      have HW5 := Lib.hid ((HW3.out.alloc _).trans hw5)
      clear hw5
      go_wp2
      go_ret2
      exact ⟨by rw [HPR.out]; rfl, HW5.out⟩
  · simp only [ne_eq, h0, not_false_eq_true, if_true] at hpr
    have HPR := Lib.hid hpr
    clear hpr
    have hb : (code == 0) = false := by simpa using h0
    have hb2 : (!code == 0) = true := by simpa using h0
    go_enter Tryd.func18, Tryd.ntmps18
    go_wp2_with fail
    refine (HPA.out _ hm).mono ?_
    rintro e w1 ⟨A, n, c, rfl, hs1, hnc, hw1⟩
    have HW1 := Lib.hid hw1
    clear hs1 hw1
    unfold tagV strv
    go_wp2
    go_ret2
    exact ⟨by rw [HPR.out]; rfl, HW1.out.alloc _⟩

set_option maxHeartbeats 1000000 in
set_option maxRecDepth 100000 in
theorem rparent2_any (s : ByteArray) (w : World) (hs : s.size ≤ 60000) :
    Calls Tryd.prog 19 #[.string s] w fun e w' => e = .returned (.tuple #[strv (parentP s.data.toList).1, .int .i64 (parentP s.data.toList).2]) ∧ Ext w w' := by
  generalize hP : parentP s.data.toList = PR
  have hpr : PR = parentP s.data.toList := hP.symm
  clear hP
  unfold parentP at hpr
  have hok := @parse_ok s.data.toList
  have hpa := fun W => rparse_any s W (by omega)
  generalize parseP EC s.data.toList = R at hok hpa hpr
  obtain ⟨t, code⟩ := R
  have HOK := Lib.hid hok
  have HPA := Lib.hid hpa
  clear hok hpa
  by_cases h0 : code = 0
  · subst h0
    have hv := HOK.out rfl
    have HV := Lib.hid hv
    simp only [ne_eq, not_true_eq_false, if_false] at hpr
    have HPR0 := Lib.hid hpr
    clear hv hpr
    go_enter Tryd.func19, Tryd.ntmps19
    go_wp2_with fail
    refine (HPA.out _).mono ?_
    rintro e w1 ⟨A, n, c, rfl, hs1, hnc, hw1⟩
    have hn : n ≤ 60000 := by
      have h1 := hs1.1
      rw [List.length_map] at h1
      rw [← h1]
      exact (TL_of HV.out).2.2.2.2
    have HS1 := Lib.hid hs1
    have HW1 := Lib.hid hw1
    clear hs1 hw1
    unfold tagV strv
    go_wp2_with fail
    have h4 := rup_any t A n c (w1.alloc (.cells #[strv t.lang, strv t.script, strv t.region, .slice A n c] 29)) (HS1.out.ext ((Ext.refl w1).alloc _)) hn hnc (TL_of HV.out)
    cases hup : upP t with
    | none =>
      have hr : upR t = (TagP.zero, false) := by unfold upR; rw [hup]
      rw [hr] at h4
      unfold tagV strv at h4
      simp only at h4
      have hpr := HPR0.out
      rw [hup] at hpr
      simp only at hpr
      have HPR := Lib.hid hpr
      clear hup hr hpr HPR0
      with_reducible refine h4.mono ?_
      clear h4
      rintro e w3 ⟨A2, n2, c2, rfl, hs2, hc2, hw3⟩
      have HW3 := Lib.hid ((HW1.out.alloc _).trans hw3)
      obtain ⟨⟨p0, p1, p2, p3⟩, ⟨e0, e1, e2, e3⟩⟩ := ((AtT.new w1 : AtT 29 (w1.alloc (.cells #[.string ⟨t.lang.toArray⟩, .string ⟨t.script.toArray⟩, .string ⟨t.region.toArray⟩, .slice A n c] 29)) w1.heap.size _ _ _ _).ext hw3).cells
      have HLE := Lib.hid (Ext.size HW1.out)
      clear hw3 hs2
      go_wp2
      go_ret2
      exact ⟨by rw [HPR.out]; rfl, (((HW3.out.setCell (p := ⟨w1.heap.size, 0, none⟩) HLE.out _).setCell (p := ⟨w1.heap.size, 1, none⟩) HLE.out _).setCell (p := ⟨w1.heap.size, 2, none⟩) HLE.out _).setCell (p := ⟨w1.heap.size, 3, none⟩) HLE.out _⟩
    | some u =>
      have hu := up_valid HV.out hup
      have hr : upR t = (u, true) := by unfold upR; rw [hup]
      rw [hr] at h4
      unfold tagV strv at h4
      simp only at h4
      have hpr := HPR0.out
      rw [hup] at hpr
      simp only at hpr
      have HPR := Lib.hid hpr
      clear hup hr hpr HPR0
      with_reducible refine h4.mono ?_
      clear h4
      rintro e w3 ⟨A2, n2, c2, rfl, hs2, hc2, hw3⟩
      have HS2 := Lib.hid hs2
      have HX3 := Lib.hid hw3
      have HU := Lib.hid hu
      have HW3 := Lib.hid ((HW1.out.alloc _).trans hw3)
      obtain ⟨⟨p0, p1, p2, p3⟩, ⟨e0, e1, e2, e3⟩⟩ := ((AtT.new w1 : AtT 29 (w1.alloc (.cells #[.string ⟨t.lang.toArray⟩, .string ⟨t.script.toArray⟩, .string ⟨t.region.toArray⟩, .slice A n c] 29)) w1.heap.size _ _ _ _).ext hw3).cells
      have HLE := Lib.hid (Ext.size HW1.out)
      clear hw3 hs2 hu
      go_wp2_with fail
      have hu := HU.out
      have h5 := rText_any u A2 n2 c2 _ (HS2.out _ (HS1.out.ext (((((((Ext.refl w1).alloc (.cells #[strv t.lang, strv t.script, strv t.region, .slice A n c] 29)).trans HX3.out).setCell (p := ⟨w1.heap.size, 0, none⟩) (Nat.le_refl _) (strv u.lang)).setCell (p := ⟨w1.heap.size, 1, none⟩) (Nat.le_refl _) (strv u.script)).setCell (p := ⟨w1.heap.size, 2, none⟩) (Nat.le_refl _) (strv u.region)).setCell (p := ⟨w1.heap.size, 3, none⟩) (Nat.le_refl _) (.slice A2 n2 c2)))) (TL_of hu.1)
      rw [txt_valid hu.1] at h5
      unfold tagV strv at h5
      with_reducible refine h5.mono ?_
      clear h5
      rintro e w5 ⟨rfl, hw5⟩
      have HW5 := Lib.hid (((((HW3.out.setCell (p := ⟨w1.heap.size, 0, none⟩) HLE.out _).setCell (p := ⟨w1.heap.size, 1, none⟩) HLE.out _).setCell (p := ⟨w1.heap.size, 2, none⟩) HLE.out _).setCell (p := ⟨w1.heap.size, 3, none⟩) HLE.out _).trans hw5)
      clear hw5
      go_wp2
      go_ret2
      exact ⟨by rw [HPR.out]; rfl, HW5.out⟩
  · simp only [ne_eq, h0, not_false_eq_true, if_true] at hpr
    have HPR := Lib.hid hpr
    clear hpr
    have hb : (code == 0) = false := by simpa using h0
    have hb2 : (!code == 0) = true := by simpa using h0
    go_enter Tryd.func19, Tryd.ntmps19
    go_wp2_with fail
    refine (HPA.out _).mono ?_
    rintro e w1 ⟨A, n, c, rfl, hs1, hnc, hw1⟩
    have HW1 := Lib.hid hw1
    clear hs1 hw1
    unfold tagV strv
    go_wp2
    go_ret2
    exact ⟨by rw [HPR.out]; rfl, HW1.out.alloc _⟩
end Go.Proofs.YtfcnhodokbnjnaaDoor
