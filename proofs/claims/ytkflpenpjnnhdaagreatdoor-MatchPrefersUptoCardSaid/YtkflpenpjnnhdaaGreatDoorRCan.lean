import Derived.Test.YtkflpenpjnnhdaaGreatDoorMQC
import Derived.Test.YtkflpenpjnnhdaaGreatDoorMQ6
namespace Go.Proofs.YtkflpenpjnnhdaaGreatDoor
open Go.RowKit
set_option linter.unusedSimpArgs false
set_option linter.unusedVariables false

theorem txt_valid {t : TagP} (h : validP t = true) : txtOf t = textP t := by unfold txtOf; rw [if_pos h]
set_option maxRecDepth 100000 in
theorem rcan_any (s : ByteArray) (w : World) (hs : s.size ≤ 2000000) :
    Calls Tryz.prog 40 #[.string s] w fun e w' => e = .returned (.tuple #[strv (canP s.data.toList).1, .int .i64 (canP s.data.toList).2]) ∧ Ext w w' := by
  unfold canP
  have hok := @parse_ok s.data.toList
  have hpa := fun W => rparse_any s W hs
  generalize parseP EC s.data.toList = R at hok hpa
  obtain ⟨t, code⟩ := R
  have HOK := Lib.hid hok
  have HPA := Lib.hid hpa
  clear hok hpa
  by_cases h0 : code = 0
  · subst h0
    have hv := HOK.out rfl
    have HV := Lib.hid hv
    simp only [if_true]
    clear hv
    go_enter Tryz.func40, Tryz.ntmps40
    go_wp2_with fail
    refine (HPA.out _).mono ?_
    rintro e w1 ⟨A, n, c, rfl, hs1, hnc, hw1⟩
    have HS1 := Lib.hid hs1
    have HW1 := Lib.hid hw1
    clear hs1 hw1
    unfold tagV strv
    go_wp2_with fail
    have h3 := rText_any t A n c (w1.alloc (.cells #[strv t.lang, strv t.script, strv t.region, .slice A n c] 60)) (HS1.out.ext ((Ext.refl w1).alloc _)) (TL_of HV.out)
    rw [txt_valid HV.out] at h3
    unfold tagV strv at h3
    with_reducible refine h3.mono ?_
    clear h3
    rintro e w3 ⟨rfl, hw3⟩
    have HW3 := Lib.hid ((HW1.out.alloc _).trans hw3)
    clear hw3
    go_wp2
    go_ret2
    exact ⟨rfl, HW3.out⟩
  · simp only [if_neg h0]
    have hb : (code == 0) = false := by simpa using h0
    have hb2 : (!code == 0) = true := by simpa using h0
    go_enter Tryz.func40, Tryz.ntmps40
    go_wp2_with fail
    refine (HPA.out _).mono ?_
    rintro e w1 ⟨A, n, c, rfl, hs1, hnc, hw1⟩
    have HW1 := Lib.hid hw1
    clear hs1 hw1
    unfold tagV strv
    go_wp2
    go_ret2
    exact ⟨rfl, HW1.out.alloc _⟩

end Go.Proofs.YtkflpenpjnnhdaaGreatDoor
