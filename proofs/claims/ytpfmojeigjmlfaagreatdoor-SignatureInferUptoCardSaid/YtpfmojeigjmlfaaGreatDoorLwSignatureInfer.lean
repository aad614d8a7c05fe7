import Derived.Test.YtpfmojeigjmlfaaGreatDoorAx28
import Derived.Test.YtpfmojeigjmlfaaGreatDoorJa
namespace Go.Proofs.YtpfmojeigjmlfaaGreatDoor.lawSignatureInfer
open Go.ChangeShapes Go.WideShapes Go.ChangeAt Go.RowKit
set_option linter.unusedSimpArgs false
set_option linter.unusedVariables false

theorem sig_names {M : List ArgP} (h : ∀ x ∈ M, x.1.length ≤ 40) : ∀ x ∈ M.map agP, x.n.size ≤ maxLen := by
  intro x hx
  obtain ⟨y, hy, rfl⟩ := List.mem_map.1 hx
  have := h y hy
  show y.1.length ≤ maxLen
  unfold maxLen
  omega
set_option maxHeartbeats 4000000 in
set_option maxRecDepth 100000 in
theorem law {f : F} {v : Value} (w : World) (hm : Mx w) (hF : FwS w (fun _ => True) f v) (hcan : Can f) (hwt : wt f ≤ 40000000) : Calls Tryz.prog 8 #[v] w (RetTrue w) := by
  obtain ⟨Af, cf, rfl⟩ := hF.val
  have hn : f.nodes < 100000000 := by have := nodes_wtg f; omega
  have HM := Lib.hid hm
  have KF := Lib.hid (fun W (hx : Ext w W) => rfew_any (hF.ext hx) hcan hwt hn)
  have K1 := Lib.hid (fun W (hx : Ext w W) => tinfer_any (hF.ext hx) hcan hwt (hm.ext hx))
  have K2 := Lib.hid (fun W (hx : Ext w W) => rinfer_any (hF.ext hx) hcan hwt)
  have HV := Lib.hid (show ((inferV f).2 = 0 → validA (inferV f).1 = true) ∧ (inferV f).1.length ≤ 20 ∧ (∀ x ∈ (inferV f).1, x.1.length ≤ 40) from by
    unfold inferV inferA
    split
    · rename_i hv
      cases h : foldA [] (usesR f) with
      | none => exact ⟨fun h => (by cases h), Nat.zero_le _, fun x hx => (by cases hx)⟩
      | some o =>
        have h2 := infer_valid hv h
        exact ⟨fun _ => h2, (sig_ok h2).2.2, fun x hx => name_lenV ((sig_ok h2).1 x hx).1⟩
    · exact ⟨fun h => (by cases h), Nat.zero_le _, fun x hx => (by cases hx)⟩)
  generalize inferV f = M at K1 K2 HV
  obtain ⟨L, e⟩ := M
  clear hm hF hcan hwt hn
  go_enter Tryz.func8, Tryz.ntmps8
  go_wp2_with fail
  refine (awake28_any _ HM.out).mono ?_
  rintro e w1 ⟨rfl, hw1⟩
  have HW1 := Lib.hid hw1
  clear hw1
  go_wp2_with fail
  refine (KF.out _ HW1.out).mono ?_
  rintro e w2 ⟨b, rfl, hx2⟩
  have HW2 := Lib.hid (HW1.out.trans hx2)
  clear hx2
  cases b
  · go_wp2
    go_ret
    exact ⟨rfl, HW2.out⟩
  go_wp2_with fail
  refine (K1.out _ HW2.out).mono ?_
  rintro e w3 ⟨A3, n3, c3, rfl, hs3, hx3⟩
  have hl3 : n3 = L.length := by have := hs3.len; rw [List.length_map] at this; exact this.symm
  subst hl3
  have HW3 := Lib.hid (HW2.out.trans hx3)
  have HS3 := Lib.hid hs3
  clear hs3 hx3
  go_wp2_with fail
  refine (K2.out _ HW3.out).mono ?_
  rintro e w4 ⟨A4, n4, c4, rfl, hs4, hx4⟩
  have hl4 : n4 = L.length := by have := hs4.len; rw [List.length_map] at this; exact this.symm
  subst hl4
  have HW4 := Lib.hid (HW3.out.trans hx4)
  have HS4 := Lib.hid hs4
  have HS34 := Lib.hid (HS3.out.ext hx4)
  have hll : L.length ≤ 20 := HV.out.2.1
  have HQ := Lib.hid (show ((L.map agP).map agOf == (L.map agP).map agOf) = true from by simp)
  have KE := Lib.hid (requal28_any (L.map agP) (L.map agP) A3 A4 _ _ c3 c4 _ HS34.out HS4.out (by unfold maxLen; omega) (by unfold maxLen; omega))
  rw [HQ.out] at KE
  have KV := Lib.hid (fun W (hx : Ext w4 W) => tvalid28_any (L.map agP) A3 _ c3 W (HS34.out.ext hx) (by unfold maxLen; omega) (sig_names HV.out.2.2))
  rw [agP_list] at KV
  clear hs4 hx4 K1 K2 KF
  by_cases he : e = 0
  · have HVA := Lib.hid (HV.out.1 he)
    rw [show validA L = true from HV.out.1 he] at KV
    subst he
    clear HV HQ
    go_wp2_with (first
      | (go_at_call 31; (with_reducible refine KE.out.mono ?_); rintro e5 w5 ⟨rfl, hx5⟩; have HX5 := Lib.hid hx5; clear hx5)
      | (go_at_call 32; (with_reducible refine (KV.out _ HX5.out).mono ?_); rintro e6 w6 ⟨rfl, hx6⟩; have HX6 := Lib.hid hx6; clear hx6))
    go_ret
    exact ⟨rfl, (HW4.out.trans HX5.out).trans HX6.out⟩
  · have b1 : (e != 0) = true := by rw [bne_iff_ne]; exact he
    have b2 : (e == 0) = false := by rw [beq_eq_false_iff_ne]; exact he
    clear HV HQ KV he
    go_wp2_with (first
      | (go_at_call 31; (with_reducible refine KE.out.mono ?_); rintro e5 w5 ⟨rfl, hx5⟩; have HX5 := Lib.hid hx5; clear hx5))
    go_ret
    exact ⟨rfl, HW4.out.trans HX5.out⟩
end Go.Proofs.YtpfmojeigjmlfaaGreatDoor.lawSignatureInfer
