import Derived.Test.YtpfmojeigjmlfaaGreatDoorKf
import Derived.Test.YtpfmojeigjmlfaaGreatDoorJa
import Derived.Test.YtpfmojeigjmlfaaGreatDoorHb
import Derived.Test.YtpfmojeigjmlfaaGreatDoorIe
namespace Go.Proofs.YtpfmojeigjmlfaaGreatDoor.lawPrinterInverse
open Go.ChangeShapes Go.WideShapes Go.ChangeAt Go.RowKit
set_option linter.unusedSimpArgs false
set_option linter.unusedVariables false

theorem anyS {w : World} {ok : Nat → Prop} {f : F} {v : Value} (h : FwS w ok f v) : FwS w (fun _ => True) f v := h.exc (Exc.refl (fun _ => False) w) (fun _ _ h => h) (fun _ _ => trivial)
/-- Different messages have different texts. -/
theorem txt_eq {f g : F} (hf : validF false f = true) (hg : validF false g = true) : (txtP [32] f == txtP [32] g) = eqF f g := by
  rw [Bool.eq_iff_iff, beq_iff_eq, eqF_iff]
  exact ⟨fun h => text_inj' hf hg h, fun h => by rw [h]⟩
set_option maxHeartbeats 4000000 in
set_option maxRecDepth 100000 in
theorem law {f g : F} {v u : Value} (w : World) (hm : Mx w) (hF : FwS w (fun _ => True) f v) (hcan : Can f) (hwt : wt f ≤ 40000000) (hG : FwS w (fun _ => True) g u) (hcanG : Can g) (hwtG : wt g ≤ 40000000) : Calls Tryz.prog 6 #[v, u] w (RetTrue w) := by
  obtain ⟨Af, cf, rfl⟩ := hF.val
  obtain ⟨Ag, cg, rfl⟩ := hG.val
  have hn : f.nodes < 100000000 := by have := nodes_wtk f; omega
  have hnG : g.nodes < 100000000 := by have := nodes_wtk g; omega
  have HM := Lib.hid hm
  have HFW := Lib.hid hF
  have HGW := Lib.hid hG
  have HCAN := Lib.hid hcan
  have HCANG := Lib.hid hcanG
  have HN := Lib.hid hn
  have HNG := Lib.hid hnG
  have KF := Lib.hid (fun W (hx : Ext w W) => rfew_any (hF.ext hx) hcan hwt hn)
  have KG := Lib.hid (fun W (hx : Ext w W) => rfew_any (hG.ext hx) hcanG hwtG hnG)
  have K1 := Lib.hid (fun W (hx : Ext w W) => tprint_any (hF.ext hx) hcan hwt (hm.ext hx))
  have K2 := Lib.hid (fun W (hx : Ext w W) => tprint_any (hG.ext hx) hcanG hwtG (hm.ext hx))
  have HV : (validF false f = true ∧ prtP false f = (txtP [32] f, 0)) ∨ prtP false f = ([], 1) := by
    unfold prtP
    split
    · exact .inl ⟨‹_›, rfl⟩
    · exact .inr rfl
  have HVG : (validF false g = true ∧ prtP false g = (txtP [32] g, 0)) ∨ prtP false g = ([], 1) := by
    unfold prtP
    split
    · exact .inl ⟨‹_›, rfl⟩
    · exact .inr rfl
  have HE0 : ∃ e1, (prtP false g).2 = e1 := ⟨_, rfl⟩
  go_enter Tryz.func6, Tryz.ntmps6
  clear hm hF hcan hwt hn hG hcanG hwtG hnG HE0
  have HVH := Lib.hid HV
  have HVGH := Lib.hid HVG
  clear HV HVG
  go_wp2_with fail
  refine (awake27_any _ HM.out).mono ?_
  rintro e w1 ⟨rfl, hw1⟩
  have HW1 := Lib.hid hw1
  clear hw1
  go_wp2_with fail
  refine (KF.out _ HW1.out).mono ?_
  rintro e w2 ⟨b, rfl, hx2⟩
  have HW2 := Lib.hid (HW1.out.trans hx2)
  clear hx2
  cases b
  · go_wp2
    go_ret
    exact ⟨rfl, HW2.out⟩
  go_wp2_with fail
  refine (KG.out _ HW2.out).mono ?_
  rintro e w3 ⟨b, rfl, hx3⟩
  have HW3 := Lib.hid (HW2.out.trans hx3)
  clear hx3
  cases b
  · go_wp2
    go_ret
    exact ⟨rfl, HW3.out⟩
  rcases HVH.out with ⟨hvf, hpf⟩ | hpf
  rotate_left
  · rw [hpf] at K1
    obtain ⟨sg, eg⟩ := prtP false g
    clear hpf HVH HVGH
    go_wp2_with fail
    refine (K1.out _ HW3.out).mono ?_
    rintro e w4 ⟨rfl, hx4⟩
    have HW4 := Lib.hid (HW3.out.trans hx4)
    clear hx4
    go_wp2_with fail
    refine (K2.out _ HW4.out).mono ?_
    rintro e w5 ⟨rfl, hx5⟩
    have HW5 := Lib.hid (HW4.out.trans hx5)
    clear hx5
    go_wp2
    go_ret
    exact ⟨rfl, HW5.out⟩
  rw [hpf] at K1
  have KP := Lib.hid (fun W (hx : Ext w W) => (tParse_any ⟨(txtP [32] f).toArray⟩ W (HM.out.ext hx) (by show (txtP [32] f).length ≤ _; have := (validF_iff.1 hvf).2.2; omega)).mono fun e w' hz => retY27_of hz (show parseR false (txtP [32] f) = .ok f from parse_print hvf))
  have KQ := Lib.hid (fun W (hx : Ext w W) => requal26_any HN.out (by have := HNG.out; omega) (HFW.out.ext hx) (HGW.out.ext hx) HCAN.out HCANG.out)
  have HTX := Lib.hid (fun hvg => txt_eq (f := f) (g := g) hvf hvg)
  generalize txtP [32] f = s at K1 KP HTX
  clear hvf hpf HVH
  rcases HVGH.out with ⟨hvg, hpg⟩ | hpg
  · rw [hpg] at K2
    have HTY := Lib.hid (HTX.out hvg)
    generalize txtP [32] g = s2 at K2 HTY HTX
    generalize eqF f g = eb at KQ HTY HTX
    clear hvg hpg HVGH HTX
    go_wp2_with fail
    refine (K1.out _ HW3.out).mono ?_
    rintro e w4 ⟨rfl, hx4⟩
    have HW4 := Lib.hid (HW3.out.trans hx4)
    clear hx4
    go_wp2_with fail
    refine (K2.out _ HW4.out).mono ?_
    rintro e w5 ⟨rfl, hx5⟩
    have HW5 := Lib.hid (HW4.out.trans hx5)
    clear hx5
    go_wp2_with fail
    refine (KP.out _ HW5.out).mono ?_
    rintro e w8 ⟨hx8, A8, c8, rfl, hf8⟩
    have HW8 := Lib.hid ((HW5.out.trans hx8).alloc (.cells #[.int .i64 0, .int .i64 0, .int .i64 0] 29))
    have KE := Lib.hid (tequal26_any HN.out (by have := HN.out; omega) ((anyS hf8).ext ((Ext.refl w8).alloc (.cells #[.int .i64 0, .int .i64 0, .int .i64 0] 29))) (HFW.out.ext HW8.out) HCAN.out HCAN.out)
    rw [eqF_refl] at KE
    clear hx8 hf8
    go_wp2_with fail
    refine KE.out.mono ?_
    rintro e w9 ⟨rfl, hx9⟩
    have HW9 := Lib.hid (HW8.out.trans hx9)
    clear hx9 KE
    go_wp2_with fail
    refine (KQ.out _ HW9.out).mono ?_
    rintro e w10 ⟨rfl, hx10⟩
    have HW10 := Lib.hid (HW9.out.trans hx10)
    clear hx10
    go_wp2
    go_ret
    exact ⟨ret_bool (by rw [HTY.out]; exact beq_self_eq_true _), HW10.out⟩
  · rw [hpg] at K2
    clear hpg HVGH HTX KQ
    go_wp2_with fail
    refine (K1.out _ HW3.out).mono ?_
    rintro e w4 ⟨rfl, hx4⟩
    have HW4 := Lib.hid (HW3.out.trans hx4)
    clear hx4
    go_wp2_with fail
    refine (K2.out _ HW4.out).mono ?_
    rintro e w5 ⟨rfl, hx5⟩
    have HW5 := Lib.hid (HW4.out.trans hx5)
    clear hx5
    go_wp2_with fail
    refine (KP.out _ HW5.out).mono ?_
    rintro e w8 ⟨hx8, A8, c8, rfl, hf8⟩
    have HW8 := Lib.hid ((HW5.out.trans hx8).alloc (.cells #[.int .i64 0, .int .i64 0, .int .i64 0] 29))
    have KE := Lib.hid (tequal26_any HN.out (by have := HN.out; omega) ((anyS hf8).ext ((Ext.refl w8).alloc (.cells #[.int .i64 0, .int .i64 0, .int .i64 0] 29))) (HFW.out.ext HW8.out) HCAN.out HCAN.out)
    rw [eqF_refl] at KE
    clear hx8 hf8
    go_wp2_with fail
    refine KE.out.mono ?_
    rintro e w9 ⟨rfl, hx9⟩
    have HW9 := Lib.hid (HW8.out.trans hx9)
    clear hx9 KE
    go_wp2
    go_ret
    exact ⟨rfl, HW9.out⟩
end Go.Proofs.YtpfmojeigjmlfaaGreatDoor.lawPrinterInverse
