import Derived.Test.YtpfmojeigjmlfaaGreatDoorKf
import Derived.Test.YtpfmojeigjmlfaaGreatDoorKr
import Derived.Test.YtpfmojeigjmlfaaGreatDoorJa
import Derived.Test.YtpfmojeigjmlfaaGreatDoorHb
namespace Go.Proofs.YtpfmojeigjmlfaaGreatDoor.lawPrinterPrint
open Go.ChangeShapes Go.WideShapes Go.ChangeAt Go.RowKit
set_option linter.unusedSimpArgs false
set_option linter.unusedVariables false

theorem anyS {w : World} {ok : Nat → Prop} {f : F} {v : Value} (h : FwS w ok f v) : FwS w (fun _ => True) f v := h.exc (Exc.refl (fun _ => False) w) (fun _ _ h => h) (fun _ _ => trivial)
set_option maxHeartbeats 4000000 in
set_option maxRecDepth 100000 in
theorem law {f : F} {v : Value} (w : World) (hm : Mx w) (hF : FwS w (fun _ => True) f v) (hcan : Can f) (hwt : wt f ≤ 40000000) : Calls Tryz.prog 7 #[v] w (RetTrue w) := by
  obtain ⟨Af, cf, rfl⟩ := hF.val
  have hn : f.nodes < 100000000 := by have := nodes_wtk f; omega
  have HM := Lib.hid hm
  have HFW := Lib.hid hF
  have HCAN := Lib.hid hcan
  have HN := Lib.hid hn
  have KF := Lib.hid (fun W (hx : Ext w W) => rfew_any (hF.ext hx) hcan hwt hn)
  have K1 := Lib.hid (fun W (hx : Ext w W) => tprint_any (hF.ext hx) hcan hwt (hm.ext hx))
  have K2 := Lib.hid (fun W (hx : Ext w W) => rprint_any (hF.ext hx) hcan hwt)
  have K3 := Lib.hid (fun W (hx : Ext w W) => tlength_any (hF.ext hx) hcan hwt (hm.ext hx))
  have K4 := Lib.hid (fun W (hx : Ext w W) => tprintF_any (hF.ext hx) hcan hwt (hm.ext hx))
  have K5 := Lib.hid (fun W (hx : Ext w W) => rprintF_any (hF.ext hx) hcan hwt)
  have KZ := Lib.hid (fun W (hx : Ext w W) => tFragment_any ⟨(prtP true f).1.toArray⟩ W (hm.ext hx) (by
    show (prtP true f).1.length ≤ _
    unfold prtP
    split
    · rename_i h
      have := (validF_iff.1 h).2.2
      show (txtP [32] f).length ≤ _
      omega
    · exact Nat.zero_le _))
  have HZ := Lib.hid (show (prtP true f).2 = 0 → parseR true (prtP true f).1 = .ok f from fun h => by
    unfold prtP at h ⊢
    split
    · rename_i hv
      exact parse_print hv
    · rename_i hv
      rw [if_neg hv] at h
      cases h)
  have HE := Lib.hid (show (prtP true f).2 = 0 ∨ (prtP true f).2 = 1 from by
    unfold prtP
    split
    · exact .inl rfl
    · exact .inr rfl)
  generalize prtP true f = pt at K4 K5 KZ HZ HE
  generalize prtP false f = pf at K1 K2 K3
  obtain ⟨s, e⟩ := pf
  obtain ⟨t, h⟩ := pt
  obtain ⟨ap, al, ac, hpa⟩ := posE_three t (parseR true t)
  have KU := Lib.hid (fun W (hx : Ext w W) => (KZ.out W hx).mono fun e w' h => retU27_any h)
  have KY := Lib.hid (fun W (hx : Ext w W) (h0 : h = 0) => (KZ.out W hx).mono fun e w' hz => retY27_of hz (HZ.out h0))
  have HPA := Lib.hid hpa
  clear hm hF hcan hwt hn KZ HZ hpa
  go_enter Tryz.func7, Tryz.ntmps7
  go_wp2_with fail
  refine (awake27_any _ HM.out).mono ?_
  rintro e w1 ⟨rfl, hw1⟩
  have HW1 := Lib.hid hw1
  clear hw1
  go_wp2_with fail
  refine (KF.out _ HW1.out).mono ?_
  rintro e w2 ⟨b, rfl, hx2⟩
  have HW2 := Lib.hid (HW1.out.trans hx2)
  clear hx2
  cases b
  · go_wp2
    go_ret
    exact ⟨rfl, HW2.out⟩
  go_wp2_with fail
  refine (K1.out _ HW2.out).mono ?_
  rintro e w3 ⟨rfl, hx3⟩
  have HW3 := Lib.hid (HW2.out.trans hx3)
  clear hx3
  go_wp2_with fail
  refine (K2.out _ HW3.out).mono ?_
  rintro e w4 ⟨rfl, hx4⟩
  have HW4 := Lib.hid (HW3.out.trans hx4)
  clear hx4
  go_wp2_with fail
  refine (K3.out _ HW4.out).mono ?_
  rintro e w5 ⟨rfl, hx5⟩
  have HW5 := Lib.hid (HW4.out.trans hx5)
  clear hx5
  go_wp2_with fail
  refine (K4.out _ HW5.out).mono ?_
  rintro e w6 ⟨rfl, hx6⟩
  have HW6 := Lib.hid (HW5.out.trans hx6)
  clear hx6
  go_wp2_with fail
  refine (K5.out _ HW6.out).mono ?_
  rintro e w7 ⟨rfl, hx7⟩
  have HW7 := Lib.hid (HW6.out.trans hx7)
  clear hx7
  rcases HE.out with rfl | rfl
  · have KY2 := Lib.hid (fun W (hx : Ext w W) => KY.out W hx rfl)
    clear KY KU HE
    go_wp2_with fail
    refine (KY2.out _ HW7.out).mono ?_
    rintro e w8 ⟨hx8, A8, c8, rfl, hf8⟩
    have HW8 := Lib.hid ((HW7.out.trans hx8).alloc (.cells #[.int .i64 0, .int .i64 0, .int .i64 0] 29))
    have KE := Lib.hid (tequal26_any HN.out (by have := HN.out; omega) ((anyS hf8).ext ((Ext.refl w8).alloc (.cells #[.int .i64 0, .int .i64 0, .int .i64 0] 29))) (HFW.out.ext HW8.out) HCAN.out HCAN.out)
    rw [eqF_refl] at KE
    clear hx8 hf8
    go_wp2_with fail
    refine KE.out.mono ?_
    rintro e w9 ⟨rfl, hx9⟩
    have HW9 := Lib.hid (HW8.out.trans hx9)
    clear hx9 KE
    go_wp2
    go_ret
    exact ⟨rfl, HW9.out⟩
  · rw [HPA.out] at KU
    generalize errE (parseR true t) = er at KU
    clear KY HE HPA
    go_wp2_with fail
    refine (KU.out _ HW7.out).mono ?_
    rintro e w8 ⟨hx8, A8, n8, c8, rfl⟩
    have HW8 := Lib.hid ((HW7.out.trans hx8).alloc (.cells #[.int .i64 ap, .int .i64 al, .int .i64 ac] 29))
    clear hx8
    go_wp2
    go_ret
    exact ⟨rfl, HW8.out⟩
end Go.Proofs.YtpfmojeigjmlfaaGreatDoor.lawPrinterPrint
