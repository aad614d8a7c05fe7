import Derived.Test.YtpfmojeigjmlfaaGreatDoorQs
import Derived.Test.YtpfmojeigjmlfaaGreatDoorHb
set_option maxRecDepth 100000
set_option linter.unusedSimpArgs false
set_option linter.unusedVariables false
open Go.Lib (hid)
namespace Go.Proofs.YtpfmojeigjmlfaaGreatDoor.lawPrinterCanonical
open Go.ChangeShapes Go.WideShapes Go.ChangeAt Go.RowKit
set_option maxHeartbeats 4000000 in
theorem law (s : ByteArray) (w : World) (hm : Mx w) (hs : s.size ≤ maxLen) : Calls Tryz.prog 5 #[.string s] w (RetTrue w) := by
 unfold maxLen at hs
 by_cases hlt : 4100 < s.size
 ·have hI : (4100 : Int) < (s.size : Int) := by omega
  go_enter Tryz.func5, Tryz.ntmps5
  go_wp2_with fail
  refine (awake27_any _ hm).mono ?_
  rintro e w1 ⟨rfl, hw1⟩
  have HW1 := hid hw1
  clear hw1
  go_wp2
  go_ret
  exact ⟨rfl, HW1.out⟩
 have hI : ¬ (4100 : Int) < (s.size : Int) := by omega
 have HM := hid hm
 have HSZ := hid (show s.size ≤ 1048576 from by omega)
 have K1 := hid (fun W (hx : Ext w W) => tcanon_any s W (HM.out.ext hx) HSZ.out)
 have K2 := hid (fun W => rcanon27_any s W HSZ.out)
 unfold RetSE at K1 K2
 cases hy : parseR false s.data.toList with
 | error x =>
   have hc : canP s.data.toList = ([], x.1) := by unfold canP; rw [hy]
   have hne := err_ne hy
   obtain ⟨T, hT⟩ : ∃ T : ByteArray, T = ⟨([] : By).toArray⟩ := ⟨_, rfl⟩
   obtain ⟨er, her⟩ : ∃ er, er = x.1 := ⟨_, rfl⟩
   rw [hc, ← her] at K1 K2
   rw [← her] at hne
   simp only at K1 K2
   rw [← hT] at K1 K2
   have b1 : (er != 0) = true := by rw [bne_iff_ne]; exact hne
   have b2 : (er == 0) = false := by rw [beq_eq_false_iff_ne]; exact hne
   have q1 : (er != er) = false := by simp
   have q2 : (er == er) = true := by simp
   clear hc hne hT her hy hlt hm hs
   go_enter Tryz.func5, Tryz.ntmps5
   go_wp2_with fail
   refine (awake27_any _ HM.out).mono ?_
   rintro e w1 ⟨rfl, hw1⟩
   have HW1 := hid hw1
   clear hw1
   go_wp2_with fail
   refine (K1.out _ HW1.out).mono ?_
   rintro e w2 ⟨rfl, hx2⟩
   have HX2 := hid (HW1.out.trans hx2)
   clear hx2
   go_wp2_with fail
   refine (K2.out _).mono ?_
   rintro e w3 ⟨rfl, hx3⟩
   have HX3 := hid (HX2.out.trans hx3)
   clear hx3
   go_wp2
   go_ret
   exact ⟨rfl, HX3.out⟩
 | ok f =>
   have hc : canP s.data.toList = (txtP [32] f, 0) := by unfold canP; rw [hy]
   have hv := parse_valid hy
   obtain ⟨hcan, hwt, hn⟩ := parse_fit hy
   obtain ⟨T, hT⟩ : ∃ T : ByteArray, T = ⟨(txtP [32] f).toArray⟩ := ⟨_, rfl⟩
   have hTd : T.data.toList = txtP [32] f := by rw [hT]
   have hTs : T.size ≤ 1048576 := by
    have h := (validF_iff.1 hv).2.2
    rw [← size_list, hTd]
    omega
   have hyT : parseR false T.data.toList = .ok f := by rw [hTd]; exact parse_print hv
   have hcT : canP T.data.toList = (txtP [32] f, 0) := by unfold canP; rw [hyT]
   rw [hc] at K1 K2
   simp only at K1 K2
   rw [← hT] at K1 K2
   have K3 := fun W (hx : Ext w W) => tcanon_any T W (HM.out.ext hx) hTs
   unfold RetSE at K3
   rw [hcT] at K3
   simp only at K3
   rw [← hT] at K3
   replace K3 := hid K3
   have K4 := hid (fun W (hx : Ext w W) => (tParse_any s W (HM.out.ext hx) HSZ.out).mono fun e w' h => retY27_of h hy)
   have K5 := hid (fun W (hx : Ext w W) => (tParse_any T W (HM.out.ext hx) hTs).mono fun e w' h => retY27_of h hyT)
   have HC := hid hcan
   have HN := hid hn
   clear hc hv hcan hwt hn hT hTd hTs hyT hcT hy hlt hm hs
   go_enter Tryz.func5, Tryz.ntmps5
   go_wp2_with fail
   refine (awake27_any _ HM.out).mono ?_
   rintro e w1 ⟨rfl, hw1⟩
   have HW1 := hid hw1
   clear hw1
   go_wp2_with fail
   refine (K1.out _ HW1.out).mono ?_
   rintro e w2 ⟨rfl, hx2⟩
   have HX2 := hid (HW1.out.trans hx2)
   clear hx2
   go_wp2_with fail
   refine (K2.out _).mono ?_
   rintro e w3 ⟨rfl, hx3⟩
   have HX3 := hid (HX2.out.trans hx3)
   clear hx3
   go_wp2_with fail
   refine (K3.out _ HX3.out).mono ?_
   rintro e w4 ⟨rfl, hx4⟩
   have HX4 := hid (HX3.out.trans hx4)
   clear hx4
   go_wp2_with fail
   refine (K4.out _ HX4.out).mono ?_
   rintro e w5 ⟨hx5, A5, c5, rfl, f5⟩
   have hy5 : Ext w5 (w5.alloc (.cells #[.int .i64 0, .int .i64 0, .int .i64 0] 29)) := (Ext.refl _).alloc _
   have HX5 := hid (HX4.out.trans (hx5.trans hy5))
   have HF5 := hid (f5.ext hy5)
   clear hx5 hy5 f5
   go_wp2_with fail
   refine (K5.out _ HX5.out).mono ?_
   rintro e w6 ⟨hx6, A6, c6, rfl, f6⟩
   have hy6 : Ext w6 (w6.alloc (.cells #[.int .i64 0, .int .i64 0, .int .i64 0] 29)) := (Ext.refl _).alloc _
   have HX6 := hid (HX5.out.trans (hx6.trans hy6))
   have KE := hid (tequal26_any HN.out (by have := HN.out; omega) ((HF5.out.ext hx6).ext hy6 |>.exc (Exc.refl (fun _ => False) _) (fun _ _ h => h) (ok' := fun _ => True) (fun _ _ => trivial)) ((f6.ext hy6).exc (Exc.refl (fun _ => False) _) (fun _ _ h => h) (ok' := fun _ => True) (fun _ _ => trivial)) HC.out HC.out)
   rw [eqF_refl] at KE
   clear hx6 hy6 f6
   go_wp2_with fail
   refine KE.out.mono ?_
   rintro e w7 ⟨rfl, hx7⟩
   have HX7 := hid (HX6.out.trans hx7)
   clear hx7
   go_wp2
   go_ret
   exact ⟨rfl, HX7.out⟩
end Go.Proofs.YtpfmojeigjmlfaaGreatDoor.lawPrinterCanonical
