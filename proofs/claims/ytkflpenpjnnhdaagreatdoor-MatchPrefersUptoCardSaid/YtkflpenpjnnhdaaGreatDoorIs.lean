import Derived.Test.YtkflpenpjnnhdaaGreatDoorRCan
import Derived.Test.YtkflpenpjnnhdaaGreatDoorMQ6
namespace Go.Proofs.YtkflpenpjnnhdaaGreatDoor
open Go.RowKit
set_option linter.unusedSimpArgs false
set_option linter.unusedVariables false

set_option maxRecDepth 100000 in
theorem ris_any (s : ByteArray) (w : World) (hs : s.size ≤ 2000000) :
    Calls Tryz.prog 23 #[.string s] w fun e w' => e = .returned (.bool (isP s.data.toList)) ∧ Ext w w' := by
  have hc := rcan_any s w hs
  generalize hI : isP s.data.toList = I
  unfold isP at hI
  generalize canP s.data.toList = C at hc hI
  obtain ⟨x, code⟩ := C
  obtain ⟨xb, hx1, rfl⟩ := strv_b x
  simp only at hc hI
  rw [hx1] at hc
  have HI := Lib.hid hI
  have HC := Lib.hid hc
  clear hx1 hI hc
  by_cases h0 : code = 0
  · have hb : (code == 0) = true := by simpa using h0
    have HI2 := Lib.hid (show I = (xb.toList == s.toList) from by rw [← HI.out, hb, eq_b]; rfl)
    go_enter Tryz.func23, Tryz.ntmps23
    go_wp2_with (go_at_call 40; refine (HC.out).mono ?_; rintro e w1 ⟨rfl, hw1⟩; have HW1 := Lib.hid hw1; clear hw1)
    all_goals go_ret
    all_goals exact ⟨ret_bool (by rw [HI2.out]; try simp_all), HW1.out⟩
  · have hb : (code == 0) = false := by simpa using h0
    have HI2 := Lib.hid (show I = false from by rw [← HI.out, hb]; rfl)
    go_enter Tryz.func23, Tryz.ntmps23
    go_wp2_with (go_at_call 40; refine (HC.out).mono ?_; rintro e w1 ⟨rfl, hw1⟩; have HW1 := Lib.hid hw1; clear hw1)
    go_ret
    exact ⟨ret_bool HI2.out.symm, HW1.out⟩
end Go.Proofs.YtkflpenpjnnhdaaGreatDoor
