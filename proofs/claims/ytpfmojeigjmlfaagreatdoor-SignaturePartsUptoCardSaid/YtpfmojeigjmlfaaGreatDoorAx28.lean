import Derived.Test.YtpfmojeigjmlfaaGreatDoorVe
import Derived.Test.YtpfmojeigjmlfaaGreatDoorSie
import Derived.Test.YtpfmojeigjmlfaaGreatDoorNB1
namespace Go.Proofs.YtpfmojeigjmlfaaGreatDoor
open Go.RowKit
set_option linter.unusedSimpArgs false
set_option linter.unusedVariables false

/-! The example. -/
theorem SlN.lit2 (w : World) (cs : List Value) (t : TypeId) (n size : Nat) (h : cs.length = n * size) : SlN (w.alloc (.cells cs.toArray t)) (some ⟨w.heap.size, 0, none⟩) n size cs :=
  ⟨h, fun j u hu => ⟨w.heap.size, 0, rfl, by simp, by
    have h0 := heap_alloc_new w (.cells cs.toArray t)
    rw [Nat.zero_add, cell_of_row _ w.heap.size j cs.toArray t (0, 0) h0]
    simpa using hu⟩⟩
theorem SlN.lit3 (w : World) (cs : Array Value) (t : TypeId) (n size : Nat) (h : cs.toList.length = n * size) : SlN (w.alloc (.cells cs t)) (some ⟨w.heap.size, 0, none⟩) n size cs.toList := SlN.lit2 w cs.toList t n size h
def ex28F : F := .cons 2 [] [98] [] .nil .nil (.cons 3 [] [97] [] .nil .nil (.cons 5 [] [98] [121, 77, 100] .nil .nil .nil))
def exO : List ArgP := [([97], 2), ([98], 3)]
theorem ex28_inf : inferV ex28F = (exO, 0) := by kernel_rfl
theorem ex28_can : Can ex28F := by
  unfold ex28F
  simp [Can, CanC]
theorem exO_valid : validA exO = true := by decide
theorem exO_cov : coversA exO exO = true := by decide
set_option maxRecDepth 100000 in
set_option maxHeartbeats 1000000 in
theorem awake28_any (w : World) (hm : Mx w) : Calls Tryz.prog 28 #[] w (RetTrue w) := by
  have hs := SlN.lit3 w #[.int .i64 2, .string ⟨#[]⟩, .string ⟨#[98]⟩, .string ⟨#[]⟩, .slice none 0 0, .slice none 0 0, .int .i64 3, .string ⟨#[]⟩, .string ⟨#[97]⟩, .string ⟨#[]⟩, .slice none 0 0, .slice none 0 0, .int .i64 5, .string ⟨#[]⟩, .string ⟨#[98]⟩, .string ⟨#[121, 77, 100]⟩, .slice none 0 0, .slice none 0 0] 50 3 6 rfl
  have hal : FwS (w.alloc (.cells #[.int .i64 2, .string ⟨#[]⟩, .string ⟨#[98]⟩, .string ⟨#[]⟩, .slice none 0 0, .slice none 0 0, .int .i64 3, .string ⟨#[]⟩, .string ⟨#[97]⟩, .string ⟨#[]⟩, .slice none 0 0, .slice none 0 0, .int .i64 5, .string ⟨#[]⟩, .string ⟨#[98]⟩, .string ⟨#[121, 77, 100]⟩, .slice none 0 0, .slice none 0 0] 50)) (fun _ => True) ex28F (.slice (some ⟨w.heap.size, 0, none⟩) 3 3) := by
    refine ⟨_, _, _, rfl, hs, fun _ _ _ => trivial, ?_⟩
    unfold ex28F
    rw [Fw]
    refine ⟨none, 0, none, 0, [], [], _, rfl, ⟨SlN.nil _ _ _, fun _ _ _ => trivial, by rw [Cw]⟩, ⟨SlN.nil _ _ _, fun _ _ _ => trivial, by rw [Fw]⟩, ?_⟩
    rw [Fw]
    refine ⟨none, 0, none, 0, [], [], _, rfl, ⟨SlN.nil _ _ _, fun _ _ _ => trivial, by rw [Cw]⟩, ⟨SlN.nil _ _ _, fun _ _ _ => trivial, by rw [Fw]⟩, ?_⟩
    rw [Fw]
    exact ⟨none, 0, none, 0, [], [], [], rfl, ⟨SlN.nil _ _ _, fun _ _ _ => trivial, by rw [Cw]⟩, ⟨SlN.nil _ _ _, fun _ _ _ => trivial, by rw [Fw]⟩, by rw [Fw]⟩
  have HX := Lib.hid (show Ext w (w.alloc (.cells #[.int .i64 2, .string ⟨#[]⟩, .string ⟨#[98]⟩, .string ⟨#[]⟩, .slice none 0 0, .slice none 0 0, .int .i64 3, .string ⟨#[]⟩, .string ⟨#[97]⟩, .string ⟨#[]⟩, .slice none 0 0, .slice none 0 0, .int .i64 5, .string ⟨#[]⟩, .string ⟨#[98]⟩, .string ⟨#[121, 77, 100]⟩, .slice none 0 0, .slice none 0 0] 50)) from (Ext.refl w).alloc _)
  have K1 := Lib.hid (tinfer_any hal ex28_can (by decide) (hm.ext HX.out))
  rw [ex28_inf] at K1
  clear hal hs hm
  go_enter Tryz.func28, Tryz.ntmps28
  go_wp2_with fail
  refine K1.out.mono ?_
  rintro e w1 ⟨A, n1, c, rfl, hs1, hw1⟩
  obtain rfl : n1 = 2 := by have := hs1.len; exact this.symm
  have hs1 : Ags w1 A 2 (exO.map agP) := hs1
  have HS1 := Lib.hid hs1
  have HW1 := Lib.hid (HX.out.trans hw1)
  have HL1 := Lib.hid (show Ags (w1.alloc (.cells #[.string ⟨#[97]⟩, .int .i64 2, .string ⟨#[98]⟩, .int .i64 3] 66)) (some ⟨w1.heap.size, 0, none⟩) 2 (exO.map agP) from SlN.lit3 w1 #[.string ⟨#[97]⟩, .int .i64 2, .string ⟨#[98]⟩, .int .i64 3] 66 2 2 rfl)
  have HS1b := Lib.hid (hs1.ext ((Ext.refl w1).alloc (.cells #[.string ⟨#[97]⟩, .int .i64 2, .string ⟨#[98]⟩, .int .i64 3] 66)))
  have HZ : Hid (∀ x ∈ exO.map agP, x.n.size ≤ maxLen) := Lib.hid (by intro x hx; unfold exO at hx; simp only [List.map_cons, List.map_nil, List.mem_cons, List.not_mem_nil, or_false] at hx; rcases hx with rfl | rfl <;> decide)
  have HQ := Lib.hid (show ((exO.map agP).map agOf == (exO.map agP).map agOf) = true from by simp)
  have HV := Lib.hid (show validA ((exO.map agP).map agOf) = true from by rw [agP_list]; exact exO_valid)
  have HCV := Lib.hid (show coversA ((exO.map agP).map agOf) ((exO.map agP).map agOf) = true from by rw [agP_list]; exact exO_cov)
  clear hs1 hw1 K1
  go_wp2_with (first
    | (go_at_call 31; with_reducible refine (requal28_any (exO.map agP) (exO.map agP) _ _ _ _ c 2 _ HS1b.out HL1.out (by unfold maxLen; omega) (by unfold maxLen; omega)).mono ?_; rintro e w4 ⟨rfl, hw4⟩; rw [HQ.out]; have HW4 := Lib.hid ((HW1.out.alloc (.cells #[.string ⟨#[97]⟩, .int .i64 2, .string ⟨#[98]⟩, .int .i64 3] 66)).trans hw4); have HS4 := Lib.hid (HS1b.out.ext hw4); clear hw4)
    | (go_at_call 32; with_reducible refine (tvalid28_any (exO.map agP) _ _ c _ HS4.out (by unfold maxLen; omega) HZ.out).mono ?_; rintro e w5 ⟨rfl, hw5⟩; rw [HV.out]; have HW5 := Lib.hid (HW4.out.trans hw5); have HS5 := Lib.hid (HS4.out.ext hw5); clear hw5)
    | (go_at_call 35; with_reducible refine (tcovers_any (exO.map agP) (exO.map agP) _ _ _ _ c c _ HS5.out HS5.out (by unfold maxLen; omega) (by unfold maxLen; omega) HZ.out HZ.out).mono ?_; rintro e w6 ⟨rfl, hw6⟩; rw [HCV.out]; have HW6 := Lib.hid (HW5.out.trans hw6); clear hw6))
  go_ret
  exact ⟨rfl, HW6.out⟩
end Go.Proofs.YtpfmojeigjmlfaaGreatDoor
