import Derived.Test.YtblkpgglkhmggaaGreatDoorSk
import Derived.Test.YtblkpgglkhmggaaGreatDoorAtC
import Derived.Test.YtblkpgglkhmggaaGreatDoorExtW
import Derived.Test.YtblkpgglkhmggaaGreatDoorMapS
import Derived.Maps.RangeWalk
import Derived.IntWalk
import Derived.LoopN
namespace Go.Proofs.YtblkpgglkhmggaaGreatDoor
open Go.RowKit Go.Maps Go.Sort
set_option linter.unusedSimpArgs false
set_option linter.unusedVariables false

/-! The fields of the three parts of the example; the words of the uses. -/
theorem sel_any (k : Int) (w : World) : Calls Tryz.prog 93 #[.int .i64 k] w fun e w' => e = .returned (.bool (decide (7 ≤ k) && decide (k ≤ 9))) ∧ w = w' := by
  go_enter Tryz.func93, Tryz.ntmps93
  go_wp2
  all_goals (go_ret; exact ⟨ret_bool (by rw [Bool.eq_iff_iff]; simp; omega), rfl⟩)
set_option maxRecDepth 100000 in
theorem skel_ex (w : World) : Calls Tryz.prog 107 #[.string ⟨#[121, 77, 100]⟩] w fun e w' => e = .returned (.bool true) ∧ w = w' := by
  go_enter Tryz.func107, Tryz.ntmps107
  go_wp2
  refine wp_loop_rounds 4 ?_
  rw [rounds_succ]
  go_wp2
  rw [rounds_succ]
  go_wp2
  rw [rounds_succ]
  go_wp2
  rw [rounds_succ]
  go_wp2
  go_ret
  exact ⟨rfl, rfl⟩
theorem name_ex (w : World) : Calls Tryz.prog 42 #[.string ⟨#[98]⟩] w fun e w' => e = .returned (.bool true) ∧ w = w' := by
  have h := tname_any ⟨#[98]⟩ w (by decide)
  rwa [show nameB (⟨#[98]⟩ : ByteArray).data.toList = true from by decide] at h
theorem name_ex2 (w : World) : Calls Tryz.prog 42 #[.string ⟨#[97]⟩] w fun e w' => e = .returned (.bool true) ∧ w = w' := by
  have h := tname_any ⟨#[97]⟩ w (by decide)
  rwa [show nameB (⟨#[97]⟩ : ByteArray).data.toList = true from by decide] at h
set_option maxRecDepth 100000 in
set_option maxHeartbeats 1000000 in
theorem fields1_any (w : World) : Calls Tryz.prog 92 #[.agg #[.int .i64 2, .string ⟨#[]⟩, .string ⟨#[98]⟩, .string ⟨#[]⟩, .slice none 0 0, .slice none 0 0]] w fun e w' => e = .returned (.bool true) ∧ Ext w w' := by
  have K1 := Lib.hid name_ex
  have K2 := Lib.hid sel_any
  go_enter Tryz.func92, Tryz.ntmps92
  go_wp2_with (go_at_call 42; refine (K1.out _).mono ?_; rintro e w' ⟨rfl, rfl⟩)
  go_ret
  exact ⟨rfl, ((Ext.refl w).alloc _).alloc _⟩
set_option maxRecDepth 100000 in
set_option maxHeartbeats 1000000 in
theorem fields2_any (w : World) : Calls Tryz.prog 92 #[.agg #[.int .i64 3, .string ⟨#[]⟩, .string ⟨#[97]⟩, .string ⟨#[]⟩, .slice none 0 0, .slice none 0 0]] w fun e w' => e = .returned (.bool true) ∧ Ext w w' := by
  have K1 := Lib.hid name_ex2
  have K2 := Lib.hid sel_any
  go_enter Tryz.func92, Tryz.ntmps92
  go_wp2_with (first | (go_at_call 42; refine (K1.out _).mono ?_; rintro e w' ⟨rfl, rfl⟩) | go_region)
  go_ret
  exact ⟨rfl, (((Ext.refl w).alloc _).alloc _).drew⟩
set_option maxRecDepth 100000 in
set_option maxHeartbeats 1000000 in
theorem fields3_any (w : World) : Calls Tryz.prog 92 #[.agg #[.int .i64 5, .string ⟨#[]⟩, .string ⟨#[98]⟩, .string ⟨#[121, 77, 100]⟩, .slice none 0 0, .slice none 0 0]] w fun e w' => e = .returned (.bool true) ∧ Ext w w' := by
  have K1 := Lib.hid name_ex
  have K3 := Lib.hid skel_ex
  have K2 := Lib.hid sel_any
  go_enter Tryz.func92, Tryz.ntmps92
  go_wp2_with (first | (go_at_call 42; refine (K1.out _).mono ?_; rintro e w' ⟨rfl, rfl⟩) | (go_at_call 107; refine (K3.out _).mono ?_; rintro e w' ⟨rfl, rfl⟩) | go_region)
  go_ret
  exact ⟨rfl, (((Ext.refl w).alloc _).alloc _).drew⟩
def usesL : List ArgP := [([115, 101, 108, 101, 99, 116], 9), ([111, 114, 100, 105, 110, 97, 108], 8), ([112, 108, 117, 114, 97, 108], 7), ([108, 105, 115, 116], 6), ([100, 97, 116, 101], 5), ([117, 110, 105, 116], 4), ([110, 117, 109, 98, 101, 114], 3)]
set_option maxRecDepth 100000 in
theorem uses_any (w : World) : Calls Tryz.prog 96 #[] w fun e w' => e = .returned (.map (some w.heap.size)) ∧ MapI Tryz.prog 9 3 w' w.heap.size 7 usesL ∧ Ext w w' := by
  have hmm := @run_makeMap Tryz.prog
  have u0 := MapI.made Tryz.prog 9 3 w
  have x0 : Ext w (w.alloc (.map #[] 0)) := (Ext.refl w).alloc _
  obtain ⟨w1, r1, m1, g1⟩ := u0.update Tryz.underlying9 Tryz.underlying3 Tryz.underlying61 (by decide) ⟨#[110, 117, 109, 98, 101, 114]⟩ (by decide) 3 (by decide)
  obtain ⟨w2, r2, m2, g2⟩ := m1.update Tryz.underlying9 Tryz.underlying3 Tryz.underlying61 (by decide) ⟨#[117, 110, 105, 116]⟩ (by decide) 4 (by decide)
  obtain ⟨w3, r3, m3, g3⟩ := m2.update Tryz.underlying9 Tryz.underlying3 Tryz.underlying61 (by decide) ⟨#[100, 97, 116, 101]⟩ (by decide) 5 (by decide)
  obtain ⟨w4, r4, m4, g4⟩ := m3.update Tryz.underlying9 Tryz.underlying3 Tryz.underlying61 (by decide) ⟨#[108, 105, 115, 116]⟩ (by decide) 6 (by decide)
  obtain ⟨w5, r5, m5, g5⟩ := m4.update Tryz.underlying9 Tryz.underlying3 Tryz.underlying61 (by decide) ⟨#[112, 108, 117, 114, 97, 108]⟩ (by decide) 7 (by decide)
  obtain ⟨w6, r6, m6, g6⟩ := m5.update Tryz.underlying9 Tryz.underlying3 Tryz.underlying61 (by decide) ⟨#[111, 114, 100, 105, 110, 97, 108]⟩ (by decide) 8 (by decide)
  obtain ⟨w7, r7, m7, g7⟩ := m6.update Tryz.underlying9 Tryz.underlying3 Tryz.underlying61 (by decide) ⟨#[115, 101, 108, 101, 99, 116]⟩ (by decide) 9 (by decide)
  have q1 : Exc (fun j => j = w.heap.size) _ _ := Exc.grown g1 rfl
  have q2 : Exc (fun j => j = w.heap.size) _ _ := Exc.grown g2 rfl
  have q3 : Exc (fun j => j = w.heap.size) _ _ := Exc.grown g3 rfl
  have q4 : Exc (fun j => j = w.heap.size) _ _ := Exc.grown g4 rfl
  have q5 : Exc (fun j => j = w.heap.size) _ _ := Exc.grown g5 rfl
  have q6 : Exc (fun j => j = w.heap.size) _ _ := Exc.grown g6 rfl
  have q7 : Exc (fun j => j = w.heap.size) _ _ := Exc.grown g7 rfl
  have hx : Exc (fun j => j = w.heap.size) (w.alloc (.map #[] 0)) w7 := q1.trans (q2.trans (q3.trans (q4.trans (q5.trans (q6.trans q7)))))
  have HX := Lib.hid (show Ext w w7 from Below.trans x0 (hx.below (fun j hj => by subst hj; exact Nat.le_refl _) (by simp)))
  have HM := Lib.hid (show MapI Tryz.prog 9 3 w7 w.heap.size 7 usesL from m7)
  clear u0 m1 m2 m3 m4 m5 m6 m7 g1 g2 g3 g4 g5 g6 g7 q1 q2 q3 q4 q5 q6 q7 hx x0
  go_enter Tryz.func96, Tryz.ntmps96
  go_wp2
  go_ret
  exact ⟨rfl, HM.out, HX.out⟩
end Go.Proofs.YtblkpgglkhmggaaGreatDoor
