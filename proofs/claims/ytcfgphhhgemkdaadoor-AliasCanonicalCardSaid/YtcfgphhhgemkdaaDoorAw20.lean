import Derived.Test.YtcfgphhhgemkdaaDoorAwP
import Derived.Test.YtcfgphhhgemkdaaDoorACan
import Derived.Test.YtcfgphhhgemkdaaDoorAVal
import Derived.Test.YtcfgphhhgemkdaaDoorLawKit
import Derived.Test.YtcfgphhhgemkdaaDoorSame
namespace Go.Proofs.YtcfgphhhgemkdaaDoor
open Go.RowKit
set_option linter.unusedSimpArgs false
set_option linter.unusedVariables false

theorem SlN.lit (w : World) (cs : List Value) (t : TypeId) (n size : Nat) (h : cs.length = n * size) : SlN (w.alloc (.cells cs.toArray t)) (some ⟨w.heap.size, 0, none⟩) n size cs :=
  ⟨h, fun j u hu => ⟨w.heap.size, 0, rfl, by simp, by
    have h0 := heap_alloc_new w (.cells cs.toArray t)
    rw [Nat.zero_add, cell_of_row _ w.heap.size j cs.toArray t (0, 0) h0]
    simpa using hu⟩⟩
theorem aw_steps (A : Option Addr) (n c : Nat) (w : World) (hm : Mx w) (hA : Als w A n exL) (hn : n ≤ 100000) : Calls Tryd.prog 11 #[.slice A n c, .string ⟨#[105, 119, 95, 98, 117]⟩] w fun e w' => ∃ A c, e = .returned (.tuple #[.slice A 3 c, .int .i64 0]) ∧
    Sl w' A 3 ([[105, 119, 45, 66, 85], [104, 101, 45, 66, 85], [104, 101, 45, 77, 77]].map strv) ∧ Ext w w' := by
  have h := tsteps_any exL xIb A n c w hm hA hn (by intro a ha; unfold exL at ha; simp at ha; rcases ha with rfl | rfl | rfl <;> exact ⟨by decide, by decide⟩) (by decide)
  rw [ex_steps] at h
  refine h.mono ?_
  rintro e w' ⟨A', n', c', he, hs, _, hw⟩
  have e3 : n' = 3 := by rw [hs.len]; rfl
  subst e3
  exact ⟨A', c', he, hs, hw⟩
theorem aw_can20 (A : Option Addr) (n c : Nat) (w : World) (hm : Mx w) (hA : Als w A n exL) (hn : n ≤ 100000) : Calls Tryd.prog 7 #[.slice A n c, .string ⟨#[122, 104, 45, 84, 87]⟩] w fun e w' => e = .returned (.tuple #[.string ⟨#[122, 104, 45, 72, 97, 110, 116, 45, 84, 87]⟩, .int .i64 0]) ∧ Ext w w' := by
  have h := tacan_any exL xTw A n c w hm hA hn (by intro a ha; unfold exL at ha; simp at ha; rcases ha with rfl | rfl | rfl <;> exact ⟨by decide, by decide⟩) (by decide)
  rw [exA_can] at h
  exact h
theorem aw_val (A : Option Addr) (n c : Nat) (w : World) (hm : Mx w) (hA : Als w A n exL) (hn : n ≤ 100000) : Calls Tryd.prog 13 #[.slice A n c] w fun e w' => e = .returned (.bool true) ∧ Ext w w' := by
  have h := taval_any exL A n c w hm hA hn (by intro a ha; unfold exL at ha; simp at ha; rcases ha with rfl | rfl | rfl <;> exact ⟨by decide, by decide⟩)
  rw [ex_valid] at h
  exact h

set_option maxRecDepth 100000 in
set_option maxHeartbeats 1000000 in
theorem awake_any (w : World) (hm : Mx w) : Calls Tryd.prog 5 #[] w (RetTrue w) := by
  have hal : Als (w.alloc (.cells #[.string ⟨#[105, 119]⟩, .string ⟨#[104, 101]⟩, .string ⟨#[117, 110, 100, 45, 66, 85]⟩, .string ⟨#[117, 110, 100, 45, 77, 77]⟩, .string ⟨#[122, 104, 45, 84, 87]⟩, .string ⟨#[122, 104, 45, 72, 97, 110, 116, 45, 84, 87]⟩] 34)) (some ⟨w.heap.size, 0, none⟩) 3 exL :=
    SlN.lit w [.string ⟨#[105, 119]⟩, .string ⟨#[104, 101]⟩, .string ⟨#[117, 110, 100, 45, 66, 85]⟩, .string ⟨#[117, 110, 100, 45, 77, 77]⟩, .string ⟨#[122, 104, 45, 84, 87]⟩, .string ⟨#[122, 104, 45, 72, 97, 110, 116, 45, 84, 87]⟩] 34 3 2 rfl
  have HAL := Lib.hid hal
  have HX := Lib.hid ((Ext.refl w).alloc (.cells #[.string ⟨#[105, 119]⟩, .string ⟨#[104, 101]⟩, .string ⟨#[117, 110, 100, 45, 66, 85]⟩, .string ⟨#[117, 110, 100, 45, 77, 77]⟩, .string ⟨#[122, 104, 45, 84, 87]⟩, .string ⟨#[122, 104, 45, 72, 97, 110, 116, 45, 84, 87]⟩] 34))
  clear hal
  go_enter Tryd.func5, Tryd.ntmps5
  go_wp2_with fail
  refine (aw_steps _ _ _ _ (hm.ext HX.out) HAL.out (by decide)).mono ?_
  rintro e w1 ⟨A, c, rfl, hs1, hw1⟩
  have HS1 := Lib.hid hs1
  have HW1 := Lib.hid (HX.out.trans hw1)
  have HX1 := Lib.hid hw1
  clear hs1 hw1
  go_wp2_with fail
  refine (aw_can20 _ _ _ _ (hm.ext HW1.out) (HAL.out.ext HX1.out) (by decide)).mono ?_
  rintro e w2 ⟨rfl, hw2⟩
  have HW2 := Lib.hid (HW1.out.trans hw2)
  have HX2 := Lib.hid (HX1.out.trans hw2)
  have HS2 := Lib.hid (HS1.out.ext (hw2.alloc (.cells #[.string ⟨#[105, 119, 45, 66, 85]⟩, .string ⟨#[104, 101, 45, 66, 85]⟩, .string ⟨#[104, 101, 45, 77, 77]⟩] 9)))
  have HL : Hid (Sl (w2.alloc (.cells #[.string ⟨#[105, 119, 45, 66, 85]⟩, .string ⟨#[104, 101, 45, 66, 85]⟩, .string ⟨#[104, 101, 45, 77, 77]⟩] 9)) (some ⟨w2.heap.size, 0, none⟩) 3 ([[105, 119, 45, 66, 85], [104, 101, 45, 66, 85], [104, 101, 45, 77, 77]].map strv)) := Lib.hid (Sl.lit w2 #[.string ⟨#[105, 119, 45, 66, 85]⟩, .string ⟨#[104, 101, 45, 66, 85]⟩, .string ⟨#[104, 101, 45, 77, 77]⟩] 9 3 rfl)
  have SB : Hid (((([[105, 119, 45, 66, 85], [104, 101, 45, 66, 85], [104, 101, 45, 77, 77]] : List (List UInt8)) == [[105, 119, 45, 66, 85], [104, 101, 45, 66, 85], [104, 101, 45, 77, 77]]) : Bool) = true) := Lib.hid (by decide)
  clear hw2
  go_wp2_with (first
    | (go_at_call 12; with_reducible refine (samestr_any [[105, 119, 45, 66, 85], [104, 101, 45, 66, 85], [104, 101, 45, 77, 77]] [[105, 119, 45, 66, 85], [104, 101, 45, 66, 85], [104, 101, 45, 77, 77]] _ _ _ _ c 3 _ HS2.out HL.out (by unfold maxLen; omega) (by unfold maxLen; omega)).mono ?_; rintro e w4 ⟨rfl, hw4⟩; rw [SB.out]; have HW4 := Lib.hid hw4; clear hw4)
    | (go_at_call 13; with_reducible refine (aw_val _ _ _ _ (hm.ext ((HW2.out.alloc _).trans HW4.out)) (HAL.out.ext ((HX2.out.alloc _).trans HW4.out)) (by decide)).mono ?_; rintro e w5 ⟨rfl, hw5⟩; have HW5 := Lib.hid hw5; clear hw5))
  go_ret
  exact ⟨rfl, ((HW2.out.alloc _).trans HW4.out).trans HW5.out⟩
end Go.Proofs.YtcfgphhhgemkdaaDoor
