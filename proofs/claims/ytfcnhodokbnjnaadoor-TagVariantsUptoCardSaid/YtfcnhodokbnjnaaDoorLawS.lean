import Derived.Test.YtfcnhodokbnjnaaDoorAnc
import Derived.Test.YtfcnhodokbnjnaaDoorEq
import Derived.Test.YtfcnhodokbnjnaaDoorLawKit
namespace Go.Proofs.YtfcnhodokbnjnaaDoor
open Go.RowKit
set_option linter.unusedSimpArgs false
set_option linter.unusedVariables false

/-! The examples. -/
def xA : ByteArray := ⟨#[90, 72, 95, 104, 97, 110, 116, 45, 116, 119]⟩
def xB : ByteArray := ⟨#[100, 101, 45, 49, 57, 57, 54, 45, 65, 84]⟩
def xC : ByteArray := ⟨#[115, 108, 45, 114, 111, 122, 97, 106, 45, 98, 105, 115, 107, 101]⟩
theorem sortS_nil : sortS [] = [] := by simp [sortS]
theorem ex_ancs : ancL xA.data.toList = ([[122, 104, 45, 72, 97, 110, 116], [122, 104], [117, 110, 100]], 0) := by
  have h1 : parseP EC xA.data.toList = finT EC ⟨[122, 104], [72, 97, 110, 116], [84, 87], []⟩ := by kernel_rfl
  have h : parseP EC xA.data.toList = (⟨[122, 104], [72, 97, 110, 116], [84, 87], []⟩, 0) := h1.trans (finT_of _ _ (by decide +kernel))
  unfold ancL
  rw [h]
  decide +kernel
theorem ex_parse : (parseP EC xB.data.toList).2 = 3 := by decide +kernel
theorem ex_can : canP xC.data.toList = ([115, 108, 45, 98, 105, 115, 107, 101, 45, 114, 111, 122, 97, 106], 0) := by
  have h1 : parseP EC xC.data.toList = finT EC { (⟨[115, 108], [], [], []⟩ : TagP) with vars := [[114, 111, 122, 97, 106], [98, 105, 115, 107, 101]] } := by kernel_rfl
  rw [finT_perm EC _ _ [[98, 105, 115, 107, 101], [114, 111, 122, 97, 106]] (List.Perm.swap _ _ _), finT_of _ _ (by decide +kernel)] at h1
  unfold canP
  rw [h1]
  decide +kernel
theorem Sl.lit (w : World) (cs : Array Value) (t : TypeId) (n : Nat) (hn : cs.size = n) : Sl (w.alloc (.cells cs t)) (some ⟨w.heap.size, 0, none⟩) n cs.toList :=
  ⟨by simpa using hn, fun j u hu => ⟨_, rfl, by simp, by
    have e1 : (⟨w.heap.size, 0, none⟩ : Addr).add j = ⟨w.heap.size, j, none⟩ := by
      unfold Addr.add
      split
      · subst_vars; rfl
      · simp
    rw [e1, cell_of_row _ w.heap.size j cs t (0, 0) (heap_alloc_new w _)]
    simpa using hu⟩⟩

theorem aw_anc (w : World) (hm : Mx w) : Calls Tryd.prog 20 #[.string ⟨#[90, 72, 95, 104, 97, 110, 116, 45, 116, 119]⟩] w fun e w' => ∃ A c, e = .returned (.tuple #[.slice A 3 c, .int .i64 0]) ∧
    Sl w' A 3 ([[122, 104, 45, 72, 97, 110, 116], [122, 104], [117, 110, 100]].map strv) ∧ Ext w w' := by
  have h := tanc_any xA w hm (by decide)
  rw [ex_ancs] at h
  refine h.mono ?_
  rintro e w' ⟨A, n, c, he, hs, _, hw⟩
  have e3 : n = 3 := by rw [hs.len]; rfl
  subst e3
  exact ⟨A, c, he, hs, hw⟩
theorem aw_parse (w : World) (hm : Mx w) : Calls Tryd.prog 11 #[.string ⟨#[100, 101, 45, 49, 57, 57, 54, 45, 65, 84]⟩] w fun e w' => ∃ A n c, e = .returned (.tuple #[tagV TagP.zero A n c, .int .i64 3]) ∧ Ext w w' := by
  have h := tparse_any xB w hm (by decide)
  have hz := parse_zero EC xB.data.toList (by rw [ex_parse]; decide)
  rw [ex_parse, hz] at h
  refine h.mono ?_
  rintro e w' ⟨A, n, c, he, _, _, hw⟩
  exact ⟨A, n, c, he, hw⟩
theorem aw_can (w : World) (hm : Mx w) : Calls Tryd.prog 13 #[.string ⟨#[115, 108, 45, 114, 111, 122, 97, 106, 45, 98, 105, 115, 107, 101]⟩] w fun e w' =>
    e = .returned (.tuple #[.string ⟨#[115, 108, 45, 98, 105, 115, 107, 101, 45, 114, 111, 122, 97, 106]⟩, .int .i64 0]) ∧ Ext w w' := by
  have h := tcan_any xC w hm (by decide)
  rw [ex_can] at h
  exact h

set_option maxRecDepth 100000 in
set_option maxHeartbeats 1000000 in
theorem awake_any (w : World) (hm : Mx w) : Calls Tryd.prog 10 #[] w (RetTrue w) := by
  go_enter Tryd.func10, Tryd.ntmps10
  go_wp2_with fail
  refine (aw_anc _ hm).mono ?_
  rintro e w1 ⟨A, c, rfl, hs1, hw1⟩
  have HS1 := Lib.hid hs1
  have HW1 := Lib.hid hw1
  have HM1 := Lib.hid (hm.ext hw1)
  clear hs1 hw1 hm
  go_wp2_with fail
  refine (aw_parse _ HM1.out).mono ?_
  rintro e w2 ⟨A2, n2, c2, rfl, hw2⟩
  have HW2 := Lib.hid hw2
  have HM2 := Lib.hid ((HM1.out.ext hw2).ext (Ext.refl _ |>.alloc (.cells #[strv [], strv [], strv [], .slice A2 n2 c2] 25)))
  clear hw2
  unfold tagV TagP.zero strv
  go_wp2_with fail
  refine (aw_can _ HM2.out).mono ?_
  rintro e w3 ⟨rfl, hw3⟩
  have HW3 := Lib.hid hw3
  clear hw3
  have HL : Hid (Sl (w3.alloc (.cells #[.string ⟨#[122, 104, 45, 72, 97, 110, 116]⟩, .string ⟨#[122, 104]⟩, .string ⟨#[117, 110, 100]⟩] 9)) (some ⟨w3.heap.size, 0, none⟩) 3 ([[122, 104, 45, 72, 97, 110, 116], [122, 104], [117, 110, 100]].map strv)) := Lib.hid (Sl.lit w3 #[.string ⟨#[122, 104, 45, 72, 97, 110, 116]⟩, .string ⟨#[122, 104]⟩, .string ⟨#[117, 110, 100]⟩] 9 3 rfl)
  have HE := Lib.hid ((HW1.out.trans HW2.out).alloc (.cells #[.string ⟨#[]⟩, .string ⟨#[]⟩, .string ⟨#[]⟩, .slice A2 n2 c2] 25))
  have HS3 := Lib.hid (HS1.out.ext (((HW2.out.alloc (.cells #[.string ⟨#[]⟩, .string ⟨#[]⟩, .string ⟨#[]⟩, .slice A2 n2 c2] 25)).trans HW3.out).alloc (.cells #[.string ⟨#[122, 104, 45, 72, 97, 110, 116]⟩, .string ⟨#[122, 104]⟩, .string ⟨#[117, 110, 100]⟩] 9)))
  have SB : Hid (((([[122, 104, 45, 72, 97, 110, 116], [122, 104], [117, 110, 100]] : List (List UInt8)) == [[122, 104, 45, 72, 97, 110, 116], [122, 104], [117, 110, 100]]) : Bool) = true) := Lib.hid (by decide)
  go_wp2_with (go_at_call 22; with_reducible refine (samestr_any [[122, 104, 45, 72, 97, 110, 116], [122, 104], [117, 110, 100]] [[122, 104, 45, 72, 97, 110, 116], [122, 104], [117, 110, 100]] _ _ _ _ c 3 _ HS3.out HL.out (by unfold maxLen; omega) (by unfold maxLen; omega)).mono ?_; rintro e w4 ⟨rfl, hw4⟩; rw [SB.out]; have HW4 := Lib.hid hw4; clear hw4)
  go_ret
  exact ⟨rfl, ((HE.out.trans HW3.out).alloc _).trans HW4.out⟩
end Go.Proofs.YtfcnhodokbnjnaaDoor
