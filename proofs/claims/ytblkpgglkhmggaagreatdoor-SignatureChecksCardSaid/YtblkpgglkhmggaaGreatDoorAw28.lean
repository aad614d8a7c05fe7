import Derived.Test.YtblkpgglkhmggaaGreatDoorTd
import Derived.Test.YtblkpgglkhmggaaGreatDoorSi
import Derived.Test.YtblkpgglkhmggaaGreatDoorLawKit
namespace Go.Proofs.YtblkpgglkhmggaaGreatDoor
open Go.RowKit
set_option linter.unusedSimpArgs false
set_option linter.unusedVariables false

/-! The example. -/
theorem SlN.lit2 (w : World) (cs : List Value) (t : TypeId) (n size : Nat) (h : cs.length = n * size) : SlN (w.alloc (.cells cs.toArray t)) (some ⟨w.heap.size, 0, none⟩) n size cs :=
  ⟨h, fun j u hu => ⟨w.heap.size, 0, rfl, by simp, by
    have h0 := heap_alloc_new w (.cells cs.toArray t)
    rw [Nat.zero_add, cell_of_row _ w.heap.size j cs.toArray t (0, 0) h0]
    simpa using hu⟩⟩
theorem SlN.lit3 (w : World) (cs : Array Value) (t : TypeId) (n size : Nat) (h : cs.toList.length = n * size) : SlN (w.alloc (.cells cs t)) (some ⟨w.heap.size, 0, none⟩) n size cs.toList := SlN.lit2 w cs.toList t n size h
def exL : List Fp := [⟨2, ⟨#[98]⟩, ⟨#[]⟩⟩, ⟨3, ⟨#[97]⟩, ⟨#[]⟩⟩, ⟨5, ⟨#[98]⟩, ⟨#[121, 77, 100]⟩⟩]
def exO : List ArgP := [([97], 2), ([98], 3)]
theorem exL_ok : ∀ x ∈ exL, Fok x := by
  intro x hx
  unfold exL at hx
  simp only [List.mem_cons, List.not_mem_nil, or_false] at hx
  rcases hx with rfl | rfl | rfl
  · exact ⟨.inl rfl, by decide, by decide, fields1_any⟩
  · exact ⟨.inr (.inl rfl), by decide, by decide, fields2_any⟩
  · exact ⟨.inr (.inr rfl), by decide, by decide, fields3_any⟩
theorem exL_fold : foldA [] (exL.map useOf) = some exO := by decide
theorem exO_valid : validA exO = true := by decide
theorem exO_cov : coversA exO exO = true := by decide
set_option maxRecDepth 100000 in
set_option maxHeartbeats 1000000 in
theorem awake_any (w : World) : Calls Tryz.prog 9 #[] w (RetTrue w) := by
  have hal : Fps (w.alloc (.cells #[.int .i64 2, .string ⟨#[]⟩, .string ⟨#[98]⟩, .string ⟨#[]⟩, .slice none 0 0, .slice none 0 0, .int .i64 3, .string ⟨#[]⟩, .string ⟨#[97]⟩, .string ⟨#[]⟩, .slice none 0 0, .slice none 0 0, .int .i64 5, .string ⟨#[]⟩, .string ⟨#[98]⟩, .string ⟨#[121, 77, 100]⟩, .slice none 0 0, .slice none 0 0] 36)) (some ⟨w.heap.size, 0, none⟩) 3 exL :=
    SlN.lit3 w #[.int .i64 2, .string ⟨#[]⟩, .string ⟨#[98]⟩, .string ⟨#[]⟩, .slice none 0 0, .slice none 0 0, .int .i64 3, .string ⟨#[]⟩, .string ⟨#[97]⟩, .string ⟨#[]⟩, .slice none 0 0, .slice none 0 0, .int .i64 5, .string ⟨#[]⟩, .string ⟨#[98]⟩, .string ⟨#[121, 77, 100]⟩, .slice none 0 0, .slice none 0 0] 36 3 6 rfl
  have HX := Lib.hid (show Ext w (w.alloc (.cells #[.int .i64 2, .string ⟨#[]⟩, .string ⟨#[98]⟩, .string ⟨#[]⟩, .slice none 0 0, .slice none 0 0, .int .i64 3, .string ⟨#[]⟩, .string ⟨#[97]⟩, .string ⟨#[]⟩, .slice none 0 0, .slice none 0 0, .int .i64 5, .string ⟨#[]⟩, .string ⟨#[98]⟩, .string ⟨#[121, 77, 100]⟩, .slice none 0 0, .slice none 0 0] 36)) from (Ext.refl w).alloc _)
  have K1 := Lib.hid (infer_flat exL exO (some ⟨w.heap.size, 0, none⟩) 3 3 _ hal (by decide) exL_ok (fun ad had => by injection had with had; subst had; simp) exL_fold (by decide) (by intro x hx; unfold exO at hx; simp only [List.mem_cons, List.not_mem_nil, or_false] at hx; rcases hx with rfl | rfl <;> decide))
  clear hal
  go_enter Tryz.func9, Tryz.ntmps9
  go_wp2_with fail
  refine K1.out.mono ?_
  rintro e w1 ⟨A, c, rfl, hs1, hw1⟩
  have e2 : exO.length = 2 := rfl
  rw [e2] at hs1 ⊢
  have HS1 := Lib.hid hs1
  have HW1 := Lib.hid (HX.out.trans hw1)
  have HL1 := Lib.hid (show Ags (w1.alloc (.cells #[.string ⟨#[97]⟩, .int .i64 2, .string ⟨#[98]⟩, .int .i64 3] 58)) (some ⟨w1.heap.size, 0, none⟩) 2 (exO.map agP) from SlN.lit3 w1 #[.string ⟨#[97]⟩, .int .i64 2, .string ⟨#[98]⟩, .int .i64 3] 58 2 2 rfl)
  have HS1b := Lib.hid (hs1.ext ((Ext.refl w1).alloc (.cells #[.string ⟨#[97]⟩, .int .i64 2, .string ⟨#[98]⟩, .int .i64 3] 58)))
  have HZ : Hid (∀ x ∈ exO.map agP, x.n.size ≤ maxLen) := Lib.hid (by intro x hx; unfold exO at hx; simp only [List.map_cons, List.map_nil, List.mem_cons, List.not_mem_nil, or_false] at hx; rcases hx with rfl | rfl <;> decide)
  have HQ := Lib.hid (show ((exO.map agP).map agOf == (exO.map agP).map agOf) = true from by simp)
  have HV := Lib.hid (show validA ((exO.map agP).map agOf) = true from by rw [agP_list]; exact exO_valid)
  have HCV := Lib.hid (show coversA ((exO.map agP).map agOf) ((exO.map agP).map agOf) = true from by rw [agP_list]; exact exO_cov)
  clear hs1 hw1 K1 e2
  go_wp2_with (first
    | (go_at_call 13; with_reducible refine (requal_any (exO.map agP) (exO.map agP) _ _ _ _ c 2 _ HS1b.out HL1.out (by unfold maxLen; omega) (by unfold maxLen; omega)).mono ?_; rintro e w4 ⟨rfl, hw4⟩; rw [HQ.out]; have HW4 := Lib.hid ((HW1.out.alloc (.cells #[.string ⟨#[97]⟩, .int .i64 2, .string ⟨#[98]⟩, .int .i64 3] 58)).trans hw4); have HS4 := Lib.hid (HS1b.out.ext hw4); clear hw4)
    | (go_at_call 14; with_reducible refine (tvalid28_any (exO.map agP) _ _ c _ HS4.out (by unfold maxLen; omega) HZ.out).mono ?_; rintro e w5 ⟨rfl, hw5⟩; rw [HV.out]; have HW5 := Lib.hid (HW4.out.trans hw5); have HS5 := Lib.hid (HS4.out.ext hw5); clear hw5)
    | (go_at_call 17; with_reducible refine (tcovers_any (exO.map agP) (exO.map agP) _ _ _ _ c c _ HS5.out HS5.out (by unfold maxLen; omega) (by unfold maxLen; omega) HZ.out HZ.out).mono ?_; rintro e w6 ⟨rfl, hw6⟩; rw [HCV.out]; have HW6 := Lib.hid (HW5.out.trans hw6); clear hw6))
  go_ret
  exact ⟨rfl, HW6.out⟩
end Go.Proofs.YtblkpgglkhmggaaGreatDoor
