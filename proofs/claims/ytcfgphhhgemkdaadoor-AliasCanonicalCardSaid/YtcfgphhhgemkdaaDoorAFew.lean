import Derived.Test.YtcfgphhhgemkdaaDoorARdA
import Derived.IntWalk
namespace Go.Proofs.YtcfgphhhgemkdaaDoor
open Go.RowKit
set_option linter.unusedSimpArgs false
set_option linter.unusedVariables false

/-! Few aliases with short tags. -/
def shortA (a : Ali) : Bool := decide (a.1.size + a.2.size ≤ 120)
def fewL (l : List Ali) : Bool := l.all shortA && decide (l.length ≤ 12)
theorem fewL_len {l : List Ali} (h : fewL l = true) : l.length ≤ 12 ∧ ∀ a ∈ l, a.1.size ≤ 60000 ∧ a.2.size ≤ 60000 := by
  unfold fewL at h
  simp only [Bool.and_eq_true, decide_eq_true_eq] at h
  refine ⟨h.2, fun a ha => ?_⟩
  have := List.all_eq_true.1 h.1 a ha
  unfold shortA at this
  simp only [decide_eq_true_eq] at this
  omega
def FewInv (w : World) (l : List Ali) (n : Nat) (i : Value) (wr : World) : Prop :=
  ∃ k : Nat, k ≤ n ∧ i = .int .i64 k ∧ (l.take k).all shortA = true ∧ Ext w wr

set_option maxRecDepth 100000 in
theorem few20_any (l : List Ali) (A : Option Addr) (n c : Nat) (w : World) (hA : Als w A n l) (hn : n ≤ maxLen) (hz : ∀ a ∈ l, a.1.size ≤ reachBytes ∧ a.2.size ≤ reachBytes) :
    Calls Tryd.prog 6 #[.slice A n c] w fun e w' => e = .returned (.bool (fewL l)) ∧ Ext w w' := by
  unfold maxLen at hn
  have HA := Lib.hid hA
  have HL := Lib.hid hA.len
  have HZ := Lib.hid hz
  clear hA hz
  go_enter Tryd.func6, Tryd.ntmps6
  go_wp2_with fail
  go_loopw [3] (FewInv w l n) (fun i _ => n - (intOf i).toNat)
  case atStart => exact ⟨0, Nat.zero_le _, rfl, rfl, Ext.refl _⟩
  case round =>
    obtain ⟨k, hk, rfl, hall, hw⟩ := hrel
    have HALL := Lib.hid hall
    have HW := Lib.hid hw
    clear hall hw
    by_cases hkn : k < n
    · obtain ⟨⟨fb, ob⟩, hx⟩ : ∃ x, l[k]? = some x := ⟨_, List.getElem?_eq_getElem (by have := HL.out; omega)⟩
      obtain ⟨b, o, rfl, hb, c0, c1'⟩ := (HA.out.ext HW.out).at2 hx
      simp only at c0 c1'
      obtain ⟨z1, z2⟩ := HZ.out _ (List.mem_of_getElem? hx)
      simp only at z1 z2
      have zw : wrap64 ((fb.size : Int) + (ob.size : Int)) = (fb.size : Int) + (ob.size : Int) := by
        unfold reachBytes at z1 z2
        exact IntWalk.wrap64_in _ (by omega)
      have HX := Lib.hid hx
      clear hx
      go_wp2
      go_quiet (fail)
      by_cases h120 : fb.size + ob.size ≤ 120
      · have h120I : ¬ (120 : Int) < (fb.size : Int) + (ob.size : Int) := by omega
        go_wp2
        refine ⟨⟨k + 1, by omega, by go_num, ?_, HW.out.drewN _⟩, by simp [intOf]; omega⟩
        rw [take_next HX.out, List.all_append, HALL.out]
        simp [shortA, h120]
      · have h120I : (120 : Int) < (fb.size : Int) + (ob.size : Int) := by omega
        go_wp2
        go_ret
        refine ⟨ret_bool ?_, HW.out.drewN _⟩
        have : l.all shortA = false := by
          rw [List.all_eq_false]
          exact ⟨_, List.mem_of_getElem? HX.out, by simp [shortA]; omega⟩
        unfold fewL
        rw [this]
        rfl
    · have hkk : k = n := by omega
      subst hkk
      go_wp2
      go_ret
      refine ⟨ret_bool ?_, HW.out⟩
      have h := HALL.out
      rw [List.take_of_length_le (by have := HL.out; omega)] at h
      unfold fewL
      rw [h, HL.out, Bool.true_and]
      exact decide_eq_decide.2 (by omega)
end Go.Proofs.YtcfgphhhgemkdaaDoor
