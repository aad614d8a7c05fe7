import Derived.Test.YtcfgphhhgemkdaaDoorProg
import Derived.Test.YtcfgphhhgemkdaaDoorBase
namespace Go.Proofs.YtcfgphhhgemkdaaDoor
open Go.RowKit

def SameInv (w : World) (xs ys : List ByteArray) (n : Nat) (i : Value) (wr : World) : Prop :=
  ∃ k : Nat, k ≤ n ∧ i = .int .i64 k ∧ Ext w wr ∧ xs.take k = ys.take k

theorem same_any (xs ys : List ByteArray) (A B : Option Addr) (n m ca cb : Nat) (w : World) (hA : Sl w A n (xs.map .string)) (hB : Sl w B m (ys.map .string)) (hn : n ≤ maxLen) (hm : m ≤ maxLen) :
    Calls Tryd.prog 12 #[.slice A n ca, .slice B m cb] w fun e w' => e = .returned (.bool (decide (xs = ys))) ∧ Ext w w' := by
  unfold maxLen at hn hm
  have hla : xs.length = n := by have := hA.1; simpa using this
  have hlb : ys.length = m := by have := hB.1; simpa using this
  have H1 := Lib.hid hA
  have H2 := Lib.hid hB
  have L1 := Lib.hid hla
  have L2 := Lib.hid hlb
  clear hA hB hla hlb
  by_cases hnm : n = m
  · subst hnm
    go_enter Tryd.func12, Tryd.ntmps12
    go_wp2
    go_loopw [5] (SameInv w xs ys n) (fun i _ => n - (intOf i).toNat)
    case atStart => exact ⟨0, Nat.zero_le _, rfl, Ext.refl _, rfl⟩
    case round =>
      obtain ⟨k, hk, rfl, hw, ht⟩ := hrel
      have HT := Lib.hid ht
      have HW := Lib.hid hw
      clear ht hw
      by_cases hlt : k < n
      · obtain ⟨ad, x, rfl, hu, hc⟩ := (H1.out.ext HW.out).at_map hlt
        obtain ⟨bd, y, rfl, hv, hd⟩ := (H2.out.ext HW.out).at_map hlt
        have HU := Lib.hid hu
        have HV := Lib.hid hv
        clear hu hv
        by_cases hxy : x = y
        · subst hxy
          have hb : (!x.toList == x.toList) = false := by simp
          go_wp2
          go_quiet (fail)
          all_goals go_wp2
          refine ⟨⟨k + 1, by omega, by go_num, HW.out.drewN _, ?_⟩, by simp [intOf]; omega⟩
          rw [take_next HU.out, take_next HV.out, HT.out]
        · have hb : (!x.toList == y.toList) = true := by rw [bytes_ne hxy]; rfl
          have HXY := Lib.hid hxy
          clear hxy
          go_wp2
          go_quiet (fail)
          all_goals go_wp2
          go_ret
          refine ⟨ret_bool ?_, HW.out.drewN _⟩
          have hne : xs ≠ ys := by
            intro h
            have h1 := HU.out
            rw [h, HV.out] at h1
            exact HXY.out (by injection h1 with h1; exact h1.symm)
          simp [hne]
      · go_wp2
        go_ret
        refine ⟨ret_bool ?_, HW.out⟩
        have h1 := HT.out
        rw [List.take_of_length_le (by have := L1.out; omega), List.take_of_length_le (by have := L2.out; omega)] at h1
        simp [h1]
  · have hb : ((n : Int) != (m : Int)) = true := by simp; omega
    go_enter Tryd.func12, Tryd.ntmps12
    go_wp2
    go_ret
    refine ⟨ret_bool ?_, Ext.refl _⟩
    have hne : xs ≠ ys := by
      intro h
      subst h
      exact hnm (L1.out.symm.trans L2.out)
    simp [hne]

theorem strv_maps (l : List (List UInt8)) : l.map strv = (l.map fun x => (⟨x.toArray⟩ : ByteArray)).map Value.string := by simp [strv]
/-- The same in lists of bytes. -/
theorem samestr_any (xs ys : List (List UInt8)) (A B : Option Addr) (n m ca cb : Nat) (w : World) (hA : Sl w A n (xs.map strv)) (hB : Sl w B m (ys.map strv)) (hn : n ≤ maxLen) (hm : m ≤ maxLen) :
    Calls Tryd.prog 12 #[.slice A n ca, .slice B m cb] w fun e w' => e = .returned (.bool (xs == ys)) ∧ Ext w w' := by
  rw [strv_maps] at hA hB
  refine (same_any _ _ A B n m ca cb w hA hB hn hm).mono ?_
  rintro e w' ⟨rfl, hw⟩
  refine ⟨ret_bool ?_, hw⟩
  rw [Bool.eq_iff_iff]
  simp only [decide_eq_true_eq, beq_iff_eq]
  constructor
  · intro h
    have h2 := congrArg (List.map fun b : ByteArray => b.data.toList) h
    simpa [List.map_map, Function.comp_def] using h2
  · rintro rfl; rfl
end Go.Proofs.YtcfgphhhgemkdaaDoor
