import Derived.Test.YtfcnhodokbnjnaaDoorLawS
import Derived.Test.YtfcnhodokbnjnaaDoorLawKit
import Derived.Test.YtfcnhodokbnjnaaDoorLawO
namespace Go.Proofs.YtfcnhodokbnjnaaDoor
open Go.ChangeShapes Go.WideShapes Go.ChangeAt Go.RowKit
set_option linter.unusedSimpArgs false
set_option linter.unusedVariables false

/-! TagVariants: what the loop asks of each text. -/
def goodV (x : List UInt8) : Bool := isP (117 :: 110 :: 100 :: 45 :: x) && decide (4 ≤ x.length) && !(x.getD 3 0 == 45) && !(isCap (x.getD 0 0))
theorem good_vars {x : List UInt8} (h : goodV x = true) : (spOf x).all variantB = true ∧ x.length ≤ 56 := by
  unfold goodV at h
  simp only [Bool.and_eq_true, Bool.not_eq_true', decide_eq_true_eq, beq_eq_false_iff_ne] at h
  obtain ⟨⟨⟨h1, h2⟩, h3⟩, h4⟩ := h
  have hc : (canP (117 :: 110 :: 100 :: 45 :: x)).2 = 0 ∧ (canP (117 :: 110 :: 100 :: 45 :: x)).1 = 117 :: 110 :: 100 :: 45 :: x := by
    unfold isP at h1
    simpa using h1
  unfold canP at hc
  obtain ⟨hc1, hc2⟩ := hc
  simp only at hc1 hc2
  rw [if_pos hc1] at hc2
  have hv := parse_ok hc1
  refine ⟨und_variants _ hv x (by rw [text_eq _ hv]; exact hc2) h2 ?_ ?_, ?_⟩
  · intro h
    apply h3
    rw [List.getD_eq_getElem?_getD, h]
    rfl
  · intro c hc
    rw [List.getD_eq_getElem?_getD, hc] at h4
    exact h4
  · have := textP_len hv
    rw [hc2] at this
    simp only [List.length_cons] at this
    omega
theorem hang_len (a : List UInt8) (l : List (List UInt8)) (M : Nat) (h : ∀ x ∈ l, x.length ≤ M) : (hang a l).length ≤ a.length + l.length * (M + 1) := by
  induction l generalizing a with
  | nil => simp [hang]
  | cons x r ih =>
    have e : hang a (x :: r) = hang (a ++ 45 :: x) r := by simp [hang]
    have h1 := ih (a ++ 45 :: x) (fun y hy => h y (by simp [hy]))
    have h2 := h x (by simp)
    rw [e, List.length_cons, Nat.succ_mul]
    simp only [List.length_append, List.length_cons] at h1
    omega
theorem hang_can (s : List UInt8) (l : List (List UInt8)) (h : ∀ x ∈ l, goodV x = true) : canP (hang s l.reverse) = canP (hang s l) := by
  unfold canP
  rw [parse_hang EC s l l.reverse (List.reverse_perm l).symm fun x hx => (good_vars (h x hx)).1]
theorem good_of {x : ByteArray} (h1 : isP (117 :: 110 :: 100 :: 45 :: x.data.toList) = true) (h4 : 4 ≤ x.size) (h3 : ¬ ((x[3]'(by omega)).toNat : Int) = 45) (h0 : ¬ 65 ≤ ((x[0]'(by omega)).toNat : Int) ∨ 90 < ((x[0]'(by omega)).toNat : Int)) : goodV x.data.toList = true := by
  have g : ∀ j (h : j < x.size), x.data.toList.getD j 0 = x[j] := by
    intro j h
    rw [List.getD_eq_getElem?_getD, List.getElem?_eq_getElem (by rw [size_list]; exact h), get_list x j h]
    rfl
  unfold goodV
  rw [h1, size_list, g 3 (by omega), g 0 (by omega)]
  simp only [Bool.true_and, Bool.and_eq_true, decide_eq_true_eq, Bool.not_eq_true', beq_eq_false_iff_ne]
  refine ⟨⟨h4, ?_⟩, ?_⟩
  · intro h
    apply h3
    rw [h]
    rfl
  · unfold isCap
    simp only [Bool.and_eq_false_iff, decide_eq_false_iff_not, UInt8.le_iff_toNat_le]
    rcases h0 with h0 | h0
    · left
      show ¬ (65 ≤ _)
      omega
    · right
      show ¬ (_ ≤ 90)
      omega
theorem take_hang (s : List UInt8) (l : List (List UInt8)) (k : Nat) (x : List UInt8) (h : l[k]? = some x) : hang s (l.take (k + 1)) = hang s (l.take k) ++ 45 :: x := by
  rw [take_next h, hang_snoc]
end Go.Proofs.YtfcnhodokbnjnaaDoor
