import Derived.Test.YtgjfjibaoehmpaaSame
import Derived.Test.YtgjfjibaoehmpaaKind
import Derived.Test.YtgjfjibaoehmpaaJoin
namespace Go.Proofs.Ytgjfjibaoehmpaa
open Go.RowKit

theorem strv_map (l : List (List UInt8)) : l.map strv = (l.map fun x => (⟨x.toArray⟩ : ByteArray)).map Value.string := by simp [strv]

/-- Two lists that show the same strings are found the same. -/
theorem same_true (xs : List (List UInt8)) (A B : Option Addr) (n m ca cb : Nat) (w : World) (hA : Sl w A n (xs.map strv)) (hB : Sl w B m (xs.map strv)) (hn : xs.length ≤ 65536) :
    Calls Try.prog 12 #[.slice A n ca, .slice B m cb] w fun e w' => e = .returned (.bool true) ∧ Ext w w' := by
  have h1 := hA.1
  have h2 := hB.1
  rw [List.length_map] at h1 h2
  rw [strv_map] at hA hB
  refine (same_any _ _ A B n m ca cb w hA hB (by unfold maxLen; omega) (by unfold maxLen; omega)).mono ?_
  rintro e w' ⟨rfl, hw⟩
  exact ⟨by simp, hw⟩

theorem words_ways (c : UInt8) (r : List UInt8) : wordsOf (c :: r) = wordsOf r ∨ (∃ x xs, wordsOf r = x :: xs ∧ wordsOf (c :: r) = (c :: x) :: xs) ∨ wordsOf (c :: r) = [c] :: wordsOf r := by
  rw [words_cons]
  by_cases h1 : isSp c
  · rw [if_pos h1]; exact .inl rfl
  · rw [if_neg h1]
    generalize (isPt c && (match r with | [] => false | d :: _ => isPt d)) = b
    cases b with
    | false => exact .inr (.inr rfl)
    | true =>
      cases hw : wordsOf r with
      | nil => exact .inr (.inr rfl)
      | cons x xs => exact .inr (.inl ⟨x, xs, rfl, rfl⟩)

theorem words_len (l : List UInt8) : (wordsOf l).length ≤ l.length := by
  induction l with
  | nil => simp [wordsOf]
  | cons c r ih =>
    rcases words_ways c r with h | ⟨x, xs, h1, h⟩ | h
    · rw [h]; simp; omega
    · rw [h]; rw [h1] at ih; simp at ih ⊢; omega
    · rw [h]; simp; omega

theorem words_sum (l : List UInt8) : ((wordsOf l).map fun x => x.length + 1).sum ≤ 2 * l.length := by
  induction l with
  | nil => simp [wordsOf]
  | cons c r ih =>
    rcases words_ways c r with h | ⟨x, xs, h1, h⟩ | h
    · rw [h]; simp; omega
    · rw [h]; rw [h1] at ih; simp at ih ⊢; omega
    · rw [h]; simp; omega

end Go.Proofs.Ytgjfjibaoehmpaa
