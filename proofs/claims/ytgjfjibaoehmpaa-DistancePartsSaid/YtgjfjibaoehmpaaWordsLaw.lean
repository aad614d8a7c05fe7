import Derived.Test.YtgjfjibaoehmpaaSame2
namespace Go.Proofs.Ytgjfjibaoehmpaa

/-- What can be a word. -/
def Good (w : List UInt8) : Prop := (w ≠ [] ∧ ∀ c ∈ w, isPt c = true) ∨ ∃ c, w = [c] ∧ isSp c = false

theorem good_words (w : List UInt8) (h : Good w) : wordsOf w = [w] := by
  rcases h with ⟨h1, h2⟩ | ⟨c, rfl, h⟩
  · have := words_run w [] h1 h2 (by simp)
    simpa [wordsOf] using this
  · simp [wordsOf, h]

theorem words_head (d : UInt8) (r : List UInt8) (h : isPt d = true) : ∃ x xs, wordsOf (d :: r) = x :: xs ∧ x ≠ [] ∧ ∀ c ∈ x, isPt c = true := by
  induction r generalizing d with
  | nil => exact ⟨[d], [], by simp [wordsOf, isPt_sp h], by simp, by simpa using h⟩
  | cons e r ih =>
    by_cases he : isPt e = true
    · obtain ⟨x, xs, h1, h2, h3⟩ := ih e he
      refine ⟨d :: x, xs, ?_, by simp, ?_⟩
      · rw [words_cons, h1]; simp [isPt_sp h, h, he]
      · intro c hc
        rcases List.mem_cons.1 hc with rfl | hc
        · exact h
        · exact h3 c hc
    · refine ⟨[d], wordsOf (e :: r), ?_, by simp, by simpa using h⟩
      rw [words_cons]; simp [isPt_sp h, he]

theorem words_good (l : List UInt8) : ∀ w ∈ wordsOf l, Good w := by
  induction l with
  | nil => intro w hw; simp [wordsOf] at hw
  | cons c r ih =>
    intro w hw
    rw [words_cons] at hw
    by_cases h1 : isSp c
    · rw [if_pos h1] at hw; exact ih w hw
    · rw [if_neg h1] at hw
      have hone : Good [c] := .inr ⟨c, rfl, by simpa using h1⟩
      cases r with
      | nil =>
        simp [wordsOf] at hw
        subst hw; exact hone
      | cons d r =>
        by_cases h2 : isPt c = true ∧ isPt d = true
        · obtain ⟨x, xs, e1, e2, e3⟩ := words_head d r h2.2
          rw [if_pos (by simp [h2]), e1] at hw
          rcases List.mem_cons.1 hw with rfl | hw
          · refine .inl ⟨by simp, fun a ha => ?_⟩
            rcases List.mem_cons.1 ha with rfl | ha
            · exact h2.1
            · exact e3 a ha
          · exact ih w (by rw [e1]; simp [hw])
        · rw [if_neg (by simpa using h2)] at hw
          rcases List.mem_cons.1 hw with rfl | hw
          · exact hone
          · exact ih w hw

/-- A space parts the words. -/
theorem words_space (u v : List UInt8) : wordsOf (u ++ 32 :: v) = wordsOf u ++ wordsOf v := by
  induction u with
  | nil => rw [List.nil_append, words_sp 32 v rfl]; rfl
  | cons c r ih =>
    rw [List.cons_append, words_cons, words_cons c r, ih]
    by_cases h1 : isSp c
    · rw [if_pos h1, if_pos h1]
    · rw [if_neg h1, if_neg h1]
      cases r with
      | nil => simp [wordsOf, show isPt 32 = false from rfl]
      | cons d r =>
        simp only [List.cons_append]
        by_cases h2 : isPt c = true ∧ isPt d = true
        · obtain ⟨x, xs, e1, _, _⟩ := words_head d r h2.2
          rw [if_pos (by simp [h2]), if_pos (by simp [h2]), e1]
          rfl
        · rw [if_neg (by simpa using h2), if_neg (by simpa using h2)]
          rfl

theorem words_join_good (ws : List (List UInt8)) (h : ∀ w ∈ ws, Good w) : wordsOf (joinOf ws) = ws := by
  induction ws with
  | nil => rfl
  | cons a r ih =>
    cases r with
    | nil => exact good_words a (h a (by simp))
    | cons b r =>
      show wordsOf (a ++ 32 :: joinOf (b :: r)) = _
      rw [words_space, good_words a (h a (by simp)), ih (fun w hw => h w (by simp [hw]))]
      rfl
theorem words_join (l : List UInt8) : wordsOf (joinOf (wordsOf l)) = wordsOf l := words_join_good _ (words_good l)

end Go.Proofs.Ytgjfjibaoehmpaa
