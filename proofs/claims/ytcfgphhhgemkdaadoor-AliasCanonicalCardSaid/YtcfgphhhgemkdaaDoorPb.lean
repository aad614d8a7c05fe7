import Derived.Test.YtcfgphhhgemkdaaDoorPa
namespace Go.Proofs.YtcfgphhhgemkdaaDoor
set_option linter.unusedSimpArgs false
set_option linter.unusedVariables false

/-! The steps of a tag. -/
section
variable {lim cyc : Int}
theorem steps_none {l : List RuleP} {k : Nat} {t : TagP} (h : stepP l t = none) : stepsP lim cyc l k t = ([t], 0) := by
  unfold stepsP
  rw [h]
theorem steps_many {l : List RuleP} {k : Nat} {t u : TagP} (h : stepP l t = some u) (h4 : 4 < u.vars.length) : stepsP lim cyc l k t = ([], lim) := by
  unfold stepsP
  rw [h]
  simp only
  rw [if_pos h4]
theorem steps_cyc {l : List RuleP} {t u : TagP} (h : stepP l t = some u) (h4 : ¬ 4 < u.vars.length) : stepsP lim cyc l 0 t = ([], cyc) := by
  unfold stepsP
  rw [h]
  simp only
  rw [if_neg h4]
theorem steps_go {l : List RuleP} {k : Nat} {t u : TagP} (h : stepP l t = some u) (h4 : ¬ 4 < u.vars.length) :
    stepsP lim cyc l (k + 1) t = if (stepsP lim cyc l k u).2 = 0 then (t :: (stepsP lim cyc l k u).1, 0) else ([], (stepsP lim cyc l k u).2) := by
  rw [stepsP, h]
  simp only
  rw [if_neg h4]
theorem steps_err (hl : lim ≠ 0) (hc : cyc ≠ 0) (l : List RuleP) : ∀ (k : Nat) (t : TagP), (stepsP lim cyc l k t).2 ≠ 0 → (stepsP lim cyc l k t).1 = [] := by
  intro k t h
  cases hs : stepP l t with
  | none => rw [steps_none hs] at h; exact absurd rfl h
  | some u =>
    by_cases h4 : 4 < u.vars.length
    · rw [steps_many hs h4]
    · cases k with
      | zero => rw [steps_cyc hs h4]
      | succ k =>
        rw [steps_go hs h4] at h ⊢
        split
        · rename_i h0; rw [if_pos h0] at h; exact absurd rfl h
        · rfl
/-- What holds of the steps that end well. -/
theorem steps_end (hlim : lim ≠ 0) (hcyc : cyc ≠ 0) {l : List RuleP} (hl : ∀ r ∈ l, okR r) : ∀ (k : Nat) (t : TagP), validP t = true → (stepsP lim cyc l k t).2 = 0 →
    ∃ xs e, (stepsP lim cyc l k t).1 = xs ++ [e] ∧ xs.length ≤ k ∧ validP e = true ∧ stepP l e = none ∧ (∀ x ∈ xs, validP x = true) ∧ (xs ++ [e]).head? = some t := by
  intro k
  induction k with
  | zero =>
    intro t ht h
    cases hs : stepP l t with
    | none => exact ⟨[], t, by rw [steps_none hs]; rfl, by simp, ht, hs, by simp, rfl⟩
    | some u =>
      by_cases h4 : 4 < u.vars.length
      · rw [steps_many hs h4] at h; exact absurd h hlim
      · rw [steps_cyc hs h4] at h; exact absurd h hcyc
  | succ k ih =>
    intro t ht h
    cases hs : stepP l t with
    | none => exact ⟨[], t, by rw [steps_none hs]; rfl, by simp, ht, hs, by simp, rfl⟩
    | some u =>
      by_cases h4 : 4 < u.vars.length
      · rw [steps_many hs h4] at h; exact absurd h hlim
      · rw [steps_go hs h4] at h ⊢
        by_cases h0 : (stepsP lim cyc l k u).2 = 0
        · rw [if_pos h0]
          obtain ⟨xs, e, h1, h2, h3, h5, h6, _⟩ := ih u (stepP_valid hl ht hs h4) h0
          refine ⟨t :: xs, e, by simp [h1], by simp; omega, h3, h5, ?_, rfl⟩
          intro x hx
          rcases List.mem_cons.1 hx with rfl | hx
          · exact ht
          · exact h6 x hx
        · rw [if_neg h0] at h; exact absurd h h0
theorem steps_ne (hlim : lim ≠ 0) (hcyc : cyc ≠ 0) {l : List RuleP} {k : Nat} {t : TagP} (h : (stepsP lim cyc l k t).2 = 0) : ∃ ys, (stepsP lim cyc l k t).1 = t :: ys := by
  cases hs : stepP l t with
  | none => exact ⟨[], by rw [steps_none hs]⟩
  | some u =>
    by_cases h4 : 4 < u.vars.length
    · rw [steps_many hs h4] at h; exact absurd h hlim
    · cases k with
      | zero => rw [steps_cyc hs h4] at h; exact absurd h hcyc
      | succ k =>
        rw [steps_go hs h4] at h ⊢
        by_cases h0 : (stepsP lim cyc l k u).2 = 0
        · rw [if_pos h0]; exact ⟨_, rfl⟩
        · rw [if_neg h0] at h; exact absurd h h0
/-- Further rules at the end: the steps begin with the old ones; they are the old ones where the further rules do nothing to the last step. -/
theorem steps_app (hlim : lim ≠ 0) (hcyc : cyc ≠ 0) {l m : List RuleP} : ∀ (k : Nat) (t e : TagP) (xs : List TagP), stepsP lim cyc l k t = (xs ++ [e], 0) →
    (stepP m e = none → stepsP lim cyc (l ++ m) k t = (xs ++ [e], 0)) ∧ (stepP m e ≠ none → (stepsP lim cyc (l ++ m) k t).2 = 0 → ∃ y ys, (stepsP lim cyc (l ++ m) k t).1 = xs ++ e :: y :: ys) := by
  intro k
  induction k with
  | zero =>
    intro t e xs h
    cases hs : stepP l t with
    | none =>
      rw [steps_none hs] at h
      injection h with h1 _
      have hx : xs = [] := by
        have := congrArg List.length h1
        simp at this
        exact this
      subst hx
      simp at h1
      subst h1
      refine ⟨fun hm => steps_none (by rw [stepP_app, hs]; exact hm), fun hm h => ?_⟩
      exfalso
      obtain ⟨v, hv⟩ := Option.ne_none_iff_exists'.1 hm
      have hs' : stepP (l ++ m) t = some v := by rw [stepP_app, hs]; exact hv
      by_cases h5 : 4 < v.vars.length
      · rw [steps_many hs' h5] at h; exact hlim h
      · rw [steps_cyc hs' h5] at h; exact hcyc h
    | some u =>
      by_cases h4 : 4 < u.vars.length
      · rw [steps_many hs h4] at h
        injection h with h1 _
        simp at h1
      · rw [steps_cyc hs h4] at h
        injection h with h1 _
        simp at h1
  | succ k ih =>
    intro t e xs h
    cases hs : stepP l t with
    | none =>
      rw [steps_none hs] at h
      injection h with h1 _
      have hx : xs = [] := by
        have := congrArg List.length h1
        simp at this
        exact this
      subst hx
      simp at h1
      subst h1
      refine ⟨fun hm => steps_none (by rw [stepP_app, hs]; exact hm), fun hm h => ?_⟩
      obtain ⟨v, hv⟩ := Option.ne_none_iff_exists'.1 hm
      have hs' : stepP (l ++ m) t = some v := by rw [stepP_app, hs]; exact hv
      by_cases h5 : 4 < v.vars.length
      · rw [steps_many hs' h5] at h; exact absurd h hlim
      · rw [steps_go hs' h5] at h ⊢
        by_cases h0 : (stepsP lim cyc (l ++ m) k v).2 = 0
        · rw [if_pos h0]
          obtain ⟨ys, hys⟩ := steps_ne hlim hcyc h0
          exact ⟨v, ys, by rw [hys]; rfl⟩
        · rw [if_neg h0] at h; exact absurd h h0
    | some u =>
      have hs' : stepP (l ++ m) t = some u := by rw [stepP_app, hs]
      by_cases h4 : 4 < u.vars.length
      · rw [steps_many hs h4] at h
        injection h with h1 _
        simp at h1
      · rw [steps_go hs h4] at h
        rw [steps_go hs' h4]
        by_cases h0 : (stepsP lim cyc l k u).2 = 0
        · rw [if_pos h0] at h
          injection h with h1 _
          obtain ⟨ys, hys⟩ := steps_ne hlim hcyc h0
          cases xs with
          | nil =>
            exfalso
            simp at h1
            rw [hys] at h1
            exact absurd h1.2 (by simp)
          | cons x xs =>
            simp at h1
            obtain ⟨rfl, h1⟩ := h1
            obtain ⟨g1, g2⟩ := ih u e xs (Prod.ext h1 h0)
            refine ⟨fun hm => ?_, fun hm h => ?_⟩
            · rw [g1 hm]; simp
            · by_cases h6 : (stepsP lim cyc (l ++ m) k u).2 = 0
              · rw [if_pos h6]
                obtain ⟨y, ys, hy⟩ := g2 hm h6
                exact ⟨y, ys, by rw [hy]; simp⟩
              · rw [if_neg h6] at h; exact absurd h h6
        · rw [if_neg h0] at h
          injection h with h1 _
          simp at h1
end
end Go.Proofs.YtcfgphhhgemkdaaDoor
