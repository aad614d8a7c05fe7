import Derived.Test.YtgjfjibaoehmpaaLev
namespace Go.Proofs.Ytgjfjibaoehmpaa
section
variable {α : Type} [DecidableEq α]

/-- What a script ends with. -/
theorem Ed.ends {a b : List α} {x y : α} {n : Nat} (h : Ed (a ++ [x]) (b ++ [y]) n) :
    (∃ m, n = m + 1 ∧ Ed a (b ++ [y]) m) ∨ (∃ m, n = m + 1 ∧ Ed (a ++ [x]) b m) ∨ (∃ m, n = (if x = y then 0 else 1) + m ∧ Ed a b m) := by
  have hr := h.rev
  rw [List.reverse_append, List.reverse_append] at hr
  rcases Ed.cases hr with ⟨h1, _⟩ | ⟨z, r, m, h1, h2, h3⟩ | ⟨z, r, m, h1, h2, h3⟩ | ⟨z, r, u, q, m, h1, h2, h3, h4⟩
  · simp at h1
  · simp at h1
    obtain ⟨rfl, rfl⟩ := h1
    have := h3.rev
    simp at this
    exact .inl ⟨m, h2, this⟩
  · simp at h1
    obtain ⟨rfl, rfl⟩ := h1
    have := h3.rev
    simp at this
    exact .inr (.inl ⟨m, h2, this⟩)
  · simp at h1 h2
    obtain ⟨rfl, rfl⟩ := h1
    obtain ⟨rfl, rfl⟩ := h2
    have := h4.rev
    simp at this
    exact .inr (.inr ⟨m, h3, this⟩)

theorem Ed.shorter {a b : List α} {n : Nat} (h : Ed a b n) : a.length ≤ b.length + n := by
  obtain ⟨s, rfl, rfl, h3⟩ := h
  induction s generalizing n with
  | nil => simp [left]
  | cons p s ih =>
    rw [cost_cons] at h3
    have h4 := ih (n := n - pc p) (by omega)
    rcases p with ⟨_ | x, _ | y⟩ <;> simp [left, right, pc] at h3 h4 ⊢ <;> (try omega)

/-- No script costs less than the table says. -/
theorem dst_least (a b : List α) : ∀ (N i k n : Nat), i + k ≤ N → i ≤ a.length → k ≤ b.length → Ed (a.take i) (b.take k) n → dst a b i k ≤ n
  | N, 0, k, n, _, _, hk, h => by
    have h1 := h.symm.shorter
    simp [Nat.min_eq_left hk] at h1
    simpa [dst] using h1
  | N, i + 1, 0, n, _, hi, _, h => by
    have h1 := h.shorter
    simp [Nat.min_eq_left hi] at h1
    simpa [dst_left] using h1
  | 0, i + 1, k + 1, n, hN, _, _, _ => by omega
  | N + 1, i + 1, k + 1, n, hN, hi, hk, h => by
    have ha : a[i]? = some a[i] := List.getElem?_eq_getElem (by omega)
    have hb : b[k]? = some b[k] := List.getElem?_eq_getElem (by omega)
    have h1 := dst_ed a b i (k + 1) (by omega) hk
    have h2 := dst_ed a b (i + 1) k hi (by omega)
    rw [take_next ha, take_next hb] at h
    have d1 : Ed (b.take (k + 1)) (b.take k) 1 := by
      rw [take_next hb]
      have h5 := Ed.app (Ed.same (b.take k)) (Ed.del [b[k]])
      rw [List.append_nil] at h5
      exact h5
    have d2 : Ed (a.take i) (a.take (i + 1)) 1 := by
      rw [take_next ha]
      have h5 := Ed.app (Ed.same (a.take i)) (Ed.del [a[i]])
      rw [List.append_nil] at h5
      exact h5.symm
    have c1 := dst_least a b N i k _ (by omega) (by omega) (by omega) (h1.trans d1)
    have c2 := dst_least a b N i k _ (by omega) (by omega) (by omega) (d2.trans h2)
    by_cases e : a[i]? = b[k]?
    · rw [dst_eq a b i k e]
      rcases h.ends with ⟨m, rfl, h3⟩ | ⟨m, rfl, h3⟩ | ⟨m, rfl, h3⟩
      · rw [← take_next hb] at h3
        have := dst_least a b N i (k + 1) m (by omega) (by omega) hk h3
        omega
      · rw [← take_next ha] at h3
        have := dst_least a b N (i + 1) k m (by omega) hi (by omega) h3
        omega
      · have := dst_least a b N i k m (by omega) (by omega) (by omega) h3
        omega
    · rw [dst_ne a b i k e]
      rcases h.ends with ⟨m, rfl, h3⟩ | ⟨m, rfl, h3⟩ | ⟨m, rfl, h3⟩
      · rw [← take_next hb] at h3
        have := dst_least a b N i (k + 1) m (by omega) (by omega) hk h3
        omega
      · rw [← take_next ha] at h3
        have := dst_least a b N (i + 1) k m (by omega) hi (by omega) h3
        omega
      · have := dst_least a b N i k m (by omega) (by omega) (by omega) h3
        rw [if_neg (by intro h; apply e; rw [ha, hb, h])]
        omega

/-- The distance of two lists. -/
def D (a b : List α) : Nat := dst a b a.length b.length
theorem D_ed (a b : List α) : Ed a b (D a b) := by
  have h := dst_ed a b a.length b.length (Nat.le_refl _) (Nat.le_refl _)
  simpa [D] using h
theorem D_le {a b : List α} {n : Nat} (h : Ed a b n) : D a b ≤ n :=
  dst_least a b _ a.length b.length n (Nat.le_refl _) (Nat.le_refl _) (Nat.le_refl _) (by simpa using h)

theorem D_symm (a b : List α) : D a b = D b a := Nat.le_antisymm (D_le (D_ed b a).symm) (D_le (D_ed a b).symm)
theorem D_tri (a b c : List α) : D a b ≤ D a c + D c b := D_le ((D_ed a c).trans (D_ed c b))
theorem Ed.zero {a b : List α} (h : Ed a b 0) : a = b := by
  obtain ⟨s, rfl, rfl, h3⟩ := h
  induction s with
  | nil => rfl
  | cons p s ih =>
    rw [cost_cons] at h3
    have h4 := ih (by omega)
    rcases p with ⟨_ | x, _ | y⟩ <;> simp [pc] at h3
    · simpa [left, right] using h4
    · by_cases e : x = y
      · subst e; simp [left, right] at h4 ⊢; exact h4
      · simp [e] at h3
theorem D_zero (a b : List α) : D a b = 0 ↔ a = b :=
  ⟨fun h => by have h1 := D_ed a b; rw [h] at h1; exact h1.zero, fun h => by subst h; exact Nat.le_zero.1 (D_le (Ed.same a))⟩
theorem D_max (a b : List α) : D a b ≤ max a.length b.length := dst_max a b _ _
theorem D_diff (a b : List α) : a.length ≤ b.length + D a b := (D_ed a b).shorter
theorem Ed.behead {x : α} {a b : List α} {n : Nat} (h : Ed (x :: a) (x :: b) n) : Ed a b n := by
  have h1 : Ed (x :: b) b 1 := by simpa using Ed.app (Ed.del [x]) (Ed.same b)
  have h2 : Ed a (x :: a) 1 := by simpa using (Ed.app (Ed.del [x]) (Ed.same a)).symm
  rcases Ed.cases h with ⟨e, _⟩ | ⟨z, r, m, e1, e2, e3⟩ | ⟨z, r, m, e1, e2, e3⟩ | ⟨z, r, u, q, m, e1, e2, e3, e4⟩
  · simp at e
  · simp at e1
    obtain ⟨rfl, rfl⟩ := e1
    exact (e3.trans h1).mono (by omega)
  · simp at e1
    obtain ⟨rfl, rfl⟩ := e1
    exact (h2.trans e3).mono (by omega)
  · simp at e1 e2
    obtain ⟨rfl, rfl⟩ := e1
    obtain ⟨rfl, rfl⟩ := e2
    exact e4.mono (by omega)
theorem Ed.cut_left (m : List α) {a b : List α} {n : Nat} (h : Ed (m ++ a) (m ++ b) n) : Ed a b n := by
  induction m with
  | nil => exact h
  | cons x m ih => exact ih h.behead
theorem Ed.cut_right (m : List α) {a b : List α} {n : Nat} (h : Ed (a ++ m) (b ++ m) n) : Ed a b n := by
  have h1 := h.rev
  rw [List.reverse_append, List.reverse_append] at h1
  simpa using (h1.cut_left).rev
theorem D_front (m a b : List α) : D (m ++ a) (m ++ b) = D a b :=
  Nat.le_antisymm (D_le ((Ed.app (Ed.same m) (D_ed a b)).mono (by omega))) (D_le (D_ed _ _).cut_left)
theorem D_back (m a b : List α) : D (a ++ m) (b ++ m) = D a b :=
  Nat.le_antisymm (D_le (Ed.app (D_ed a b) (Ed.same m))) (D_le (D_ed _ _).cut_right)
theorem D_more (x : α) (a b : List α) : D (a ++ [x]) b ≤ D a b + 1 ∧ D a b ≤ D (a ++ [x]) b + 1 := by
  have h1 : Ed (a ++ [x]) a 1 := by simpa using Ed.app (Ed.same a) (Ed.del [x])
  exact ⟨D_le ((h1.trans (D_ed a b)).mono (by omega)), D_le ((h1.symm.trans (D_ed _ b)).mono (by omega))⟩
end
end Go.Proofs.Ytgjfjibaoehmpaa
