import Derived.Test.YtgjfjibaoehmpaaPlain
namespace Go.Proofs.Ytgjfjibaoehmpaa

section
variable {α : Type} [DecidableEq α]

/-- A script: pairs of elements, either of which may be missing. -/
def left (s : List (Option α × Option α)) : List α := s.filterMap (·.1)
def right (s : List (Option α × Option α)) : List α := s.filterMap (·.2)
def pc : Option α × Option α → Nat
  | (some x, some y) => if x = y then 0 else 1
  | (some _, none) => 1
  | (none, some _) => 1
  | (none, none) => 0
def cost (s : List (Option α × Option α)) : Nat := (s.map pc).sum

/-- Some script between the lists costs at most n. -/
def Ed (a b : List α) (n : Nat) : Prop := ∃ s, left s = a ∧ right s = b ∧ cost s ≤ n

theorem Ed.mono {a b : List α} {n m : Nat} (h : Ed a b n) (hm : n ≤ m) : Ed a b m := let ⟨s, h1, h2, h3⟩ := h; ⟨s, h1, h2, Nat.le_trans h3 hm⟩
theorem Ed.nil : Ed ([] : List α) [] 0 := ⟨[], rfl, rfl, Nat.le_refl _⟩
theorem Ed.app {a b c d : List α} {n m : Nat} (h : Ed a b n) (k : Ed c d m) : Ed (a ++ c) (b ++ d) (n + m) := by
  obtain ⟨s, rfl, rfl, h3⟩ := h
  obtain ⟨t, rfl, rfl, k3⟩ := k
  refine ⟨s ++ t, by simp [left], by simp [right], ?_⟩
  simp only [cost, List.map_append, List.sum_append] at h3 k3 ⊢
  omega
theorem Ed.rev {a b : List α} {n : Nat} (h : Ed a b n) : Ed a.reverse b.reverse n := by
  obtain ⟨s, rfl, rfl, h3⟩ := h
  refine ⟨s.reverse, by simp [left, List.filterMap_reverse], by simp [right, List.filterMap_reverse], ?_⟩
  simpa [cost, List.map_reverse, List.sum_reverse] using h3
theorem pc_swap (p : Option α × Option α) : pc (p.2, p.1) = pc p := by
  rcases p with ⟨_ | x, _ | y⟩ <;> simp [pc]
  by_cases h : x = y
  · simp [h]
  · simp [h, Ne.symm h]
theorem Ed.symm {a b : List α} {n : Nat} (h : Ed a b n) : Ed b a n := by
  obtain ⟨s, rfl, rfl, h3⟩ := h
  refine ⟨s.map fun p => (p.2, p.1), by simp [left, right, List.filterMap_map]; rfl, by simp [left, right, List.filterMap_map]; rfl, ?_⟩
  simpa [cost, List.map_map, Function.comp_def, pc_swap] using h3
theorem Ed.same (a : List α) : Ed a a 0 := by
  induction a with
  | nil => exact Ed.nil
  | cons x r ih =>
    have h : Ed [x] [x] 0 := ⟨[(some x, some x)], rfl, rfl, by simp [cost, pc]⟩
    exact Ed.app h ih
theorem Ed.del (a : List α) : Ed a [] a.length := by
  induction a with
  | nil => exact Ed.nil
  | cons x r ih =>
    have h : Ed [x] ([] : List α) 1 := ⟨[(some x, none)], rfl, rfl, by simp [cost, pc]⟩
    exact (Ed.app h ih).mono (by simp; omega)
theorem Ed.one (x y : α) : Ed [x] [y] 1 := ⟨[(some x, some y)], rfl, rfl, by simp [cost, pc]; split <;> omega⟩

/-- What a script begins with. -/
theorem Ed.cases {a b : List α} {n : Nat} (h : Ed a b n) : (a = [] ∧ b = []) ∨
    (∃ x r m, a = x :: r ∧ n = m + 1 ∧ Ed r b m) ∨ (∃ y r m, b = y :: r ∧ n = m + 1 ∧ Ed a r m) ∨
    (∃ x r y q m, a = x :: r ∧ b = y :: q ∧ n = (if x = y then 0 else 1) + m ∧ Ed r q m) := by
  obtain ⟨s, rfl, rfl, h3⟩ := h
  induction s generalizing n with
  | nil => exact .inl ⟨rfl, rfl⟩
  | cons p s ih =>
    rcases p with ⟨_ | x, _ | y⟩
    · have h4 : cost s ≤ n := by simpa [cost, pc] using h3
      simpa [left, right] using ih h4
    · refine .inr (.inr (.inl ⟨y, right s, n - 1, rfl, ?_, s, rfl, rfl, ?_⟩))
      · simp [cost, pc] at h3; omega
      · simp [cost, pc] at h3 ⊢; omega
    · refine .inr (.inl ⟨x, left s, n - 1, rfl, ?_, s, rfl, rfl, ?_⟩)
      · simp [cost, pc] at h3; omega
      · simp [cost, pc] at h3 ⊢; omega
    · refine .inr (.inr (.inr ⟨x, left s, y, right s, n - (if x = y then 0 else 1), rfl, rfl, ?_, s, rfl, rfl, ?_⟩))
      · simp only [cost, pc, List.map_cons, List.sum_cons] at h3; omega
      · simp only [cost, pc, List.map_cons, List.sum_cons] at h3 ⊢; omega

theorem cost_cons (p : Option α × Option α) (s : List (Option α × Option α)) : cost (p :: s) = pc p + cost s := rfl

theorem trans_aux : ∀ (N : Nat) (s t : List (Option α × Option α)), s.length + t.length ≤ N → right s = left t → Ed (left s) (right t) (cost s + cost t)
  | 0, s, t, h, _ => by
    have h1 : s = [] := List.eq_nil_of_length_eq_zero (by omega)
    have h2 : t = [] := List.eq_nil_of_length_eq_zero (by omega)
    subst h1; subst h2
    exact Ed.nil
  | N + 1, s, t, h, e => by
    have del : ∀ (x : α) s', s = (some x, none) :: s' → Ed (left s) (right t) (cost s + cost t) := by
      rintro x s' rfl
      have ih := trans_aux N s' t (by simp at h; omega) (by simpa [right] using e)
      have h1 : Ed [x] ([] : List α) 1 := ⟨[(some x, none)], rfl, rfl, by simp [cost, pc]⟩
      have h2 := Ed.app h1 ih
      refine Ed.mono h2 ?_
      rw [cost_cons]; simp [pc]; omega
    have skip : ∀ s', s = (none, none) :: s' → Ed (left s) (right t) (cost s + cost t) := by
      rintro s' rfl
      have ih := trans_aux N s' t (by simp at h; omega) (by simpa [right] using e)
      refine Ed.mono (by simpa [left] using ih) ?_
      rw [cost_cons]; simp [pc]
    match t, h, e, del, skip with
    | [], h, e, del, skip =>
      match s, h, e, del, skip with
      | [], _, _, _, _ => exact Ed.nil
      | (some x, none) :: s', _, _, del, _ => exact del x s' rfl
      | (none, none) :: s', _, _, _, skip => exact skip s' rfl
      | (_, some y) :: s', _, e, _, _ => simp [right, left] at e
    | (none, some z) :: t', h, e, _, _ =>
      have ih := trans_aux N s t' (by simp at h; omega) (by simpa [left] using e)
      have h1 : Ed ([] : List α) [z] 1 := ⟨[(none, some z)], rfl, rfl, by simp [cost, pc]⟩
      have h2 := Ed.app h1 ih
      refine Ed.mono (by simpa [right] using h2) ?_
      rw [cost_cons]; simp [pc]; omega
    | (none, none) :: t', h, e, _, _ =>
      have ih := trans_aux N s t' (by simp at h; omega) (by simpa [left] using e)
      refine Ed.mono (by simpa [right] using ih) ?_
      rw [cost_cons]; simp [pc]
    | (some y', q) :: t', h, e, del, skip =>
      match s, h, e, del, skip with
      | [], _, e, _, _ => simp [right, left] at e
      | (some x, none) :: s', _, _, del, _ => exact del x s' rfl
      | (none, none) :: s', _, _, _, skip => exact skip s' rfl
      | (p, some y) :: s', h, e, _, _ =>
        have e1 : y = y' ∧ right s' = left t' := by simpa [right, left] using e
        obtain ⟨rfl, e2⟩ := e1
        have ih := trans_aux N s' t' (by simp at h; omega) e2
        have h1 : Ed p.toList q.toList (pc (p, some y) + pc (some y, q)) := by
          refine ⟨[(p, q)], ?_, ?_, ?_⟩
          · cases p <;> rfl
          · cases q <;> rfl
          · rcases p with _ | x <;> rcases q with _ | z <;> simp [cost, pc]
            by_cases a1 : x = z
            · simp [a1]
            · simp only [if_neg a1]
              by_cases a2 : x = y
              · subst a2; simp [a1]
              · simp [a2]
        have h2 := Ed.app h1 ih
        refine Ed.mono (show Ed (left ((p, some y) :: s')) (right ((some y, q) :: t')) _ from ?_) (show pc (p, some y) + pc (some y, q) + (cost s' + cost t') ≤ _ by rw [cost_cons, cost_cons]; omega)
        have l1 : left ((p, some y) :: s') = p.toList ++ left s' := by cases p <;> simp [left]
        have l2 : right ((some y, q) :: t') = q.toList ++ right t' := by cases q <;> simp [right]
        rw [l1, l2]
        exact h2

/-- The way over a third list. -/
theorem Ed.trans {a b c : List α} {n m : Nat} (h : Ed a b n) (k : Ed b c m) : Ed a c (n + m) := by
  obtain ⟨s, rfl, h2, h3⟩ := h
  obtain ⟨t, k1, rfl, k3⟩ := k
  exact (trans_aux _ s t (Nat.le_refl _) (h2.trans k1.symm)).mono (by omega)
end

section
variable {α : Type} [DecidableEq α]
/-- The table's distance is that of a script. -/
theorem dst_ed (a b : List α) : ∀ i k, i ≤ a.length → k ≤ b.length → Ed (a.take i) (b.take k) (dst a b i k) := by
  intro i
  induction i with
  | zero =>
    intro k _ hk
    have h := (Ed.del (b.take k)).symm
    simpa [dst, Nat.min_eq_left hk] using h
  | succ i ih =>
    intro k hi hk
    induction k with
    | zero =>
      have h := Ed.del (a.take (i + 1))
      simpa [dst_left, Nat.min_eq_left hi] using h
    | succ k ihk =>
      have ha : a[i]? = some a[i] := List.getElem?_eq_getElem (by omega)
      have hb : b[k]? = some b[k] := List.getElem?_eq_getElem (by omega)
      have h1 := ih k (by omega) (by omega)
      have h2 := ih (k + 1) (by omega) hk
      have h3 := ihk (by omega)
      rw [take_next ha, take_next hb]
      by_cases e : a[i]? = b[k]?
      · rw [dst_eq a b i k e]
        have e' : a[i] = b[k] := by rw [ha, hb] at e; exact Option.some.inj e
        have h4 := Ed.app h1 (Ed.same [a[i]])
        rw [e'] at h4 ⊢
        exact h4
      · rw [dst_ne a b i k e]
        have q1 : Ed (a.take i ++ [a[i]]) (b.take k ++ [b[k]]) (dst a b i k + 1) := Ed.app h1 (Ed.one _ _)
        have q2 : Ed (a.take i ++ [a[i]]) (b.take k ++ [b[k]]) (dst a b i (k + 1) + 1) := by
          have h5 := Ed.app h2 (Ed.del [a[i]])
          rw [take_next hb] at h5
          simpa using h5
        have q3 : Ed (a.take i ++ [a[i]]) (b.take k ++ [b[k]]) (dst a b (i + 1) k + 1) := by
          have h5 := Ed.app h3 (Ed.del [b[k]]).symm
          rw [take_next ha] at h5
          simpa using h5
        rcases Nat.le_total (dst a b i k) (dst a b i (k + 1)) with c1 | c1 <;> rcases Nat.le_total (dst a b i k) (dst a b (i + 1) k) with c2 | c2 <;> rcases Nat.le_total (dst a b i (k + 1)) (dst a b (i + 1) k) with c3 | c3
        all_goals first | exact q1.mono (by omega) | exact q2.mono (by omega) | exact q3.mono (by omega)

end
end Go.Proofs.Ytgjfjibaoehmpaa
