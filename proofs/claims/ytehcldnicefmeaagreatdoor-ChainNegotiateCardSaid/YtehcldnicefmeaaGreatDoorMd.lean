import Derived.Test.YtehcldnicefmeaaGreatDoorNX1
import Derived.Test.YtehcldnicefmeaaGreatDoorNX2
import Derived.Test.YtehcldnicefmeaaGreatDoorNX6
namespace Go.Proofs.YtehcldnicefmeaaGreatDoor
set_option linter.unusedSimpArgs false
set_option linter.unusedVariables false

/-! What the laws of layer 21 ask, in plain words. -/
def codeB (e : Int) : Prop := e = 0 ∨ e = 3 ∨ e = 9 ∨ e = 6
theorem fin_code (t : TagP) : codeB (finT EC t).2 := by
  unfold finT codeB
  split
  · split
    · exact .inl rfl
    · exact .inr (.inr (.inr rfl))
  · exact .inr (.inr (.inl rfl))
theorem c3_code (t : TagP) (r : List (List UInt8)) : codeB (c3 EC t r).2 := by
  unfold c3
  split
  · exact fin_code _
  · exact .inr (.inl rfl)
theorem c2_code (t : TagP) (r : List (List UInt8)) : codeB (c2 EC t r).2 := by
  unfold c2
  split
  · exact c3_code _ _
  · split <;> exact c3_code _ _
theorem c1_code (t : TagP) (r : List (List UInt8)) : codeB (c1 EC t r).2 := by
  unfold c1
  split
  · exact c2_code _ _
  · split <;> exact c2_code _ _
theorem parse_code (s : List UInt8) : codeB (parseP EC s).2 := by
  unfold parseP c0
  split
  · exact .inr (.inl rfl)
  · split
    · exact c1_code _ _
    · exact .inr (.inl rfl)
theorem read_code : ∀ l : List Bytes, codeB (readP EC l).2
  | [] => .inl rfl
  | s :: r => by
    rw [read_cons]
    split
    · split
      · exact .inl rfl
      · exact read_code r
    · exact parse_code s
theorem both_code (l : List NearP) (R S : List Bytes) : codeB (bothL EC l R S).2 ∨ (bothL EC l R S).2 = 1 := by
  unfold bothL
  split
  · split
    · split
      · split
        · exact .inl (.inl rfl)
        · exact .inl (.inr (.inr (.inl rfl)))
      · exact .inl (read_code S)
    · exact .inl (read_code R)
  · exact .inr rfl
theorem both_ne8 (l : List NearP) (R S : List Bytes) : (bothL EC l R S).2 ≠ 8 := by
  rcases both_code l R S with h | h
  · unfold codeB at h; omega
  · omega
variable {l : List NearP} {R S : List Bytes}
/-- Best fails with the code 8 or not at all exactly where both lists are read. -/
theorem best_code : ((bestR EC l R S).2 = 0 ∨ (bestR EC l R S).2 = 8) ↔ (bothL EC l R S).2 = 0 := by
  constructor
  · intro h
    refine Classical.byContradiction fun hn => ?_
    rw [bestR_bad hn] at h
    have := both_ne8 l R S
    simp only at h
    omega
  · intro h
    cases hb : bestL l (bothL EC l R S).1.1 (bothL EC l R S).1.2 with
    | none => exact .inr (by rw [bestR_none h hb])
    | some i => exact .inl (by rw [bestR_some h hb])

/-! The distance. -/
theorem pairE_ok {a b : Bytes} (h : (pairE EC a b).2 = 0) : (parseP EC a).2 = 0 ∧ (parseP EC b).2 = 0 ∧ (pairE EC a b).1 = ((parseP EC a).1, (parseP EC b).1) := by
  unfold pairE at h ⊢
  by_cases h1 : (parseP EC a).2 = 0
  · by_cases h2 : (parseP EC b).2 = 0
    · simp [h1, h2]
    · simp [h1, h2] at h
  · simp [h1] at h
theorem distL_ok {a b : Bytes} (h : (distL EC l a b).2 = 0) : validN l = true ∧ (parseP EC a).2 = 0 ∧ (parseP EC b).2 = 0 ∧ distL EC l a b = (distP l (parseP EC a).1 (parseP EC b).1, 0) := by
  unfold distL at h ⊢
  by_cases h1 : validN l = true
  · rw [if_pos h1] at h ⊢
    by_cases h2 : (pairE EC a b).2 = 0
    · rw [if_pos h2]
      obtain ⟨k1, k2, k3⟩ := pairE_ok h2
      exact ⟨h1, k1, k2, by rw [k3]⟩
    · rw [if_neg h2] at h
      exact absurd h h2
  · rw [if_neg h1] at h
    exact absurd h (by decide)
theorem distL_of {a b : Bytes} (hv : validN l = true) (h1 : (parseP EC a).2 = 0) (h2 : (parseP EC b).2 = 0) : distL EC l a b = (distP l (parseP EC a).1 (parseP EC b).1, 0) := by
  have e : pairE EC a b = (((parseP EC a).1, (parseP EC b).1), 0) := by unfold pairE; rw [if_pos h1, if_pos h2]
  unfold distL
  rw [if_pos hv, e]
  rfl
theorem distL_comm {a b : Bytes} (h : (distL EC l a b).2 = 0) : distL EC l b a = distL EC l a b := by
  obtain ⟨hv, h1, h2, e⟩ := distL_ok h
  rw [e, distL_of hv h2 h1, dist_comm]
theorem canP_eq {a : Bytes} (h : (parseP EC a).2 = 0) : canP a = (textP (parseP EC a).1, 0) := by
  unfold canP
  rw [if_pos h, h]
theorem distL_zero {a b : Bytes} (h : (distL EC l a b).2 = 0) : ((distL EC l a b).1 == 0) = ((canP a).1 == (canP b).1) := by
  obtain ⟨hv, h1, h2, e⟩ := distL_ok h
  rw [e, canP_eq h1, canP_eq h2, Bool.eq_iff_iff]
  simp only [beq_iff_eq]
  rw [(dist_bd (valid_costs hv) _ _).2.2]
  constructor
  · intro h; rw [h]
  · intro h; exact text_inj _ _ (parse_ok h1) (parse_ok h2) h

/-! An exact match. -/
theorem read_at {k : Nat} {s : Bytes} (h : (readP EC S).2 = 0) (hs : S[k]? = some s) : atP (readP EC S).1 k = (parseP EC s).1 ∧ (parseP EC s).2 = 0 ∧ k < (readP EC S).1.length := by
  have hk := (List.getElem?_eq_some_iff.1 hs).1
  refine ⟨?_, read_ok.1 h s (List.mem_of_getElem? hs), by rw [read_eq h, List.length_map]; exact hk⟩
  rw [read_eq h]
  exact at_get (by rw [List.getElem?_map, hs]; rfl)
theorem exact_best {r s : Bytes} {k : Nat} (h : (bestR EC l (r :: R) S).2 = 0 ∨ (bestR EC l (r :: R) S).2 = 8) (hs : S[k]? = some s) (he : (canP s).1 = (canP r).1) : bestR EC l (r :: R) S = ((k : Int), 0) := by
  have h0 := best_code.1 h
  obtain ⟨hv, h2, h3, hap, hb⟩ := both_ok h0
  obtain ⟨a1, a2, a3⟩ := read_at h3 hs
  have hr := read_ok.1 h2 r (by simp)
  rw [canP_eq a2, canP_eq hr] at he
  have ht : (parseP EC s).1 = (parseP EC r).1 := text_inj _ _ (parse_ok a2) (parse_ok hr) he
  refine bestR_some h0 ?_
  rw [hb, read_eq h2]
  unfold bestL
  rw [List.map_cons, List.findSome?_cons, best_exact (valid_costs hv) (apart_iff.1 hap) a3 (a1.trans ht)]
theorem best_range (h : (bestR EC l R S).2 = 0 ∨ (bestR EC l R S).2 = 8) : (bestR EC l R S).2 = 8 ∨ ∃ k : Nat, (bestR EC l R S).1 = (k : Int) ∧ k < S.length := by
  have h0 := best_code.1 h
  cases hb : bestL l (bothL EC l R S).1.1 (bothL EC l R S).1.2 with
  | none => exact .inl (by rw [bestR_none h0 hb])
  | some i =>
    refine .inr ⟨i, by rw [bestR_some h0 hb], ?_⟩
    have := bestL_lt hb
    rwa [(both_len h0).2] at this

/-! The order of the supported tags, and their spelling. -/
def SpelledL (b : Nat) (S : List Bytes) : List Bytes := (S.map fun s => spellL s b).reverse
theorem spelled_ok (b : Nat) (S : List Bytes) : (readP EC (SpelledL b S)).2 = 0 ↔ (readP EC S).2 = 0 := by
  rw [read_ok, read_ok]
  unfold SpelledL
  simp only [List.mem_reverse, List.mem_map, forall_exists_index, and_imp, forall_apply_eq_imp_iff₂, parse_spell]
theorem spelled_eq {b : Nat} {S : List Bytes} (h : (readP EC S).2 = 0) : (readP EC (SpelledL b S)).1 = (readP EC S).1.reverse := by
  rw [read_eq ((spelled_ok b S).2 h), read_eq h]
  unfold SpelledL
  rw [List.map_reverse, List.map_map]
  congr 1
  refine List.map_congr_left fun s _ => ?_
  simp only [Function.comp_apply, parse_spell]
theorem both_spelled (b : Nat) (l : List NearP) (R S : List Bytes) : (bothL EC l R (SpelledL b S)).2 = 0 ↔ (bothL EC l R S).2 = 0 := by
  constructor
  · intro h
    obtain ⟨hv, h2, h3, h4, _⟩ := both_ok h
    have h5 := (spelled_ok b S).1 h3
    rw [spelled_eq h5, apart_rev] at h4
    rw [both_of hv h2 h5 h4]
  · intro h
    obtain ⟨hv, h2, h3, h4, _⟩ := both_ok h
    rw [both_of hv h2 ((spelled_ok b S).2 h3) (by rw [spelled_eq h3, apart_rev]; exact h4)]
theorem perm_bad (b : Nat) (h : ¬ ((bestR EC l R S).2 = 0 ∨ (bestR EC l R S).2 = 8)) : ¬ ((bestR EC l R (SpelledL b S)).2 = 0 ∨ (bestR EC l R (SpelledL b S)).2 = 8) := by
  rw [best_code] at h ⊢
  rw [both_spelled]
  exact h
theorem perm_ok (b : Nat) (h : (bestR EC l R S).2 = 0 ∨ (bestR EC l R S).2 = 8) : (bestR EC l R (SpelledL b S)).2 = (bestR EC l R S).2 ∧ ((bestR EC l R S).2 = 0 → (bestR EC l R S).1 = (S.length : Int) - 1 - (bestR EC l R (SpelledL b S)).1) := by
  have h0 := best_code.1 h
  have h1 := (both_spelled b l R S).2 h0
  obtain ⟨hv, h2, h3, h4, h5⟩ := both_ok h0
  obtain ⟨_, _, _, _, g5⟩ := both_ok h1
  have hrev : bestL l (bothL EC l R (SpelledL b S)).1.1 (bothL EC l R (SpelledL b S)).1.2 = (bestL l (bothL EC l R S).1.1 (bothL EC l R S).1.2).map fun k => (bothL EC l R S).1.2.length - 1 - k := by
    rw [g5, h5]
    simp only
    rw [spelled_eq h3, bestL_rev]
  have hl := (both_len h0).2
  cases hb : bestL l (bothL EC l R S).1.1 (bothL EC l R S).1.2 with
  | none =>
    rw [hb] at hrev
    rw [bestR_none h0 hb, bestR_none h1 hrev]
    exact ⟨rfl, fun h => absurd h (by decide)⟩
  | some i =>
    rw [hb] at hrev
    have hi := bestL_lt hb
    rw [hl] at hi hrev
    rw [bestR_some h0 hb, bestR_some h1 hrev]
    refine ⟨rfl, fun _ => ?_⟩
    simp only
    omega

theorem orderR_len (l : List NearP) (r : Bytes) (S : List Bytes) : (orderR EC l r S).1.length ≤ S.length := by
  by_cases h : (bothL EC l [r] S).2 = 0
  · obtain ⟨t, ht⟩ := both_one h
    rw [orderR_ok h ht]
    simp only
    rw [order_len, (both_len h).2]
    exact Nat.le_refl _
  · rw [orderR_bad h]
    exact Nat.zero_le _

/-! A further request. -/
theorem more_best {m : Bytes} (hm : isP m = true) (h : (bestR EC l R S).2 = 0) : bestR EC l (R ++ [m]) S = bestR EC l R S := by
  have hc : (parseP EC m).2 = 0 := by
    unfold isP canP at hm
    simp only [Bool.and_eq_true, beq_iff_eq] at hm
    exact hm.1
  have h0 := best_code.1 (.inl h)
  obtain ⟨hv, h2, h3, h4, h5⟩ := both_ok h0
  have hra := read_app h2 hc
  have h0' : bothL EC l (R ++ [m]) S = (((readP EC (R ++ [m])).1, (readP EC S).1), 0) := both_of hv (by rw [hra]) h3 h4
  cases hb : bestL l (bothL EC l R S).1.1 (bothL EC l R S).1.2 with
  | none => rw [bestR_none h0 hb] at h; exact absurd h (by decide)
  | some i =>
    rw [bestR_some h0 hb]
    refine bestR_some (by rw [h0']) ?_
    rw [h0', hra]
    rw [h5] at hb
    exact bestL_app hb
theorem order_first {m : Bytes} (h : (bestR EC l [m] S).2 = 0) : (orderR EC l m S).2 = 0 ∧ (orderR EC l m S).1.length = S.length ∧ ∃ k r, (orderR EC l m S).1 = k :: r ∧ (bestR EC l [m] S).1 = ((k : Nat) : Int) := by
  have h0 := best_code.1 (.inl h)
  obtain ⟨t, ht⟩ := both_one h0
  obtain ⟨hv, h2, h3, h4, h5⟩ := both_ok h0
  have hap : apartT (bothL EC l [m] S).1.2 = true := by rw [h5]; exact h4
  rw [orderR_ok h0 ht]
  cases hb : bestL l (bothL EC l [m] S).1.1 (bothL EC l [m] S).1.2 with
  | none => rw [bestR_none h0 hb] at h; exact absurd h (by decide)
  | some i =>
    rw [bestR_some h0 hb]
    rw [ht, bestL_one] at hb
    have ho := order_best (apart_iff.1 hap) hb
    refine ⟨rfl, by simp only; rw [order_len, (both_len h0).2], ?_⟩
    cases hr : orderP l t (bothL EC l [m] S).1.2 with
    | nil => rw [hr] at ho; cases ho
    | cons a r =>
      rw [hr] at ho
      simp at ho
      subst ho
      exact ⟨a, r, rfl, rfl⟩
end Go.Proofs.YtehcldnicefmeaaGreatDoor
