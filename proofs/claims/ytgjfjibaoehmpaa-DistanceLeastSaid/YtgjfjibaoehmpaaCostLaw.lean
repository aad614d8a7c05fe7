import Derived.Test.YtgjfjibaoehmpaaLev2
import Derived.Test.YtgjfjibaoehmpaaAlign
namespace Go.Proofs.Ytgjfjibaoehmpaa

/-- The steps of the way back cost the distance. -/
theorem cost_align (xs ys : List ByteArray) : ∀ (fuel i k : Nat) (r : List (Int × Int)) (c : Nat), i + k ≤ fuel → i ≤ xs.length → k ≤ ys.length →
    costF (eqAt xs ys) xs.length ys.length ((alignN (dst xs ys) (eqAt xs ys) fuel i k).reverse ++ r) 0 0 c = costF (eqAt xs ys) xs.length ys.length r i k (c + dst xs ys i k)
  | 0, i, k, r, c, h, _, _ => by
    obtain rfl : i = 0 := by omega
    obtain rfl : k = 0 := by omega
    simp [alignN, dst]
  | fuel + 1, i, k, r, c, h, hi, hk => by
    by_cases h0 : i = 0 ∧ k = 0
    · obtain ⟨rfl, rfl⟩ := h0
      simp [al_end, dst]
    · by_cases hi0 : i = 0
      · subst hi0
        rw [al_left (by omega) (.inl rfl), List.reverse_cons, List.append_assoc, cost_align xs ys fuel 0 (k - 1) _ c (by omega) hi (by omega)]
        show costF _ _ _ ((-1, (k : Int) - 1) :: r) _ _ _ = _
        rw [costF, if_neg (by omega), if_neg (by omega), if_pos (by omega), show k - 1 + 1 = k from by omega]
        simp [dst]
        congr 1; omega
      · by_cases hk0 : k = 0
        · subst hk0
          rw [al_up (by omega) (.inl rfl) (by rw [dst_left, dst_left]; omega), List.reverse_cons, List.append_assoc, cost_align xs ys fuel (i - 1) 0 _ c (by omega) (by omega) hk]
          show costF _ _ _ (((i : Int) - 1, -1) :: r) _ _ _ = _
          rw [costF, if_neg (by omega), if_pos (by omega), show i - 1 + 1 = i from by omega, dst_left, dst_left]
          congr 1; omega
        · have e1 : i - 1 + 1 = i := by omega
          have e2 : k - 1 + 1 = k := by omega
          by_cases he : xs[i - 1]? = ys[k - 1]?
          · have hd := dst_eq xs ys (i - 1) (k - 1) he
            rw [e1, e2] at hd
            have hE : eqAt xs ys (i - 1) (k - 1) = true := by simp [eqAt, he]
            rw [al_diag (by omega) (by omega) (.inl ⟨hE, hd⟩), List.reverse_cons, List.append_assoc, cost_align xs ys fuel (i - 1) (k - 1) _ c (by omega) (by omega) (by omega)]
            show costF _ _ _ (((i : Int) - 1, (k : Int) - 1) :: r) _ _ _ = _
            rw [costF, if_pos (by omega), e1, e2, if_pos hE, hd]
          · have hd := dst_ne xs ys (i - 1) (k - 1) he
            rw [e1, e2] at hd
            have hE : eqAt xs ys (i - 1) (k - 1) = false := by simp [eqAt, he]
            by_cases c1 : dst xs ys i k = dst xs ys (i - 1) (k - 1) + 1
            · rw [al_diag (by omega) (by omega) (.inr ⟨hE, c1⟩), List.reverse_cons, List.append_assoc, cost_align xs ys fuel (i - 1) (k - 1) _ c (by omega) (by omega) (by omega)]
              show costF _ _ _ (((i : Int) - 1, (k : Int) - 1) :: r) _ _ _ = _
              rw [costF, if_pos (by omega), e1, e2, if_neg (by rw [hE]; simp), c1]
              congr 1
            · by_cases c2 : dst xs ys i k = dst xs ys (i - 1) k + 1
              · rw [al_up (by omega) (.inr ⟨hE, c1⟩) c2, List.reverse_cons, List.append_assoc, cost_align xs ys fuel (i - 1) k _ c (by omega) (by omega) hk]
                show costF _ _ _ (((i : Int) - 1, -1) :: r) _ _ _ = _
                rw [costF, if_neg (by omega), if_pos (by omega), e1, c2]
                congr 1
              · have c3 : dst xs ys i k = dst xs ys i (k - 1) + 1 := by omega
                rw [al_left (by omega) (.inr ⟨hE, c1, c2⟩), List.reverse_cons, List.append_assoc, cost_align xs ys fuel i (k - 1) _ c (by omega) hi (by omega)]
                show costF _ _ _ ((-1, (k : Int) - 1) :: r) _ _ _ = _
                rw [costF, if_neg (by omega), if_neg (by omega), if_pos (by omega), e2, c3]
                congr 1

theorem cost_of_align (xs ys : List ByteArray) (n m : Nat) (hn : xs.length = n) (hm : ys.length = m) :
    costF (eqAt xs ys) n m (alignN (dst xs ys) (eqAt xs ys) (n + m) n m).reverse 0 0 0 = some (dst xs ys n m) := by
  subst hn; subst hm
  have h := cost_align xs ys (xs.length + ys.length) xs.length ys.length [] 0 (Nat.le_refl _) (Nat.le_refl _) (Nat.le_refl _)
  rw [List.append_nil] at h
  rw [h]
  simp [costF]

/-- Steps that are an alignment are a script. -/
theorem cost_ed (xs ys : List ByteArray) : ∀ (l : List (Int × Int)) (i k c0 c : Nat), i ≤ xs.length → k ≤ ys.length → costF (eqAt xs ys) xs.length ys.length l i k c0 = some c → ∃ d, c = c0 + d ∧ Ed (xs.drop i) (ys.drop k) d
  | [], i, k, c0, c, hi, hk, h => by
    rw [costF] at h
    split at h
    · rename_i he
      injection h with h
      obtain ⟨rfl, rfl⟩ := he
      exact ⟨0, h.symm, by simpa using Ed.nil⟩
    · cases h
  | (a, b) :: r, i, k, c0, c, hi, hk, h => by
    rw [costF] at h
    split at h
    · rename_i he
      obtain ⟨_, _, h1, h2⟩ := he
      obtain ⟨d, e1, e2⟩ := cost_ed xs ys r (i + 1) (k + 1) _ c h1 h2 h
      refine ⟨(if eqAt xs ys i k then 0 else 1) + d, ?_, ?_⟩
      · rw [e1]; split <;> omega
      · rw [List.drop_eq_getElem_cons h1, List.drop_eq_getElem_cons h2]
        have h3 : Ed [xs[i]] [ys[k]] (if eqAt xs ys i k then 0 else 1) := by
          by_cases hE : eqAt xs ys i k = true
          · rw [if_pos hE]
            have : xs[i] = ys[k] := by
              simp only [eqAt, decide_eq_true_eq, List.getElem?_eq_getElem h1, List.getElem?_eq_getElem h2] at hE
              exact Option.some.inj hE
            rw [this]
            exact Ed.same _
          · rw [if_neg hE]; exact Ed.one _ _
        exact Ed.app h3 e2
    · split at h
      · rename_i he
        obtain ⟨_, _, h1⟩ := he
        obtain ⟨d, e1, e2⟩ := cost_ed xs ys r (i + 1) k _ c h1 hk h
        refine ⟨1 + d, by omega, ?_⟩
        rw [List.drop_eq_getElem_cons h1]
        exact Ed.app (Ed.del [xs[i]]) e2
      · split at h
        · rename_i he
          obtain ⟨_, _, h1⟩ := he
          obtain ⟨d, e1, e2⟩ := cost_ed xs ys r i (k + 1) _ c hi h1 h
          refine ⟨1 + d, by omega, ?_⟩
          rw [List.drop_eq_getElem_cons h1]
          exact Ed.app (Ed.del [ys[k]]).symm e2
        · cases h

theorem cost_least (xs ys : List ByteArray) (n m : Nat) (l : List (Int × Int)) (c : Nat) (hn : xs.length = n) (hm : ys.length = m) (h : costF (eqAt xs ys) n m l 0 0 0 = some c) : dst xs ys n m ≤ c := by
  subst hn; subst hm
  obtain ⟨d, e1, e2⟩ := cost_ed xs ys l 0 0 0 c (Nat.zero_le _) (Nat.zero_le _) h
  have := D_le e2
  simp [D] at this
  omega

end Go.Proofs.Ytgjfjibaoehmpaa
