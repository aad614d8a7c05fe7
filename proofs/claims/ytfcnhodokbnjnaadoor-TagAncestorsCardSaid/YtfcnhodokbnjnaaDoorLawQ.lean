import Derived.Test.YtfcnhodokbnjnaaDoorLawS
namespace Go.Proofs.YtfcnhodokbnjnaaDoor
set_option linter.unusedSimpArgs false
set_option linter.unusedVariables false

/-! The chain of ancestors as texts. -/
def qT (t : TagP) (k : Nat) : TagP := (t :: ancs t).getD k TagP.zero
def qOf (t : TagP) (k : Nat) : List UInt8 := textP (qT t k)
theorem is_tag {s : List UInt8} (h : isP s = true) : ∃ t, validP t = true ∧ parseP EC s = (t, 0) ∧ textP t = s := by
  unfold isP canP at h
  simp only [Bool.and_eq_true, beq_iff_eq] at h
  obtain ⟨h1, h2⟩ := h
  rw [if_pos h1] at h2
  exact ⟨_, parse_ok h1, by rw [← h1], h2⟩
theorem qT_zero (t : TagP) : qT t 0 = t := rfl
theorem qT_step {t : TagP} (hv : validP t = true) {k : Nat} (hk : k < (ancs t).length) : upP (qT t k) = some (qT t (k + 1)) ∧ validP (qT t k) = true ∧ validP (qT t (k + 1)) = true ∧ rankP (qT t (k + 1)) + k + 1 = rankP t := by
  obtain ⟨a, u, h1, h2, h3, h4, h5, h6⟩ := ancs_chain t hv k hk
  have e1 : qT t k = a := by unfold qT; rw [List.getD_eq_getElem?_getD, h1]; rfl
  have e2 : qT t (k + 1) = u := by unfold qT; rw [List.getD_eq_getElem?_getD, List.getElem?_cons_succ, h2]; rfl
  rw [e1, e2]
  exact ⟨h3, h5, h4, h6⟩
theorem qT_rank {t : TagP} (hv : validP t = true) {k : Nat} (hk : k ≤ (ancs t).length) : validP (qT t k) = true ∧ rankP (qT t k) + k = rankP t := by
  cases k with
  | zero => exact ⟨hv, rfl⟩
  | succ k =>
    obtain ⟨_, _, h3, h4⟩ := qT_step hv (k := k) hk
    exact ⟨h3, by omega⟩
theorem q_parent {t : TagP} (hv : validP t = true) {k : Nat} (hk : k < (ancs t).length) : parentP (qOf t k) = (qOf t (k + 1), 0) := by
  obtain ⟨h1, h2, _, _⟩ := qT_step hv hk
  unfold parentP qOf
  rw [parse_text EC _ h2]
  simp [h1]
theorem q_end {t : TagP} (hv : validP t = true) : qT t (ancs t).length = ⟨undP, [], [], []⟩ := by
  obtain ⟨h1, h2⟩ := qT_rank hv (Nat.le_refl (ancs t).length)
  have h3 := ancs_len _ t hv rfl
  exact up_none (rank_zero.2 (by omega))
theorem q_root {t : TagP} (hv : validP t = true) : qOf t (ancs t).length = undP := by unfold qOf; rw [q_end hv]; exact text_und
theorem q_last {t : TagP} (hv : validP t = true) : parentP undP = ([], 8) := by
  have h := parse_text EC ⟨undP, [], [], []⟩ valid_und
  rw [text_und] at h
  unfold parentP
  rw [h, rank_zero.2 (show rankP ⟨undP, [], [], []⟩ = 0 from by decide)]
  rfl
theorem q_ne {t : TagP} (hv : validP t = true) {i j : Nat} (hij : i < j) (hj : j ≤ (ancs t).length) : qOf t i ≠ qOf t j := by
  obtain ⟨h1, h2⟩ := qT_rank hv (k := i) (by omega)
  obtain ⟨h3, h4⟩ := qT_rank hv hj
  intro h
  have := text_inj _ _ h1 h3 h
  rw [this] at h2
  omega
theorem q_list (t : TagP) : (ancs t).map textP = (List.range (ancs t).length).map fun k => qOf t (k + 1) := by
  apply List.ext_getElem?
  intro i
  rw [List.getElem?_map, List.getElem?_map]
  by_cases hi : i < (ancs t).length
  · rw [List.getElem?_eq_getElem hi, List.getElem?_eq_getElem (by simpa using hi)]
    simp [qOf, qT, List.getD_eq_getElem?_getD, hi]
  · rw [List.getElem?_eq_none (by omega), List.getElem?_eq_none (by simp; omega)]
    rfl
theorem q_len {t : TagP} (hv : validP t = true) : (ancs t).length ≤ 7 := by rw [ancs_len _ t hv rfl]; exact rank_le hv
theorem q_size {t : TagP} (hv : validP t = true) {k : Nat} (hk : k ≤ (ancs t).length) : (qOf t k).length ≤ 60 := textP_len (qT_rank hv hk).1
end Go.Proofs.YtfcnhodokbnjnaaDoor
