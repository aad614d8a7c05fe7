import Derived.Test.YtpfmojeigjmlfaaGreatDoorNPA
namespace Go.Proofs.YtpfmojeigjmlfaaGreatDoor
set_option linter.unusedSimpArgs false
set_option linter.unusedVariables false

/-! The parts of a message, one by one. -/
/-- An element at a token that begins one. -/
def elmP (E d : Nat) (c : Bool) (st : St) : Except Err (F × St) := match st.left with
  | [] => .error (3, E)
  | t :: r => if d < 8 then (msgC E (d + 1) c ⟨r, st.names⟩).bind fun y => match y.2.left with
      | [] => .error (3, E)
      | u :: q => if u.k = 6 ∧ u.t = t.t then .ok (.one 11 [] t.t [] .nil y.1, ⟨q, y.2.names⟩) else .error (3, u.a)
    else .error (6, t.a)
/-- The part at a token. -/
def partP (E d : Nat) (c : Bool) (t : Tok) (r : List Tok) (ns : List By) : Except Err (F × St) :=
  if t.k = 1 then .ok (.one 1 (unescP t.t) [] [] .nil .nil, ⟨r, ns⟩)
  else if t.k = 4 then (if c = true then .ok (.one 10 [] [] [] .nil .nil, ⟨r, ns⟩) else .error (3, t.a))
  else if t.k = 7 then (if d < 8 then .ok (.one 11 [] t.t [] .nil .nil, ⟨r, ns⟩) else .error (6, t.a))
  else if t.k = 5 then elmP E d c ⟨t :: r, ns⟩
  else argC E d c ⟨r, ns⟩
def begB (k : Nat) : Bool := k == 1 || k == 4 || k == 7 || k == 5 || k == 2
def prepF (f : F) (Y : Except Err (F × St)) : Except Err (F × St) := Y.map fun x => (f.app x.1, x.2)
theorem prepF_nil (Y : Except Err (F × St)) : prepF .nil Y = Y := by cases Y <;> rfl
theorem prepF_prepF (f g : F) (Y : Except Err (F × St)) : prepF f (prepF g Y) = prepF (f.app g) Y := by
  cases Y with
  | error e => rfl
  | ok y =>
    show Except.ok (f.app (g.app y.1), y.2) = Except.ok ((f.app g).app y.1, y.2)
    rw [F.app_assoc]
theorem msgC_part {E d : Nat} {c : Bool} {t : Tok} {r : List Tok} {ns : List By} (h : begB t.k = true) : msgC E d c ⟨t :: r, ns⟩ = (partP E d c t r ns).bind fun y => prepF y.1 (msgC E d c y.2) := by
  rw [msgC_cons]
  unfold partP
  by_cases h1 : t.k = 1
  · rw [if_pos h1, if_pos h1]; rfl
  rw [if_neg h1, if_neg h1]
  by_cases h4 : t.k = 4
  · rw [if_pos h4, if_pos h4]
    cases c
    · rfl
    · rw [if_pos rfl, if_pos rfl]; rfl
  rw [if_neg h4, if_neg h4]
  by_cases h7 : t.k = 7
  · rw [if_pos h7, if_pos h7]
    by_cases h8 : d < 8
    · rw [if_pos h8, if_pos h8]; rfl
    · rw [if_neg h8, if_neg h8]; rfl
  rw [if_neg h7, if_neg h7]
  by_cases h5 : t.k = 5
  · rw [if_pos h5, if_pos h5]
    unfold elmP
    simp only
    by_cases h8 : d < 8
    · rw [if_pos h8, if_pos h8]
      cases msgC E (d + 1) c ⟨r, ns⟩ with
      | error e => rfl
      | ok y =>
        obtain ⟨f, ⟨yl, yn⟩⟩ := y
        show elK E t (msgC E d c) _ = _
        unfold elK
        cases yl with
        | nil => rfl
        | cons u q =>
          simp only
          show _ = Except.bind (if u.k = 6 ∧ u.t = t.t then _ else _) _
          by_cases h6 : u.k = 6 ∧ u.t = t.t
          · rw [if_pos h6, if_pos h6]; rfl
          · rw [if_neg h6, if_neg h6]; rfl
    · rw [if_neg h8, if_neg h8]; rfl
  rw [if_neg h5, if_neg h5]
  have h2 : t.k = 2 := by
    unfold begB at h
    simpa [h1, h4, h7, h5] using h
  rw [if_pos h2]
  rfl
theorem msgC_stopB {E d : Nat} {c : Bool} {t : Tok} {r : List Tok} {ns : List By} (h : begB t.k = false) : msgC E d c ⟨t :: r, ns⟩ = .ok (.nil, ⟨t :: r, ns⟩) := by
  rw [msgC_cons]
  unfold begB at h
  simp only [Bool.or_eq_false_iff, beq_eq_false_iff_ne] at h
  rw [if_neg h.1.1.1.1, if_neg h.1.1.1.2, if_neg h.1.1.2, if_neg h.1.2, if_neg h.2]
theorem elmP_len {E d : Nat} {c : Bool} {t : Tok} {r : List Tok} {ns : List By} {x : F × St} (h : elmP E d c ⟨t :: r, ns⟩ = .ok x) : x.1.len = 1 ∧ x.2.left.length ≤ r.length := by
  unfold elmP at h
  simp only at h
  split at h
  · cases hm : msgC E (d + 1) c ⟨r, ns⟩ with
    | error e => rw [hm] at h; cases h
    | ok y =>
      have hl := msgC_len hm
      rw [hm] at h
      obtain ⟨f, ⟨yl, yn⟩⟩ := y
      cases yl with
      | nil => cases h
      | cons u q =>
        have h2 : (if u.k = 6 ∧ u.t = t.t then (Except.ok (F.one 11 [] t.t [] .nil f, (⟨q, yn⟩ : St)) : Except Err (F × St)) else .error (3, u.a)) = .ok x := h
        split at h2
        · injection h2 with h2
          subst h2
          simp only [List.length_cons] at hl
          exact ⟨rfl, by simp only; omega⟩
        · cases h2
  · cases h
theorem esc_text : ∀ s : By, escOK s = true → textN s = s.length
  | [], _ => rfl
  | [c], h => by
    simp only [escOK, Bool.not_eq_true'] at h
    rw [textN, h]
    rfl
  | c :: d :: r, h => by
    rw [escOK] at h
    rw [textN]
    cases hc : specB c
    · rw [hc, if_neg (by decide)] at h
      rw [if_neg (by decide), esc_text (d :: r) h]
      rfl
    · rw [hc, if_pos rfl, Bool.and_eq_true] at h
      rw [if_pos rfl, if_pos h.1, esc_text r h.2]
      rfl
end Go.Proofs.YtpfmojeigjmlfaaGreatDoor
