import Derived.Test.YtpfmojeigjmlfaaDoorNPF
import Derived.Test.YtpfmojeigjmlfaaDoorNPE
namespace Go.Proofs.YtpfmojeigjmlfaaDoor
set_option linter.unusedSimpArgs false
set_option linter.unusedVariables false

/-! Parts of messages: the first ones, the others, cases. -/
def ftake : F → Nat → F
  | _, 0 => .nil
  | .nil, _ + 1 => .nil
  | .cons k t n s c p r, i + 1 => .cons k t n s c p (ftake r i)
theorem ftake_zero (f : F) : ftake f 0 = .nil := by cases f <;> rfl
theorem take_drop : ∀ (f : F) (i : Nat), (ftake f i).app (fdrop f i) = f
  | f, 0 => by rw [fdrop_zero, ftake_zero]; rfl
  | .nil, _ + 1 => rfl
  | .cons k t n s c p r, i + 1 => by rw [ftake, fdrop, F.app, take_drop r i]
theorem take_len : ∀ (f : F) (i : Nat), i ≤ f.len → (ftake f i).len = i
  | f, 0, _ => by rw [ftake_zero]; rfl
  | .nil, _ + 1, h => absurd h (Nat.not_succ_le_zero _)
  | .cons k t n s c p r, i + 1, h => by rw [ftake, F.len, take_len r i (by rw [F.len] at h; omega)]
theorem txtP_app (gap : By) (f g : F) : txtP gap (f.app g) = txtP gap f ++ txtP gap g := by
  induction f with
  | nil => rw [txtP]; rfl
  | cons k t n s cs ps r _ _ ih => rw [F.app, txtP, txtP, ih, ← List.append_assoc]
theorem form_app {d : Nat} {c : Bool} {g : F} : ∀ (f : F) (pt : Bool), formB d c pt (f.app g) = true → formB d c pt f = true ∧ formB d c false g = true
  | .nil, pt, h => by
    refine ⟨rfl, ?_⟩
    cases pt with
    | false => exact h
    | true => exact formB_false h
  | .cons k t n s cs ps r, pt, h => by
    rw [F.app, formB, Bool.and_eq_true] at h
    obtain ⟨h1, h2⟩ := h
    obtain ⟨h3, h4⟩ := form_app r _ h2
    rw [formB, Bool.and_eq_true]
    exact ⟨⟨h1, h3⟩, h4⟩
theorem valid_app {c : Bool} {f g : F} (h : validF c (f.app g) = true) : validF c f = true ∧ validF c g = true := by
  obtain ⟨h1, h2, h3⟩ := validF_iff.1 h
  obtain ⟨h4, h5⟩ := form_app f _ h1
  rw [txtP_app, List.length_append] at h3
  refine ⟨validF_iff.2 ⟨h4, Nat.le_trans (names_sub fun x hx => ?_) h2, by omega⟩, validF_iff.2 ⟨h5, Nat.le_trans (names_sub fun x hx => ?_) h2, by omega⟩⟩
  · rw [usesF_app]; exact List.mem_append_left _ hx
  · rw [usesF_app]; exact List.mem_append_right _ hx
theorem valid_take {c : Bool} {f : F} (h : validF c f = true) (i : Nat) : validF c (ftake f i) = true ∧ validF c (fdrop f i) = true := by
  rw [← take_drop f i] at h
  exact valid_app h
theorem txt_split (gap : By) (f : F) (i : Nat) : txtP gap (ftake f i) ++ txtP gap (fdrop f i) = txtP gap f := by rw [← txtP_app, take_drop]
theorem inner_elem {f : F} {i : Nat} {k : Int} {t n s : By} {ca pa r : F} (h : fdrop f i = .cons k t n s ca pa r) : Inner pa f := by
  have h2 : Inner pa (fdrop f i) := by rw [h]; exact .elem
  clear h
  induction i generalizing f with
  | zero => rw [fdrop_zero] at h2; exact h2
  | succ i ih =>
    cases f with
    | nil => exact absurd h2 inner_nil
    | cons => exact .next (ih h2)
theorem inner_of {q f : F} {i : Nat} {k : Int} {t n s : By} {ca pa r : F} (h : fdrop f i = .cons k t n s ca pa r) (hq : Inner q ca) : Inner q f := by
  have h2 : Inner q (fdrop f i) := by rw [h]; exact .case hq
  clear h
  induction i generalizing f with
  | zero => rw [fdrop_zero] at h2; exact h2
  | succ i ih =>
    cases f with
    | nil => exact absurd h2 inner_nil
    | cons => exact .next (ih h2)
theorem txt_case : ∀ (ca : F) (j : Nat) {k : Int} {t n s : By} {cs ps r : F}, fdrop ca j = .cons k t n s cs ps r → ∃ a b : By, casT [32] ca = a ++ (([32] ++ (n ++ ([32, 123] ++ (txtP [32] ps ++ [125])))) ++ b)
  | .nil, j, _, _, _, _, _, _, _, h => by cases j <;> cases h
  | .cons _ _ nn _ _ pp r2, 0, _, _, _, _, _, _, _, h => by
    rw [fdrop] at h
    injection h with e1 e2 e3 e4 e5 e6 e7
    subst e1 e2 e3 e4 e5 e6 e7
    refine ⟨[], casT [32] r2, ?_⟩
    rw [casT]
    simp
  | .cons _ _ nn _ _ pp r2, j + 1, _, _, _, _, _, _, _, h => by
    rw [fdrop] at h
    obtain ⟨a, b, e⟩ := txt_case r2 j h
    rw [casT, e]
    exact ⟨[32] ++ nn ++ [32] ++ [123] ++ txtP [32] pp ++ [125] ++ a, b, by simp only [List.append_assoc]⟩
theorem form_kindK {d : Nat} {c pt : Bool} {k : Int} {t n s : By} {cs ps r : F} (h : formB d c pt (.cons k t n s cs ps r) = true) (hn : cs ≠ .nil) : 7 ≤ k ∧ k ≤ 9 := by
  rw [formB] at h
  simp only [Bool.and_eq_true] at h
  have h2 := h.1.2
  have no : ∀ {p : Prop}, cs.isNil = true → p := fun e => absurd (nil_isNil e) hn
  split at h2
  · simp only [Bool.and_eq_true] at h2; exact no h2.1.2
  split at h2
  · simp only [Bool.and_eq_true] at h2; exact no h2.1.2
  split at h2
  · simp only [Bool.and_eq_true] at h2; exact no h2.1.2
  split at h2
  · simp only [Bool.and_eq_true] at h2; exact no h2.1.2
  split at h2
  · simp only [Bool.and_eq_true] at h2; exact no h2.1.2
  split at h2
  · simp only [Bool.and_eq_true] at h2; exact no h2.1.2
  split at h2
  · simp only [Bool.and_eq_true] at h2; exact no h2.1.2
  split at h2
  · omega
  · cases h2
/-- The text of a case stands in that of its message. -/
theorem txt_holds {c : Bool} {f : F} (hv : validF c f = true) {i j : Nat} {k : Int} {t n s : By} {ca pa r : F} (h : fdrop f i = .cons k t n s ca pa r) {k' : Int} {t' n' s' : By} {ca' pa' r' : F} (h2 : fdrop ca j = .cons k' t' n' s' ca' pa' r') :
    ∃ a b : By, txtP [32] f = a ++ (([32] ++ (n' ++ ([32, 123] ++ (txtP [32] pa' ++ [125])))) ++ b) := by
  have hf := (validF_iff.1 (valid_take hv i).2).1
  rw [h] at hf
  obtain ⟨h7, h9⟩ := form_kindK hf (by rintro rfl; cases j <;> cases h2)
  obtain ⟨a, b, e⟩ := txt_case ca j h2
  rw [← txt_split [32] f i, h, txtP, if_neg (by omega), if_neg (by omega), if_neg (by omega), if_neg (by omega), if_pos ⟨by omega, h9⟩, e]
  exact ⟨txtP [32] (ftake f i) ++ ([123] ++ n ++ [44] ++ [32] ++ usesP k ++ styleP [32] s ++ (if 7 ≤ k then [44] else [])) ++ a, b ++ [125] ++ txtP [32] r, by simp only [List.append_assoc]⟩
end Go.Proofs.YtpfmojeigjmlfaaDoor
