import Derived.Test.YtpfmojeigjmlfaaGreatDoorGe
import Derived.Test.YtpfmojeigjmlfaaGreatDoorGc
import Derived.Test.YtpfmojeigjmlfaaGreatDoorKs
namespace Go.Proofs.YtpfmojeigjmlfaaGreatDoor
open Go.RowKit
set_option linter.unusedSimpArgs false
set_option linter.unusedVariables false

/-! The program's test of messages, part by part. -/
def prtB (d : Nat) (c : Bool) (k : Int) (t n s : By) (ca pa : F) : Bool :=
  fldB k t n s (ca.len == 0) (pa.len == 0) && (!(k == 10) || c) && (!(k == 11) || (decide (d < 8) && formB (d + 1) c false pa)) &&
    (!(decide (7 ≤ k) && decide (k ≤ 9)) || (decide (d < 8) && (casB k.toNat (d + 1) (c || k != 9) [] ca && decide (ca.len ≤ 20) && decide (otherP ∈ ca.keys))))
theorem isNil_len (f : F) : f.isNil = (f.len == 0) := by
  cases f with
  | nil => rfl
  | cons k t n s c p r => rw [F.len]; rfl
theorem form_prt (d : Nat) (c pt : Bool) (k : Int) (t n s : By) (ca pa r : F) : formB d c pt (.cons k t n s ca pa r) = (!(pt && k == 1) && prtB d c k t n s ca pa && formB d c (k == 1) r) := by
  rw [formB]
  congr 1
  congr 1
  unfold prtB fldB
  rw [isNil_len, isNil_len]
  by_cases h1 : k = 1
  · subst h1; simp
  by_cases h10 : k = 10
  · subst h10
    simp
    cases c <;> simp
  by_cases h2 : k = 2
  · subst h2; simp
  by_cases h3 : k = 3
  · subst h3; simp
  by_cases h5 : k = 5
  · subst h5; simp
  by_cases h4 : k = 4
  · subst h4; simp
  by_cases h6 : k = 6
  · subst h6; simp
  by_cases h11 : k = 11
  · subst h11
    simp
    cases decide (d < 8) <;> cases nameB n <;> simp
  by_cases h7 : k = 7 ∨ k = 8 ∨ k = 9
  · have h79 : 7 ≤ k ∧ k ≤ 9 := by omega
    simp only [h1, h10, h2, h3, h5, h4, h6, h11, h7, h79.1, h79.2, if_true, if_false, or_self, decide_true, Bool.and_true, Bool.not_true, Bool.false_or]
    have e10 : (k == 10) = false := by rw [beq_eq_false_iff_ne]; exact h10
    have e11 : (k == 11) = false := by rw [beq_eq_false_iff_ne]; exact h11
    rw [e10, e11]
    simp only [Bool.not_false, Bool.true_or, Bool.and_true]
    cases decide (d < 8) <;> cases nameB n <;> cases t.isEmpty <;> cases s.isEmpty <;> cases (pa.len == 0) <;> simp
  · simp only [h1, h10, h2, h3, h5, h4, h6, h11, h7, if_false, or_self, Bool.false_and]
mutual
/-- Cases are nodes of the kind 0 with a key alone; names, styles and keys are no longer than they may be. -/
def Can : F → Prop
  | .nil => True
  | .cons _ _ n s ca pa r => n.length ≤ 1048576 ∧ s.length ≤ 1048576 ∧ CanC ca ∧ Can pa ∧ Can r
def CanC : F → Prop
  | .nil => True
  | .cons k t n s ca pa r => k = 0 ∧ t = [] ∧ s = [] ∧ ca = .nil ∧ n.length ≤ 1048576 ∧ Can pa ∧ CanC r
end
theorem can_drop : ∀ (f : F) (i : Nat), (Can f → Can (fdrop f i)) ∧ (CanC f → CanC (fdrop f i))
  | f, 0 => by rw [fdrop_zero]; exact ⟨id, id⟩
  | .nil, i + 1 => ⟨id, id⟩
  | .cons _ _ _ _ _ _ r, i + 1 => by
    rw [fdrop]
    refine ⟨fun h => ?_, fun h => ?_⟩
    · rw [Can] at h; exact (can_drop r i).1 h.2.2.2.2
    · rw [CanC] at h; exact (can_drop r i).2 h.2.2.2.2.2.2
theorem cas_cons {kind d : Nat} {c : Bool} {seen : List By} {k : Int} {t n s : By} {cs ps r : F} (h : CanC (.cons k t n s cs ps r)) :
    casB kind d c seen (.cons k t n s cs ps r) = (keyB kind n && !decide (n ∈ seen) && formB d c false ps && casB kind d c (seen ++ [n]) r) := by
  rw [CanC] at h
  obtain ⟨rfl, rfl, rfl, rfl, _⟩ := h
  rw [casB]
  simp [F.isNil]
/-- The checker's map of names, and what the parts come to. -/
def CkR (w : World) (mb nn : Nat) (names : List By) (f : F) (b : Bool) (e : Ending) (w' : World) : Prop :=
  e = .returned (.bool b) ∧ Exc (fun j => j = mb) w w' ∧ ∃ nn' names', MapS Tryz.prog 9 4 w' mb nn' names' ∧ nn' ≤ nn + f.nodes ∧ (b = true → ∀ x, x ∈ names' ↔ x ∈ names ∨ x ∈ usesF f)
def CkH (N : Nat) : Prop := ∀ (f : F) (v : Value) (ok : Nat → Prop) (mb nn : Nat) (names : List By) (d : Nat) (c : Bool) (w : World), f.nodes < N → FwS w ok f v → (∀ j, ok j → j ≠ mb) → Can f → MapS Tryz.prog 9 4 w mb nn names →
  nn + f.nodes ≤ 1000000000 → Mx w → mb ≠ 0 → d ≤ 8 → Calls Tryz.prog 92 #[.agg #[.map (some mb)], v, .int .i64 d, .bool c] w (CkR w mb nn names f (formB d c false f))
end Go.Proofs.YtpfmojeigjmlfaaGreatDoor
