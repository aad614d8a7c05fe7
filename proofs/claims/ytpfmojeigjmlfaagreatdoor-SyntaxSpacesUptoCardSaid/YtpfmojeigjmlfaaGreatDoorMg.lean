import Derived.Test.YtpfmojeigjmlfaaGreatDoorPn2
import Derived.Test.YtpfmojeigjmlfaaGreatDoorKy
import Derived.Test.YtpfmojeigjmlfaaGreatDoorFo
import Derived.Test.YtpfmojeigjmlfaaGreatDoorPe
import Derived.BigQuiet
namespace Go.Proofs.YtpfmojeigjmlfaaGreatDoor
open Go.RowKit
set_option linter.unusedSimpArgs false
set_option linter.unusedVariables false

/-! The parser: an element. -/
def RetM (w : World) (C : Pc) (Y : Except Err (F × St)) (e : Ending) (w' : World) : Prop :=
  (∃ A n c, e = .returned (.slice A n c) ∧ (∀ f st, Y = .ok (f, st) → FwS w' (fun k => w.heap.size ≤ k) f (.slice A n c) ∧ n ≤ c)) ∧ PsO w' C (Y.map (·.2)) ∧ Exc C.two w w'
/-- Messages with fewer tokens than N are read. -/
def MsgH (N : Nat) : Prop := ∀ (C : Pc) (X : Except Err St) (d : Nat) (c : Bool) (w : World), PsO w C X → (∀ st, X = .ok st → st.left.length < N ∧ d ≤ 8) → d ≤ 100 →
  Calls Tryz.prog 73 #[.pointer (some ⟨C.g, 0, none⟩), .int .i64 d, .bool c] w (RetM w C (X.bind (msgC C.s.size d c)))
def RetP (w : World) (C : Pc) (Y : Except Err (F × St)) (e : Ending) (w' : World) : Prop :=
  (∃ (k : Int) (t n s : ByteArray) (Ac : Option Addr) (nc cc : Nat) (Ap : Option Addr) (np cp : Nat), e = .returned (.agg #[.int .i64 k, .string t, .string n, .string s, .slice Ac nc cc, .slice Ap np cp]) ∧
    (∀ f st, Y = .ok (f, st) → f.len = 1 ∧ Fw w' (fun k => w.heap.size ≤ k) f [.int .i64 k, .string t, .string n, .string s, .slice Ac nc cc, .slice Ap np cp])) ∧ PsO w' C (Y.map (·.2)) ∧ Exc C.two w w'
def endX (X : Except Err St) : Except Err St → Except Err St := fun _ => X
theorem map_snd_bind {α : Type} (Y : Except Err (F × St)) (g : St → Except Err α) : (Y.map (·.2)).bind g = Y.bind (fun y => g y.2) := by cases Y <;> rfl
/-- What the steps of an element come to. -/
theorem elm_bad {E d : Nat} {c : Bool} {t : Tok} {r : List Tok} {ns : List By} (h5 : t.k = 5) {X1 X2 : Except Err St} {Y : Except Err (F × St)} (e1 : X1 = (Except.ok ⟨t :: r, ns⟩ : Except Err St).bind (deepX E (d + 1))) (e2 : X2 = X1.bind (takeX E 5)) (e3 : Y = X2.bind (msgC E (d + 1) c))
    (hb : ∀ u q yn f, Y = .ok (f, ⟨u :: q, yn⟩) → ¬ (u.k = 6 ∧ u.t = t.t)) :
    ∃ e, elmP E d c ⟨t :: r, ns⟩ = .error e ∧ ((Y.map (·.2)).bind fun st => .error (3, plE E st.left)).bind (takeX E 6) = .error e := by
  by_cases h8 : d < 8
  · have a1 : X1 = .ok ⟨t :: r, ns⟩ := by rw [e1]; exact if_neg (by omega)
    have a2 : X2 = .ok ⟨r, ns⟩ := by
      rw [e2, a1]
      show Except.map _ (if t.k = 5 then .ok (t.t, r) else .error (3, t.a)) = _
      rw [if_pos h5]; rfl
    have a3 : Y = msgC E (d + 1) c ⟨r, ns⟩ := by rw [e3, a2]; rfl
    unfold elmP
    simp only
    rw [if_pos h8, ← a3]
    rcases Y with e | ⟨f, ⟨_ | ⟨u, q⟩, yn⟩⟩
    · exact ⟨e, rfl, rfl⟩
    · exact ⟨_, rfl, rfl⟩
    · refine ⟨(3, u.a), ?_, rfl⟩
      show (if u.k = 6 ∧ u.t = t.t then _ else _) = _
      rw [if_neg (hb u q yn f rfl)]
  · have a1 : X1 = .error (6, t.a) := by rw [e1]; exact if_pos (by omega)
    have a3 : Y = .error (6, t.a) := by rw [e3, e2, a1]; rfl
    refine ⟨(6, t.a), ?_, by rw [a3]; rfl⟩
    unfold elmP
    simp only
    rw [if_neg h8]
theorem elm_good {E d : Nat} {c : Bool} {t u : Tok} {r q : List Tok} {ns yn : List By} {f : F} (h5 : t.k = 5) {X1 X2 : Except Err St} {Y : Except Err (F × St)} (e1 : X1 = (Except.ok ⟨t :: r, ns⟩ : Except Err St).bind (deepX E (d + 1))) (e2 : X2 = X1.bind (takeX E 5)) (e3 : Y = X2.bind (msgC E (d + 1) c))
    (hy : Y = .ok (f, ⟨u :: q, yn⟩)) (hu : u.k = 6 ∧ u.t = (takeS 5 X1).data.toList) :
    elmP E d c ⟨t :: r, ns⟩ = .ok (.one 11 [] t.t [] .nil f, ⟨q, yn⟩) ∧ (Y.map (·.2)).bind (takeX E 6) = .ok ⟨q, yn⟩ ∧ takeS 5 X1 = ⟨t.t.toArray⟩ := by
  by_cases h8 : d < 8
  · have a1 : X1 = .ok ⟨t :: r, ns⟩ := by rw [e1]; exact if_neg (by omega)
    have a0 : takeS 5 X1 = ⟨t.t.toArray⟩ := by
      rw [a1]
      show (if t.k = 5 then (⟨t.t.toArray⟩ : ByteArray) else ⟨#[]⟩) = _
      rw [if_pos h5]
    have a2 : X2 = .ok ⟨r, ns⟩ := by
      rw [e2, a1]
      show Except.map _ (if t.k = 5 then .ok (t.t, r) else .error (3, t.a)) = _
      rw [if_pos h5]; rfl
    have a3 : msgC E (d + 1) c ⟨r, ns⟩ = .ok (f, ⟨u :: q, yn⟩) := by rw [← hy, e3, a2]; rfl
    rw [a0] at hu
    refine ⟨?_, ?_, a0⟩
    · unfold elmP
      simp only
      rw [if_pos h8, a3]
      exact if_pos hu
    · rw [hy]
      show Except.map _ (if u.k = 6 then .ok (u.t, q) else .error (3, u.a)) = _
      rw [if_pos hu.1]; rfl
  · have a1 : X1 = .error (6, t.a) := by rw [e1]; exact if_pos (by omega)
    rw [e3, e2, a1] at hy
    cases hy
end Go.Proofs.YtpfmojeigjmlfaaGreatDoor
