import Derived.Test.YtpfmojeigjmlfaaDoorKp
import Derived.Test.YtpfmojeigjmlfaaDoorNP2
namespace Go.Proofs.YtpfmojeigjmlfaaDoor
open Go.RowKit
set_option linter.unusedSimpArgs false
set_option linter.unusedVariables false

/-! The first parts of a slice, the others. -/
theorem Fw_take (w : World) (ok : Nat → Prop) : ∀ (f : F) (i : Nat), i ≤ f.len → ∀ cs, Fw w ok f cs → Fw w ok (ftake f i) (cs.take (i * 6))
  | f, 0, _ => fun cs h => by rw [ftake_zero, Fw]; simp
  | .nil, _ + 1, h => absurd h (Nat.not_succ_le_zero _)
  | .cons k t n s ca pa r, i + 1, hi => fun cs h => by
    rw [Fw] at h
    obtain ⟨Ac, cc, Ap, cp, ds, ps, rs, rfl, a, b, h4⟩ := h
    rw [ftake, Fw]
    refine ⟨Ac, cc, Ap, cp, ds, ps, rs.take (i * 6), ?_, a, b, Fw_take w ok r i (by rw [F.len] at hi; omega) _ h4⟩
    rw [show (i + 1) * 6 = 6 + i * 6 from by omega, List.take_append, List.take_of_length_le (by simp)]
    congr 2
    simp
theorem SlN.takeK {w : World} {A : Option Addr} {n size : Nat} {xs : List Value} (h : SlN w A n size xs) (i : Nat) (hi : i ≤ n) : SlN w A i size (xs.take (i * size)) := by
  refine ⟨?_, fun j u hu => ?_⟩
  · rw [List.length_take, h.1]
    exact Nat.min_eq_left (Nat.mul_le_mul_right _ hi)
  · rw [List.getElem?_take] at hu
    split at hu
    · exact h.2 j u hu
    · cases hu
theorem SlN.dropK {w : World} {b o n size : Nat} {xs : List Value} (h : SlN w (some ⟨b, o, none⟩) n size xs) (k : Nat) (hk : k ≤ n) : SlN w (some ⟨b, o + k * size, none⟩) (n - k) size (xs.drop (k * size)) := by
  refine ⟨?_, fun j u hu => ?_⟩
  · rw [List.length_drop, h.1, ← Nat.sub_mul]
  · rw [List.getElem?_drop] at hu
    obtain ⟨b', o', e, hb, hc⟩ := h.2 _ u hu
    injection e with e
    injection e with e1 e2
    subst e1 e2
    exact ⟨b, o + k * size, rfl, hb, by rw [Nat.add_assoc]; exact hc⟩
theorem FwS.take {w : World} {ok : Nat → Prop} {f : F} {A : Option Addr} {c : Nat} (h : FwS w ok f (.slice A f.len c)) (i : Nat) (hi : i ≤ f.len) (c' : Nat) : FwS w ok (ftake f i) (.slice A i c') := by
  obtain ⟨A', c2, ps, e, h1, h2, h3⟩ := h
  injection e with e1 e2 e3
  subst e1 e3
  have hl := take_len f i hi
  exact ⟨A, c', ps.take (i * 6), by rw [hl], by rw [hl]; exact h1.takeK i hi, fun h0 => h2 (by omega), Fw_take w ok f i hi _ h3⟩
theorem FwS.drop {w : World} {ok : Nat → Prop} {f : F} {b o c : Nat} (h : FwS w ok f (.slice (some ⟨b, o, none⟩) f.len c)) (i : Nat) (hi : i ≤ f.len) (c' : Nat) : FwS w ok (fdrop f i) (.slice (some ⟨b, o + i * 6, none⟩) (f.len - i) c') := by
  obtain ⟨A', c2, ps, e, h1, h2, h3⟩ := h
  injection e with e1 e2 e3
  subst e1 e3
  have hl := fdrop_len f i
  exact ⟨some ⟨b, o + i * 6, none⟩, c', ps.drop (i * 6), by rw [hl], by rw [hl]; exact h1.dropK i hi, fun h0 ad hA => by
    injection hA with hA
    subst hA
    exact h2 (by omega) ⟨b, o, none⟩ rfl, (FCw_drop w ok f i hi).1 _ h3⟩
theorem can_take : ∀ (f : F) (i : Nat), Can f → Can (ftake f i)
  | f, 0, _ => by rw [ftake_zero, Can]; trivial
  | .nil, _ + 1, h => h
  | .cons _ _ _ _ _ _ r, i + 1, h => by
    rw [Can] at h
    rw [ftake, Can]
    exact ⟨h.1, h.2.1, h.2.2.1, h.2.2.2.1, can_take r i h.2.2.2.2⟩
theorem wt_take : ∀ (f : F) (i : Nat), wt (ftake f i) + wt (fdrop f i) = wt f := by
  intro f i
  have h := congrArg wt (take_drop f i)
  rw [wt_app] at h
  exact h
end Go.Proofs.YtpfmojeigjmlfaaDoor
