import Derived.Test.YtpfmojeigjmlfaaGreatDoorFo
import Derived.Test.YtpfmojeigjmlfaaGreatDoorFlt
namespace Go.Proofs.YtpfmojeigjmlfaaGreatDoor
open Go.RowKit
set_option linter.unusedSimpArgs false
set_option linter.unusedVariables false

/-! Forests in memory, part by part. -/
def fdrop : F → Nat → F
  | f, 0 => f
  | .nil, _ + 1 => .nil
  | .cons _ _ _ _ _ _ r, n + 1 => fdrop r n
def F.nodes : F → Nat
  | .nil => 0
  | .cons _ _ _ _ c p r => c.nodes + p.nodes + r.nodes + 1
theorem fdrop_len : ∀ (f : F) (i : Nat), (fdrop f i).len = f.len - i
  | f, 0 => by cases f <;> rfl
  | .nil, _ + 1 => by rw [fdrop, F.len]; omega
  | .cons _ _ _ _ _ _ r, n + 1 => by rw [fdrop, F.len, fdrop_len r n]; omega
theorem fdrop_nodes : ∀ (f : F) (i : Nat), (fdrop f i).nodes ≤ f.nodes
  | f, 0 => by cases f <;> exact Nat.le_refl _
  | .nil, _ + 1 => Nat.le_refl _
  | .cons _ _ _ _ _ _ r, n + 1 => by rw [fdrop, F.nodes]; have := fdrop_nodes r n; omega
theorem fdrop_zero (f : F) : fdrop f 0 = f := by cases f <;> rfl
theorem fdrop_cons : ∀ (f : F) (i : Nat), i < f.len → ∃ k t n s ca pa, fdrop f i = .cons k t n s ca pa (fdrop f (i + 1))
  | .nil, _, h => absurd h (Nat.not_lt_zero _)
  | .cons k t n s c p r, 0, _ => ⟨k, t, n, s, c, p, by rw [fdrop_zero, fdrop, fdrop_zero]⟩
  | .cons _ _ _ _ _ _ r, i + 1, h => by
    have h2 : i < r.len := by rw [F.len] at h; omega
    obtain ⟨k, t, n, s, ca, pa, e⟩ := fdrop_cons r i h2
    exact ⟨k, t, n, s, ca, pa, by rw [fdrop, e]; rfl⟩
theorem fdrop_end (f : F) (i : Nat) (h : f.len ≤ i) : fdrop f i = .nil := by
  have h2 := fdrop_len f i
  cases hf : fdrop f i with
  | nil => rfl
  | cons k t n s c p r => rw [hf, F.len] at h2; omega
theorem FCw_drop (w : World) (ok : Nat → Prop) : ∀ (f : F) (i : Nat), i ≤ f.len → (∀ cs, Fw w ok f cs → Fw w ok (fdrop f i) (cs.drop (i * 6))) ∧ (∀ cs, Cw w ok f cs → Cw w ok (fdrop f i) (cs.drop (i * 2)))
  | f, 0, _ => ⟨fun cs h => by rw [fdrop_zero]; simpa using h, fun cs h => by rw [fdrop_zero]; simpa using h⟩
  | .nil, _ + 1, h => absurd h (Nat.not_succ_le_zero _)
  | .cons k t n s ca pa r, i + 1, h => by
    have h2 : i ≤ r.len := by rw [F.len] at h; omega
    obtain ⟨i1, i2⟩ := FCw_drop w ok r i h2
    refine ⟨fun cs h => ?_, fun cs h => ?_⟩
    · rw [Fw] at h
      obtain ⟨Ac, cc, Ap, cp, ds, ps, rs, rfl, _, _, h4⟩ := h
      rw [fdrop, show (i + 1) * 6 = 6 + i * 6 from by omega, ← List.drop_drop]
      exact i1 _ h4
    · rw [Cw] at h
      obtain ⟨Ap, cp, ps, rs, rfl, _, h4⟩ := h
      rw [fdrop, show (i + 1) * 2 = 2 + i * 2 from by omega, ← List.drop_drop]
      exact i2 _ h4
theorem drop_get {α : Type} {l r : List α} {x : List α} {m : Nat} (h : l.drop m = x ++ r) {j : Nat} {u : α} (hu : x[j]? = some u) : l[m + j]? = some u := by
  rw [← List.getElem?_drop, h, List.getElem?_append_left (List.getElem?_eq_some_iff.1 hu).1]
  exact hu
/-- The part at a place. -/
theorem FwS.at_ {w : World} {ok : Nat → Prop} {f : F} {v : Value} (h : FwS w ok f v) {i : Nat} (hi : i < f.len) :
    ∃ b o c k t n s ca pa Ac cc Ap cp, v = .slice (some ⟨b, o, none⟩) f.len c ∧ b < w.heap.size ∧ ok b ∧ fdrop f i = .cons k t n s ca pa (fdrop f (i + 1)) ∧
      w.cell? ⟨b, o + i * 6, none⟩ = some (.int .i64 k) ∧ w.cell? ⟨b, o + i * 6 + 1, none⟩ = some (.string ⟨t.toArray⟩) ∧ w.cell? ⟨b, o + i * 6 + 2, none⟩ = some (.string ⟨n.toArray⟩) ∧ w.cell? ⟨b, o + i * 6 + 3, none⟩ = some (.string ⟨s.toArray⟩) ∧
      w.cell? ⟨b, o + i * 6 + 4, none⟩ = some (.slice Ac ca.len cc) ∧ w.cell? ⟨b, o + i * 6 + 5, none⟩ = some (.slice Ap pa.len cp) ∧ CwS w ok ca (.slice Ac ca.len cc) ∧ FwS w ok pa (.slice Ap pa.len cp) := by
  obtain ⟨A, c, ps, rfl, h1, h2, h3⟩ := h
  obtain ⟨k, t, n, s, ca, pa, e⟩ := fdrop_cons f i hi
  have h4 := (FCw_drop w ok f i (by omega)).1 _ h3
  rw [e, Fw] at h4
  obtain ⟨Ac, cc, Ap, cp, ds, qs, rs, hd, ⟨a1, a2, a3⟩, ⟨b1, b2, b3⟩, _⟩ := h4
  have hl : 0 < ps.length := by rw [h1.1]; omega
  obtain ⟨b, o, hA, hb, _⟩ := h1.2 0 _ (List.getElem?_eq_getElem hl)
  subst hA
  have hc : ∀ j u, ([.int .i64 k, .string ⟨t.toArray⟩, .string ⟨n.toArray⟩, .string ⟨s.toArray⟩, .slice Ac ca.len cc, .slice Ap pa.len cp] : List Value)[j]? = some u → w.cell? ⟨b, o + i * 6 + j, none⟩ = some u := by
    intro j u hu
    obtain ⟨b', o', hA', _, hcell⟩ := h1.2 (i * 6 + j) u (drop_get hd hu)
    injection hA' with hA'
    injection hA' with e1 e2
    subst e1 e2
    rw [show o + i * 6 + j = o + (i * 6 + j) from by omega]
    exact hcell
  exact ⟨b, o, c, k, t, n, s, ca, pa, Ac, cc, Ap, cp, rfl, hb, h2 (by omega) _ rfl, e, hc 0 _ rfl, hc 1 _ rfl, hc 2 _ rfl, hc 3 _ rfl, hc 4 _ rfl, hc 5 _ rfl, ⟨Ac, cc, ds, rfl, a1, a2, a3⟩, ⟨Ap, cp, qs, rfl, b1, b2, b3⟩⟩
theorem CwS.at_ {w : World} {ok : Nat → Prop} {f : F} {v : Value} (h : CwS w ok f v) {i : Nat} (hi : i < f.len) :
    ∃ b o c k t n s ca pa Ap cp, v = .slice (some ⟨b, o, none⟩) f.len c ∧ b < w.heap.size ∧ ok b ∧ fdrop f i = .cons k t n s ca pa (fdrop f (i + 1)) ∧
      w.cell? ⟨b, o + i * 2, none⟩ = some (.string ⟨n.toArray⟩) ∧ w.cell? ⟨b, o + i * 2 + 1, none⟩ = some (.slice Ap pa.len cp) ∧ FwS w ok pa (.slice Ap pa.len cp) := by
  obtain ⟨A, c, ps, rfl, h1, h2, h3⟩ := h
  obtain ⟨k, t, n, s, ca, pa, e⟩ := fdrop_cons f i hi
  have h4 := (FCw_drop w ok f i (by omega)).2 _ h3
  rw [e, Cw] at h4
  obtain ⟨Ap, cp, qs, rs, hd, ⟨b1, b2, b3⟩, _⟩ := h4
  have hl : 0 < ps.length := by rw [h1.1]; omega
  obtain ⟨b, o, hA, hb, _⟩ := h1.2 0 _ (List.getElem?_eq_getElem hl)
  subst hA
  have hc : ∀ j u, ([.string ⟨n.toArray⟩, .slice Ap pa.len cp] : List Value)[j]? = some u → w.cell? ⟨b, o + i * 2 + j, none⟩ = some u := by
    intro j u hu
    obtain ⟨b', o', hA', _, hcell⟩ := h1.2 (i * 2 + j) u (drop_get hd hu)
    injection hA' with hA'
    injection hA' with e1 e2
    subst e1 e2
    rw [show o + i * 2 + j = o + (i * 2 + j) from by omega]
    exact hcell
  exact ⟨b, o, c, k, t, n, s, ca, pa, Ap, cp, rfl, hb, h2 (by omega) _ rfl, e, hc 0 _ rfl, hc 1 _ rfl, ⟨Ap, cp, qs, rfl, b1, b2, b3⟩⟩
theorem FwS.ext {w w' : World} {ok : Nat → Prop} {f : F} {v : Value} (h : FwS w ok f v) (hw : Ext w w') : FwS w' ok f v := h.exc (Exc.of_ext (S := fun _ => False) hw) (fun _ _ h => h) (fun _ h => h)
theorem CwS.ext {w w' : World} {ok : Nat → Prop} {f : F} {v : Value} (h : CwS w ok f v) (hw : Ext w w') : CwS w' ok f v := h.exc (Exc.of_ext (S := fun _ => False) hw) (fun _ _ h => h) (fun _ h => h)
/-- The value of a slice of parts. -/
theorem FwS.val {w : World} {ok : Nat → Prop} {f : F} {v : Value} (h : FwS w ok f v) : ∃ A c, v = .slice A f.len c := by
  obtain ⟨A, c, ps, e, _⟩ := h
  exact ⟨A, c, e⟩
theorem CwS.val {w : World} {ok : Nat → Prop} {f : F} {v : Value} (h : CwS w ok f v) : ∃ A c, v = .slice A f.len c := by
  obtain ⟨A, c, ps, e, _⟩ := h
  exact ⟨A, c, e⟩
end Go.Proofs.YtpfmojeigjmlfaaGreatDoor
