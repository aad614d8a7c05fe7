import Derived.Test.YtiijdojihleggaaGreatDoorQNPH
import Derived.Test.YtiijdojihleggaaGreatDoorQNPF
import Derived.Test.YtiijdojihleggaaGreatDoorQNPA
set_option maxRecDepth 100000
set_option linter.unusedSimpArgs false
set_option linter.unusedVariables false
namespace Go.Proofs.YtiijdojihleggaaGreatDoor
def wt : F → Nat
 | .nil => 0
 | .cons _ t n s c p r => 2 * t.length + 2 * n.length + s.length + 20 + wt c + wt p + wt r
def wtT : List Tok → Nat
 | [] => 0
 | t :: r => 2 * t.t.length + 20 + wtT r
theorem wt_app (f g : F) : wt (f.app g) = wt f + wt g := by
 induction f with
 | nil => simp [F.app, wt]
 | cons k t n s c p r _ _ ih => simp only [F.app, wt]; rw [ih]; omega
theorem wtT_le : ∀ (l : List Tok), (∀ t ∈ l, t.t.length ≤ 4000) → wtT l ≤ l.length * 8020
 | [], _ => Nat.zero_le _
 | t :: r, h => by
   have h1 := h t List.mem_cons_self
   have h2 := wtT_le r (fun x hx => h x (List.mem_cons_of_mem _ hx))
   rw [wtT, List.length_cons]
   omega
theorem uses_len (k : Int) : (usesP k).length ≤ 7 := by
 unfold usesP
 repeat (split; · decide)
 decide
theorem txt_wt : ∀ (f : F), (txtP [32] f).length ≤ wt f ∧ (casT [32] f).length ≤ wt f := by
 intro f
 induction f with
 | nil => rw [txtP, casT, wt]; exact ⟨Nat.le_refl _, Nat.le_refl _⟩
 | cons k t n s c p r ihc ihp ihr =>
   have h1 := escP_len t
   have h2 := uses_len k
   obtain ⟨c1, c2⟩ := ihc
   obtain ⟨p1, p2⟩ := ihp
   obtain ⟨r1, r2⟩ := ihr
   refine ⟨?_, ?_⟩
   ·rw [txtP, wt, List.length_append]
    refine Nat.add_le_add ?_ r1
    split
    ·omega
    split
    ·simp only [List.length_cons, List.length_nil]; omega
    split
    ·split
     ·simp only [List.length_append, List.length_cons, List.length_nil]; omega
     ·simp only [List.length_append, List.length_cons, List.length_nil]; omega
    split
    ·simp only [List.length_append, List.length_cons, List.length_nil]; omega
    split
    ·have h3 : (styleP [32] s).length ≤ s.length + 2 := by
      unfold styleP
      split
      ·exact Nat.zero_le _
      ·simp only [List.length_append, List.length_cons, List.length_nil]; omega
     have h4 : (if 7 ≤ k then [44] else ([] : By)).length ≤ 1 := by split <;> simp
     simp only [List.length_append, List.length_cons, List.length_nil]
     omega
    ·exact Nat.zero_le _
   ·rw [casT, wt]
    simp only [List.length_append, List.length_cons, List.length_nil]
    omega
theorem wt_all (E : Nat) : ∀ n, (∀ d c st x, msgP E n d c st = .ok x → wt x.1 + wtT x.2.left ≤ wtT st.left) ∧ (∀ d c st x, argP E n d c st = .ok x → wt x.1 + wtT x.2.left ≤ wtT st.left) ∧
 (∀ k d c ks st x, casP E n k d c ks st = .ok x → wt x.1 + wtT x.2.left ≤ wtT st.left) := by
 intro n
 induction n with
 | zero =>
   refine ⟨fun d c st x h => ?_, fun d c st x h => ?_, fun k d c ks st x h => ?_⟩
   ·rw [msgP] at h; injection h with h; subst h; simp [wt]
   ·rw [argP] at h; injection h with h; subst h; simp [wt]
   ·rw [casP] at h; injection h with h; subst h; simp [wt]
 | succ n ih =>
   obtain ⟨i1, i2, i3⟩ := ih
   refine ⟨fun d c st x h => ?_, fun d c st x h => ?_, fun k d c ks st x h => ?_⟩
   ·obtain ⟨l, ns⟩ := st
    cases l with
    | nil => rw [msgP] at h; injection h with h; subst h; simp [wt]
    | cons t r =>
      rw [msgP] at h
      simp only at h
      simp only [wtT]
      split at h
      ·obtain ⟨y, hy, rfl⟩ := map_ok.1 h
       have := i1 _ _ _ _ hy
       have h2 := unescP_len _ t.t (Nat.le_refl _)
       simp only [wt, List.length_nil] at this ⊢; omega
      split at h
      ·split at h
       ·obtain ⟨y, hy, rfl⟩ := map_ok.1 h
        have := i1 _ _ _ _ hy
        simp only [wt, List.length_nil] at this ⊢; omega
       ·cases h
      split at h
      ·split at h
       ·obtain ⟨y, hy, rfl⟩ := map_ok.1 h
        have := i1 _ _ _ _ hy
        simp only [wt, List.length_nil] at this ⊢; omega
       ·cases h
      split at h
      ·split at h
       ·obtain ⟨y, hy, h⟩ := bind_ok.1 h
        have e1 := i1 _ _ _ _ hy
        obtain ⟨f, ⟨yl, yn⟩⟩ := y
        cases yl with
        | nil => cases h
        | cons u q =>
          simp only at h
          split at h
          ·obtain ⟨z, hz, rfl⟩ := map_ok.1 h
           have := i1 _ _ _ _ hz
           simp only [wt, wtT, List.length_nil] at e1 this ⊢; omega
          ·cases h
       ·cases h
      split at h
      ·obtain ⟨y, hy, h⟩ := bind_ok.1 h
       have e1 := i2 _ _ _ _ hy
       obtain ⟨z, hz, rfl⟩ := map_ok.1 h
       have := i1 _ _ _ _ hz
       simp only [wt_app] at e1 this ⊢; omega
      ·injection h with h; subst h; simp [wt, wtT]
   ·rw [argP] at h
    obtain ⟨y, hy, h⟩ := bind_ok.1 h
    obtain ⟨t, r, hl, _, _, hn⟩ := namP_ok.1 hy
    have e1 : y.2.left = r := by rcases hn with ⟨_, rfl⟩ | ⟨_, _, rfl⟩ <;> rfl
    have e0 : y.1 = t.t := by rcases hn with ⟨_, rfl⟩ | ⟨_, _, rfl⟩ <;> rfl
    rw [e1, e0] at h
    rw [hl]
    simp only [wtT]
    cases r with
    | nil => cases h
    | cons u r =>
      simp only at h
      simp only [wtT]
      split at h
      ·injection h with h; subst h; simp only [wt, F.one, List.length_nil]; omega
      split at h
      ·cases r with
       | nil => cases h
       | cons v q =>
         simp only at h
         simp only [wtT]
         split at h
         ·split at h
          ·split at h
           ·obtain ⟨z, hz, h⟩ := bind_ok.1 h
            obtain ⟨t1, r1, rfl, _, rfl⟩ := takeP_ok.1 hz
            obtain ⟨a, ha, h⟩ := bind_ok.1 h
            have e2 := i3 _ _ _ _ _ _ ha
            obtain ⟨b, hb, rfl⟩ := map_ok.1 h
            obtain ⟨t2, r2, hr2, _, rfl⟩ := takeP_ok.1 hb
            rw [hr2] at e2
            simp only [wt, wtT, F.one, List.length_nil] at e2 ⊢; omega
           ·cases h
          split at h
          ·obtain ⟨b, hb, rfl⟩ := map_ok.1 h
           obtain ⟨t2, r2, rfl, _, rfl⟩ := takeP_ok.1 hb
           simp only [wt, wtT, F.one, List.length_nil]; omega
          ·obtain ⟨z, hz, h⟩ := bind_ok.1 h
           obtain ⟨t1, r1, rfl, _, rfl⟩ := takeP_ok.1 hz
           obtain ⟨a, ha, h⟩ := bind_ok.1 h
           obtain ⟨t2, r2, e2, _, _, rfl⟩ := wrdP_ok.1 ha
           simp only at e2
           obtain ⟨b, hb, rfl⟩ := map_ok.1 h
           obtain ⟨t3, r3, e3, _, rfl⟩ := takeP_ok.1 hb
           simp only at e3
           subst e2 e3
           simp only [wt, wtT, F.one, List.length_nil]; omega
         ·cases h
      ·cases h
   ·obtain ⟨l, ns⟩ := st
    cases l with
    | nil => rw [casP] at h; cases h
    | cons t r =>
      rw [casP] at h
      simp only at h
      simp only [wtT]
      split at h
      ·split at h
       ·cases h
       split at h
       ·cases h
       obtain ⟨z, hz, h⟩ := bind_ok.1 h
       obtain ⟨t1, r1, rfl, _, rfl⟩ := takeP_ok.1 hz
       obtain ⟨a, ha, h⟩ := bind_ok.1 h
       have e2 := i1 _ _ _ _ ha
       obtain ⟨b, hb, h⟩ := bind_ok.1 h
       obtain ⟨t2, r2, hr2, _, rfl⟩ := takeP_ok.1 hb
       obtain ⟨g, hg, rfl⟩ := map_ok.1 h
       have e3 := i3 _ _ _ _ _ _ hg
       rw [hr2] at e2
       simp only [wt, wtT, List.length_nil] at e2 e3 ⊢; omega
      split at h
      ·split at h
       ·injection h with h; subst h; simp [wt, wtT]
       ·cases h
      ·cases h
theorem msgC_wt {E d : Nat} {c : Bool} {st : St} {x : F × St} (h : msgC E d c st = .ok x) : wt x.1 ≤ wtT st.left := by
 have := (wt_all E _).1 _ _ _ _ h
 omega
theorem wt_drop (f : F) (i : Nat) {k : Int} {t n s : By} {c p r : F} (h : fdrop f i = .cons k t n s c p r) : 2 * t.length + 2 * n.length + s.length + 20 + wt c + wt p + wt r ≤ wt f := by
 have : ∀ (f : F) (i : Nat), wt (fdrop f i) ≤ wt f := by
  intro f
  induction f with
  | nil => intro i; cases i <;> exact Nat.le_refl _
  | cons k t n s c p r _ _ ih =>
    intro i
    cases i with
    | zero => exact Nat.le_refl _
    | succ i => rw [fdrop, wt]; have := ih i; omega
 have h2 := this f i
 rw [h, wt] at h2
 exact h2
end Go.Proofs.YtiijdojihleggaaGreatDoor
