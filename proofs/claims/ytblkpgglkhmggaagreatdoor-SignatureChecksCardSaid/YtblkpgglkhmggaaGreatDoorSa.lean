import Derived.Test.YtblkpgglkhmggaaGreatDoorTk
namespace Go.Proofs.YtblkpgglkhmggaaGreatDoor
set_option linter.unusedSimpArgs false
set_option linter.unusedVariables false

/-! Signatures, in plain words. -/
abbrev ArgP := By × Int
def knownB (t : Int) : Bool := decide (0 ≤ t) && decide (t ≤ 4)
/-- The common type of two types. -/
def comA (a b : Int) : Int × Bool :=
  if (knownB a && knownB b) = true then (if a = b then (a, true) else if a = 0 ∧ b ≠ 4 then (b, true) else if b = 0 ∧ a ≠ 4 then (a, true) else (0, false)) else (0, false)
def ascA : List ArgP → Bool
  | x :: y :: r => decide (x.1 < y.1) && ascA (y :: r)
  | _ => true
def argB (x : ArgP) : Bool := nameB x.1 && knownB x.2
def validA (l : List ArgP) : Bool := l.all argB && ascA l && decide (l.length ≤ 20)
def putA : List ArgP → ArgP → List ArgP × Bool
  | [], x => ([x], true)
  | y :: r, x => if y.1 = x.1 then ((y.1, (comA y.2 x.2).1) :: r, (comA y.2 x.2).2) else if x.1 < y.1 then (x :: y :: r, true) else (y :: (putA r x).1, (putA r x).2)
def foldA : List ArgP → List ArgP → Option (List ArgP)
  | a, [] => some a
  | a, x :: r => if (putA a x).2 = true then foldA (putA a x).1 r else none
def mergeA (a b : List ArgP) : List ArgP × Int :=
  if (validA a && validA b) = true then (match foldA a b with
    | none => ([], 11)
    | some o => if o.length ≤ 20 then (o, 0) else ([], 6)) else ([], 1)
def accB (a b : Int) : Bool := a == b || (b == 0 && !(a == 4))
def hasA (a : List ArgP) (y : ArgP) : Bool := a.any fun x => x.1 == y.1 && accB x.2 y.2
def coversA (a b : List ArgP) : Bool := validA a && validA b && b.all (hasA a)
def getA : List ArgP → By → Option Int
  | [], _ => none
  | x :: r, n => if x.1 = n then some x.2 else getA r n

/-! The order of names. -/
theorem by_irr (a : By) : ¬ a < a := List.lt_irrefl a
theorem by_trans {a b c : By} (h : a < b) (k : b < c) : a < c := List.lt_trans h k
theorem by_asymm {a b : By} (h : a < b) : ¬ b < a := fun k => List.lt_irrefl a (List.lt_trans h k)
theorem by_tri (a b : By) : a < b ∨ a = b ∨ b < a := by
  by_cases h : a < b
  · exact .inl h
  · by_cases k : b < a
    · exact .inr (.inr k)
    · exact .inr (.inl (List.le_antisymm k h))
theorem asc_pair {l : List ArgP} : ascA l = true ↔ l.Pairwise fun x y => x.1 < y.1 := by
  induction l with
  | nil => simp [ascA]
  | cons x r ih =>
    cases r with
    | nil => simp [ascA]
    | cons y r =>
      unfold ascA
      rw [Bool.and_eq_true, decide_eq_true_eq, ih]
      constructor
      · rintro ⟨h1, h2⟩
        refine List.pairwise_cons.2 ⟨fun z hz => ?_, h2⟩
        rcases List.mem_cons.1 hz with rfl | hz
        · exact h1
        · exact by_trans h1 ((List.pairwise_cons.1 h2).1 z hz)
      · intro h
        obtain ⟨h1, h2⟩ := List.pairwise_cons.1 h
        exact ⟨h1 y (by simp), h2⟩
theorem get_none {l : List ArgP} {n : By} : getA l n = none ↔ ∀ x ∈ l, x.1 ≠ n := by
  induction l with
  | nil => simp [getA]
  | cons x r ih =>
    unfold getA
    by_cases h : x.1 = n
    · rw [if_pos h]; simp [h]
    · rw [if_neg h, ih]; simp [h]
theorem get_mem {l : List ArgP} {n : By} {t : Int} (h : getA l n = some t) : (n, t) ∈ l := by
  induction l with
  | nil => simp [getA] at h
  | cons x r ih =>
    unfold getA at h
    by_cases e : x.1 = n
    · rw [if_pos e] at h
      injection h with h
      have : x = (n, t) := Prod.ext e h
      rw [this]; simp
    · rw [if_neg e] at h
      exact List.mem_cons_of_mem _ (ih h)
theorem mem_get {l : List ArgP} (ha : l.Pairwise fun x y => x.1 < y.1) {x : ArgP} (h : x ∈ l) : getA l x.1 = some x.2 := by
  induction l with
  | nil => cases h
  | cons y r ih =>
    unfold getA
    obtain ⟨h1, h2⟩ := List.pairwise_cons.1 ha
    rcases List.mem_cons.1 h with rfl | h
    · rw [if_pos rfl]
    · have := h1 x h
      rw [if_neg fun e => by rw [e] at this; exact by_irr _ this]
      exact ih h2 h
/-- Two lists in the order of the names are the same if they answer the same. -/
theorem asc_ext : ∀ {l m : List ArgP}, (l.Pairwise fun x y => x.1 < y.1) → (m.Pairwise fun x y => x.1 < y.1) → (∀ n, getA l n = getA m n) → l = m
  | [], [], _, _, _ => rfl
  | [], y :: m, _, _, h => by
    have := h y.1
    simp [getA] at this
  | x :: l, [], _, _, h => by
    have := h x.1
    simp [getA] at this
  | x :: l, y :: m, hl, hm, h => by
    obtain ⟨l1, l2⟩ := List.pairwise_cons.1 hl
    obtain ⟨m1, m2⟩ := List.pairwise_cons.1 hm
    have hx : getA (y :: m) x.1 = some x.2 := by rw [← h]; simp [getA]
    have hy : getA (x :: l) y.1 = some y.2 := by rw [h]; simp [getA]
    have e1 : x.1 = y.1 := by
      rcases by_tri x.1 y.1 with k | k | k
      · have hm' := get_mem hx
        rcases List.mem_cons.1 hm' with e | hm'
        · exact congrArg Prod.fst e
        · exact absurd (by_trans k (m1 _ hm')) (by_irr _)
      · exact k
      · have hm' := get_mem hy
        rcases List.mem_cons.1 hm' with e | hm'
        · exact (congrArg Prod.fst e).symm
        · exact absurd (by_trans k (l1 _ hm')) (by_irr _)
    have e2 : x.2 = y.2 := by
      unfold getA at hx
      rw [if_pos e1.symm] at hx
      injection hx with hx
      exact hx.symm
    have exy : x = y := Prod.ext e1 e2
    subst exy
    congr 1
    refine asc_ext l2 m2 fun n => ?_
    have := h n
    unfold getA at this
    by_cases e : x.1 = n
    · have q1 : getA l n = none := get_none.2 fun z hz q => by have := l1 z hz; rw [q, e] at this; exact by_irr _ this
      have q2 : getA m n = none := get_none.2 fun z hz q => by have := m1 z hz; rw [q, e] at this; exact by_irr _ this
      rw [q1, q2]
    · rwa [if_neg e, if_neg e] at this

/-! A further use. -/
def joinO (a b : Option Int) : Option Int := match a, b with
  | none, b => b
  | a, none => a
  | some s, some t => some (comA s t).1
theorem put_get {l : List ArgP} (ha : l.Pairwise fun x y => x.1 < y.1) (x : ArgP) (n : By) : getA (putA l x).1 n = if x.1 = n then joinO (getA l n) (some x.2) else getA l n := by
  induction l with
  | nil =>
    unfold putA getA
    split <;> simp [getA, joinO]
  | cons y r ih =>
    obtain ⟨h1, h2⟩ := List.pairwise_cons.1 ha
    unfold putA
    by_cases e : y.1 = x.1
    · rw [if_pos e]
      simp only
      unfold getA
      by_cases en : x.1 = n
      · rw [if_pos (e.trans en), if_pos en, if_pos (e.trans en)]; rfl
      · rw [if_neg (fun q => en (e.symm.trans q)), if_neg en, if_neg (fun q => en (e.symm.trans q))]
    · rw [if_neg e]
      by_cases lt : x.1 < y.1
      · rw [if_pos lt]
        simp only
        show getA (x :: y :: r) n = _
        rw [getA]
        by_cases en : x.1 = n
        · rw [if_pos en, if_pos en]
          have : getA (y :: r) n = none := get_none.2 fun z hz q => by
            rw [← q] at en
            rcases List.mem_cons.1 hz with rfl | hz
            · rw [en] at lt; exact by_irr _ lt
            · have := h1 z hz
              rw [← en] at this
              exact by_asymm lt this
          rw [this]; rfl
        · rw [if_neg en, if_neg en]
      · rw [if_neg lt]
        simp only
        unfold getA
        by_cases yn : y.1 = n
        · rw [if_pos yn, if_pos yn, if_neg (fun q => e (yn.trans q.symm))]
        · rw [if_neg yn, if_neg yn]
          exact ih h2
theorem put_names {l : List ArgP} {x z : ArgP} (h : z ∈ (putA l x).1) : z.1 = x.1 ∨ ∃ y ∈ l, y.1 = z.1 := by
  induction l with
  | nil =>
    unfold putA at h
    simp at h
    subst h
    exact .inl rfl
  | cons y r ih =>
    unfold putA at h
    split at h
    · rename_i e
      rcases List.mem_cons.1 h with rfl | h
      · exact .inl e
      · exact .inr ⟨z, by simp [h], rfl⟩
    · split at h
      · rcases List.mem_cons.1 h with rfl | h
        · exact .inl rfl
        · exact .inr ⟨z, h, rfl⟩
      · rcases List.mem_cons.1 h with rfl | h
        · exact .inr ⟨z, by simp, rfl⟩
        · rcases ih h with q | ⟨w, hw, q⟩
          · exact .inl q
          · exact .inr ⟨w, by simp [hw], q⟩
theorem put_asc {l : List ArgP} (ha : l.Pairwise fun x y => x.1 < y.1) (x : ArgP) : (putA l x).1.Pairwise fun x y => x.1 < y.1 := by
  induction l with
  | nil => unfold putA; simp
  | cons y r ih =>
    obtain ⟨h1, h2⟩ := List.pairwise_cons.1 ha
    unfold putA
    split
    · exact List.pairwise_cons.2 ⟨h1, h2⟩
    · rename_i e
      split
      · rename_i lt
        refine List.pairwise_cons.2 ⟨fun z hz => ?_, ha⟩
        rcases List.mem_cons.1 hz with rfl | hz
        · exact lt
        · exact by_trans lt (h1 z hz)
      · rename_i lt
        refine List.pairwise_cons.2 ⟨fun z hz => ?_, ih h2⟩
        rcases put_names hz with q | ⟨w, hw, q⟩
        · rw [q]
          rcases by_tri y.1 x.1 with k | k | k
          · exact k
          · exact absurd k e
          · exact absurd k lt
        · rw [← q]; exact h1 w hw
theorem put_ok {l : List ArgP} (ha : l.Pairwise fun x y => x.1 < y.1) (x : ArgP) : (putA l x).2 = true ↔ ∀ t, getA l x.1 = some t → (comA t x.2).2 = true := by
  induction l with
  | nil => simp [putA, getA]
  | cons y r ih =>
    obtain ⟨h1, h2⟩ := List.pairwise_cons.1 ha
    unfold putA
    by_cases e : y.1 = x.1
    · rw [if_pos e]
      unfold getA
      rw [if_pos e]
      simp
    · rw [if_neg e]
      by_cases lt : x.1 < y.1
      · rw [if_pos lt]
        have : getA (y :: r) x.1 = none := get_none.2 fun z hz q => by
          rcases List.mem_cons.1 hz with rfl | hz
          · exact e q
          · have := h1 z hz
            rw [q] at this
            exact by_asymm lt this
        rw [this]; simp
      · rw [if_neg lt]
        unfold getA
        rw [if_neg e]
        exact ih h2

/-! Several further uses. -/
theorem fold_spec : ∀ {b a : List ArgP}, (a.Pairwise fun x y => x.1 < y.1) → (b.Pairwise fun x y => x.1 < y.1) →
    ((∀ n s t, getA a n = some s → getA b n = some t → (comA s t).2 = true) → ∃ o, foldA a b = some o ∧ (o.Pairwise fun x y => x.1 < y.1) ∧ ∀ n, getA o n = joinO (getA a n) (getA b n)) ∧
    ((¬ ∀ n s t, getA a n = some s → getA b n = some t → (comA s t).2 = true) → foldA a b = none)
  | [], a, ha, _ => by
    refine ⟨fun _ => ⟨a, rfl, ha, fun n => ?_⟩, fun h => absurd (fun n s t _ h2 => by simp [getA] at h2) h⟩
    simp only [getA]
    cases getA a n <;> rfl
  | x :: r, a, ha, hb => by
    obtain ⟨h1, h2⟩ := List.pairwise_cons.1 hb
    have hr : getA r x.1 = none := get_none.2 fun z hz q => by have := h1 z hz; rw [q] at this; exact by_irr _ this
    by_cases hp : (putA a x).2 = true
    · obtain ⟨i1, i2⟩ := fold_spec (b := r) (a := (putA a x).1) (put_asc ha x) h2
      have key : (∀ n s t, getA (putA a x).1 n = some s → getA r n = some t → (comA s t).2 = true) ↔ (∀ n s t, getA a n = some s → getA (x :: r) n = some t → (comA s t).2 = true) := by
        constructor
        · intro h n s t hs ht
          unfold getA at ht
          by_cases e : x.1 = n
          · rw [if_pos e] at ht
            injection ht with ht
            subst ht
            subst e
            exact (put_ok ha x).1 hp s hs
          · rw [if_neg e] at ht
            refine h n s t ?_ ht
            rw [put_get ha, if_neg e]; exact hs
        · intro h n s t hs ht
          have e : x.1 ≠ n := fun e => by subst e; rw [hr] at ht; cases ht
          rw [put_get ha, if_neg e] at hs
          exact h n s t hs (by rw [getA, if_neg e]; exact ht)
      constructor
      · intro h
        obtain ⟨o, h3, h4, h5⟩ := i1 (key.2 h)
        refine ⟨o, by rw [foldA, if_pos hp]; exact h3, h4, fun n => ?_⟩
        rw [h5, put_get ha]
        by_cases e : x.1 = n
        · subst e
          rw [if_pos rfl, hr, getA, if_pos rfl]
          cases getA a x.1 <;> rfl
        · rw [if_neg e]
          conv => rhs; rw [getA, if_neg e]
      · intro h
        rw [foldA, if_pos hp]
        exact i2 fun q => h (key.1 q)
    · have hbad : ¬ ∀ n s t, getA a n = some s → getA (x :: r) n = some t → (comA s t).2 = true := by
        intro h
        exact hp ((put_ok ha x).2 fun t ht => h x.1 t x.2 ht (by rw [getA, if_pos rfl]))
      exact ⟨fun h => absurd h hbad, fun _ => by rw [foldA, if_neg hp]⟩

/-! The common type. -/
theorem com_comm (a b : Int) : comA a b = comA b a := by
  unfold comA
  rw [Bool.and_comm]
  by_cases hk : (knownB b && knownB a) = true
  · rw [if_pos hk, if_pos hk]
    by_cases h : a = b
    · subst h; rfl
    · rw [if_neg h, if_neg (show ¬ b = a from fun e => h e.symm)]
      by_cases h1 : a = 0 ∧ b ≠ 4
      · by_cases h2 : b = 0 ∧ a ≠ 4
        · exact absurd (h1.1.trans h2.1.symm) h
        · rw [if_pos h1, if_neg h2, if_pos h1]
      · by_cases h2 : b = 0 ∧ a ≠ 4
        · rw [if_neg h1, if_pos h2, if_pos h2]
        · rw [if_neg h1, if_neg h2, if_neg h2, if_neg h1]
  · rw [if_neg hk, if_neg hk]
theorem com_self {a : Int} (h : knownB a = true) : comA a a = (a, true) := by unfold comA; rw [h]; simp
theorem com_known {a b : Int} (h : (comA a b).2 = true) : knownB a = true ∧ knownB b = true ∧ knownB (comA a b).1 = true ∧ (comA a b).1 = (if a = b then a else if a = 0 then b else a) ∧ (a = b ∨ (a = 0 ∧ b ≠ 4) ∨ (b = 0 ∧ a ≠ 4)) := by
  unfold comA at h ⊢
  by_cases hk : (knownB a && knownB b) = true
  · rw [if_pos hk] at h ⊢
    obtain ⟨k1, k2⟩ := Bool.and_eq_true_iff.1 hk
    by_cases e : a = b
    · rw [if_pos e, if_pos e]; exact ⟨k1, k2, k1, rfl, .inl e⟩
    · rw [if_neg e] at h ⊢
      by_cases e1 : a = 0 ∧ b ≠ 4
      · rw [if_pos e1, if_neg e, if_pos e1.1]; exact ⟨k1, k2, k2, rfl, .inr (.inl e1)⟩
      · rw [if_neg e1] at h ⊢
        by_cases e2 : b = 0 ∧ a ≠ 4
        · rw [if_pos e2, if_neg e, if_neg (fun q => e (q.trans e2.1.symm))]; exact ⟨k1, k2, k1, rfl, .inr (.inr e2)⟩
        · rw [if_neg e2] at h; cases h
  · rw [if_neg hk] at h; cases h
theorem com_acc {a b : Int} (h : (comA a b).2 = true) : accB (comA a b).1 a = true := by
  obtain ⟨_, _, _, e, h5⟩ := com_known h
  rw [e]
  unfold accB
  by_cases h1 : a = b
  · rw [if_pos h1]; simp
  · rw [if_neg h1]
    by_cases h2 : a = 0
    · rw [if_pos h2]
      rcases h5 with h | ⟨_, h⟩ | ⟨h, _⟩
      · exact absurd h h1
      · simp [h2, h]
      · exact absurd (h2.trans h.symm) h1
    · rw [if_neg h2]; simp
end Go.Proofs.YtblkpgglkhmggaaGreatDoor
