import Derived.Test.YtpfmojeigjmlfaaDoorTk
import Derived.Test.YtpfmojeigjmlfaaDoorNPA
namespace Go.Proofs.YtpfmojeigjmlfaaDoor
set_option linter.unusedSimpArgs false
set_option linter.unusedVariables false

/-! Signatures, in plain words. -/
abbrev ArgP := By × Int
def knownB (t : Int) : Bool := decide (0 ≤ t) && decide (t ≤ 4)
/-- The common type of two types. -/
def comA (a b : Int) : Int × Bool :=
  if (knownB a && knownB b) = true then (if a = b then (a, true) else if a = 0 ∧ b ≠ 4 then (b, true) else if b = 0 ∧ a ≠ 4 then (a, true) else (0, false)) else (0, false)
def ascA : List ArgP → Bool
  | x :: y :: r => decide (x.1 < y.1) && ascA (y :: r)
  | _ => true
def argB (x : ArgP) : Bool := nameB x.1 && knownB x.2
def validA (l : List ArgP) : Bool := l.all argB && ascA l && decide (l.length ≤ 20)
def putA : List ArgP → ArgP → List ArgP × Bool
  | [], x => ([x], true)
  | y :: r, x => if y.1 = x.1 then ((y.1, (comA y.2 x.2).1) :: r, (comA y.2 x.2).2) else if x.1 < y.1 then (x :: y :: r, true) else (y :: (putA r x).1, (putA r x).2)
def foldA : List ArgP → List ArgP → Option (List ArgP)
  | a, [] => some a
  | a, x :: r => if (putA a x).2 = true then foldA (putA a x).1 r else none
def mergeA (a b : List ArgP) : List ArgP × Int :=
  if (validA a && validA b) = true then (match foldA a b with
    | none => ([], 11)
    | some o => if o.length ≤ 20 then (o, 0) else ([], 6)) else ([], 1)
def accB (a b : Int) : Bool := a == b || (b == 0 && !(a == 4))
def hasA (a : List ArgP) (y : ArgP) : Bool := a.any fun x => x.1 == y.1 && accB x.2 y.2
def coversA (a b : List ArgP) : Bool := validA a && validA b && b.all (hasA a)
def getA : List ArgP → By → Option Int
  | [], _ => none
  | x :: r, n => if x.1 = n then some x.2 else getA r n

/-! The order of names. -/
theorem by_irr (a : By) : ¬ a < a := List.lt_irrefl a
theorem by_trans {a b c : By} (h : a < b) (k : b < c) : a < c := List.lt_trans h k
theorem by_asymm {a b : By} (h : a < b) : ¬ b < a := fun k => List.lt_irrefl a (List.lt_trans h k)
theorem by_tri (a b : By) : a < b ∨ a = b ∨ b < a := by
  by_cases h : a < b
  · exact .inl h
  · by_cases k : b < a
    · exact .inr (.inr k)
    · exact .inr (.inl (List.le_antisymm k h))
theorem asc_pair {l : List ArgP} : ascA l = true ↔ l.Pairwise fun x y => x.1 < y.1 := by
  induction l with
  | nil => simp [ascA]
  | cons x r ih =>
    cases r with
    | nil => simp [ascA]
    | cons y r =>
      unfold ascA
      rw [Bool.and_eq_true, decide_eq_true_eq, ih]
      constructor
      · rintro ⟨h1, h2⟩
        refine List.pairwise_cons.2 ⟨fun z hz => ?_, h2⟩
        rcases List.mem_cons.1 hz with rfl | hz
        · exact h1
        · exact by_trans h1 ((List.pairwise_cons.1 h2).1 z hz)
      · intro h
        obtain ⟨h1, h2⟩ := List.pairwise_cons.1 h
        exact ⟨h1 y (by simp), h2⟩
theorem get_none {l : List ArgP} {n : By} : getA l n = none ↔ ∀ x ∈ l, x.1 ≠ n := by
  induction l with
  | nil => simp [getA]
  | cons x r ih =>
    unfold getA
    by_cases h : x.1 = n
    · rw [if_pos h]; simp [h]
    · rw [if_neg h, ih]; simp [h]
theorem get_mem {l : List ArgP} {n : By} {t : Int} (h : getA l n = some t) : (n, t) ∈ l := by
  induction l with
  | nil => simp [getA] at h
  | cons x r ih =>
    unfold getA at h
    by_cases e : x.1 = n
    · rw [if_pos e] at h
      injection h with h
      have : x = (n, t) := Prod.ext e h
      rw [this]; simp
    · rw [if_neg e] at h
      exact List.mem_cons_of_mem _ (ih h)
theorem mem_get {l : List ArgP} (ha : l.Pairwise fun x y => x.1 < y.1) {x : ArgP} (h : x ∈ l) : getA l x.1 = some x.2 := by
  induction l with
  | nil => cases h
  | cons y r ih =>
    unfold getA
    obtain ⟨h1, h2⟩ := List.pairwise_cons.1 ha
    rcases List.mem_cons.1 h with rfl | h
    · rw [if_pos rfl]
    · have := h1 x h
      rw [if_neg fun e => by rw [e] at this; exact by_irr _ this]
      exact ih h2 h
/-- Two lists in the order of the names are the same if they answer the same. -/
theorem asc_ext : ∀ {l m : List ArgP}, (l.Pairwise fun x y => x.1 < y.1) → (m.Pairwise fun x y => x.1 < y.1) → (∀ n, getA l n = getA m n) → l = m
  | [], [], _, _, _ => rfl
  | [], y :: m, _, _, h => by
    have := h y.1
    simp [getA] at this
  | x :: l, [], _, _, h => by
    have := h x.1
    simp [getA] at this
  | x :: l, y :: m, hl, hm, h => by
    obtain ⟨l1, l2⟩ := List.pairwise_cons.1 hl
    obtain ⟨m1, m2⟩ := List.pairwise_cons.1 hm
    have hx : getA (y :: m) x.1 = some x.2 := by rw [← h]; simp [getA]
    have hy : getA (x :: l) y.1 = some y.2 := by rw [h]; simp [getA]
    have e1 : x.1 = y.1 := by
      rcases by_tri x.1 y.1 with k | k | k
      · have hm' := get_mem hx
        rcases List.mem_cons.1 hm' with e | hm'
        · exact congrArg Prod.fst e
        · exact absurd (by_trans k (m1 _ hm')) (by_irr _)
      · exact k
      · have hm' := get_mem hy
        rcases List.mem_cons.1 hm' with e | hm'
        · exact (congrArg Prod.fst e).symm
        · exact absurd (by_trans k (l1 _ hm')) (by_irr _)
    have e2 : x.2 = y.2 := by
      unfold getA at hx
      rw [if_pos e1.symm] at hx
      injection hx with hx
      exact hx.symm
    have exy : x = y := Prod.ext e1 e2
    subst exy
    congr 1
    refine asc_ext l2 m2 fun n => ?_
    have := h n
    unfold getA at this
    by_cases e : x.1 = n
    · have q1 : getA l n = none := get_none.2 fun z hz q => by have := l1 z hz; rw [q, e] at this; exact by_irr _ this
      have q2 : getA m n = none := get_none.2 fun z hz q => by have := m1 z hz; rw [q, e] at this; exact by_irr _ this
      rw [q1, q2]
    · rwa [if_neg e, if_neg e] at this

/-! A further use. -/
def joinO (a b : Option Int) : Option Int := match a, b with
  | none, b => b
  | a, none => a
  | some s, some t => some (comA s t).1
theorem put_get {l : List ArgP} (ha : l.Pairwise fun x y => x.1 < y.1) (x : ArgP) (n : By) : getA (putA l x).1 n = if x.1 = n then joinO (getA l n) (some x.2) else getA l n := by
  induction l with
  | nil =>
    unfold putA getA
    split <;> simp [getA, joinO]
  | cons y r ih =>
    obtain ⟨h1, h2⟩ := List.pairwise_cons.1 ha
    unfold putA
    by_cases e : y.1 = x.1
    · rw [if_pos e]
      simp only
      unfold getA
      by_cases en : x.1 = n
      · rw [if_pos (e.trans en), if_pos en, if_pos (e.trans en)]; rfl
      · rw [if_neg (fun q => en (e.symm.trans q)), if_neg en, if_neg (fun q => en (e.symm.trans q))]
    · rw [if_neg e]
      by_cases lt : x.1 < y.1
      · rw [if_pos lt]
        simp only
        show getA (x :: y :: r) n = _
        rw [getA]
        by_cases en : x.1 = n
        · rw [if_pos en, if_pos en]
          have : getA (y :: r) n = none := get_none.2 fun z hz q => by
            rw [← q] at en
            rcases List.mem_cons.1 hz with rfl | hz
            · rw [en] at lt; exact by_irr _ lt
            · have := h1 z hz
              rw [← en] at this
              exact by_asymm lt this
          rw [this]; rfl
        · rw [if_neg en, if_neg en]
      · rw [if_neg lt]
        simp only
        unfold getA
        by_cases yn : y.1 = n
        · rw [if_pos yn, if_pos yn, if_neg (fun q => e (yn.trans q.symm))]
        · rw [if_neg yn, if_neg yn]
          exact ih h2
theorem put_names {l : List ArgP} {x z : ArgP} (h : z ∈ (putA l x).1) : z.1 = x.1 ∨ ∃ y ∈ l, y.1 = z.1 := by
  induction l with
  | nil =>
    unfold putA at h
    simp at h
    subst h
    exact .inl rfl
  | cons y r ih =>
    unfold putA at h
    split at h
    · rename_i e
      rcases List.mem_cons.1 h with rfl | h
      · exact .inl e
      · exact .inr ⟨z, by simp [h], rfl⟩
    · split at h
      · rcases List.mem_cons.1 h with rfl | h
        · exact .inl rfl
        · exact .inr ⟨z, h, rfl⟩
      · rcases List.mem_cons.1 h with rfl | h
        · exact .inr ⟨z, by simp, rfl⟩
        · rcases ih h with q | ⟨w, hw, q⟩
          · exact .inl q
          · exact .inr ⟨w, by simp [hw], q⟩
theorem put_asc {l : List ArgP} (ha : l.Pairwise fun x y => x.1 < y.1) (x : ArgP) : (putA l x).1.Pairwise fun x y => x.1 < y.1 := by
  induction l with
  | nil => unfold putA; simp
  | cons y r ih =>
    obtain ⟨h1, h2⟩ := List.pairwise_cons.1 ha
    unfold putA
    split
    · exact List.pairwise_cons.2 ⟨h1, h2⟩
    · rename_i e
      split
      · rename_i lt
        refine List.pairwise_cons.2 ⟨fun z hz => ?_, ha⟩
        rcases List.mem_cons.1 hz with rfl | hz
        · exact lt
        · exact by_trans lt (h1 z hz)
      · rename_i lt
        refine List.pairwise_cons.2 ⟨fun z hz => ?_, ih h2⟩
        rcases put_names hz with q | ⟨w, hw, q⟩
        · rw [q]
          rcases by_tri y.1 x.1 with k | k | k
          · exact k
          · exact absurd k e
          · exact absurd k lt
        · rw [← q]; exact h1 w hw
theorem put_ok {l : List ArgP} (ha : l.Pairwise fun x y => x.1 < y.1) (x : ArgP) : (putA l x).2 = true ↔ ∀ t, getA l x.1 = some t → (comA t x.2).2 = true := by
  induction l with
  | nil => simp [putA, getA]
  | cons y r ih =>
    obtain ⟨h1, h2⟩ := List.pairwise_cons.1 ha
    unfold putA
    by_cases e : y.1 = x.1
    · rw [if_pos e]
      unfold getA
      rw [if_pos e]
      simp
    · rw [if_neg e]
      by_cases lt : x.1 < y.1
      · rw [if_pos lt]
        have : getA (y :: r) x.1 = none := get_none.2 fun z hz q => by
          rcases List.mem_cons.1 hz with rfl | hz
          · exact e q
          · have := h1 z hz
            rw [q] at this
            exact by_asymm lt this
        rw [this]; simp
      · rw [if_neg lt]
        unfold getA
        rw [if_neg e]
        exact ih h2

/-! Several further uses. -/
theorem fold_spec : ∀ {b a : List ArgP}, (a.Pairwise fun x y => x.1 < y.1) → (b.Pairwise fun x y => x.1 < y.1) →
    ((∀ n s t, getA a n = some s → getA b n = some t → (comA s t).2 = true) → ∃ o, foldA a b = some o ∧ (o.Pairwise fun x y => x.1 < y.1) ∧ ∀ n, getA o n = joinO (getA a n) (getA b n)) ∧
    ((¬ ∀ n s t, getA a n = some s → getA b n = some t → (comA s t).2 = true) → foldA a b = none)
  | [], a, ha, _ => by
    refine ⟨fun _ => ⟨a, rfl, ha, fun n => ?_⟩, fun h => absurd (fun n s t _ h2 => by simp [getA] at h2) h⟩
    simp only [getA]
    cases getA a n <;> rfl
  | x :: r, a, ha, hb => by
    obtain ⟨h1, h2⟩ := List.pairwise_cons.1 hb
    have hr : getA r x.1 = none := get_none.2 fun z hz q => by have := h1 z hz; rw [q] at this; exact by_irr _ this
    by_cases hp : (putA a x).2 = true
    · obtain ⟨i1, i2⟩ := fold_spec (b := r) (a := (putA a x).1) (put_asc ha x) h2
      have key : (∀ n s t, getA (putA a x).1 n = some s → getA r n = some t → (comA s t).2 = true) ↔ (∀ n s t, getA a n = some s → getA (x :: r) n = some t → (comA s t).2 = true) := by
        constructor
        · intro h n s t hs ht
          unfold getA at ht
          by_cases e : x.1 = n
          · rw [if_pos e] at ht
            injection ht with ht
            subst ht
            subst e
            exact (put_ok ha x).1 hp s hs
          · rw [if_neg e] at ht
            refine h n s t ?_ ht
            rw [put_get ha, if_neg e]; exact hs
        · intro h n s t hs ht
          have e : x.1 ≠ n := fun e => by subst e; rw [hr] at ht; cases ht
          rw [put_get ha, if_neg e] at hs
          exact h n s t hs (by rw [getA, if_neg e]; exact ht)
      constructor
      · intro h
        obtain ⟨o, h3, h4, h5⟩ := i1 (key.2 h)
        refine ⟨o, by rw [foldA, if_pos hp]; exact h3, h4, fun n => ?_⟩
        rw [h5, put_get ha]
        by_cases e : x.1 = n
        · subst e
          rw [if_pos rfl, hr, getA, if_pos rfl]
          cases getA a x.1 <;> rfl
        · rw [if_neg e]
          conv => rhs; rw [getA, if_neg e]
      · intro h
        rw [foldA, if_pos hp]
        exact i2 fun q => h (key.1 q)
    · have hbad : ¬ ∀ n s t, getA a n = some s → getA (x :: r) n = some t → (comA s t).2 = true := by
        intro h
        exact hp ((put_ok ha x).2 fun t ht => h x.1 t x.2 ht (by rw [getA, if_pos rfl]))
      exact ⟨fun h => absurd h hbad, fun _ => by rw [foldA, if_neg hp]⟩

/-! The common type. -/
theorem com_comm (a b : Int) : comA a b = comA b a := by
  unfold comA
  rw [Bool.and_comm]
  by_cases hk : (knownB b && knownB a) = true
  · rw [if_pos hk, if_pos hk]
    by_cases h : a = b
    · subst h; rfl
    · rw [if_neg h, if_neg (show ¬ b = a from fun e => h e.symm)]
      by_cases h1 : a = 0 ∧ b ≠ 4
      · by_cases h2 : b = 0 ∧ a ≠ 4
        · exact absurd (h1.1.trans h2.1.symm) h
        · rw [if_pos h1, if_neg h2, if_pos h1]
      · by_cases h2 : b = 0 ∧ a ≠ 4
        · rw [if_neg h1, if_pos h2, if_pos h2]
        · rw [if_neg h1, if_neg h2, if_neg h2, if_neg h1]
  · rw [if_neg hk, if_neg hk]
theorem com_self {a : Int} (h : knownB a = true) : comA a a = (a, true) := by unfold comA; rw [h]; simp
theorem com_known {a b : Int} (h : (comA a b).2 = true) : knownB a = true ∧ knownB b = true ∧ knownB (comA a b).1 = true ∧ (comA a b).1 = (if a = b then a else if a = 0 then b else a) ∧ (a = b ∨ (a = 0 ∧ b ≠ 4) ∨ (b = 0 ∧ a ≠ 4)) := by
  unfold comA at h ⊢
  by_cases hk : (knownB a && knownB b) = true
  · rw [if_pos hk] at h ⊢
    obtain ⟨k1, k2⟩ := Bool.and_eq_true_iff.1 hk
    by_cases e : a = b
    · rw [if_pos e, if_pos e]; exact ⟨k1, k2, k1, rfl, .inl e⟩
    · rw [if_neg e] at h ⊢
      by_cases e1 : a = 0 ∧ b ≠ 4
      · rw [if_pos e1, if_neg e, if_pos e1.1]; exact ⟨k1, k2, k2, rfl, .inr (.inl e1)⟩
      · rw [if_neg e1] at h ⊢
        by_cases e2 : b = 0 ∧ a ≠ 4
        · rw [if_pos e2, if_neg e, if_neg (fun q => e (q.trans e2.1.symm))]; exact ⟨k1, k2, k1, rfl, .inr (.inr e2)⟩
        · rw [if_neg e2] at h; cases h
  · rw [if_neg hk] at h; cases h
theorem com_acc {a b : Int} (h : (comA a b).2 = true) : accB (comA a b).1 a = true := by
  obtain ⟨_, _, _, e, h5⟩ := com_known h
  rw [e]
  unfold accB
  by_cases h1 : a = b
  · rw [if_pos h1]; simp
  · rw [if_neg h1]
    by_cases h2 : a = 0
    · rw [if_pos h2]
      rcases h5 with h | ⟨_, h⟩ | ⟨h, _⟩
      · exact absurd h h1
      · simp [h2, h]
      · exact absurd (h2.trans h.symm) h1
    · rw [if_neg h2]; simp
end Go.Proofs.YtpfmojeigjmlfaaDoor
namespace Go.Proofs.YtpfmojeigjmlfaaDoor
set_option linter.unusedSimpArgs false
set_option linter.unusedVariables false

/-! What merging does. -/
theorem sig_ok {l : List ArgP} (h : validA l = true) : (∀ x ∈ l, nameB x.1 = true ∧ knownB x.2 = true) ∧ (l.Pairwise fun x y => x.1 < y.1) ∧ l.length ≤ 20 := by
  unfold validA at h
  simp only [Bool.and_eq_true, decide_eq_true_eq] at h
  refine ⟨fun x hx => ?_, asc_pair.1 h.1.2, h.2⟩
  have := List.all_eq_true.1 h.1.1 x hx
  unfold argB at this
  simpa using this
theorem sig_of {l : List ArgP} (h1 : ∀ x ∈ l, nameB x.1 = true ∧ knownB x.2 = true) (h2 : l.Pairwise fun x y => x.1 < y.1) (h3 : l.length ≤ 20) : validA l = true := by
  unfold validA
  simp only [Bool.and_eq_true, decide_eq_true_eq]
  refine ⟨⟨List.all_eq_true.2 fun x hx => ?_, asc_pair.2 h2⟩, h3⟩
  unfold argB
  simpa using h1 x hx
def fitO (a b : List ArgP) : Prop := ∀ n s t, getA a n = some s → getA b n = some t → (comA s t).2 = true
theorem fit_comm {a b : List ArgP} : fitO a b ↔ fitO b a := by
  constructor <;> intro h n s t hs ht <;> (rw [com_comm]; exact h n t s ht hs)
theorem join_comm (a b : Option Int) : joinO a b = joinO b a := by
  cases a <;> cases b <;> simp [joinO, com_comm]
theorem fold_comm {a b : List ArgP} (ha : a.Pairwise fun x y => x.1 < y.1) (hb : b.Pairwise fun x y => x.1 < y.1) : foldA a b = foldA b a := by
  obtain ⟨h1, h2⟩ := fold_spec ha hb
  obtain ⟨k1, k2⟩ := fold_spec hb ha
  by_cases h : fitO a b
  · obtain ⟨o, e1, e2, e3⟩ := h1 h
    obtain ⟨p, f1, f2, f3⟩ := k1 (fit_comm.1 h)
    rw [e1, f1]
    congr 1
    exact asc_ext e2 f2 fun n => by rw [e3, f3, join_comm]
  · rw [h2 h, k2 fun k => h (fit_comm.1 k)]
/-- Merging is commutative. -/
theorem merge_comm (a b : List ArgP) : mergeA a b = mergeA b a := by
  unfold mergeA
  rw [Bool.and_comm]
  by_cases h : (validA b && validA a) = true
  · rw [if_pos h, if_pos h]
    obtain ⟨h1, h2⟩ := Bool.and_eq_true_iff.1 h
    rw [fold_comm (sig_ok h2).2.1 (sig_ok h1).2.1]
  · rw [if_neg h, if_neg h]
theorem get_known {l : List ArgP} (h : validA l = true) {n : By} {t : Int} (hg : getA l n = some t) : knownB t = true := ((sig_ok h).1 _ (get_mem hg)).2
/-- Merging with itself changes nothing. -/
theorem merge_self {a : List ArgP} (h : validA a = true) : mergeA a a = (a, 0) := by
  unfold mergeA
  rw [if_pos (by rw [h]; rfl)]
  obtain ⟨h1, h2, h3⟩ := sig_ok h
  have hf : fitO a a := fun n s t hs ht => by
    rw [hs] at ht; injection ht with ht; subst ht
    rw [com_self (get_known h hs)]
  obtain ⟨o, e1, e2, e3⟩ := (fold_spec h2 h2).1 hf
  have : o = a := asc_ext e2 h2 fun n => by
    rw [e3]
    cases hg : getA a n with
    | none => rfl
    | some t => simp only [joinO, com_self (get_known h hg)]
  subst this
  rw [e1]
  exact if_pos h3
/-- What a merge that went well has. -/
theorem merge_ok {a b : List ArgP} (h : (mergeA a b).2 = 0) : validA a = true ∧ validA b = true ∧ fitO a b ∧ ((mergeA a b).1.Pairwise fun x y => x.1 < y.1) ∧ (∀ n, getA (mergeA a b).1 n = joinO (getA a n) (getA b n)) ∧ validA (mergeA a b).1 = true := by
  unfold mergeA at h ⊢
  by_cases hv : (validA a && validA b) = true
  · rw [if_pos hv] at h ⊢
    obtain ⟨v1, v2⟩ := Bool.and_eq_true_iff.1 hv
    obtain ⟨h1, h2⟩ := fold_spec (sig_ok v1).2.1 (sig_ok v2).2.1
    by_cases hf : fitO a b
    · obtain ⟨o, e1, e2, e3⟩ := h1 hf
      rw [e1] at h ⊢
      simp only at h ⊢
      by_cases hl : o.length ≤ 20
      · rw [if_pos hl] at h ⊢
        refine ⟨v1, v2, hf, e2, e3, sig_of (fun x hx => ?_) e2 hl⟩
        have hg := mem_get e2 hx
        rw [e3] at hg
        cases ga : getA a x.1 with
        | none =>
          cases gb : getA b x.1 with
          | none => rw [ga, gb] at hg; cases hg
          | some t =>
            rw [ga, gb] at hg
            simp only [joinO] at hg
            injection hg with hg
            exact ⟨((sig_ok v2).1 _ (get_mem gb)).1, by rw [← hg]; exact get_known v2 gb⟩
        | some s =>
          cases gb : getA b x.1 with
          | none =>
            rw [ga, gb] at hg
            simp only [joinO] at hg
            injection hg with hg
            exact ⟨((sig_ok v1).1 _ (get_mem ga)).1, by rw [← hg]; exact get_known v1 ga⟩
          | some t =>
            rw [ga, gb] at hg
            simp only [joinO] at hg
            injection hg with hg
            exact ⟨((sig_ok v1).1 _ (get_mem ga)).1, by rw [← hg]; exact (com_known (hf _ _ _ ga gb)).2.2.1⟩
      · rw [if_neg hl] at h; cases h
    · rw [h2 hf] at h; cases h
  · rw [if_neg hv] at h; cases h
theorem has_iff {a : List ArgP} (ha : a.Pairwise fun x y => x.1 < y.1) {y : ArgP} : hasA a y = true ↔ ∃ s, getA a y.1 = some s ∧ accB s y.2 = true := by
  unfold hasA
  rw [List.any_eq_true]
  constructor
  · rintro ⟨x, hx, h⟩
    simp only [Bool.and_eq_true, beq_iff_eq] at h
    exact ⟨x.2, by rw [← h.1]; exact mem_get ha hx, h.2⟩
  · rintro ⟨s, h1, h2⟩
    exact ⟨_, get_mem h1, by simp [h2]⟩
theorem acc_self (a : Int) : accB a a = true := by unfold accB; simp
/-- A merge covers its first part. -/
theorem merge_covers {a b : List ArgP} (h : (mergeA a b).2 = 0) : coversA (mergeA a b).1 a = true := by
  obtain ⟨v1, v2, hf, h4, h5, h6⟩ := merge_ok h
  unfold coversA
  rw [h6, v1]
  simp only [Bool.true_and]
  rw [List.all_eq_true]
  intro y hy
  refine (has_iff h4).2 ?_
  have hg := mem_get (sig_ok v1).2.1 hy
  rw [h5, hg]
  cases gb : getA b y.1 with
  | none => exact ⟨_, rfl, acc_self _⟩
  | some t => exact ⟨_, rfl, com_acc (hf _ _ _ hg gb)⟩
theorem merge_covers2 {a b : List ArgP} (h : (mergeA a b).2 = 0) : coversA (mergeA a b).1 b = true := by
  rw [merge_comm] at h ⊢
  exact merge_covers h
/-! Values and their checks. -/
theorem acc_trans {s t u : Int} (h1 : accB s t = true) (h2 : accB t u = true) : accB s u = true := by
  unfold accB at *
  simp only [Bool.or_eq_true, Bool.and_eq_true, Bool.not_eq_true', beq_iff_eq, beq_eq_false_iff_ne] at *
  rcases h1 with h1 | ⟨h1, h1'⟩
  · subst h1; exact h2
  · rcases h2 with h2 | ⟨h2, h2'⟩
    · subst h2; exact .inr ⟨h1, h1'⟩
    · exact .inr ⟨h2, h1'⟩
end Go.Proofs.YtpfmojeigjmlfaaDoor
namespace Go.Proofs.YtpfmojeigjmlfaaDoor
set_option linter.unusedSimpArgs false
set_option linter.unusedVariables false

/-! Signatures of messages, in plain words. -/
/-- The type that a use requires. -/
def typeU (k : Int) : Int := if k = 2 then 0 else if k = 3 ∨ k = 4 ∨ k = 7 ∨ k = 8 then 2 else if k = 5 then 3 else if k = 6 then 4 else 1
/-- The uses, in the reference's order, and in the program's. -/
def usesR : F → List ArgP
  | .nil => []
  | .cons k t n s cs ps r => (if 2 ≤ k ∧ k ≤ 9 then [(n, typeU k)] else []) ++ (usesR ps ++ (usesR cs ++ usesR r))
def usesT : F → List ArgP
  | .nil => []
  | .cons k t n s cs ps r => (if 2 ≤ k ∧ k ≤ 9 then [(n, typeU k)] else []) ++ (usesT cs ++ (usesT ps ++ usesT r))
theorem usesR_names (f : F) : (usesR f).map (·.1) = usesF f := by
  induction f with
  | nil => rfl
  | cons k t n s cs ps r i1 i2 i3 =>
    rw [usesR, usesF, List.map_append, List.map_append, List.map_append, i1, i2, i3]
    congr 1
    split <;> rfl
theorem usesR_app (f g : F) : usesR (f.app g) = usesR f ++ usesR g := by
  induction f with
  | nil => rfl
  | cons k t n s cs ps r _ _ ih => simp only [F.app, usesR, ih, List.append_assoc]
theorem nil_isNil {f : F} (h : f.isNil = true) : f = .nil := by
  cases f with
  | nil => rfl
  | cons => cases h
/-- What a formed part has. -/
theorem form_sub {d : Nat} {c pt : Bool} {k : Int} {t n s : By} {cs ps r : F} (h : formB d c pt (.cons k t n s cs ps r) = true) :
    formB d c (k == 1) r = true ∧ (2 ≤ k ∧ k ≤ 9 → nameB n = true) ∧ 1 ≤ k ∧ k ≤ 11 ∧ ((cs = .nil ∧ (ps = .nil ∨ ∃ d' c', formB d' c' false ps = true)) ∨ (ps = .nil ∧ ∃ kind d' c', casB kind d' c' [] cs = true)) := by
  rw [formB] at h
  simp only [Bool.and_eq_true] at h
  obtain ⟨⟨_, h2⟩, h3⟩ := h
  refine ⟨h3, ?_⟩
  split at h2
  · rename_i hk
    simp only [Bool.and_eq_true] at h2
    exact ⟨fun hh => by omega, by omega, by omega, .inl ⟨nil_isNil h2.1.2, .inl (nil_isNil h2.2)⟩⟩
  split at h2
  · simp only [Bool.and_eq_true] at h2
    exact ⟨fun hh => by omega, by omega, by omega, .inl ⟨nil_isNil h2.1.2, .inl (nil_isNil h2.2)⟩⟩
  split at h2
  · simp only [Bool.and_eq_true] at h2
    exact ⟨fun _ => h2.1.1.1.1, by omega, by omega, .inl ⟨nil_isNil h2.1.2, .inl (nil_isNil h2.2)⟩⟩
  split at h2
  · simp only [Bool.and_eq_true] at h2
    exact ⟨fun _ => h2.1.1.1.1, by omega, by omega, .inl ⟨nil_isNil h2.1.2, .inl (nil_isNil h2.2)⟩⟩
  split at h2
  · simp only [Bool.and_eq_true] at h2
    exact ⟨fun _ => h2.1.1.1.1, by omega, by omega, .inl ⟨nil_isNil h2.1.2, .inl (nil_isNil h2.2)⟩⟩
  split at h2
  · simp only [Bool.and_eq_true] at h2
    exact ⟨fun _ => h2.1.1.1.1, by omega, by omega, .inl ⟨nil_isNil h2.1.2, .inl (nil_isNil h2.2)⟩⟩
  split at h2
  · simp only [Bool.and_eq_true] at h2
    exact ⟨fun _ => h2.1.1.1.1.2, by omega, by omega, .inl ⟨nil_isNil h2.1.2, .inr ⟨_, _, h2.2⟩⟩⟩
  split at h2
  · simp only [Bool.and_eq_true] at h2
    exact ⟨fun _ => h2.1.1.1.1.1.1.2, by omega, by omega, .inr ⟨nil_isNil h2.1.1.1.2, ⟨_, _, _, h2.1.1.2⟩⟩⟩
  · cases h2
theorem cas_sub {kind d : Nat} {c : Bool} {seen : List By} {k : Int} {t n s : By} {cs ps r : F} (h : casB kind d c seen (.cons k t n s cs ps r) = true) :
    k = 0 ∧ cs = .nil ∧ formB d c false ps = true ∧ casB kind d c (seen ++ [n]) r = true := by
  rw [casB] at h
  simp only [Bool.and_eq_true, beq_iff_eq] at h
  exact ⟨h.1.1.1.1.1.1.1, nil_isNil h.1.1.1.1.2, h.1.2, h.2⟩
theorem uses_same : ∀ f : F, (∀ d c pt, formB d c pt f = true → usesT f = usesR f) ∧ (∀ kind d c seen, casB kind d c seen f = true → usesT f = usesR f) := by
  intro f
  induction f with
  | nil => exact ⟨fun _ _ _ _ => rfl, fun _ _ _ _ _ => rfl⟩
  | cons k t n s cs ps r ihc ihp ihr =>
    refine ⟨fun d c pt h => ?_, fun kind d c seen h => ?_⟩
    · obtain ⟨h1, _, _, _, h5⟩ := form_sub h
      rw [usesT, usesR, ihr.1 _ _ _ h1]
      rcases h5 with ⟨rfl, rfl | ⟨d', c', h6⟩⟩ | ⟨rfl, kind, d', c', h6⟩
      · rfl
      · rw [ihp.1 _ _ _ h6]; rfl
      · rw [ihc.2 _ _ _ _ h6]; rfl
    · obtain ⟨_, rfl, h3, h4⟩ := cas_sub h
      rw [usesT, usesR, ihr.2 _ _ _ _ h4, ihp.1 _ _ _ h3]
      rfl
theorem typeU_known {k : Int} : knownB (typeU k) = true := by
  unfold typeU
  (repeat' split) <;> decide
theorem uses_ok : ∀ f : F, (∀ d c pt, formB d c pt f = true → ∀ x ∈ usesR f, argB x = true) ∧ (∀ kind d c seen, casB kind d c seen f = true → ∀ x ∈ usesR f, argB x = true) := by
  intro f
  induction f with
  | nil => exact ⟨fun _ _ _ _ x hx => (by cases hx), fun _ _ _ _ _ x hx => (by cases hx)⟩
  | cons k t n s cs ps r ihc ihp ihr =>
    refine ⟨fun d c pt h x hx => ?_, fun kind d c seen h x hx => ?_⟩
    · obtain ⟨h1, h2, _, _, h5⟩ := form_sub h
      rw [usesR] at hx
      rcases List.mem_append.1 hx with hx | hx
      · split at hx
        · rename_i hk
          simp only [List.mem_cons, List.not_mem_nil, or_false] at hx
          subst hx
          unfold argB
          rw [h2 hk, typeU_known]
          rfl
        · cases hx
      rcases List.mem_append.1 hx with hx | hx
      · rcases h5 with ⟨_, rfl | ⟨d', c', h6⟩⟩ | ⟨rfl, _⟩
        · cases hx
        · exact ihp.1 _ _ _ h6 x hx
        · cases hx
      rcases List.mem_append.1 hx with hx | hx
      · rcases h5 with ⟨rfl, _⟩ | ⟨_, kind, d', c', h6⟩
        · cases hx
        · exact ihc.2 _ _ _ _ h6 x hx
      · exact ihr.1 _ _ _ h1 x hx
    · obtain ⟨rfl, rfl, h3, h4⟩ := cas_sub h
      rw [usesR] at hx
      rw [if_neg (by decide), List.nil_append] at hx
      rcases List.mem_append.1 hx with hx | hx
      · exact ihp.1 _ _ _ h3 x hx
      rcases List.mem_append.1 hx with hx | hx
      · cases hx
      · exact ihr.2 _ _ _ _ h4 x hx

/-! Adding uses. -/
theorem foldA_app : ∀ (a b o : List ArgP), foldA o (a ++ b) = (foldA o a).bind fun p => foldA p b
  | [], b, o => rfl
  | x :: r, b, o => by
    show (if (putA o x).2 = true then foldA (putA o x).1 (r ++ b) else none) = ((if (putA o x).2 = true then foldA (putA o x).1 r else none).bind _)
    by_cases h : (putA o x).2 = true
    · rw [if_pos h, if_pos h]; exact foldA_app r b _
    · rw [if_neg h, if_neg h]; rfl
theorem fold_asc : ∀ {l a o : List ArgP}, (a.Pairwise fun x y => x.1 < y.1) → foldA a l = some o → o.Pairwise fun x y => x.1 < y.1
  | [], a, o, ha, h => by injection h with h; subst h; exact ha
  | x :: r, a, o, ha, h => by
    rw [foldA] at h
    split at h
    · exact fold_asc (put_asc ha x) h
    · cases h
theorem put_arg {l : List ArgP} {x : ArgP} (hl : ∀ z ∈ l, argB z = true) (hx : argB x = true) (h : (putA l x).2 = true) : ∀ z ∈ (putA l x).1, argB z = true := by
  induction l with
  | nil => intro z hz; simp [putA] at hz; subst hz; exact hx
  | cons y r ih =>
    unfold putA at h ⊢
    by_cases e : y.1 = x.1
    · rw [if_pos e] at h ⊢
      intro z hz
      rcases List.mem_cons.1 hz with rfl | hz
      · have hy := hl y List.mem_cons_self
        unfold argB at hy ⊢
        rw [Bool.and_eq_true] at hy
        rw [hy.1, (com_known h).2.2.1]
        rfl
      · exact hl z (List.mem_cons_of_mem _ hz)
    · rw [if_neg e] at h ⊢
      by_cases lt : x.1 < y.1
      · rw [if_pos lt] at h ⊢
        intro z hz
        rcases List.mem_cons.1 hz with rfl | hz
        · exact hx
        · exact hl z hz
      · rw [if_neg lt] at h ⊢
        intro z hz
        rcases List.mem_cons.1 hz with rfl | hz
        · exact hl _ List.mem_cons_self
        · exact ih (fun z hz => hl z (List.mem_cons_of_mem _ hz)) h z hz
theorem fold_arg : ∀ {l a o : List ArgP}, (∀ z ∈ a, argB z = true) → (∀ z ∈ l, argB z = true) → foldA a l = some o → ∀ z ∈ o, argB z = true
  | [], a, o, ha, _, h => by injection h with h; subst h; exact ha
  | x :: r, a, o, ha, hl, h => by
    rw [foldA] at h
    split at h
    · rename_i hp
      exact fold_arg (put_arg ha (hl x List.mem_cons_self) hp) (fun z hz => hl z (List.mem_cons_of_mem _ hz)) h
    · cases h
theorem fold_names : ∀ {l a o : List ArgP}, foldA a l = some o → ∀ z ∈ o, (∃ y ∈ a, y.1 = z.1) ∨ ∃ y ∈ l, y.1 = z.1
  | [], a, o, h => by injection h with h; subst h; exact fun z hz => .inl ⟨z, hz, rfl⟩
  | x :: r, a, o, h => by
    rw [foldA] at h
    split at h
    · intro z hz
      rcases fold_names h z hz with ⟨y, hy, e⟩ | ⟨y, hy, e⟩
      · rcases put_names hy with e2 | ⟨u, hu, e2⟩
        · exact .inr ⟨x, List.mem_cons_self, by rw [← e2]; exact e⟩
        · exact .inl ⟨u, hu, e2.trans e⟩
      · exact .inr ⟨y, List.mem_cons_of_mem _ hy, e⟩
    · cases h
theorem asc_nodup {o : List ArgP} (h : o.Pairwise fun x y => x.1 < y.1) : (o.map (·.1)).Nodup := by
  unfold List.Nodup
  rw [List.pairwise_map]
  exact h.imp fun {a b} hab e => by rw [e] at hab; exact by_irr _ hab
/-- What a message has for a signature. -/
def inferA (f : F) : List ArgP × Int := match foldA [] (usesR f) with
  | none => ([], 11)
  | some o => (o, 0)
theorem infer_valid {c : Bool} {f : F} (hv : validF c f = true) {o : List ArgP} (h : foldA [] (usesR f) = some o) : validA o = true := by
  obtain ⟨h1, h2, _⟩ := validF_iff.1 hv
  have ha : o.Pairwise fun x y => x.1 < y.1 := fold_asc List.Pairwise.nil h
  refine sig_of (fun x hx => ?_) ha ?_
  · have := fold_arg (fun z hz => by cases hz) ((uses_ok f).1 _ _ _ h1) h x hx
    unfold argB at this
    simpa using this
  · refine Nat.le_trans ?_ h2
    have hl : (o.map (·.1)).length = o.length := List.length_map _
    rw [← hl]
    refine nodup_sub_len _ _ (asc_nodup ha) fun n hn => ?_
    obtain ⟨z, hz, rfl⟩ := List.mem_map.1 hn
    refine ((foldN_nodup (usesF f) [] (by simp)).2 _).2 (.inr ?_)
    rcases fold_names h z hz with ⟨y, hy, _⟩ | ⟨y, hy, e⟩
    · cases hy
    · rw [← e, ← usesR_names]
      exact List.mem_map.2 ⟨y, hy, rfl⟩

/-! The common type is associative. -/
theorem known_cases {a : Int} (h : knownB a = true) : a = 0 ∨ a = 1 ∨ a = 2 ∨ a = 3 ∨ a = 4 := by
  unfold knownB at h
  simp only [Bool.and_eq_true, decide_eq_true_eq] at h
  omega
theorem com3 {s t u : Int} (h : (comA t u).2 = true) : (comA s (comA t u).1).2 = ((comA s t).2 && (comA (comA s t).1 u).2) ∧ ((comA s t).2 = true → (comA (comA s t).1 u).2 = true → (comA s (comA t u).1).1 = (comA (comA s t).1 u).1) := by
  obtain ⟨h1, h2, _⟩ := com_known h
  by_cases hs : knownB s = true
  · rcases known_cases hs with rfl | rfl | rfl | rfl | rfl <;> rcases known_cases h1 with rfl | rfl | rfl | rfl | rfl <;> rcases known_cases h2 with rfl | rfl | rfl | rfl | rfl <;> first | (exact absurd h (by decide)) | decide
  · have e1 : ∀ x, (comA s x).2 = false := fun x => by
      cases hx : (comA s x).2
      · rfl
      · exact absurd (com_known hx).1 hs
    rw [e1, e1]
    exact ⟨rfl, fun h => by cases h⟩
theorem com_fail {s t u : Int} (h : (comA t u).2 = false) (h2 : (comA s t).2 = true) : (comA (comA s t).1 u).2 = false := by
  cases h3 : (comA (comA s t).1 u).2
  · rfl
  · obtain ⟨k1, k2, _⟩ := com_known h2
    obtain ⟨_, k3, _⟩ := com_known h3
    exfalso
    rcases known_cases k1 with rfl | rfl | rfl | rfl | rfl <;> rcases known_cases k2 with rfl | rfl | rfl | rfl | rfl <;> rcases known_cases k3 with rfl | rfl | rfl | rfl | rfl <;> first | (exact absurd h (by decide)) | (exact absurd h2 (by decide)) | (exact absurd h3 (by decide))
abbrev AscP (l : List ArgP) : Prop := l.Pairwise fun x y => x.1 < y.1
theorem fold_iff {a b : List ArgP} (ha : AscP a) (hb : AscP b) {o : List ArgP} (h : foldA a b = some o) : fitO a b ∧ AscP o ∧ ∀ n, getA o n = joinO (getA a n) (getA b n) := by
  obtain ⟨h1, h2⟩ := fold_spec ha hb
  by_cases hf : fitO a b
  · obtain ⟨q, e1, e2, e3⟩ := h1 hf
    rw [h] at e1
    injection e1 with e1
    subst e1
    exact ⟨hf, e2, e3⟩
  · rw [h2 hf] at h; cases h
/-- A use that was added to the second list may be added to the whole. -/
theorem fold_put {a p : List ArgP} {x : ArgP} (ha : AscP a) (hp : AscP p) (hx : (putA p x).2 = true) : foldA a (putA p x).1 = (foldA a p).bind fun q => if (putA q x).2 = true then some (putA q x).1 else none := by
  have hp' : AscP (putA p x).1 := put_asc hp x
  obtain ⟨h1, h2⟩ := fold_spec ha hp
  obtain ⟨k1, k2⟩ := fold_spec ha hp'
  by_cases hf : fitO a p
  · obtain ⟨q, e1, e2, e3⟩ := h1 hf
    rw [e1]
    simp only [Option.bind_some]
    by_cases hq : (putA q x).2 = true
    · rw [if_pos hq]
      have hf' : fitO a (putA p x).1 := by
        intro n s t hs ht
        rw [put_get hp] at ht
        by_cases en : x.1 = n
        · subst en
          rw [if_pos rfl] at ht
          cases hg : getA p x.1 with
          | none =>
            rw [hg] at ht
            simp only [joinO] at ht
            injection ht with ht
            subst ht
            exact (put_ok e2 x).1 hq s (by rw [e3, hs, hg]; rfl)
          | some t0 =>
            rw [hg] at ht
            simp only [joinO] at ht
            injection ht with ht
            subst ht
            rw [(com3 ((put_ok hp x).1 hx t0 hg)).1, hf _ _ _ hs hg, (put_ok e2 x).1 hq (comA s t0).1 (by rw [e3, hs, hg]; rfl)]
            rfl
        · rw [if_neg en] at ht
          exact hf n s t hs ht
      obtain ⟨q', f1, f2, f3⟩ := k1 hf'
      rw [f1]
      congr 1
      refine asc_ext f2 (put_asc e2 x) fun n => ?_
      rw [f3, put_get hp, put_get e2, e3]
      by_cases en : x.1 = n
      · subst en
        rw [if_pos rfl, if_pos rfl]
        cases hs : getA a x.1 with
        | none => cases getA p x.1 <;> rfl
        | some s =>
          cases hg : getA p x.1 with
          | none => rfl
          | some t0 =>
            simp only [joinO]
            rw [(com3 ((put_ok hp x).1 hx t0 hg)).2 (hf _ _ _ hs hg) ((put_ok e2 x).1 hq (comA s t0).1 (by rw [e3, hs, hg]; rfl))]
      · rw [if_neg en, if_neg en]
    · rw [if_neg hq]
      refine k2 fun hf' => hq ((put_ok e2 x).2 fun t ht => ?_)
      rw [e3] at ht
      cases hs : getA a x.1 with
      | none =>
        rw [hs] at ht
        exact (put_ok hp x).1 hx t (by cases hg : getA p x.1 <;> (rw [hg] at ht; exact ht))
      | some s =>
        have hp2 := put_get hp x x.1
        rw [if_pos rfl] at hp2
        cases hg : getA p x.1 with
        | none =>
          rw [hs, hg] at ht
          simp only [joinO] at ht
          injection ht with ht
          subst ht
          rw [hg] at hp2
          exact hf' _ _ _ hs hp2
        | some t0 =>
          rw [hs, hg] at ht
          simp only [joinO] at ht
          injection ht with ht
          subst ht
          rw [hg] at hp2
          have := hf' _ _ _ hs hp2
          rw [(com3 ((put_ok hp x).1 hx t0 hg)).1, Bool.and_eq_true] at this
          exact this.2
  · rw [h2 hf]
    simp only [Option.bind_none]
    refine k2 fun hf' => hf fun n s t hs ht => ?_
    by_cases en : x.1 = n
    · subst en
      have hp2 := put_get hp x x.1
      rw [if_pos rfl, ht] at hp2
      have := hf' _ _ _ hs hp2
      rw [(com3 ((put_ok hp x).1 hx t ht)).1, Bool.and_eq_true] at this
      exact this.1
    · exact hf' n s t hs (by rw [put_get hp, if_neg en]; exact ht)
theorem put_bad {a p q : List ArgP} {x : ArgP} (ha : AscP a) (hp : AscP p) (hx : (putA p x).2 = false) (hq : foldA a p = some q) : (putA q x).2 = false := by
  obtain ⟨e1, e2, e3⟩ := fold_iff ha hp hq
  cases h : (putA q x).2
  · rfl
  · exfalso
    have : (putA p x).2 = true := (put_ok hp x).2 fun t ht => by
      cases hs : getA a x.1 with
      | none => exact (put_ok e2 x).1 h t (by rw [e3, hs, ht]; rfl)
      | some s =>
        have h2 := (put_ok e2 x).1 h (comA s t).1 (by rw [e3, hs, ht]; rfl)
        cases h3 : (comA t x.2).2
        · rw [com_fail h3 (e1 _ _ _ hs ht)] at h2; cases h2
        · rfl
    rw [hx] at this
    cases this
theorem fold_gen {a : List ArgP} (ha : AscP a) : ∀ (v p : List ArgP), AscP p → (foldA a p).bind (fun q => foldA q v) = (foldA p v).bind fun o => foldA a o
  | [], p, hp => by
    simp only [foldA, Option.bind_some]
    cases foldA a p <;> rfl
  | x :: r, p, hp => by
    cases hx : (putA p x).2
    · rw [foldA, if_neg (by rw [hx]; decide)]
      cases hq : foldA a p with
      | none => rfl
      | some q =>
        simp only [Option.bind_some, Option.bind_none]
        rw [foldA, if_neg (by rw [put_bad ha hp hx hq]; decide)]
    · rw [show foldA p (x :: r) = foldA (putA p x).1 r from by rw [foldA, if_pos hx], ← fold_gen ha r _ (put_asc hp x), fold_put ha hp hx]
      cases foldA a p with
      | none => rfl
      | some q =>
        simp only [Option.bind_some]
        rw [foldA]
        split <;> rfl
/-- Uses may be added one by one, or as a signature. -/
theorem fold_sig {a : List ArgP} (ha : AscP a) (v : List ArgP) : foldA a v = (foldA [] v).bind fun o => foldA a o := by
  have := fold_gen ha v [] List.Pairwise.nil
  simpa [foldA] using this

/-! Two halves; parts within parts. -/
theorem infer_split {c : Bool} {f g : F} (hf : validF c f = true) (hg : validF c g = true) (h : validF c (f.app g) = true) :
    (∀ a b, foldA [] (usesR f) = some a → foldA [] (usesR g) = some b → mergeA a b = inferA (f.app g)) ∧ ((foldA [] (usesR f) = none ∨ foldA [] (usesR g) = none) → foldA [] (usesR (f.app g)) = none) := by
  rw [usesR_app, foldA_app]
  refine ⟨fun a b h1 h2 => ?_, fun hn => ?_⟩
  · have va := infer_valid hf h1
    have vb := infer_valid hg h2
    have h3 : foldA [] (usesR (f.app g)) = foldA a b := by
      rw [usesR_app, foldA_app, h1]
      simp only [Option.bind_some]
      rw [fold_sig (sig_ok va).2.1, h2]
      rfl
    unfold mergeA inferA
    rw [if_pos (by rw [va, vb]; rfl), h3]
    cases h4 : foldA a b with
    | none => rfl
    | some o =>
      simp only
      rw [if_pos (sig_ok (infer_valid h (h3.trans h4))).2.2]
  · cases h1 : foldA [] (usesR f) with
    | none => rfl
    | some a =>
      rw [h1] at hn
      simp only [Option.bind_some]
      rw [fold_sig (fold_asc List.Pairwise.nil h1)]
      rcases hn with hn | hn
      · cases hn
      · rw [hn]; rfl
theorem inner_infix {q f : F} (h : Inner q f) : ∃ A B, usesR f = A ++ (usesR q ++ B) := by
  induction h with
  | @elem k t n s cs ps r => exact ⟨_, usesR cs ++ usesR r, by rw [usesR]⟩
  | @case k t n s cs ps r q h ih =>
    obtain ⟨A, B, e⟩ := ih
    exact ⟨(if 2 ≤ k ∧ k ≤ 9 then [(n, typeU k)] else []) ++ (usesR ps ++ A), B ++ usesR r, by rw [usesR, e]; simp only [List.append_assoc]⟩
  | @next k t n s cs ps r q h ih =>
    obtain ⟨A, B, e⟩ := ih
    exact ⟨(if 2 ≤ k ∧ k ≤ 9 then [(n, typeU k)] else []) ++ (usesR ps ++ (usesR cs ++ A)), B, by rw [usesR, e]; simp only [List.append_assoc]⟩
theorem fold_more : ∀ {l a o : List ArgP}, AscP a → foldA a l = some o → ∀ n s, getA a n = some s → ∃ s', getA o n = some s' ∧ accB s' s = true
  | [], a, o, ha, h, n, s, hs => by injection h with h; subst h; exact ⟨s, hs, acc_self s⟩
  | x :: r, a, o, ha, h, n, s, hs => by
    rw [foldA] at h
    split at h
    · rename_i hp
      by_cases e : x.1 = n
      · subst e
        have hg := put_get ha x x.1
        rw [if_pos rfl, hs] at hg
        simp only [joinO] at hg
        obtain ⟨s', h1, h2⟩ := fold_more (put_asc ha x) h _ _ hg
        exact ⟨s', h1, acc_trans h2 (com_acc ((put_ok ha x).1 hp s hs))⟩
      · have hg := put_get ha x n
        rw [if_neg e, hs] at hg
        exact fold_more (put_asc ha x) h _ _ hg
    · cases h
theorem infer_inner {c : Bool} {q f : F} (hq : Inner q f) (hv : validF c f = true) {o : List ArgP} (h : foldA [] (usesR f) = some o) : ∃ x, foldA [] (usesR q) = some x ∧ validA x = true ∧ coversA o x = true := by
  obtain ⟨A, B, e⟩ := inner_infix hq
  have vo := infer_valid hv h
  have vq := (inner_valid hq hv).1
  rw [e, foldA_app] at h
  cases ha : foldA [] A with
  | none => rw [ha] at h; cases h
  | some a =>
    rw [ha] at h
    simp only [Option.bind_some] at h
    have aa : AscP a := fold_asc List.Pairwise.nil ha
    rw [foldA_app, fold_sig aa] at h
    cases hx : foldA [] (usesR q) with
    | none => rw [hx] at h; cases h
    | some x =>
      rw [hx] at h
      simp only [Option.bind_some] at h
      have vx := infer_valid vq hx
      refine ⟨x, rfl, vx, ?_⟩
      cases hp : foldA a x with
      | none => rw [hp] at h; cases h
      | some p =>
        rw [hp] at h
        simp only [Option.bind_some] at h
        obtain ⟨f1, f2, f3⟩ := fold_iff aa (sig_ok vx).2.1 hp
        unfold coversA
        rw [vo, vx]
        simp only [Bool.true_and]
        rw [List.all_eq_true]
        intro y hy
        refine (has_iff (sig_ok vo).2.1).2 ?_
        have hg := mem_get (sig_ok vx).2.1 hy
        cases hs : getA a y.1 with
        | none =>
          have h3 : getA p y.1 = some y.2 := by rw [f3, hs, hg]; rfl
          exact fold_more f2 h _ _ h3
        | some s =>
          have h3 : getA p y.1 = some (comA s y.2).1 := by rw [f3, hs, hg]; rfl
          obtain ⟨s', h4, h5⟩ := fold_more f2 h _ _ h3
          refine ⟨s', h4, acc_trans h5 ?_⟩
          have := f1 _ _ _ hs hg
          rw [com_comm] at this ⊢
          exact com_acc this
end Go.Proofs.YtpfmojeigjmlfaaDoor
