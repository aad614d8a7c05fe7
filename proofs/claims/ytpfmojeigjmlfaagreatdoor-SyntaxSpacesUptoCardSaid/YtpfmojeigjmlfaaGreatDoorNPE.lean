import Derived.Test.YtpfmojeigjmlfaaGreatDoorTk
import Derived.Test.YtpfmojeigjmlfaaGreatDoorBase
import Derived.Maps.OwnOps
import Derived.Maps.OwnSet
import Derived.Sort.KeysCollected
import Derived.StringKeys
namespace Go.Proofs.YtpfmojeigjmlfaaGreatDoor
set_option linter.unusedSimpArgs false
set_option linter.unusedVariables false

/-! Signatures, in plain words. -/
abbrev ArgP := By × Int
def knownB (t : Int) : Bool := decide (0 ≤ t) && decide (t ≤ 4)
/-- The common type of two types. -/
def comA (a b : Int) : Int × Bool :=
  if (knownB a && knownB b) = true then (if a = b then (a, true) else if a = 0 ∧ b ≠ 4 then (b, true) else if b = 0 ∧ a ≠ 4 then (a, true) else (0, false)) else (0, false)
def ascA : List ArgP → Bool
  | x :: y :: r => decide (x.1 < y.1) && ascA (y :: r)
  | _ => true
def argB (x : ArgP) : Bool := nameB x.1 && knownB x.2
def validA (l : List ArgP) : Bool := l.all argB && ascA l && decide (l.length ≤ 20)
def putA : List ArgP → ArgP → List ArgP × Bool
  | [], x => ([x], true)
  | y :: r, x => if y.1 = x.1 then ((y.1, (comA y.2 x.2).1) :: r, (comA y.2 x.2).2) else if x.1 < y.1 then (x :: y :: r, true) else (y :: (putA r x).1, (putA r x).2)
def foldA : List ArgP → List ArgP → Option (List ArgP)
  | a, [] => some a
  | a, x :: r => if (putA a x).2 = true then foldA (putA a x).1 r else none
def mergeA (a b : List ArgP) : List ArgP × Int :=
  if (validA a && validA b) = true then (match foldA a b with
    | none => ([], 11)
    | some o => if o.length ≤ 20 then (o, 0) else ([], 6)) else ([], 1)
def accB (a b : Int) : Bool := a == b || (b == 0 && !(a == 4))
def hasA (a : List ArgP) (y : ArgP) : Bool := a.any fun x => x.1 == y.1 && accB x.2 y.2
def coversA (a b : List ArgP) : Bool := validA a && validA b && b.all (hasA a)
def getA : List ArgP → By → Option Int
  | [], _ => none
  | x :: r, n => if x.1 = n then some x.2 else getA r n

/-! The order of names. -/
theorem by_irr (a : By) : ¬ a < a := List.lt_irrefl a
theorem by_trans {a b c : By} (h : a < b) (k : b < c) : a < c := List.lt_trans h k
theorem by_asymm {a b : By} (h : a < b) : ¬ b < a := fun k => List.lt_irrefl a (List.lt_trans h k)
theorem by_tri (a b : By) : a < b ∨ a = b ∨ b < a := by
  by_cases h : a < b
  · exact .inl h
  · by_cases k : b < a
    · exact .inr (.inr k)
    · exact .inr (.inl (List.le_antisymm k h))
theorem asc_pair {l : List ArgP} : ascA l = true ↔ l.Pairwise fun x y => x.1 < y.1 := by
  induction l with
  | nil => simp [ascA]
  | cons x r ih =>
    cases r with
    | nil => simp [ascA]
    | cons y r =>
      unfold ascA
      rw [Bool.and_eq_true, decide_eq_true_eq, ih]
      constructor
      · rintro ⟨h1, h2⟩
        refine List.pairwise_cons.2 ⟨fun z hz => ?_, h2⟩
        rcases List.mem_cons.1 hz with rfl | hz
        · exact h1
        · exact by_trans h1 ((List.pairwise_cons.1 h2).1 z hz)
      · intro h
        obtain ⟨h1, h2⟩ := List.pairwise_cons.1 h
        exact ⟨h1 y (by simp), h2⟩
theorem get_none {l : List ArgP} {n : By} : getA l n = none ↔ ∀ x ∈ l, x.1 ≠ n := by
  induction l with
  | nil => simp [getA]
  | cons x r ih =>
    unfold getA
    by_cases h : x.1 = n
    · rw [if_pos h]; simp [h]
    · rw [if_neg h, ih]; simp [h]
theorem get_mem {l : List ArgP} {n : By} {t : Int} (h : getA l n = some t) : (n, t) ∈ l := by
  induction l with
  | nil => simp [getA] at h
  | cons x r ih =>
    unfold getA at h
    by_cases e : x.1 = n
    · rw [if_pos e] at h
      injection h with h
      have : x = (n, t) := Prod.ext e h
      rw [this]; simp
    · rw [if_neg e] at h
      exact List.mem_cons_of_mem _ (ih h)
theorem mem_get {l : List ArgP} (ha : l.Pairwise fun x y => x.1 < y.1) {x : ArgP} (h : x ∈ l) : getA l x.1 = some x.2 := by
  induction l with
  | nil => cases h
  | cons y r ih =>
    unfold getA
    obtain ⟨h1, h2⟩ := List.pairwise_cons.1 ha
    rcases List.mem_cons.1 h with rfl | h
    · rw [if_pos rfl]
    · have := h1 x h
      rw [if_neg fun e => by rw [e] at this; exact by_irr _ this]
      exact ih h2 h
/-- Two lists in the order of the names are the same if they answer the same. -/
theorem asc_ext : ∀ {l m : List ArgP}, (l.Pairwise fun x y => x.1 < y.1) → (m.Pairwise fun x y => x.1 < y.1) → (∀ n, getA l n = getA m n) → l = m
  | [], [], _, _, _ => rfl
  | [], y :: m, _, _, h => by
    have := h y.1
    simp [getA] at this
  | x :: l, [], _, _, h => by
    have := h x.1
    simp [getA] at this
  | x :: l, y :: m, hl, hm, h => by
    obtain ⟨l1, l2⟩ := List.pairwise_cons.1 hl
    obtain ⟨m1, m2⟩ := List.pairwise_cons.1 hm
    have hx : getA (y :: m) x.1 = some x.2 := by rw [← h]; simp [getA]
    have hy : getA (x :: l) y.1 = some y.2 := by rw [h]; simp [getA]
    have e1 : x.1 = y.1 := by
      rcases by_tri x.1 y.1 with k | k | k
      · have hm' := get_mem hx
        rcases List.mem_cons.1 hm' with e | hm'
        · exact congrArg Prod.fst e
        · exact absurd (by_trans k (m1 _ hm')) (by_irr _)
      · exact k
      · have hm' := get_mem hy
        rcases List.mem_cons.1 hm' with e | hm'
        · exact (congrArg Prod.fst e).symm
        · exact absurd (by_trans k (l1 _ hm')) (by_irr _)
    have e2 : x.2 = y.2 := by
      unfold getA at hx
      rw [if_pos e1.symm] at hx
      injection hx with hx
      exact hx.symm
    have exy : x = y := Prod.ext e1 e2
    subst exy
    congr 1
    refine asc_ext l2 m2 fun n => ?_
    have := h n
    unfold getA at this
    by_cases e : x.1 = n
    · have q1 : getA l n = none := get_none.2 fun z hz q => by have := l1 z hz; rw [q, e] at this; exact by_irr _ this
      have q2 : getA m n = none := get_none.2 fun z hz q => by have := m1 z hz; rw [q, e] at this; exact by_irr _ this
      rw [q1, q2]
    · rwa [if_neg e, if_neg e] at this

/-! A further use. -/
def joinO (a b : Option Int) : Option Int := match a, b with
  | none, b => b
  | a, none => a
  | some s, some t => some (comA s t).1
theorem put_get {l : List ArgP} (ha : l.Pairwise fun x y => x.1 < y.1) (x : ArgP) (n : By) : getA (putA l x).1 n = if x.1 = n then joinO (getA l n) (some x.2) else getA l n := by
  induction l with
  | nil =>
    unfold putA getA
    split <;> simp [getA, joinO]
  | cons y r ih =>
    obtain ⟨h1, h2⟩ := List.pairwise_cons.1 ha
    unfold putA
    by_cases e : y.1 = x.1
    · rw [if_pos e]
      simp only
      unfold getA
      by_cases en : x.1 = n
      · rw [if_pos (e.trans en), if_pos en, if_pos (e.trans en)]; rfl
      · rw [if_neg (fun q => en (e.symm.trans q)), if_neg en, if_neg (fun q => en (e.symm.trans q))]
    · rw [if_neg e]
      by_cases lt : x.1 < y.1
      · rw [if_pos lt]
        simp only
        show getA (x :: y :: r) n = _
        rw [getA]
        by_cases en : x.1 = n
        · rw [if_pos en, if_pos en]
          have : getA (y :: r) n = none := get_none.2 fun z hz q => by
            rw [← q] at en
            rcases List.mem_cons.1 hz with rfl | hz
            · rw [en] at lt; exact by_irr _ lt
            · have := h1 z hz
              rw [← en] at this
              exact by_asymm lt this
          rw [this]; rfl
        · rw [if_neg en, if_neg en]
      · rw [if_neg lt]
        simp only
        unfold getA
        by_cases yn : y.1 = n
        · rw [if_pos yn, if_pos yn, if_neg (fun q => e (yn.trans q.symm))]
        · rw [if_neg yn, if_neg yn]
          exact ih h2
theorem put_names {l : List ArgP} {x z : ArgP} (h : z ∈ (putA l x).1) : z.1 = x.1 ∨ ∃ y ∈ l, y.1 = z.1 := by
  induction l with
  | nil =>
    unfold putA at h
    simp at h
    subst h
    exact .inl rfl
  | cons y r ih =>
    unfold putA at h
    split at h
    · rename_i e
      rcases List.mem_cons.1 h with rfl | h
      · exact .inl e
      · exact .inr ⟨z, by simp [h], rfl⟩
    · split at h
      · rcases List.mem_cons.1 h with rfl | h
        · exact .inl rfl
        · exact .inr ⟨z, h, rfl⟩
      · rcases List.mem_cons.1 h with rfl | h
        · exact .inr ⟨z, by simp, rfl⟩
        · rcases ih h with q | ⟨w, hw, q⟩
          · exact .inl q
          · exact .inr ⟨w, by simp [hw], q⟩
theorem put_asc {l : List ArgP} (ha : l.Pairwise fun x y => x.1 < y.1) (x : ArgP) : (putA l x).1.Pairwise fun x y => x.1 < y.1 := by
  induction l with
  | nil => unfold putA; simp
  | cons y r ih =>
    obtain ⟨h1, h2⟩ := List.pairwise_cons.1 ha
    unfold putA
    split
    · exact List.pairwise_cons.2 ⟨h1, h2⟩
    · rename_i e
      split
      · rename_i lt
        refine List.pairwise_cons.2 ⟨fun z hz => ?_, ha⟩
        rcases List.mem_cons.1 hz with rfl | hz
        · exact lt
        · exact by_trans lt (h1 z hz)
      · rename_i lt
        refine List.pairwise_cons.2 ⟨fun z hz => ?_, ih h2⟩
        rcases put_names hz with q | ⟨w, hw, q⟩
        · rw [q]
          rcases by_tri y.1 x.1 with k | k | k
          · exact k
          · exact absurd k e
          · exact absurd k lt
        · rw [← q]; exact h1 w hw
theorem put_ok {l : List ArgP} (ha : l.Pairwise fun x y => x.1 < y.1) (x : ArgP) : (putA l x).2 = true ↔ ∀ t, getA l x.1 = some t → (comA t x.2).2 = true := by
  induction l with
  | nil => simp [putA, getA]
  | cons y r ih =>
    obtain ⟨h1, h2⟩ := List.pairwise_cons.1 ha
    unfold putA
    by_cases e : y.1 = x.1
    · rw [if_pos e]
      unfold getA
      rw [if_pos e]
      simp
    · rw [if_neg e]
      by_cases lt : x.1 < y.1
      · rw [if_pos lt]
        have : getA (y :: r) x.1 = none := get_none.2 fun z hz q => by
          rcases List.mem_cons.1 hz with rfl | hz
          · exact e q
          · have := h1 z hz
            rw [q] at this
            exact by_asymm lt this
        rw [this]; simp
      · rw [if_neg lt]
        unfold getA
        rw [if_neg e]
        exact ih h2

/-! Several further uses. -/
theorem fold_spec : ∀ {b a : List ArgP}, (a.Pairwise fun x y => x.1 < y.1) → (b.Pairwise fun x y => x.1 < y.1) →
    ((∀ n s t, getA a n = some s → getA b n = some t → (comA s t).2 = true) → ∃ o, foldA a b = some o ∧ (o.Pairwise fun x y => x.1 < y.1) ∧ ∀ n, getA o n = joinO (getA a n) (getA b n)) ∧
    ((¬ ∀ n s t, getA a n = some s → getA b n = some t → (comA s t).2 = true) → foldA a b = none)
  | [], a, ha, _ => by
    refine ⟨fun _ => ⟨a, rfl, ha, fun n => ?_⟩, fun h => absurd (fun n s t _ h2 => by simp [getA] at h2) h⟩
    simp only [getA]
    cases getA a n <;> rfl
  | x :: r, a, ha, hb => by
    obtain ⟨h1, h2⟩ := List.pairwise_cons.1 hb
    have hr : getA r x.1 = none := get_none.2 fun z hz q => by have := h1 z hz; rw [q] at this; exact by_irr _ this
    by_cases hp : (putA a x).2 = true
    · obtain ⟨i1, i2⟩ := fold_spec (b := r) (a := (putA a x).1) (put_asc ha x) h2
      have key : (∀ n s t, getA (putA a x).1 n = some s → getA r n = some t → (comA s t).2 = true) ↔ (∀ n s t, getA a n = some s → getA (x :: r) n = some t → (comA s t).2 = true) := by
        constructor
        · intro h n s t hs ht
          unfold getA at ht
          by_cases e : x.1 = n
          · rw [if_pos e] at ht
            injection ht with ht
            subst ht
            subst e
            exact (put_ok ha x).1 hp s hs
          · rw [if_neg e] at ht
            refine h n s t ?_ ht
            rw [put_get ha, if_neg e]; exact hs
        · intro h n s t hs ht
          have e : x.1 ≠ n := fun e => by subst e; rw [hr] at ht; cases ht
          rw [put_get ha, if_neg e] at hs
          exact h n s t hs (by rw [getA, if_neg e]; exact ht)
      constructor
      · intro h
        obtain ⟨o, h3, h4, h5⟩ := i1 (key.2 h)
        refine ⟨o, by rw [foldA, if_pos hp]; exact h3, h4, fun n => ?_⟩
        rw [h5, put_get ha]
        by_cases e : x.1 = n
        · subst e
          rw [if_pos rfl, hr, getA, if_pos rfl]
          cases getA a x.1 <;> rfl
        · rw [if_neg e]
          conv => rhs; rw [getA, if_neg e]
      · intro h
        rw [foldA, if_pos hp]
        exact i2 fun q => h (key.1 q)
    · have hbad : ¬ ∀ n s t, getA a n = some s → getA (x :: r) n = some t → (comA s t).2 = true := by
        intro h
        exact hp ((put_ok ha x).2 fun t ht => h x.1 t x.2 ht (by rw [getA, if_pos rfl]))
      exact ⟨fun h => absurd h hbad, fun _ => by rw [foldA, if_neg hp]⟩

/-! The common type. -/
theorem com_comm (a b : Int) : comA a b = comA b a := by
  unfold comA
  rw [Bool.and_comm]
  by_cases hk : (knownB b && knownB a) = true
  · rw [if_pos hk, if_pos hk]
    by_cases h : a = b
    · subst h; rfl
    · rw [if_neg h, if_neg (show ¬ b = a from fun e => h e.symm)]
      by_cases h1 : a = 0 ∧ b ≠ 4
      · by_cases h2 : b = 0 ∧ a ≠ 4
        · exact absurd (h1.1.trans h2.1.symm) h
        · rw [if_pos h1, if_neg h2, if_pos h1]
      · by_cases h2 : b = 0 ∧ a ≠ 4
        · rw [if_neg h1, if_pos h2, if_pos h2]
        · rw [if_neg h1, if_neg h2, if_neg h2, if_neg h1]
  · rw [if_neg hk, if_neg hk]
theorem com_self {a : Int} (h : knownB a = true) : comA a a = (a, true) := by unfold comA; rw [h]; simp
theorem com_known {a b : Int} (h : (comA a b).2 = true) : knownB a = true ∧ knownB b = true ∧ knownB (comA a b).1 = true ∧ (comA a b).1 = (if a = b then a else if a = 0 then b else a) ∧ (a = b ∨ (a = 0 ∧ b ≠ 4) ∨ (b = 0 ∧ a ≠ 4)) := by
  unfold comA at h ⊢
  by_cases hk : (knownB a && knownB b) = true
  · rw [if_pos hk] at h ⊢
    obtain ⟨k1, k2⟩ := Bool.and_eq_true_iff.1 hk
    by_cases e : a = b
    · rw [if_pos e, if_pos e]; exact ⟨k1, k2, k1, rfl, .inl e⟩
    · rw [if_neg e] at h ⊢
      by_cases e1 : a = 0 ∧ b ≠ 4
      · rw [if_pos e1, if_neg e, if_pos e1.1]; exact ⟨k1, k2, k2, rfl, .inr (.inl e1)⟩
      · rw [if_neg e1] at h ⊢
        by_cases e2 : b = 0 ∧ a ≠ 4
        · rw [if_pos e2, if_neg e, if_neg (fun q => e (q.trans e2.1.symm))]; exact ⟨k1, k2, k1, rfl, .inr (.inr e2)⟩
        · rw [if_neg e2] at h; cases h
  · rw [if_neg hk] at h; cases h
theorem com_acc {a b : Int} (h : (comA a b).2 = true) : accB (comA a b).1 a = true := by
  obtain ⟨_, _, _, e, h5⟩ := com_known h
  rw [e]
  unfold accB
  by_cases h1 : a = b
  · rw [if_pos h1]; simp
  · rw [if_neg h1]
    by_cases h2 : a = 0
    · rw [if_pos h2]
      rcases h5 with h | ⟨_, h⟩ | ⟨h, _⟩
      · exact absurd h h1
      · simp [h2, h]
      · exact absurd (h2.trans h.symm) h1
    · rw [if_neg h2]; simp
end Go.Proofs.YtpfmojeigjmlfaaGreatDoor
namespace Go.Proofs.YtpfmojeigjmlfaaGreatDoor
set_option linter.unusedSimpArgs false
set_option linter.unusedVariables false

/-! What merging does. -/
theorem sig_ok {l : List ArgP} (h : validA l = true) : (∀ x ∈ l, nameB x.1 = true ∧ knownB x.2 = true) ∧ (l.Pairwise fun x y => x.1 < y.1) ∧ l.length ≤ 20 := by
  unfold validA at h
  simp only [Bool.and_eq_true, decide_eq_true_eq] at h
  refine ⟨fun x hx => ?_, asc_pair.1 h.1.2, h.2⟩
  have := List.all_eq_true.1 h.1.1 x hx
  unfold argB at this
  simpa using this
theorem sig_of {l : List ArgP} (h1 : ∀ x ∈ l, nameB x.1 = true ∧ knownB x.2 = true) (h2 : l.Pairwise fun x y => x.1 < y.1) (h3 : l.length ≤ 20) : validA l = true := by
  unfold validA
  simp only [Bool.and_eq_true, decide_eq_true_eq]
  refine ⟨⟨List.all_eq_true.2 fun x hx => ?_, asc_pair.2 h2⟩, h3⟩
  unfold argB
  simpa using h1 x hx
def fitO (a b : List ArgP) : Prop := ∀ n s t, getA a n = some s → getA b n = some t → (comA s t).2 = true
theorem fit_comm {a b : List ArgP} : fitO a b ↔ fitO b a := by
  constructor <;> intro h n s t hs ht <;> (rw [com_comm]; exact h n t s ht hs)
theorem join_comm (a b : Option Int) : joinO a b = joinO b a := by
  cases a <;> cases b <;> simp [joinO, com_comm]
theorem fold_comm {a b : List ArgP} (ha : a.Pairwise fun x y => x.1 < y.1) (hb : b.Pairwise fun x y => x.1 < y.1) : foldA a b = foldA b a := by
  obtain ⟨h1, h2⟩ := fold_spec ha hb
  obtain ⟨k1, k2⟩ := fold_spec hb ha
  by_cases h : fitO a b
  · obtain ⟨o, e1, e2, e3⟩ := h1 h
    obtain ⟨p, f1, f2, f3⟩ := k1 (fit_comm.1 h)
    rw [e1, f1]
    congr 1
    exact asc_ext e2 f2 fun n => by rw [e3, f3, join_comm]
  · rw [h2 h, k2 fun k => h (fit_comm.1 k)]
/-- Merging is commutative. -/
theorem merge_comm (a b : List ArgP) : mergeA a b = mergeA b a := by
  unfold mergeA
  rw [Bool.and_comm]
  by_cases h : (validA b && validA a) = true
  · rw [if_pos h, if_pos h]
    obtain ⟨h1, h2⟩ := Bool.and_eq_true_iff.1 h
    rw [fold_comm (sig_ok h2).2.1 (sig_ok h1).2.1]
  · rw [if_neg h, if_neg h]
theorem get_known {l : List ArgP} (h : validA l = true) {n : By} {t : Int} (hg : getA l n = some t) : knownB t = true := ((sig_ok h).1 _ (get_mem hg)).2
/-- Merging with itself changes nothing. -/
theorem merge_self {a : List ArgP} (h : validA a = true) : mergeA a a = (a, 0) := by
  unfold mergeA
  rw [if_pos (by rw [h]; rfl)]
  obtain ⟨h1, h2, h3⟩ := sig_ok h
  have hf : fitO a a := fun n s t hs ht => by
    rw [hs] at ht; injection ht with ht; subst ht
    rw [com_self (get_known h hs)]
  obtain ⟨o, e1, e2, e3⟩ := (fold_spec h2 h2).1 hf
  have : o = a := asc_ext e2 h2 fun n => by
    rw [e3]
    cases hg : getA a n with
    | none => rfl
    | some t => simp only [joinO, com_self (get_known h hg)]
  subst this
  rw [e1]
  exact if_pos h3
theorem merge_nil {a : List ArgP} (h : validA a = true) : mergeA [] a = (a, 0) := by
  unfold mergeA
  rw [if_pos (by rw [h]; decide)]
  obtain ⟨h1, h2, h3⟩ := sig_ok h
  obtain ⟨o, e1, e2, e3⟩ := (fold_spec (a := []) (by simp) h2).1 (fun n s t hs _ => by simp [getA] at hs)
  have : o = a := asc_ext e2 h2 fun n => by
    rw [e3]
    cases hg : getA a n <;> simp [getA, joinO, hg]
  subst this
  rw [e1]
  exact if_pos h3
/-- What a merge that went well has. -/
theorem merge_ok {a b : List ArgP} (h : (mergeA a b).2 = 0) : validA a = true ∧ validA b = true ∧ fitO a b ∧ ((mergeA a b).1.Pairwise fun x y => x.1 < y.1) ∧ (∀ n, getA (mergeA a b).1 n = joinO (getA a n) (getA b n)) ∧ validA (mergeA a b).1 = true := by
  unfold mergeA at h ⊢
  by_cases hv : (validA a && validA b) = true
  · rw [if_pos hv] at h ⊢
    obtain ⟨v1, v2⟩ := Bool.and_eq_true_iff.1 hv
    obtain ⟨h1, h2⟩ := fold_spec (sig_ok v1).2.1 (sig_ok v2).2.1
    by_cases hf : fitO a b
    · obtain ⟨o, e1, e2, e3⟩ := h1 hf
      rw [e1] at h ⊢
      simp only at h ⊢
      by_cases hl : o.length ≤ 20
      · rw [if_pos hl] at h ⊢
        refine ⟨v1, v2, hf, e2, e3, sig_of (fun x hx => ?_) e2 hl⟩
        have hg := mem_get e2 hx
        rw [e3] at hg
        cases ga : getA a x.1 with
        | none =>
          cases gb : getA b x.1 with
          | none => rw [ga, gb] at hg; cases hg
          | some t =>
            rw [ga, gb] at hg
            simp only [joinO] at hg
            injection hg with hg
            exact ⟨((sig_ok v2).1 _ (get_mem gb)).1, by rw [← hg]; exact get_known v2 gb⟩
        | some s =>
          cases gb : getA b x.1 with
          | none =>
            rw [ga, gb] at hg
            simp only [joinO] at hg
            injection hg with hg
            exact ⟨((sig_ok v1).1 _ (get_mem ga)).1, by rw [← hg]; exact get_known v1 ga⟩
          | some t =>
            rw [ga, gb] at hg
            simp only [joinO] at hg
            injection hg with hg
            exact ⟨((sig_ok v1).1 _ (get_mem ga)).1, by rw [← hg]; exact (com_known (hf _ _ _ ga gb)).2.2.1⟩
      · rw [if_neg hl] at h; cases h
    · rw [h2 hf] at h; cases h
  · rw [if_neg hv] at h; cases h
theorem has_iff {a : List ArgP} (ha : a.Pairwise fun x y => x.1 < y.1) {y : ArgP} : hasA a y = true ↔ ∃ s, getA a y.1 = some s ∧ accB s y.2 = true := by
  unfold hasA
  rw [List.any_eq_true]
  constructor
  · rintro ⟨x, hx, h⟩
    simp only [Bool.and_eq_true, beq_iff_eq] at h
    exact ⟨x.2, by rw [← h.1]; exact mem_get ha hx, h.2⟩
  · rintro ⟨s, h1, h2⟩
    exact ⟨_, get_mem h1, by simp [h2]⟩
theorem acc_self (a : Int) : accB a a = true := by unfold accB; simp
/-- A merge covers its first part. -/
theorem merge_covers {a b : List ArgP} (h : (mergeA a b).2 = 0) : coversA (mergeA a b).1 a = true := by
  obtain ⟨v1, v2, hf, h4, h5, h6⟩ := merge_ok h
  unfold coversA
  rw [h6, v1]
  simp only [Bool.true_and]
  rw [List.all_eq_true]
  intro y hy
  refine (has_iff h4).2 ?_
  have hg := mem_get (sig_ok v1).2.1 hy
  rw [h5, hg]
  cases gb : getA b y.1 with
  | none => exact ⟨_, rfl, acc_self _⟩
  | some t => exact ⟨_, rfl, com_acc (hf _ _ _ hg gb)⟩
theorem merge_covers2 {a b : List ArgP} (h : (mergeA a b).2 = 0) : coversA (mergeA a b).1 b = true := by
  rw [merge_comm] at h ⊢
  exact merge_covers h
theorem com_assoc {a b c : Int} (h1 : (comA a b).2 = true) (h2 : (comA b c).2 = true) (h3 : (comA (comA a b).1 c).2 = true) (h4 : (comA a (comA b c).1).2 = true) : (comA (comA a b).1 c).1 = (comA a (comA b c).1).1 := by
  obtain ⟨_, _, _, e1, g1⟩ := com_known h1
  obtain ⟨_, _, _, e2, g2⟩ := com_known h2
  obtain ⟨_, _, _, e3, g3⟩ := com_known h3
  obtain ⟨_, _, _, e4, g4⟩ := com_known h4
  have red : ∀ x y : Int, (if x = y then x else if x = 0 then y else x) = if x = 0 then y else x := by
    intro x y
    by_cases h : x = y
    · subst h; simp
    · rw [if_neg h]
  rw [red] at e1 e2 e3 e4
  rw [e3, e4, e1, e2]
  by_cases q1 : a = 0
  · rw [if_pos q1, if_pos q1]
  · rw [if_neg q1, if_neg q1, if_neg q1]
/-- Merging is associative where all of it goes well. -/
theorem merge_assoc {a b c : List ArgP} (h1 : (mergeA a b).2 = 0) (h2 : (mergeA b c).2 = 0) (h3 : (mergeA (mergeA a b).1 c).2 = 0) (h4 : (mergeA a (mergeA b c).1).2 = 0) : (mergeA (mergeA a b).1 c).1 = (mergeA a (mergeA b c).1).1 := by
  obtain ⟨_, _, f1, _, g1, _⟩ := merge_ok h1
  obtain ⟨_, _, f2, _, g2, _⟩ := merge_ok h2
  obtain ⟨_, _, f3, p3, g3, _⟩ := merge_ok h3
  obtain ⟨_, _, f4, p4, g4, _⟩ := merge_ok h4
  refine asc_ext p3 p4 fun n => ?_
  rw [g3, g4, g1, g2]
  cases ga : getA a n with
  | none => cases gb : getA b n <;> cases gc : getA c n <;> rfl
  | some s =>
    cases gb : getA b n with
    | none => cases gc : getA c n <;> rfl
    | some t =>
      cases gc : getA c n with
      | none => rfl
      | some u =>
        simp only [joinO]
        congr 1
        have k1 := f1 n s t ga gb
        have k2 := f2 n t u gb gc
        refine com_assoc k1 k2 (f3 n _ u (by rw [g1, ga, gb]; rfl) gc) (f4 n s _ ga (by rw [g2, gb, gc]; rfl))

/-! Values and their checks. -/
structure ValP where
  name : By
  ty : Int
  ok : Bool
def getV (l : List ValP) (n : By) : Option ValP := l.find? fun v => v.name == n
def fitsV (v : ValP) (t : Int) : Bool := v.ok && accB v.ty t
/-- The first argument that does not fit, and why. -/
def chkP (vs : List ValP) : Nat → List ArgP → Int × Int
  | _, [] => (0, 0)
  | k, x :: r => match getV vs x.1 with
    | none => ((k : Int), 12)
    | some v => if fitsV v x.2 = true then chkP vs (k + 1) r else ((k : Int), 11)
def checkP (a : List ArgP) (vs : List ValP) : Int × Int := if validA a = true then chkP vs 0 a else (0, 1)
theorem chk_ok {vs : List ValP} : ∀ {a : List ArgP} {k : Nat}, (chkP vs k a).2 = 0 ↔ ∀ x ∈ a, ∃ v, getV vs x.1 = some v ∧ fitsV v x.2 = true
  | [], k => by simp [chkP]
  | x :: r, k => by
    unfold chkP
    cases hg : getV vs x.1 with
    | none =>
      simp only [List.mem_cons, forall_eq_or_imp]
      constructor
      · intro h; cases h
      · rintro ⟨⟨v, hv, _⟩, _⟩; rw [hg] at hv; cases hv
    | some v =>
      simp only
      by_cases hf : fitsV v x.2 = true
      · rw [if_pos hf, chk_ok (a := r) (k := k + 1)]
        simp only [List.mem_cons, forall_eq_or_imp]
        exact ⟨fun h => ⟨⟨v, hg, hf⟩, h⟩, fun h => h.2⟩
      · rw [if_neg hf]
        simp only [List.mem_cons, forall_eq_or_imp]
        constructor
        · intro h; cases h
        · rintro ⟨⟨u, hu, hq⟩, _⟩
          rw [hg] at hu
          injection hu with hu
          subst hu
          exact absurd hq hf
theorem acc_trans {s t u : Int} (h1 : accB s t = true) (h2 : accB t u = true) : accB s u = true := by
  unfold accB at *
  simp only [Bool.or_eq_true, Bool.and_eq_true, Bool.not_eq_true', beq_iff_eq, beq_eq_false_iff_ne] at *
  rcases h1 with h1 | ⟨h1, h1'⟩
  · subst h1; exact h2
  · rcases h2 with h2 | ⟨h2, h2'⟩
    · subst h2; exact .inr ⟨h1, h1'⟩
    · exact .inr ⟨h2, h1'⟩
/-- Values that pass the check of a signature pass that of each one which it covers. -/
theorem check_covers {a b : List ArgP} {vs : List ValP} (h : (checkP a vs).2 = 0) (hc : coversA a b = true) : (checkP b vs).2 = 0 := by
  unfold coversA at hc
  simp only [Bool.and_eq_true] at hc
  obtain ⟨⟨v1, v2⟩, h3⟩ := hc
  unfold checkP at h ⊢
  rw [if_pos v1] at h
  rw [if_pos v2]
  have h4 := chk_ok.1 h
  refine chk_ok.2 fun y hy => ?_
  obtain ⟨s, hs, hacc⟩ := (has_iff (sig_ok v1).2.1).1 (List.all_eq_true.1 h3 y hy)
  obtain ⟨v, hv, hf⟩ := h4 _ (get_mem hs)
  refine ⟨v, hv, ?_⟩
  unfold fitsV at hf ⊢
  simp only [Bool.and_eq_true] at hf ⊢
  exact ⟨hf.1, acc_trans hf.2 hacc⟩
theorem getV_rev {vs : List ValP} (h : (vs.map ValP.name).Nodup) (n : By) : getV vs.reverse n = getV vs n := by
  unfold getV
  cases hg : vs.find? (fun v => v.name == n) with
  | none =>
    rw [List.find?_eq_none] at hg ⊢
    intro x hx
    exact hg x (List.mem_reverse.1 hx)
  | some v =>
    have hm := List.mem_of_find?_eq_some hg
    have hn := List.find?_some hg
    cases hr : vs.reverse.find? (fun v => v.name == n) with
    | none =>
      rw [List.find?_eq_none] at hr
      exact absurd hn (hr v (List.mem_reverse.2 hm))
    | some u =>
      have hm2 := List.mem_reverse.1 (List.mem_of_find?_eq_some hr)
      have hn2 := List.find?_some hr
      congr 1
      simp only [beq_iff_eq] at hn hn2
      obtain ⟨i, hi, rfl⟩ := List.getElem_of_mem hm
      obtain ⟨j, hj, rfl⟩ := List.getElem_of_mem hm2
      have hp := List.pairwise_iff_getElem.1 h
      rcases Nat.lt_trichotomy i j with k | k | k
      · exact absurd (by rw [List.getElem_map, List.getElem_map, hn, hn2]) (hp i j (by simpa using hi) (by simpa using hj) k)
      · subst k; rfl
      · exact absurd (by rw [List.getElem_map, List.getElem_map, hn, hn2]) (hp j i (by simpa using hj) (by simpa using hi) k)
theorem check_rev {a : List ArgP} {vs : List ValP} (h : (vs.map ValP.name).Nodup) : checkP a vs.reverse = checkP a vs := by
  unfold checkP
  have key : ∀ (l : List ArgP) (k : Nat), chkP vs.reverse k l = chkP vs k l := by
    intro l
    induction l with
    | nil => intro k; rfl
    | cons x r ih => intro k; unfold chkP; rw [getV_rev h]; simp only [ih]
  rw [key]
end Go.Proofs.YtpfmojeigjmlfaaGreatDoor
namespace Go.Proofs.YtpfmojeigjmlfaaGreatDoor
open Go.RowKit Go.Maps Go.Sort Go.WideMaps
set_option linter.unusedSimpArgs false
set_option linter.unusedVariables false

/-! A map from strings to numbers. -/
section
variable {P : Program} {k e t : TypeId} {w w' : World} {b n : Nat} {m : List ArgP}

/-- Block b is a map of at most n entries: it answers as the list m, where what stands ahead counts. -/
def MapI (P : Program) (k e : TypeId) (w : World) (b n : Nat) (m : List ArgP) : Prop :=
  ∃ D : DataW Unit, w.ownsMap P k (plainElem P e) b n D ∧ (∀ x, D.atKey (.string x) (.lit (.int .i64 0)) = .lit (.int .i64 ((getA m x).getD 0))) ∧ (∀ x, Maps.has D (.string x) = (getA m x).isSome)

theorem MapI.lt (h : MapI P k e w b n m) : b < w.heap.size := by obtain ⟨D, h, _⟩ := h; exact h.lt
theorem MapI.below {B : Nat} (h : MapI P k e w b n m) (hw : Below B w w') (hb : b < B) : MapI P k e w' b n m := by
  obtain ⟨D, ⟨es, clock, hh, r⟩, h2⟩ := h
  exact ⟨D, ⟨es, clock, (Below.block hw b hb).trans hh, r⟩, h2⟩
theorem MapI.ext (h : MapI P k e w b n m) (hw : Ext w w') : MapI P k e w' b n m := h.below hw h.lt
theorem MapI.kept {row : Option Nat} (h : MapI P k e w b n m) (hg : w.grownBy w' row) (hne : some b ≠ row) : MapI P k e w' b n m := by
  obtain ⟨D, h, r⟩ := h
  exact ⟨D, h.kept hg hne, r⟩
theorem MapI.alloc (h : MapI P k e w b n m) (o : Obj) : MapI P k e (w.alloc o) b n m := by
  obtain ⟨D, h, r⟩ := h
  exact ⟨D, h.alloc o, r⟩
theorem MapI.setCell (h : MapI P k e w b n m) {a : Addr} (ha : b ≠ a.block) (u : Value) : MapI P k e (w.setCell a u) b n m := by
  obtain ⟨D, h, r⟩ := h
  exact ⟨D, h.setCell ha u, r⟩
theorem MapI.mono {j : Nat} (h : MapI P k e w b n m) (hm : n ≤ j) : MapI P k e w b j m := by
  obtain ⟨D, h, r⟩ := h
  exact ⟨D, h.mono hm, r⟩
theorem MapI.made (P : Program) (k e : TypeId) (w : World) : MapI P k e (w.alloc (.map #[] 0)) w.heap.size 0 [] :=
  ⟨.map [], World.ownsMap_made w P k _, fun x => by simp [DataW.atKey, getA], fun x => by simp [Maps.has, getA]⟩
theorem MapI.lookup (h : MapI P k e w b n m) (hk : P.underlying k = some .string) (he : P.underlying e = some (.int .i64)) (ht : P.underlying t = some (.map k e)) (hz : (zeroValue e).run P w = .ok (.int .i64 0) w)
    (s : ByteArray) (hs : s.size ≤ maxLen) : (Instr.lookup t (.map (some b)) (.string s) false).run P w = .ok (.int .i64 ((getA m s.data.toList).getD 0)) w := by
  obtain ⟨D, h, h1, _⟩ := h
  obtain ⟨c, hrun, hat, _⟩ := h.lookup_int (string_keyed hk) ht he hz (keyOf_string_mk hk hs)
  rw [h1] at hat
  injection hat with hat
  injection hat with _ hat
  rw [hat]
  exact hrun
theorem MapI.lookup_ok (h : MapI P k e w b n m) (hk : P.underlying k = some .string) (he : P.underlying e = some (.int .i64)) (ht : P.underlying t = some (.map k e)) (hz : (zeroValue e).run P w = .ok (.int .i64 0) w)
    (s : ByteArray) (hs : s.size ≤ maxLen) : (Instr.lookup t (.map (some b)) (.string s) true).run P w = .ok (.tuple #[.int .i64 ((getA m s.data.toList).getD 0), .bool (getA m s.data.toList).isSome]) w := by
  obtain ⟨D, h, h1, h2⟩ := h
  obtain ⟨v, ps, hrun, hv⟩ := h.look_ok (string_keyed hk) ht hz (plainElem_int he (by decide)) (keyOf_string_mk hk hs)
  rw [h1] at hv
  obtain ⟨c, rfl, hc, _⟩ := plainElem_int_inv he hv
  injection hc with hc _
  injection hc with hc
  injection hc with _ hc
  rw [← hc, h2] at hrun
  exact hrun
theorem MapI.update (h : MapI P k e w b n m) (hk : P.underlying k = some .string) (he : P.underlying e = some (.int .i64)) (ht : P.underlying t = some (.map k e)) (hn : n < maxLen)
    (s : ByteArray) (hs : s.size ≤ maxLen) (c : Int) (hc : (Lit.int .i64 c).wf = true) : ∃ w', (Instr.mapUpdate t (.map (some b)) (.string s) (.int .i64 c)).run P w = .ok () w' ∧ MapI P k e w' b (n + 1) ((s.data.toList, c) :: m) ∧ w.grownBy w' (some b) := by
  obtain ⟨D, h, h1, h2⟩ := h
  obtain ⟨w', hrun, h3, h4⟩ := h.update (string_keyed hk) ht hn (keyOf_string_mk hk hs) (plainElem_int he hc)
  refine ⟨w', hrun, ⟨_, h3, fun x => ?_, fun x => ?_⟩, h4⟩
  · by_cases hx : x = s.data.toList
    · subst hx
      rw [Maps.atKey_put_same h.isMap (by simp [WideAt.IsKeyLit])]
      simp [getA]
    · rw [Maps.atKey_put_other (by simpa using hx), h1]
      rw [getA, if_neg fun q => hx q.symm]
  · by_cases hx : x = s.data.toList
    · subst hx
      rw [Maps.has_put_same h.isMap (by simp [WideAt.IsKeyLit])]
      simp [getA]
    · rw [Maps.has_put_other (by simpa using hx), h2]
      rw [getA, if_neg fun q => hx q.symm]
/-- The keys, in whatever order. -/
theorem MapI.keys (h : MapI P k e w b n m) (hk : P.underlying k = some .string) : ∃ D : DataW Unit, w.ownsMap P k (plainElem P e) b n D ∧ Maps.size D ≤ n ∧ (strKeys D).Nodup ∧ (strKeys D).length = Maps.size D ∧ ∀ x, x ∈ strKeys D ↔ (getA m x).isSome = true := by
  obtain ⟨D, h, _, h2⟩ := h
  refine ⟨D, h, h.size_le, ?_⟩
  obtain ⟨es, hD, hpw, _⟩ := h.entries (string_keyed hk)
  obtain ⟨es', hD', hko⟩ := h.keysOf
  obtain rfl : es = es' := by rw [hD] at hD'; simpa using hD'
  subst hD
  have hstr : ∀ p ∈ es, ∃ x, p.1 = .string x := fun p hp => by
    obtain ⟨v, hv⟩ := hko p hp
    obtain ⟨x, _, hx, _⟩ := Maps.keyOf_str hk hv
    exact ⟨x, hx⟩
  have hnd : (strKeys (.map es : DataW Unit)).Nodup := by
    show (es.map fun p => strOf p.1).Nodup
    refine List.pairwise_map.2 (hpw.imp_of_mem fun {p q} hp' hq' hne e => hne ?_)
    obtain ⟨a, ha⟩ := hstr p hp'
    obtain ⟨b, hb⟩ := hstr q hq'
    rw [ha, hb] at e ⊢
    exact congrArg _ e
  refine ⟨hnd, by show (es.map fun p => strOf p.1).length = es.length; simp, fun x => ?_⟩
  have h3 := h2 x
  rw [Maps.has_eq] at h3
  constructor
  · intro hx
    obtain ⟨p, hp, hpx⟩ := List.mem_map.1 (show x ∈ es.map fun p => strOf p.1 from hx)
    obtain ⟨a, ha⟩ := hstr p hp
    have : (es.any fun p => p.1.sameKey (.string x)) = true := List.any_eq_true.2 ⟨p, hp, by rw [ha] at hpx ⊢; simpa [Lit.sameKey, strOf] using hpx⟩
    rw [this] at h3
    exact h3.symm
  · intro hx
    have : (es.any fun p => p.1.sameKey (.string x)) = true := by rw [h3]; exact hx
    obtain ⟨p, hp, hs⟩ := List.any_eq_true.1 this
    obtain ⟨a, ha⟩ := hstr p hp
    refine List.mem_map.2 ⟨p, hp, ?_⟩
    rw [ha] at hs ⊢
    simpa [Lit.sameKey, strOf] using hs

/-- The operations, for the walk. -/
theorem wpList_lookupI {w : World} {ops : Array Oper} {rest : List Oper} {o : Oper} {a : Act} {Q : Exit → Act → World → Prop} (hg : o.guard = none) (m x : Operand) (t k e : TypeId) (hop : o.op = Op.lookup t m x false)
    (hk : P.underlying k = some .string) (he : P.underlying e = some (.int .i64)) (ht : P.underlying t = some (.map k e)) (hz : (zeroValue e).run P w = .ok (.int .i64 0) w) (b n : Nat) (l : List ArgP)
    (hm : a.eval m = .map (some b)) (h : MapI P k e w b n l) (s : ByteArray) (hx : a.eval x = .string s) (hs : s.size ≤ maxLen)
    (hK : wpList P ops Q rest (a.put o.dst (.int .i64 ((getA l s.data.toList).getD 0))) w) : wpList P ops Q (o :: rest) a w := by
  refine wpList_plain hg fun K' hK' => ?_
  have hrun := h.lookup hk he ht hz s hs
  generalize (getA l s.data.toList).getD 0 = B at hrun hK
  unfold Oper.wp
  simp [execOp, hop, hm, hx, hrun, Result.andThen]
  exact hK' _ _ hK
theorem wpList_lookupIok {w : World} {ops : Array Oper} {rest : List Oper} {o : Oper} {a : Act} {Q : Exit → Act → World → Prop} (hg : o.guard = none) (m x : Operand) (t k e : TypeId) (hop : o.op = Op.lookup t m x true)
    (hk : P.underlying k = some .string) (he : P.underlying e = some (.int .i64)) (ht : P.underlying t = some (.map k e)) (hz : (zeroValue e).run P w = .ok (.int .i64 0) w) (b n : Nat) (l : List ArgP)
    (hm : a.eval m = .map (some b)) (h : MapI P k e w b n l) (s : ByteArray) (hx : a.eval x = .string s) (hs : s.size ≤ maxLen) (c : Int) (f : Bool) (hc : (getA l s.data.toList).getD 0 = c) (hf : (getA l s.data.toList).isSome = f)
    (hK : wpList P ops Q rest (a.put o.dst (.tuple #[.int .i64 c, .bool f])) w) : wpList P ops Q (o :: rest) a w := by
  refine wpList_plain hg fun K' hK' => ?_
  have hrun := h.lookup_ok hk he ht hz s hs
  rw [hc, hf] at hrun
  unfold Oper.wp
  simp [execOp, hop, hm, hx, hrun, Result.andThen]
  exact hK' _ _ hK
theorem wpList_mapUpdateI {w : World} {ops : Array Oper} {rest : List Oper} {o : Oper} {a : Act} {Q : Exit → Act → World → Prop} (hg : o.guard = none) (m x v : Operand) (t k e : TypeId) (hop : o.op = Op.mapUpdate t m x v)
    (hk : P.underlying k = some .string) (he : P.underlying e = some (.int .i64)) (ht : P.underlying t = some (.map k e)) (b n : Nat) (l : List ArgP)
    (hm : a.eval m = .map (some b)) (h : MapI P k e w b n l) (hn : n < maxLen) (s : ByteArray) (hx : a.eval x = .string s) (c : Int) (hv : a.eval v = .int .i64 c) (hs : s.size ≤ maxLen) (hc : (Lit.int .i64 c).wf = true)
    (hK : ∀ w', MapI P k e w' b (n + 1) ((s.data.toList, c) :: l) → w.grownBy w' (some b) → wpList P ops Q rest (a.put o.dst undef) w') : wpList P ops Q (o :: rest) a w := by
  refine wpList_plain hg fun K' hK' => ?_
  obtain ⟨w', hrun, r1, r2⟩ := h.update hk he ht hn s hs c hc
  unfold Oper.wp
  simp [execOp, hop, hm, hx, hv, hrun, Result.andThen]
  exact hK' _ _ (hK w' r1 r2)
end

/-! The table of a signature: what adding a use does, in plain words. -/
structure TabP where
  m : List ArgP
  wrong : Bool
def addT (t : TabP) (x : ArgP) : TabP := match getA t.m x.1 with
  | none => ⟨x :: t.m, t.wrong⟩
  | some s => ⟨(x.1, (comA s x.2).1) :: t.m, t.wrong || !(comA s x.2).2⟩
end Go.Proofs.YtpfmojeigjmlfaaGreatDoor
