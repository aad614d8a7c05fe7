import Derived.Test.YtblkpgglkhmggaaGreatDoorSa
namespace Go.Proofs.YtblkpgglkhmggaaGreatDoor
set_option linter.unusedSimpArgs false
set_option linter.unusedVariables false

/-! What merging does. -/
theorem sig_ok {l : List ArgP} (h : validA l = true) : (∀ x ∈ l, nameB x.1 = true ∧ knownB x.2 = true) ∧ (l.Pairwise fun x y => x.1 < y.1) ∧ l.length ≤ 20 := by
  unfold validA at h
  simp only [Bool.and_eq_true, decide_eq_true_eq] at h
  refine ⟨fun x hx => ?_, asc_pair.1 h.1.2, h.2⟩
  have := List.all_eq_true.1 h.1.1 x hx
  unfold argB at this
  simpa using this
theorem sig_of {l : List ArgP} (h1 : ∀ x ∈ l, nameB x.1 = true ∧ knownB x.2 = true) (h2 : l.Pairwise fun x y => x.1 < y.1) (h3 : l.length ≤ 20) : validA l = true := by
  unfold validA
  simp only [Bool.and_eq_true, decide_eq_true_eq]
  refine ⟨⟨List.all_eq_true.2 fun x hx => ?_, asc_pair.2 h2⟩, h3⟩
  unfold argB
  simpa using h1 x hx
def fitO (a b : List ArgP) : Prop := ∀ n s t, getA a n = some s → getA b n = some t → (comA s t).2 = true
theorem fit_comm {a b : List ArgP} : fitO a b ↔ fitO b a := by
  constructor <;> intro h n s t hs ht <;> (rw [com_comm]; exact h n t s ht hs)
theorem join_comm (a b : Option Int) : joinO a b = joinO b a := by
  cases a <;> cases b <;> simp [joinO, com_comm]
theorem fold_comm {a b : List ArgP} (ha : a.Pairwise fun x y => x.1 < y.1) (hb : b.Pairwise fun x y => x.1 < y.1) : foldA a b = foldA b a := by
  obtain ⟨h1, h2⟩ := fold_spec ha hb
  obtain ⟨k1, k2⟩ := fold_spec hb ha
  by_cases h : fitO a b
  · obtain ⟨o, e1, e2, e3⟩ := h1 h
    obtain ⟨p, f1, f2, f3⟩ := k1 (fit_comm.1 h)
    rw [e1, f1]
    congr 1
    exact asc_ext e2 f2 fun n => by rw [e3, f3, join_comm]
  · rw [h2 h, k2 fun k => h (fit_comm.1 k)]
/-- Merging is commutative. -/
theorem merge_comm (a b : List ArgP) : mergeA a b = mergeA b a := by
  unfold mergeA
  rw [Bool.and_comm]
  by_cases h : (validA b && validA a) = true
  · rw [if_pos h, if_pos h]
    obtain ⟨h1, h2⟩ := Bool.and_eq_true_iff.1 h
    rw [fold_comm (sig_ok h2).2.1 (sig_ok h1).2.1]
  · rw [if_neg h, if_neg h]
theorem get_known {l : List ArgP} (h : validA l = true) {n : By} {t : Int} (hg : getA l n = some t) : knownB t = true := ((sig_ok h).1 _ (get_mem hg)).2
/-- Merging with itself changes nothing. -/
theorem merge_self {a : List ArgP} (h : validA a = true) : mergeA a a = (a, 0) := by
  unfold mergeA
  rw [if_pos (by rw [h]; rfl)]
  obtain ⟨h1, h2, h3⟩ := sig_ok h
  have hf : fitO a a := fun n s t hs ht => by
    rw [hs] at ht; injection ht with ht; subst ht
    rw [com_self (get_known h hs)]
  obtain ⟨o, e1, e2, e3⟩ := (fold_spec h2 h2).1 hf
  have : o = a := asc_ext e2 h2 fun n => by
    rw [e3]
    cases hg : getA a n with
    | none => rfl
    | some t => simp only [joinO, com_self (get_known h hg)]
  subst this
  rw [e1]
  exact if_pos h3
theorem merge_nil {a : List ArgP} (h : validA a = true) : mergeA [] a = (a, 0) := by
  unfold mergeA
  rw [if_pos (by rw [h]; decide)]
  obtain ⟨h1, h2, h3⟩ := sig_ok h
  obtain ⟨o, e1, e2, e3⟩ := (fold_spec (a := []) (by simp) h2).1 (fun n s t hs _ => by simp [getA] at hs)
  have : o = a := asc_ext e2 h2 fun n => by
    rw [e3]
    cases hg : getA a n <;> simp [getA, joinO, hg]
  subst this
  rw [e1]
  exact if_pos h3
/-- What a merge that went well has. -/
theorem merge_ok {a b : List ArgP} (h : (mergeA a b).2 = 0) : validA a = true ∧ validA b = true ∧ fitO a b ∧ ((mergeA a b).1.Pairwise fun x y => x.1 < y.1) ∧ (∀ n, getA (mergeA a b).1 n = joinO (getA a n) (getA b n)) ∧ validA (mergeA a b).1 = true := by
  unfold mergeA at h ⊢
  by_cases hv : (validA a && validA b) = true
  · rw [if_pos hv] at h ⊢
    obtain ⟨v1, v2⟩ := Bool.and_eq_true_iff.1 hv
    obtain ⟨h1, h2⟩ := fold_spec (sig_ok v1).2.1 (sig_ok v2).2.1
    by_cases hf : fitO a b
    · obtain ⟨o, e1, e2, e3⟩ := h1 hf
      rw [e1] at h ⊢
      simp only at h ⊢
      by_cases hl : o.length ≤ 20
      · rw [if_pos hl] at h ⊢
        refine ⟨v1, v2, hf, e2, e3, sig_of (fun x hx => ?_) e2 hl⟩
        have hg := mem_get e2 hx
        rw [e3] at hg
        cases ga : getA a x.1 with
        | none =>
          cases gb : getA b x.1 with
          | none => rw [ga, gb] at hg; cases hg
          | some t =>
            rw [ga, gb] at hg
            simp only [joinO] at hg
            injection hg with hg
            exact ⟨((sig_ok v2).1 _ (get_mem gb)).1, by rw [← hg]; exact get_known v2 gb⟩
        | some s =>
          cases gb : getA b x.1 with
          | none =>
            rw [ga, gb] at hg
            simp only [joinO] at hg
            injection hg with hg
            exact ⟨((sig_ok v1).1 _ (get_mem ga)).1, by rw [← hg]; exact get_known v1 ga⟩
          | some t =>
            rw [ga, gb] at hg
            simp only [joinO] at hg
            injection hg with hg
            exact ⟨((sig_ok v1).1 _ (get_mem ga)).1, by rw [← hg]; exact (com_known (hf _ _ _ ga gb)).2.2.1⟩
      · rw [if_neg hl] at h; cases h
    · rw [h2 hf] at h; cases h
  · rw [if_neg hv] at h; cases h
theorem has_iff {a : List ArgP} (ha : a.Pairwise fun x y => x.1 < y.1) {y : ArgP} : hasA a y = true ↔ ∃ s, getA a y.1 = some s ∧ accB s y.2 = true := by
  unfold hasA
  rw [List.any_eq_true]
  constructor
  · rintro ⟨x, hx, h⟩
    simp only [Bool.and_eq_true, beq_iff_eq] at h
    exact ⟨x.2, by rw [← h.1]; exact mem_get ha hx, h.2⟩
  · rintro ⟨s, h1, h2⟩
    exact ⟨_, get_mem h1, by simp [h2]⟩
theorem acc_self (a : Int) : accB a a = true := by unfold accB; simp
/-- A merge covers its first part. -/
theorem merge_covers {a b : List ArgP} (h : (mergeA a b).2 = 0) : coversA (mergeA a b).1 a = true := by
  obtain ⟨v1, v2, hf, h4, h5, h6⟩ := merge_ok h
  unfold coversA
  rw [h6, v1]
  simp only [Bool.true_and]
  rw [List.all_eq_true]
  intro y hy
  refine (has_iff h4).2 ?_
  have hg := mem_get (sig_ok v1).2.1 hy
  rw [h5, hg]
  cases gb : getA b y.1 with
  | none => exact ⟨_, rfl, acc_self _⟩
  | some t => exact ⟨_, rfl, com_acc (hf _ _ _ hg gb)⟩
theorem merge_covers2 {a b : List ArgP} (h : (mergeA a b).2 = 0) : coversA (mergeA a b).1 b = true := by
  rw [merge_comm] at h ⊢
  exact merge_covers h
theorem com_assoc {a b c : Int} (h1 : (comA a b).2 = true) (h2 : (comA b c).2 = true) (h3 : (comA (comA a b).1 c).2 = true) (h4 : (comA a (comA b c).1).2 = true) : (comA (comA a b).1 c).1 = (comA a (comA b c).1).1 := by
  obtain ⟨_, _, _, e1, g1⟩ := com_known h1
  obtain ⟨_, _, _, e2, g2⟩ := com_known h2
  obtain ⟨_, _, _, e3, g3⟩ := com_known h3
  obtain ⟨_, _, _, e4, g4⟩ := com_known h4
  have red : ∀ x y : Int, (if x = y then x else if x = 0 then y else x) = if x = 0 then y else x := by
    intro x y
    by_cases h : x = y
    · subst h; simp
    · rw [if_neg h]
  rw [red] at e1 e2 e3 e4
  rw [e3, e4, e1, e2]
  by_cases q1 : a = 0
  · rw [if_pos q1, if_pos q1]
  · rw [if_neg q1, if_neg q1, if_neg q1]
/-- Merging is associative where all of it goes well. -/
theorem merge_assoc {a b c : List ArgP} (h1 : (mergeA a b).2 = 0) (h2 : (mergeA b c).2 = 0) (h3 : (mergeA (mergeA a b).1 c).2 = 0) (h4 : (mergeA a (mergeA b c).1).2 = 0) : (mergeA (mergeA a b).1 c).1 = (mergeA a (mergeA b c).1).1 := by
  obtain ⟨_, _, f1, _, g1, _⟩ := merge_ok h1
  obtain ⟨_, _, f2, _, g2, _⟩ := merge_ok h2
  obtain ⟨_, _, f3, p3, g3, _⟩ := merge_ok h3
  obtain ⟨_, _, f4, p4, g4, _⟩ := merge_ok h4
  refine asc_ext p3 p4 fun n => ?_
  rw [g3, g4, g1, g2]
  cases ga : getA a n with
  | none => cases gb : getA b n <;> cases gc : getA c n <;> rfl
  | some s =>
    cases gb : getA b n with
    | none => cases gc : getA c n <;> rfl
    | some t =>
      cases gc : getA c n with
      | none => rfl
      | some u =>
        simp only [joinO]
        congr 1
        have k1 := f1 n s t ga gb
        have k2 := f2 n t u gb gc
        refine com_assoc k1 k2 (f3 n _ u (by rw [g1, ga, gb]; rfl) gc) (f4 n s _ ga (by rw [g2, gb, gc]; rfl))

/-! Values and their checks. -/
structure ValP where
  name : By
  ty : Int
  ok : Bool
def getV (l : List ValP) (n : By) : Option ValP := l.find? fun v => v.name == n
def fitsV (v : ValP) (t : Int) : Bool := v.ok && accB v.ty t
/-- The first argument that does not fit, and why. -/
def chkP (vs : List ValP) : Nat → List ArgP → Int × Int
  | _, [] => (0, 0)
  | k, x :: r => match getV vs x.1 with
    | none => ((k : Int), 12)
    | some v => if fitsV v x.2 = true then chkP vs (k + 1) r else ((k : Int), 11)
def checkP (a : List ArgP) (vs : List ValP) : Int × Int := if validA a = true then chkP vs 0 a else (0, 1)
theorem chk_ok {vs : List ValP} : ∀ {a : List ArgP} {k : Nat}, (chkP vs k a).2 = 0 ↔ ∀ x ∈ a, ∃ v, getV vs x.1 = some v ∧ fitsV v x.2 = true
  | [], k => by simp [chkP]
  | x :: r, k => by
    unfold chkP
    cases hg : getV vs x.1 with
    | none =>
      simp only [List.mem_cons, forall_eq_or_imp]
      constructor
      · intro h; cases h
      · rintro ⟨⟨v, hv, _⟩, _⟩; rw [hg] at hv; cases hv
    | some v =>
      simp only
      by_cases hf : fitsV v x.2 = true
      · rw [if_pos hf, chk_ok (a := r) (k := k + 1)]
        simp only [List.mem_cons, forall_eq_or_imp]
        exact ⟨fun h => ⟨⟨v, hg, hf⟩, h⟩, fun h => h.2⟩
      · rw [if_neg hf]
        simp only [List.mem_cons, forall_eq_or_imp]
        constructor
        · intro h; cases h
        · rintro ⟨⟨u, hu, hq⟩, _⟩
          rw [hg] at hu
          injection hu with hu
          subst hu
          exact absurd hq hf
theorem acc_trans {s t u : Int} (h1 : accB s t = true) (h2 : accB t u = true) : accB s u = true := by
  unfold accB at *
  simp only [Bool.or_eq_true, Bool.and_eq_true, Bool.not_eq_true', beq_iff_eq, beq_eq_false_iff_ne] at *
  rcases h1 with h1 | ⟨h1, h1'⟩
  · subst h1; exact h2
  · rcases h2 with h2 | ⟨h2, h2'⟩
    · subst h2; exact .inr ⟨h1, h1'⟩
    · exact .inr ⟨h2, h1'⟩
/-- Values that pass the check of a signature pass that of each one which it covers. -/
theorem check_covers {a b : List ArgP} {vs : List ValP} (h : (checkP a vs).2 = 0) (hc : coversA a b = true) : (checkP b vs).2 = 0 := by
  unfold coversA at hc
  simp only [Bool.and_eq_true] at hc
  obtain ⟨⟨v1, v2⟩, h3⟩ := hc
  unfold checkP at h ⊢
  rw [if_pos v1] at h
  rw [if_pos v2]
  have h4 := chk_ok.1 h
  refine chk_ok.2 fun y hy => ?_
  obtain ⟨s, hs, hacc⟩ := (has_iff (sig_ok v1).2.1).1 (List.all_eq_true.1 h3 y hy)
  obtain ⟨v, hv, hf⟩ := h4 _ (get_mem hs)
  refine ⟨v, hv, ?_⟩
  unfold fitsV at hf ⊢
  simp only [Bool.and_eq_true] at hf ⊢
  exact ⟨hf.1, acc_trans hf.2 hacc⟩
theorem getV_rev {vs : List ValP} (h : (vs.map ValP.name).Nodup) (n : By) : getV vs.reverse n = getV vs n := by
  unfold getV
  cases hg : vs.find? (fun v => v.name == n) with
  | none =>
    rw [List.find?_eq_none] at hg ⊢
    intro x hx
    exact hg x (List.mem_reverse.1 hx)
  | some v =>
    have hm := List.mem_of_find?_eq_some hg
    have hn := List.find?_some hg
    cases hr : vs.reverse.find? (fun v => v.name == n) with
    | none =>
      rw [List.find?_eq_none] at hr
      exact absurd hn (hr v (List.mem_reverse.2 hm))
    | some u =>
      have hm2 := List.mem_reverse.1 (List.mem_of_find?_eq_some hr)
      have hn2 := List.find?_some hr
      congr 1
      simp only [beq_iff_eq] at hn hn2
      obtain ⟨i, hi, rfl⟩ := List.getElem_of_mem hm
      obtain ⟨j, hj, rfl⟩ := List.getElem_of_mem hm2
      have hp := List.pairwise_iff_getElem.1 h
      rcases Nat.lt_trichotomy i j with k | k | k
      · exact absurd (by rw [List.getElem_map, List.getElem_map, hn, hn2]) (hp i j (by simpa using hi) (by simpa using hj) k)
      · subst k; rfl
      · exact absurd (by rw [List.getElem_map, List.getElem_map, hn, hn2]) (hp j i (by simpa using hj) (by simpa using hi) k)
theorem check_rev {a : List ArgP} {vs : List ValP} (h : (vs.map ValP.name).Nodup) : checkP a vs.reverse = checkP a vs := by
  unfold checkP
  have key : ∀ (l : List ArgP) (k : Nat), chkP vs.reverse k l = chkP vs k l := by
    intro l
    induction l with
    | nil => intro k; rfl
    | cons x r ih => intro k; unfold chkP; rw [getV_rev h]; simp only [ih]
  rw [key]
end Go.Proofs.YtblkpgglkhmggaaGreatDoor
