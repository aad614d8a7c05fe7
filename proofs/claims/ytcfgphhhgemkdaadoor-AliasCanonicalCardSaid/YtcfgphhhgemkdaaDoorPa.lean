import Derived.Test.YtcfgphhhgemkdaaDoorPl3
namespace Go.Proofs.YtcfgphhhgemkdaaDoor
set_option linter.unusedSimpArgs false
set_option linter.unusedVariables false

/-! Aliases, in plain words: a rule, what it fits, what it makes. -/
structure RuleP where
  f : TagP
  o : TagP
def fitsP (r : RuleP) (t : TagP) : Bool :=
  r.f.vars.all (fun v => t.vars.contains v) && (r.f.lang == undP || r.f.lang == t.lang) && (r.f.script == [] || r.f.script == t.script) && (r.f.region == [] || r.f.region == t.region)
def fieldP (f o t : List UInt8) : List UInt8 := if f != [] || t == [] then o else t
def varsP (f o t : List (List UInt8)) : List (List UInt8) := sortS ((t.filter fun v => !f.contains v && !o.contains v) ++ o)
def replP (r : RuleP) (t : TagP) : TagP :=
  ⟨if r.f.lang == undP && r.o.lang == undP then t.lang else r.o.lang, fieldP r.f.script r.o.script t.script, fieldP r.f.region r.o.region t.region, varsP r.f.vars r.o.vars t.vars⟩
def eqT (t u : TagP) : Bool := t.lang == u.lang && t.script == u.script && t.region == u.region && t.vars == u.vars
theorem eqT_iff (t u : TagP) : eqT t u = true ↔ t = u := by
  obtain ⟨a, b, c, d⟩ := t
  obtain ⟨a', b', c', d'⟩ := u
  simp [eqT, and_assoc]
/-- The tag behind a step. -/
def stepP : List RuleP → TagP → Option TagP
  | [], _ => none
  | r :: l, t => if fitsP r t && !eqT (replP r t) t then some (replP r t) else stepP l t
/-- The steps from a tag on: at most k further ones. -/
def stepsP (lim cyc : Int) (l : List RuleP) : Nat → TagP → List TagP × Int
  | k, t => match stepP l t with
    | none => ([t], 0)
    | some u => if 4 < u.vars.length then ([], lim) else match k with
      | 0 => ([], cyc)
      | k + 1 => if (stepsP lim cyc l k u).2 = 0 then (t :: (stepsP lim cyc l k u).1, 0) else ([], (stepsP lim cyc l k u).2)

def okR (r : RuleP) : Prop := validP r.f = true ∧ validP r.o = true

theorem valid_parts {t : TagP} (h : validP t = true) : langB t.lang = true ∧ (t.script = [] ∨ scriptB t.script = true) ∧ (t.region = [] ∨ regionB t.region = true) ∧ (∀ v ∈ t.vars, variantB v = true) ∧ Srt t.vars ∧ t.vars.Nodup ∧ t.vars.length ≤ 4 := by
  simp only [validP, Bool.and_eq_true, Bool.or_eq_true, decide_eq_true_eq, beq_iff_eq] at h
  obtain ⟨⟨⟨⟨⟨v1, v2⟩, v3⟩, v4⟩, v5⟩, v6⟩ := h
  obtain ⟨h1, h2⟩ := (incB_iff _).1 v5
  exact ⟨v1, v2, v3, List.all_eq_true.1 v4, h1, h2, v6⟩
theorem valid_of {t : TagP} (h1 : langB t.lang = true) (h2 : t.script = [] ∨ scriptB t.script = true) (h3 : t.region = [] ∨ regionB t.region = true) (h4 : ∀ v ∈ t.vars, variantB v = true) (h5 : Srt t.vars) (h6 : t.vars.Nodup) (h7 : t.vars.length ≤ 4) : validP t = true := by
  simp only [validP, Bool.and_eq_true, Bool.or_eq_true, decide_eq_true_eq, beq_iff_eq]
  exact ⟨⟨⟨⟨⟨h1, h2⟩, h3⟩, List.all_eq_true.2 h4⟩, (incB_iff _).2 ⟨h5, h6⟩⟩, h7⟩

theorem varsP_mem (f o t : List (List UInt8)) (v : List UInt8) : v ∈ varsP f o t ↔ (v ∈ t ∧ v ∉ f) ∨ v ∈ o := by
  unfold varsP
  rw [(sortS_perm _).mem_iff, List.mem_append, List.mem_filter]
  simp only [Bool.and_eq_true, Bool.not_eq_true', List.contains_eq_mem, decide_eq_false_iff_not]
  constructor
  · rintro (⟨h1, h2, h3⟩ | h)
    · exact .inl ⟨h1, h2⟩
    · exact .inr h
  · rintro (⟨h1, h2⟩ | h)
    · by_cases ho : v ∈ o
      · exact .inr ho
      · exact .inl ⟨h1, h2, ho⟩
    · exact .inr h
theorem varsP_nodup {f o t : List (List UInt8)} (ho : o.Nodup) (ht : t.Nodup) : (varsP f o t).Nodup := by
  unfold varsP
  rw [(sortS_perm _).nodup_iff, List.nodup_append]
  refine ⟨ht.filter _, ho, fun a ha b hb => ?_⟩
  rintro rfl
  rw [List.mem_filter] at ha
  simp only [Bool.and_eq_true, Bool.not_eq_true', List.contains_eq_mem, decide_eq_false_iff_not] at ha
  exact ha.2.2 hb
/-- A sorted list without repetitions that has the members is the list. -/
theorem varsP_of {f o t ks : List (List UInt8)} (ho : o.Nodup) (ht : t.Nodup) (hk : ks.Nodup) (h : ∀ v, v ∈ ks ↔ (v ∈ t ∧ v ∉ f) ∨ v ∈ o) : sortS ks = varsP f o t := by
  refine srt_unique (sortS_srt _) (sortS_srt _) ?_
  refine (sortS_perm _).trans (List.Perm.trans ?_ (sortS_perm _).symm)
  refine (List.perm_ext_iff_of_nodup hk ?_).2 fun v => ?_
  · have := varsP_nodup (f := f) ho ht
    unfold varsP at this
    rwa [(sortS_perm _).nodup_iff] at this
  · have := varsP_mem f o t v
    unfold varsP at this
    rw [(sortS_perm _).mem_iff] at this
    rw [this]
    exact h v
theorem varsP_len (f o t : List (List UInt8)) : (varsP f o t).length ≤ t.length + o.length := by
  unfold varsP
  rw [sortS_len, List.length_append]
  have := List.length_filter_le (fun v => !f.contains v && !o.contains v) t
  omega

theorem fieldP_or {P : List UInt8 → Prop} {f o t : List UInt8} (ho : P o) (ht : P t) : P (fieldP f o t) := by
  unfold fieldP
  split
  · exact ho
  · exact ht
/-- What a rule makes is a valid tag, but for the number of variants. -/
theorem repl_valid {r : RuleP} {t : TagP} (hr : okR r) (ht : validP t = true) (h4 : (replP r t).vars.length ≤ 4) : validP (replP r t) = true := by
  obtain ⟨a1, a2, a3, a4, a5, a6, a7⟩ := valid_parts ht
  obtain ⟨b1, b2, b3, b4, b5, b6, b7⟩ := valid_parts hr.2
  refine valid_of ?_ (fieldP_or (P := fun x => x = [] ∨ scriptB x = true) b2 a2) (fieldP_or (P := fun x => x = [] ∨ regionB x = true) b3 a3) ?_ (sortS_srt _) (varsP_nodup b6 a6) h4
  · unfold replP
    simp only
    split
    · exact a1
    · exact b1
  · intro v hv
    rcases (varsP_mem _ _ _ v).1 hv with ⟨h, _⟩ | h
    · exact a4 v h
    · exact b4 v h
theorem repl_len {r : RuleP} {t : TagP} (hr : okR r) (ht : validP t = true) : (replP r t).vars.length ≤ 8 := by
  have := varsP_len r.f.vars r.o.vars t.vars
  have h1 := (valid_parts ht).2.2.2.2.2.2
  have h2 := (valid_parts hr.2).2.2.2.2.2.2
  show (varsP _ _ _).length ≤ 8
  omega

theorem stepP_some {l : List RuleP} {t u : TagP} (h : stepP l t = some u) : ∃ r ∈ l, fitsP r t = true ∧ u = replP r t ∧ u ≠ t := by
  induction l with
  | nil => cases h
  | cons r l ih =>
    unfold stepP at h
    split at h
    · rename_i hc
      simp only [Bool.and_eq_true, Bool.not_eq_true'] at hc
      injection h with h
      refine ⟨r, by simp, hc.1, h.symm, ?_⟩
      subst h
      intro e
      rw [(eqT_iff _ _).2 e] at hc
      exact absurd hc.2 (by simp)
    · obtain ⟨r', h1, h2⟩ := ih h
      exact ⟨r', by simp [h1], h2⟩
theorem stepP_none {l : List RuleP} {t : TagP} (h : stepP l t = none) : ∀ r ∈ l, fitsP r t = true → replP r t = t := by
  induction l with
  | nil => simp
  | cons r l ih =>
    unfold stepP at h
    split at h
    · cases h
    · rename_i hc
      intro r' hr' hf
      rcases List.mem_cons.1 hr' with rfl | hr'
      · refine Classical.byContradiction fun hn => hc ?_
        rw [hf]
        have : eqT (replP r' t) t = false := by
          rw [← Bool.not_eq_true, eqT_iff]
          exact hn
        rw [this]
        rfl
      · exact ih h r' hr' hf
theorem stepP_app (l m : List RuleP) (t : TagP) : stepP (l ++ m) t = match stepP l t with
    | some u => some u
    | none => stepP m t := by
  induction l with
  | nil => rfl
  | cons r l ih =>
    rw [List.cons_append, stepP, stepP]
    split
    · rfl
    · exact ih
theorem stepP_valid {l : List RuleP} {t u : TagP} (hl : ∀ r ∈ l, okR r) (ht : validP t = true) (h : stepP l t = some u) (h4 : ¬ 4 < u.vars.length) : validP u = true := by
  obtain ⟨r, hr, _, rfl, _⟩ := stepP_some h
  exact repl_valid (hl r hr) ht (by omega)
theorem stepP_len {l : List RuleP} {t u : TagP} (hl : ∀ r ∈ l, okR r) (ht : validP t = true) (h : stepP l t = some u) : u.vars.length ≤ 8 := by
  obtain ⟨r, hr, _, rfl, _⟩ := stepP_some h
  exact repl_len (hl r hr) ht
end Go.Proofs.YtcfgphhhgemkdaaDoor
