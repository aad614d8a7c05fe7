import Derived.Test.YtcfgphhhgemkdaaGreatDoorPl3
import Derived.Test.YtcfgphhhgemkdaaGreatDoorBase
import Derived.Maps.OwnOps
import Derived.Maps.OwnSet
import Derived.Sort.KeysCollected
import Derived.StringKeys
import Derived.Test.YtcfgphhhgemkdaaGreatDoorLawKit
import Derived.Test.YtcfgphhhgemkdaaGreatDoorStep
import Derived.Test.YtcfgphhhgemkdaaGreatDoorIs
import Derived.Test.YtcfgphhhgemkdaaGreatDoorTEq
import Derived.Test.YtcfgphhhgemkdaaGreatDoorREq
namespace Go.Proofs.YtcfgphhhgemkdaaGreatDoor
set_option linter.unusedSimpArgs false
set_option linter.unusedVariables false

/-! Aliases, in plain words: a rule, what it fits, what it makes. -/
structure RuleP where
  f : TagP
  o : TagP
def fitsP (r : RuleP) (t : TagP) : Bool :=
  r.f.vars.all (fun v => t.vars.contains v) && (r.f.lang == undP || r.f.lang == t.lang) && (r.f.script == [] || r.f.script == t.script) && (r.f.region == [] || r.f.region == t.region)
def fieldP (f o t : List UInt8) : List UInt8 := if f != [] || t == [] then o else t
def varsP (f o t : List (List UInt8)) : List (List UInt8) := sortS ((t.filter fun v => !f.contains v && !o.contains v) ++ o)
def replP (r : RuleP) (t : TagP) : TagP :=
  ⟨if r.f.lang == undP && r.o.lang == undP then t.lang else r.o.lang, fieldP r.f.script r.o.script t.script, fieldP r.f.region r.o.region t.region, varsP r.f.vars r.o.vars t.vars⟩
def eqT (t u : TagP) : Bool := t.lang == u.lang && t.script == u.script && t.region == u.region && t.vars == u.vars
theorem eqT_iff (t u : TagP) : eqT t u = true ↔ t = u := by
  obtain ⟨a, b, c, d⟩ := t
  obtain ⟨a', b', c', d'⟩ := u
  simp [eqT, and_assoc]
/-- The tag behind a step. -/
def stepP : List RuleP → TagP → Option TagP
  | [], _ => none
  | r :: l, t => if fitsP r t && !eqT (replP r t) t then some (replP r t) else stepP l t
/-- The steps from a tag on: at most k further ones. -/
def stepsP (lim cyc : Int) (l : List RuleP) : Nat → TagP → List TagP × Int
  | k, t => match stepP l t with
    | none => ([t], 0)
    | some u => if 4 < u.vars.length then ([], lim) else match k with
      | 0 => ([], cyc)
      | k + 1 => if (stepsP lim cyc l k u).2 = 0 then (t :: (stepsP lim cyc l k u).1, 0) else ([], (stepsP lim cyc l k u).2)

def okR (r : RuleP) : Prop := validP r.f = true ∧ validP r.o = true

theorem valid_parts {t : TagP} (h : validP t = true) : langB t.lang = true ∧ (t.script = [] ∨ scriptB t.script = true) ∧ (t.region = [] ∨ regionB t.region = true) ∧ (∀ v ∈ t.vars, variantB v = true) ∧ Srt t.vars ∧ t.vars.Nodup ∧ t.vars.length ≤ 4 := by
  simp only [validP, Bool.and_eq_true, Bool.or_eq_true, decide_eq_true_eq, beq_iff_eq] at h
  obtain ⟨⟨⟨⟨⟨v1, v2⟩, v3⟩, v4⟩, v5⟩, v6⟩ := h
  obtain ⟨h1, h2⟩ := (incB_iff _).1 v5
  exact ⟨v1, v2, v3, List.all_eq_true.1 v4, h1, h2, v6⟩
theorem valid_of {t : TagP} (h1 : langB t.lang = true) (h2 : t.script = [] ∨ scriptB t.script = true) (h3 : t.region = [] ∨ regionB t.region = true) (h4 : ∀ v ∈ t.vars, variantB v = true) (h5 : Srt t.vars) (h6 : t.vars.Nodup) (h7 : t.vars.length ≤ 4) : validP t = true := by
  simp only [validP, Bool.and_eq_true, Bool.or_eq_true, decide_eq_true_eq, beq_iff_eq]
  exact ⟨⟨⟨⟨⟨h1, h2⟩, h3⟩, List.all_eq_true.2 h4⟩, (incB_iff _).2 ⟨h5, h6⟩⟩, h7⟩

theorem varsP_mem (f o t : List (List UInt8)) (v : List UInt8) : v ∈ varsP f o t ↔ (v ∈ t ∧ v ∉ f) ∨ v ∈ o := by
  unfold varsP
  rw [(sortS_perm _).mem_iff, List.mem_append, List.mem_filter]
  simp only [Bool.and_eq_true, Bool.not_eq_true', List.contains_eq_mem, decide_eq_false_iff_not]
  constructor
  · rintro (⟨h1, h2, h3⟩ | h)
    · exact .inl ⟨h1, h2⟩
    · exact .inr h
  · rintro (⟨h1, h2⟩ | h)
    · by_cases ho : v ∈ o
      · exact .inr ho
      · exact .inl ⟨h1, h2, ho⟩
    · exact .inr h
theorem varsP_nodup {f o t : List (List UInt8)} (ho : o.Nodup) (ht : t.Nodup) : (varsP f o t).Nodup := by
  unfold varsP
  rw [(sortS_perm _).nodup_iff, List.nodup_append]
  refine ⟨ht.filter _, ho, fun a ha b hb => ?_⟩
  rintro rfl
  rw [List.mem_filter] at ha
  simp only [Bool.and_eq_true, Bool.not_eq_true', List.contains_eq_mem, decide_eq_false_iff_not] at ha
  exact ha.2.2 hb
/-- A sorted list without repetitions that has the members is the list. -/
theorem varsP_of {f o t ks : List (List UInt8)} (ho : o.Nodup) (ht : t.Nodup) (hk : ks.Nodup) (h : ∀ v, v ∈ ks ↔ (v ∈ t ∧ v ∉ f) ∨ v ∈ o) : sortS ks = varsP f o t := by
  refine srt_unique (sortS_srt _) (sortS_srt _) ?_
  refine (sortS_perm _).trans (List.Perm.trans ?_ (sortS_perm _).symm)
  refine (List.perm_ext_iff_of_nodup hk ?_).2 fun v => ?_
  · have := varsP_nodup (f := f) ho ht
    unfold varsP at this
    rwa [(sortS_perm _).nodup_iff] at this
  · have := varsP_mem f o t v
    unfold varsP at this
    rw [(sortS_perm _).mem_iff] at this
    rw [this]
    exact h v
theorem varsP_len (f o t : List (List UInt8)) : (varsP f o t).length ≤ t.length + o.length := by
  unfold varsP
  rw [sortS_len, List.length_append]
  have := List.length_filter_le (fun v => !f.contains v && !o.contains v) t
  omega

theorem fieldP_or {P : List UInt8 → Prop} {f o t : List UInt8} (ho : P o) (ht : P t) : P (fieldP f o t) := by
  unfold fieldP
  split
  · exact ho
  · exact ht
/-- What a rule makes is a valid tag, but for the number of variants. -/
theorem repl_valid {r : RuleP} {t : TagP} (hr : okR r) (ht : validP t = true) (h4 : (replP r t).vars.length ≤ 4) : validP (replP r t) = true := by
  obtain ⟨a1, a2, a3, a4, a5, a6, a7⟩ := valid_parts ht
  obtain ⟨b1, b2, b3, b4, b5, b6, b7⟩ := valid_parts hr.2
  refine valid_of ?_ (fieldP_or (P := fun x => x = [] ∨ scriptB x = true) b2 a2) (fieldP_or (P := fun x => x = [] ∨ regionB x = true) b3 a3) ?_ (sortS_srt _) (varsP_nodup b6 a6) h4
  · unfold replP
    simp only
    split
    · exact a1
    · exact b1
  · intro v hv
    rcases (varsP_mem _ _ _ v).1 hv with ⟨h, _⟩ | h
    · exact a4 v h
    · exact b4 v h
theorem repl_len {r : RuleP} {t : TagP} (hr : okR r) (ht : validP t = true) : (replP r t).vars.length ≤ 8 := by
  have := varsP_len r.f.vars r.o.vars t.vars
  have h1 := (valid_parts ht).2.2.2.2.2.2
  have h2 := (valid_parts hr.2).2.2.2.2.2.2
  show (varsP _ _ _).length ≤ 8
  omega

theorem stepP_some {l : List RuleP} {t u : TagP} (h : stepP l t = some u) : ∃ r ∈ l, fitsP r t = true ∧ u = replP r t ∧ u ≠ t := by
  induction l with
  | nil => cases h
  | cons r l ih =>
    unfold stepP at h
    split at h
    · rename_i hc
      simp only [Bool.and_eq_true, Bool.not_eq_true'] at hc
      injection h with h
      refine ⟨r, by simp, hc.1, h.symm, ?_⟩
      subst h
      intro e
      rw [(eqT_iff _ _).2 e] at hc
      exact absurd hc.2 (by simp)
    · obtain ⟨r', h1, h2⟩ := ih h
      exact ⟨r', by simp [h1], h2⟩
theorem stepP_none {l : List RuleP} {t : TagP} (h : stepP l t = none) : ∀ r ∈ l, fitsP r t = true → replP r t = t := by
  induction l with
  | nil => simp
  | cons r l ih =>
    unfold stepP at h
    split at h
    · cases h
    · rename_i hc
      intro r' hr' hf
      rcases List.mem_cons.1 hr' with rfl | hr'
      · refine Classical.byContradiction fun hn => hc ?_
        rw [hf]
        have : eqT (replP r' t) t = false := by
          rw [← Bool.not_eq_true, eqT_iff]
          exact hn
        rw [this]
        rfl
      · exact ih h r' hr' hf
theorem stepP_app (l m : List RuleP) (t : TagP) : stepP (l ++ m) t = match stepP l t with
    | some u => some u
    | none => stepP m t := by
  induction l with
  | nil => rfl
  | cons r l ih =>
    rw [List.cons_append, stepP, stepP]
    split
    · rfl
    · exact ih
theorem stepP_valid {l : List RuleP} {t u : TagP} (hl : ∀ r ∈ l, okR r) (ht : validP t = true) (h : stepP l t = some u) (h4 : ¬ 4 < u.vars.length) : validP u = true := by
  obtain ⟨r, hr, _, rfl, _⟩ := stepP_some h
  exact repl_valid (hl r hr) ht (by omega)
theorem stepP_len {l : List RuleP} {t u : TagP} (hl : ∀ r ∈ l, okR r) (ht : validP t = true) (h : stepP l t = some u) : u.vars.length ≤ 8 := by
  obtain ⟨r, hr, _, rfl, _⟩ := stepP_some h
  exact repl_len (hl r hr) ht
end Go.Proofs.YtcfgphhhgemkdaaGreatDoor
namespace Go.Proofs.YtcfgphhhgemkdaaGreatDoor
set_option linter.unusedSimpArgs false
set_option linter.unusedVariables false

/-! The steps of a tag. -/
section
variable {lim cyc : Int}
theorem steps_none {l : List RuleP} {k : Nat} {t : TagP} (h : stepP l t = none) : stepsP lim cyc l k t = ([t], 0) := by
  unfold stepsP
  rw [h]
theorem steps_many {l : List RuleP} {k : Nat} {t u : TagP} (h : stepP l t = some u) (h4 : 4 < u.vars.length) : stepsP lim cyc l k t = ([], lim) := by
  unfold stepsP
  rw [h]
  simp only
  rw [if_pos h4]
theorem steps_cyc {l : List RuleP} {t u : TagP} (h : stepP l t = some u) (h4 : ¬ 4 < u.vars.length) : stepsP lim cyc l 0 t = ([], cyc) := by
  unfold stepsP
  rw [h]
  simp only
  rw [if_neg h4]
theorem steps_go {l : List RuleP} {k : Nat} {t u : TagP} (h : stepP l t = some u) (h4 : ¬ 4 < u.vars.length) :
    stepsP lim cyc l (k + 1) t = if (stepsP lim cyc l k u).2 = 0 then (t :: (stepsP lim cyc l k u).1, 0) else ([], (stepsP lim cyc l k u).2) := by
  rw [stepsP, h]
  simp only
  rw [if_neg h4]
theorem steps_err (hl : lim ≠ 0) (hc : cyc ≠ 0) (l : List RuleP) : ∀ (k : Nat) (t : TagP), (stepsP lim cyc l k t).2 ≠ 0 → (stepsP lim cyc l k t).1 = [] := by
  intro k t h
  cases hs : stepP l t with
  | none => rw [steps_none hs] at h; exact absurd rfl h
  | some u =>
    by_cases h4 : 4 < u.vars.length
    · rw [steps_many hs h4]
    · cases k with
      | zero => rw [steps_cyc hs h4]
      | succ k =>
        rw [steps_go hs h4] at h ⊢
        split
        · rename_i h0; rw [if_pos h0] at h; exact absurd rfl h
        · rfl
/-- What holds of the steps that end well. -/
theorem steps_end (hlim : lim ≠ 0) (hcyc : cyc ≠ 0) {l : List RuleP} (hl : ∀ r ∈ l, okR r) : ∀ (k : Nat) (t : TagP), validP t = true → (stepsP lim cyc l k t).2 = 0 →
    ∃ xs e, (stepsP lim cyc l k t).1 = xs ++ [e] ∧ xs.length ≤ k ∧ validP e = true ∧ stepP l e = none ∧ (∀ x ∈ xs, validP x = true) ∧ (xs ++ [e]).head? = some t := by
  intro k
  induction k with
  | zero =>
    intro t ht h
    cases hs : stepP l t with
    | none => exact ⟨[], t, by rw [steps_none hs]; rfl, by simp, ht, hs, by simp, rfl⟩
    | some u =>
      by_cases h4 : 4 < u.vars.length
      · rw [steps_many hs h4] at h; exact absurd h hlim
      · rw [steps_cyc hs h4] at h; exact absurd h hcyc
  | succ k ih =>
    intro t ht h
    cases hs : stepP l t with
    | none => exact ⟨[], t, by rw [steps_none hs]; rfl, by simp, ht, hs, by simp, rfl⟩
    | some u =>
      by_cases h4 : 4 < u.vars.length
      · rw [steps_many hs h4] at h; exact absurd h hlim
      · rw [steps_go hs h4] at h ⊢
        by_cases h0 : (stepsP lim cyc l k u).2 = 0
        · rw [if_pos h0]
          obtain ⟨xs, e, h1, h2, h3, h5, h6, _⟩ := ih u (stepP_valid hl ht hs h4) h0
          refine ⟨t :: xs, e, by simp [h1], by simp; omega, h3, h5, ?_, rfl⟩
          intro x hx
          rcases List.mem_cons.1 hx with rfl | hx
          · exact ht
          · exact h6 x hx
        · rw [if_neg h0] at h; exact absurd h h0
theorem steps_ne (hlim : lim ≠ 0) (hcyc : cyc ≠ 0) {l : List RuleP} {k : Nat} {t : TagP} (h : (stepsP lim cyc l k t).2 = 0) : ∃ ys, (stepsP lim cyc l k t).1 = t :: ys := by
  cases hs : stepP l t with
  | none => exact ⟨[], by rw [steps_none hs]⟩
  | some u =>
    by_cases h4 : 4 < u.vars.length
    · rw [steps_many hs h4] at h; exact absurd h hlim
    · cases k with
      | zero => rw [steps_cyc hs h4] at h; exact absurd h hcyc
      | succ k =>
        rw [steps_go hs h4] at h ⊢
        by_cases h0 : (stepsP lim cyc l k u).2 = 0
        · rw [if_pos h0]; exact ⟨_, rfl⟩
        · rw [if_neg h0] at h; exact absurd h h0
/-- Further rules at the end: the steps begin with the old ones; they are the old ones where the further rules do nothing to the last step. -/
theorem steps_app (hlim : lim ≠ 0) (hcyc : cyc ≠ 0) {l m : List RuleP} : ∀ (k : Nat) (t e : TagP) (xs : List TagP), stepsP lim cyc l k t = (xs ++ [e], 0) →
    (stepP m e = none → stepsP lim cyc (l ++ m) k t = (xs ++ [e], 0)) ∧ (stepP m e ≠ none → (stepsP lim cyc (l ++ m) k t).2 = 0 → ∃ y ys, (stepsP lim cyc (l ++ m) k t).1 = xs ++ e :: y :: ys) := by
  intro k
  induction k with
  | zero =>
    intro t e xs h
    cases hs : stepP l t with
    | none =>
      rw [steps_none hs] at h
      injection h with h1 _
      have hx : xs = [] := by
        have := congrArg List.length h1
        simp at this
        exact this
      subst hx
      simp at h1
      subst h1
      refine ⟨fun hm => steps_none (by rw [stepP_app, hs]; exact hm), fun hm h => ?_⟩
      exfalso
      obtain ⟨v, hv⟩ := Option.ne_none_iff_exists'.1 hm
      have hs' : stepP (l ++ m) t = some v := by rw [stepP_app, hs]; exact hv
      by_cases h5 : 4 < v.vars.length
      · rw [steps_many hs' h5] at h; exact hlim h
      · rw [steps_cyc hs' h5] at h; exact hcyc h
    | some u =>
      by_cases h4 : 4 < u.vars.length
      · rw [steps_many hs h4] at h
        injection h with h1 _
        simp at h1
      · rw [steps_cyc hs h4] at h
        injection h with h1 _
        simp at h1
  | succ k ih =>
    intro t e xs h
    cases hs : stepP l t with
    | none =>
      rw [steps_none hs] at h
      injection h with h1 _
      have hx : xs = [] := by
        have := congrArg List.length h1
        simp at this
        exact this
      subst hx
      simp at h1
      subst h1
      refine ⟨fun hm => steps_none (by rw [stepP_app, hs]; exact hm), fun hm h => ?_⟩
      obtain ⟨v, hv⟩ := Option.ne_none_iff_exists'.1 hm
      have hs' : stepP (l ++ m) t = some v := by rw [stepP_app, hs]; exact hv
      by_cases h5 : 4 < v.vars.length
      · rw [steps_many hs' h5] at h; exact absurd h hlim
      · rw [steps_go hs' h5] at h ⊢
        by_cases h0 : (stepsP lim cyc (l ++ m) k v).2 = 0
        · rw [if_pos h0]
          obtain ⟨ys, hys⟩ := steps_ne hlim hcyc h0
          exact ⟨v, ys, by rw [hys]; rfl⟩
        · rw [if_neg h0] at h; exact absurd h h0
    | some u =>
      have hs' : stepP (l ++ m) t = some u := by rw [stepP_app, hs]
      by_cases h4 : 4 < u.vars.length
      · rw [steps_many hs h4] at h
        injection h with h1 _
        simp at h1
      · rw [steps_go hs h4] at h
        rw [steps_go hs' h4]
        by_cases h0 : (stepsP lim cyc l k u).2 = 0
        · rw [if_pos h0] at h
          injection h with h1 _
          obtain ⟨ys, hys⟩ := steps_ne hlim hcyc h0
          cases xs with
          | nil =>
            exfalso
            simp at h1
            rw [hys] at h1
            exact absurd h1.2 (by simp)
          | cons x xs =>
            simp at h1
            obtain ⟨rfl, h1⟩ := h1
            obtain ⟨g1, g2⟩ := ih u e xs (Prod.ext h1 h0)
            refine ⟨fun hm => ?_, fun hm h => ?_⟩
            · rw [g1 hm]; simp
            · by_cases h6 : (stepsP lim cyc (l ++ m) k u).2 = 0
              · rw [if_pos h6]
                obtain ⟨y, ys, hy⟩ := g2 hm h6
                exact ⟨y, ys, by rw [hy]; simp⟩
              · rw [if_neg h6] at h; exact absurd h h6
        · rw [if_neg h0] at h
          injection h with h1 _
          simp at h1
end
end Go.Proofs.YtcfgphhhgemkdaaGreatDoor
namespace Go.Proofs.YtcfgphhhgemkdaaGreatDoor
open Go.RowKit Go.Maps Go.Sort Go.WideMaps
set_option linter.unusedSimpArgs false
set_option linter.unusedVariables false

/-! A set of strings, as a map to bools. -/
section
variable {P : Program} {k e t : TypeId} {w w' : World} {b n : Nat} {ks : List (List UInt8)}

theorem plainElem_bool_inv {H : Type} (he : P.underlying e = some .bool) {v : Value} {x : Bool} {ps : List MemPlace} (h : plainElem (H := H) P e v = some (.lit (.bool x), ps)) : v = .bool x := by
  unfold plainElem at h
  rw [he] at h
  cases v <;> simp at h
  rw [h.1]

/-- Block b is a map of at most n entries: the set of the strings ks. -/
def MapS (P : Program) (k e : TypeId) (w : World) (b n : Nat) (ks : List (List UInt8)) : Prop :=
  ∃ D : DataW Unit, w.ownsMap P k (plainElem P e) b n D ∧ (∀ x, D.atKey (.string x) (.lit (.bool false)) = .lit (.bool (decide (x ∈ ks)))) ∧ (∀ x, Maps.has D (.string x) = decide (x ∈ ks))

theorem MapS.lt (h : MapS P k e w b n ks) : b < w.heap.size := by obtain ⟨D, h, _⟩ := h; exact h.lt
theorem MapS.below {B : Nat} (h : MapS P k e w b n ks) (hw : Below B w w') (hb : b < B) : MapS P k e w' b n ks := by
  obtain ⟨D, ⟨es, clock, hh, r⟩, h2⟩ := h
  exact ⟨D, ⟨es, clock, (Below.block hw b hb).trans hh, r⟩, h2⟩
theorem MapS.ext (h : MapS P k e w b n ks) (hw : Ext w w') : MapS P k e w' b n ks := h.below hw h.lt
theorem MapS.kept {row : Option Nat} (h : MapS P k e w b n ks) (hg : w.grownBy w' row) (hne : some b ≠ row) : MapS P k e w' b n ks := by
  obtain ⟨D, h, r⟩ := h
  exact ⟨D, h.kept hg hne, r⟩
theorem MapS.alloc (h : MapS P k e w b n ks) (o : Obj) : MapS P k e (w.alloc o) b n ks := by
  obtain ⟨D, h, r⟩ := h
  exact ⟨D, h.alloc o, r⟩
theorem MapS.setCell (h : MapS P k e w b n ks) {a : Addr} (ha : b ≠ a.block) (u : Value) : MapS P k e (w.setCell a u) b n ks := by
  obtain ⟨D, h, r⟩ := h
  exact ⟨D, h.setCell ha u, r⟩
theorem MapS.mono {m : Nat} (h : MapS P k e w b n ks) (hm : n ≤ m) : MapS P k e w b m ks := by
  obtain ⟨D, h, r⟩ := h
  exact ⟨D, h.mono hm, r⟩
theorem MapS.made (P : Program) (k e : TypeId) (w : World) : MapS P k e (w.alloc (.map #[] 0)) w.heap.size 0 [] :=
  ⟨.map [], World.ownsMap_made w P k _, fun x => by simp [DataW.atKey], fun x => by simp [Maps.has]⟩
theorem MapS.made_le (P : Program) (k e : TypeId) (w : World) (n : Nat) : MapS P k e (w.alloc (.map #[] 0)) w.heap.size n [] := (MapS.made P k e w).mono (Nat.zero_le n)
theorem MapS.same {ks' : List (List UInt8)} (h : MapS P k e w b n ks) (hm : ∀ x, x ∈ ks' ↔ x ∈ ks) : MapS P k e w b n ks' := by
  obtain ⟨D, h, h1, h2⟩ := h
  exact ⟨D, h, fun x => by rw [h1]; simp [hm x], fun x => by rw [h2]; simp [hm x]⟩

theorem MapS.lookup (h : MapS P k e w b n ks) (hk : P.underlying k = some .string) (he : P.underlying e = some .bool) (ht : P.underlying t = some (.map k e)) (hz : (zeroValue e).run P w = .ok (.bool false) w)
    (s : ByteArray) (hs : s.size ≤ maxLen) : (Instr.lookup t (.map (some b)) (.string s) false).run P w = .ok (.bool (decide (s.data.toList ∈ ks))) w := by
  obtain ⟨D, h, h1, _⟩ := h
  obtain ⟨v, ps, hrun, hv⟩ := h.lookup (string_keyed hk) ht hz (plainElem_bool he false) (keyOf_string_mk hk hs)
  rw [h1] at hv
  rw [plainElem_bool_inv he hv] at hrun
  exact hrun
theorem MapS.update (h : MapS P k e w b n ks) (hk : P.underlying k = some .string) (he : P.underlying e = some .bool) (ht : P.underlying t = some (.map k e)) (hn : n < maxLen)
    (s : ByteArray) (hs : s.size ≤ maxLen) : ∃ w', (Instr.mapUpdate t (.map (some b)) (.string s) (.bool true)).run P w = .ok () w' ∧ MapS P k e w' b (n + 1) (ks ++ [s.data.toList]) ∧ w.grownBy w' (some b) := by
  obtain ⟨D, h, h1, h2⟩ := h
  obtain ⟨w', hrun, h3, h4⟩ := h.update (string_keyed hk) ht hn (keyOf_string_mk hk hs) (plainElem_bool he true)
  refine ⟨w', hrun, ⟨_, h3, fun x => ?_, fun x => ?_⟩, h4⟩
  · by_cases hx : x = s.data.toList
    · subst hx
      rw [Maps.atKey_put_same h.isMap (by simp [WideAt.IsKeyLit])]
      simp
    · rw [Maps.atKey_put_other (by simpa using hx), h1]
      simp [hx]
  · by_cases hx : x = s.data.toList
    · subst hx
      rw [Maps.has_put_same h.isMap (by simp [WideAt.IsKeyLit])]
      simp
    · rw [Maps.has_put_other (by simpa using hx), h2]
      simp [hx]
/-- The keys, in whatever order. -/
theorem MapS.keys (h : MapS P k e w b n ks) (hk : P.underlying k = some .string) : ∃ D : DataW Unit, w.ownsMap P k (plainElem P e) b n D ∧ Maps.size D ≤ n ∧ (strKeys D).Nodup ∧ ∀ x, x ∈ strKeys D ↔ x ∈ ks := by
  obtain ⟨D, h, _, h2⟩ := h
  refine ⟨D, h, h.size_le, ?_⟩
  obtain ⟨es, hD, hpw, _⟩ := h.entries (string_keyed hk)
  obtain ⟨es', hD', hko⟩ := h.keysOf
  obtain rfl : es = es' := by rw [hD] at hD'; simpa using hD'
  subst hD
  have hstr : ∀ p ∈ es, ∃ x, p.1 = .string x := fun p hp => by
    obtain ⟨v, hv⟩ := hko p hp
    obtain ⟨x, _, hx, _⟩ := Maps.keyOf_str hk hv
    exact ⟨x, hx⟩
  have hnd : (strKeys (.map es : DataW Unit)).Nodup := by
    show (es.map fun p => strOf p.1).Nodup
    refine List.pairwise_map.2 (hpw.imp_of_mem fun {p q} hp' hq' hne e => hne ?_)
    obtain ⟨a, ha⟩ := hstr p hp'
    obtain ⟨b, hb⟩ := hstr q hq'
    rw [ha, hb] at e ⊢
    exact congrArg _ e
  refine ⟨hnd, fun x => ?_⟩
  have h3 := h2 x
  rw [Maps.has_eq] at h3
  constructor
  · intro hx
    obtain ⟨p, hp, hpx⟩ := List.mem_map.1 (show x ∈ es.map fun p => strOf p.1 from hx)
    obtain ⟨a, ha⟩ := hstr p hp
    have : (es.any fun p => p.1.sameKey (.string x)) = true := List.any_eq_true.2 ⟨p, hp, by rw [ha] at hpx ⊢; simpa [Lit.sameKey, strOf] using hpx⟩
    rw [this] at h3
    simpa using h3.symm
  · intro hx
    have : (es.any fun p => p.1.sameKey (.string x)) = true := by rw [h3]; simpa using hx
    obtain ⟨p, hp, hs⟩ := List.any_eq_true.1 this
    obtain ⟨a, ha⟩ := hstr p hp
    refine List.mem_map.2 ⟨p, hp, ?_⟩
    rw [ha] at hs ⊢
    simpa [Lit.sameKey, strOf] using hs

/-- The operations, for the walk. -/
theorem wpList_lookupS {w : World} {ops : Array Oper} {rest : List Oper} {o : Oper} {a : Act} {Q : Exit → Act → World → Prop} (hg : o.guard = none) (m x : Operand) (t k e : TypeId) (hop : o.op = Op.lookup t m x false)
    (hk : P.underlying k = some .string) (he : P.underlying e = some .bool) (ht : P.underlying t = some (.map k e)) (hz : (zeroValue e).run P w = .ok (.bool false) w) (b n : Nat) (ks : List (List UInt8))
    (hm : a.eval m = .map (some b)) (h : MapS P k e w b n ks) (s : ByteArray) (hx : a.eval x = .string s) (hs : s.size ≤ maxLen)
    (hK : wpList P ops Q rest (a.put o.dst (.bool (decide (s.data.toList ∈ ks)))) w) : wpList P ops Q (o :: rest) a w := by
  refine wpList_plain hg fun K' hK' => ?_
  have hrun := h.lookup hk he ht hz s hs
  generalize decide (s.data.toList ∈ ks) = B at hrun hK
  unfold Oper.wp
  simp [execOp, hop, hm, hx, hrun, Result.andThen]
  exact hK' _ _ hK
theorem wpList_mapUpdateS {w : World} {ops : Array Oper} {rest : List Oper} {o : Oper} {a : Act} {Q : Exit → Act → World → Prop} (hg : o.guard = none) (m x v : Operand) (t k e : TypeId) (hop : o.op = Op.mapUpdate t m x v)
    (hk : P.underlying k = some .string) (he : P.underlying e = some .bool) (ht : P.underlying t = some (.map k e)) (b n : Nat) (ks : List (List UInt8))
    (hm : a.eval m = .map (some b)) (h : MapS P k e w b n ks) (hn : n < maxLen) (s : ByteArray) (hx : a.eval x = .string s) (hv : a.eval v = .bool true) (hs : s.size ≤ maxLen)
    (hK : ∀ w', MapS P k e w' b (n + 1) (ks ++ [s.data.toList]) → w.grownBy w' (some b) → wpList P ops Q rest (a.put o.dst undef) w') : wpList P ops Q (o :: rest) a w := by
  refine wpList_plain hg fun K' hK' => ?_
  obtain ⟨w', hrun, r1, r2⟩ := h.update hk he ht hn s hs
  unfold Oper.wp
  simp [execOp, hop, hm, hx, hv, hrun, Result.andThen]
  exact hK' _ _ (hK w' r1 r2)
end
end Go.Proofs.YtcfgphhhgemkdaaGreatDoor
namespace Go.Proofs.YtcfgphhhgemkdaaGreatDoor
open Go.ChangeShapes Go.WideShapes Go.ChangeAt Go.RowKit
set_option linter.unusedSimpArgs false
set_option linter.unusedVariables false

/-- The slice value with address A and length n shows the cells xs, size cells an element. -/
def SlN (w : World) (A : Option Addr) (n size : Nat) (xs : List Value) : Prop :=
  xs.length = n * size ∧ ∀ j u, xs[j]? = some u → ∃ b o, A = some ⟨b, o, none⟩ ∧ b < w.heap.size ∧ w.cell? ⟨b, o + j, none⟩ = some u
theorem SlN.ext {w w' : World} {A : Option Addr} {n size : Nat} {xs : List Value} (h : SlN w A n size xs) (hw : Ext w w') : SlN w' A n size xs :=
  ⟨h.1, fun j u hu => by
    obtain ⟨b, o, ha, hb, hc⟩ := h.2 j u hu
    exact ⟨b, o, ha, Nat.lt_of_lt_of_le hb (Ext.size hw), (Ext.cell hw (p := ⟨b, o + j, none⟩) hb).trans hc⟩⟩
theorem SlN.nil (w : World) (A : Option Addr) (size : Nat) : SlN w A 0 size [] := ⟨by simp, fun j u h => by simp at h⟩

/-- Lists of lists of one length, one behind the other. -/
theorem flat_len {α β : Type} (f : α → List β) (m : Nat) (hf : ∀ a, (f a).length = m) (l : List α) : (l.flatMap f).length = l.length * m := by
  induction l with
  | nil => simp
  | cons a r ih => rw [List.flatMap_cons, List.length_append, ih, hf, List.length_cons, Nat.succ_mul, Nat.add_comm]
theorem flat_get {α β : Type} (f : α → List β) (m : Nat) (hf : ∀ a, (f a).length = m) : ∀ (l : List α) (k j : Nat) (x : α), l[k]? = some x → j < m → (l.flatMap f)[k * m + j]? = (f x)[j]?
  | [], k, j, x, h, _ => by simp at h
  | a :: r, 0, j, x, h, hj => by
    simp at h
    subst h
    rw [List.flatMap_cons, Nat.zero_mul, Nat.zero_add, List.getElem?_append_left (by rw [hf]; exact hj)]
  | a :: r, k + 1, j, x, h, hj => by
    rw [List.flatMap_cons, List.getElem?_append_right (by rw [hf, Nat.succ_mul]; omega), hf]
    have := flat_get f m hf r k j x (by simpa using h) hj
    rw [← this]
    congr 1
    rw [Nat.succ_mul]
    omega

/-- An alias's two cells. -/
def aliC (a : ByteArray × ByteArray) : List Value := [.string a.1, .string a.2]
def Als (w : World) (A : Option Addr) (n : Nat) (l : List (ByteArray × ByteArray)) : Prop := SlN w A n 2 (l.flatMap aliC)
theorem Als.ext {w w' : World} {A : Option Addr} {n : Nat} {l : List (ByteArray × ByteArray)} (h : Als w A n l) (hw : Ext w w') : Als w' A n l := SlN.ext h hw
theorem Als.len {w : World} {A : Option Addr} {n : Nat} {l : List (ByteArray × ByteArray)} (h : Als w A n l) : l.length = n := by
  have h1 := h.1
  rw [flat_len aliC 2 (fun _ => rfl)] at h1
  omega
theorem Als.at_ {w : World} {A : Option Addr} {n : Nat} {l : List (ByteArray × ByteArray)} (h : Als w A n l) {k : Nat} {x : ByteArray × ByteArray} (hx : l[k]? = some x) :
    ∃ b o, A = some ⟨b, o, none⟩ ∧ b < w.heap.size ∧ w.cell? ⟨b, o + k * 2, none⟩ = some (.string x.1) ∧ w.cell? ⟨b, o + (k * 2 + 1), none⟩ = some (.string x.2) := by
  have g0 := flat_get aliC 2 (fun _ => rfl) l k 0 x hx (by omega)
  have g1 := flat_get aliC 2 (fun _ => rfl) l k 1 x hx (by omega)
  obtain ⟨b, o, rfl, hb, h0⟩ := h.2 _ _ g0
  obtain ⟨b', o', e, _, h1⟩ := h.2 _ _ g1
  injection e with e
  injection e with e1 e2 _
  subst e1; subst e2
  exact ⟨b, o, rfl, hb, h0, h1⟩

section
variable {H : Type} {enc : TypeId × Value → H} {P : Program}
def strAt (v : Option Value) : ByteArray := match v with | some (.string s) => s | _ => ByteArray.empty
/-- A slice of structs of two strings that came in. -/
theorem open_als {t e ti : TypeId} {f0 f1 : Field} {W : World} {v : Value} {d : DataW H} {ps : List MemPlace} (ht : P.underlying t = some (.slice e)) (he : P.underlying e = some (.struct #[f0, f1]))
    (hi : P.underlying ti = some .string) (ht0 : f0.type = ti) (ht1 : f1.type = ti) (ho0 : f0.offset = 0) (ho1 : f1.offset = 1) (hci : P.cellsOf ti = 1) (hc : P.cellsOf e = 2)
    (hv : ∃ A n c, v = .slice A n c) (h : DataW.Trod enc P W 0 (fun _ => true) true t v d ps) :
    ∃ (A : Option Addr) (n c : Nat) (l : List (ByteArray × ByteArray)), v = .slice A n c ∧ Als W A n l ∧ n ≤ maxLen ∧ ∀ a ∈ l, a.1.size ≤ maxLen ∧ a.2.size ≤ maxLen := by
  obtain ⟨A, n, c, rfl⟩ := hv
  obtain ⟨fuel, hf⟩ := h
  rcases DataW.trod_slice ht hf with ⟨hcs, _⟩ | ⟨a, len, cap, elems, rest, k, _, hcs, _, _, hl, hm, hlen, hel, _, _⟩
  · simp [Value.cells] at hcs
    obtain ⟨rfl, rfl, rfl⟩ := hcs
    exact ⟨none, 0, 0, [], rfl, SlN.nil _ _ _, Nat.zero_le _, by simp⟩
  · simp [Value.cells] at hcs
    obtain ⟨rfl, rfl, rfl⟩ := hcs
    have each : ∀ i, i < n → ∃ x y : ByteArray, W.cell? (a.add (i * 2)) = some (.string x) ∧ W.cell? ((a.add (i * 2)).add 1) = some (.string y) ∧ x.size ≤ maxLen ∧ y.size ≤ maxLen := by
      intro i hi'
      have h1 := hel i hi'
      rw [List.getElem?_eq_getElem (by omega), hc, Option.bind_eq_some_iff] at h1
      obtain ⟨cs', h2, h3⟩ := h1
      obtain ⟨y0, y1, m, _, hl2, h4, h5⟩ := trod_struct2 he h3
      rw [hc] at hl2
      rw [ht0, ho0, hci] at h4
      rw [ht1, ho1, hci] at h5
      obtain ⟨x, e4, _, z4⟩ := DataW.trod_string hi h4
      obtain ⟨y, e5, _, z5⟩ := DataW.trod_string hi h5
      obtain ⟨_, h7, h8⟩ := World.cells?_some h2
      match cs', hl2, e4, e5 with
      | [c0, c1], _, e4, e5 =>
        simp at e4 e5
        subst e4; subst e5
        exact ⟨x, y, by have h9 := h8 0 (by omega); exact h9, by have h9 := h8 1 (by omega); exact h9, z4, z5⟩
    let l : List (ByteArray × ByteArray) := (List.range n).map fun i => (strAt (W.cell? (a.add (i * 2))), strAt (W.cell? ((a.add (i * 2)).add 1)))
    have hll : l.length = n := by simp [l]
    refine ⟨some a, n, c, l, rfl, ⟨by rw [flat_len aliC 2 (fun _ => rfl), hll], ?_⟩, Nat.le_trans hl hm, ?_⟩
    · intro j u hu
      have hjl : j < (l.flatMap aliC).length := (List.getElem?_eq_some_iff.1 hu).1
      rw [flat_len aliC 2 (fun _ => rfl), hll] at hjl
      have hn0 : 0 < n := by omega
      obtain ⟨x0, y0, z1, z2, _⟩ := each 0 (by omega)
      obtain ⟨b, o, sp⟩ := a
      have hs : sp = none := by
        have z1' : W.cell? ⟨b, o, sp⟩ = some (.string x0) := by simpa [Addr.add] using z1
        exact World.cell?_spot z1'
      subst hs
      have ea : ∀ t, (⟨b, o, none⟩ : Addr).add t = ⟨b, o + t, none⟩ := by
        intro t
        unfold Addr.add
        split
        · subst_vars; rfl
        · rfl
      obtain ⟨x, y, e1, e2, _⟩ := each (j / 2) (by omega)
      have e3 : ((⟨b, o, none⟩ : Addr).add (j / 2 * 2)).add 1 = ⟨b, o + (j / 2 * 2 + 1), none⟩ := by rw [ea]; rfl
      rw [e3] at e2
      rw [ea] at e1
      have hlj : l[j / 2]? = some (x, y) := by
        have hj2 : j / 2 < l.length := by omega
        have hg : l[j / 2] = (strAt (W.cell? ((⟨b, o, none⟩ : Addr).add (j / 2 * 2))), strAt (W.cell? (((⟨b, o, none⟩ : Addr).add (j / 2 * 2)).add 1))) := by simp [l]
        rw [List.getElem?_eq_getElem hj2, hg, e3, ea, e1, e2]
        rfl
      refine ⟨b, o, rfl, World.block_lt_of_cell? W ⟨b, o + j / 2 * 2, none⟩ e1, ?_⟩
      rcases Nat.mod_two_eq_zero_or_one j with hm2 | hm2
      · have hj : j / 2 * 2 + 0 = j := by omega
        have := flat_get aliC 2 (fun _ => rfl) l (j / 2) 0 _ hlj (by omega)
        rw [hj, hu] at this
        injection this with this
        have hj2 : j = j / 2 * 2 := by omega
        rw [hj2, e1, this]
      · have hj : j / 2 * 2 + 1 = j := by omega
        have := flat_get aliC 2 (fun _ => rfl) l (j / 2) 1 _ hlj (by omega)
        rw [hj, hu] at this
        injection this with this
        rw [← hj, e2, this]
    · intro p hp
      obtain ⟨i, hi', rfl⟩ := List.mem_map.1 hp
      obtain ⟨x, y, e1, e2, z1, z2⟩ := each i (by simpa using hi')
      rw [e1, e2]
      exact ⟨z1, z2⟩
end
end Go.Proofs.YtcfgphhhgemkdaaGreatDoor
namespace Go.Proofs.YtcfgphhhgemkdaaGreatDoor
open Go.RowKit
set_option linter.unusedSimpArgs false
set_option linter.unusedVariables false

/-! Aliases: their rules. -/
theorem isP_parse {s : List UInt8} (h : isP s = true) : (parseP EC s).2 = 0 ∧ validP (parseP EC s).1 = true ∧ textP (parseP EC s).1 = s := by
  unfold isP canP at h
  simp only [Bool.and_eq_true, beq_iff_eq] at h
  obtain ⟨h1, h2⟩ := h
  rw [if_pos h1] at h2
  exact ⟨h1, parse_ok h1, h2⟩
theorem isP_text {t : TagP} (h : validP t = true) : isP (textP t) = true := by
  unfold isP canP
  rw [parse_text EC t h]
  simp
def ruleOf (a : ByteArray × ByteArray) : RuleP := ⟨(parseP EC a.1.data.toList).1, (parseP EC a.2.data.toList).1⟩
def aliB (a : ByteArray × ByteArray) : Bool := isP a.1.data.toList && isP a.2.data.toList && !(a.1.data.toList == undP)
theorem ali_ok {a : ByteArray × ByteArray} (h : aliB a = true) : okR (ruleOf a) := by
  unfold aliB at h
  simp only [Bool.and_eq_true] at h
  exact ⟨(isP_parse h.1.1).2.1, (isP_parse h.1.2).2.1⟩
theorem TL_parse (s : List UInt8) : TL (parseP EC s).1 := by
  by_cases h0 : (parseP EC s).2 = 0
  · exact TL_of (parse_ok h0)
  · rw [parse_zero EC s h0]
    exact TL_zero

/-- A rule as it lies in memory. -/
structure RV where
  r : RuleP
  A : Option Addr
  n : Nat
  c : Nat
  B : Option Addr
  m : Nat
  d : Nat
def rvC (x : RV) : List Value := [strv x.r.f.lang, strv x.r.f.script, strv x.r.f.region, .slice x.A x.n x.c, strv x.r.o.lang, strv x.r.o.script, strv x.r.o.region, .slice x.B x.m x.d]
def RvOk (w : World) (x : RV) : Prop := Sl w x.A x.n (x.r.f.vars.map strv) ∧ Sl w x.B x.m (x.r.o.vars.map strv)
theorem RvOk.ext {w w' : World} {x : RV} (h : RvOk w x) (hw : Ext w w') : RvOk w' x := ⟨h.1.ext hw, h.2.ext hw⟩
def Rules (w : World) (A : Option Addr) (n : Nat) (xs : List RV) : Prop := SlN w A n 8 (xs.flatMap rvC) ∧ ∀ x ∈ xs, RvOk w x
theorem Rules.ext {w w' : World} {A : Option Addr} {n : Nat} {xs : List RV} (h : Rules w A n xs) (hw : Ext w w') : Rules w' A n xs := ⟨h.1.ext hw, fun x hx => (h.2 x hx).ext hw⟩
theorem Rules.len {w : World} {A : Option Addr} {n : Nat} {xs : List RV} (h : Rules w A n xs) : xs.length = n := by
  have h1 := h.1.1
  rw [flat_len rvC 8 (fun _ => rfl)] at h1
  omega
theorem Rules.at_ {w : World} {A : Option Addr} {n : Nat} {xs : List RV} (h : Rules w A n xs) {k : Nat} {x : RV} (hx : xs[k]? = some x) :
    ∃ b o, A = some ⟨b, o, none⟩ ∧ b < w.heap.size ∧ ∀ j u, (rvC x)[j]? = some u → w.cell? ⟨b, o + (k * 8 + j), none⟩ = some u := by
  have g0 := flat_get rvC 8 (fun _ => rfl) xs k 0 x hx (by omega)
  obtain ⟨b, o, rfl, hb, h0⟩ := h.1.2 _ _ g0
  refine ⟨b, o, rfl, hb, fun j u hu => ?_⟩
  have hj : j < 8 := (List.getElem?_eq_some_iff.1 hu).1
  have g1 := flat_get rvC 8 (fun _ => rfl) xs k j x hx hj
  rw [hu] at g1
  obtain ⟨b', o', e, _, h1⟩ := h.1.2 _ _ g1
  injection e with e
  injection e with e1 e2 _
  subst e1; subst e2
  exact h1
end Go.Proofs.YtcfgphhhgemkdaaGreatDoor
namespace Go.Proofs.YtcfgphhhgemkdaaGreatDoor
set_option linter.unusedSimpArgs false
set_option linter.unusedVariables false

/-! What the functions on aliases answer. -/
abbrev Ali := ByteArray × ByteArray
def stepsL (l : List Ali) (s : List UInt8) : List (List UInt8) × Int :=
  if l.all aliB = true then (if (parseP EC s).2 = 0 then ((stepsP 6 15 (l.map ruleOf) 20 (parseP EC s).1).1.map textP, (stepsP 6 15 (l.map ruleOf) 20 (parseP EC s).1).2) else ([], (parseP EC s).2)) else ([], 1)
def canL (l : List Ali) (s : List UInt8) : List UInt8 × Int := (if (stepsL l s).2 = 0 then (stepsL l s).1.getLastD [] else [], (stepsL l s).2)
def replL (a : Ali) (s : List UInt8) : List UInt8 × Int :=
  if aliB a = true then (if (parseP EC s).2 = 0 then (if fitsP (ruleOf a) (parseP EC s).1 = true then (if 4 < (replP (ruleOf a) (parseP EC s).1).vars.length then ([], 6) else (textP (replP (ruleOf a) (parseP EC s).1), 0)) else ([], 8)) else ([], (parseP EC s).2)) else ([], 1)
/-- No two aliases come from one text. -/
def apartL (l : List Ali) : Bool := decide (l.map fun a => a.1.data.toList).Nodup
def validL (l : List Ali) : Bool := l.all aliB && apartL l && l.all (fun a => (stepP (l.map ruleOf) (ruleOf a).o).isNone)

theorem rules_ok {l : List Ali} (h : l.all aliB = true) : ∀ r ∈ l.map ruleOf, okR r := by
  intro r hr
  obtain ⟨a, ha, rfl⟩ := List.mem_map.1 hr
  exact ali_ok (List.all_eq_true.1 h a ha)
theorem steps_shape {l : List Ali} {s : List UInt8} (h : (stepsL l s).2 = 0) : ∃ xs e, stepsP 6 15 (l.map ruleOf) 20 (parseP EC s).1 = (xs ++ [e], 0) ∧ (stepsL l s).1 = (xs ++ [e]).map textP ∧ xs.length ≤ 20 ∧ validP e = true ∧ stepP (l.map ruleOf) e = none ∧
    l.all aliB = true ∧ (parseP EC s).2 = 0 := by
  unfold stepsL at h ⊢
  by_cases ha : l.all aliB = true
  · rw [if_pos ha] at h ⊢
    by_cases hp : (parseP EC s).2 = 0
    · rw [if_pos hp] at h ⊢
      simp only at h ⊢
      obtain ⟨xs, e, h1, h2, h3, h4, _, _⟩ := steps_end (by decide) (by decide) (rules_ok ha) 20 _ (parse_ok hp) h
      exact ⟨xs, e, Prod.ext h1 h, by rw [h1], h2, h3, h4, ha, hp⟩
    · rw [if_neg hp] at h; exact absurd h hp
  · rw [if_neg ha] at h; exact absurd h (by decide)
theorem steps_bad {l : List Ali} {s : List UInt8} (h : (stepsL l s).2 ≠ 0) : (stepsL l s).1 = [] := by
  unfold stepsL at h ⊢
  by_cases ha : l.all aliB = true
  · rw [if_pos ha] at h ⊢
    by_cases hp : (parseP EC s).2 = 0
    · rw [if_pos hp] at h ⊢
      simp only at h ⊢
      rw [steps_err (by decide) (by decide) _ _ _ h]
      rfl
    · rw [if_neg hp]
  · rw [if_neg ha]
theorem last_map (xs : List TagP) (e : TagP) : ((xs ++ [e]).map textP).getLastD [] = textP e := by simp
theorem can_shape {l : List Ali} {s : List UInt8} (h : (canL l s).2 = 0) : ∃ e, (canL l s).1 = textP e ∧ validP e = true ∧ stepP (l.map ruleOf) e = none ∧ l.all aliB = true := by
  have h' : (stepsL l s).2 = 0 := h
  obtain ⟨xs, e, _, h2, _, h3, h4, h5, _⟩ := steps_shape h'
  refine ⟨e, ?_, h3, h4, h5⟩
  unfold canL
  rw [if_pos h', h2, last_map]
theorem can_bad {l : List Ali} {s : List UInt8} (h : (canL l s).2 ≠ 0) : (canL l s).1 = [] := by
  have h' : (stepsL l s).2 ≠ 0 := h
  unfold canL
  rw [if_neg h']
/-- Without aliases. -/
theorem canL_nil (s : List UInt8) : canL [] s = canP s := by
  unfold canL canP stepsL
  simp only [List.all_nil, if_true, List.map_nil]
  by_cases hp : (parseP EC s).2 = 0
  · rw [if_pos hp, if_pos hp, steps_none (by rfl)]
    simp [hp]
  · rw [if_neg hp, if_neg hp]
    simp [hp]
/-- The result is its own. -/
theorem canL_text {l : List Ali} {e : TagP} (hv : validP e = true) (hs : stepP (l.map ruleOf) e = none) (ha : l.all aliB = true) : canL l (textP e) = (textP e, 0) := by
  unfold canL stepsL
  rw [if_pos ha, parse_text EC e hv]
  simp only [if_true]
  rw [steps_none hs]
  simp
theorem replL_text {l : List Ali} {e : TagP} (hv : validP e = true) (hs : stepP (l.map ruleOf) e = none) (ha : l.all aliB = true) {a : Ali} (hm : a ∈ l) : (replL a (textP e)).2 = 8 ∨ replL a (textP e) = (textP e, 0) := by
  unfold replL
  rw [if_pos (List.all_eq_true.1 ha a hm), parse_text EC e hv]
  simp only [if_true]
  by_cases hf : fitsP (ruleOf a) e = true
  · right
    rw [if_pos hf, stepP_none hs _ (List.mem_map.2 ⟨a, hm, rfl⟩) hf, if_neg (by have := (valid_parts hv).2.2.2.2.2.2; omega)]
  · left
    rw [if_neg hf]
theorem stepsL_spell (l : List Ali) (s : List UInt8) (b : Nat) : stepsL l (spellL s b) = stepsL l s := by unfold stepsL; rw [parse_spell]
theorem canL_spell (l : List Ali) (s : List UInt8) (b : Nat) : canL l (spellL s b) = canL l s := by unfold canL; rw [stepsL_spell]
/-- A further alias at the end. -/
theorem steps_more {l : List Ali} {a : Ali} {s : List UInt8} (ha : aliB a = true) (h : (stepsL l s).2 = 0) :
    (((replL a ((stepsL l s).1.getLastD [])).2 = 8 ∨ replL a ((stepsL l s).1.getLastD []) = ((stepsL l s).1.getLastD [], 0)) → stepsL (l ++ [a]) s = stepsL l s) ∧
      (¬ ((replL a ((stepsL l s).1.getLastD [])).2 = 8 ∨ replL a ((stepsL l s).1.getLastD []) = ((stepsL l s).1.getLastD [], 0)) → (stepsL (l ++ [a]) s).2 = 0 →
        (stepsL l s).1.length < (stepsL (l ++ [a]) s).1.length ∧ (stepsL (l ++ [a]) s).1.take (stepsL l s).1.length = (stepsL l s).1) := by
  obtain ⟨xs, e, h0, h2, _, hv, hs, hl, hp⟩ := steps_shape h
  have hall : (l ++ [a]).all aliB = true := by rw [List.all_append, hl]; simp [ha]
  have hstep : stepsL (l ++ [a]) s = ((stepsP 6 15 (l.map ruleOf ++ [ruleOf a]) 20 (parseP EC s).1).1.map textP, (stepsP 6 15 (l.map ruleOf ++ [ruleOf a]) 20 (parseP EC s).1).2) := by
    unfold stepsL
    rw [if_pos hall, if_pos hp, List.map_append]
    rfl
  obtain ⟨g1, g2⟩ := steps_app (lim := 6) (cyc := 15) (by decide) (by decide) (l := l.map ruleOf) (m := [ruleOf a]) 20 (parseP EC s).1 e xs h0
  have hr : replL a (textP e) = if fitsP (ruleOf a) e = true then (if 4 < (replP (ruleOf a) e).vars.length then ([], 6) else (textP (replP (ruleOf a) e), 0)) else ([], 8) := by
    unfold replL
    rw [if_pos ha, parse_text EC e hv]
    simp only [if_true]
  rw [h2, last_map, hr, hstep]
  have hso : stepP [ruleOf a] e = if fitsP (ruleOf a) e && !eqT (replP (ruleOf a) e) e then some (replP (ruleOf a) e) else none := rfl
  have hsl : stepsL l s = ((xs ++ [e]).map textP, 0) := Prod.ext h2 h
  rw [hsl]
  have hv4 := (valid_parts hv).2.2.2.2.2.2
  constructor
  · intro hc
    have hn : stepP [ruleOf a] e = none := by
      rw [hso]
      by_cases hf : fitsP (ruleOf a) e = true
      · rw [if_pos hf] at hc
        by_cases h4 : 4 < (replP (ruleOf a) e).vars.length
        · rw [if_pos h4] at hc
          rcases hc with hc | hc
          · exact absurd hc (by decide)
          · injection hc with _ hc; exact absurd hc (by decide)
        · rw [if_neg h4] at hc
          rcases hc with hc | hc
          · exact absurd (show (0 : Int) = 8 from hc) (by decide)
          · injection hc with hc _
            have hv2 := repl_valid (ali_ok ha) hv (by omega)
            have := text_inj _ _ hv2 hv hc
            rw [(eqT_iff _ _).2 this]
            simp
      · simp [hf]
    rw [g1 hn]
  · intro hc h0'
    have hn : stepP [ruleOf a] e ≠ none := by
      rw [hso]
      intro hn
      apply hc
      by_cases hf : fitsP (ruleOf a) e = true
      · rw [if_pos hf]
        right
        have he : eqT (replP (ruleOf a) e) e = true := by
          cases hq : eqT (replP (ruleOf a) e) e with
          | true => rfl
          | false => rw [hf, hq] at hn; simp at hn
        rw [(eqT_iff _ _).1 he, if_neg (by omega)]
      · left
        rw [if_neg hf]
    obtain ⟨y, ys, hy⟩ := g2 hn h0'
    rw [hy]
    refine ⟨by simp, ?_⟩
    have e1 : xs ++ e :: y :: ys = (xs ++ [e]) ++ y :: ys := by simp
    simp only [e1, List.map_append (l₁ := xs ++ [e]), List.length_map]
    exact List.take_left' (by simp)
end Go.Proofs.YtcfgphhhgemkdaaGreatDoor
