import Derived.Test.YtcfgphhhgemkdaaDoorAl
namespace Go.Proofs.YtcfgphhhgemkdaaDoor
set_option linter.unusedSimpArgs false
set_option linter.unusedVariables false

/-! What the functions on aliases answer. -/
abbrev Ali := ByteArray × ByteArray
def stepsL (l : List Ali) (s : List UInt8) : List (List UInt8) × Int :=
  if l.all aliB = true then (if (parseP EC s).2 = 0 then ((stepsP 6 15 (l.map ruleOf) 20 (parseP EC s).1).1.map textP, (stepsP 6 15 (l.map ruleOf) 20 (parseP EC s).1).2) else ([], (parseP EC s).2)) else ([], 1)
def canL (l : List Ali) (s : List UInt8) : List UInt8 × Int := (if (stepsL l s).2 = 0 then (stepsL l s).1.getLastD [] else [], (stepsL l s).2)
def replL (a : Ali) (s : List UInt8) : List UInt8 × Int :=
  if aliB a = true then (if (parseP EC s).2 = 0 then (if fitsP (ruleOf a) (parseP EC s).1 = true then (if 4 < (replP (ruleOf a) (parseP EC s).1).vars.length then ([], 6) else (textP (replP (ruleOf a) (parseP EC s).1), 0)) else ([], 8)) else ([], (parseP EC s).2)) else ([], 1)
/-- No two aliases come from one text. -/
def apartL (l : List Ali) : Bool := decide (l.map fun a => a.1.data.toList).Nodup
def validL (l : List Ali) : Bool := l.all aliB && apartL l && l.all (fun a => (stepP (l.map ruleOf) (ruleOf a).o).isNone)

theorem rules_ok {l : List Ali} (h : l.all aliB = true) : ∀ r ∈ l.map ruleOf, okR r := by
  intro r hr
  obtain ⟨a, ha, rfl⟩ := List.mem_map.1 hr
  exact ali_ok (List.all_eq_true.1 h a ha)
theorem steps_shape {l : List Ali} {s : List UInt8} (h : (stepsL l s).2 = 0) : ∃ xs e, stepsP 6 15 (l.map ruleOf) 20 (parseP EC s).1 = (xs ++ [e], 0) ∧ (stepsL l s).1 = (xs ++ [e]).map textP ∧ xs.length ≤ 20 ∧ validP e = true ∧ stepP (l.map ruleOf) e = none ∧
    l.all aliB = true ∧ (parseP EC s).2 = 0 := by
  unfold stepsL at h ⊢
  by_cases ha : l.all aliB = true
  · rw [if_pos ha] at h ⊢
    by_cases hp : (parseP EC s).2 = 0
    · rw [if_pos hp] at h ⊢
      simp only at h ⊢
      obtain ⟨xs, e, h1, h2, h3, h4, _, _⟩ := steps_end (by decide) (by decide) (rules_ok ha) 20 _ (parse_ok hp) h
      exact ⟨xs, e, Prod.ext h1 h, by rw [h1], h2, h3, h4, ha, hp⟩
    · rw [if_neg hp] at h; exact absurd h hp
  · rw [if_neg ha] at h; exact absurd h (by decide)
theorem steps_bad {l : List Ali} {s : List UInt8} (h : (stepsL l s).2 ≠ 0) : (stepsL l s).1 = [] := by
  unfold stepsL at h ⊢
  by_cases ha : l.all aliB = true
  · rw [if_pos ha] at h ⊢
    by_cases hp : (parseP EC s).2 = 0
    · rw [if_pos hp] at h ⊢
      simp only at h ⊢
      rw [steps_err (by decide) (by decide) _ _ _ h]
      rfl
    · rw [if_neg hp]
  · rw [if_neg ha]
theorem last_map (xs : List TagP) (e : TagP) : ((xs ++ [e]).map textP).getLastD [] = textP e := by simp
theorem can_shape {l : List Ali} {s : List UInt8} (h : (canL l s).2 = 0) : ∃ e, (canL l s).1 = textP e ∧ validP e = true ∧ stepP (l.map ruleOf) e = none ∧ l.all aliB = true := by
  have h' : (stepsL l s).2 = 0 := h
  obtain ⟨xs, e, _, h2, _, h3, h4, h5, _⟩ := steps_shape h'
  refine ⟨e, ?_, h3, h4, h5⟩
  unfold canL
  rw [if_pos h', h2, last_map]
theorem can_bad {l : List Ali} {s : List UInt8} (h : (canL l s).2 ≠ 0) : (canL l s).1 = [] := by
  have h' : (stepsL l s).2 ≠ 0 := h
  unfold canL
  rw [if_neg h']
/-- Without aliases. -/
theorem canL_nil (s : List UInt8) : canL [] s = canP s := by
  unfold canL canP stepsL
  simp only [List.all_nil, if_true, List.map_nil]
  by_cases hp : (parseP EC s).2 = 0
  · rw [if_pos hp, if_pos hp, steps_none (by rfl)]
    simp [hp]
  · rw [if_neg hp, if_neg hp]
    simp [hp]
/-- The result is its own. -/
theorem canL_text {l : List Ali} {e : TagP} (hv : validP e = true) (hs : stepP (l.map ruleOf) e = none) (ha : l.all aliB = true) : canL l (textP e) = (textP e, 0) := by
  unfold canL stepsL
  rw [if_pos ha, parse_text EC e hv]
  simp only [if_true]
  rw [steps_none hs]
  simp
theorem replL_text {l : List Ali} {e : TagP} (hv : validP e = true) (hs : stepP (l.map ruleOf) e = none) (ha : l.all aliB = true) {a : Ali} (hm : a ∈ l) : (replL a (textP e)).2 = 8 ∨ replL a (textP e) = (textP e, 0) := by
  unfold replL
  rw [if_pos (List.all_eq_true.1 ha a hm), parse_text EC e hv]
  simp only [if_true]
  by_cases hf : fitsP (ruleOf a) e = true
  · right
    rw [if_pos hf, stepP_none hs _ (List.mem_map.2 ⟨a, hm, rfl⟩) hf, if_neg (by have := (valid_parts hv).2.2.2.2.2.2; omega)]
  · left
    rw [if_neg hf]
theorem stepsL_spell (l : List Ali) (s : List UInt8) (b : Nat) : stepsL l (spellL s b) = stepsL l s := by unfold stepsL; rw [parse_spell]
theorem canL_spell (l : List Ali) (s : List UInt8) (b : Nat) : canL l (spellL s b) = canL l s := by unfold canL; rw [stepsL_spell]
/-- A further alias at the end. -/
theorem steps_more {l : List Ali} {a : Ali} {s : List UInt8} (ha : aliB a = true) (h : (stepsL l s).2 = 0) :
    (((replL a ((stepsL l s).1.getLastD [])).2 = 8 ∨ replL a ((stepsL l s).1.getLastD []) = ((stepsL l s).1.getLastD [], 0)) → stepsL (l ++ [a]) s = stepsL l s) ∧
      (¬ ((replL a ((stepsL l s).1.getLastD [])).2 = 8 ∨ replL a ((stepsL l s).1.getLastD []) = ((stepsL l s).1.getLastD [], 0)) → (stepsL (l ++ [a]) s).2 = 0 →
        (stepsL l s).1.length < (stepsL (l ++ [a]) s).1.length ∧ (stepsL (l ++ [a]) s).1.take (stepsL l s).1.length = (stepsL l s).1) := by
  obtain ⟨xs, e, h0, h2, _, hv, hs, hl, hp⟩ := steps_shape h
  have hall : (l ++ [a]).all aliB = true := by rw [List.all_append, hl]; simp [ha]
  have hstep : stepsL (l ++ [a]) s = ((stepsP 6 15 (l.map ruleOf ++ [ruleOf a]) 20 (parseP EC s).1).1.map textP, (stepsP 6 15 (l.map ruleOf ++ [ruleOf a]) 20 (parseP EC s).1).2) := by
    unfold stepsL
    rw [if_pos hall, if_pos hp, List.map_append]
    rfl
  obtain ⟨g1, g2⟩ := steps_app (lim := 6) (cyc := 15) (by decide) (by decide) (l := l.map ruleOf) (m := [ruleOf a]) 20 (parseP EC s).1 e xs h0
  have hr : replL a (textP e) = if fitsP (ruleOf a) e = true then (if 4 < (replP (ruleOf a) e).vars.length then ([], 6) else (textP (replP (ruleOf a) e), 0)) else ([], 8) := by
    unfold replL
    rw [if_pos ha, parse_text EC e hv]
    simp only [if_true]
  rw [h2, last_map, hr, hstep]
  have hso : stepP [ruleOf a] e = if fitsP (ruleOf a) e && !eqT (replP (ruleOf a) e) e then some (replP (ruleOf a) e) else none := rfl
  have hsl : stepsL l s = ((xs ++ [e]).map textP, 0) := Prod.ext h2 h
  rw [hsl]
  have hv4 := (valid_parts hv).2.2.2.2.2.2
  constructor
  · intro hc
    have hn : stepP [ruleOf a] e = none := by
      rw [hso]
      by_cases hf : fitsP (ruleOf a) e = true
      · rw [if_pos hf] at hc
        by_cases h4 : 4 < (replP (ruleOf a) e).vars.length
        · rw [if_pos h4] at hc
          rcases hc with hc | hc
          · exact absurd hc (by decide)
          · injection hc with _ hc; exact absurd hc (by decide)
        · rw [if_neg h4] at hc
          rcases hc with hc | hc
          · exact absurd (show (0 : Int) = 8 from hc) (by decide)
          · injection hc with hc _
            have hv2 := repl_valid (ali_ok ha) hv (by omega)
            have := text_inj _ _ hv2 hv hc
            rw [(eqT_iff _ _).2 this]
            simp
      · simp [hf]
    rw [g1 hn]
  · intro hc h0'
    have hn : stepP [ruleOf a] e ≠ none := by
      rw [hso]
      intro hn
      apply hc
      by_cases hf : fitsP (ruleOf a) e = true
      · rw [if_pos hf]
        right
        have he : eqT (replP (ruleOf a) e) e = true := by
          cases hq : eqT (replP (ruleOf a) e) e with
          | true => rfl
          | false => rw [hf, hq] at hn; simp at hn
        rw [(eqT_iff _ _).1 he, if_neg (by omega)]
      · left
        rw [if_neg hf]
    obtain ⟨y, ys, hy⟩ := g2 hn h0'
    rw [hy]
    refine ⟨by simp, ?_⟩
    have e1 : xs ++ e :: y :: ys = (xs ++ [e]) ++ y :: ys := by simp
    simp only [e1, List.map_append (l₁ := xs ++ [e]), List.length_map]
    exact List.take_left' (by simp)
end Go.Proofs.YtcfgphhhgemkdaaDoor
