import Derived.Test.YtcfgphhhgemkdaaDoorAlLaw
namespace Go.Proofs.YtcfgphhhgemkdaaDoor
open Go.RowKit
set_option linter.unusedSimpArgs false
set_option linter.unusedVariables false

/-! The example's aliases. -/
def xIw : ByteArray := ⟨#[105, 119]⟩
def xHe : ByteArray := ⟨#[104, 101]⟩
def xBu : ByteArray := ⟨#[117, 110, 100, 45, 66, 85]⟩
def xMm : ByteArray := ⟨#[117, 110, 100, 45, 77, 77]⟩
def xTw : ByteArray := ⟨#[122, 104, 45, 84, 87]⟩
def xHt : ByteArray := ⟨#[122, 104, 45, 72, 97, 110, 116, 45, 84, 87]⟩
def xIb : ByteArray := ⟨#[105, 119, 95, 98, 117]⟩
def exL : List Ali := [(xIw, xHe), (xBu, xMm), (xTw, xHt)]
def tIw : TagP := ⟨[105, 119], [], [], []⟩
def tHe : TagP := ⟨[104, 101], [], [], []⟩
def tBu : TagP := ⟨[117, 110, 100], [], [66, 85], []⟩
def tMm : TagP := ⟨[117, 110, 100], [], [77, 77], []⟩
def tTw : TagP := ⟨[122, 104], [], [84, 87], []⟩
def tHt : TagP := ⟨[122, 104], [72, 97, 110, 116], [84, 87], []⟩
def tIb : TagP := ⟨[105, 119], [], [66, 85], []⟩
def tHb : TagP := ⟨[104, 101], [], [66, 85], []⟩
def tHm : TagP := ⟨[104, 101], [], [77, 77], []⟩
theorem pIw : parseP EC xIw.data.toList = (tIw, 0) := (show parseP EC xIw.data.toList = finT EC tIw by kernel_rfl).trans (finT_of _ _ (by decide +kernel))
theorem pHe : parseP EC xHe.data.toList = (tHe, 0) := (show parseP EC xHe.data.toList = finT EC tHe by kernel_rfl).trans (finT_of _ _ (by decide +kernel))
theorem pBu : parseP EC xBu.data.toList = (tBu, 0) := (show parseP EC xBu.data.toList = finT EC tBu by kernel_rfl).trans (finT_of _ _ (by decide +kernel))
theorem pMm : parseP EC xMm.data.toList = (tMm, 0) := (show parseP EC xMm.data.toList = finT EC tMm by kernel_rfl).trans (finT_of _ _ (by decide +kernel))
theorem pTw : parseP EC xTw.data.toList = (tTw, 0) := (show parseP EC xTw.data.toList = finT EC tTw by kernel_rfl).trans (finT_of _ _ (by decide +kernel))
theorem pHt : parseP EC xHt.data.toList = (tHt, 0) := (show parseP EC xHt.data.toList = finT EC tHt by kernel_rfl).trans (finT_of _ _ (by decide +kernel))
theorem pIb : parseP EC xIb.data.toList = (tIb, 0) := (show parseP EC xIb.data.toList = finT EC tIb by kernel_rfl).trans (finT_of _ _ (by decide +kernel))
theorem is_of {s : List UInt8} {t : TagP} (h : parseP EC s = (t, 0)) (h2 : textP t = s) : isP s = true := by
  unfold isP canP
  rw [h]
  simp [h2]
theorem ali_all : exL.all aliB = true := by
  have h1 := is_of pIw (by decide +kernel)
  have h2 := is_of pHe (by decide +kernel)
  have h3 := is_of pBu (by decide +kernel)
  have h4 := is_of pMm (by decide +kernel)
  have h5 := is_of pTw (by decide +kernel)
  have h6 := is_of pHt (by decide +kernel)
  unfold exL
  simp only [List.all_cons, List.all_nil, Bool.and_true, aliB, h1, h2, h3, h4, h5, h6, Bool.true_and]
  decide +kernel
def exR : List RuleP := [⟨tIw, tHe⟩, ⟨tBu, tMm⟩, ⟨tTw, tHt⟩]
theorem ex_rules : exL.map ruleOf = exR := by
  unfold exL exR
  simp only [List.map_cons, List.map_nil, ruleOf, pIw, pHe, pBu, pMm, pTw, pHt]
theorem varsP_nil : varsP [] [] [] = [] := by simp [varsP, sortS]
theorem repl0 (r : RuleP) (t : TagP) (hf : r.f.vars = []) (ho : r.o.vars = []) (ht : t.vars = []) :
    replP r t = ⟨if r.f.lang == undP && r.o.lang == undP then t.lang else r.o.lang, fieldP r.f.script r.o.script t.script, fieldP r.f.region r.o.region t.region, []⟩ := by
  unfold replP
  rw [hf, ho, ht, varsP_nil]
def stepQ : List RuleP → TagP → Option TagP
  | [], _ => none
  | r :: l, t => if fitsP r t && !eqT ⟨if r.f.lang == undP && r.o.lang == undP then t.lang else r.o.lang, fieldP r.f.script r.o.script t.script, fieldP r.f.region r.o.region t.region, []⟩ t then
      some ⟨if r.f.lang == undP && r.o.lang == undP then t.lang else r.o.lang, fieldP r.f.script r.o.script t.script, fieldP r.f.region r.o.region t.region, []⟩ else stepQ l t
theorem stepQ_eq {t : TagP} (ht : t.vars = []) : ∀ l : List RuleP, (∀ r ∈ l, r.f.vars = [] ∧ r.o.vars = []) → stepP l t = stepQ l t
  | [], _ => rfl
  | r :: l, h => by
    unfold stepP stepQ
    rw [repl0 r t (h r (by simp)).1 (h r (by simp)).2 ht, stepQ_eq ht l (fun r hr => h r (by simp [hr]))]
theorem ex_novars : ∀ r ∈ exR, r.f.vars = [] ∧ r.o.vars = [] := by
  intro r hr
  unfold exR at hr
  simp at hr
  rcases hr with rfl | rfl | rfl <;> exact ⟨rfl, rfl⟩
instance : DecidableEq TagP := fun a b => decidable_of_iff (eqT a b = true) (eqT_iff a b)
theorem aws1 : stepP exR tIb = some tHb := by rw [stepQ_eq rfl _ ex_novars]; decide +kernel
theorem aws2 : stepP exR tHb = some tHm := by rw [stepQ_eq rfl _ ex_novars]; decide +kernel
theorem aws3 : stepP exR tHm = none := by rw [stepQ_eq rfl _ ex_novars]; decide +kernel
theorem aws4 : stepP exR tTw = some tHt := by rw [stepQ_eq rfl _ ex_novars]; decide +kernel
theorem aws5 : stepP exR tHt = none := by rw [stepQ_eq rfl _ ex_novars]; decide +kernel
theorem aws6 : stepP exR tHe = none := by rw [stepQ_eq rfl _ ex_novars]; decide +kernel
theorem aws7 : stepP exR tMm = none := by rw [stepQ_eq rfl _ ex_novars]; decide +kernel
theorem ex_steps : stepsL exL xIb.data.toList = ([[105, 119, 45, 66, 85], [104, 101, 45, 66, 85], [104, 101, 45, 77, 77]], 0) := by
  unfold stepsL
  rw [if_pos ali_all, pIb, ex_rules]
  simp only [if_true]
  have h3 : stepsP 6 15 exR 18 tHm = ([tHm], 0) := steps_none aws3
  have h2 : stepsP 6 15 exR 19 tHb = ([tHb, tHm], 0) := by rw [steps_go aws2 (by decide), h3]; rfl
  have h1 : stepsP 6 15 exR 20 tIb = ([tIb, tHb, tHm], 0) := by rw [steps_go aws1 (by decide), h2]; rfl
  rw [h1]
  decide +kernel
theorem exA_can : canL exL xTw.data.toList = ([122, 104, 45, 72, 97, 110, 116, 45, 84, 87], 0) := by
  have h : stepsL exL xTw.data.toList = ([[122, 104, 45, 84, 87], [122, 104, 45, 72, 97, 110, 116, 45, 84, 87]], 0) := by
    unfold stepsL
    rw [if_pos ali_all, pTw, ex_rules]
    simp only [if_true]
    have h2 : stepsP 6 15 exR 19 tHt = ([tHt], 0) := steps_none aws5
    have h1 : stepsP 6 15 exR 20 tTw = ([tTw, tHt], 0) := by rw [steps_go aws4 (by decide), h2]; rfl
    rw [h1]
    decide +kernel
  unfold canL
  rw [h]
  rfl
theorem ex_valid : validL exL = true := by
  unfold validL
  rw [ali_all, ex_rules]
  have h1 : apartL exL = true := by decide +kernel
  have h2 : exL.all (fun a => (stepP exR (ruleOf a).o).isNone) = true := by
    unfold exL
    simp only [List.all_cons, List.all_nil, Bool.and_true, ruleOf, pHe, pMm, pHt, aws5, aws6, aws7]
    rfl
  rw [h1, h2]
  rfl
end Go.Proofs.YtcfgphhhgemkdaaDoor
