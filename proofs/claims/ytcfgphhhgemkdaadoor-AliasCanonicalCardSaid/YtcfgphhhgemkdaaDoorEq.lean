import Derived.Test.YtcfgphhhgemkdaaDoorTagF
namespace Go.Proofs.YtcfgphhhgemkdaaDoor
open Go.RowKit
set_option linter.unusedSimpArgs false
set_option linter.unusedVariables false

def eqP (t u : TagP) : Bool := t.lang == u.lang && t.script == u.script && t.region == u.region && t.vars == u.vars
theorem eqP_iff (t u : TagP) : eqP t u = true ↔ t = u := by
  obtain ⟨a, b, c, d⟩ := t
  obtain ⟨a', b', c', d'⟩ := u
  simp [eqP, and_assoc]
theorem eqP_self (t : TagP) : eqP t t = true := (eqP_iff t t).2 rfl

/-- Whether a text is a canonical one. -/
def isP (s : List UInt8) : Bool := (canP s).2 == 0 && (canP s).1 == s
end Go.Proofs.YtcfgphhhgemkdaaDoor
