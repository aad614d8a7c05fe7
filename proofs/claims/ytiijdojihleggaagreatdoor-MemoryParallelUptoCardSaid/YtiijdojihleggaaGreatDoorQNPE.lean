import Derived.Test.YtiijdojihleggaaGreatDoorQBaseg
set_option maxRecDepth 100000
set_option linter.unusedSimpArgs false
set_option linter.unusedVariables false
namespace Go.Proofs.YtiijdojihleggaaGreatDoor
abbrev ArgP := By × Int
def getA : List ArgP → By → Option Int
 | [], _ => none
 | x :: r, n => if x.1 = n then some x.2 else getA r n
end Go.Proofs.YtiijdojihleggaaGreatDoor
namespace Go.Proofs.YtiijdojihleggaaGreatDoor
end Go.Proofs.YtiijdojihleggaaGreatDoor
