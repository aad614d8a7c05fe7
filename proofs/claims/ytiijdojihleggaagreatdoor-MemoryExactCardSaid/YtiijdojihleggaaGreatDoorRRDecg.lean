import Derived.Test.YtiijdojihleggaaGreatDoorRDec
import Derived.Test.YtiijdojihleggaaGreatDoorRNPO
set_option maxRecDepth 100000
set_option linter.unusedSimpArgs false
set_option linter.unusedVariables false
namespace Go.Proofs.YtiijdojihleggaaGreatDoor
open Go.RowKit
theorem AtC.other {T : TypeId} {w : World} {g : Nat} {cs : Array Value} (h : AtC T w g cs) {p : Addr} (hp : p.block ≠ g) (u : Value) : AtC T (w.setCell p u) g cs := by
 unfold AtC at h ⊢
 rw [World.setCell, Array.getElem?_modify, if_neg hp]
 exact h
end Go.Proofs.YtiijdojihleggaaGreatDoor
namespace Go.Proofs.YtiijdojihleggaaGreatDoor
open Go.RowKit
def strC (l : List By) : List Value := l.map fun x => .string ⟨x.toArray⟩
end Go.Proofs.YtiijdojihleggaaGreatDoor
