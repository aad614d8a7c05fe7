import Derived.Test.YtpfmojeigjmlfaaGreatDoorNP2
import Derived.Test.YtpfmojeigjmlfaaGreatDoorGb
import Derived.Test.YtpfmojeigjmlfaaGreatDoorNB1
set_option maxRecDepth 100000
set_option linter.unusedSimpArgs false
set_option linter.unusedVariables false
namespace Go.Proofs.YtpfmojeigjmlfaaGreatDoor
open Go.RowKit
theorem flJ_nodes : ∀ f : F, f.len ≤ f.nodes := by
 intro f
 induction f with
 | nil => exact Nat.le_refl _
 | cons k t n s c p r _ _ ih => rw [F.len, F.nodes]; omega
end Go.Proofs.YtpfmojeigjmlfaaGreatDoor
