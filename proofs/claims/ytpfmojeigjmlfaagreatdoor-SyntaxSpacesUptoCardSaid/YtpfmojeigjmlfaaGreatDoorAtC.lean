import Derived.Test.YtpfmojeigjmlfaaGreatDoorBase
namespace Go.Proofs.YtpfmojeigjmlfaaGreatDoor
open Go.RowKit
set_option linter.unusedSimpArgs false
set_option linter.unusedVariables false

/-- A struct of whatever length in memory. -/
def AtC (T : TypeId) (w : World) (g : Nat) (cs : Array Value) : Prop := w.heap[g]? = some (.cells cs T (0, 0))
section
variable {T : TypeId} {w w' : World} {g : Nat} {cs : Array Value}
theorem AtC.lt (h : AtC T w g cs) : g < w.heap.size := (Array.getElem?_eq_some_iff.1 h).1
theorem AtC.cell (h : AtC T w g cs) (j : Nat) (u : Value) (hu : cs[j]? = some u) : w.cell? ⟨g, j, none⟩ = some u := by
  unfold AtC at h
  simp [World.cell?, h, hu]
theorem AtC.below {B : Nat} (h : AtC T w g cs) (hw : Below B w w') (hg : g < B) : AtC T w' g cs := (Below.block hw g hg).trans h
theorem AtC.ext (h : AtC T w g cs) (hw : Ext w w') : AtC T w' g cs := h.below hw h.lt
theorem AtC.new (w : World) (cs : Array Value) : AtC T (w.alloc (.cells cs T)) w.heap.size cs := heap_alloc_new w _
theorem AtC.alloc (h : AtC T w g cs) (o : Obj) : AtC T (w.alloc o) g cs := h.ext ((Ext.refl w).alloc o)
end
end Go.Proofs.YtpfmojeigjmlfaaGreatDoor
