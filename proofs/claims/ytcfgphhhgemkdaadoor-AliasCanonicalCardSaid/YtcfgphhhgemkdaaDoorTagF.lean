import Derived.Test.YtcfgphhhgemkdaaDoorTagY
import Derived.Test.YtcfgphhhgemkdaaDoorFlat
namespace Go.Proofs.YtcfgphhhgemkdaaDoor
open Go.RowKit
set_option linter.unusedSimpArgs false
set_option linter.unusedVariables false

theorem sortS_nil : sortS [] = [] := by simp [sortS]
theorem n_le {w : World} {A : Option Addr} {n : Nat} {t : TagP} (h : Sl w A n (t.vars.map strv)) (ht : TL t) : n ≤ 60000 := by
  have h1 := h.1
  rw [List.length_map] at h1
  rw [← h1]
  exact ht.2.2.2.2
/-- What stands at the head behind a step up: the tag's block has been written. -/
theorem set4 {T : TypeId} {w : World} {g : Nat} {v0 v1 v2 v3 : Value} (h : AtT T w g v0 v1 v2 v3) (u0 u1 u2 u3 : Value) :
    AtT T ((((w.setCell ⟨g, 0, none⟩ u0).setCell ⟨g, 1, none⟩ u1).setCell ⟨g, 2, none⟩ u2).setCell ⟨g, 3, none⟩ u3) g u0 u1 u2 u3 := (((h.set0 u0).set1 u1).set2 u2).set3 u3
theorem set4_kept (w : World) (g : Nat) (u0 u1 u2 u3 : Value) : w.heap.size ≤ ((((w.setCell ⟨g, 0, none⟩ u0).setCell ⟨g, 1, none⟩ u1).setCell ⟨g, 2, none⟩ u2).setCell ⟨g, 3, none⟩ u3).heap.size ∧ ∀ b, b ≠ g → ((((w.setCell ⟨g, 0, none⟩ u0).setCell ⟨g, 1, none⟩ u1).setCell ⟨g, 2, none⟩ u2).setCell ⟨g, 3, none⟩ u3).heap[b]? = w.heap[b]? := by
  refine ⟨by simp [World.setCell], fun b hb => ?_⟩
  rw [heap_setCell_other _ _ _ _ (by exact hb), heap_setCell_other _ _ _ _ (by exact hb), heap_setCell_other _ _ _ _ (by exact hb), heap_setCell_other _ _ _ _ (by exact hb)]

end Go.Proofs.YtcfgphhhgemkdaaDoor
