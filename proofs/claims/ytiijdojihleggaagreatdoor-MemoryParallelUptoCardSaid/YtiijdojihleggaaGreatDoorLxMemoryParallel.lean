import Derived.Test.YtiijdojihleggaaGreatDoorLwMemoryParallel
import Derived.Test.YtiijdojihleggaaGreatDoorQJag
import Derived.Test.YtiijdojihleggaaGreatDoorShelf
import Derived.Test.YtiijdojihleggaaGreatDoorRows
import Derived.Test.YtiijdojihleggaaGreatDoorCards
import Derived.Test.YtiijdojihleggaaGreatDoorTie
import Derived.Shelf.Vars
set_option maxRecDepth 100000
set_option linter.unusedSimpArgs false
set_option linter.unusedVariables false
/- MemoryParallel: the law returns true and changes nothing of its arguments; condition: the arguments are together of bulk at most 1048576 (the second form). -/
namespace Go.Proofs.YtiijdojihleggaaGreatDoor.lawMemoryParallel
open Go.ChangeShapes Go.WideShapes Go.ChangeAt Go.RowKit
open Go.ChangeMaps (open_string shut_string)
def laidL : List (String × DataW Unit) := Rows.memoryParallelUptoRow.laid
theorem mx_of {W : World} (h : W.ShapedOpen Tryz.prog) : Mx W := Go.Proofs.cell_of_shapedOpen_int (zero := #[.int .i64 0]) (t := 3) h (of_decide_eq_true (by kernel_rfl)) (by kernel_rfl) rfl (by kernel_rfl) (by kernel_rfl) Tryz.underlying3
theorem liftedU (os : Os) (started : os.Started) (H : Type) (enc : TypeId × Value → H) (F : Stop.Interp) :
 ReturnsInHanded {} Tryz.checked os 6 .any ((Rows.OpenSpec.upto Rows.memoryParallelSpec).preRow enc Tryz.prog Tryz.f6 Rows.memoryParallelUptoRow.domain false Rows.memoryParallelUptoRow.laid)
  (((Rows.OpenSpec.upto Rows.memoryParallelSpec).at F).post enc Tryz.prog Tryz.f6 false true false false) := by
 refine returnsInHanded_of_row (C := Tryz.checked) (s := Rows.OpenSpec.upto Rows.memoryParallelSpec) own started (by kernel_rfl) Tryz.func6
  (witness_row_shaped (enc := enc) (C := Tryz.checked) (os := os) false (World.laidAll Tryz.prog os laidL) #[.slice none 0 0, .slice none 0 0] (World.laidAll_os _ _ _) (World.shaped_of_ZipB (by kernel_rfl) (by kernel_rfl)) (by kernel_rfl)
   (OpenSpec.preRow_of_cond 8 (x := ([.nil, .nil], [], [])) (by kernel_rfl) (by kernel_rfl) (fun k hk => by cases hk; kernel_rfl) (by kernel_rfl)
    (by rw [MakeChecks.laidMetH_plain _ _ _ (by kernel_rfl)]; exact laidMet_laidAll _ (by kernel_rfl) (by kernel_rfl)))) ?_
 intro W base args ds gs before hval0 hW _ hcond _ hL hshape _
 have hval : ∀ (j : Nat) t v, Tryz.f6.params[j]? = some t → args[j]? = some v → Value.okWide Tryz.prog W .any base t v := hval0
 have hW' := hW
 obtain ⟨p, q, hA0, hV, rfl, hfz, hnd⟩ := hW
 have hA : DataW.TrodAll enc Tryz.prog W 0 (fun _ => true) true Tryz.f6.params.toList args.toList ds p := hA0
 rw [Tryz.params6] at hA hval
 obtain ⟨v0, v1, d0, d1, p0, p1, rfl, rfl, rfl, h0, h1⟩ := trodAll_two hA
 have hk : Rows.uptoSmall H ([d0, d1] ++ gs) = true := hcond _ rfl
 have hk2 := of_decide_eq_true hk
 have hb : Rows.uptoBulkAll ([d0, d1] ++ gs) = Rows.uptoBulk d0 + (Rows.uptoBulk d1 + (Rows.uptoBulkAll gs)) := by
  simp only [List.cons_append, List.nil_append, Rows.uptoBulkAll]
 rw [hb] at hk2
 obtain ⟨f, hF0, hC0, hw0, hcap0⟩ := open_parts (okWide_slice Tryz.underlying47 (hval 0 47 v0 rfl rfl)) h0 (by omega)
 obtain ⟨g, hF1, hC1, hw1, hcap1⟩ := open_parts (okWide_slice Tryz.underlying47 (hval 1 47 v1 rfl rfl)) h1 (by omega)
 refine (law W (mx_of hshape) hF0 hC0 (by omega) hF1 hC1 (by omega)).mono fun e W' ⟨he, hw⟩ => ?_
 subst he
 exact ⟨_, rfl, law_post (t := 4) laidOut (by rw [Tryz.params6]; intro t ht; simp at ht; subst ht <;> exact ⟨by kernel_rfl, of_decide_eq_true (by kernel_rfl)⟩) rfl Tryz.underlying4 rfl ⟨rfl, rfl, rfl⟩ hW' hw⟩
end Go.Proofs.YtiijdojihleggaaGreatDoor.lawMemoryParallel
