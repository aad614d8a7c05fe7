import Derived.Test.YtpfmojeigjmlfaaGreatDoorLwSignatureInfer
import Derived.Test.YtpfmojeigjmlfaaGreatDoorNPX
import Derived.Test.YtpfmojeigjmlfaaGreatDoorShelf
import Derived.Test.YtpfmojeigjmlfaaGreatDoorRows
import Derived.Test.YtpfmojeigjmlfaaGreatDoorCards
import Derived.Test.YtpfmojeigjmlfaaGreatDoorTie
import Derived.Shelf.Vars
/- SignatureInfer: the law returns true and changes nothing of its arguments; condition: the arguments are together of bulk at most 1048576 (the second form). -/
namespace Go.Proofs.YtpfmojeigjmlfaaGreatDoor.lawSignatureInfer
open Go.ChangeShapes Go.WideShapes Go.ChangeAt Go.RowKit
open Go.ChangeMaps (open_string shut_string)
set_option linter.unusedSimpArgs false
set_option linter.unusedVariables false

def laidL : List (String × DataW Unit) := Rows.signatureInferUptoRow.laid
theorem mx_of {W : World} (h : W.ShapedOpen Tryz.prog) : Mx W := Go.Proofs.cell_of_shapedOpen_int (zero := #[.int .i64 0]) (t := 3) h (of_decide_eq_true (by kernel_rfl)) (by kernel_rfl) rfl (by kernel_rfl) (by kernel_rfl) Tryz.underlying3
set_option maxRecDepth 100000 in
theorem liftedU (os : Os) (started : os.Started) (H : Type) (enc : TypeId × Value → H) (F : Stop.Interp) :
    ReturnsInHanded {} Tryz.checked os 8 .any ((Rows.OpenSpec.upto Rows.signatureInferSpec).preRow enc Tryz.prog Tryz.f8 Rows.signatureInferUptoRow.domain false Rows.signatureInferUptoRow.laid)
      (((Rows.OpenSpec.upto Rows.signatureInferSpec).at F).post enc Tryz.prog Tryz.f8 false true false false) := by
  refine returnsInHanded_of_row (C := Tryz.checked) (s := Rows.OpenSpec.upto Rows.signatureInferSpec) own started (by kernel_rfl) Tryz.func8
    (witness_row_shaped (enc := enc) (C := Tryz.checked) (os := os) false (World.laidAll Tryz.prog os laidL) #[.slice none 0 0] (World.laidAll_os _ _ _) (World.shaped_of_ZipB (by kernel_rfl) (by kernel_rfl)) (by kernel_rfl)
      (OpenSpec.preRow_of_cond 8 (x := ([.nil], [], [])) (by kernel_rfl) (by kernel_rfl) (fun k hk => by cases hk; kernel_rfl) (by kernel_rfl)
        (by rw [MakeChecks.laidMetH_plain _ _ _ (by kernel_rfl)]; exact laidMet_laidAll _ (by kernel_rfl) (by kernel_rfl)))) ?_
  intro W base args ds gs before hval0 hW _ hcond _ hL hshape _
  have hval : ∀ (j : Nat) t v, Tryz.f8.params[j]? = some t → args[j]? = some v → Value.okWide Tryz.prog W .any base t v := hval0
  have hW' := hW
  obtain ⟨p, q, hA0, hV, rfl, hfz, hnd⟩ := hW
  have hA : DataW.TrodAll enc Tryz.prog W 0 (fun _ => true) true Tryz.f8.params.toList args.toList ds p := hA0
  rw [Tryz.params8] at hA hval
  obtain ⟨v0, d0, rfl, rfl, h0⟩ := trodAll_one hA
  have hk : Rows.uptoSmall H ([d0] ++ gs) = true := hcond _ rfl
  have hk2 := of_decide_eq_true hk
  have hb : Rows.uptoBulkAll ([d0] ++ gs) = Rows.uptoBulk d0 + (Rows.uptoBulkAll gs) := by
    simp only [List.cons_append, List.nil_append, Rows.uptoBulkAll]
  rw [hb] at hk2
  obtain ⟨f, hF0, hC0, hw0, hcap0⟩ := open_parts (okWide_slice Tryz.underlying22 (hval 0 22 v0 rfl rfl)) h0 (by omega)
  refine (law W (mx_of hshape) hF0 hC0 (by omega)).mono fun e W' ⟨he, hw⟩ => ?_
  subst he
  exact ⟨_, rfl, law_post (t := 4) laidOut (by rw [Tryz.params8]; intro t ht; simp at ht; subst ht <;> exact ⟨by kernel_rfl, of_decide_eq_true (by kernel_rfl)⟩) rfl Tryz.underlying4 rfl ⟨rfl, rfl, rfl⟩ hW' hw⟩
end Go.Proofs.YtpfmojeigjmlfaaGreatDoor.lawSignatureInfer
