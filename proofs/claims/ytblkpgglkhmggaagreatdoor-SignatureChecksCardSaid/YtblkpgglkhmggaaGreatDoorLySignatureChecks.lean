import Derived.Test.YtblkpgglkhmggaaGreatDoorNYC
namespace Go.Proofs.YtblkpgglkhmggaaGreatDoor.lawSignatureChecks
open Go.ChangeShapes Go.WideShapes Go.ChangeAt Go.RowKit
open Go.ChangeMaps (open_string shut_string)
set_option linter.unusedSimpArgs false
set_option linter.unusedVariables false

set_option maxHeartbeats 0 in
theorem closed : joinedFacts Tryz.pinned.checked.prog 7 Tryz.f7 Rows.signatureChecksSpec Rows.signatureChecksRow = true := by
  unfold joinedFacts
  simp only [Bool.and_eq_true]
  repeat' apply And.intro
  all_goals as_aux_lemma => kernel_rfl
theorem row : Rows.signatureChecksRow.holds Tryz.pinned (OpenSpec.ofChange Rows.signatureChecksSpec) :=
  OpenClaim.holds_of_wide 7 Tryz.f7 rfl rfl rfl rfl rfl rfl rfl ⟨rfl, rfl, rfl, rfl, rfl⟩ rfl rfl rfl rfl rfl (by kernel_rfl) Tryz.func7 closed
    (of_decide_eq_true (by kernel_rfl)) (by unfold Func.isWrapper; first | (rw [if_pos (by decide +kernel)]; kernel_rfl) | (rw [if_neg (by decide +kernel)]; exact ⟨rfl, rfl⟩))
    (fun os started H enc _ => lifted os started H enc)
theorem card : Rows.SignatureChecksCardSaid :=
  Claim7.holds_tied_plain_at .later [] [.data, .pinned] true (true, "4e81300487dafc02708c3f2681346c23fff23b608ddd5a1dc5cb355db762c851") false row (fun _ h => by cases h) (by kernel_rfl) (fun _ h => by cases h) signatureChecks_row_tie rfl ⟨rfl, rfl⟩ (by kernel_rfl) rfl
    (fun f fn hf hfn => by
      obtain rfl : f = 7 := Option.some.inj ((show Tryz.prog.funcNamed "calque/calquelaw28.SignatureChecks" = some 7 by kernel_rfl).symm.trans hf) |>.symm
      obtain rfl : fn = Tryz.f7 := (Option.some.inj (Tryz.func7.symm.trans hfn)).symm
      exact ⟨by kernel_rfl, fun j t ht => by
        rw [Tryz.params7] at ht
        have hm : t ∈ [25, 25, 40] := by simpa using Array.mem_of_getElem? ht
        have hall : ([25, 25, 40].all fun u => !Tryz.prog.wantsStandIn u) = true := by kernel_rfl
        exact (show Tryz.prog.wantsStandIn t = false by simpa using List.all_eq_true.1 hall t hm)⟩)
    (by kernel_rfl)
#print axioms card
end Go.Proofs.YtblkpgglkhmggaaGreatDoor.lawSignatureChecks
