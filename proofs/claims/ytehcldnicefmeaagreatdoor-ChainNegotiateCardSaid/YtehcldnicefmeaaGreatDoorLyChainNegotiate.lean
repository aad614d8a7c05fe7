import Derived.Test.YtehcldnicefmeaaGreatDoorNYB
namespace Go.Proofs.YtehcldnicefmeaaGreatDoor.lawChainNegotiate
open Go.ChangeShapes Go.WideShapes Go.ChangeAt Go.RowKit
open Go.ChangeMaps (open_string shut_string)
set_option linter.unusedSimpArgs false
set_option linter.unusedVariables false

set_option maxHeartbeats 0 in
theorem closed : joinedFacts Tryz.pinned.checked.prog 9 Tryz.f9 Rows.chainNegotiateSpec Rows.chainNegotiateRow = true := by
  unfold joinedFacts
  simp only [Bool.and_eq_true]
  repeat' apply And.intro
  all_goals as_aux_lemma => kernel_rfl
theorem row : Rows.chainNegotiateRow.holds Tryz.pinned (OpenSpec.ofChange Rows.chainNegotiateSpec) :=
  OpenClaim.holds_of_wide 9 Tryz.f9 rfl rfl rfl rfl rfl rfl rfl ⟨rfl, rfl, rfl, rfl, rfl⟩ rfl rfl rfl rfl rfl (by kernel_rfl) Tryz.func9 closed
    (of_decide_eq_true (by kernel_rfl)) (by unfold Func.isWrapper; first | (rw [if_pos (by decide +kernel)]; kernel_rfl) | (rw [if_neg (by decide +kernel)]; exact ⟨rfl, rfl⟩))
    (fun os started H enc _ => lifted os started H enc)
theorem card : Rows.ChainNegotiateCardSaid :=
  Claim7.holds_tied_plain_at .later [] [.data, .pinned] true (true, "e72094b6db5ee2f32ffe4ec2cd8b13129e571c569e765fbe450c0b3c310799d4") false row (fun _ h => by cases h) (by kernel_rfl) (fun _ h => by cases h) chainNegotiate_row_tie rfl ⟨rfl, rfl⟩ (by kernel_rfl) rfl
    (fun f fn hf hfn => by
      obtain rfl : f = 9 := Option.some.inj ((show Tryz.prog.funcNamed "calque/calquelaw22.ChainNegotiate" = some 9 by kernel_rfl).symm.trans hf) |>.symm
      obtain rfl : fn = Tryz.f9 := (Option.some.inj (Tryz.func9.symm.trans hfn)).symm
      exact ⟨by kernel_rfl, fun j t ht => by
        rw [Tryz.params9] at ht
        have hm : t ∈ [26, 29] := by simpa using Array.mem_of_getElem? ht
        have hall : ([26, 29].all fun u => !Tryz.prog.wantsStandIn u) = true := by kernel_rfl
        exact (show Tryz.prog.wantsStandIn t = false by simpa using List.all_eq_true.1 hall t hm)⟩)
    (by kernel_rfl)
#print axioms card
end Go.Proofs.YtehcldnicefmeaaGreatDoor.lawChainNegotiate
