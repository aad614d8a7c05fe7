import Derived.Test.YtljdlkonlnjadaaGreatDoorNLI
set_option maxRecDepth 100000
set_option linter.unusedSimpArgs false
set_option linter.unusedVariables false
namespace Go.Proofs.YtljdlkonlnjadaaGreatDoor.lawChainInherits
open Go.ChangeShapes Go.WideShapes Go.ChangeAt Go.RowKit
open Go.ChangeMaps (open_string shut_string)
set_option maxHeartbeats 0 in
theorem closed : joinedFacts Tryz.pinned.checked.prog 4 Tryz.f4 Rows.chainInheritsSpec Rows.chainInheritsRow = true := by
 unfold joinedFacts
 simp only [Bool.and_eq_true]
 repeat' apply And.intro
 all_goals as_aux_lemma => kernel_rfl
theorem row : Rows.chainInheritsRow.holds Tryz.pinned (OpenSpec.ofChange Rows.chainInheritsSpec) :=
 OpenClaim.holds_of_wide 4 Tryz.f4 rfl rfl rfl rfl rfl rfl rfl ⟨rfl, rfl, rfl, rfl, rfl⟩ rfl rfl rfl rfl rfl (by kernel_rfl) Tryz.func4 closed
  (of_decide_eq_true (by kernel_rfl)) (by unfold Func.isWrapper; first | (rw [if_pos (by decide +kernel)]; kernel_rfl) | (rw [if_neg (by decide +kernel)]; exact ⟨rfl, rfl⟩))
  (fun os started H enc _ => lifted os started H enc)
theorem card : Rows.ChainInheritsCardSaid :=
 Claim7.holds_tied_plain_at .later [] [.data, .pinned] true (true, "ff9a21b25c5f6f4f9eda00d832801823bd8123d6e4a8a45340dd6b6deb113403") false row (fun _ h => by cases h) (by kernel_rfl) (fun _ h => by cases h) chainInherits_row_tie rfl ⟨rfl, rfl⟩ (by kernel_rfl) rfl
  (fun f fn hf hfn => by
   obtain rfl : f = 4 := Option.some.inj ((show Tryz.prog.funcNamed "calque/calquelaw22.ChainInherits" = some 4 by kernel_rfl).symm.trans hf) |>.symm
   obtain rfl : fn = Tryz.f4 := (Option.some.inj (Tryz.func4.symm.trans hfn)).symm
   exact ⟨by kernel_rfl, fun j t ht => by
    rw [Tryz.params4] at ht
    have hm : t ∈ [26, 9] := by simpa using Array.mem_of_getElem? ht
    have hall : ([26, 9].all fun u => !Tryz.prog.wantsStandIn u) = true := by kernel_rfl
    exact (show Tryz.prog.wantsStandIn t = false by simpa using List.all_eq_true.1 hall t hm)⟩)
  (by kernel_rfl)
#print axioms card
end Go.Proofs.YtljdlkonlnjadaaGreatDoor.lawChainInherits
