import Derived.Test.YtiijdojihleggaaGreatDoorLxMemoryParallel
set_option maxRecDepth 100000
set_option linter.unusedSimpArgs false
set_option linter.unusedVariables false
namespace Go.Proofs.YtiijdojihleggaaGreatDoor.lawMemoryParallel
open Go.ChangeShapes Go.WideShapes Go.ChangeAt Go.RowKit
open Go.ChangeMaps (open_string shut_string)
set_option maxHeartbeats 0 in
theorem closed : joinedFacts Tryz.pinned.checked.prog 6 Tryz.f6 (Rows.OpenSpec.upto Rows.memoryParallelSpec).bare Rows.memoryParallelUptoRow = true := by
 unfold joinedFacts
 simp only [Bool.and_eq_true]
 repeat' apply And.intro
 all_goals as_aux_lemma => kernel_rfl
theorem rowU : Rows.memoryParallelUptoRow.holds Tryz.pinned (Rows.OpenSpec.upto Rows.memoryParallelSpec) :=
 OpenClaim.holds_of_cond 6 Tryz.f6 rfl rfl rfl rfl rfl rfl rfl ⟨rfl, rfl, rfl, rfl, rfl⟩ rfl rfl rfl rfl rfl (by kernel_rfl) Tryz.func6 closed
  (of_decide_eq_true (by kernel_rfl)) (by unfold Func.isWrapper; first | (rw [if_pos (by decide +kernel)]; kernel_rfl) | (rw [if_neg (by decide +kernel)]; exact ⟨rfl, rfl⟩))
  (fun os started H enc _ F => by rw [OpenClaim.pre_eq_preRow]; exact liftedU os started H enc F)
theorem cardUpto : Rows.MemoryParallelUptoCardSaid :=
 Claim7.holds_tied_plain_at .later [] [.data, .pinned] true (true, "6cd1fc572866a68afe91e9cbf86c288699b3e3622db47942b0d4106b6fac5181") false rowU (fun _ h => by cases h) (by kernel_rfl) (fun _ h => by cases h) memoryParallelUpto_row_tie rfl ⟨rfl, rfl⟩ (by kernel_rfl) rfl
  (fun f fn hf hfn => by
   obtain rfl : f = 6 := Option.some.inj ((show Tryz.prog.funcNamed "calque/calquelaw46.MemoryParallel" = some 6 by kernel_rfl).symm.trans hf) |>.symm
   obtain rfl : fn = Tryz.f6 := (Option.some.inj (Tryz.func6.symm.trans hfn)).symm
   exact ⟨by kernel_rfl, fun j t ht => by
    rw [Tryz.params6] at ht
    have hm : t ∈ [47, 47] := by simpa using Array.mem_of_getElem? ht
    have hall : ([47, 47].all fun u => !Tryz.prog.wantsStandIn u) = true := by kernel_rfl
    exact (show Tryz.prog.wantsStandIn t = false by simpa using List.all_eq_true.1 hall t hm)⟩)
  (by kernel_rfl)
#print axioms cardUpto
end Go.Proofs.YtiijdojihleggaaGreatDoor.lawMemoryParallel
