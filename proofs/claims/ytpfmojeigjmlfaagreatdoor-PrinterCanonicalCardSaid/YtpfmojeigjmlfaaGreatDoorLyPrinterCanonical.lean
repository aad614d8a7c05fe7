import Derived.Test.YtpfmojeigjmlfaaGreatDoorLxPrinterCanonical
set_option maxRecDepth 100000
set_option linter.unusedSimpArgs false
set_option linter.unusedVariables false
namespace Go.Proofs.YtpfmojeigjmlfaaGreatDoor.lawPrinterCanonical
open Go.ChangeShapes Go.WideShapes Go.ChangeAt Go.RowKit
open Go.ChangeMaps (open_string shut_string)
set_option maxHeartbeats 0 in
theorem closed : joinedFacts Tryz.pinned.checked.prog 5 Tryz.f5 Rows.printerCanonicalSpec Rows.printerCanonicalRow = true := by
 unfold joinedFacts
 simp only [Bool.and_eq_true]
 repeat' apply And.intro
 all_goals as_aux_lemma => kernel_rfl
theorem row : Rows.printerCanonicalRow.holds Tryz.pinned (OpenSpec.ofChange Rows.printerCanonicalSpec) :=
 OpenClaim.holds_of_wide 5 Tryz.f5 rfl rfl rfl rfl rfl rfl rfl ⟨rfl, rfl, rfl, rfl, rfl⟩ rfl rfl rfl rfl rfl (by kernel_rfl) Tryz.func5 closed
  (of_decide_eq_true (by kernel_rfl)) (by unfold Func.isWrapper; first | (rw [if_pos (by decide +kernel)]; kernel_rfl) | (rw [if_neg (by decide +kernel)]; exact ⟨rfl, rfl⟩))
  (fun os started H enc _ => lifted os started H enc)
theorem card : Rows.PrinterCanonicalCardSaid :=
 Claim7.holds_tied_plain_at .later [] [.data, .pinned] true (true, "ec4c9d8d2bda38e21a6f76321e638541728798513a0198d7e48cce99ba37c59c") false row (fun _ h => by cases h) (by kernel_rfl) (fun _ h => by cases h) printerCanonical_row_tie rfl ⟨rfl, rfl⟩ (by kernel_rfl) rfl
  (fun f fn hf hfn => by
   obtain rfl : f = 5 := Option.some.inj ((show Tryz.prog.funcNamed "calque/calquelaw27.PrinterCanonical" = some 5 by kernel_rfl).symm.trans hf) |>.symm
   obtain rfl : fn = Tryz.f5 := (Option.some.inj (Tryz.func5.symm.trans hfn)).symm
   exact ⟨by kernel_rfl, fun j t ht => by
    rw [Tryz.params5] at ht
    have hm : t ∈ [9] := by simpa using Array.mem_of_getElem? ht
    have hall : ([9].all fun u => !Tryz.prog.wantsStandIn u) = true := by kernel_rfl
    exact (show Tryz.prog.wantsStandIn t = false by simpa using List.all_eq_true.1 hall t hm)⟩)
  (by kernel_rfl)
#print axioms card
end Go.Proofs.YtpfmojeigjmlfaaGreatDoor.lawPrinterCanonical
