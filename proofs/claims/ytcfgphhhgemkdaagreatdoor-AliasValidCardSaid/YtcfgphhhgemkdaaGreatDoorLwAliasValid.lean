import Derived.Test.YtcfgphhhgemkdaaGreatDoorAX6
import Derived.Test.YtcfgphhhgemkdaaGreatDoorAX5
import Derived.Test.YtcfgphhhgemkdaaGreatDoorAX4
import Derived.Test.YtcfgphhhgemkdaaGreatDoorShelf
import Derived.Test.YtcfgphhhgemkdaaGreatDoorRows
import Derived.Test.YtcfgphhhgemkdaaGreatDoorCards
import Derived.Test.YtcfgphhhgemkdaaGreatDoorTie
import Derived.Shelf.Vars
namespace Go.Proofs.YtcfgphhhgemkdaaGreatDoor.lawAliasValid
open Go.ChangeShapes Go.WideShapes Go.ChangeAt Go.RowKit
open Go.ChangeMaps (open_string shut_string)
set_option linter.unusedSimpArgs false
set_option linter.unusedVariables false

def laidL : List (String × DataW Unit) := Rows.aliasValidRow.laid
theorem mx_of {W : World} (h : W.ShapedOpen Tryz.prog) : Mx W := Tryz.laysM146.s1_3 W h

set_option maxRecDepth 100000 in
set_option maxHeartbeats 1000000 in
theorem law (l : List Ali) (A : Option Addr) (n c : Nat) (w : World) (hm : Mx w) (hA : Als w A n l) (hn : n ≤ maxLen) (hz : ∀ a ∈ l, a.1.size ≤ reachBytes ∧ a.2.size ≤ reachBytes) : Calls Tryz.prog 3 #[.slice A n c] w (RetTrue w) := by
  have hfw := fun W h => few20_any l A n c W h hn hz
  have hlen := hA.len
  cases hf : fewL l with
  | false =>
    rw [hf] at hfw
    have HFW := Lib.hid hfw
    clear hfw hf hlen
    go_enter Tryz.func3, Tryz.ntmps3
    go_wp2_with fail
    refine (awake_any _ hm).mono ?_
    rintro e w1 ⟨rfl, hw1⟩
    have HW1 := Lib.hid hw1
    clear hw1
    go_wp2_with fail
    refine (HFW.out _ (hA.ext HW1.out)).mono ?_
    rintro e w2 ⟨rfl, hw2⟩
    have HW2 := Lib.hid (HW1.out.trans hw2)
    clear hw2
    go_wp2_with fail
    refine (awake_any _ (hm.ext HW2.out)).mono ?_
    rintro e w3 ⟨rfl, hw3⟩
    have HW3 := Lib.hid (HW2.out.trans hw3)
    clear hw3
    go_wp2
    go_ret
    exact ⟨rfl, HW3.out⟩
  | true =>
    obtain ⟨h12, h60⟩ := fewL_len hf
    rw [hf] at hfw
    have hv1 := fun W hW h => taval_any l A n c W hW h (by omega) h60
    have hv2 := fun W h => rvalid20_any l A n c W h (by omega) h60
    generalize (validL l && decide (l.length ≤ 200)) = b at hv1 hv2
    have HFW := Lib.hid hfw
    have HV1 := Lib.hid hv1
    have HV2 := Lib.hid hv2
    clear hfw hf hlen hv1 hv2 h12 h60
    go_enter Tryz.func3, Tryz.ntmps3
    go_wp2_with fail
    refine (awake_any _ hm).mono ?_
    rintro e w1 ⟨rfl, hw1⟩
    have HW1 := Lib.hid hw1
    clear hw1
    go_wp2_with fail
    refine (HFW.out _ (hA.ext HW1.out)).mono ?_
    rintro e w2 ⟨rfl, hw2⟩
    have HW2 := Lib.hid (HW1.out.trans hw2)
    clear hw2
    go_wp2_with fail
    refine (HV1.out _ (hm.ext HW2.out) (hA.ext HW2.out)).mono ?_
    rintro e w3 ⟨rfl, hw3⟩
    have HW3 := Lib.hid (HW2.out.trans hw3)
    clear hw3
    go_wp2_with fail
    refine (HV2.out _ (hA.ext HW3.out)).mono ?_
    rintro e w4 ⟨rfl, hw4⟩
    have HW4 := Lib.hid (HW3.out.trans hw4)
    clear hw4
    cases b
    all_goals go_wp2
    all_goals go_ret
    all_goals exact ⟨rfl, HW4.out⟩

set_option maxRecDepth 100000 in
theorem lifted (os : Os) (started : os.Started) (H : Type) (enc : TypeId × Value → H) :
    ReturnsInHanded {} Tryz.checked os 3 .any (fun w args => (Rows.aliasValidSpec.pre enc Tryz.prog Tryz.f3 [] false w args ∧ laidMetH Tryz.prog laidL w) ∧ sizedMet enc Tryz.prog Tryz.f3 (OpenSpec.ofChange Rows.aliasValidSpec) false w args)
      (Rows.aliasValidSpec.post enc Tryz.prog Tryz.f3 false true false false) := by
  refine lifted_and_sized (C := Tryz.checked) (X := fun w _ => laidMetH Tryz.prog laidL w) (fun _ _ _ hh h => h.of_heap hh) own started (by kernel_rfl) Tryz.func3
    (ChangeSpec.witness_shaped (enc := enc) (C := Tryz.checked) (os := os) (X := fun w _ => laidMetH Tryz.prog laidL w) false (World.laidAll Tryz.prog os laidL) #[.slice none 0 0] 8 (World.laidAll_os _ _ _)
      (World.shaped_of_ZipB (by kernel_rfl) (by kernel_rfl)) (by kernel_rfl) (by kernel_rfl) (by kernel_rfl)
      (by rw [MakeChecks.laidMetH_plain _ _ _ (by kernel_rfl)]; exact laidMet_laidAll _ (by kernel_rfl) (by kernel_rfl))) ?_
  intro W base args ds gs before hval0 hW hL hshape hsz0
  have hval : ∀ (j : Nat) t v, Tryz.f3.params[j]? = some t → args[j]? = some v → Value.okWide Tryz.prog W .any base t v := hval0
  have hW' := hW
  obtain ⟨p, q, hA0, hV, rfl, hfz, hnd⟩ := hW
  have hA : DataW.TrodAll enc Tryz.prog W 0 (fun _ => true) true Tryz.f3.params.toList args.toList ds p := hA0
  obtain ⟨rfl, rfl⟩ := trodVars_none hV
  have hsz : ∀ m ∈ DataW.weightsEach Tryz.prog Tryz.f3.params.toList ds, m ≤ reachBytes := fun m hm => hsz0 m (by
    rw [List.append_nil, show Rows.aliasValidSpec.plain.varTypes Tryz.checked.prog = [] from rfl, List.append_nil]
    exact hm)
  rw [Tryz.params3] at hA hval hsz
  obtain ⟨v0, d0, rfl, rfl, h0⟩ := trodAll_one hA
  obtain ⟨Al, nl, cl, l, rfl, hals, hnl, _⟩ := open_als Tryz.underlying22 Tryz.underlying34 Tryz.underlying9 rfl rfl rfl rfl (by kernel_rfl) (by kernel_rfl) (okWide_slice Tryz.underlying22 (hval 0 22 v0 rfl rfl)) h0
  have hzl := als_sized Tryz.underlying22 Tryz.underlying34 Tryz.underlying9 rfl rfl rfl rfl (by kernel_rfl) (by kernel_rfl) h0 hals (fun m hm => hsz m (DataW.weights_mem_each (j := 0) rfl rfl m hm))
  refine (law l Al nl cl W (mx_of hshape) hals hnl hzl).mono fun e W' ⟨he, hw⟩ => ?_
  subst he
  exact ⟨_, rfl, law_post (t := 4) laidOut (by rw [Tryz.params3]; intro t ht; simp at ht; subst ht <;> exact ⟨by kernel_rfl, of_decide_eq_true (by kernel_rfl)⟩) rfl Tryz.underlying4 rfl ⟨rfl, rfl, rfl⟩ hW' hw⟩

theorem row : Rows.aliasValidRow.holds Tryz.pinned (OpenSpec.ofChange Rows.aliasValidSpec) :=
  OpenClaim.holds_of_wide 3 Tryz.f3 rfl rfl rfl rfl rfl rfl rfl ⟨rfl, rfl, rfl, rfl, rfl⟩ rfl rfl rfl rfl rfl (by kernel_rfl) Tryz.func3 (by kernel_rfl)
    (of_decide_eq_true (by kernel_rfl)) (by unfold Func.isWrapper; first | (rw [if_pos (by decide +kernel)]; kernel_rfl) | (rw [if_neg (by decide +kernel)]; exact ⟨rfl, rfl⟩))
    (fun os started H enc _ => lifted os started H enc)
theorem card : Rows.AliasValidCardSaid :=
  Claim7.holds_tied_plain_at .later [] [.data, .pinned] true (true, "10b73e96291ef8f659d5be2d34b9c139528e584818198712dae8f18561ae9280") false row (fun _ h => by cases h) (by kernel_rfl) (fun _ h => by cases h) aliasValid_row_tie rfl ⟨rfl, rfl⟩ (by kernel_rfl) rfl
    (fun f fn hf hfn => by
      obtain rfl : f = 3 := Option.some.inj ((show Tryz.prog.funcNamed "calque/calquelaw20.AliasValid" = some 3 by kernel_rfl).symm.trans hf) |>.symm
      obtain rfl : fn = Tryz.f3 := (Option.some.inj (Tryz.func3.symm.trans hfn)).symm
      exact ⟨by kernel_rfl, fun j t ht => by
        rw [Tryz.params3] at ht
        have hm : t ∈ [22] := by simpa using Array.mem_of_getElem? ht
        have hall : ([22].all fun u => !Tryz.prog.wantsStandIn u) = true := by kernel_rfl
        exact (show Tryz.prog.wantsStandIn t = false by simpa using List.all_eq_true.1 hall t hm)⟩)
    (by kernel_rfl)
#print axioms card
end Go.Proofs.YtcfgphhhgemkdaaGreatDoor.lawAliasValid
