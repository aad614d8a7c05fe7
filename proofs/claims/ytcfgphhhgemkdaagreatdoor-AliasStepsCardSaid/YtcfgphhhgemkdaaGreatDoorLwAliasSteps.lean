import Derived.Test.YtcfgphhhgemkdaaGreatDoorAX6
import Derived.Test.YtcfgphhhgemkdaaGreatDoorAX5
import Derived.Test.YtcfgphhhgemkdaaGreatDoorAX4
import Derived.Test.YtcfgphhhgemkdaaGreatDoorShelf
import Derived.Test.YtcfgphhhgemkdaaGreatDoorRows
import Derived.Test.YtcfgphhhgemkdaaGreatDoorCards
import Derived.Test.YtcfgphhhgemkdaaGreatDoorTie
import Derived.Shelf.Vars
namespace Go.Proofs.YtcfgphhhgemkdaaGreatDoor.lawAliasSteps
open Go.ChangeShapes Go.WideShapes Go.ChangeAt Go.RowKit
open Go.ChangeMaps (open_string shut_string)
set_option linter.unusedSimpArgs false
set_option linter.unusedVariables false

def laidL : List (String × DataW Unit) := Rows.aliasStepsRow.laid
theorem mx_of {W : World} (h : W.ShapedOpen Tryz.prog) : Mx W := Tryz.laysM146.s1_3 W h

theorem stepsL_len (l : List Ali) (s : List UInt8) : (stepsL l s).1.length ≤ 21 := by
  by_cases h : (stepsL l s).2 = 0
  · obtain ⟨xs, e, _, h2, h3, _⟩ := steps_shape h
    rw [h2]
    simp
    omega
  · rw [steps_bad h]
    simp
set_option maxRecDepth 100000 in
set_option maxHeartbeats 2000000 in
theorem law (l : List Ali) (A : Option Addr) (n c : Nat) (s : ByteArray) (w : World) (hm : Mx w) (hA : Als w A n l) (hn : n ≤ maxLen) (hz : ∀ a ∈ l, a.1.size ≤ reachBytes ∧ a.2.size ≤ reachBytes) (hs : s.size ≤ maxLen) : Calls Tryz.prog 4 #[.slice A n c, .string s] w (RetTrue w) := by
  have hfw := fun W h => few20_any l A n c W h hn hz
  have hlen := hA.len
  unfold maxLen at hs
  cases hf : fewL l with
  | false =>
    rw [hf] at hfw
    have HFW := Lib.hid hfw
    clear hfw hf hlen
    go_enter Tryz.func4, Tryz.ntmps4
    go_wp2_with fail
    refine (awake_any _ hm).mono ?_
    rintro e w1 ⟨rfl, hw1⟩
    have HW1 := Lib.hid hw1
    clear hw1
    go_wp2_with fail
    refine (HFW.out _ (hA.ext HW1.out)).mono ?_
    rintro e w2 ⟨rfl, hw2⟩
    have HW2 := Lib.hid (HW1.out.trans hw2)
    clear hw2
    go_wp2_with fail
    refine (awake_any _ (hm.ext HW2.out)).mono ?_
    rintro e w3 ⟨rfl, hw3⟩
    have HW3 := Lib.hid (HW2.out.trans hw3)
    clear hw3
    go_wp2
    go_ret
    exact ⟨rfl, HW3.out⟩
  | true =>
   obtain ⟨h12, h60⟩ := fewL_len hf
   rw [hf] at hfw
   by_cases h100 : 100 < s.size
   · have HFW := Lib.hid hfw
     clear hfw hf hlen h12 h60
     go_enter Tryz.func4, Tryz.ntmps4
     go_wp2_with fail
     refine (awake_any _ hm).mono ?_
     rintro e w1 ⟨rfl, hw1⟩
     have HW1 := Lib.hid hw1
     clear hw1
     go_wp2_with fail
     refine (HFW.out _ (hA.ext HW1.out)).mono ?_
     rintro e w2 ⟨rfl, hw2⟩
     have HW2 := Lib.hid (HW1.out.trans hw2)
     clear hw2
     go_wp2_with fail
     refine (awake_any _ (hm.ext HW2.out)).mono ?_
     rintro e w3 ⟨rfl, hw3⟩
     have HW3 := Lib.hid (HW2.out.trans hw3)
     clear hw3
     go_wp2
     go_ret
     exact ⟨rfl, HW3.out⟩
   · have hs1 := fun W hW h => tsteps_any l s A n c W hW h (by omega) h60 (by omega)
     have hs2 := fun W h => rsteps_any l s A n c W h (by omega) h60 (by omega)
     have hc1 := fun W hW h => tacan_any l s A n c W hW h (by omega) h60 (by omega)
     have hc2 := fun W h => rcan20_any l s A n c W h (by omega) h60 (by omega)
     have hll := stepsL_len l s.data.toList
     generalize stepsL l s.data.toList = R at hs1 hs2 hll
     generalize canL l s.data.toList = C at hc1 hc2
     obtain ⟨xs, code⟩ := R
     obtain ⟨cc, code2⟩ := C
     simp only at hc1 hc2 hll
     obtain ⟨cb, hcb, _⟩ := strv_b cc
     rw [hcb] at hc1 hc2
     have HFW := Lib.hid hfw
     have HS1 := Lib.hid hs1
     have HS2 := Lib.hid hs2
     have HC1 := Lib.hid hc1
     have HC2 := Lib.hid hc2
     have HLL := Lib.hid hll
     clear hfw hf hlen hs1 hs2 hc1 hc2 h12 h60 hcb hll
     go_enter Tryz.func4, Tryz.ntmps4
     go_wp2_with fail
     refine (awake_any _ hm).mono ?_
     rintro e w1 ⟨rfl, hw1⟩
     have HW1 := Lib.hid hw1
     clear hw1
     go_wp2_with fail
     refine (HFW.out _ (hA.ext HW1.out)).mono ?_
     rintro e w2 ⟨rfl, hw2⟩
     have HW2 := Lib.hid (HW1.out.trans hw2)
     clear hw2
     go_wp2_with fail
     refine (HS1.out _ (hm.ext HW2.out) (hA.ext HW2.out)).mono ?_
     rintro e w3 ⟨A3, n3, c3, rfl, hs3, _, hw3⟩
     have HW3 := Lib.hid (HW2.out.trans hw3)
     have HS3 := Lib.hid hs3
     clear hw3 hs3
     go_wp2_with fail
     refine (HS2.out _ (hA.ext HW3.out)).mono ?_
     rintro e w4 ⟨A4, n4, c4, rfl, hs4, _, hw4⟩
     have HW4 := Lib.hid (HW3.out.trans hw4)
     have HS4 := Lib.hid hs4
     have HX4 := Lib.hid hw4
     clear hw4 hs4
     go_wp2_with fail
     refine (HC1.out _ (hm.ext HW4.out) (hA.ext HW4.out)).mono ?_
     rintro e w5 ⟨rfl, hw5⟩
     have HW5 := Lib.hid (HW4.out.trans hw5)
     have HX5 := Lib.hid hw5
     clear hw5
     go_wp2_with fail
     refine (HC2.out _ (hA.ext HW5.out)).mono ?_
     rintro e w6 ⟨rfl, hw6⟩
     have HW6 := Lib.hid (HW5.out.trans hw6)
     have hn3 : n3 ≤ maxLen := by have h := HS3.out.1; rw [List.length_map] at h; have := HLL.out; unfold maxLen; omega
     have hn4 : n4 ≤ maxLen := by have h := HS4.out.1; rw [List.length_map] at h; have := HLL.out; unfold maxLen; omega
     have hq := samestr_any xs xs A3 A4 n3 n4 c3 c4 w6 (HS3.out.ext ((HX4.out.trans HX5.out).trans hw6)) (HS4.out.ext (HX5.out.trans hw6)) hn3 hn4
     rw [show (xs == xs) = true from by simp] at hq
     have HQ := Lib.hid hq
     clear hw6 hn3 hn4 hq
     go_wp2_with (go_at_call 15; with_reducible refine HQ.out.mono ?_; rintro e w7 ⟨rfl, hw7⟩; have HW7 := Lib.hid hw7; clear hw7)
     go_ret
     exact ⟨rfl, HW6.out.trans HW7.out⟩

set_option maxRecDepth 100000 in
theorem lifted (os : Os) (started : os.Started) (H : Type) (enc : TypeId × Value → H) :
    ReturnsInHanded {} Tryz.checked os 4 .any (fun w args => (Rows.aliasStepsSpec.pre enc Tryz.prog Tryz.f4 [] false w args ∧ laidMetH Tryz.prog laidL w) ∧ sizedMet enc Tryz.prog Tryz.f4 (OpenSpec.ofChange Rows.aliasStepsSpec) false w args)
      (Rows.aliasStepsSpec.post enc Tryz.prog Tryz.f4 false true false false) := by
  refine lifted_and_sized (C := Tryz.checked) (X := fun w _ => laidMetH Tryz.prog laidL w) (fun _ _ _ hh h => h.of_heap hh) own started (by kernel_rfl) Tryz.func4
    (ChangeSpec.witness_shaped (enc := enc) (C := Tryz.checked) (os := os) (X := fun w _ => laidMetH Tryz.prog laidL w) false (World.laidAll Tryz.prog os laidL) #[.slice none 0 0, .string ⟨#[]⟩] 8 (World.laidAll_os _ _ _)
      (World.shaped_of_ZipB (by kernel_rfl) (by kernel_rfl)) (by kernel_rfl) (by kernel_rfl) (by kernel_rfl)
      (by rw [MakeChecks.laidMetH_plain _ _ _ (by kernel_rfl)]; exact laidMet_laidAll _ (by kernel_rfl) (by kernel_rfl))) ?_
  intro W base args ds gs before hval0 hW hL hshape hsz0
  have hval : ∀ (j : Nat) t v, Tryz.f4.params[j]? = some t → args[j]? = some v → Value.okWide Tryz.prog W .any base t v := hval0
  have hW' := hW
  obtain ⟨p, q, hA0, hV, rfl, hfz, hnd⟩ := hW
  have hA : DataW.TrodAll enc Tryz.prog W 0 (fun _ => true) true Tryz.f4.params.toList args.toList ds p := hA0
  obtain ⟨rfl, rfl⟩ := trodVars_none hV
  have hsz : ∀ m ∈ DataW.weightsEach Tryz.prog Tryz.f4.params.toList ds, m ≤ reachBytes := fun m hm => hsz0 m (by
    rw [List.append_nil, show Rows.aliasStepsSpec.plain.varTypes Tryz.checked.prog = [] from rfl, List.append_nil]
    exact hm)
  rw [Tryz.params4] at hA hval hsz
  obtain ⟨v0, v1, d0, d1, p0, p1, rfl, rfl, rfl, h0, h1⟩ := trodAll_two hA
  obtain ⟨Al, nl, cl, l, rfl, hals, hnl, _⟩ := open_als Tryz.underlying22 Tryz.underlying34 Tryz.underlying9 rfl rfl rfl rfl (by kernel_rfl) (by kernel_rfl) (okWide_slice Tryz.underlying22 (hval 0 22 v0 rfl rfl)) h0
  have hzl := als_sized Tryz.underlying22 Tryz.underlying34 Tryz.underlying9 rfl rfl rfl rfl (by kernel_rfl) (by kernel_rfl) h0 hals (fun m hm => hsz m (DataW.weights_mem_each (j := 0) rfl rfl m hm))
  obtain ⟨s, rfl, rfl, rfl, hs⟩ := open_string Tryz.underlying9 (hval 1 9 v1 rfl rfl) h1
  refine (law l Al nl cl s W (mx_of hshape) hals hnl hzl hs).mono fun e W' ⟨he, hw⟩ => ?_
  subst he
  exact ⟨_, rfl, law_post (t := 4) laidOut (by rw [Tryz.params4]; intro t ht; simp at ht; rcases ht with rfl | rfl <;> exact ⟨by kernel_rfl, of_decide_eq_true (by kernel_rfl)⟩) rfl Tryz.underlying4 rfl ⟨rfl, rfl, rfl⟩ hW' hw⟩

theorem row : Rows.aliasStepsRow.holds Tryz.pinned (OpenSpec.ofChange Rows.aliasStepsSpec) :=
  OpenClaim.holds_of_wide 4 Tryz.f4 rfl rfl rfl rfl rfl rfl rfl ⟨rfl, rfl, rfl, rfl, rfl⟩ rfl rfl rfl rfl rfl (by kernel_rfl) Tryz.func4 (by kernel_rfl)
    (of_decide_eq_true (by kernel_rfl)) (by unfold Func.isWrapper; first | (rw [if_pos (by decide +kernel)]; kernel_rfl) | (rw [if_neg (by decide +kernel)]; exact ⟨rfl, rfl⟩))
    (fun os started H enc _ => lifted os started H enc)
theorem card : Rows.AliasStepsCardSaid :=
  Claim7.holds_tied_plain_at .later [] [.data, .pinned] true (true, "10b73e96291ef8f659d5be2d34b9c139528e584818198712dae8f18561ae9280") false row (fun _ h => by cases h) (by kernel_rfl) (fun _ h => by cases h) aliasSteps_row_tie rfl ⟨rfl, rfl⟩ (by kernel_rfl) rfl
    (fun f fn hf hfn => by
      obtain rfl : f = 4 := Option.some.inj ((show Tryz.prog.funcNamed "calque/calquelaw20.AliasSteps" = some 4 by kernel_rfl).symm.trans hf) |>.symm
      obtain rfl : fn = Tryz.f4 := (Option.some.inj (Tryz.func4.symm.trans hfn)).symm
      exact ⟨by kernel_rfl, fun j t ht => by
        rw [Tryz.params4] at ht
        have hm : t ∈ [22, 9] := by simpa using Array.mem_of_getElem? ht
        have hall : ([22, 9].all fun u => !Tryz.prog.wantsStandIn u) = true := by kernel_rfl
        exact (show Tryz.prog.wantsStandIn t = false by simpa using List.all_eq_true.1 hall t hm)⟩)
    (by kernel_rfl)
#print axioms card
end Go.Proofs.YtcfgphhhgemkdaaGreatDoor.lawAliasSteps
