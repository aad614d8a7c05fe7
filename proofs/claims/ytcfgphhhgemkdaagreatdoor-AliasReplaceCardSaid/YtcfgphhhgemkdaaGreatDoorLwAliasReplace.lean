import Derived.Test.YtcfgphhhgemkdaaGreatDoorAX6
import Derived.Test.YtcfgphhhgemkdaaGreatDoorAX5
import Derived.Test.YtcfgphhhgemkdaaGreatDoorAX4
import Derived.Test.YtcfgphhhgemkdaaGreatDoorShelf
import Derived.Test.YtcfgphhhgemkdaaGreatDoorRows
import Derived.Test.YtcfgphhhgemkdaaGreatDoorCards
import Derived.Test.YtcfgphhhgemkdaaGreatDoorTie
import Derived.Shelf.Vars
namespace Go.Proofs.YtcfgphhhgemkdaaGreatDoor.lawAliasReplace
open Go.ChangeShapes Go.WideShapes Go.ChangeAt Go.RowKit
open Go.ChangeMaps (open_string shut_string)
set_option linter.unusedSimpArgs false
set_option linter.unusedVariables false

def laidL : List (String × DataW Unit) := Rows.aliasReplaceRow.laid
theorem mx_of {W : World} (h : W.ShapedOpen Tryz.prog) : Mx W := Tryz.laysM146.s1_3 W h

set_option maxRecDepth 100000 in
set_option maxHeartbeats 1000000 in
theorem law (fb ob s : ByteArray) (w : World) (hm : Mx w) (z1 : fb.size ≤ reachBytes) (z2 : ob.size ≤ reachBytes) (hs : s.size ≤ maxLen) : Calls Tryz.prog 5 #[.agg #[.string fb, .string ob], .string s] w (RetTrue w) := by
  have hz : ∀ a ∈ [((fb, ob) : Ali)], a.1.size ≤ reachBytes ∧ a.2.size ≤ reachBytes := by intro a ha; simp at ha; subst ha; exact ⟨z1, z2⟩
  have hfw := fun (W : World) => few20_any [(fb, ob)] (some ⟨W.heap.size, 0, none⟩) 1 1 (W.alloc (.cells #[.string fb, .string ob] 34)) (SlN.lit W [.string fb, .string ob] 34 1 2 rfl) (by unfold maxLen; omega) hz
  unfold maxLen at hs
  have K1 := Lib.hid (AtC.new w #[.string fb, .string ob] : AtC 34 _ _ _)
  have HX0 := Lib.hid ((Ext.refl w).alloc (.cells #[.string fb, .string ob] 34))
  cases hf : fewL [(fb, ob)] with
  | false =>
    rw [hf] at hfw
    have HFW := Lib.hid hfw
    clear hfw hf
    go_enter Tryz.func5, Tryz.ntmps5
    go_wp2_with fail
    refine (awake_any _ (hm.ext HX0.out)).mono ?_
    rintro e w1 ⟨rfl, hw1⟩
    have HW1 := Lib.hid (HX0.out.trans hw1)
    have HX1 := Lib.hid hw1
    have c0 := (K1.out.ext hw1).cell 0 _ rfl
    have c1 := (K1.out.ext hw1).cell 1 _ rfl
    clear hw1
    go_wp2_with fail
    refine (HFW.out _).mono ?_
    rintro e w2 ⟨rfl, hw2⟩
    have HW2 := Lib.hid ((HW1.out.alloc _).trans hw2)
    clear hw2
    go_wp2_with fail
    refine (awake_any _ (hm.ext HW2.out)).mono ?_
    rintro e w3 ⟨rfl, hw3⟩
    have HW3 := Lib.hid (HW2.out.trans hw3)
    clear hw3
    go_wp2
    go_ret
    exact ⟨rfl, HW3.out⟩
  | true =>
   obtain ⟨_, h60⟩ := fewL_len hf
   obtain ⟨y1, y2⟩ := h60 (fb, ob) (by simp)
   rw [hf] at hfw
   by_cases h100 : 100 < s.size
   · have HFW := Lib.hid hfw
     clear hfw hf h60
     go_enter Tryz.func5, Tryz.ntmps5
     go_wp2_with fail
     refine (awake_any _ (hm.ext HX0.out)).mono ?_
     rintro e w1 ⟨rfl, hw1⟩
     have HW1 := Lib.hid (HX0.out.trans hw1)
     have HX1 := Lib.hid hw1
     have c0 := (K1.out.ext hw1).cell 0 _ rfl
     have c1 := (K1.out.ext hw1).cell 1 _ rfl
     clear hw1
     go_wp2_with fail
     refine (HFW.out _).mono ?_
     rintro e w2 ⟨rfl, hw2⟩
     have HW2 := Lib.hid ((HW1.out.alloc _).trans hw2)
     clear hw2
     go_wp2_with fail
     refine (awake_any _ (hm.ext HW2.out)).mono ?_
     rintro e w3 ⟨rfl, hw3⟩
     have HW3 := Lib.hid (HW2.out.trans hw3)
     clear hw3
     go_wp2
     go_ret
     exact ⟨rfl, HW3.out⟩
   · have hc1 := fun W hW => tarepl_any fb ob s W hW y1 y2 (by omega)
     have hc2 := fun W => rrepl_any fb ob s W y1 y2 (by omega)
     generalize replL (fb, ob) s.data.toList = C at hc1 hc2
     obtain ⟨cc, code2⟩ := C
     simp only at hc1 hc2
     obtain ⟨cb, hcb, _⟩ := strv_b cc
     rw [hcb] at hc1 hc2
     have HFW := Lib.hid hfw
     have HC1 := Lib.hid hc1
     have HC2 := Lib.hid hc2
     clear hfw hf h60 hc1 hc2 hcb
     go_enter Tryz.func5, Tryz.ntmps5
     go_wp2_with fail
     refine (awake_any _ (hm.ext HX0.out)).mono ?_
     rintro e w1 ⟨rfl, hw1⟩
     have HW1 := Lib.hid (HX0.out.trans hw1)
     have HX1 := Lib.hid hw1
     have c0 := (K1.out.ext hw1).cell 0 _ rfl
     have c1 := (K1.out.ext hw1).cell 1 _ rfl
     clear hw1
     go_wp2_with fail
     refine (HFW.out _).mono ?_
     rintro e w2 ⟨rfl, hw2⟩
     have HW2 := Lib.hid ((HW1.out.alloc (.cells #[.string fb, .string ob] 34)).trans hw2)
     have HX2 := Lib.hid ((HX1.out.alloc (.cells #[.string fb, .string ob] 34)).trans hw2)
     clear hw2 c0 c1
     have c0 := (K1.out.ext HX2.out).cell 0 _ rfl
     have c1 := (K1.out.ext HX2.out).cell 1 _ rfl
     go_wp2_with fail
     refine (HC1.out _ (hm.ext HW2.out)).mono ?_
     rintro e w3 ⟨rfl, hw3⟩
     have HW3 := Lib.hid (HW2.out.trans hw3)
     clear c0 c1
     have c0 := (K1.out.ext (HX2.out.trans hw3)).cell 0 _ rfl
     have c1 := (K1.out.ext (HX2.out.trans hw3)).cell 1 _ rfl
     clear hw3
     go_wp2_with fail
     refine (HC2.out _).mono ?_
     rintro e w4 ⟨rfl, hw4⟩
     have HW4 := Lib.hid (HW3.out.trans hw4)
     clear hw4
     go_wp2
     go_ret
     exact ⟨rfl, HW4.out⟩

set_option maxRecDepth 100000 in
theorem lifted (os : Os) (started : os.Started) (H : Type) (enc : TypeId × Value → H) :
    ReturnsInHanded {} Tryz.checked os 5 .any (fun w args => (Rows.aliasReplaceSpec.pre enc Tryz.prog Tryz.f5 [] false w args ∧ laidMetH Tryz.prog laidL w) ∧ sizedMet enc Tryz.prog Tryz.f5 (OpenSpec.ofChange Rows.aliasReplaceSpec) false w args)
      (Rows.aliasReplaceSpec.post enc Tryz.prog Tryz.f5 false true false false) := by
  refine lifted_and_sized (C := Tryz.checked) (X := fun w _ => laidMetH Tryz.prog laidL w) (fun _ _ _ hh h => h.of_heap hh) own started (by kernel_rfl) Tryz.func5
    (ChangeSpec.witness_shaped (enc := enc) (C := Tryz.checked) (os := os) (X := fun w _ => laidMetH Tryz.prog laidL w) false (World.laidAll Tryz.prog os laidL) #[.agg #[.string ⟨#[]⟩, .string ⟨#[]⟩], .string ⟨#[]⟩] 8 (World.laidAll_os _ _ _)
      (World.shaped_of_ZipB (by kernel_rfl) (by kernel_rfl)) (by kernel_rfl) (by kernel_rfl) (by kernel_rfl)
      (by rw [MakeChecks.laidMetH_plain _ _ _ (by kernel_rfl)]; exact laidMet_laidAll _ (by kernel_rfl) (by kernel_rfl))) ?_
  intro W base args ds gs before hval0 hW hL hshape hsz0
  have hval : ∀ (j : Nat) t v, Tryz.f5.params[j]? = some t → args[j]? = some v → Value.okWide Tryz.prog W .any base t v := hval0
  have hW' := hW
  obtain ⟨p, q, hA0, hV, rfl, hfz, hnd⟩ := hW
  have hA : DataW.TrodAll enc Tryz.prog W 0 (fun _ => true) true Tryz.f5.params.toList args.toList ds p := hA0
  obtain ⟨rfl, rfl⟩ := trodVars_none hV
  have hsz : ∀ m ∈ DataW.weightsEach Tryz.prog Tryz.f5.params.toList ds, m ≤ reachBytes := fun m hm => hsz0 m (by
    rw [List.append_nil, show Rows.aliasReplaceSpec.plain.varTypes Tryz.checked.prog = [] from rfl, List.append_nil]
    exact hm)
  rw [Tryz.params5] at hA hval hsz
  obtain ⟨v0, v1, d0, d1, p0, p1, rfl, rfl, rfl, h0, h1⟩ := trodAll_two hA
  obtain ⟨fb, ob, rfl, z1, z2⟩ := open_ali (hval 0 34 v0 rfl rfl) h0 (fun m hm => hsz m (DataW.weights_mem_each (j := 0) rfl rfl m hm))
  obtain ⟨s, rfl, rfl, rfl, hs⟩ := open_string Tryz.underlying9 (hval 1 9 v1 rfl rfl) h1
  refine (law fb ob s W (mx_of hshape) z1 z2 hs).mono fun e W' ⟨he, hw⟩ => ?_
  subst he
  exact ⟨_, rfl, law_post (t := 4) laidOut (by rw [Tryz.params5]; intro t ht; simp at ht; rcases ht with rfl | rfl <;> exact ⟨by kernel_rfl, of_decide_eq_true (by kernel_rfl)⟩) rfl Tryz.underlying4 rfl ⟨rfl, rfl, rfl⟩ hW' hw⟩

theorem row : Rows.aliasReplaceRow.holds Tryz.pinned (OpenSpec.ofChange Rows.aliasReplaceSpec) :=
  OpenClaim.holds_of_wide 5 Tryz.f5 rfl rfl rfl rfl rfl rfl rfl ⟨rfl, rfl, rfl, rfl, rfl⟩ rfl rfl rfl rfl rfl (by kernel_rfl) Tryz.func5 (by kernel_rfl)
    (of_decide_eq_true (by kernel_rfl)) (by unfold Func.isWrapper; first | (rw [if_pos (by decide +kernel)]; kernel_rfl) | (rw [if_neg (by decide +kernel)]; exact ⟨rfl, rfl⟩))
    (fun os started H enc _ => lifted os started H enc)
theorem card : Rows.AliasReplaceCardSaid :=
  Claim7.holds_tied_plain_at .later [] [.data, .pinned] true (true, "10b73e96291ef8f659d5be2d34b9c139528e584818198712dae8f18561ae9280") false row (fun _ h => by cases h) (by kernel_rfl) (fun _ h => by cases h) aliasReplace_row_tie rfl ⟨rfl, rfl⟩ (by kernel_rfl) rfl
    (fun f fn hf hfn => by
      obtain rfl : f = 5 := Option.some.inj ((show Tryz.prog.funcNamed "calque/calquelaw20.AliasReplace" = some 5 by kernel_rfl).symm.trans hf) |>.symm
      obtain rfl : fn = Tryz.f5 := (Option.some.inj (Tryz.func5.symm.trans hfn)).symm
      exact ⟨by kernel_rfl, fun j t ht => by
        rw [Tryz.params5] at ht
        have hm : t ∈ [34, 9] := by simpa using Array.mem_of_getElem? ht
        have hall : ([34, 9].all fun u => !Tryz.prog.wantsStandIn u) = true := by kernel_rfl
        exact (show Tryz.prog.wantsStandIn t = false by simpa using List.all_eq_true.1 hall t hm)⟩)
    (by kernel_rfl)
#print axioms card
end Go.Proofs.YtcfgphhhgemkdaaGreatDoor.lawAliasReplace
