import Derived.Test.YtfcnhodokbnjnaaDoorLawS
import Derived.Test.YtfcnhodokbnjnaaDoorSpell
import Derived.Test.YtfcnhodokbnjnaaDoorShelf
import Derived.Test.YtfcnhodokbnjnaaDoorRows
import Derived.Test.YtfcnhodokbnjnaaDoorCards
import Derived.Test.YtfcnhodokbnjnaaDoorTie
import Derived.Shelf.Vars
namespace Go.Proofs.YtfcnhodokbnjnaaDoor.lawTagCanonical
open Go.ChangeShapes Go.WideShapes Go.ChangeAt Go.RowKit
open Go.ChangeMaps (open_string shut_string)
set_option linter.unusedSimpArgs false
set_option linter.unusedVariables false

def laidL : List (String × DataW Unit) := Rows.tagCanonicalRow.laid
theorem mx_of {W : World} (h : W.ShapedOpen Tryd.prog) : Mx W := Tryd.laysM146.s1_3 W h

set_option maxRecDepth 100000 in
set_option maxHeartbeats 1000000 in
theorem law (s : ByteArray) (w : World) (hm : Mx w) (hs : s.size ≤ maxLen) : Calls Tryd.prog 8 #[.string s] w (RetTrue w) := by
  unfold maxLen at hs
  by_cases hlt : 120 < s.size
  · go_enter Tryd.func8, Tryd.ntmps8
    go_wp2_with fail
    refine (awake_any _ hm).mono ?_
    rintro e w1 ⟨rfl, hw1⟩
    have HW1 := Lib.hid hw1
    clear hw1
    go_wp2_with fail
    refine (awake_any _ (hm.ext HW1.out)).mono ?_
    rintro e w2 ⟨rfl, hw2⟩
    have HW2 := Lib.hid hw2
    clear hw2
    go_wp2
    go_ret
    exact ⟨rfl, HW1.out.trans HW2.out⟩
  · by_cases h0 : (parseP EC s.data.toList).2 = 0
    · have hv := parse_ok h0
      have hp := fun W hW => tparse_any s W hW (by omega)
      have hc := fun W hW => tcan_any s W hW (by omega)
      obtain ⟨t, ht⟩ : ∃ t, (parseP EC s.data.toList).1 = t := ⟨_, rfl⟩
      have hcan : canP s.data.toList = (textP t, 0) := by unfold canP; rw [if_pos h0, ht, h0]
      rw [hcan] at hc
      rw [ht, h0] at hp
      rw [ht] at hv
      have hlen := textP_len hv
      have hcan2 : canP (textP t) = (textP t, 0) := by unfold canP; rw [parse_text EC t hv]; rfl
      have htx : txtOf t = textP t := by unfold txtOf; rw [if_pos hv]
      have hval := fun A n c W h => tvalid_any t A n c W h (TL_of hv)
      have htext := fun A n c W h => tText_any t A n c W h (TL_of hv)
      rw [hv] at hval
      rw [htx] at htext
      obtain ⟨cb, hcb, hcl⟩ := strv_b (textP t)
      have hd := fun W hW => tcan_any cb W hW (by rw [← size_list]; have : cb.data.toList = textP t := hcl; rw [this]; omega)
      rw [show cb.data.toList = textP t from hcl, hcan2] at hd
      obtain ⟨lb, hlb, _⟩ := strv_b t.lang
      obtain ⟨sb, hsb, _⟩ := strv_b t.script
      obtain ⟨rb, hrb, _⟩ := strv_b t.region
      simp only at hc hd hp
      rw [hcb] at hc hd htext
      unfold tagV at hp hval htext
      rw [hlb, hsb, hrb] at hp hval htext
      have HC := Lib.hid hc
      have HD := Lib.hid hd
      have HP := Lib.hid hp
      have HV := Lib.hid hval
      have HT := Lib.hid htext
      clear hc hd hp hval htext hcb hcl hlb hsb hrb hcan hcan2 htx hlen
      go_enter Tryd.func8, Tryd.ntmps8
      go_wp2_with fail
      refine (awake_any _ hm).mono ?_
      rintro e w1 ⟨rfl, hw1⟩
      have HW1 := Lib.hid hw1
      clear hw1
      go_wp2_with fail
      refine (HC.out _ (hm.ext HW1.out)).mono ?_
      rintro e w2 ⟨rfl, hw2⟩
      have HW2 := Lib.hid (HW1.out.trans hw2)
      clear hw2
      go_wp2_with fail
      refine (HD.out _ (hm.ext HW2.out)).mono ?_
      rintro e w3 ⟨rfl, hw3⟩
      have HW3 := Lib.hid (HW2.out.trans hw3)
      clear hw3
      go_wp2_with fail
      refine (HP.out _ (hm.ext HW3.out)).mono ?_
      rintro e w4 ⟨A, n, c1, rfl, hs4, _, hw4⟩
      have HW4 := Lib.hid ((HW3.out.trans hw4).alloc (.cells #[.string lb, .string sb, .string rb, .slice A n c1] 25))
      have HS4 := Lib.hid (hs4.ext ((Ext.refl w4).alloc (.cells #[.string lb, .string sb, .string rb, .slice A n c1] 25)))
      have AT4 := Lib.hid (AtT.new (T := 25) (v0 := .string lb) (v1 := .string sb) (v2 := .string rb) (v3 := .slice A n c1) w4)
      clear hw4 hs4
      have HQ1 := Lib.hid (HV.out A n c1 _ HS4.out)
      have HQ2 := Lib.hid (fun W hW => HT.out A n c1 W (HS4.out.ext hW))
      obtain ⟨a1, a2, a3, a4⟩ := AT4.out.cells
      go_wp2_with fail
      with_reducible refine HQ1.out.mono ?_
      rintro e w5 ⟨rfl, hw5⟩
      have HW5 := Lib.hid hw5
      have HQ3 := Lib.hid (HQ2.out w5 hw5)
      obtain ⟨b1, b2, b3, b4⟩ := (AT4.out.ext hw5).cells
      clear hw5
      go_wp2_with fail
      with_reducible refine HQ3.out.mono ?_
      rintro e w6 ⟨rfl, hw6⟩
      have HW6 := Lib.hid hw6
      clear hw6
      go_wp2
      go_ret
      exact ⟨rfl, (HW4.out.trans HW5.out).trans HW6.out⟩
    · have hcan : canP s.data.toList = ([], (parseP EC s.data.toList).2) := by unfold canP; rw [if_neg h0]
      have hc := fun W hW => tcan_any s W hW (by omega)
      rw [hcan] at hc
      generalize (parseP EC s.data.toList).2 = code at hc h0
      have hb : (code == 0) = false := by simpa using h0
      have hb2 : (!code == 0) = true := by simpa using h0
      have HC := Lib.hid hc
      clear hc hcan
      go_enter Tryd.func8, Tryd.ntmps8
      go_wp2_with fail
      refine (awake_any _ hm).mono ?_
      rintro e w1 ⟨rfl, hw1⟩
      have HW1 := Lib.hid hw1
      clear hw1
      go_wp2_with fail
      refine (HC.out _ (hm.ext HW1.out)).mono ?_
      rintro e w2 ⟨rfl, hw2⟩
      have HW2 := Lib.hid (HW1.out.trans hw2)
      clear hw2
      unfold strv
      go_wp2
      go_ret
      exact ⟨rfl, HW2.out⟩

set_option maxRecDepth 100000 in
theorem lifted (os : Os) (started : os.Started) (H : Type) (enc : TypeId × Value → H) :
    ReturnsInHanded {} Tryd.checked os 8 .any (fun w args => (Rows.tagCanonicalSpec.pre enc Tryd.prog Tryd.f8 [] false w args ∧ laidMetH Tryd.prog laidL w) ∧ sizedMet enc Tryd.prog Tryd.f8 (OpenSpec.ofChange Rows.tagCanonicalSpec) false w args)
      (Rows.tagCanonicalSpec.post enc Tryd.prog Tryd.f8 false true false false) := by
  refine lifted_and_shaped (C := Tryd.checked) (X := fun w _ => laidMetH Tryd.prog laidL w) (fun _ _ _ hh h => h.of_heap hh) own started (by kernel_rfl) Tryd.func8
    (ChangeSpec.witness_shaped (enc := enc) (C := Tryd.checked) (os := os) (X := fun w _ => laidMetH Tryd.prog laidL w) false (World.laidAll Tryd.prog os laidL) #[.string ⟨#[]⟩] 8 (World.laidAll_os _ _ _)
      (World.shaped_of_ZipB (by kernel_rfl) (by kernel_rfl)) (by kernel_rfl) (by kernel_rfl) (by kernel_rfl)
      (by rw [MakeChecks.laidMetH_plain _ _ _ (by kernel_rfl)]; exact laidMet_laidAll _ (by kernel_rfl) (by kernel_rfl))) ?_
  intro W base args ds gs before hval0 hW hL hshape
  have hval : ∀ (j : Nat) t v, Tryd.f8.params[j]? = some t → args[j]? = some v → Value.okWide Tryd.prog W .any base t v := hval0
  have hW' := hW
  obtain ⟨p, q, hA0, hV, rfl, hfz, hnd⟩ := hW
  have hA : DataW.TrodAll enc Tryd.prog W 0 (fun _ => true) true Tryd.f8.params.toList args.toList ds p := hA0
  rw [Tryd.params8] at hA hval
  obtain ⟨v0, d0, rfl, rfl, h0⟩ := trodAll_one hA
  obtain ⟨s, rfl, rfl, rfl, hs⟩ := open_string Tryd.underlying9 (hval 0 9 v0 rfl rfl) h0
  refine (law s W (mx_of hshape) hs).mono fun e W' ⟨he, hw⟩ => ?_
  subst he
  exact ⟨_, rfl, law_post (t := 4) laidOut (by rw [Tryd.params8]; intro t ht; simp at ht; subst ht <;> exact ⟨by kernel_rfl, of_decide_eq_true (by kernel_rfl)⟩) rfl Tryd.underlying4 rfl ⟨rfl, rfl, rfl⟩ hW' hw⟩

theorem row : Rows.tagCanonicalRow.holds Tryd.pinned (OpenSpec.ofChange Rows.tagCanonicalSpec) :=
  OpenClaim.holds_of_wide 8 Tryd.f8 rfl rfl rfl rfl rfl rfl rfl ⟨rfl, rfl, rfl, rfl, rfl⟩ rfl rfl rfl rfl rfl (by kernel_rfl) Tryd.func8 (by kernel_rfl)
    (of_decide_eq_true (by kernel_rfl)) (by unfold Func.isWrapper; first | (rw [if_pos (by decide +kernel)]; kernel_rfl) | (rw [if_neg (by decide +kernel)]; exact ⟨rfl, rfl⟩))
    (fun os started H enc _ => lifted os started H enc)
theorem card : Rows.TagCanonicalCardSaid :=
  Claim7.holds_tied_plain_at .later [] [.data, .pinned] true (true, "b786d81b1336324e40da1fb35184ab8c8cde818ffbbb9534350c230048de5815") false row (fun _ h => by cases h) (by kernel_rfl) (fun _ h => by cases h) tagCanonical_row_tie rfl ⟨rfl, rfl⟩ (by kernel_rfl) rfl
    (fun f fn hf hfn => by
      obtain rfl : f = 8 := Option.some.inj ((show Tryd.prog.funcNamed "calque/calquelaw19.TagCanonical" = some 8 by kernel_rfl).symm.trans hf) |>.symm
      obtain rfl : fn = Tryd.f8 := (Option.some.inj (Tryd.func8.symm.trans hfn)).symm
      exact ⟨by kernel_rfl, fun j t ht => by
        rw [Tryd.params8] at ht
        have hm : t ∈ [9] := by simpa using Array.mem_of_getElem? ht
        have hall : ([9].all fun u => !Tryd.prog.wantsStandIn u) = true := by kernel_rfl
        exact (show Tryd.prog.wantsStandIn t = false by simpa using List.all_eq_true.1 hall t hm)⟩)
    (by kernel_rfl)
#print axioms card
end Go.Proofs.YtfcnhodokbnjnaaDoor.lawTagCanonical
