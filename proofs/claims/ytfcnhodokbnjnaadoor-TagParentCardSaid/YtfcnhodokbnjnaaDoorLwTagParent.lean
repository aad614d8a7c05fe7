import Derived.Test.YtfcnhodokbnjnaaDoorLawS
import Derived.Test.YtfcnhodokbnjnaaDoorSpell
import Derived.Test.YtfcnhodokbnjnaaDoorShelf
import Derived.Test.YtfcnhodokbnjnaaDoorRows
import Derived.Test.YtfcnhodokbnjnaaDoorCards
import Derived.Test.YtfcnhodokbnjnaaDoorTie
import Derived.Shelf.Vars
namespace Go.Proofs.YtfcnhodokbnjnaaDoor.lawTagParent
open Go.ChangeShapes Go.WideShapes Go.ChangeAt Go.RowKit
open Go.ChangeMaps (open_string shut_string)
set_option linter.unusedSimpArgs false
set_option linter.unusedVariables false

def laidL : List (String × DataW Unit) := Rows.tagParentRow.laid
theorem mx_of {W : World} (h : W.ShapedOpen Tryd.prog) : Mx W := Tryd.laysM146.s1_3 W h

theorem ancL_len (s : List UInt8) : (ancL s).1.length ≤ 7 := by
  unfold ancL
  split
  · simp
  · next h =>
    have hv := parse_ok (s := s) (Classical.not_not.1 h)
    simp only [List.length_map]
    rw [ancs_len _ _ hv rfl]
    exact rank_le hv

set_option maxRecDepth 100000 in
set_option maxHeartbeats 1000000 in
theorem law (s : ByteArray) (w : World) (hm : Mx w) (hs : s.size ≤ maxLen) : Calls Tryd.prog 6 #[.string s] w (RetTrue w) := by
  unfold maxLen at hs
  by_cases hlt : 120 < s.size
  · go_enter Tryd.func6, Tryd.ntmps6
    go_wp2_with fail
    refine (awake_any _ hm).mono ?_
    rintro e w1 ⟨rfl, hw1⟩
    have HW1 := Lib.hid hw1
    clear hw1
    go_wp2_with fail
    refine (awake_any _ (hm.ext HW1.out)).mono ?_
    rintro e w2 ⟨rfl, hw2⟩
    have HW2 := Lib.hid hw2
    clear hw2
    go_wp2
    go_ret
    exact ⟨rfl, HW1.out.trans HW2.out⟩
  · have hc1 := fun W hW => tparent2_any s W hW (by omega)
    have hc2 := fun W => rparent2_any s W (by omega)
    have ha1 := fun W hW => tanc_any s W hW (by omega)
    have ha2 := fun W => ranc_any s W (by omega)
    have hal := ancL_len s.data.toList
    generalize parentP s.data.toList = C at hc1 hc2
    generalize ancL s.data.toList = R at ha1 ha2 hal
    obtain ⟨c, k⟩ := C
    obtain ⟨l, code⟩ := R
    simp only at hc1 hc2 ha1 ha2 hal
    obtain ⟨cb, hcb, _⟩ := strv_b c
    rw [hcb] at hc1 hc2
    have HC1 := Lib.hid hc1
    have HC2 := Lib.hid hc2
    have HA1 := Lib.hid ha1
    have HA2 := Lib.hid ha2
    have HL := Lib.hid hal
    clear hc1 hc2 ha1 ha2 hcb hal
    go_enter Tryd.func6, Tryd.ntmps6
    go_wp2_with fail
    refine (awake_any _ hm).mono ?_
    rintro e w1 ⟨rfl, hw1⟩
    have HW1 := Lib.hid hw1
    clear hw1
    go_wp2_with fail
    refine (HC1.out _ (hm.ext HW1.out)).mono ?_
    rintro e w2 ⟨rfl, hw2⟩
    have HW2 := Lib.hid (HW1.out.trans hw2)
    clear hw2
    go_wp2_with fail
    refine (HC2.out _).mono ?_
    rintro e w3 ⟨rfl, hw3⟩
    have HW3 := Lib.hid (HW2.out.trans hw3)
    clear hw3
    go_wp2_with fail
    refine (HA1.out _ (hm.ext HW3.out)).mono ?_
    rintro e w4 ⟨A, n, c1, rfl, hs4, _, hw4⟩
    have HW4 := Lib.hid (HW3.out.trans hw4)
    have HS4 := Lib.hid hs4
    clear hw4 hs4
    go_wp2_with fail
    refine (HA2.out _).mono ?_
    rintro e w5 ⟨B, m, d, rfl, hs5, _, hw5⟩
    have HW5 := Lib.hid (HW4.out.trans hw5)
    have hn : n ≤ maxLen := by have h1 := HS4.out.1; rw [List.length_map] at h1; have := HL.out; unfold maxLen; omega
    have hm5 : m ≤ maxLen := by have h1 := hs5.1; rw [List.length_map] at h1; have := HL.out; unfold maxLen; omega
    have h5 := samestr_any l l A B n m c1 d w5 (HS4.out.ext hw5) hs5 hn hm5
    rw [show (l == l) = true from by simp] at h5
    have HQ := Lib.hid h5
    clear hw5 hs5 h5 hn hm5
    go_wp2_with (go_at_call 22; with_reducible refine HQ.out.mono ?_; rintro e w6 ⟨rfl, hw6⟩; have HW6 := Lib.hid hw6; clear hw6)
    go_ret
    exact ⟨rfl, HW5.out.trans HW6.out⟩

set_option maxRecDepth 100000 in
theorem lifted (os : Os) (started : os.Started) (H : Type) (enc : TypeId × Value → H) :
    ReturnsInHanded {} Tryd.checked os 6 .any (fun w args => (Rows.tagParentSpec.pre enc Tryd.prog Tryd.f6 [] false w args ∧ laidMetH Tryd.prog laidL w) ∧ sizedMet enc Tryd.prog Tryd.f6 (OpenSpec.ofChange Rows.tagParentSpec) false w args)
      (Rows.tagParentSpec.post enc Tryd.prog Tryd.f6 false true false false) := by
  refine lifted_and_shaped (C := Tryd.checked) (X := fun w _ => laidMetH Tryd.prog laidL w) (fun _ _ _ hh h => h.of_heap hh) own started (by kernel_rfl) Tryd.func6
    (ChangeSpec.witness_shaped (enc := enc) (C := Tryd.checked) (os := os) (X := fun w _ => laidMetH Tryd.prog laidL w) false (World.laidAll Tryd.prog os laidL) #[.string ⟨#[]⟩] 8 (World.laidAll_os _ _ _)
      (World.shaped_of_ZipB (by kernel_rfl) (by kernel_rfl)) (by kernel_rfl) (by kernel_rfl) (by kernel_rfl)
      (by rw [MakeChecks.laidMetH_plain _ _ _ (by kernel_rfl)]; exact laidMet_laidAll _ (by kernel_rfl) (by kernel_rfl))) ?_
  intro W base args ds gs before hval0 hW hL hshape
  have hval : ∀ (j : Nat) t v, Tryd.f6.params[j]? = some t → args[j]? = some v → Value.okWide Tryd.prog W .any base t v := hval0
  have hW' := hW
  obtain ⟨p, q, hA0, hV, rfl, hfz, hnd⟩ := hW
  have hA : DataW.TrodAll enc Tryd.prog W 0 (fun _ => true) true Tryd.f6.params.toList args.toList ds p := hA0
  rw [Tryd.params6] at hA hval
  obtain ⟨v0, d0, rfl, rfl, h0⟩ := trodAll_one hA
  obtain ⟨s, rfl, rfl, rfl, hs⟩ := open_string Tryd.underlying9 (hval 0 9 v0 rfl rfl) h0
  refine (law s W (mx_of hshape) hs).mono fun e W' ⟨he, hw⟩ => ?_
  subst he
  exact ⟨_, rfl, law_post (t := 4) laidOut (by rw [Tryd.params6]; intro t ht; simp at ht; subst ht <;> exact ⟨by kernel_rfl, of_decide_eq_true (by kernel_rfl)⟩) rfl Tryd.underlying4 rfl ⟨rfl, rfl, rfl⟩ hW' hw⟩

theorem row : Rows.tagParentRow.holds Tryd.pinned (OpenSpec.ofChange Rows.tagParentSpec) :=
  OpenClaim.holds_of_wide 6 Tryd.f6 rfl rfl rfl rfl rfl rfl rfl ⟨rfl, rfl, rfl, rfl, rfl⟩ rfl rfl rfl rfl rfl (by kernel_rfl) Tryd.func6 (by kernel_rfl)
    (of_decide_eq_true (by kernel_rfl)) (by unfold Func.isWrapper; first | (rw [if_pos (by decide +kernel)]; kernel_rfl) | (rw [if_neg (by decide +kernel)]; exact ⟨rfl, rfl⟩))
    (fun os started H enc _ => lifted os started H enc)
theorem card : Rows.TagParentCardSaid :=
  Claim7.holds_tied_plain_at .later [] [.data, .pinned] true (true, "b786d81b1336324e40da1fb35184ab8c8cde818ffbbb9534350c230048de5815") false row (fun _ h => by cases h) (by kernel_rfl) (fun _ h => by cases h) tagParent_row_tie rfl ⟨rfl, rfl⟩ (by kernel_rfl) rfl
    (fun f fn hf hfn => by
      obtain rfl : f = 6 := Option.some.inj ((show Tryd.prog.funcNamed "calque/calquelaw19.TagParent" = some 6 by kernel_rfl).symm.trans hf) |>.symm
      obtain rfl : fn = Tryd.f6 := (Option.some.inj (Tryd.func6.symm.trans hfn)).symm
      exact ⟨by kernel_rfl, fun j t ht => by
        rw [Tryd.params6] at ht
        have hm : t ∈ [9] := by simpa using Array.mem_of_getElem? ht
        have hall : ([9].all fun u => !Tryd.prog.wantsStandIn u) = true := by kernel_rfl
        exact (show Tryd.prog.wantsStandIn t = false by simpa using List.all_eq_true.1 hall t hm)⟩)
    (by kernel_rfl)
#print axioms card
end Go.Proofs.YtfcnhodokbnjnaaDoor.lawTagParent
