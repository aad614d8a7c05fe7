import Derived.Test.YtfcnhodokbnjnaaDoorLawS
import Derived.Test.YtfcnhodokbnjnaaDoorSpell
import Derived.Test.YtfcnhodokbnjnaaDoorShelf
import Derived.Test.YtfcnhodokbnjnaaDoorRows
import Derived.Test.YtfcnhodokbnjnaaDoorCards
import Derived.Test.YtfcnhodokbnjnaaDoorTie
import Derived.Shelf.Vars
namespace Go.Proofs.YtfcnhodokbnjnaaDoor.lawTagParse
open Go.ChangeShapes Go.WideShapes Go.ChangeAt Go.RowKit
open Go.ChangeMaps (open_string shut_string)
set_option linter.unusedSimpArgs false
set_option linter.unusedVariables false

def laidL : List (String × DataW Unit) := Rows.tagParseRow.laid
theorem mx_of {W : World} (h : W.ShapedOpen Tryd.prog) : Mx W := Tryd.laysM146.s1_3 W h

set_option maxRecDepth 100000 in
set_option maxHeartbeats 1000000 in
theorem law (s : ByteArray) (w : World) (hm : Mx w) (hs : s.size ≤ maxLen) : Calls Tryd.prog 3 #[.string s] w (RetTrue w) := by
  unfold maxLen at hs
  by_cases hlt : 120 < s.size
  · go_enter Tryd.func3, Tryd.ntmps3
    go_wp2_with fail
    refine (awake_any _ hm).mono ?_
    rintro e w1 ⟨rfl, hw1⟩
    have HW1 := Lib.hid hw1
    clear hw1
    go_wp2_with fail
    refine (awake_any _ (hm.ext HW1.out)).mono ?_
    rintro e w2 ⟨rfl, hw2⟩
    have HW2 := Lib.hid hw2
    clear hw2
    go_wp2
    go_ret
    exact ⟨rfl, HW1.out.trans HW2.out⟩
  · have hok := @parse_ok s.data.toList
    have hz := parse_zero EC s.data.toList
    have hc1 := fun W hW => tcan_any s W hW (by omega)
    have hc2 := fun W => rcan_any s W (by omega)
    have hp1 := fun W hW => tparse_any s W hW (by omega)
    have hp2 := fun W => rparse_any s W (by omega)
    generalize canP s.data.toList = C at hc1 hc2
    generalize parseP EC s.data.toList = R at hp1 hp2 hok hz
    obtain ⟨c, k⟩ := C
    obtain ⟨t, code⟩ := R
    have htl : TL t := by
      by_cases h0 : code = 0
      · exact TL_of (hok h0)
      · have := hz h0
        simp only at this
        rw [this]
        exact TL_zero
    have heq := fun A B n m e d W h1 h2 h3 h4 => requal_any t t A B n e m d W h1 h2 h3 h4
    rw [eqP_self] at heq
    simp only at hc1 hc2 hp1 hp2
    obtain ⟨cb, hcb, _⟩ := strv_b c
    obtain ⟨lb, hlb, _⟩ := strv_b t.lang
    obtain ⟨sb, hsb, _⟩ := strv_b t.script
    obtain ⟨rb, hrb, _⟩ := strv_b t.region
    rw [hcb] at hc1 hc2
    unfold tagV at hp1 hp2 heq
    rw [hlb, hsb, hrb] at hp1 hp2 heq
    have HC1 := Lib.hid hc1
    have HC2 := Lib.hid hc2
    have HP1 := Lib.hid hp1
    have HP2 := Lib.hid hp2
    have HE := Lib.hid heq
    have HT := Lib.hid htl
    clear hc1 hc2 hp1 hp2 heq hcb hlb hsb hrb htl hok hz
    go_enter Tryd.func3, Tryd.ntmps3
    go_wp2_with fail
    refine (awake_any _ hm).mono ?_
    rintro e w1 ⟨rfl, hw1⟩
    have HW1 := Lib.hid hw1
    clear hw1
    go_wp2_with fail
    refine (HP1.out _ (hm.ext HW1.out)).mono ?_
    rintro e w2 ⟨A, n, c1, rfl, hs2, _, hw2⟩
    have HW2 := Lib.hid ((HW1.out.trans hw2).alloc (.cells #[.string lb, .string sb, .string rb, .slice A n c1] 25))
    have HN := Lib.hid (n_le hs2 HT.out)
    have HS2 := Lib.hid (hs2.ext ((Ext.refl w2).alloc (.cells #[.string lb, .string sb, .string rb, .slice A n c1] 25)))
    clear hw2 hs2
    go_wp2_with fail
    refine (HP2.out _).mono ?_
    rintro e w3 ⟨B, m, d, rfl, hs3, _, hw3⟩
    have HX3 := Lib.hid (hw3.alloc (.cells #[.string lb, .string sb, .string rb, .slice B m d] 29))
    have HN3 := Lib.hid (n_le hs3 HT.out)
    have HS3 := Lib.hid (hs3.ext ((Ext.refl w3).alloc (.cells #[.string lb, .string sb, .string rb, .slice B m d] 29)))
    have AT1 := Lib.hid ((AtT.new (T := 25) (v0 := .string lb) (v1 := .string sb) (v2 := .string rb) (v3 := .slice A n c1) w2).ext HX3.out)
    have AT2 := Lib.hid (AtT.new (T := 29) (v0 := .string lb) (v1 := .string sb) (v2 := .string rb) (v3 := .slice B m d) w3)
    clear hw3 hs3
    go_wp2_with fail
    refine (HC1.out _ (hm.ext (HW2.out.trans HX3.out))).mono ?_
    rintro e w4 ⟨rfl, hw4⟩
    have HX4 := Lib.hid hw4
    clear hw4
    go_wp2_with fail
    refine (HC2.out _).mono ?_
    rintro e w5 ⟨rfl, hw5⟩
    have HX5 := Lib.hid (HX4.out.trans hw5)
    clear hw5
    have hA := HS2.out.ext (HX3.out.trans HX5.out)
    have hB := HS3.out.ext HX5.out
    have HQ := Lib.hid (HE.out A B n m c1 d w5 hA hB HN.out HN3.out)
    have hcl1 := (AT1.out.ext HX5.out).cells
    have hcl2 := (AT2.out.ext HX5.out).cells
    obtain ⟨a1, a2, a3, a4⟩ := hcl1
    obtain ⟨b1, b2, b3, b4⟩ := hcl2
    clear hA hB
    go_wp2_with (go_at_call 15; with_reducible refine HQ.out.mono ?_; rintro e w6 ⟨rfl, hw6⟩; have HW6 := Lib.hid hw6; clear hw6)
    go_ret
    exact ⟨rfl, ((HW2.out.trans HX3.out).trans HX5.out).trans HW6.out⟩

set_option maxRecDepth 100000 in
theorem lifted (os : Os) (started : os.Started) (H : Type) (enc : TypeId × Value → H) :
    ReturnsInHanded {} Tryd.checked os 3 .any (fun w args => (Rows.tagParseSpec.pre enc Tryd.prog Tryd.f3 [] false w args ∧ laidMetH Tryd.prog laidL w) ∧ sizedMet enc Tryd.prog Tryd.f3 (OpenSpec.ofChange Rows.tagParseSpec) false w args)
      (Rows.tagParseSpec.post enc Tryd.prog Tryd.f3 false true false false) := by
  refine lifted_and_shaped (C := Tryd.checked) (X := fun w _ => laidMetH Tryd.prog laidL w) (fun _ _ _ hh h => h.of_heap hh) own started (by kernel_rfl) Tryd.func3
    (ChangeSpec.witness_shaped (enc := enc) (C := Tryd.checked) (os := os) (X := fun w _ => laidMetH Tryd.prog laidL w) false (World.laidAll Tryd.prog os laidL) #[.string ⟨#[]⟩] 8 (World.laidAll_os _ _ _)
      (World.shaped_of_ZipB (by kernel_rfl) (by kernel_rfl)) (by kernel_rfl) (by kernel_rfl) (by kernel_rfl)
      (by rw [MakeChecks.laidMetH_plain _ _ _ (by kernel_rfl)]; exact laidMet_laidAll _ (by kernel_rfl) (by kernel_rfl))) ?_
  intro W base args ds gs before hval0 hW hL hshape
  have hval : ∀ (j : Nat) t v, Tryd.f3.params[j]? = some t → args[j]? = some v → Value.okWide Tryd.prog W .any base t v := hval0
  have hW' := hW
  obtain ⟨p, q, hA0, hV, rfl, hfz, hnd⟩ := hW
  have hA : DataW.TrodAll enc Tryd.prog W 0 (fun _ => true) true Tryd.f3.params.toList args.toList ds p := hA0
  rw [Tryd.params3] at hA hval
  obtain ⟨v0, d0, rfl, rfl, h0⟩ := trodAll_one hA
  obtain ⟨s, rfl, rfl, rfl, hs⟩ := open_string Tryd.underlying9 (hval 0 9 v0 rfl rfl) h0
  refine (law s W (mx_of hshape) hs).mono fun e W' ⟨he, hw⟩ => ?_
  subst he
  exact ⟨_, rfl, law_post (t := 4) laidOut (by rw [Tryd.params3]; intro t ht; simp at ht; subst ht <;> exact ⟨by kernel_rfl, of_decide_eq_true (by kernel_rfl)⟩) rfl Tryd.underlying4 rfl ⟨rfl, rfl, rfl⟩ hW' hw⟩

theorem row : Rows.tagParseRow.holds Tryd.pinned (OpenSpec.ofChange Rows.tagParseSpec) :=
  OpenClaim.holds_of_wide 3 Tryd.f3 rfl rfl rfl rfl rfl rfl rfl ⟨rfl, rfl, rfl, rfl, rfl⟩ rfl rfl rfl rfl rfl (by kernel_rfl) Tryd.func3 (by kernel_rfl)
    (of_decide_eq_true (by kernel_rfl)) (by unfold Func.isWrapper; first | (rw [if_pos (by decide +kernel)]; kernel_rfl) | (rw [if_neg (by decide +kernel)]; exact ⟨rfl, rfl⟩))
    (fun os started H enc _ => lifted os started H enc)
theorem card : Rows.TagParseCardSaid :=
  Claim7.holds_tied_plain_at .later [] [.data, .pinned] true (true, "b786d81b1336324e40da1fb35184ab8c8cde818ffbbb9534350c230048de5815") false row (fun _ h => by cases h) (by kernel_rfl) (fun _ h => by cases h) tagParse_row_tie rfl ⟨rfl, rfl⟩ (by kernel_rfl) rfl
    (fun f fn hf hfn => by
      obtain rfl : f = 3 := Option.some.inj ((show Tryd.prog.funcNamed "calque/calquelaw19.TagParse" = some 3 by kernel_rfl).symm.trans hf) |>.symm
      obtain rfl : fn = Tryd.f3 := (Option.some.inj (Tryd.func3.symm.trans hfn)).symm
      exact ⟨by kernel_rfl, fun j t ht => by
        rw [Tryd.params3] at ht
        have hm : t ∈ [9] := by simpa using Array.mem_of_getElem? ht
        have hall : ([9].all fun u => !Tryd.prog.wantsStandIn u) = true := by kernel_rfl
        exact (show Tryd.prog.wantsStandIn t = false by simpa using List.all_eq_true.1 hall t hm)⟩)
    (by kernel_rfl)
#print axioms card
end Go.Proofs.YtfcnhodokbnjnaaDoor.lawTagParse
