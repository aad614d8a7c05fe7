import Derived.Test.YtcfgphhhgemkdaaDoorAw20
import Derived.Test.YtcfgphhhgemkdaaDoorAFew
import Derived.Test.YtcfgphhhgemkdaaDoorOpenW
import Derived.Test.YtcfgphhhgemkdaaDoorACan
import Derived.Test.YtcfgphhhgemkdaaDoorSpell
import Derived.Test.YtcfgphhhgemkdaaDoorShelf
import Derived.Test.YtcfgphhhgemkdaaDoorRows
import Derived.Test.YtcfgphhhgemkdaaDoorCards
import Derived.Test.YtcfgphhhgemkdaaDoorTie
import Derived.Shelf.Vars
namespace Go.Proofs.YtcfgphhhgemkdaaDoor.lawAliasSpelling
open Go.ChangeShapes Go.WideShapes Go.ChangeAt Go.RowKit
open Go.ChangeMaps (open_string shut_string)
set_option linter.unusedSimpArgs false
set_option linter.unusedVariables false

def laidL : List (String × DataW Unit) := Rows.aliasSpellingRow.laid
theorem mx_of {W : World} (h : W.ShapedOpen Tryd.prog) : Mx W := Tryd.laysM146.s1_3 W h

set_option maxRecDepth 100000 in
set_option maxHeartbeats 2000000 in
theorem law (l : List Ali) (A : Option Addr) (n c : Nat) (s : ByteArray) (x : Int) (w : World) (hm : Mx w) (hA : Als w A n l) (hn : n ≤ maxLen) (hz : ∀ a ∈ l, a.1.size ≤ reachBytes ∧ a.2.size ≤ reachBytes) (hs : s.size ≤ maxLen) (wx : (Lit.int .u64 x).wf = true) :
    Calls Tryd.prog 3 #[.slice A n c, .string s, .int .u64 x] w (RetTrue w) := by
  have hx : 0 ≤ x ∧ x ≤ 18446744073709551615 := by simpa [Lit.wf, IntKind.min, IntKind.max, IntKind.signed, IntKind.bits] using wx
  obtain ⟨b, rfl⟩ : ∃ b : Nat, x = (b : Int) := ⟨x.toNat, by omega⟩
  clear wx
  have hfw := fun W h => few20_any l A n c W h hn hz
  have hlen := hA.len
  unfold maxLen at hs
  cases hf : fewL l with
  | false =>
    rw [hf] at hfw
    have HFW := Lib.hid hfw
    clear hfw hf hlen
    go_enter Tryd.func3, Tryd.ntmps3
    go_wp2_with fail
    refine (awake_any _ hm).mono ?_
    rintro e w1 ⟨rfl, hw1⟩
    have HW1 := Lib.hid hw1
    clear hw1
    go_wp2_with fail
    refine (HFW.out _ (hA.ext HW1.out)).mono ?_
    rintro e w2 ⟨rfl, hw2⟩
    have HW2 := Lib.hid (HW1.out.trans hw2)
    clear hw2
    go_wp2_with fail
    refine (awake_any _ (hm.ext HW2.out)).mono ?_
    rintro e w3 ⟨rfl, hw3⟩
    have HW3 := Lib.hid (HW2.out.trans hw3)
    clear hw3
    go_wp2
    go_ret
    exact ⟨rfl, HW3.out⟩
  | true =>
   obtain ⟨h12, h60⟩ := fewL_len hf
   rw [hf] at hfw
   by_cases h100 : 60 < s.size
   · have HFW := Lib.hid hfw
     clear hfw hf hlen h12 h60
     go_enter Tryd.func3, Tryd.ntmps3
     go_wp2_with fail
     refine (awake_any _ hm).mono ?_
     rintro e w1 ⟨rfl, hw1⟩
     have HW1 := Lib.hid hw1
     clear hw1
     go_wp2_with fail
     refine (HFW.out _ (hA.ext HW1.out)).mono ?_
     rintro e w2 ⟨rfl, hw2⟩
     have HW2 := Lib.hid (HW1.out.trans hw2)
     clear hw2
     go_wp2_with fail
     refine (awake_any _ (hm.ext HW2.out)).mono ?_
     rintro e w3 ⟨rfl, hw3⟩
     have HW3 := Lib.hid (HW2.out.trans hw3)
     clear hw3
     go_wp2
     go_ret
     exact ⟨rfl, HW3.out⟩
   · have hsz : (⟨(spellL s.data.toList b).toArray⟩ : ByteArray).size ≤ 60000 := by
       show (spellL s.data.toList b).toArray.size ≤ _
       rw [List.size_toArray, spell_len, size_list]
       omega
     have hc1 := fun W hW h => tacan_any l s A n c W hW h (by omega) h60 (by omega)
     have hc2 := fun W hW h => tacan_any l ⟨(spellL s.data.toList b).toArray⟩ A n c W hW h (by omega) h60 hsz
     rw [show (⟨(spellL s.data.toList b).toArray⟩ : ByteArray).data.toList = spellL s.data.toList b from by simp, canL_spell] at hc2
     generalize canL l s.data.toList = C at hc1 hc2
     obtain ⟨cc, code⟩ := C
     simp only at hc1 hc2
     obtain ⟨cb, hcb, _⟩ := strv_b cc
     rw [hcb] at hc1 hc2
     have HFW := Lib.hid hfw
     have HA := Lib.hid hA
     have HC1 := Lib.hid hc1
     have HC2 := Lib.hid hc2
     clear hfw hf hlen hc1 hc2 h12 h60 hcb hsz hA
     go_enter Tryd.func3, Tryd.ntmps3
     go_wp2_with fail
     refine (awake_any _ hm).mono ?_
     rintro e w1 ⟨rfl, hw1⟩
     have HW1 := Lib.hid hw1
     clear hw1
     go_wp2_with fail
     refine (HFW.out _ (HA.out.ext HW1.out)).mono ?_
     rintro e w2 ⟨rfl, hw2⟩
     have HW2 := Lib.hid (HW1.out.trans hw2)
     clear hw2
     go_wp2_with fail
     refine (HC1.out _ (hm.ext HW2.out) (HA.out.ext HW2.out)).mono ?_
     rintro e w3 ⟨rfl, hw3⟩
     have HW3 := Lib.hid (HW2.out.trans hw3)
     clear hw3
     go_wp2_with fail
     refine (rspell_any s b _ (by omega) (by omega)).mono ?_
     rintro e w4 ⟨rfl, hw4⟩
     have HW4 := Lib.hid (HW3.out.trans hw4)
     clear hw4
     unfold strv
     go_wp2_with fail
     refine (HC2.out _ (hm.ext HW4.out) (HA.out.ext HW4.out)).mono ?_
     rintro e w5 ⟨rfl, hw5⟩
     have HW5 := Lib.hid (HW4.out.trans hw5)
     clear hw5
     go_wp2
     go_ret
     exact ⟨rfl, HW5.out⟩

set_option maxRecDepth 100000 in
theorem lifted (os : Os) (started : os.Started) (H : Type) (enc : TypeId × Value → H) :
    ReturnsInHanded {} Tryd.checked os 3 .any (fun w args => (Rows.aliasSpellingSpec.pre enc Tryd.prog Tryd.f3 [] false w args ∧ laidMetH Tryd.prog laidL w) ∧ sizedMet enc Tryd.prog Tryd.f3 (OpenSpec.ofChange Rows.aliasSpellingSpec) false w args)
      (Rows.aliasSpellingSpec.post enc Tryd.prog Tryd.f3 false true false false) := by
  refine lifted_and_sized (C := Tryd.checked) (X := fun w _ => laidMetH Tryd.prog laidL w) (fun _ _ _ hh h => h.of_heap hh) own started (by kernel_rfl) Tryd.func3
    (ChangeSpec.witness_shaped (enc := enc) (C := Tryd.checked) (os := os) (X := fun w _ => laidMetH Tryd.prog laidL w) false (World.laidAll Tryd.prog os laidL) #[.slice none 0 0, .string ⟨#[]⟩, .int .u64 0] 8 (World.laidAll_os _ _ _)
      (World.shaped_of_ZipB (by kernel_rfl) (by kernel_rfl)) (by kernel_rfl) (by kernel_rfl) (by kernel_rfl)
      (by rw [MakeChecks.laidMetH_plain _ _ _ (by kernel_rfl)]; exact laidMet_laidAll _ (by kernel_rfl) (by kernel_rfl))) ?_
  intro W base args ds gs before hval0 hW hL hshape hsz0
  have hval : ∀ (j : Nat) t v, Tryd.f3.params[j]? = some t → args[j]? = some v → Value.okWide Tryd.prog W .any base t v := hval0
  have hW' := hW
  obtain ⟨p, q, hA0, hV, rfl, hfz, hnd⟩ := hW
  have hA : DataW.TrodAll enc Tryd.prog W 0 (fun _ => true) true Tryd.f3.params.toList args.toList ds p := hA0
  obtain ⟨rfl, rfl⟩ := trodVars_none hV
  have hsz : ∀ m ∈ DataW.weightsEach Tryd.prog Tryd.f3.params.toList ds, m ≤ reachBytes := fun m hm => hsz0 m (by
    rw [List.append_nil, show Rows.aliasSpellingSpec.plain.varTypes Tryd.checked.prog = [] from rfl, List.append_nil]
    exact hm)
  rw [Tryd.params3] at hA hval hsz
  obtain ⟨v0, v1, v2, d0, d1, d2, p0, p1, p2, rfl, rfl, rfl, h0, h1, h2⟩ := trodAll_three hA
  obtain ⟨Al, nl, cl, l, rfl, hals, hnl, _⟩ := open_als Tryd.underlying22 Tryd.underlying34 Tryd.underlying9 rfl rfl rfl rfl (by kernel_rfl) (by kernel_rfl) (okWide_slice Tryd.underlying22 (hval 0 22 v0 rfl rfl)) h0
  have hzl := als_sized Tryd.underlying22 Tryd.underlying34 Tryd.underlying9 rfl rfl rfl rfl (by kernel_rfl) (by kernel_rfl) h0 hals (fun m hm => hsz m (DataW.weights_mem_each (j := 0) rfl rfl m hm))
  obtain ⟨s, rfl, rfl, rfl, hs⟩ := open_string Tryd.underlying9 (hval 1 9 v1 rfl rfl) h1
  obtain ⟨x, rfl, rfl, rfl, wx⟩ := open_int Tryd.underlying23 (hval 2 23 v2 rfl rfl) h2
  refine (law l Al nl cl s x W (mx_of hshape) hals hnl hzl hs wx).mono fun e W' ⟨he, hw⟩ => ?_
  subst he
  exact ⟨_, rfl, law_post (t := 4) laidOut (by rw [Tryd.params3]; intro t ht; simp at ht; rcases ht with rfl | rfl | rfl <;> exact ⟨by kernel_rfl, of_decide_eq_true (by kernel_rfl)⟩) rfl Tryd.underlying4 rfl ⟨rfl, rfl, rfl⟩ hW' hw⟩

theorem row : Rows.aliasSpellingRow.holds Tryd.pinned (OpenSpec.ofChange Rows.aliasSpellingSpec) :=
  OpenClaim.holds_of_wide 3 Tryd.f3 rfl rfl rfl rfl rfl rfl rfl ⟨rfl, rfl, rfl, rfl, rfl⟩ rfl rfl rfl rfl rfl (by kernel_rfl) Tryd.func3 (by kernel_rfl)
    (of_decide_eq_true (by kernel_rfl)) (by unfold Func.isWrapper; first | (rw [if_pos (by decide +kernel)]; kernel_rfl) | (rw [if_neg (by decide +kernel)]; exact ⟨rfl, rfl⟩))
    (fun os started H enc _ => lifted os started H enc)
theorem card : Rows.AliasSpellingCardSaid :=
  Claim7.holds_tied_plain_at .later [] [.data, .pinned] true (true, "aaaada9ec4f66e752c1a2a8f6725011ac329e25786803eb6a71bf99f0326b525") false row (fun _ h => by cases h) (by kernel_rfl) (fun _ h => by cases h) aliasSpelling_row_tie rfl ⟨rfl, rfl⟩ (by kernel_rfl) rfl
    (fun f fn hf hfn => by
      obtain rfl : f = 3 := Option.some.inj ((show Tryd.prog.funcNamed "calque/calquelaw20.AliasSpelling" = some 3 by kernel_rfl).symm.trans hf) |>.symm
      obtain rfl : fn = Tryd.f3 := (Option.some.inj (Tryd.func3.symm.trans hfn)).symm
      exact ⟨by kernel_rfl, fun j t ht => by
        rw [Tryd.params3] at ht
        have hm : t ∈ [22, 9, 23] := by simpa using Array.mem_of_getElem? ht
        have hall : ([22, 9, 23].all fun u => !Tryd.prog.wantsStandIn u) = true := by kernel_rfl
        exact (show Tryd.prog.wantsStandIn t = false by simpa using List.all_eq_true.1 hall t hm)⟩)
    (by kernel_rfl)
#print axioms card
end Go.Proofs.YtcfgphhhgemkdaaDoor.lawAliasSpelling
