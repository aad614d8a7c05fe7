import Derived.Test.YtcfgphhhgemkdaaDoorAw20
import Derived.Test.YtcfgphhhgemkdaaDoorAFew
import Derived.Test.YtcfgphhhgemkdaaDoorOpenW
import Derived.Test.YtcfgphhhgemkdaaDoorACan
import Derived.Test.YtcfgphhhgemkdaaDoorARpl
import Derived.Test.YtcfgphhhgemkdaaDoorTCan
import Derived.Test.YtcfgphhhgemkdaaDoorShelf
import Derived.Test.YtcfgphhhgemkdaaDoorRows
import Derived.Test.YtcfgphhhgemkdaaDoorCards
import Derived.Test.YtcfgphhhgemkdaaDoorTie
import Derived.Shelf.Vars
namespace Go.Proofs.YtcfgphhhgemkdaaDoor.lawAliasCanonical
open Go.ChangeShapes Go.WideShapes Go.ChangeAt Go.RowKit
open Go.ChangeMaps (open_string shut_string)
set_option linter.unusedSimpArgs false
set_option linter.unusedVariables false

def laidL : List (String × DataW Unit) := Rows.aliasCanonicalRow.laid
theorem mx_of {W : World} (h : W.ShapedOpen Tryd.prog) : Mx W := Tryd.laysM146.s1_3 W h

def CInv (w : World) (n : Nat) (i : Value) (wr : World) : Prop := ∃ k : Nat, k ≤ n ∧ i = .int .i64 k ∧ Ext w wr
set_option maxRecDepth 100000 in
set_option maxHeartbeats 4000000 in
theorem law (l : List Ali) (A : Option Addr) (n c : Nat) (s : ByteArray) (w : World) (hm : Mx w) (hA : Als w A n l) (hn : n ≤ maxLen) (hz : ∀ a ∈ l, a.1.size ≤ reachBytes ∧ a.2.size ≤ reachBytes) (hs : s.size ≤ maxLen) : Calls Tryd.prog 4 #[.slice A n c, .string s] w (RetTrue w) := by
  have hfw := fun W h => few20_any l A n c W h hn hz
  have hlen := hA.len
  unfold maxLen at hs
  cases hf : fewL l with
  | false =>
    rw [hf] at hfw
    have HFW := Lib.hid hfw
    clear hfw hf hlen
    go_enter Tryd.func4, Tryd.ntmps4
    go_wp2_with fail
    refine (awake_any _ hm).mono ?_
    rintro e w1 ⟨rfl, hw1⟩
    have HW1 := Lib.hid hw1
    clear hw1
    go_wp2_with fail
    refine (HFW.out _ (hA.ext HW1.out)).mono ?_
    rintro e w2 ⟨rfl, hw2⟩
    have HW2 := Lib.hid (HW1.out.trans hw2)
    clear hw2
    go_wp2_with fail
    refine (awake_any _ (hm.ext HW2.out)).mono ?_
    rintro e w3 ⟨rfl, hw3⟩
    have HW3 := Lib.hid (HW2.out.trans hw3)
    clear hw3
    go_wp2
    go_ret
    exact ⟨rfl, HW3.out⟩
  | true =>
   obtain ⟨h12, h60⟩ := fewL_len hf
   rw [hf] at hfw
   by_cases h100 : 100 < s.size
   · have HFW := Lib.hid hfw
     clear hfw hf hlen h12 h60
     go_enter Tryd.func4, Tryd.ntmps4
     go_wp2_with fail
     refine (awake_any _ hm).mono ?_
     rintro e w1 ⟨rfl, hw1⟩
     have HW1 := Lib.hid hw1
     clear hw1
     go_wp2_with fail
     refine (HFW.out _ (hA.ext HW1.out)).mono ?_
     rintro e w2 ⟨rfl, hw2⟩
     have HW2 := Lib.hid (HW1.out.trans hw2)
     clear hw2
     go_wp2_with fail
     refine (awake_any _ (hm.ext HW2.out)).mono ?_
     rintro e w3 ⟨rfl, hw3⟩
     have HW3 := Lib.hid (HW2.out.trans hw3)
     clear hw3
     go_wp2
     go_ret
     exact ⟨rfl, HW3.out⟩
   · have hn1 := fun W hW => tacan_any [] s none 0 0 W hW (SlN.nil _ _ _) (by omega) (by simp) (by omega)
     have hn2 := fun W hW => tcan_any s W hW (by omega)
     have hc1 := fun W hW h => tacan_any l s A n c W hW h (by omega) h60 (by omega)
     rw [canL_nil] at hn1
     have hshape := can_shape (l := l) (s := s.data.toList)
     have hbad := can_bad (l := l) (s := s.data.toList)
     generalize canP s.data.toList = N at hn1 hn2
     generalize canL l s.data.toList = C at hc1 hshape hbad
     obtain ⟨nn, ncode⟩ := N
     obtain ⟨cc, code⟩ := C
     simp only at hn1 hn2 hc1 hshape hbad
     obtain ⟨nb, hnb, _⟩ := strv_b nn
     obtain ⟨cb, hcb, hcb2⟩ := strv_b cc
     rw [hnb] at hn1 hn2
     rw [hcb] at hc1
     have HN1 := Lib.hid hn1
     have HN2 := Lib.hid hn2
     have HFW := Lib.hid hfw
     have HA := Lib.hid hA
     have HC1 := Lib.hid hc1
     have HLEN := Lib.hid hlen
     clear hn1 hn2 hfw hf hc1 hnb hcb hA hlen
     by_cases h0 : code = 0
     · subst h0
       obtain ⟨e, he, hv, hst, hall⟩ := hshape rfl
       have hcl : cb.size ≤ 60000 := by
         have := textP_len hv
         rw [← size_list, hcb2, he]
         omega
       have hc2 := fun W hW h => tacan_any l cb A n c W hW h (by have := HLEN.out; omega) h60 hcl
       have hrp := fun (fb ob : ByteArray) W hW (h : (fb, ob) ∈ l) => tarepl_any fb ob cb W hW (h60 _ h).1 (h60 _ h).2 hcl
       have hrt := fun (fb ob : ByteArray) (h : (fb, ob) ∈ l) => replL_text hv hst hall h
       rw [hcb2, he, canL_text hv hst hall] at hc2
       rw [hcb2, he] at hrp
       rw [he] at hcb2
       rw [← hcb2] at hc2 hrp hrt
       rw [show strv cb.data.toList = .string cb from strv_mk cb] at hc2
       have HC2 := Lib.hid hc2
       have HRP := Lib.hid hrp
       have HRT := Lib.hid hrt
       have HH := Lib.hid (And.intro h12 h60)
       clear hc2 hrp hrt hshape hbad he hv hst hall hcb2 hcl h12 h60
       go_enter Tryd.func4, Tryd.ntmps4
       go_wp2_with fail
       refine (awake_any _ hm).mono ?_
       rintro e w1 ⟨rfl, hw1⟩
       have HW1 := Lib.hid hw1
       clear hw1
       go_wp2_with fail
       refine (HFW.out _ (HA.out.ext HW1.out)).mono ?_
       rintro e w2 ⟨rfl, hw2⟩
       have HW2 := Lib.hid (HW1.out.trans hw2)
       clear hw2
       go_wp2_with fail
       refine (HN1.out _ (hm.ext HW2.out)).mono ?_
       rintro e w3 ⟨rfl, hw3⟩
       have HW3 := Lib.hid (HW2.out.trans hw3)
       clear hw3
       go_wp2_with fail
       refine (HN2.out _ (hm.ext HW3.out)).mono ?_
       rintro e w4 ⟨rfl, hw4⟩
       have HW4 := Lib.hid (HW3.out.trans hw4)
       clear hw4
       go_wp2_with fail
       refine (HC1.out _ (hm.ext HW4.out) (HA.out.ext HW4.out)).mono ?_
       rintro e w5 ⟨rfl, hw5⟩
       have HW5 := Lib.hid (HW4.out.trans hw5)
       clear hw5
       go_wp2_with fail
       refine (HC2.out _ (hm.ext HW5.out) (HA.out.ext HW5.out)).mono ?_
       rintro e w6 ⟨rfl, hw6⟩
       have HW6 := Lib.hid (HW5.out.trans hw6)
       clear hw6
       go_wp2_with fail
       go_loopw [13] (CInv w n) (fun i _ => n - (intOf i).toNat)
       case atStart => exact ⟨0, Nat.zero_le _, rfl, HW6.out⟩
       case round =>
         obtain ⟨k, hk, rfl, hw⟩ := hrel
         have HW := Lib.hid hw
         clear hw
         have hn12 : n ≤ 12 := by have := HH.out.1; have := HLEN.out; omega
         by_cases hkn : k < n
         · obtain ⟨⟨fb, ob⟩, hx⟩ : ∃ x, l[k]? = some x := ⟨_, List.getElem?_eq_getElem (by have := HLEN.out; omega)⟩
           obtain ⟨b, o, rfl, hb, c0, c1'⟩ := (HA.out.ext HW.out).at2 hx
           simp only at c0 c1'
           have hmem := List.mem_of_getElem? hx
           have hrp := fun W hW => HRP.out fb ob W hW hmem
           have hrt := HRT.out fb ob hmem
           clear hx hmem
           generalize replL (fb, ob) cb.data.toList = RR at hrp hrt
           obtain ⟨rt, g⟩ := RR
           simp only at hrp hrt
           rcases hrt with hg | hg
           · subst hg
             obtain ⟨rb, hrb, _⟩ := strv_b rt
             rw [hrb] at hrp
             have HP := Lib.hid hrp
             clear hrp hrb
             go_wp2_with fail
             refine (HP.out _ (hm.ext HW.out)).mono ?_
             rintro e w7 ⟨rfl, hw7⟩
             have HW7 := Lib.hid (HW.out.trans hw7)
             clear hw7
             go_wp2
             exact ⟨⟨k + 1, by omega, by go_num, HW7.out⟩, by simp [intOf]; omega⟩
           · injection hg with hg1 hg2
             subst hg1; subst hg2
             rw [strv_mk] at hrp
             have HP := Lib.hid hrp
             clear hrp
             go_wp2_with fail
             refine (HP.out _ (hm.ext HW.out)).mono ?_
             rintro e w7 ⟨rfl, hw7⟩
             have HW7 := Lib.hid (HW.out.trans hw7)
             clear hw7
             go_wp2
             exact ⟨⟨k + 1, by omega, by go_num, HW7.out⟩, by simp [intOf]; omega⟩
         · have hkk : k = n := by omega
           subst hkk
           go_wp2
           go_ret
           exact ⟨rfl, HW.out⟩
     · have hcc : cc = [] := hbad h0
       subst hcc
       have hb1 : (code == 0) = false := by simpa using h0
       have hce : cb.toList.isEmpty = true := by rw [ByteArray.toList_eq, hcb2]; rfl
       have hce2 : cb.toList = [] := by rw [ByteArray.toList_eq, hcb2]
       clear hshape hbad hcb2 h12 h60
       go_enter Tryd.func4, Tryd.ntmps4
       go_wp2_with fail
       refine (awake_any _ hm).mono ?_
       rintro e w1 ⟨rfl, hw1⟩
       have HW1 := Lib.hid hw1
       clear hw1
       go_wp2_with fail
       refine (HFW.out _ (HA.out.ext HW1.out)).mono ?_
       rintro e w2 ⟨rfl, hw2⟩
       have HW2 := Lib.hid (HW1.out.trans hw2)
       clear hw2
       go_wp2_with fail
       refine (HN1.out _ (hm.ext HW2.out)).mono ?_
       rintro e w3 ⟨rfl, hw3⟩
       have HW3 := Lib.hid (HW2.out.trans hw3)
       clear hw3
       go_wp2_with fail
       refine (HN2.out _ (hm.ext HW3.out)).mono ?_
       rintro e w4 ⟨rfl, hw4⟩
       have HW4 := Lib.hid (HW3.out.trans hw4)
       clear hw4
       go_wp2_with fail
       refine (HC1.out _ (hm.ext HW4.out) (HA.out.ext HW4.out)).mono ?_
       rintro e w5 ⟨rfl, hw5⟩
       have HW5 := Lib.hid (HW4.out.trans hw5)
       clear hw5
       go_wp2
       go_ret
       exact ⟨rfl, HW5.out⟩

set_option maxRecDepth 100000 in
theorem lifted (os : Os) (started : os.Started) (H : Type) (enc : TypeId × Value → H) :
    ReturnsInHanded {} Tryd.checked os 4 .any (fun w args => (Rows.aliasCanonicalSpec.pre enc Tryd.prog Tryd.f4 [] false w args ∧ laidMetH Tryd.prog laidL w) ∧ sizedMet enc Tryd.prog Tryd.f4 (OpenSpec.ofChange Rows.aliasCanonicalSpec) false w args)
      (Rows.aliasCanonicalSpec.post enc Tryd.prog Tryd.f4 false true false false) := by
  refine lifted_and_sized (C := Tryd.checked) (X := fun w _ => laidMetH Tryd.prog laidL w) (fun _ _ _ hh h => h.of_heap hh) own started (by kernel_rfl) Tryd.func4
    (ChangeSpec.witness_shaped (enc := enc) (C := Tryd.checked) (os := os) (X := fun w _ => laidMetH Tryd.prog laidL w) false (World.laidAll Tryd.prog os laidL) #[.slice none 0 0, .string ⟨#[]⟩] 8 (World.laidAll_os _ _ _)
      (World.shaped_of_ZipB (by kernel_rfl) (by kernel_rfl)) (by kernel_rfl) (by kernel_rfl) (by kernel_rfl)
      (by rw [MakeChecks.laidMetH_plain _ _ _ (by kernel_rfl)]; exact laidMet_laidAll _ (by kernel_rfl) (by kernel_rfl))) ?_
  intro W base args ds gs before hval0 hW hL hshape hsz0
  have hval : ∀ (j : Nat) t v, Tryd.f4.params[j]? = some t → args[j]? = some v → Value.okWide Tryd.prog W .any base t v := hval0
  have hW' := hW
  obtain ⟨p, q, hA0, hV, rfl, hfz, hnd⟩ := hW
  have hA : DataW.TrodAll enc Tryd.prog W 0 (fun _ => true) true Tryd.f4.params.toList args.toList ds p := hA0
  obtain ⟨rfl, rfl⟩ := trodVars_none hV
  have hsz : ∀ m ∈ DataW.weightsEach Tryd.prog Tryd.f4.params.toList ds, m ≤ reachBytes := fun m hm => hsz0 m (by
    rw [List.append_nil, show Rows.aliasCanonicalSpec.plain.varTypes Tryd.checked.prog = [] from rfl, List.append_nil]
    exact hm)
  rw [Tryd.params4] at hA hval hsz
  obtain ⟨v0, v1, d0, d1, p0, p1, rfl, rfl, rfl, h0, h1⟩ := trodAll_two hA
  obtain ⟨Al, nl, cl, l, rfl, hals, hnl, _⟩ := open_als Tryd.underlying22 Tryd.underlying34 Tryd.underlying9 rfl rfl rfl rfl (by kernel_rfl) (by kernel_rfl) (okWide_slice Tryd.underlying22 (hval 0 22 v0 rfl rfl)) h0
  have hzl := als_sized Tryd.underlying22 Tryd.underlying34 Tryd.underlying9 rfl rfl rfl rfl (by kernel_rfl) (by kernel_rfl) h0 hals (fun m hm => hsz m (DataW.weights_mem_each (j := 0) rfl rfl m hm))
  obtain ⟨s, rfl, rfl, rfl, hs⟩ := open_string Tryd.underlying9 (hval 1 9 v1 rfl rfl) h1
  refine (law l Al nl cl s W (mx_of hshape) hals hnl hzl hs).mono fun e W' ⟨he, hw⟩ => ?_
  subst he
  exact ⟨_, rfl, law_post (t := 4) laidOut (by rw [Tryd.params4]; intro t ht; simp at ht; rcases ht with rfl | rfl <;> exact ⟨by kernel_rfl, of_decide_eq_true (by kernel_rfl)⟩) rfl Tryd.underlying4 rfl ⟨rfl, rfl, rfl⟩ hW' hw⟩

theorem row : Rows.aliasCanonicalRow.holds Tryd.pinned (OpenSpec.ofChange Rows.aliasCanonicalSpec) :=
  OpenClaim.holds_of_wide 4 Tryd.f4 rfl rfl rfl rfl rfl rfl rfl ⟨rfl, rfl, rfl, rfl, rfl⟩ rfl rfl rfl rfl rfl (by kernel_rfl) Tryd.func4 (by kernel_rfl)
    (of_decide_eq_true (by kernel_rfl)) (by unfold Func.isWrapper; first | (rw [if_pos (by decide +kernel)]; kernel_rfl) | (rw [if_neg (by decide +kernel)]; exact ⟨rfl, rfl⟩))
    (fun os started H enc _ => lifted os started H enc)
theorem card : Rows.AliasCanonicalCardSaid :=
  Claim7.holds_tied_plain_at .later [] [.data, .pinned] true (true, "aaaada9ec4f66e752c1a2a8f6725011ac329e25786803eb6a71bf99f0326b525") false row (fun _ h => by cases h) (by kernel_rfl) (fun _ h => by cases h) aliasCanonical_row_tie rfl ⟨rfl, rfl⟩ (by kernel_rfl) rfl
    (fun f fn hf hfn => by
      obtain rfl : f = 4 := Option.some.inj ((show Tryd.prog.funcNamed "calque/calquelaw20.AliasCanonical" = some 4 by kernel_rfl).symm.trans hf) |>.symm
      obtain rfl : fn = Tryd.f4 := (Option.some.inj (Tryd.func4.symm.trans hfn)).symm
      exact ⟨by kernel_rfl, fun j t ht => by
        rw [Tryd.params4] at ht
        have hm : t ∈ [22, 9] := by simpa using Array.mem_of_getElem? ht
        have hall : ([22, 9].all fun u => !Tryd.prog.wantsStandIn u) = true := by kernel_rfl
        exact (show Tryd.prog.wantsStandIn t = false by simpa using List.all_eq_true.1 hall t hm)⟩)
    (by kernel_rfl)
#print axioms card
end Go.Proofs.YtcfgphhhgemkdaaDoor.lawAliasCanonical
