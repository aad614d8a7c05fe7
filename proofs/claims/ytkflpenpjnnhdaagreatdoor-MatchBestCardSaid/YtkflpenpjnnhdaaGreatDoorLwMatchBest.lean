import Derived.Test.YtkflpenpjnnhdaaGreatDoorMQB
import Derived.Test.YtkflpenpjnnhdaaGreatDoorMQ3
import Derived.Test.YtkflpenpjnnhdaaGreatDoorMd
import Derived.Test.YtkflpenpjnnhdaaGreatDoorMQC
import Derived.Test.YtkflpenpjnnhdaaGreatDoorShelf
import Derived.Test.YtkflpenpjnnhdaaGreatDoorRows
import Derived.Test.YtkflpenpjnnhdaaGreatDoorCards
import Derived.Test.YtkflpenpjnnhdaaGreatDoorTie
import Derived.Shelf.Vars
namespace Go.Proofs.YtkflpenpjnnhdaaGreatDoor.lawMatchBest
open Go.ChangeShapes Go.WideShapes Go.ChangeAt Go.RowKit
open Go.ChangeMaps (open_string shut_string)
set_option linter.unusedSimpArgs false
set_option linter.unusedVariables false

def laidL : List (String × DataW Unit) := Rows.matchBestRow.laid
theorem mx_of {W : World} (h : W.ShapedOpen Tryz.prog) : Mx W := Tryz.laysM146.s1_3 W h

set_option maxRecDepth 100000 in
set_option maxHeartbeats 8000000 in
theorem law (l : List Nr) (L : Option Addr) (ln lc : Nat) (R S : List ByteArray) (A B : Option Addr) (n c m d : Nat) (w : World) (hm : Mx w) (hL : Nrs w L ln l) (hln : ln ≤ maxLen) (hz : ∀ x ∈ l, x.f.size ≤ reachBytes ∧ x.o.size ≤ reachBytes) (hA : Sl w A n (R.map .string)) (hn : n ≤ maxLen) (hB : Sl w B m (S.map .string)) (hmm : m ≤ maxLen) :
    Calls Tryz.prog 3 #[.slice L ln lc, .slice A n c, .slice B m d] w (RetTrue w) := by
  have HL := Lib.hid hL
  have hm0 := Lib.hid hm
  have HA := Lib.hid hA
  have HB := Lib.hid hB
  clear hL hA hB
  have hf1 := fun W (h : Ext w W) => fewn_any l L ln lc W (HL.out.ext h) hln hz
  have hf2 := fun W (h : Ext w W) => fews_any R A n c W (HA.out.ext h) hn
  have hf3 := fun W (h : Ext w W) => fews_any S B m d W (HB.out.ext h) hmm
  cases q0 : fewN l with
  | false =>
   rw [q0] at hf1
   have HF1 := Lib.hid hf1
   clear q0 hf1 hf2 hf3
   go_enter Tryz.func3, Tryz.ntmps3
   go_wp2_with fail
   refine (awake_any _ (hm0.out.ext (Ext.refl _))).mono ?_
   rintro e w1 ⟨rfl, hw1⟩
   have HW1 := Lib.hid ((Ext.refl _).trans hw1)
   clear hw1
   go_wp2_with fail
   refine (HF1.out _ HW1.out).mono ?_
   rintro e w2 ⟨rfl, hw2⟩
   have HW2 := Lib.hid (HW1.out.trans hw2)
   clear hw2
   go_wp2_with fail
   refine (awake_any _ (hm0.out.ext HW2.out)).mono ?_
   rintro e w3 ⟨rfl, hw3⟩
   have HW3 := Lib.hid (HW2.out.trans hw3)
   clear hw3
   go_wp2
   go_ret
   exact ⟨rfl, HW3.out⟩
  | true =>
   obtain ⟨hl30, hl60⟩ := fewN_len q0
   have HZ := Lib.hid (show ∀ x ∈ l, x.f.size ≤ 1000000 ∧ x.o.size ≤ 1000000 from fun x hx => by have := hl60 x hx; omega)
   clear hl30 hl60
   rw [q0] at hf1
   have HF1 := Lib.hid hf1
   clear q0 hf1
   cases q1 : fewS R with
   | false =>
    rw [q1] at hf2
    have HF2 := Lib.hid hf2
    clear q1 hf2 hf3
    go_enter Tryz.func3, Tryz.ntmps3
    go_wp2_with fail
    refine (awake_any _ (hm0.out.ext (Ext.refl _))).mono ?_
    rintro e w1 ⟨rfl, hw1⟩
    have HW1 := Lib.hid ((Ext.refl _).trans hw1)
    clear hw1
    go_wp2_with fail
    refine (HF1.out _ HW1.out).mono ?_
    rintro e w2 ⟨rfl, hw2⟩
    have HW2 := Lib.hid (HW1.out.trans hw2)
    clear hw2
    go_wp2_with fail
    refine (HF2.out _ HW2.out).mono ?_
    rintro e w3 ⟨rfl, hw3⟩
    have HW3 := Lib.hid (HW2.out.trans hw3)
    clear hw3
    go_wp2_with fail
    refine (awake_any _ (hm0.out.ext HW3.out)).mono ?_
    rintro e w4 ⟨rfl, hw4⟩
    have HW4 := Lib.hid (HW3.out.trans hw4)
    clear hw4
    go_wp2
    go_ret
    exact ⟨rfl, HW4.out⟩
   | true =>
    obtain ⟨_, hR⟩ := fewS_len q1
    have HR := Lib.hid (show ∀ s ∈ R, s.size ≤ 60000 from fun s hs => by have := hR s hs; omega)
    clear hR
    have hn20 : n ≤ 100000 := by have h1 := HA.out.1; have h2 := (fewS_len q1).1; rw [List.length_map] at h1; omega
    rw [q1] at hf2
    have HF2 := Lib.hid hf2
    clear q1 hf2
    cases q2 : fewS S with
    | false =>
     rw [q2] at hf3
     have HF3 := Lib.hid hf3
     clear q2 hf3
     go_enter Tryz.func3, Tryz.ntmps3
     go_wp2_with fail
     refine (awake_any _ (hm0.out.ext (Ext.refl _))).mono ?_
     rintro e w1 ⟨rfl, hw1⟩
     have HW1 := Lib.hid ((Ext.refl _).trans hw1)
     clear hw1
     go_wp2_with fail
     refine (HF1.out _ HW1.out).mono ?_
     rintro e w2 ⟨rfl, hw2⟩
     have HW2 := Lib.hid (HW1.out.trans hw2)
     clear hw2
     go_wp2_with fail
     refine (HF2.out _ HW2.out).mono ?_
     rintro e w3 ⟨rfl, hw3⟩
     have HW3 := Lib.hid (HW2.out.trans hw3)
     clear hw3
     go_wp2_with fail
     refine (HF3.out _ HW3.out).mono ?_
     rintro e w4 ⟨rfl, hw4⟩
     have HW4 := Lib.hid (HW3.out.trans hw4)
     clear hw4
     go_wp2_with fail
     refine (awake_any _ (hm0.out.ext HW4.out)).mono ?_
     rintro e w5 ⟨rfl, hw5⟩
     have HW5 := Lib.hid (HW4.out.trans hw5)
     clear hw5
     go_wp2
     go_ret
     exact ⟨rfl, HW5.out⟩
    | true =>
     obtain ⟨_, hS⟩ := fewS_len q2
     have HS := Lib.hid (show ∀ s ∈ S, s.size ≤ 60000 from fun s hs => by have := hS s hs; omega)
     clear hS
     have hm20 : m ≤ 100000 := by have h1 := HB.out.1; have h2 := (fewS_len q2).1; rw [List.length_map] at h1; omega
     rw [q2] at hf3
     have HF3 := Lib.hid hf3
     clear q2 hf3
     have k1 := fun W (h : Ext w W) => tbest_any l L ln lc R S A B n c m d W (hm0.out.ext h) (HL.out.ext h) hln HZ.out (HA.out.ext h) (HB.out.ext h) hn20 hm20 HR.out HS.out
     have k2 := fun W (h : Ext w W) => rbest_any l L ln lc R S A B n c m d W (HL.out.ext h) hln HZ.out (HA.out.ext h) (HB.out.ext h) hn20 hm20 HR.out HS.out
     generalize bestR EC (l.map nearOf) (dl R) (dl S) = D at k1 k2
     obtain ⟨i, e⟩ := D
     simp only at k1 k2
     have K1 := Lib.hid k1
     have K2 := Lib.hid k2
     clear k1 k2
     go_enter Tryz.func3, Tryz.ntmps3
     go_wp2_with fail
     refine (awake_any _ (hm0.out.ext (Ext.refl _))).mono ?_
     rintro e w1 ⟨rfl, hw1⟩
     have HW1 := Lib.hid ((Ext.refl _).trans hw1)
     clear hw1
     go_wp2_with fail
     refine (HF1.out _ HW1.out).mono ?_
     rintro e w2 ⟨rfl, hw2⟩
     have HW2 := Lib.hid (HW1.out.trans hw2)
     clear hw2
     go_wp2_with fail
     refine (HF2.out _ HW2.out).mono ?_
     rintro e w3 ⟨rfl, hw3⟩
     have HW3 := Lib.hid (HW2.out.trans hw3)
     clear hw3
     go_wp2_with fail
     refine (HF3.out _ HW3.out).mono ?_
     rintro e w4 ⟨rfl, hw4⟩
     have HW4 := Lib.hid (HW3.out.trans hw4)
     clear hw4
     go_wp2_with fail
     refine (K1.out _ HW4.out).mono ?_
     rintro e w5 ⟨rfl, hw5⟩
     have HW5 := Lib.hid (HW4.out.trans hw5)
     clear hw5
     go_wp2_with fail
     refine (K2.out _ HW5.out).mono ?_
     rintro e w6 ⟨rfl, hw6⟩
     have HW6 := Lib.hid (HW5.out.trans hw6)
     clear hw6
     go_wp2
     go_ret
     exact ⟨by first | rfl | simp | simp [*], HW6.out⟩

set_option maxRecDepth 100000 in
theorem lifted (os : Os) (started : os.Started) (H : Type) (enc : TypeId × Value → H) :
    ReturnsInHanded {} Tryz.checked os 3 .any (fun w args => (Rows.matchBestSpec.pre enc Tryz.prog Tryz.f3 [] false w args ∧ laidMetH Tryz.prog laidL w) ∧ sizedMet enc Tryz.prog Tryz.f3 (OpenSpec.ofChange Rows.matchBestSpec) false w args)
      (Rows.matchBestSpec.post enc Tryz.prog Tryz.f3 false true false false) := by
  refine lifted_and_sized (C := Tryz.checked) (X := fun w _ => laidMetH Tryz.prog laidL w) (fun _ _ _ hh h => h.of_heap hh) own started (by kernel_rfl) Tryz.func3
    (ChangeSpec.witness_shaped (enc := enc) (C := Tryz.checked) (os := os) (X := fun w _ => laidMetH Tryz.prog laidL w) false (World.laidAll Tryz.prog os laidL) #[.slice none 0 0, .slice none 0 0, .slice none 0 0] 8 (World.laidAll_os _ _ _)
      (World.shaped_of_ZipB (by kernel_rfl) (by kernel_rfl)) (by kernel_rfl) (by kernel_rfl) (by kernel_rfl)
      (by rw [MakeChecks.laidMetH_plain _ _ _ (by kernel_rfl)]; exact laidMet_laidAll _ (by kernel_rfl) (by kernel_rfl))) ?_
  intro W base args ds gs before hval0 hW hL hshape hsz0
  have hval : ∀ (j : Nat) t v, Tryz.f3.params[j]? = some t → args[j]? = some v → Value.okWide Tryz.prog W .any base t v := hval0
  have hW' := hW
  obtain ⟨p, q, hA0, hV, rfl, hfz, hnd⟩ := hW
  have hA : DataW.TrodAll enc Tryz.prog W 0 (fun _ => true) true Tryz.f3.params.toList args.toList ds p := hA0
  obtain ⟨rfl, rfl⟩ := trodVars_none hV
  have hsz : ∀ m ∈ DataW.weightsEach Tryz.prog Tryz.f3.params.toList ds, m ≤ reachBytes := fun m hm => hsz0 m (by
    rw [List.append_nil, show Rows.matchBestSpec.plain.varTypes Tryz.checked.prog = [] from rfl, List.append_nil]
    exact hm)
  rw [Tryz.params3] at hA hval hsz
  obtain ⟨v0, v1, v2, d0, d1, d2, p0, p1, p2, rfl, rfl, rfl, h0, h1, h2⟩ := trodAll_three hA
  obtain ⟨Al, nl, cl, l, rfl, hnr, hnl, hzl⟩ := open_nrs (hval 0 22 v0 rfl rfl) h0 (fun m hm => hsz m (DataW.weights_mem_each (j := 0) rfl rfl m hm))
  obtain ⟨A1, n1, c1, S1, rfl, hS1, hn1⟩ := open_strs Tryz.underlying23 Tryz.underlying9 (by kernel_rfl) (okWide_slice Tryz.underlying23 (hval 1 23 v1 rfl rfl)) h1
  obtain ⟨A2, n2, c2, S2, rfl, hS2, hn2⟩ := open_strs Tryz.underlying23 Tryz.underlying9 (by kernel_rfl) (okWide_slice Tryz.underlying23 (hval 2 23 v2 rfl rfl)) h2
  refine (law l Al nl cl S1 S2 A1 A2 n1 c1 n2 c2 W (mx_of hshape) hnr hnl (fun x hx => ⟨(hzl x hx).1, (hzl x hx).2.1⟩) hS1 hn1 hS2 hn2).mono fun e W' ⟨he, hw⟩ => ?_
  subst he
  exact ⟨_, rfl, law_post (t := 4) laidOut (by rw [Tryz.params3]; intro t ht; simp at ht; rcases ht with rfl | rfl | rfl <;> exact ⟨by kernel_rfl, of_decide_eq_true (by kernel_rfl)⟩) rfl Tryz.underlying4 rfl ⟨rfl, rfl, rfl⟩ hW' hw⟩

theorem row : Rows.matchBestRow.holds Tryz.pinned (OpenSpec.ofChange Rows.matchBestSpec) :=
  OpenClaim.holds_of_wide 3 Tryz.f3 rfl rfl rfl rfl rfl rfl rfl ⟨rfl, rfl, rfl, rfl, rfl⟩ rfl rfl rfl rfl rfl (by kernel_rfl) Tryz.func3 (by kernel_rfl)
    (of_decide_eq_true (by kernel_rfl)) (by unfold Func.isWrapper; first | (rw [if_pos (by decide +kernel)]; kernel_rfl) | (rw [if_neg (by decide +kernel)]; exact ⟨rfl, rfl⟩))
    (fun os started H enc _ => lifted os started H enc)
theorem card : Rows.MatchBestCardSaid :=
  Claim7.holds_tied_plain_at .later [] [.data, .pinned] true (true, "4cde27c78bbc81950535fd720fe09d69469a41aa016a45fd5cda06c4d16a1c23") false row (fun _ h => by cases h) (by kernel_rfl) (fun _ h => by cases h) matchBest_row_tie rfl ⟨rfl, rfl⟩ (by kernel_rfl) rfl
    (fun f fn hf hfn => by
      obtain rfl : f = 3 := Option.some.inj ((show Tryz.prog.funcNamed "calque/calquelaw21.MatchBest" = some 3 by kernel_rfl).symm.trans hf) |>.symm
      obtain rfl : fn = Tryz.f3 := (Option.some.inj (Tryz.func3.symm.trans hfn)).symm
      exact ⟨by kernel_rfl, fun j t ht => by
        rw [Tryz.params3] at ht
        have hm : t ∈ [22, 23, 23] := by simpa using Array.mem_of_getElem? ht
        have hall : ([22, 23, 23].all fun u => !Tryz.prog.wantsStandIn u) = true := by kernel_rfl
        exact (show Tryz.prog.wantsStandIn t = false by simpa using List.all_eq_true.1 hall t hm)⟩)
    (by kernel_rfl)
#print axioms card
end Go.Proofs.YtkflpenpjnnhdaaGreatDoor.lawMatchBest
