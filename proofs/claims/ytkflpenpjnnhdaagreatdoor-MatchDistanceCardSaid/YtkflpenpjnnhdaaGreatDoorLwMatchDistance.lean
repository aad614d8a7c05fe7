import Derived.Test.YtkflpenpjnnhdaaGreatDoorMQB
import Derived.Test.YtkflpenpjnnhdaaGreatDoorMQ3
import Derived.Test.YtkflpenpjnnhdaaGreatDoorMd
import Derived.Test.YtkflpenpjnnhdaaGreatDoorRDst
import Derived.Test.YtkflpenpjnnhdaaGreatDoorTCan
import Derived.Test.YtkflpenpjnnhdaaGreatDoorShelf
import Derived.Test.YtkflpenpjnnhdaaGreatDoorRows
import Derived.Test.YtkflpenpjnnhdaaGreatDoorCards
import Derived.Test.YtkflpenpjnnhdaaGreatDoorTie
import Derived.Shelf.Vars
namespace Go.Proofs.YtkflpenpjnnhdaaGreatDoor.lawMatchDistance
open Go.ChangeShapes Go.WideShapes Go.ChangeAt Go.RowKit
open Go.ChangeMaps (open_string shut_string)
set_option linter.unusedSimpArgs false
set_option linter.unusedVariables false

def laidL : List (String × DataW Unit) := Rows.matchDistanceRow.laid
theorem mx_of {W : World} (h : W.ShapedOpen Tryz.prog) : Mx W := Tryz.laysM146.s1_3 W h

set_option maxRecDepth 100000 in
set_option maxHeartbeats 8000000 in
theorem law (l : List Nr) (L : Option Addr) (ln lc : Nat) (a b : ByteArray) (w : World) (hm : Mx w) (hL : Nrs w L ln l) (hln : ln ≤ maxLen) (hz : ∀ x ∈ l, x.f.size ≤ reachBytes ∧ x.o.size ≤ reachBytes) (ha : a.size ≤ maxLen) (hb : b.size ≤ maxLen) :
    Calls Tryz.prog 5 #[.slice L ln lc, .string a, .string b] w (RetTrue w) := by
  have HL := Lib.hid hL
  have hm0 := Lib.hid hm
  clear hL
  have hf1 := fun W (h : Ext w W) => fewn_any l L ln lc W (HL.out.ext h) hln hz
  have hf2 := fun (W : World) => fews_any [a, b] (some ⟨W.heap.size, 0, none⟩) 2 2 (W.alloc (.cells #[.string a, .string b] 9)) (Sl.two W (.string a) (.string b) 9) (by unfold maxLen; omega)
  cases q0 : fewN l with
  | false =>
   rw [q0] at hf1
   have HF1 := Lib.hid hf1
   clear q0 hf1 hf2
   go_enter Tryz.func5, Tryz.ntmps5
   go_wp2_with fail
   refine (awake_any _ (hm0.out.ext (Ext.refl _))).mono ?_
   rintro e w1 ⟨rfl, hw1⟩
   have HW1 := Lib.hid ((Ext.refl _).trans hw1)
   clear hw1
   go_wp2_with fail
   refine (HF1.out _ HW1.out).mono ?_
   rintro e w2 ⟨rfl, hw2⟩
   have HW2 := Lib.hid (HW1.out.trans hw2)
   clear hw2
   go_wp2_with fail
   refine (awake_any _ (hm0.out.ext HW2.out)).mono ?_
   rintro e w3 ⟨rfl, hw3⟩
   have HW3 := Lib.hid (HW2.out.trans hw3)
   clear hw3
   go_wp2
   go_ret
   exact ⟨rfl, HW3.out⟩
  | true =>
   obtain ⟨hl30, hl60⟩ := fewN_len q0
   have HZ := Lib.hid (show ∀ x ∈ l, x.f.size ≤ 1000000 ∧ x.o.size ≤ 1000000 from fun x hx => by have := hl60 x hx; omega)
   clear hl30 hl60
   rw [q0] at hf1
   have HF1 := Lib.hid hf1
   clear q0 hf1
   cases q1 : fewS [a, b] with
   | false =>
    rw [q1] at hf2
    have HF2 := Lib.hid hf2
    clear q1 hf2
    go_enter Tryz.func5, Tryz.ntmps5
    go_wp2_with fail
    refine (awake_any _ (hm0.out.ext (Ext.refl _))).mono ?_
    rintro e w1 ⟨rfl, hw1⟩
    have HW1 := Lib.hid ((Ext.refl _).trans hw1)
    clear hw1
    go_wp2_with fail
    refine (HF1.out _ HW1.out).mono ?_
    rintro e w2 ⟨rfl, hw2⟩
    have HW2 := Lib.hid (HW1.out.trans hw2)
    clear hw2
    go_wp2_with fail
    refine (HF2.out _).mono ?_
    rintro e w3 ⟨rfl, hw3⟩
    have HW3 := Lib.hid ((HW2.out.alloc (.cells #[.string a, .string b] 9)).trans hw3)
    clear hw3
    go_wp2_with fail
    refine (awake_any _ (hm0.out.ext HW3.out)).mono ?_
    rintro e w4 ⟨rfl, hw4⟩
    have HW4 := Lib.hid (HW3.out.trans hw4)
    clear hw4
    go_wp2
    go_ret
    exact ⟨rfl, HW4.out⟩
   | true =>
    have ha60 : a.size ≤ 60000 := by have := (fewS_len q1).2 a (by simp); omega
    have hb60 : b.size ≤ 60000 := by have := (fewS_len q1).2 b (by simp); omega
    rw [q1] at hf2
    have HF2 := Lib.hid hf2
    clear q1 hf2
    have k1 := fun W (h : Ext w W) => tDst_any l L ln lc a b W (hm0.out.ext h) (HL.out.ext h) hln HZ.out ha60 hb60
    have k2 := fun W (h : Ext w W) => rDst_any l L ln lc a b W (HL.out.ext h) hln HZ.out ha60 hb60
    have k3 := fun W (h : Ext w W) => tvalN_any l L ln lc W (HL.out.ext h) hln HZ.out
    have k4 := fun W (h : Ext w W) => rvalN_any l L ln lc W (HL.out.ext h) hln HZ.out
    have k5 := fun W (h : Ext w W) => tDst_any l L ln lc b a W (hm0.out.ext h) (HL.out.ext h) hln HZ.out hb60 ha60
    have k6 := fun W (h : Ext w W) => tcan_any a W (hm0.out.ext h) ha60
    have k7 := fun W (h : Ext w W) => tcan_any b W (hm0.out.ext h) hb60
    have hcomm := fun h => distL_comm (l := l.map nearOf) (a := a.data.toList) (b := b.data.toList) h
    have hzero := fun h => distL_zero (l := l.map nearOf) (a := a.data.toList) (b := b.data.toList) h
    generalize validN (l.map nearOf) = V at k3 k4
    generalize distL EC (l.map nearOf) a.data.toList b.data.toList = D at k1 k2 hcomm hzero
    obtain ⟨dn, e⟩ := D
    simp only at k1 k2 hzero hcomm
    have K1 := Lib.hid k1
    have K2 := Lib.hid k2
    have K3 := Lib.hid k3
    have K4 := Lib.hid k4
    clear k1 k2 k3 k4
    by_cases he : e = 0
    rotate_left
    · have hnz : (e == 0) = false := by simpa using he
      clear hcomm hzero k5 k6 k7
      go_enter Tryz.func5, Tryz.ntmps5
      go_wp2_with fail
      refine (awake_any _ (hm0.out.ext (Ext.refl _))).mono ?_
      rintro e w1 ⟨rfl, hw1⟩
      have HW1 := Lib.hid ((Ext.refl _).trans hw1)
      clear hw1
      go_wp2_with fail
      refine (HF1.out _ HW1.out).mono ?_
      rintro e w2 ⟨rfl, hw2⟩
      have HW2 := Lib.hid (HW1.out.trans hw2)
      clear hw2
      go_wp2_with fail
      refine (HF2.out _).mono ?_
      rintro e w3 ⟨rfl, hw3⟩
      have HW3 := Lib.hid ((HW2.out.alloc (.cells #[.string a, .string b] 9)).trans hw3)
      clear hw3
      go_wp2_with fail
      refine (K1.out _ HW3.out).mono ?_
      rintro e w4 ⟨rfl, hw4⟩
      have HW4 := Lib.hid (HW3.out.trans hw4)
      clear hw4
      go_wp2_with fail
      refine (K2.out _ HW4.out).mono ?_
      rintro e w5 ⟨rfl, hw5⟩
      have HW5 := Lib.hid (HW4.out.trans hw5)
      clear hw5
      go_wp2_with fail
      refine (K3.out _ HW5.out).mono ?_
      rintro e w6 ⟨rfl, hw6⟩
      have HW6 := Lib.hid (HW5.out.trans hw6)
      clear hw6
      go_wp2_with fail
      refine (K4.out _ HW6.out).mono ?_
      rintro e w7 ⟨rfl, hw7⟩
      have HW7 := Lib.hid (HW6.out.trans hw7)
      clear hw7
      go_wp2
      go_ret
      exact ⟨by first | rfl | simp | simp [*], HW7.out⟩
    subst he
    rw [hcomm rfl] at k5
    simp only at k5
    obtain ⟨sa, hsa, hsa2⟩ := strv_b (canP a.data.toList).1
    obtain ⟨sb, hsb, hsb2⟩ := strv_b (canP b.data.toList).1
    have hq := hzero rfl
    rw [← hsa2, ← hsb2, ← eq_b] at hq
    rw [hsa] at k6
    rw [hsb] at k7
    have K5 := Lib.hid k5
    have K6 := Lib.hid k6
    have K7 := Lib.hid k7
    clear k5 k6 k7 hcomm hzero hsa hsa2 hsb hsb2
    cases h0 : (dn == 0)
    all_goals
      rw [h0] at hq
      have hq2 := hq.symm
      clear hq
      go_enter Tryz.func5, Tryz.ntmps5
      go_wp2_with fail
      refine (awake_any _ (hm0.out.ext (Ext.refl _))).mono ?_
      rintro e w1 ⟨rfl, hw1⟩
      have HW1 := Lib.hid ((Ext.refl _).trans hw1)
      clear hw1
      go_wp2_with fail
      refine (HF1.out _ HW1.out).mono ?_
      rintro e w2 ⟨rfl, hw2⟩
      have HW2 := Lib.hid (HW1.out.trans hw2)
      clear hw2
      go_wp2_with fail
      refine (HF2.out _).mono ?_
      rintro e w3 ⟨rfl, hw3⟩
      have HW3 := Lib.hid ((HW2.out.alloc (.cells #[.string a, .string b] 9)).trans hw3)
      clear hw3
      go_wp2_with fail
      refine (K1.out _ HW3.out).mono ?_
      rintro e w4 ⟨rfl, hw4⟩
      have HW4 := Lib.hid (HW3.out.trans hw4)
      clear hw4
      go_wp2_with fail
      refine (K2.out _ HW4.out).mono ?_
      rintro e w5 ⟨rfl, hw5⟩
      have HW5 := Lib.hid (HW4.out.trans hw5)
      clear hw5
      go_wp2_with fail
      refine (K3.out _ HW5.out).mono ?_
      rintro e w6 ⟨rfl, hw6⟩
      have HW6 := Lib.hid (HW5.out.trans hw6)
      clear hw6
      go_wp2_with fail
      refine (K4.out _ HW6.out).mono ?_
      rintro e w7 ⟨rfl, hw7⟩
      have HW7 := Lib.hid (HW6.out.trans hw7)
      clear hw7
      go_wp2_with fail
      refine (K5.out _ HW7.out).mono ?_
      rintro e w8 ⟨rfl, hw8⟩
      have HW8 := Lib.hid (HW7.out.trans hw8)
      clear hw8
      go_wp2_with fail
      refine (K6.out _ HW8.out).mono ?_
      rintro e w9 ⟨rfl, hw9⟩
      have HW9 := Lib.hid (HW8.out.trans hw9)
      clear hw9
      go_wp2_with fail
      refine (K7.out _ HW9.out).mono ?_
      rintro e w10 ⟨rfl, hw10⟩
      have HW10 := Lib.hid (HW9.out.trans hw10)
      clear hw10
      go_wp2
      go_ret
      exact ⟨by first | rfl | simp | simp [*], HW10.out⟩

set_option maxRecDepth 100000 in
theorem lifted (os : Os) (started : os.Started) (H : Type) (enc : TypeId × Value → H) :
    ReturnsInHanded {} Tryz.checked os 5 .any (fun w args => (Rows.matchDistanceSpec.pre enc Tryz.prog Tryz.f5 [] false w args ∧ laidMetH Tryz.prog laidL w) ∧ sizedMet enc Tryz.prog Tryz.f5 (OpenSpec.ofChange Rows.matchDistanceSpec) false w args)
      (Rows.matchDistanceSpec.post enc Tryz.prog Tryz.f5 false true false false) := by
  refine lifted_and_sized (C := Tryz.checked) (X := fun w _ => laidMetH Tryz.prog laidL w) (fun _ _ _ hh h => h.of_heap hh) own started (by kernel_rfl) Tryz.func5
    (ChangeSpec.witness_shaped (enc := enc) (C := Tryz.checked) (os := os) (X := fun w _ => laidMetH Tryz.prog laidL w) false (World.laidAll Tryz.prog os laidL) #[.slice none 0 0, .string ⟨#[]⟩, .string ⟨#[]⟩] 8 (World.laidAll_os _ _ _)
      (World.shaped_of_ZipB (by kernel_rfl) (by kernel_rfl)) (by kernel_rfl) (by kernel_rfl) (by kernel_rfl)
      (by rw [MakeChecks.laidMetH_plain _ _ _ (by kernel_rfl)]; exact laidMet_laidAll _ (by kernel_rfl) (by kernel_rfl))) ?_
  intro W base args ds gs before hval0 hW hL hshape hsz0
  have hval : ∀ (j : Nat) t v, Tryz.f5.params[j]? = some t → args[j]? = some v → Value.okWide Tryz.prog W .any base t v := hval0
  have hW' := hW
  obtain ⟨p, q, hA0, hV, rfl, hfz, hnd⟩ := hW
  have hA : DataW.TrodAll enc Tryz.prog W 0 (fun _ => true) true Tryz.f5.params.toList args.toList ds p := hA0
  obtain ⟨rfl, rfl⟩ := trodVars_none hV
  have hsz : ∀ m ∈ DataW.weightsEach Tryz.prog Tryz.f5.params.toList ds, m ≤ reachBytes := fun m hm => hsz0 m (by
    rw [List.append_nil, show Rows.matchDistanceSpec.plain.varTypes Tryz.checked.prog = [] from rfl, List.append_nil]
    exact hm)
  rw [Tryz.params5] at hA hval hsz
  obtain ⟨v0, v1, v2, d0, d1, d2, p0, p1, p2, rfl, rfl, rfl, h0, h1, h2⟩ := trodAll_three hA
  obtain ⟨Al, nl, cl, l, rfl, hnr, hnl, hzl⟩ := open_nrs (hval 0 22 v0 rfl rfl) h0 (fun m hm => hsz m (DataW.weights_mem_each (j := 0) rfl rfl m hm))
  obtain ⟨s1, rfl, rfl, rfl, hs1⟩ := open_string Tryz.underlying9 (hval 1 9 v1 rfl rfl) h1
  obtain ⟨s2, rfl, rfl, rfl, hs2⟩ := open_string Tryz.underlying9 (hval 2 9 v2 rfl rfl) h2
  refine (law l Al nl cl s1 s2 W (mx_of hshape) hnr hnl (fun x hx => ⟨(hzl x hx).1, (hzl x hx).2.1⟩) hs1 hs2).mono fun e W' ⟨he, hw⟩ => ?_
  subst he
  exact ⟨_, rfl, law_post (t := 4) laidOut (by rw [Tryz.params5]; intro t ht; simp at ht; rcases ht with rfl | rfl | rfl <;> exact ⟨by kernel_rfl, of_decide_eq_true (by kernel_rfl)⟩) rfl Tryz.underlying4 rfl ⟨rfl, rfl, rfl⟩ hW' hw⟩

theorem row : Rows.matchDistanceRow.holds Tryz.pinned (OpenSpec.ofChange Rows.matchDistanceSpec) :=
  OpenClaim.holds_of_wide 5 Tryz.f5 rfl rfl rfl rfl rfl rfl rfl ⟨rfl, rfl, rfl, rfl, rfl⟩ rfl rfl rfl rfl rfl (by kernel_rfl) Tryz.func5 (by kernel_rfl)
    (of_decide_eq_true (by kernel_rfl)) (by unfold Func.isWrapper; first | (rw [if_pos (by decide +kernel)]; kernel_rfl) | (rw [if_neg (by decide +kernel)]; exact ⟨rfl, rfl⟩))
    (fun os started H enc _ => lifted os started H enc)
theorem card : Rows.MatchDistanceCardSaid :=
  Claim7.holds_tied_plain_at .later [] [.data, .pinned] true (true, "4cde27c78bbc81950535fd720fe09d69469a41aa016a45fd5cda06c4d16a1c23") false row (fun _ h => by cases h) (by kernel_rfl) (fun _ h => by cases h) matchDistance_row_tie rfl ⟨rfl, rfl⟩ (by kernel_rfl) rfl
    (fun f fn hf hfn => by
      obtain rfl : f = 5 := Option.some.inj ((show Tryz.prog.funcNamed "calque/calquelaw21.MatchDistance" = some 5 by kernel_rfl).symm.trans hf) |>.symm
      obtain rfl : fn = Tryz.f5 := (Option.some.inj (Tryz.func5.symm.trans hfn)).symm
      exact ⟨by kernel_rfl, fun j t ht => by
        rw [Tryz.params5] at ht
        have hm : t ∈ [22, 9, 9] := by simpa using Array.mem_of_getElem? ht
        have hall : ([22, 9, 9].all fun u => !Tryz.prog.wantsStandIn u) = true := by kernel_rfl
        exact (show Tryz.prog.wantsStandIn t = false by simpa using List.all_eq_true.1 hall t hm)⟩)
    (by kernel_rfl)
#print axioms card
end Go.Proofs.YtkflpenpjnnhdaaGreatDoor.lawMatchDistance
