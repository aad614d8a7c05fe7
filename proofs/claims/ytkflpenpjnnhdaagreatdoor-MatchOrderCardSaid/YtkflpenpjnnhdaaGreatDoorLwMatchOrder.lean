import Derived.Test.YtkflpenpjnnhdaaGreatDoorMQB
import Derived.Test.YtkflpenpjnnhdaaGreatDoorMQ3
import Derived.Test.YtkflpenpjnnhdaaGreatDoorMd
import Derived.Test.YtkflpenpjnnhdaaGreatDoorROrd
import Derived.Test.YtkflpenpjnnhdaaGreatDoorTOrL
import Derived.Test.YtkflpenpjnnhdaaGreatDoorMQ4
import Derived.Test.YtkflpenpjnnhdaaGreatDoorShelf
import Derived.Test.YtkflpenpjnnhdaaGreatDoorRows
import Derived.Test.YtkflpenpjnnhdaaGreatDoorCards
import Derived.Test.YtkflpenpjnnhdaaGreatDoorTie
import Derived.Shelf.Vars
namespace Go.Proofs.YtkflpenpjnnhdaaGreatDoor.lawMatchOrder
open Go.ChangeShapes Go.WideShapes Go.ChangeAt Go.RowKit
open Go.ChangeMaps (open_string shut_string)
set_option linter.unusedSimpArgs false
set_option linter.unusedVariables false

def laidL : List (String × DataW Unit) := Rows.matchOrderRow.laid
theorem mx_of {W : World} (h : W.ShapedOpen Tryz.prog) : Mx W := Tryz.laysM146.s1_3 W h

set_option maxRecDepth 100000 in
set_option maxHeartbeats 8000000 in
theorem law (l : List Nr) (L : Option Addr) (ln lc : Nat) (a : ByteArray) (S : List ByteArray) (B : Option Addr) (m d : Nat) (w : World) (hm : Mx w) (hL : Nrs w L ln l) (hln : ln ≤ maxLen) (hz : ∀ x ∈ l, x.f.size ≤ reachBytes ∧ x.o.size ≤ reachBytes) (ha : a.size ≤ maxLen) (hB : Sl w B m (S.map .string)) (hmm : m ≤ maxLen) :
    Calls Tryz.prog 6 #[.slice L ln lc, .string a, .slice B m d] w (RetTrue w) := by
  have HL := Lib.hid hL
  have hm0 := Lib.hid hm
  have HB := Lib.hid hB
  clear hL hB
  have hf1 := fun W (h : Ext w W) => fewn_any l L ln lc W (HL.out.ext h) hln hz
  have hf2 := fun (W : World) => fews_any [a] (some ⟨W.heap.size, 0, none⟩) 1 1 (W.alloc (.cells #[.string a] 9)) (Sl.one W (.string a) 9) (by unfold maxLen; omega)
  have hf3 := fun W (h : Ext w W) => fews_any S B m d W (HB.out.ext h) hmm
  cases q0 : fewN l with
  | false =>
   rw [q0] at hf1
   have HF1 := Lib.hid hf1
   clear q0 hf1 hf2 hf3
   go_enter Tryz.func6, Tryz.ntmps6
   go_wp2_with fail
   refine (awake_any _ (hm0.out.ext (Ext.refl _))).mono ?_
   rintro e w1 ⟨rfl, hw1⟩
   have HW1 := Lib.hid ((Ext.refl _).trans hw1)
   clear hw1
   go_wp2_with fail
   refine (HF1.out _ HW1.out).mono ?_
   rintro e w2 ⟨rfl, hw2⟩
   have HW2 := Lib.hid (HW1.out.trans hw2)
   clear hw2
   go_wp2_with fail
   refine (awake_any _ (hm0.out.ext HW2.out)).mono ?_
   rintro e w3 ⟨rfl, hw3⟩
   have HW3 := Lib.hid (HW2.out.trans hw3)
   clear hw3
   go_wp2
   go_ret
   exact ⟨rfl, HW3.out⟩
  | true =>
   obtain ⟨hl30, hl60⟩ := fewN_len q0
   have HZ := Lib.hid (show ∀ x ∈ l, x.f.size ≤ 1000000 ∧ x.o.size ≤ 1000000 from fun x hx => by have := hl60 x hx; omega)
   clear hl30 hl60
   rw [q0] at hf1
   have HF1 := Lib.hid hf1
   clear q0 hf1
   cases q1 : fewS [a] with
   | false =>
    rw [q1] at hf2
    have HF2 := Lib.hid hf2
    clear q1 hf2 hf3
    go_enter Tryz.func6, Tryz.ntmps6
    go_wp2_with fail
    refine (awake_any _ (hm0.out.ext (Ext.refl _))).mono ?_
    rintro e w1 ⟨rfl, hw1⟩
    have HW1 := Lib.hid ((Ext.refl _).trans hw1)
    clear hw1
    go_wp2_with fail
    refine (HF1.out _ HW1.out).mono ?_
    rintro e w2 ⟨rfl, hw2⟩
    have HW2 := Lib.hid (HW1.out.trans hw2)
    clear hw2
    go_wp2_with fail
    refine (HF2.out _).mono ?_
    rintro e w3 ⟨rfl, hw3⟩
    have HW3 := Lib.hid ((HW2.out.alloc (.cells #[.string a] 9)).trans hw3)
    clear hw3
    go_wp2_with fail
    refine (awake_any _ (hm0.out.ext HW3.out)).mono ?_
    rintro e w4 ⟨rfl, hw4⟩
    have HW4 := Lib.hid (HW3.out.trans hw4)
    clear hw4
    go_wp2
    go_ret
    exact ⟨rfl, HW4.out⟩
   | true =>
    have ha60 : a.size ≤ 60000 := by have := (fewS_len q1).2 a (by simp); omega
    rw [q1] at hf2
    have HF2 := Lib.hid hf2
    clear q1 hf2
    cases q2 : fewS S with
    | false =>
     rw [q2] at hf3
     have HF3 := Lib.hid hf3
     clear q2 hf3
     go_enter Tryz.func6, Tryz.ntmps6
     go_wp2_with fail
     refine (awake_any _ (hm0.out.ext (Ext.refl _))).mono ?_
     rintro e w1 ⟨rfl, hw1⟩
     have HW1 := Lib.hid ((Ext.refl _).trans hw1)
     clear hw1
     go_wp2_with fail
     refine (HF1.out _ HW1.out).mono ?_
     rintro e w2 ⟨rfl, hw2⟩
     have HW2 := Lib.hid (HW1.out.trans hw2)
     clear hw2
     go_wp2_with fail
     refine (HF2.out _).mono ?_
     rintro e w3 ⟨rfl, hw3⟩
     have HW3 := Lib.hid ((HW2.out.alloc (.cells #[.string a] 9)).trans hw3)
     clear hw3
     go_wp2_with fail
     refine (HF3.out _ HW3.out).mono ?_
     rintro e w4 ⟨rfl, hw4⟩
     have HW4 := Lib.hid (HW3.out.trans hw4)
     clear hw4
     go_wp2_with fail
     refine (awake_any _ (hm0.out.ext HW4.out)).mono ?_
     rintro e w5 ⟨rfl, hw5⟩
     have HW5 := Lib.hid (HW4.out.trans hw5)
     clear hw5
     go_wp2
     go_ret
     exact ⟨rfl, HW5.out⟩
    | true =>
     obtain ⟨_, hS⟩ := fewS_len q2
     have HS := Lib.hid (show ∀ s ∈ S, s.size ≤ 60000 from fun s hs => by have := hS s hs; omega)
     clear hS
     have hm20 : m ≤ 100000 := by have h1 := HB.out.1; have h2 := (fewS_len q2).1; rw [List.length_map] at h1; omega
     rw [q2] at hf3
     have HF3 := Lib.hid hf3
     clear q2 hf3
     have k1 := fun W (h : Ext w W) => torder_any l L ln lc a S B m d W (hm0.out.ext h) (HL.out.ext h) hln HZ.out (HB.out.ext h) hm20 ha60 HS.out
     have k2 := fun W (h : Ext w W) => rorder_any l L ln lc a S B m d W (HL.out.ext h) hln HZ.out (HB.out.ext h) hm20 ha60 HS.out
     have hol : (orderR EC (l.map nearOf) a.data.toList (dl S)).1.length ≤ 100000 := by
       have h1 := orderR_len (l.map nearOf) a.data.toList (dl S)
       have h2 := HB.out.1
       rw [List.length_map] at h2
       have h3 : (dl S).length = S.length := by simp [dl]
       omega
     generalize orderR EC (l.map nearOf) a.data.toList (dl S) = D at k1 k2 hol
     obtain ⟨o, e⟩ := D
     simp only at hol
     have HOL := Lib.hid hol
     have K1 := Lib.hid k1
     have K2 := Lib.hid k2
     have KS := Lib.hid (fun (W : World) (A1 A2 : Option Addr) (n1 n2 c1 c2 : Nat) (h1 : Sl W A1 n1 (o.map natV)) (h2 : Sl W A2 n2 (o.map natV)) => sameint_any o o A1 A2 n1 n2 c1 c2 W h1 h2 (by have h := h1.1; rw [List.length_map] at h; unfold maxLen; omega) (by have h := h2.1; rw [List.length_map] at h; unfold maxLen; omega))
     have hoo : decide (o = o) = true := by simp
     rw [hoo] at KS
     clear k1 k2 hol hoo
     go_enter Tryz.func6, Tryz.ntmps6
     go_wp2_with fail
     refine (awake_any _ (hm0.out.ext (Ext.refl _))).mono ?_
     rintro e w1 ⟨rfl, hw1⟩
     have HW1 := Lib.hid ((Ext.refl _).trans hw1)
     clear hw1
     go_wp2_with fail
     refine (HF1.out _ HW1.out).mono ?_
     rintro e w2 ⟨rfl, hw2⟩
     have HW2 := Lib.hid (HW1.out.trans hw2)
     clear hw2
     go_wp2_with fail
     refine (HF2.out _).mono ?_
     rintro e w3 ⟨rfl, hw3⟩
     have HW3 := Lib.hid ((HW2.out.alloc (.cells #[.string a] 9)).trans hw3)
     clear hw3
     go_wp2_with fail
     refine (HF3.out _ HW3.out).mono ?_
     rintro e w4 ⟨rfl, hw4⟩
     have HW4 := Lib.hid (HW3.out.trans hw4)
     clear hw4
     go_wp2_with fail
     refine (K1.out _ HW4.out).mono ?_
     rintro e1 wa ⟨A1, n1, c1, rfl, hs1, hc1, hwa⟩
     have HSA := Lib.hid hs1
     have HWA := Lib.hid (HW4.out.trans hwa)
     clear hs1 hwa
     go_wp2_with fail
     refine (K2.out _ HWA.out).mono ?_
     rintro e2 wb ⟨A2, n2, c2, rfl, hs2, hc2, hwb⟩
     have HSB := Lib.hid hs2
     have HSA2 := Lib.hid (HSA.out.ext hwb)
     have HWB := Lib.hid (HWA.out.trans hwb)
     clear hs2 hwb
     go_wp2_with (go_at_call 22; refine (KS.out _ _ _ _ _ _ _ HSA2.out HSB.out).mono ?_; rintro e3 wc hq; obtain ⟨rfl, hwc⟩ := hq; have HWC := Lib.hid hwc; clear hwc)
     go_ret
     exact ⟨by first | rfl | simp | simp [*], HWB.out.trans HWC.out⟩

set_option maxRecDepth 100000 in
theorem lifted (os : Os) (started : os.Started) (H : Type) (enc : TypeId × Value → H) :
    ReturnsInHanded {} Tryz.checked os 6 .any (fun w args => (Rows.matchOrderSpec.pre enc Tryz.prog Tryz.f6 [] false w args ∧ laidMetH Tryz.prog laidL w) ∧ sizedMet enc Tryz.prog Tryz.f6 (OpenSpec.ofChange Rows.matchOrderSpec) false w args)
      (Rows.matchOrderSpec.post enc Tryz.prog Tryz.f6 false true false false) := by
  refine lifted_and_sized (C := Tryz.checked) (X := fun w _ => laidMetH Tryz.prog laidL w) (fun _ _ _ hh h => h.of_heap hh) own started (by kernel_rfl) Tryz.func6
    (ChangeSpec.witness_shaped (enc := enc) (C := Tryz.checked) (os := os) (X := fun w _ => laidMetH Tryz.prog laidL w) false (World.laidAll Tryz.prog os laidL) #[.slice none 0 0, .string ⟨#[]⟩, .slice none 0 0] 8 (World.laidAll_os _ _ _)
      (World.shaped_of_ZipB (by kernel_rfl) (by kernel_rfl)) (by kernel_rfl) (by kernel_rfl) (by kernel_rfl)
      (by rw [MakeChecks.laidMetH_plain _ _ _ (by kernel_rfl)]; exact laidMet_laidAll _ (by kernel_rfl) (by kernel_rfl))) ?_
  intro W base args ds gs before hval0 hW hL hshape hsz0
  have hval : ∀ (j : Nat) t v, Tryz.f6.params[j]? = some t → args[j]? = some v → Value.okWide Tryz.prog W .any base t v := hval0
  have hW' := hW
  obtain ⟨p, q, hA0, hV, rfl, hfz, hnd⟩ := hW
  have hA : DataW.TrodAll enc Tryz.prog W 0 (fun _ => true) true Tryz.f6.params.toList args.toList ds p := hA0
  obtain ⟨rfl, rfl⟩ := trodVars_none hV
  have hsz : ∀ m ∈ DataW.weightsEach Tryz.prog Tryz.f6.params.toList ds, m ≤ reachBytes := fun m hm => hsz0 m (by
    rw [List.append_nil, show Rows.matchOrderSpec.plain.varTypes Tryz.checked.prog = [] from rfl, List.append_nil]
    exact hm)
  rw [Tryz.params6] at hA hval hsz
  obtain ⟨v0, v1, v2, d0, d1, d2, p0, p1, p2, rfl, rfl, rfl, h0, h1, h2⟩ := trodAll_three hA
  obtain ⟨Al, nl, cl, l, rfl, hnr, hnl, hzl⟩ := open_nrs (hval 0 22 v0 rfl rfl) h0 (fun m hm => hsz m (DataW.weights_mem_each (j := 0) rfl rfl m hm))
  obtain ⟨s1, rfl, rfl, rfl, hs1⟩ := open_string Tryz.underlying9 (hval 1 9 v1 rfl rfl) h1
  obtain ⟨A2, n2, c2, S2, rfl, hS2, hn2⟩ := open_strs Tryz.underlying23 Tryz.underlying9 (by kernel_rfl) (okWide_slice Tryz.underlying23 (hval 2 23 v2 rfl rfl)) h2
  refine (law l Al nl cl s1 S2 A2 n2 c2 W (mx_of hshape) hnr hnl (fun x hx => ⟨(hzl x hx).1, (hzl x hx).2.1⟩) hs1 hS2 hn2).mono fun e W' ⟨he, hw⟩ => ?_
  subst he
  exact ⟨_, rfl, law_post (t := 4) laidOut (by rw [Tryz.params6]; intro t ht; simp at ht; rcases ht with rfl | rfl | rfl <;> exact ⟨by kernel_rfl, of_decide_eq_true (by kernel_rfl)⟩) rfl Tryz.underlying4 rfl ⟨rfl, rfl, rfl⟩ hW' hw⟩

theorem row : Rows.matchOrderRow.holds Tryz.pinned (OpenSpec.ofChange Rows.matchOrderSpec) :=
  OpenClaim.holds_of_wide 6 Tryz.f6 rfl rfl rfl rfl rfl rfl rfl ⟨rfl, rfl, rfl, rfl, rfl⟩ rfl rfl rfl rfl rfl (by kernel_rfl) Tryz.func6 (by kernel_rfl)
    (of_decide_eq_true (by kernel_rfl)) (by unfold Func.isWrapper; first | (rw [if_pos (by decide +kernel)]; kernel_rfl) | (rw [if_neg (by decide +kernel)]; exact ⟨rfl, rfl⟩))
    (fun os started H enc _ => lifted os started H enc)
theorem card : Rows.MatchOrderCardSaid :=
  Claim7.holds_tied_plain_at .later [] [.data, .pinned] true (true, "4cde27c78bbc81950535fd720fe09d69469a41aa016a45fd5cda06c4d16a1c23") false row (fun _ h => by cases h) (by kernel_rfl) (fun _ h => by cases h) matchOrder_row_tie rfl ⟨rfl, rfl⟩ (by kernel_rfl) rfl
    (fun f fn hf hfn => by
      obtain rfl : f = 6 := Option.some.inj ((show Tryz.prog.funcNamed "calque/calquelaw21.MatchOrder" = some 6 by kernel_rfl).symm.trans hf) |>.symm
      obtain rfl : fn = Tryz.f6 := (Option.some.inj (Tryz.func6.symm.trans hfn)).symm
      exact ⟨by kernel_rfl, fun j t ht => by
        rw [Tryz.params6] at ht
        have hm : t ∈ [22, 9, 23] := by simpa using Array.mem_of_getElem? ht
        have hall : ([22, 9, 23].all fun u => !Tryz.prog.wantsStandIn u) = true := by kernel_rfl
        exact (show Tryz.prog.wantsStandIn t = false by simpa using List.all_eq_true.1 hall t hm)⟩)
    (by kernel_rfl)
#print axioms card
end Go.Proofs.YtkflpenpjnnhdaaGreatDoor.lawMatchOrder
