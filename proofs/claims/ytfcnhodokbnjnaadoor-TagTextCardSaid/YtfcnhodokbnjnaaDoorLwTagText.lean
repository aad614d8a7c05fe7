import Derived.Test.YtfcnhodokbnjnaaDoorLawO
import Derived.Test.YtfcnhodokbnjnaaDoorExtW
import Derived.Test.YtfcnhodokbnjnaaDoorLawS
import Derived.Test.YtfcnhodokbnjnaaDoorSpell
import Derived.Test.YtfcnhodokbnjnaaDoorShelf
import Derived.Test.YtfcnhodokbnjnaaDoorRows
import Derived.Test.YtfcnhodokbnjnaaDoorCards
import Derived.Test.YtfcnhodokbnjnaaDoorTie
import Derived.Shelf.Vars
namespace Go.Proofs.YtfcnhodokbnjnaaDoor.lawTagText
open Go.ChangeShapes Go.WideShapes Go.ChangeAt Go.RowKit
open Go.ChangeMaps (open_string shut_string)
set_option linter.unusedSimpArgs false
set_option linter.unusedVariables false

def laidL : List (String × DataW Unit) := Rows.tagTextRow.laid
theorem mx_of {W : World} (h : W.ShapedOpen Tryd.prog) : Mx W := Tryd.laysM146.s1_3 W h

def tagOf (lb sb rb : ByteArray) (xs : List ByteArray) : TagP := ⟨lb.data.toList, sb.data.toList, rb.data.toList, xs.map fun x => x.data.toList⟩
theorem tagOf_vals (lb sb rb : ByteArray) (xs : List ByteArray) : (tagOf lb sb rb xs).vars.map strv = xs.map Value.string := by
  simp [tagOf, strv_mk, Function.comp_def]
theorem tagOf_TL {lb sb rb : ByteArray} {xs : List ByteArray} (h1 : lb.size ≤ maxLen) (h2 : sb.size ≤ maxLen) (h3 : rb.size ≤ maxLen) (h4 : ∀ x ∈ xs, x.size ≤ maxLen) (h5 : xs.length ≤ 8) : TL (tagOf lb sb rb xs) := by
  unfold maxLen at h1 h2 h3 h4
  refine ⟨h1, h2, h3, ?_, ?_⟩
  · intro x hx
    obtain ⟨y, hy, rfl⟩ := List.mem_map.1 hx
    have := h4 y hy
    rw [size_list]
    omega
  · simp [tagOf]; omega

set_option maxRecDepth 100000 in
set_option maxHeartbeats 2000000 in
theorem law (lb sb rb : ByteArray) (xs : List ByteArray) (lc sc rc : ByteArray) (ys : List ByteArray) (A B : Option Addr) (n m c d : Nat) (w : World) (hm : Mx w) (hA : Sl w A n (xs.map .string)) (hB : Sl w B m (ys.map .string))
    (hn : n ≤ maxLen) (hm2 : m ≤ maxLen) (z : lb.size ≤ maxLen ∧ sb.size ≤ maxLen ∧ rb.size ≤ maxLen ∧ ∀ x ∈ xs, x.size ≤ maxLen) (y : lc.size ≤ maxLen ∧ sc.size ≤ maxLen ∧ rc.size ≤ maxLen ∧ ∀ x ∈ ys, x.size ≤ maxLen) :
    Calls Tryd.prog 9 #[.agg #[.string lb, .string sb, .string rb, .slice A n c], .agg #[.string lc, .string sc, .string rc, .slice B m d]] w (RetTrue w) := by
  have F1 := Lib.hid (fun W hW => few_any lb sb rb xs A n c W (hA.ext hW) hn z.1 z.2.1 z.2.2.1 z.2.2.2)
  have F2 := Lib.hid (fun W hW => few_any lc sc rc ys B m d W (hB.ext hW) hm2 y.1 y.2.1 y.2.2.1 y.2.2.2)
  have HA := Lib.hid hA
  have HB := Lib.hid hB
  have HZ := Lib.hid z
  have HY := Lib.hid y
  clear hA hB z y hn hm2
  obtain ⟨w0, hw0⟩ : ∃ w0 : World, w0 = (w.alloc (.cells #[.string lb, .string sb, .string rb, .slice A n c] 29)).alloc (.cells #[.string lc, .string sc, .string rc, .slice B m d] 29) := ⟨_, rfl⟩
  have HW0 := Lib.hid (show Ext w w0 from by rw [hw0]; exact ((Ext.refl w).alloc _).alloc _)
  have AT1 := Lib.hid (show AtT 29 w0 w.heap.size (.string lb) (.string sb) (.string rb) (.slice A n c) from by rw [hw0]; exact (AtT.new w).ext ((Ext.refl _).alloc _))
  have AT2 := Lib.hid (show AtT 29 w0 (w.heap.size + 1) (.string lc) (.string sc) (.string rc) (.slice B m d) from by
    rw [hw0]
    have h := AtT.new (T := 29) (v0 := .string lc) (v1 := .string sc) (v2 := .string rc) (v3 := .slice B m d) (w.alloc (.cells #[.string lb, .string sb, .string rb, .slice A n c] 29))
    simpa using h)
  go_enter Tryd.func9, Tryd.ntmps9
  go_wp2_with fail
  rw [← hw0]
  have HW0E := Lib.hid hw0
  clear hw0
  refine (awake_any _ (hm.ext HW0.out)).mono ?_
  rintro e w1 ⟨rfl, hw1⟩
  have HX1 := Lib.hid hw1
  have HW1 := Lib.hid (HW0.out.trans hw1)
  clear hw1
  obtain ⟨a1, a2, a3, a4⟩ := (AT1.out.ext HX1.out).cells
  go_wp2_with fail
  refine (F1.out _ HW1.out).mono ?_
  rintro e w2 ⟨b1, rfl, hb1, hw2⟩
  have HX2 := Lib.hid (HX1.out.trans hw2)
  have HW2 := Lib.hid (HW1.out.trans hw2)
  have HB1 := Lib.hid hb1
  clear hw2 hb1
  clear a1 a2 a3 a4
  cases b1 with
  | false =>
    go_wp2_with fail
    refine (awake_any _ (hm.ext HW2.out)).mono ?_
    rintro e w3 ⟨rfl, hw3⟩
    have HW3 := Lib.hid (HW2.out.trans hw3)
    clear hw3
    go_wp2
    go_ret
    exact ⟨rfl, HW3.out⟩
  | true =>
    have hn8 := HB1.out rfl
    obtain ⟨a1, a2, a3, a4⟩ := (AT2.out.ext HX2.out).cells
    go_wp2_with fail
    refine (F2.out _ HW2.out).mono ?_
    rintro e w3 ⟨b2, rfl, hb2, hw3⟩
    have HX3 := Lib.hid (HX2.out.trans hw3)
    have HW3 := Lib.hid (HW2.out.trans hw3)
    have HB2 := Lib.hid hb2
    clear hw3 hb2
    clear a1 a2 a3 a4
    cases b2 with
    | false =>
      go_wp2_with fail
      refine (awake_any _ (hm.ext HW3.out)).mono ?_
      rintro e w4 ⟨rfl, hw4⟩
      have HW4 := Lib.hid (HW3.out.trans hw4)
      clear hw4
      go_wp2
      go_ret
      exact ⟨rfl, HW4.out⟩
    | true =>
      have hm8 := HB2.out rfl
      have hxl : xs.length = n := by have := HA.out.1; rwa [List.length_map] at this
      have hyl : ys.length = m := by have := HB.out.1; rwa [List.length_map] at this
      have ht := tagOf_TL HZ.out.1 HZ.out.2.1 HZ.out.2.2.1 HZ.out.2.2.2 (by omega)
      have hu := tagOf_TL HY.out.1 HY.out.2.1 HY.out.2.2.1 HY.out.2.2.2 (by omega)
      have hsA : ∀ W, Ext w W → Sl W A n ((tagOf lb sb rb xs).vars.map strv) := fun W hW => by rw [tagOf_vals]; exact HA.out.ext hW
      have hsB : ∀ W, Ext w W → Sl W B m ((tagOf lc sc rc ys).vars.map strv) := fun W hW => by rw [tagOf_vals]; exact HB.out.ext hW
      have c1 := fun W hW => tText_any (tagOf lb sb rb xs) A n c W (hsA W hW) ht
      have c2 := fun W hW => tvalid_any (tagOf lb sb rb xs) A n c W (hsA W hW) ht
      have c3 := fun W hW => rvalid_any (tagOf lb sb rb xs) A n c W (hsA W hW) ht
      have c4 := fun W hW => rText_any (tagOf lb sb rb xs) A n c W (hsA W hW) ht
      have c5 := fun W hW => tequal_any (tagOf lb sb rb xs) (tagOf lc sc rc ys) A B n c m d W (hsA W hW) (hsB W hW) (by omega) (by omega)
      have c6 := fun W hW => requal_any (tagOf lb sb rb xs) (tagOf lc sc rc ys) A B n c m d W (hsA W hW) (hsB W hW) (by omega) (by omega)
      have c7 := fun W hW => tequal_any (tagOf lb sb rb xs) (tagOf lb sb rb xs) A A n c n c W (hsA W hW) (hsA W hW) (by omega) (by omega)
      rw [eqP_self] at c7
      have hvt : validP (tagOf lb sb rb xs) = true → parseP EC (textP (tagOf lb sb rb xs)) = (tagOf lb sb rb xs, 0) ∧ (textP (tagOf lb sb rb xs)).length ≤ 60 := fun h => ⟨parse_text EC _ h, textP_len h⟩
      have htx : txtOf (tagOf lb sb rb xs) = if validP (tagOf lb sb rb xs) then textP (tagOf lb sb rb xs) else [] := rfl
      have c8 := fun (A' : Option Addr) (n' c' : Nat) W (h1 : Sl W A' n' ((tagOf lb sb rb xs).vars.map strv)) (hn' : n' ≤ 60000) hW => requal_any (tagOf lb sb rb xs) (tagOf lb sb rb xs) A' A n' c' n c W h1 (hsA W hW) hn' (by omega)
      rw [eqP_self] at c8
      generalize hvb : validP (tagOf lb sb rb xs) = vb at c2 c3 hvt htx
      generalize eqP (tagOf lb sb rb xs) (tagOf lc sc rc ys) = eb at c5 c6
      obtain ⟨tb, htb, htl⟩ := strv_b (txtOf (tagOf lb sb rb xs))
      rw [htb] at c1 c4
      have e1 : ∀ A n c, tagV (tagOf lb sb rb xs) A n c = .agg #[.string lb, .string sb, .string rb, .slice A n c] := fun _ _ _ => rfl
      have e2 : ∀ A n c, tagV (tagOf lc sc rc ys) A n c = .agg #[.string lc, .string sc, .string rc, .slice A n c] := fun _ _ _ => rfl
      simp only [e1, e2] at c1 c2 c3 c4 c5 c6 c7 c8
      have C1 := Lib.hid c1
      have C2 := Lib.hid c2
      have C3 := Lib.hid c3
      have C4 := Lib.hid c4
      have C5 := Lib.hid c5
      have C6 := Lib.hid c6
      have C7 := Lib.hid c7
      have C8 := Lib.hid c8
      have HVT := Lib.hid hvt
      have HTX := Lib.hid htx
      have HTL := Lib.hid htl
      have HE1 := Lib.hid e1
      have HT := Lib.hid ht
      clear c1 c2 c3 c4 c5 c6 c7 c8 hvt htx htl e1 e2 htb hvb hsA hsB ht hu
      obtain ⟨a1, a2, a3, a4⟩ := (AT1.out.ext HX3.out).cells
      go_wp2_with fail
      with_reducible refine (C1.out _ HW3.out).mono ?_
      rintro e w4 ⟨rfl, hw4⟩
      have HX4 := Lib.hid (HX3.out.trans hw4)
      have HW4 := Lib.hid (HW3.out.trans hw4)
      clear hw4
      clear a1 a2 a3 a4
      have hc1 : ∀ x : ExtW w4, _ := fun x => (AT1.out.ext (HX4.out.trans x.h)).cells
      have hc2 : ∀ x : ExtW w4, _ := fun x => (AT2.out.ext (HX4.out.trans x.h)).cells
      have a1 := fun x => (hc1 x).1
      have a2 := fun x => (hc1 x).2.1
      have a3 := fun x => (hc1 x).2.2.1
      have a4 := fun x => (hc1 x).2.2.2
      have b1 := fun x => (hc2 x).1
      have b2 := fun x => (hc2 x).2.1
      have b3 := fun x => (hc2 x).2.2.1
      have b4 := fun x => (hc2 x).2.2.2
      clear hc1 hc2
      have D : ∀ x : ExtW w4, Ext w x.v := fun x => HW4.out.trans x.h
      have HD := Lib.hid D
      clear D
      cases vb with
      | false =>
        have htb : tb = ⟨#[]⟩ := by
          apply ByteArray.ext
          apply Array.toList_inj.1
          have h := HTL.out
          rw [HTX.out] at h
          exact h
        subst htb
        cases eb
        all_goals
          go_wp2_with fail
          refine wp_region_ext (by kernel_rfl) (by kernel_rfl) ?_
          repeat (go_big_quiet_step ((first | (go_at_call 23; with_reducible exact ExtW.call (C2.out _ (HD.out _))) | (go_at_call 26; with_reducible exact ExtW.call (C3.out _ (HD.out _))) | (go_at_call 27; with_reducible exact ExtW.call (C4.out _ (HD.out _))) | (go_at_call 15; with_reducible exact ExtW.call (C6.out _ (HD.out _))) | (go_at_call 28; first | with_reducible exact ExtW.call (C5.out _ (HD.out _)) | with_reducible exact ExtW.call (C7.out _ (HD.out _))))))
          refine wpQuiet_nil ?_
          intro wx hx
          have HX := Lib.hid (show Ext w4 wx from by obtain ⟨y, hy⟩ := hx; rw [hy]; exact y.h)
          clear hx
          clear a1 a2 a3 a4 b1 b2 b3 b4
          obtain ⟨a1, a2, a3, a4⟩ := (AT1.out.ext (HX4.out.trans HX.out)).cells
          have HWX := Lib.hid (HW4.out.trans HX.out)
          go_wp2_with fail
          with_reducible refine (C3.out _ HWX.out).mono ?_
          rintro e w5 ⟨rfl, hw5⟩
          have HX5 := Lib.hid ((HX4.out.trans HX.out).trans hw5)
          have HW5 := Lib.hid (HWX.out.trans hw5)
          clear hw5
          clear a1 a2 a3 a4
          go_wp2
          go_ret
          exact ⟨rfl, HW5.out⟩
      | true =>
        have hpt := HVT.out rfl
        have htp := HTX.out
        simp only [if_true] at htp
        have hp := fun W hW => tparse_any tb W hW (by rw [← size_list, HTL.out, htp]; have := hpt.2; omega)
        rw [HTL.out, htp, hpt.1] at hp
        simp only [HE1.out] at hp
        have HP := Lib.hid hp
        clear hp hpt htp
        cases eb
        all_goals
          go_wp2_with fail
          refine wp_region_ext (by kernel_rfl) (by kernel_rfl) ?_
          repeat (go_big_quiet_step ((first | (go_at_call 23; with_reducible exact ExtW.call (C2.out _ (HD.out _))) | (go_at_call 26; with_reducible exact ExtW.call (C3.out _ (HD.out _))) | (go_at_call 27; with_reducible exact ExtW.call (C4.out _ (HD.out _))) | (go_at_call 15; with_reducible exact ExtW.call (C6.out _ (HD.out _))) | (go_at_call 28; first | with_reducible exact ExtW.call (C5.out _ (HD.out _)) | with_reducible exact ExtW.call (C7.out _ (HD.out _))))))
          refine wpQuiet_nil ?_
          intro wx hx
          have HX := Lib.hid (show Ext w4 wx from by obtain ⟨y, hy⟩ := hx; rw [hy]; exact y.h)
          clear hx
          clear a1 a2 a3 a4 b1 b2 b3 b4
          obtain ⟨a1, a2, a3, a4⟩ := (AT1.out.ext (HX4.out.trans HX.out)).cells
          have HWX := Lib.hid (HW4.out.trans HX.out)
          go_wp2_with fail
          with_reducible refine (C3.out _ HWX.out).mono ?_
          rintro e w5 ⟨rfl, hw5⟩
          have HX5 := Lib.hid ((HX4.out.trans HX.out).trans hw5)
          have HW5 := Lib.hid (HWX.out.trans hw5)
          clear hw5
          clear a1 a2 a3 a4
          go_wp2_with fail
          with_reducible refine (HP.out _ (hm.ext HW5.out)).mono ?_
          rintro e w6 ⟨A', n', c', rfl, hs6, _, hw6⟩
          have hn6 := n_le hs6 HT.out
          have HX6 := Lib.hid ((HX5.out.trans hw6).alloc (.cells #[.string lb, .string sb, .string rb, .slice A' n' c'] 25))
          have HW6 := Lib.hid ((HW5.out.trans hw6).alloc (.cells #[.string lb, .string sb, .string rb, .slice A' n' c'] 25))
          have HQ := Lib.hid (C8.out A' n' c' _ (hs6.ext ((Ext.refl w6).alloc (.cells #[.string lb, .string sb, .string rb, .slice A' n' c'] 25))) hn6 HW6.out)
          obtain ⟨a1, a2, a3, a4⟩ := (AT1.out.ext HX6.out).cells
          obtain ⟨b1, b2, b3, b4⟩ := (AtT.new (T := 25) (v0 := .string lb) (v1 := .string sb) (v2 := .string rb) (v3 := .slice A' n' c') w6).cells
          clear hs6 hw6
          go_wp2_with fail
          with_reducible refine HQ.out.mono ?_
          rintro e w7 ⟨rfl, hw7⟩
          have HW7 := Lib.hid (HW6.out.trans hw7)
          clear hw7
          go_wp2
          go_ret
          exact ⟨rfl, HW7.out⟩

set_option maxRecDepth 100000 in
theorem lifted (os : Os) (started : os.Started) (H : Type) (enc : TypeId × Value → H) :
    ReturnsInHanded {} Tryd.checked os 9 .any (fun w args => (Rows.tagTextSpec.pre enc Tryd.prog Tryd.f9 [] false w args ∧ laidMetH Tryd.prog laidL w) ∧ sizedMet enc Tryd.prog Tryd.f9 (OpenSpec.ofChange Rows.tagTextSpec) false w args)
      (Rows.tagTextSpec.post enc Tryd.prog Tryd.f9 false true false false) := by
  refine lifted_and_shaped (C := Tryd.checked) (X := fun w _ => laidMetH Tryd.prog laidL w) (fun _ _ _ hh h => h.of_heap hh) own started (by kernel_rfl) Tryd.func9
    (ChangeSpec.witness_shaped (enc := enc) (C := Tryd.checked) (os := os) (X := fun w _ => laidMetH Tryd.prog laidL w) false (World.laidAll Tryd.prog os laidL) #[.agg #[.string ⟨#[]⟩, .string ⟨#[]⟩, .string ⟨#[]⟩, .slice none 0 0], .agg #[.string ⟨#[]⟩, .string ⟨#[]⟩, .string ⟨#[]⟩, .slice none 0 0]] 8 (World.laidAll_os _ _ _)
      (World.shaped_of_ZipB (by kernel_rfl) (by kernel_rfl)) (by kernel_rfl) (by kernel_rfl) (by kernel_rfl)
      (by rw [MakeChecks.laidMetH_plain _ _ _ (by kernel_rfl)]; exact laidMet_laidAll _ (by kernel_rfl) (by kernel_rfl))) ?_
  intro W base args ds gs before hval0 hW hL hshape
  have hval : ∀ (j : Nat) t v, Tryd.f9.params[j]? = some t → args[j]? = some v → Value.okWide Tryd.prog W .any base t v := hval0
  have hW' := hW
  obtain ⟨p, q, hA0, hV, rfl, hfz, hnd⟩ := hW
  have hA : DataW.TrodAll enc Tryd.prog W 0 (fun _ => true) true Tryd.f9.params.toList args.toList ds p := hA0
  rw [Tryd.params9] at hA hval
  obtain ⟨v0, v1, d0, d1, p0, p1, rfl, rfl, rfl, h0, h1⟩ := trodAll_two hA
  obtain ⟨lb, sb, rb, A, n, c, xs, rfl, hsl, hn, z⟩ := open_tag (hval 0 29 v0 rfl rfl) h0
  obtain ⟨lc, sc, rc, B, m, d, ys, rfl, hsl2, hm, y⟩ := open_tag (hval 1 29 v1 rfl rfl) h1
  refine (law lb sb rb xs lc sc rc ys A B n m c d W (mx_of hshape) hsl hsl2 hn hm z y).mono fun e W' ⟨he, hw⟩ => ?_
  subst he
  exact ⟨_, rfl, law_post (t := 4) laidOut (by rw [Tryd.params9]; intro t ht; simp at ht; subst ht <;> exact ⟨by kernel_rfl, of_decide_eq_true (by kernel_rfl)⟩) rfl Tryd.underlying4 rfl ⟨rfl, rfl, rfl⟩ hW' hw⟩

theorem row : Rows.tagTextRow.holds Tryd.pinned (OpenSpec.ofChange Rows.tagTextSpec) :=
  OpenClaim.holds_of_wide 9 Tryd.f9 rfl rfl rfl rfl rfl rfl rfl ⟨rfl, rfl, rfl, rfl, rfl⟩ rfl rfl rfl rfl rfl (by kernel_rfl) Tryd.func9 (by kernel_rfl)
    (of_decide_eq_true (by kernel_rfl)) (by unfold Func.isWrapper; first | (rw [if_pos (by decide +kernel)]; kernel_rfl) | (rw [if_neg (by decide +kernel)]; exact ⟨rfl, rfl⟩))
    (fun os started H enc _ => lifted os started H enc)
theorem card : Rows.TagTextCardSaid :=
  Claim7.holds_tied_plain_at .later [] [.data, .pinned] true (true, "b786d81b1336324e40da1fb35184ab8c8cde818ffbbb9534350c230048de5815") false row (fun _ h => by cases h) (by kernel_rfl) (fun _ h => by cases h) tagText_row_tie rfl ⟨rfl, rfl⟩ (by kernel_rfl) rfl
    (fun f fn hf hfn => by
      obtain rfl : f = 9 := Option.some.inj ((show Tryd.prog.funcNamed "calque/calquelaw19.TagText" = some 9 by kernel_rfl).symm.trans hf) |>.symm
      obtain rfl : fn = Tryd.f9 := (Option.some.inj (Tryd.func9.symm.trans hfn)).symm
      exact ⟨by kernel_rfl, fun j t ht => by
        rw [Tryd.params9] at ht
        have hm : t ∈ [29, 29] := by simpa using Array.mem_of_getElem? ht
        have hall : ([29, 29].all fun u => !Tryd.prog.wantsStandIn u) = true := by kernel_rfl
        exact (show Tryd.prog.wantsStandIn t = false by simpa using List.all_eq_true.1 hall t hm)⟩)
    (by kernel_rfl)
#print axioms card
end Go.Proofs.YtfcnhodokbnjnaaDoor.lawTagText
