import Derived.Test.YtfcnhodokbnjnaaDoorLawQ
import Derived.Test.YtfcnhodokbnjnaaDoorLawS
import Derived.Test.YtfcnhodokbnjnaaDoorSpell
import Derived.Test.YtfcnhodokbnjnaaDoorShelf
import Derived.Test.YtfcnhodokbnjnaaDoorRows
import Derived.Test.YtfcnhodokbnjnaaDoorCards
import Derived.Test.YtfcnhodokbnjnaaDoorTie
import Derived.Shelf.Vars
namespace Go.Proofs.YtfcnhodokbnjnaaDoor.lawTagAncestors
open Go.ChangeShapes Go.WideShapes Go.ChangeAt Go.RowKit
open Go.ChangeMaps (open_string shut_string)
set_option linter.unusedSimpArgs false
set_option linter.unusedVariables false

def laidL : List (String × DataW Unit) := Rows.tagAncestorsRow.laid
theorem mx_of {W : World} (h : W.ShapedOpen Tryd.prog) : Mx W := Tryd.laysM146.s1_3 W h

def AInv (q : Nat → ByteArray) (n : Nat) (w : World) (l i : Value) (wr : World) : Prop :=
  ∃ k : Nat, k ≤ n ∧ i = .int .i64 (k : Int) ∧ l = .string (q k) ∧ Ext w wr
def BInv (k : Nat) (w : World) (j : Value) (wr : World) : Prop := ∃ m : Nat, m ≤ k ∧ j = .int .i64 (m : Int) ∧ Ext w wr
set_option maxRecDepth 100000 in
set_option maxHeartbeats 2000000 in
theorem law (s : ByteArray) (w : World) (hm : Mx w) (hs : s.size ≤ maxLen) : Calls Tryd.prog 7 #[.string s] w (RetTrue w) := by
  unfold maxLen at hs
  by_cases hlt : 120 < s.size
  · go_enter Tryd.func7, Tryd.ntmps7
    go_wp2_with fail
    refine (awake_any _ hm).mono ?_
    rintro e w1 ⟨rfl, hw1⟩
    have HW1 := Lib.hid hw1
    clear hw1
    go_wp2_with fail
    refine (awake_any _ (hm.ext HW1.out)).mono ?_
    rintro e w2 ⟨rfl, hw2⟩
    have HW2 := Lib.hid hw2
    clear hw2
    go_wp2
    go_ret
    exact ⟨rfl, HW1.out.trans HW2.out⟩
  · have hi := fun W => ris_any s W (by omega)
    cases hI : isP s.data.toList with
    | false =>
      rw [hI] at hi
      have HI := Lib.hid hi
      clear hi hI
      go_enter Tryd.func7, Tryd.ntmps7
      go_wp2_with fail
      refine (awake_any _ hm).mono ?_
      rintro e w1 ⟨rfl, hw1⟩
      have HW1 := Lib.hid hw1
      clear hw1
      go_wp2_with fail
      refine (HI.out _).mono ?_
      rintro e w2 ⟨rfl, hw2⟩
      have HW2 := Lib.hid (HW1.out.trans hw2)
      clear hw2
      go_wp2_with fail
      refine (awake_any _ (hm.ext HW2.out)).mono ?_
      rintro e w3 ⟨rfl, hw3⟩
      have HW3 := Lib.hid (HW2.out.trans hw3)
      clear hw3
      go_wp2
      go_ret
      exact ⟨rfl, HW3.out⟩
    | true =>
      rw [hI] at hi
      obtain ⟨t, hv, hpa, htx⟩ := is_tag hI
      have ha := fun W hW => tanc_any s W hW (by omega)
      have hal : ancL s.data.toList = ((ancs t).map textP, 0) := by unfold ancL; rw [hpa]; rfl
      rw [hal, q_list] at ha
      obtain ⟨q, hq⟩ : ∃ q : Nat → ByteArray, ∀ k, q k = ⟨(qOf t k).toArray⟩ := ⟨_, fun _ => rfl⟩
      have hqs : ∀ k, strv (qOf t k) = .string (q k) := fun k => by rw [hq]; rfl
      have hql : ∀ k, (q k).data.toList = qOf t k := fun k => by rw [hq]
      have hpar : ∀ k, k < (ancs t).length → ∀ W, Mx W → Calls Tryd.prog 18 #[.string (q k)] W fun e w' => e = .returned (.tuple #[.string (q (k + 1)), .int .i64 0]) ∧ Ext W w' := fun k hk W hW => by
        have h := tparent2_any (q k) W hW (by rw [← size_list, hql]; have := q_size hv (Nat.le_of_lt hk); omega)
        rw [hql, q_parent hv hk] at h
        simp only [hqs] at h
        exact h
      have hroot : q (ancs t).length = ⟨#[117, 110, 100]⟩ := by rw [hq, q_root hv]; rfl
      have hend : ∀ W, Mx W → Calls Tryd.prog 18 #[.string (q (ancs t).length)] W fun e w' => e = .returned (.tuple #[.string ⟨#[]⟩, .int .i64 8]) ∧ Ext W w' := fun W hW => by
        have h := tparent2_any (q (ancs t).length) W hW (by rw [← size_list, hql]; have := q_size hv (Nat.le_refl (ancs t).length); omega)
        rw [hql, q_root hv, q_last hv] at h
        exact h
      have hne : ∀ i j, i < j → j ≤ (ancs t).length → q i ≠ q j := fun i j hij hj h => q_ne hv hij hj (by rw [← hql, ← hql, h])
      have h0 : q 0 = s := by rw [hq]; show (⟨(textP t).toArray⟩ : ByteArray) = s; rw [htx]
      have hl7 := q_len hv
      have hag : ∀ W, Mx W → Calls Tryd.prog 20 #[.string s] W fun e w' => ∃ A n c, e = .returned (.tuple #[.slice A n c, .int .i64 0]) ∧ Sl w' A n ((List.range (ancs t).length).map fun k => .string (q (k + 1))) ∧ n ≤ c ∧ Ext W w' := fun W hW => by
        have h := ha W hW
        simp only [List.map_map] at h
        have e1 : (strv ∘ fun k => qOf t (k + 1)) = fun k => Value.string (q (k + 1)) := by funext k; exact hqs (k + 1)
        rw [e1] at h
        exact h
      clear ha hal hql hqs hq htx hpa hI hv
      generalize (ancs t).length = L at hpar hroot hend hne hl7 hag
      have HI := Lib.hid hi
      have HP := Lib.hid hpar
      have HE := Lib.hid hend
      have HA := Lib.hid hag
      have HNE := Lib.hid hne
      have HR := Lib.hid hroot
      have H0 := Lib.hid h0
      clear hi hpar hend hag hne hroot h0
      go_enter Tryd.func7, Tryd.ntmps7
      go_wp2_with fail
      refine (awake_any _ hm).mono ?_
      rintro e w1 ⟨rfl, hw1⟩
      have HW1 := Lib.hid hw1
      clear hw1
      go_wp2_with fail
      refine (HI.out _).mono ?_
      rintro e w2 ⟨rfl, hw2⟩
      have HW2 := Lib.hid (HW1.out.trans hw2)
      clear hw2
      go_wp2_with fail
      refine (HA.out _ (hm.ext HW2.out)).mono ?_
      rintro e w3 ⟨A, n, c1, rfl, hs3, _, hw3⟩
      have hnL : n = L := by have := hs3.len; simpa using this
      subst hnL
      have HW3 := Lib.hid (HW2.out.trans hw3)
      have HS3 := Lib.hid hs3
      clear hw3 hs3
      by_cases hn0 : n = 0
      · subst hn0
        have hsu : s = ⟨#[117, 110, 100]⟩ := by rw [← H0.out]; exact HR.out
        subst hsu
        go_wp2_with fail
        go_loopw [5, 6] (AInv q 0 w3) (fun _ _ _ => 0)
        case atStart => exact ⟨0, Nat.le_refl _, rfl, by rw [H0.out], Ext.refl _⟩
        case round =>
          obtain ⟨k, hk, rfl, rfl, hw⟩ := hrel
          have hk0 : k = 0 := by omega
          subst hk0
          have HW := Lib.hid (HW3.out.trans hw)
          clear hw
          go_wp2_with fail
          refine (HE.out _ (hm.ext HW.out)).mono ?_
          rintro e w5 ⟨rfl, hw5⟩
          have HW5 := Lib.hid (HW.out.trans hw5)
          clear hw5
          go_wp2
          go_ret
          exact ⟨rfl, HW5.out⟩
      · cases A with
        | none => exact absurd (none_nil HS3.out) hn0
        | some ad =>
          obtain ⟨b, o, rfl, hblt⟩ := addr_flat HS3.out (by omega)
          have hcell : ∀ W, Ext w3 W → ∀ j, j < n → W.cell? ⟨b, o + j, none⟩ = some (.string (q (j + 1))) := by
            intro W hW j hj
            obtain ⟨ad, ha, _, hc⟩ := (HS3.out.ext hW).2 j (.string (q (j + 1))) (by simp [hj])
            injection ha with ha
            subst ha
            rwa [add_flat] at hc
          have HC := Lib.hid hcell
          have hlastc := hcell w3 (Ext.refl _) (n - 1) (by omega)
          rw [show n - 1 + 1 = n from by omega, HR.out] at hlastc
          clear hcell
          have hpos : 0 < n := by omega
          have hn8 : ((n : Int) == 0) = false := by simp; omega
          have hsr : (s.toList == [117, 110, 100]) = false := by
            rw [beq_eq_false_iff_ne]
            intro h
            refine HNE.out 0 n hpos (Nat.le_refl _) ?_
            rw [H0.out, HR.out]
            apply ByteArray.ext
            apply Array.toList_inj.1
            rw [← ByteArray.toList_eq, h]
          have HSN : Hid (∀ j, j < n → ((q (j + 1)).toList == s.toList) = false) := Lib.hid fun j hj => by
            rw [beq_eq_false_iff_ne]
            intro h
            refine HNE.out 0 (j + 1) (by omega) hj ?_
            rw [H0.out]
            apply ByteArray.ext
            apply Array.toList_inj.1
            rw [← ByteArray.toList_eq, ← ByteArray.toList_eq, h]
          have HJN : Hid (∀ i j, i < j → j < n → ((q (i + 1)).toList == (q (j + 1)).toList) = false) := Lib.hid fun i j hij hj => by
            rw [beq_eq_false_iff_ne]
            intro h
            refine HNE.out (i + 1) (j + 1) (by omega) hj ?_
            apply ByteArray.ext
            apply Array.toList_inj.1
            rw [← ByteArray.toList_eq, ← ByteArray.toList_eq, h]
          go_wp2_with fail
          clear hlastc hsr
          go_loopw [5, 6] (AInv q n w3) (fun _ i _ => n - (intOf i).toNat)
          case atStart => exact ⟨0, Nat.zero_le _, rfl, by rw [H0.out], Ext.refl _⟩
          case round =>
            obtain ⟨k, hk, rfl, rfl, hw⟩ := hrel
            have HX := Lib.hid hw
            have HW := Lib.hid (HW3.out.trans hw)
            clear hw
            by_cases hkn : k < n
            · have hsn := HSN.out k hkn
              go_wp2_with fail
              refine (HP.out k hkn _ (hm.ext HW.out)).mono ?_
              rintro e w5 ⟨rfl, hw5⟩
              have HX5 := Lib.hid (HX.out.trans hw5)
              clear hw5
              have hck := HC.out w5 HX5.out k hkn
              go_wp2_with fail
              go_loopw [9] (BInv k w5) (fun j _ => k - (intOf j).toNat)
              case atStart => exact ⟨0, Nat.zero_le _, rfl, Ext.refl _⟩
              case round =>
                obtain ⟨m, hmk, rfl, hwm⟩ := hrel
                have HX6 := Lib.hid (HX5.out.trans hwm)
                have HM6 := Lib.hid hwm
                have hck := HC.out _ HX6.out k hkn
                clear hwm
                by_cases hm2 : m < k
                · have hcm := HC.out _ HX6.out m (by omega)
                  have hnn := HJN.out m k hm2 hkn
                  go_wp2_with fail
                  go_quiet (fail)
                  go_wp2
                  exact ⟨⟨m + 1, by omega, by go_num, HM6.out.drewN _⟩, by simp [intOf]; omega⟩
                · go_wp2_with fail
                  exact ⟨⟨k + 1, by omega, by go_num, rfl, HX6.out⟩, by simp [intOf]; omega⟩
            · have hkk : k = n := by omega
              subst hkk
              go_wp2_with fail
              refine (HE.out _ (hm.ext HW.out)).mono ?_
              rintro e w5 ⟨rfl, hw5⟩
              have HW5 := Lib.hid (HW.out.trans hw5)
              clear hw5
              go_wp2
              go_ret
              exact ⟨rfl, HW5.out⟩

set_option maxRecDepth 100000 in
theorem lifted (os : Os) (started : os.Started) (H : Type) (enc : TypeId × Value → H) :
    ReturnsInHanded {} Tryd.checked os 7 .any (fun w args => (Rows.tagAncestorsSpec.pre enc Tryd.prog Tryd.f7 [] false w args ∧ laidMetH Tryd.prog laidL w) ∧ sizedMet enc Tryd.prog Tryd.f7 (OpenSpec.ofChange Rows.tagAncestorsSpec) false w args)
      (Rows.tagAncestorsSpec.post enc Tryd.prog Tryd.f7 false true false false) := by
  refine lifted_and_shaped (C := Tryd.checked) (X := fun w _ => laidMetH Tryd.prog laidL w) (fun _ _ _ hh h => h.of_heap hh) own started (by kernel_rfl) Tryd.func7
    (ChangeSpec.witness_shaped (enc := enc) (C := Tryd.checked) (os := os) (X := fun w _ => laidMetH Tryd.prog laidL w) false (World.laidAll Tryd.prog os laidL) #[.string ⟨#[]⟩] 8 (World.laidAll_os _ _ _)
      (World.shaped_of_ZipB (by kernel_rfl) (by kernel_rfl)) (by kernel_rfl) (by kernel_rfl) (by kernel_rfl)
      (by rw [MakeChecks.laidMetH_plain _ _ _ (by kernel_rfl)]; exact laidMet_laidAll _ (by kernel_rfl) (by kernel_rfl))) ?_
  intro W base args ds gs before hval0 hW hL hshape
  have hval : ∀ (j : Nat) t v, Tryd.f7.params[j]? = some t → args[j]? = some v → Value.okWide Tryd.prog W .any base t v := hval0
  have hW' := hW
  obtain ⟨p, q, hA0, hV, rfl, hfz, hnd⟩ := hW
  have hA : DataW.TrodAll enc Tryd.prog W 0 (fun _ => true) true Tryd.f7.params.toList args.toList ds p := hA0
  rw [Tryd.params7] at hA hval
  obtain ⟨v0, d0, rfl, rfl, h0⟩ := trodAll_one hA
  obtain ⟨s, rfl, rfl, rfl, hs⟩ := open_string Tryd.underlying9 (hval 0 9 v0 rfl rfl) h0
  refine (law s W (mx_of hshape) hs).mono fun e W' ⟨he, hw⟩ => ?_
  subst he
  exact ⟨_, rfl, law_post (t := 4) laidOut (by rw [Tryd.params7]; intro t ht; simp at ht; subst ht <;> exact ⟨by kernel_rfl, of_decide_eq_true (by kernel_rfl)⟩) rfl Tryd.underlying4 rfl ⟨rfl, rfl, rfl⟩ hW' hw⟩

theorem row : Rows.tagAncestorsRow.holds Tryd.pinned (OpenSpec.ofChange Rows.tagAncestorsSpec) :=
  OpenClaim.holds_of_wide 7 Tryd.f7 rfl rfl rfl rfl rfl rfl rfl ⟨rfl, rfl, rfl, rfl, rfl⟩ rfl rfl rfl rfl rfl (by kernel_rfl) Tryd.func7 (by kernel_rfl)
    (of_decide_eq_true (by kernel_rfl)) (by unfold Func.isWrapper; first | (rw [if_pos (by decide +kernel)]; kernel_rfl) | (rw [if_neg (by decide +kernel)]; exact ⟨rfl, rfl⟩))
    (fun os started H enc _ => lifted os started H enc)
theorem card : Rows.TagAncestorsCardSaid :=
  Claim7.holds_tied_plain_at .later [] [.data, .pinned] true (true, "b786d81b1336324e40da1fb35184ab8c8cde818ffbbb9534350c230048de5815") false row (fun _ h => by cases h) (by kernel_rfl) (fun _ h => by cases h) tagAncestors_row_tie rfl ⟨rfl, rfl⟩ (by kernel_rfl) rfl
    (fun f fn hf hfn => by
      obtain rfl : f = 7 := Option.some.inj ((show Tryd.prog.funcNamed "calque/calquelaw19.TagAncestors" = some 7 by kernel_rfl).symm.trans hf) |>.symm
      obtain rfl : fn = Tryd.f7 := (Option.some.inj (Tryd.func7.symm.trans hfn)).symm
      exact ⟨by kernel_rfl, fun j t ht => by
        rw [Tryd.params7] at ht
        have hm : t ∈ [9] := by simpa using Array.mem_of_getElem? ht
        have hall : ([9].all fun u => !Tryd.prog.wantsStandIn u) = true := by kernel_rfl
        exact (show Tryd.prog.wantsStandIn t = false by simpa using List.all_eq_true.1 hall t hm)⟩)
    (by kernel_rfl)
#print axioms card
end Go.Proofs.YtfcnhodokbnjnaaDoor.lawTagAncestors
