/-
  DistanceParts: for every two texts the law returns true and leaves its arguments as they were. No condition.
-/
import Derived.Test.YtgjfjibaoehmpaaRows
import Derived.Test.YtgjfjibaoehmpaaLawKit
import Derived.Test.YtgjfjibaoehmpaaAwake
import Derived.Test.YtgjfjibaoehmpaaWordsLaw
import Derived.Test.YtgjfjibaoehmpaaBase2
namespace Go.Proofs.Ytgjfjibaoehmpaa
open Go.ChangeShapes Go.WideShapes Go.ChangeAt Go.RowKit
open Go.ChangeMaps (open_string shut_string)

set_option maxHeartbeats 600000 in
theorem lawParts (s t : ByteArray) (w : World) (hs : s.size ≤ maxLen) (ht : t.size ≤ maxLen) : Calls Try.prog 4 #[.string s, .string t] w (RetTrue w) := by
  unfold maxLen at hs ht
  by_cases hlt : 1000 < s.size
  · go_enter Try.func4, Try.ntmps4
    go_wp2_with (go_at_call 10; refine (awake_any _).mono ?_; rintro e w1 ⟨rfl, hw1⟩; have HW1 := Lib.hid hw1; clear hw1)
    go_ret
    exact ⟨rfl, HW1.out⟩
  · by_cases hlt2 : 1000 < t.size
    · go_enter Try.func4, Try.ntmps4
      go_wp2_with (go_at_call 10; refine (awake_any _).mono ?_; rintro e w1 ⟨rfl, hw1⟩; have HW1 := Lib.hid hw1; clear hw1)
      go_ret
      exact ⟨rfl, HW1.out⟩
    · have hl1 : s.data.toList.length = s.size := rfl
      have hl2 : t.data.toList.length = t.size := rfl
      have hwl1 := words_len s.data.toList
      have hwl2 := words_len t.data.toList
      have HL := Lib.hid (show (wordsOf s.data.toList).length ≤ 1000 ∧ (wordsOf t.data.toList).length ≤ 1000 by omega)
      have hsz : (s ++ ⟨#[32]⟩ ++ t).size ≤ 1048576 := by
        have h1 : (⟨#[32]⟩ : ByteArray).size = 1 := rfl
        rw [ByteArray.size_append, ByteArray.size_append, h1]
        omega
      have HSZ := Lib.hid hsz
      clear hl1 hl2 hwl1 hwl2 hsz
      obtain ⟨i0, hi, hz0, hz1, hz2⟩ := info_parts (show (Try.prog.info? 9).map (fun i => (i.zero, i.size, i.bytes)) = some (some (.string ⟨#[]⟩), 1, 16) from by kernel_rfl)
      go_enter Try.func4, Try.ntmps4
      go_wp2_with (go_at_call 10; refine (awake_any _).mono ?_; rintro e w1 ⟨rfl, hw1⟩; have HW1 := Lib.hid hw1; clear hw1)
      refine (words_any s _ (by omega)).mono ?_
      rintro e w2 ⟨A2, n2, c2, rfl, hs2, hw2⟩
      have HS2 := Lib.hid hs2
      have HW2 := Lib.hid hw2
      clear hs2 hw2
      have HO2 := Lib.hid (own_ext (own_empty w1 9) HW2.out)
      have HL2 := Lib.hid (show n2 ≤ 1000 by have h1 := HS2.out.1; rw [List.length_map] at h1; have := HL.out; omega)
      have hl2 := HL2.out
      go_wp2_with (at_builtin; refine wpList_app _ rfl _ _ 23 rfl w1.heap.size 9 i0 _ 16 Try.underlying23 hi hz0 hz1 hz2 rfl _ 0 [] rfl HO2.out _ n2 _ _ rfl HS2.out (strv_one _) (by unfold maxLen; omega) (by omega) (by have := Ext.size HW2.out; simp at this; omega) ?_; intro v3 w3 hown3 hgrow3; have HO3 := Lib.hid hown3; have HG3 := Lib.hid hgrow3; clear hown3 hgrow3)
      have HW3 := Lib.hid (ext_grown (((HW1.out.alloc _).trans HW2.out)) HO2.out (Ext.size HW1.out) HG3.out)
      refine (words_any t _ (by omega)).mono ?_
      rintro e w4 ⟨A4, n4, c4, rfl, hs4, hw4⟩
      have HS4 := Lib.hid hs4
      have HW4 := Lib.hid hw4
      have HL4 := Lib.hid (show n4 ≤ 1000 by have h1 := hs4.1; rw [List.length_map] at h1; have := HL.out; omega)
      have hl4 := HL4.out
      clear hs4 hw4
      have hB : w1.heap.size ≤ w4.heap.size := by
        have h1 := Ext.size HW4.out
        have h2 := HG3.out.size
        have h3 := Ext.size HW2.out
        simp at h3
        omega
      go_wp2_with (at_builtin; refine wpList_app _ rfl _ _ 23 rfl w1.heap.size 9 i0 _ 16 Try.underlying23 hi hz0 hz1 hz2 rfl _ (0 + n2) _ rfl (own_ext HO3.out HW4.out) _ n4 _ _ rfl HS4.out (strv_one _) (by unfold maxLen; omega) (by omega) hB ?_; intro v5 w5 hown5 hgrow5; have HO5 := Lib.hid hown5; have HG5 := Lib.hid hgrow5; clear hown5 hgrow5)
      have HW5 := Lib.hid (ext_grown (HW3.out.trans HW4.out) (own_ext HO3.out HW4.out) (Ext.size HW1.out) HG5.out)
      have h6 := words_any (s ++ ⟨#[32]⟩ ++ t) w5 HSZ.out
      refine h6.mono ?_
      clear h6
      rintro e w6 ⟨A6, n6, c6, rfl, hs6, hw6⟩
      have hb : (s ++ ⟨#[32]⟩ ++ t).data.toList = s.data.toList ++ 32 :: t.data.toList := by simp [ByteArray.data_append]
      have hs6' : Sl w6 A6 n6 ((wordsOf s.data.toList ++ wordsOf t.data.toList).map strv) := by
        rw [hb, words_space] at hs6
        exact hs6
      have HS6 := Lib.hid hs6'
      have HW6 := Lib.hid hw6
      clear hs6 hs6' hw6 hb
      obtain ⟨A5, c5, hv5, hsl5, _⟩ := own_sl HO5.out
      have hsl5' : Sl w5 A5 (n2 + n4) ((wordsOf s.data.toList ++ wordsOf t.data.toList).map strv) := by
        simpa using hsl5
      have HS5 := Lib.hid hsl5'
      clear hsl5 hsl5'
      rw [hv5]
      clear hv5 HO5 HG5
      go_wp2_with fail
      have h7 := same_true _ A6 A5 n6 (n2 + n4) c6 c5 w6 HS6.out (HS5.out.ext HW6.out) (by have := HL.out; rw [List.length_append]; omega)
      with_reducible refine h7.mono ?_
      clear h7
      rintro e w7 ⟨rfl, hw7⟩
      have HW7 := Lib.hid hw7
      clear hw7
      go_wp2
      go_ret
      exact ⟨rfl, (HW5.out.trans HW6.out).trans HW7.out⟩

set_option maxRecDepth 100000 in
theorem parts_lifted (os : Os) (started : os.Started) (H : Type) (enc : TypeId × Value → H) :
    ReturnsInHanded {} Try.checked os 4 .any (Rows.distancePartsSpec.pre6 enc Try.prog Try.f4 Rows.distancePartsRow.domain false) (Rows.distancePartsSpec.post enc Try.prog Try.f4 false true false false) := by
  refine returnsInHanded_of_change (C := Try.checked) (show ownKnob Try.prog.godebug = none by kernel_rfl) started (by kernel_rfl) Try.func4
    (ChangeSpec.witness6 (enc := enc) (C := Try.checked) false ⟨#[], #[.string ⟨#[]⟩, .string ⟨#[]⟩], []⟩ 8 (by kernel_rfl) (by kernel_rfl) (by kernel_rfl) (by kernel_rfl)) ?_
  intro W base args ds gs before hval0 hW hcnd _
  have hval : ∀ (j : Nat) t v, Try.f4.params[j]? = some t → args[j]? = some v → Value.okWide Try.prog W .any base t v := hval0
  have hW' := hW
  obtain ⟨p, q, hA0, hV, rfl, hfz, hnd⟩ := hW
  have hA : DataW.TrodAll enc Try.prog W 0 (fun _ => true) true Try.f4.params.toList args.toList ds p := hA0
  rw [Try.params4] at hA hval
  obtain ⟨v0, v1, d0, d1, p0, p1, rfl, rfl, rfl, h0, h1⟩ := trodAll_two hA
  obtain ⟨s, rfl, rfl, rfl, hs⟩ := open_string Try.underlying9 (hval 0 9 v0 rfl rfl) h0
  obtain ⟨t, rfl, rfl, rfl, ht⟩ := open_string Try.underlying9 (hval 1 9 v1 rfl rfl) h1
  refine (lawParts s t W hs ht).mono fun e W' ⟨he, hw⟩ => ?_
  subst he
  exact ⟨_, rfl, law_post (t := 4) (show laidOutB Try.prog = true by kernel_rfl) (by rw [Try.params4]; intro t ht; simp at ht; subst ht; exact ⟨by kernel_rfl, of_decide_eq_true (by kernel_rfl)⟩) rfl Try.underlying4 rfl ⟨rfl, rfl, rfl⟩ hW' hw⟩

theorem distanceParts_holds : Rows.DistancePartsSaid :=
  OpenClaim.holds_of_wide 4 Try.f4 rfl rfl rfl rfl rfl rfl rfl ⟨rfl, rfl, rfl, rfl, rfl⟩ rfl rfl rfl rfl rfl (by kernel_rfl) Try.func4 (by kernel_rfl)
    (of_decide_eq_true (by kernel_rfl)) (by unfold Func.isWrapper; first | (rw [if_pos (by decide +kernel)]; kernel_rfl) | (rw [if_neg (by decide +kernel)]; exact ⟨rfl, rfl⟩))
    (fun os started H enc _ => parts_lifted os started H enc)

end Go.Proofs.Ytgjfjibaoehmpaa
