/-
  DistanceWords: for every text the law returns true and leaves its argument as it was. No condition.
-/
import Derived.Test.YtgjfjibaoehmpaaRows
import Derived.Test.YtgjfjibaoehmpaaLawKit
import Derived.Test.YtgjfjibaoehmpaaAwake
import Derived.Test.YtgjfjibaoehmpaaWordsLaw
import Derived.Test.YtgjfjibaoehmpaaKind
import Derived.Test.YtgjfjibaoehmpaaJoin
namespace Go.Proofs.Ytgjfjibaoehmpaa
open Go.ChangeShapes Go.WideShapes Go.ChangeAt Go.RowKit
open Go.ChangeMaps (open_string shut_string)



set_option maxHeartbeats 2000000 in
theorem lawWords (s : ByteArray) (w : World) (hs : s.size ≤ maxLen) : Calls Try.prog 3 #[.string s] w (RetTrue w) := by
  unfold maxLen at hs
  by_cases hlt : 2000 < s.size
  · go_enter Try.func3, Try.ntmps3
    go_wp2_with (go_at_call 10; refine (awake_any _).mono ?_; rintro e w1 ⟨rfl, hw1⟩; have HW1 := Lib.hid hw1; clear hw1)
    go_ret
    exact ⟨rfl, HW1.out⟩
  · go_enter Try.func3, Try.ntmps3
    go_wp2_with (go_at_call 10; refine (awake_any _).mono ?_; rintro e w1 ⟨rfl, hw1⟩; have HW1 := Lib.hid hw1; clear hw1)
    have hl : s.data.toList.length = s.size := rfl
    have hwl := words_len s.data.toList
    have hws := words_sum s.data.toList
    have HL := Lib.hid (show (wordsOf s.data.toList).length ≤ 65536 by omega)
    have HS := Lib.hid (show ((wordsOf s.data.toList).map fun x => x.length + 1).sum ≤ 1048576 by omega)
    have HJ := Lib.hid (joinOf_len (wordsOf s.data.toList))
    clear hl hwl hws
    refine (words_any s _ (by omega)).mono ?_
    rintro e w2 ⟨A2, n2, c2, rfl, hs2, hw2⟩
    have HS2 := Lib.hid hs2
    have HW2 := Lib.hid hw2
    clear hs2 hw2
    go_wp2_with fail
    refine (refWords_any s _ (by omega)).mono ?_
    rintro e w3 ⟨A3, n3, c3, rfl, hs3, hw3⟩
    have HS3 := Lib.hid hs3
    have HW3 := Lib.hid hw3
    clear hs3 hw3
    go_wp2_with fail
    refine (same_true _ _ _ _ _ _ _ _ (HS2.out.ext HW3.out) HS3.out HL.out).mono ?_
    rintro e w4 ⟨rfl, hw4⟩
    have HW4 := Lib.hid hw4
    clear hw4
    go_wp2_with fail
    have HN2 : Hid (n2 ≤ maxLen) := Lib.hid (by have h1 := HS2.out.1; rw [List.length_map] at h1; have := HL.out; unfold maxLen; omega)
    refine (join_any _ _ _ _ _ (HS2.out.ext (HW3.out.trans HW4.out)) HN2.out HS.out).mono ?_
    rintro e w5 ⟨rfl, rfl⟩
    unfold strv
    go_wp2_with fail
    refine (words_any _ _ (by show (joinOf (wordsOf s.data.toList)).toArray.size ≤ _; have := HJ.out; have := HS.out; rw [List.size_toArray]; omega)).mono ?_
    rintro e w5 ⟨A5, n5, c5, rfl, hs5, hw5⟩
    have hs5' : Sl w5 A5 n5 ((wordsOf s.data.toList).map strv) := by
      have h1 : wordsOf (ByteArray.mk (joinOf (wordsOf s.data.toList)).toArray).data.toList = wordsOf s.data.toList := by
        rw [show (ByteArray.mk (joinOf (wordsOf s.data.toList)).toArray).data.toList = joinOf (wordsOf s.data.toList) from by simp, words_join]
      rw [h1] at hs5
      exact hs5
    have HS5 := Lib.hid hs5'
    have HW5 := Lib.hid hw5
    clear hs5 hs5' hw5
    go_wp2_with fail
    refine (same_true _ _ _ _ _ _ _ _ HS5.out (HS2.out.ext ((HW3.out.trans HW4.out).trans HW5.out)) HL.out).mono ?_
    rintro e w6 ⟨rfl, hw6⟩
    have HW6 := Lib.hid hw6
    clear hw6
    go_wp2
    go_ret
    exact ⟨rfl, ((((HW1.out.trans HW2.out).trans HW3.out).trans HW4.out).trans HW5.out).trans HW6.out⟩

theorem own : ownKnob Try.prog.godebug = none := by kernel_rfl
theorem laidOut : laidOutB Try.prog = true := by kernel_rfl

set_option maxRecDepth 100000 in
theorem words_lifted (os : Os) (started : os.Started) (H : Type) (enc : TypeId × Value → H) :
    ReturnsInHanded {} Try.checked os 3 .any (Rows.distanceWordsSpec.pre6 enc Try.prog Try.f3 Rows.distanceWordsRow.domain false) (Rows.distanceWordsSpec.post enc Try.prog Try.f3 false true false false) := by
  refine returnsInHanded_of_change (C := Try.checked) own started (by kernel_rfl) Try.func3
    (ChangeSpec.witness6 (enc := enc) (C := Try.checked) false ⟨#[], #[.string ⟨#[]⟩], []⟩ 8 (by kernel_rfl) (by kernel_rfl) (by kernel_rfl) (by kernel_rfl)) ?_
  intro W base args ds gs before hval0 hW hcnd _
  have hval : ∀ (j : Nat) t v, Try.f3.params[j]? = some t → args[j]? = some v → Value.okWide Try.prog W .any base t v := hval0
  have hW' := hW
  obtain ⟨p, q, hA0, hV, rfl, hfz, hnd⟩ := hW
  have hA : DataW.TrodAll enc Try.prog W 0 (fun _ => true) true Try.f3.params.toList args.toList ds p := hA0
  rw [Try.params3] at hA hval
  obtain ⟨v0, d0, rfl, rfl, h0⟩ := trodAll_one hA
  obtain ⟨s, rfl, rfl, rfl, hs⟩ := open_string Try.underlying9 (hval 0 9 v0 rfl rfl) h0
  refine (lawWords s W hs).mono fun e W' ⟨he, hw⟩ => ?_
  subst he
  refine ⟨_, rfl, law_post (t := 4) laidOut (by rw [Try.params3]; intro t ht; simp at ht; subst ht; exact ⟨by kernel_rfl, of_decide_eq_true (by kernel_rfl)⟩) rfl Try.underlying4 rfl ⟨rfl, rfl, rfl⟩ hW' hw⟩

theorem distanceWords_holds : Rows.DistanceWordsSaid :=
  OpenClaim.holds_of_wide 3 Try.f3 rfl rfl rfl rfl rfl rfl rfl ⟨rfl, rfl, rfl, rfl, rfl⟩ rfl rfl rfl rfl rfl (by kernel_rfl) Try.func3 (by kernel_rfl)
    (of_decide_eq_true (by kernel_rfl)) (by unfold Func.isWrapper; first | (rw [if_pos (by decide +kernel)]; kernel_rfl) | (rw [if_neg (by decide +kernel)]; exact ⟨rfl, rfl⟩))
    (fun os started H enc _ => words_lifted os started H enc)
end Go.Proofs.Ytgjfjibaoehmpaa
