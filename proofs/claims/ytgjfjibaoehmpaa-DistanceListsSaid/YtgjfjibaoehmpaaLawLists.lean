/-
  DistanceLists: for every two lists the law returns true and leaves its arguments as they were. No condition.
-/
import Derived.Test.YtgjfjibaoehmpaaRows
import Derived.Test.YtgjfjibaoehmpaaLawKit
import Derived.Test.YtgjfjibaoehmpaaFew2
namespace Go.Proofs.Ytgjfjibaoehmpaa
open Go.ChangeShapes Go.WideShapes Go.ChangeAt Go.RowKit

set_option maxHeartbeats 1000000 in
theorem lists_big (A B : Option Addr) (n m ca cb : Nat) (w : World) (h : 410 < n ∨ 410 < m) (hn : n ≤ maxLen) (hm : m ≤ maxLen) :
    Calls Try.prog 5 #[.slice A n ca, .slice B m cb] w (RetTrue w) := by
  unfold maxLen at hn hm
  have HB := Lib.hid (show (decide ((n : Int) ≤ 410) && decide ((m : Int) ≤ 410)) = false by simp; omega)
  clear h
  go_enter Try.func5, Try.ntmps5
  go_wp2_with (go_at_call 10; refine (awake_any _).mono ?_; rintro e w1 ⟨rfl, hw1⟩; have HW1 := Lib.hid hw1; clear hw1)
  have h2 := few2 410 A B n m ca cb w1 false HB.out
  with_reducible refine h2.mono ?_
  clear h2
  rintro e w2 ⟨rfl, hw2⟩
  have HW2 := Lib.hid hw2
  clear hw2
  go_wp2
  go_ret
  exact ⟨rfl, HW1.out.trans HW2.out⟩

set_option maxHeartbeats 1000000 in
theorem lists_long (A B : Option Addr) (n m ca cb : Nat) (w : World) (h : 400 < n ∨ 400 < m) (hn : n ≤ 410) (hm : m ≤ 410) :
    Calls Try.prog 5 #[.slice A n ca, .slice B m cb] w (RetTrue w) := by
  have HB := Lib.hid (show (decide ((n : Int) ≤ 410) && decide ((m : Int) ≤ 410)) = true by simp; omega)
  have HC := Lib.hid (show (decide ((n : Int) ≤ 400) && decide ((m : Int) ≤ 400)) = false by simp; omega)
  have H := Lib.hid h
  have HN := Lib.hid (show n ≤ maxLen ∧ m ≤ maxLen by unfold maxLen; omega)
  clear h
  go_enter Try.func5, Try.ntmps5
  go_wp2_with (go_at_call 10; refine (awake_any _).mono ?_; rintro e w1 ⟨rfl, hw1⟩; have HW1 := Lib.hid hw1; clear hw1)
  have h2 := few2 410 A B n m ca cb w1 true HB.out
  with_reducible refine h2.mono ?_
  clear h2
  rintro e w2 ⟨rfl, hw2⟩
  have HW2 := Lib.hid hw2
  clear hw2
  go_wp2_with fail
  have h2 := few2 400 A B n m ca cb w2 false HC.out
  with_reducible refine h2.mono ?_
  clear h2
  rintro e w3 ⟨rfl, hw3⟩
  have HW3 := Lib.hid hw3
  clear hw3
  go_wp2_with fail
  have h2 := dist_long A B n m ca cb w3 H.out HN.out.1 HN.out.2
  with_reducible refine h2.mono ?_
  clear h2
  rintro e w4 ⟨rfl, hw4⟩
  have HW4 := Lib.hid hw4
  clear hw4
  go_wp2_with fail
  have h2 := sim_long A B n m ca cb w4 H.out HN.out.1 HN.out.2
  with_reducible refine h2.mono ?_
  clear h2
  rintro e w5 ⟨rfl, hw5⟩
  have HW5 := Lib.hid hw5
  clear hw5
  go_wp2_with fail
  have h2 := align_long A B n m ca cb w5 H.out HN.out.1 HN.out.2
  with_reducible refine h2.mono ?_
  clear h2
  rintro e w6 ⟨rfl, hw6⟩
  have HW6 := Lib.hid hw6
  clear hw6
  go_wp2
  go_ret
  exact ⟨rfl, ((((HW1.out.trans HW2.out).trans HW3.out).trans HW4.out).trans HW5.out).trans HW6.out⟩

set_option maxHeartbeats 1000000 in
theorem lists_mid (A B : Option Addr) (n m ca cb : Nat) (w : World) (h : 40 < n ∨ 40 < m) (hn : n ≤ 400) (hm : m ≤ 400) :
    Calls Try.prog 5 #[.slice A n ca, .slice B m cb] w (RetTrue w) := by
  have HB := Lib.hid (show (decide ((n : Int) ≤ 410) && decide ((m : Int) ≤ 410)) = true by simp; omega)
  have HC := Lib.hid (show (decide ((n : Int) ≤ 400) && decide ((m : Int) ≤ 400)) = true by simp; omega)
  have HD := Lib.hid (show (decide ((n : Int) ≤ 40) && decide ((m : Int) ≤ 40)) = false by simp; omega)
  clear h
  go_enter Try.func5, Try.ntmps5
  go_wp2_with (go_at_call 10; refine (awake_any _).mono ?_; rintro e w1 ⟨rfl, hw1⟩; have HW1 := Lib.hid hw1; clear hw1)
  have h2 := few2 410 A B n m ca cb w1 true HB.out
  with_reducible refine h2.mono ?_
  clear h2
  rintro e w2 ⟨rfl, hw2⟩
  have HW2 := Lib.hid hw2
  clear hw2
  go_wp2_with fail
  have h2 := few2 400 A B n m ca cb w2 true HC.out
  with_reducible refine h2.mono ?_
  clear h2
  rintro e w3 ⟨rfl, hw3⟩
  have HW3 := Lib.hid hw3
  clear hw3
  go_wp2_with fail
  have h2 := few2 40 A B n m ca cb w3 false HD.out
  with_reducible refine h2.mono ?_
  clear h2
  rintro e w4 ⟨rfl, hw4⟩
  have HW4 := Lib.hid hw4
  clear hw4
  go_wp2
  go_ret
  exact ⟨rfl, (((HW1.out.trans HW2.out).trans HW3.out).trans HW4.out)⟩

set_option maxHeartbeats 1000000 in
theorem lists_few (xs ys : List ByteArray) (A B : Option Addr) (n m ca cb : Nat) (w : World) (hA : Sl w A n (xs.map .string)) (hB : Sl w B m (ys.map .string)) (hn : n ≤ 40) (hm : m ≤ 40) :
    Calls Try.prog 5 #[.slice A n ca, .slice B m cb] w (RetTrue w) := by
  have HB := Lib.hid (show (decide ((n : Int) ≤ 410) && decide ((m : Int) ≤ 410)) = true by simp; omega)
  have HC := Lib.hid (show (decide ((n : Int) ≤ 400) && decide ((m : Int) ≤ 400)) = true by simp; omega)
  have HD := Lib.hid (show (decide ((n : Int) ≤ 40) && decide ((m : Int) ≤ 40)) = true by simp; omega)
  have HN := Lib.hid (show n ≤ 400 ∧ m ≤ 400 by omega)
  have H1 := Lib.hid hA
  have H2 := Lib.hid hB
  clear hA hB
  go_enter Try.func5, Try.ntmps5
  go_wp2_with (go_at_call 10; refine (awake_any _).mono ?_; rintro e w1 ⟨rfl, hw1⟩; have HW1 := Lib.hid hw1; clear hw1)
  have h2 := few2 410 A B n m ca cb w1 true HB.out
  with_reducible refine h2.mono ?_
  clear h2
  rintro e w2 ⟨rfl, hw2⟩
  have HW2 := Lib.hid (HW1.out.trans hw2)
  clear hw2 HW1
  go_wp2_with fail
  have h2 := few2 400 A B n m ca cb w2 true HC.out
  with_reducible refine h2.mono ?_
  clear h2
  rintro e w3 ⟨rfl, hw3⟩
  have HW3 := Lib.hid (HW2.out.trans hw3)
  clear hw3 HW2
  go_wp2_with fail
  have h2 := few2 40 A B n m ca cb w3 true HD.out
  with_reducible refine h2.mono ?_
  clear h2
  rintro e w4 ⟨rfl, hw4⟩
  have HW4 := Lib.hid (HW3.out.trans hw4)
  clear hw4 HW3
  go_wp2_with fail
  have h2 := dist_any xs ys A B n m ca cb w4 (H1.out.ext HW4.out) (H2.out.ext HW4.out) HN.out.1 HN.out.2
  with_reducible refine h2.mono ?_
  clear h2
  rintro e w5 ⟨rfl, hw5⟩
  have HW5 := Lib.hid (HW4.out.trans hw5)
  clear hw5 HW4
  go_wp2_with fail
  have h2 := refDist_any xs ys A B n m ca cb w5 (H1.out.ext HW5.out) (H2.out.ext HW5.out) HN.out.1 HN.out.2
  with_reducible refine h2.mono ?_
  clear h2
  rintro e w6 ⟨rfl, hw6⟩
  have HW6 := Lib.hid (HW5.out.trans hw6)
  clear hw6 HW5
  go_wp2_with fail
  have h2 := sim_any xs ys A B n m ca cb w6 (H1.out.ext HW6.out) (H2.out.ext HW6.out) HN.out.1 HN.out.2
  with_reducible refine h2.mono ?_
  clear h2
  rintro e w7 ⟨rfl, hw7⟩
  have HW7 := Lib.hid (HW6.out.trans hw7)
  clear hw7 HW6
  go_wp2_with fail
  have h2 := refSim_any xs ys A B n m ca cb w7 (H1.out.ext HW7.out) (H2.out.ext HW7.out) HN.out.1 HN.out.2
  with_reducible refine h2.mono ?_
  clear h2
  rintro e w8 ⟨rfl, hw8⟩
  have HW8 := Lib.hid (HW7.out.trans hw8)
  clear hw8 HW7
  go_wp2
  go_ret
  exact ⟨rfl, HW8.out⟩

set_option maxRecDepth 100000 in
theorem lists_lifted (os : Os) (started : os.Started) (H : Type) (enc : TypeId × Value → H) :
    ReturnsInHanded {} Try.checked os 5 .any (Rows.distanceListsSpec.pre6 enc Try.prog Try.f5 Rows.distanceListsRow.domain false) (Rows.distanceListsSpec.post enc Try.prog Try.f5 false true false false) := by
  refine returnsInHanded_of_change (C := Try.checked) (show ownKnob Try.prog.godebug = none by kernel_rfl) started (by kernel_rfl) Try.func5
    (ChangeSpec.witness6 (enc := enc) (C := Try.checked) false ⟨#[], #[.slice none 0 0, .slice none 0 0], []⟩ 8 (by kernel_rfl) (by kernel_rfl) (by kernel_rfl) (by kernel_rfl)) ?_
  intro W base args ds gs before hval0 hW hcnd _
  have hval : ∀ (j : Nat) t v, Try.f5.params[j]? = some t → args[j]? = some v → Value.okWide Try.prog W .any base t v := hval0
  have hW' := hW
  obtain ⟨p, q, hA0, hV, rfl, hfz, hnd⟩ := hW
  have hA : DataW.TrodAll enc Try.prog W 0 (fun _ => true) true Try.f5.params.toList args.toList ds p := hA0
  rw [Try.params5] at hA hval
  obtain ⟨v0, v1, d0, d1, p0, p1, rfl, rfl, rfl, h0, h1⟩ := trodAll_two hA
  obtain ⟨A, n, ca, xs, rfl, hsA, hn⟩ := open_strs Try.underlying23 Try.underlying9 (by kernel_rfl) (okWide_slice Try.underlying23 (hval 0 23 v0 rfl rfl)) h0
  obtain ⟨B, m, cb, ys, rfl, hsB, hm⟩ := open_strs Try.underlying23 Try.underlying9 (by kernel_rfl) (okWide_slice Try.underlying23 (hval 1 23 v1 rfl rfl)) h1
  have hc : Calls Try.prog 5 #[.slice A n ca, .slice B m cb] W (RetTrue W) := by
    by_cases c1 : 410 < n ∨ 410 < m
    · exact lists_big A B n m ca cb W c1 hn hm
    · by_cases c2 : 400 < n ∨ 400 < m
      · exact lists_long A B n m ca cb W c2 (by omega) (by omega)
      · by_cases c3 : 40 < n ∨ 40 < m
        · exact lists_mid A B n m ca cb W c3 (by omega) (by omega)
        · exact lists_few xs ys A B n m ca cb W hsA hsB (by omega) (by omega)
  refine hc.mono fun e W' ⟨he, hw⟩ => ?_
  subst he
  exact ⟨_, rfl, law_post (t := 4) (show laidOutB Try.prog = true by kernel_rfl) (by rw [Try.params5]; intro t ht; simp at ht; subst ht; exact ⟨by kernel_rfl, of_decide_eq_true (by kernel_rfl)⟩) rfl Try.underlying4 rfl ⟨rfl, rfl, rfl⟩ hW' hw⟩

theorem distanceLists_holds : Rows.DistanceListsSaid :=
  OpenClaim.holds_of_wide 5 Try.f5 rfl rfl rfl rfl rfl rfl rfl ⟨rfl, rfl, rfl, rfl, rfl⟩ rfl rfl rfl rfl rfl (by kernel_rfl) Try.func5 (by kernel_rfl)
    (of_decide_eq_true (by kernel_rfl)) (by unfold Func.isWrapper; first | (rw [if_pos (by decide +kernel)]; kernel_rfl) | (rw [if_neg (by decide +kernel)]; exact ⟨rfl, rfl⟩))
    (fun os started H enc _ => lists_lifted os started H enc)

end Go.Proofs.Ytgjfjibaoehmpaa
