/-
  DistanceMetric: for every three lists the law returns true and leaves its arguments as they were. No condition.
-/
import Derived.Test.YtgjfjibaoehmpaaRows
import Derived.Test.YtgjfjibaoehmpaaLawKit
import Derived.Test.YtgjfjibaoehmpaaFew2
import Derived.Test.YtgjfjibaoehmpaaLev2
import Derived.Test.YtgjfjibaoehmpaaSame2
namespace Go.Proofs.Ytgjfjibaoehmpaa
open Go.ChangeShapes Go.WideShapes Go.ChangeAt Go.RowKit

theorem sim_symm (n m d : Nat) : simOf m n d = simOf n m d := by unfold simOf; rw [Nat.max_comm]

set_option maxHeartbeats 1000000 in
theorem metric_big (A B C : Option Addr) (n m k ca cb cc : Nat) (w : World) (h : ¬ (n ≤ 40 ∧ m ≤ 40 ∧ k ≤ 40)) :
    Calls Try.prog 6 #[.slice A n ca, .slice B m cb, .slice C k cc] w (RetTrue w) := by
  have HB := Lib.hid (show (decide ((n : Int) ≤ 40) && (decide ((m : Int) ≤ 40) && decide ((k : Int) ≤ 40))) = false by
    rw [Bool.eq_false_iff]; intro h1; simp at h1; exact h (by omega))
  clear h
  go_enter Try.func6, Try.ntmps6
  go_wp2_with (go_at_call 10; refine (awake_any _).mono ?_; rintro e w1 ⟨rfl, hw1⟩; have HW1 := Lib.hid hw1; clear hw1)
  have h2 := few3 40 A B C n m k ca cb cc w1 false HB.out
  with_reducible refine h2.mono ?_
  clear h2
  rintro e w2 ⟨rfl, hw2⟩
  have HW2 := Lib.hid (HW1.out.trans hw2)
  clear hw2 HW1
  go_wp2
  go_ret
  exact ⟨rfl, HW2.out⟩

set_option maxHeartbeats 1000000 in
theorem metric_few (xs ys zs : List ByteArray) (A B C : Option Addr) (n m k ca cb cc : Nat) (w : World) (hA : Sl w A n (xs.map .string)) (hB : Sl w B m (ys.map .string)) (hC : Sl w C k (zs.map .string))
    (hn : n ≤ 40) (hm : m ≤ 40) (hk : k ≤ 40) :
    Calls Try.prog 6 #[.slice A n ca, .slice B m cb, .slice C k cc] w (RetTrue w) := by
  have HB := Lib.hid (show (decide ((n : Int) ≤ 40) && (decide ((m : Int) ≤ 40) && decide ((k : Int) ≤ 40))) = true by simp; omega)
  have HN := Lib.hid (show n ≤ 400 ∧ m ≤ 400 ∧ k ≤ 400 by omega)
  have HL := Lib.hid (show n ≤ maxLen ∧ m ≤ maxLen by unfold maxLen; omega)
  have la : xs.length = n := by have := hA.1; simpa using this
  have lb : ys.length = m := by have := hB.1; simpa using this
  have lc : zs.length = k := by have := hC.1; simpa using this
  have q1 : ((dst xs ys n m : Int) == 0) = decide (xs = ys) := by
    have h1 := D_zero xs ys
    rw [D, la, lb] at h1
    rw [Bool.eq_iff_iff]
    simp [← h1]
  have q2 : dst ys xs m n = dst xs ys n m := by
    have h1 := D_symm ys xs
    rw [D, D, la, lb] at h1
    exact h1
  have q3 : dst xs ys n m ≤ dst xs zs n k + dst zs ys k m := by
    have h1 := D_tri xs ys zs
    rw [D, D, D, la, lb, lc] at h1
    exact h1
  have b1 : dst xs zs n k ≤ 80 := by have := dst_bound xs zs n k; omega
  have b2 : dst zs ys k m ≤ 80 := by have := dst_bound zs ys k m; omega
  have HQ2 := Lib.hid q2
  have H1 := Lib.hid hA
  have H2 := Lib.hid hB
  have H3 := Lib.hid hC
  clear hA hB hC q2 la lb lc
  go_enter Try.func6, Try.ntmps6
  go_wp2_with (go_at_call 10; refine (awake_any _).mono ?_; rintro e w1 ⟨rfl, hw1⟩; have HW1 := Lib.hid hw1; clear hw1)
  have h2 := few3 40 A B C n m k ca cb cc w1 true HB.out
  with_reducible refine h2.mono ?_
  clear h2
  rintro e w2 ⟨rfl, hw2⟩
  have HW2 := Lib.hid (HW1.out.trans hw2)
  clear hw2 HW1
  go_wp2_with fail
  have h2 := dist_any xs ys A B n m ca cb w2 (H1.out.ext HW2.out) (H2.out.ext HW2.out) HN.out.1 HN.out.2.1
  with_reducible refine h2.mono ?_
  clear h2
  rintro e w3 ⟨rfl, hw3⟩
  have HW3 := Lib.hid (HW2.out.trans hw3)
  clear hw3 HW2
  go_wp2_with fail
  have h2 := same_any xs ys A B n m ca cb w3 (H1.out.ext HW3.out) (H2.out.ext HW3.out) HL.out.1 HL.out.2
  with_reducible refine h2.mono ?_
  clear h2
  rintro e w4 ⟨rfl, hw4⟩
  have HW4 := Lib.hid (HW3.out.trans hw4)
  clear hw4 HW3
  go_wp2_with fail
  have h2 := dist_any ys xs B A m n cb ca w4 (H2.out.ext HW4.out) (H1.out.ext HW4.out) HN.out.2.1 HN.out.1
  rw [HQ2.out] at h2
  with_reducible refine h2.mono ?_
  clear h2
  rintro e w5 ⟨rfl, hw5⟩
  have HW5 := Lib.hid (HW4.out.trans hw5)
  clear hw5 HW4
  go_wp2_with fail
  have h2 := dist_any xs zs A C n k ca cc w5 (H1.out.ext HW5.out) (H3.out.ext HW5.out) HN.out.1 HN.out.2.2
  with_reducible refine h2.mono ?_
  clear h2
  rintro e w6 ⟨rfl, hw6⟩
  have HW6 := Lib.hid (HW5.out.trans hw6)
  clear hw6 HW5
  go_wp2_with fail
  have h2 := dist_any zs ys C B k m cc cb w6 (H3.out.ext HW6.out) (H2.out.ext HW6.out) HN.out.2.2 HN.out.2.1
  with_reducible refine h2.mono ?_
  clear h2
  rintro e w7 ⟨rfl, hw7⟩
  have HW7 := Lib.hid (HW6.out.trans hw7)
  clear hw7 HW6
  go_wp2_with fail
  have h2 := sim_any xs ys A B n m ca cb w7 (H1.out.ext HW7.out) (H2.out.ext HW7.out) HN.out.1 HN.out.2.1
  with_reducible refine h2.mono ?_
  clear h2
  rintro e w8 ⟨rfl, hw8⟩
  have HW8 := Lib.hid (HW7.out.trans hw8)
  clear hw8 HW7
  go_wp2_with fail
  have h2 := sim_any ys xs B A m n cb ca w8 (H2.out.ext HW8.out) (H1.out.ext HW8.out) HN.out.2.1 HN.out.1
  rw [HQ2.out, sim_symm] at h2
  with_reducible refine h2.mono ?_
  clear h2
  rintro e w9 ⟨rfl, hw9⟩
  have HW9 := Lib.hid (HW8.out.trans hw9)
  clear hw9 HW8
  go_wp2
  go_ret
  exact ⟨rfl, HW9.out⟩

set_option maxRecDepth 100000 in
theorem distanceMetric_lifted (os : Os) (started : os.Started) (H : Type) (enc : TypeId × Value → H) :
    ReturnsInHanded {} Try.checked os 6 .any (Rows.distanceMetricSpec.pre6 enc Try.prog Try.f6 Rows.distanceMetricRow.domain false) (Rows.distanceMetricSpec.post enc Try.prog Try.f6 false true false false) := by
  refine returnsInHanded_of_change (C := Try.checked) (show ownKnob Try.prog.godebug = none by kernel_rfl) started (by kernel_rfl) Try.func6
    (ChangeSpec.witness6 (enc := enc) (C := Try.checked) false ⟨#[], #[.slice none 0 0, .slice none 0 0, .slice none 0 0], []⟩ 8 (by kernel_rfl) (by kernel_rfl) (by kernel_rfl) (by kernel_rfl)) ?_
  intro W base args ds gs before hval0 hW hcnd _
  have hval : ∀ (j : Nat) t v, Try.f6.params[j]? = some t → args[j]? = some v → Value.okWide Try.prog W .any base t v := hval0
  have hW' := hW
  obtain ⟨p, q, hA0, hV, rfl, hfz, hnd⟩ := hW
  have hA : DataW.TrodAll enc Try.prog W 0 (fun _ => true) true Try.f6.params.toList args.toList ds p := hA0
  rw [Try.params6] at hA hval
  obtain ⟨v0, v1, v2, d0, d1, d2, p0, p1, p2, rfl, rfl, rfl, h0, h1, h2⟩ := trodAll_three hA
  obtain ⟨A, n, ca, xs, rfl, hsA, hn⟩ := open_strs Try.underlying23 Try.underlying9 (by kernel_rfl) (okWide_slice Try.underlying23 (hval 0 23 v0 rfl rfl)) h0
  obtain ⟨B, m, cb, ys, rfl, hsB, hm⟩ := open_strs Try.underlying23 Try.underlying9 (by kernel_rfl) (okWide_slice Try.underlying23 (hval 1 23 v1 rfl rfl)) h1
  obtain ⟨C, k, cc, zs, rfl, hsC, hk⟩ := open_strs Try.underlying23 Try.underlying9 (by kernel_rfl) (okWide_slice Try.underlying23 (hval 2 23 v2 rfl rfl)) h2
  have hc : Calls Try.prog 6 #[.slice A n ca, .slice B m cb, .slice C k cc] W (RetTrue W) := by
    by_cases c1 : n ≤ 40 ∧ m ≤ 40 ∧ k ≤ 40
    · exact metric_few xs ys zs A B C n m k ca cb cc W hsA hsB hsC c1.1 c1.2.1 c1.2.2
    · exact metric_big A B C n m k ca cb cc W c1
  refine hc.mono fun e W' ⟨he, hw⟩ => ?_
  subst he
  exact ⟨_, rfl, law_post (t := 4) (show laidOutB Try.prog = true by kernel_rfl) (by rw [Try.params6]; intro t ht; simp at ht; subst ht; exact ⟨by kernel_rfl, of_decide_eq_true (by kernel_rfl)⟩) rfl Try.underlying4 rfl ⟨rfl, rfl, rfl⟩ hW' hw⟩

theorem distanceMetric_holds : Rows.DistanceMetricSaid :=
  OpenClaim.holds_of_wide 6 Try.f6 rfl rfl rfl rfl rfl rfl rfl ⟨rfl, rfl, rfl, rfl, rfl⟩ rfl rfl rfl rfl rfl (by kernel_rfl) Try.func6 (by kernel_rfl)
    (of_decide_eq_true (by kernel_rfl)) (by unfold Func.isWrapper; first | (rw [if_pos (by decide +kernel)]; kernel_rfl) | (rw [if_neg (by decide +kernel)]; exact ⟨rfl, rfl⟩))
    (fun os started H enc _ => distanceMetric_lifted os started H enc)

end Go.Proofs.Ytgjfjibaoehmpaa
