/-
  DistanceAligns: for every two lists the law returns true and leaves its arguments as they were. No condition.
-/
import Derived.Test.YtgjfjibaoehmpaaRows
import Derived.Test.YtgjfjibaoehmpaaLawKit
import Derived.Test.YtgjfjibaoehmpaaFew2
import Derived.Test.YtgjfjibaoehmpaaRAlign
import Derived.Test.YtgjfjibaoehmpaaCostLaw
namespace Go.Proofs.Ytgjfjibaoehmpaa
open Go.ChangeShapes Go.WideShapes Go.ChangeAt Go.RowKit

set_option maxHeartbeats 1000000 in
theorem aligns_big (A B : Option Addr) (n m ca cb : Nat) (w : World) (h : ¬ (n ≤ 40 ∧ m ≤ 40)) :
    Calls Try.prog 8 #[.slice A n ca, .slice B m cb] w (RetTrue w) := by
  have HB := Lib.hid (show (decide ((n : Int) ≤ 40) && decide ((m : Int) ≤ 40)) = false by
    rw [Bool.eq_false_iff]; intro h1; simp at h1; exact h (by omega))
  clear h
  go_enter Try.func8, Try.ntmps8
  go_wp2_with (go_at_call 10; refine (awake_any _).mono ?_; rintro e w1 ⟨rfl, hw1⟩; have HW1 := Lib.hid hw1; clear hw1)
  have h2 := few2 40 A B n m ca cb w1 false HB.out
  with_reducible refine h2.mono ?_
  clear h2
  rintro e w2 ⟨rfl, hw2⟩
  have HW2 := Lib.hid (HW1.out.trans hw2)
  clear hw2 HW1
  go_wp2
  go_ret
  exact ⟨rfl, HW2.out⟩

theorem align_len (F : Nat → Nat → Nat) (E : Nat → Nat → Bool) : ∀ fuel i k, (alignN F E fuel i k).length ≤ fuel
  | 0, _, _ => by simp [alignN]
  | fuel + 1, i, k => by
    rw [alignN]
    have h1 := align_len F E fuel (i - 1) (k - 1)
    have h2 := align_len F E fuel (i - 1) k
    have h3 := align_len F E fuel i (k - 1)
    split
    · simp
    · split
      · simp; omega
      · split <;> simp <;> omega

def AlLoop (w : World) (len : Nat) (i : Value) (wr : World) : Prop := ∃ j : Nat, j ≤ len ∧ i = .int .i64 j ∧ Ext w wr

set_option maxHeartbeats 2000000 in
theorem aligns_few (xs ys : List ByteArray) (A B : Option Addr) (n m ca cb : Nat) (w : World) (hA : Sl w A n (xs.map .string)) (hB : Sl w B m (ys.map .string)) (hn : n ≤ 40) (hm : m ≤ 40) :
    Calls Try.prog 8 #[.slice A n ca, .slice B m cb] w (RetTrue w) := by
  have HB := Lib.hid (show (decide ((n : Int) ≤ 40) && decide ((m : Int) ≤ 40)) = true by simp; omega)
  have HN := Lib.hid (show n ≤ 400 ∧ m ≤ 400 by omega)
  have la : xs.length = n := by have := hA.1; simpa using this
  have lb : ys.length = m := by have := hB.1; simpa using this
  have hL0 := align_len (dst xs ys) (eqAt xs ys) (n + m) n m
  rw [← List.length_reverse] at hL0
  obtain ⟨L, hLd⟩ : ∃ L, L = (alignN (dst xs ys) (eqAt xs ys) (n + m) n m).reverse := ⟨_, rfl⟩
  have hC0 := cost_of_align xs ys n m la lb
  rw [← hLd] at hL0 hC0
  have hL : L.length ≤ n + m := hL0
  have HC := Lib.hid hC0
  have HLD := Lib.hid hLd
  clear hL0 hC0 hLd
  have H1 := Lib.hid hA
  have H2 := Lib.hid hB
  clear hA hB la lb
  go_enter Try.func8, Try.ntmps8
  go_wp2_with (go_at_call 10; refine (awake_any _).mono ?_; rintro e w1 ⟨rfl, hw1⟩; have HW1 := Lib.hid hw1; clear hw1)
  have h2 := few2 40 A B n m ca cb w1 true HB.out
  with_reducible refine h2.mono ?_
  clear h2
  rintro e w2 ⟨rfl, hw2⟩
  have HW2 := Lib.hid (HW1.out.trans hw2)
  clear hw2 HW1
  go_wp2_with fail
  have h2 := alLoop_any xs ys A B n m ca cb w2 (H1.out.ext HW2.out) (H2.out.ext HW2.out) HN.out.1 HN.out.2
  rw [← HLD.out] at h2
  with_reducible refine h2.mono ?_
  clear h2
  rintro e w3 ⟨A3, c3, rfl, hs3, hw3⟩
  have HS3 := Lib.hid hs3
  have HW3 := Lib.hid (HW2.out.trans hw3)
  clear hw3 hs3
  go_wp2_with fail
  have h2 := refAlign_any xs ys A B n m ca cb w3 (H1.out.ext HW3.out) (H2.out.ext HW3.out) HN.out.1 HN.out.2
  rw [← HLD.out] at h2
  with_reducible refine h2.mono ?_
  clear h2
  rintro e w4 ⟨A4, c4, rfl, hs4, hw4⟩
  have HS4 := Lib.hid hs4
  have HX4 := Lib.hid hw4
  have HW4 := Lib.hid (HW3.out.trans hw4)
  clear hw4 hs4
  go_wp2
  go_loopw [7] (AlLoop w4 L.length) (fun i _ => L.length - (intOf i).toNat)
  case atStart => exact ⟨0, Nat.zero_le _, rfl, Ext.refl _⟩
  case round =>
    obtain ⟨j, hj, rfl, hw5⟩ := hrel
    have HW5 := Lib.hid hw5
    clear hw5
    by_cases hlt : j < L.length
    · obtain ⟨b, o, rfl, _, hx, hy⟩ := (HS3.out.ext (HX4.out.trans HW5.out)) j hlt
      obtain ⟨b', o', rfl, _, hx', hy'⟩ := (HS4.out.ext HW5.out) j hlt
      rw [← Nat.add_assoc] at hy hy'
      generalize L[j].1 = av at hx hx'
      generalize L[j].2 = bv at hy hy'
      go_wp2_with fail
      go_quiet (fail)
      all_goals go_wp2
      exact ⟨⟨j + 1, hlt, by go_num, HW5.out.drewN _⟩, by simp [intOf]; omega⟩
    · go_wp2_with fail
      have h2 := cost_any xs ys L A B A3 n m ca cb c3 wr (H1.out.ext (HW4.out.trans HW5.out)) (H2.out.ext (HW4.out.trans HW5.out)) (HS3.out.ext (HX4.out.trans HW5.out)) HN.out.1 HN.out.2 (by omega)
      rw [HC.out] at h2
      with_reducible refine h2.mono ?_
      clear h2
      rintro e w6 ⟨hr6, hw6⟩
      simp only at hr6
      subst hr6
      have HW6 := Lib.hid ((HW4.out.trans HW5.out).trans hw6)
      clear hw6
      go_wp2_with fail
      have h2 := dist_any xs ys A B n m ca cb w6 (H1.out.ext HW6.out) (H2.out.ext HW6.out) HN.out.1 HN.out.2
      with_reducible refine h2.mono ?_
      clear h2
      rintro e w7 ⟨rfl, hw7⟩
      have HW7 := Lib.hid (HW6.out.trans hw7)
      clear hw7
      go_wp2
      go_ret
      exact ⟨rfl, HW7.out⟩

set_option maxRecDepth 100000 in
theorem distanceAligns_lifted (os : Os) (started : os.Started) (H : Type) (enc : TypeId × Value → H) :
    ReturnsInHanded {} Try.checked os 8 .any (Rows.distanceAlignsSpec.pre6 enc Try.prog Try.f8 Rows.distanceAlignsRow.domain false) (Rows.distanceAlignsSpec.post enc Try.prog Try.f8 false true false false) := by
  refine returnsInHanded_of_change (C := Try.checked) (show ownKnob Try.prog.godebug = none by kernel_rfl) started (by kernel_rfl) Try.func8
    (ChangeSpec.witness6 (enc := enc) (C := Try.checked) false ⟨#[], #[.slice none 0 0, .slice none 0 0], []⟩ 8 (by kernel_rfl) (by kernel_rfl) (by kernel_rfl) (by kernel_rfl)) ?_
  intro W base args ds gs before hval0 hW hcnd _
  have hval : ∀ (j : Nat) t v, Try.f8.params[j]? = some t → args[j]? = some v → Value.okWide Try.prog W .any base t v := hval0
  have hW' := hW
  obtain ⟨p, q, hA0, hV, rfl, hfz, hnd⟩ := hW
  have hA : DataW.TrodAll enc Try.prog W 0 (fun _ => true) true Try.f8.params.toList args.toList ds p := hA0
  rw [Try.params8] at hA hval
  obtain ⟨v0, v1, d0, d1, p0, p1, rfl, rfl, rfl, h0, h1⟩ := trodAll_two hA
  obtain ⟨A, n, ca, xs, rfl, hsA, hn⟩ := open_strs Try.underlying23 Try.underlying9 (by kernel_rfl) (okWide_slice Try.underlying23 (hval 0 23 v0 rfl rfl)) h0
  obtain ⟨B, m, cb, ys, rfl, hsB, hm⟩ := open_strs Try.underlying23 Try.underlying9 (by kernel_rfl) (okWide_slice Try.underlying23 (hval 1 23 v1 rfl rfl)) h1
  have hc : Calls Try.prog 8 #[.slice A n ca, .slice B m cb] W (RetTrue W) := by
    by_cases c1 : n ≤ 40 ∧ m ≤ 40
    · exact aligns_few xs ys A B n m ca cb W hsA hsB c1.1 c1.2
    · exact aligns_big A B n m ca cb W c1
  refine hc.mono fun e W' ⟨he, hw⟩ => ?_
  subst he
  exact ⟨_, rfl, law_post (t := 4) (show laidOutB Try.prog = true by kernel_rfl) (by rw [Try.params8]; intro t ht; simp at ht; subst ht; exact ⟨by kernel_rfl, of_decide_eq_true (by kernel_rfl)⟩) rfl Try.underlying4 rfl ⟨rfl, rfl, rfl⟩ hW' hw⟩

theorem distanceAligns_holds : Rows.DistanceAlignsSaid :=
  OpenClaim.holds_of_wide 8 Try.f8 rfl rfl rfl rfl rfl rfl rfl ⟨rfl, rfl, rfl, rfl, rfl⟩ rfl rfl rfl rfl rfl (by kernel_rfl) Try.func8 (by kernel_rfl)
    (of_decide_eq_true (by kernel_rfl)) (by unfold Func.isWrapper; first | (rw [if_pos (by decide +kernel)]; kernel_rfl) | (rw [if_neg (by decide +kernel)]; exact ⟨rfl, rfl⟩))
    (fun os started H enc _ => distanceAligns_lifted os started H enc)

end Go.Proofs.Ytgjfjibaoehmpaa
