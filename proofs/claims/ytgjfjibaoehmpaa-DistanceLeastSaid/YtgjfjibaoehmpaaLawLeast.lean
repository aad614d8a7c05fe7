/-
  DistanceLeast: for every two lists and steps the law returns true and leaves its arguments as they were. No condition.
-/
import Derived.Test.YtgjfjibaoehmpaaRows
import Derived.Test.YtgjfjibaoehmpaaLawKit
import Derived.Test.YtgjfjibaoehmpaaFew2
import Derived.Test.YtgjfjibaoehmpaaRCost
import Derived.Test.YtgjfjibaoehmpaaSlN
import Derived.Test.YtgjfjibaoehmpaaOpenSteps
import Derived.Test.YtgjfjibaoehmpaaCostLaw
namespace Go.Proofs.Ytgjfjibaoehmpaa
open Go.ChangeShapes Go.WideShapes Go.ChangeAt Go.RowKit

set_option maxHeartbeats 1000000 in
theorem least_big (A B C : Option Addr) (n m k ca cb cc : Nat) (w : World) (h : ¬ (n ≤ 40 ∧ m ≤ 40)) :
    Calls Try.prog 9 #[.slice A n ca, .slice B m cb, .slice C k cc] w (RetTrue w) := by
  have HB := Lib.hid (show (decide ((n : Int) ≤ 40) && decide ((m : Int) ≤ 40)) = false by
    rw [Bool.eq_false_iff]; intro h1; simp at h1; exact h (by omega))
  clear h
  go_enter Try.func9, Try.ntmps9
  go_wp2_with (go_at_call 10; refine (awake_any _).mono ?_; rintro e w1 ⟨rfl, hw1⟩; have HW1 := Lib.hid hw1; clear hw1)
  have h2 := few2 40 A B n m ca cb w1 false HB.out
  with_reducible refine h2.mono ?_
  clear h2
  rintro e w2 ⟨rfl, hw2⟩
  have HW2 := Lib.hid (HW1.out.trans hw2)
  clear hw2 HW1
  go_wp2
  go_ret
  exact ⟨rfl, HW2.out⟩

set_option maxHeartbeats 1000000 in
theorem least_long (A B C : Option Addr) (n m k ca cb cc : Nat) (w : World) (h : n ≤ 40 ∧ m ≤ 40) (hk : 100 < k) (hk2 : k ≤ maxLen) :
    Calls Try.prog 9 #[.slice A n ca, .slice B m cb, .slice C k cc] w (RetTrue w) := by
  unfold maxLen at hk2
  have HB := Lib.hid (show (decide ((n : Int) ≤ 40) && decide ((m : Int) ≤ 40)) = true by simp; omega)
  clear h
  go_enter Try.func9, Try.ntmps9
  go_wp2_with (go_at_call 10; refine (awake_any _).mono ?_; rintro e w1 ⟨rfl, hw1⟩; have HW1 := Lib.hid hw1; clear hw1)
  have h2 := few2 40 A B n m ca cb w1 true HB.out
  with_reducible refine h2.mono ?_
  clear h2
  rintro e w2 ⟨rfl, hw2⟩
  have HW2 := Lib.hid (HW1.out.trans hw2)
  clear hw2 HW1
  go_wp2
  go_ret
  exact ⟨rfl, HW2.out⟩

def LeLoop (w4 : World) (l : List (Int × Int)) (lv iv : Value) (wr : World) : Prop :=
  ∃ j : Nat, j ≤ l.length ∧ iv = .int .i64 j ∧ wr.ownsRow w4.heap.size 38 2 lv j (stepCells (l.take j)) ∧ Ext w4 wr

theorem new_slN (w : World) (u v : Value) (t : TypeId) : SlN (w.alloc (.cells #[u, v] t)) (some ⟨w.heap.size, 0, none⟩) 1 2 [u, v] :=
  ⟨rfl, fun j x hx => ⟨_, rfl, by simp, new_two w u v t j x hx⟩⟩
theorem cells_take {l : List (Int × Int)} {j : Nat} (hj : j < l.length) : stepCells (l.take j) ++ [.int .i64 l[j].1, .int .i64 l[j].2] = stepCells (l.take (j + 1)) := by
  rw [stepCells_snoc, take_next (List.getElem?_eq_getElem hj)]

set_option maxHeartbeats 2000000 in
set_option maxRecDepth 100000 in
theorem least_few (xs ys : List ByteArray) (l : List (Int × Int)) (A B C : Option Addr) (n m ca cb cc : Nat) (w : World) (hA : Sl w A n (xs.map .string)) (hB : Sl w B m (ys.map .string)) (hC : StepsAt w C l) (hn : n ≤ 40) (hm : m ≤ 40) (hl : l.length ≤ 100) :
    Calls Try.prog 9 #[.slice A n ca, .slice B m cb, .slice C l.length cc] w (RetTrue w) := by
  have HB := Lib.hid (show (decide ((n : Int) ≤ 40) && decide ((m : Int) ≤ 40)) = true by simp; omega)
  have HN := Lib.hid (show n ≤ 400 ∧ m ≤ 400 ∧ l.length ≤ 65536 by omega)
  have la : xs.length = n := by have := hA.1; simpa using this
  have lb : ys.length = m := by have := hB.1; simpa using this
  have HL := Lib.hid (fun c => cost_least xs ys n m l c la lb)
  have hdb := dst_bound xs ys n m
  have H1 := Lib.hid hA
  have H2 := Lib.hid hB
  have H3 := Lib.hid hC
  clear hA hB hC la lb
  obtain ⟨i2, hi2, hz0, hz1, hz2⟩ := info_parts (show (Try.prog.info? 38).map (fun i => (i.zero, i.size, i.bytes)) = some (some (.agg #[.int .i64 0, .int .i64 0]), 2, 16) from by kernel_rfl)
  go_enter Try.func9, Try.ntmps9
  go_wp2_with (go_at_call 10; refine (awake_any _).mono ?_; rintro e w1 ⟨rfl, hw1⟩; have HW1 := Lib.hid hw1; clear hw1)
  have h2 := few2 40 A B n m ca cb w1 true HB.out
  with_reducible refine h2.mono ?_
  clear h2
  rintro e w2 ⟨rfl, hw2⟩
  have HW2 := Lib.hid (HW1.out.trans hw2)
  clear hw2 HW1
  go_wp2
  go_loopw [7, 8] (LeLoop w2 l) (fun _ i _ => l.length - (intOf i).toNat)
  case atStart => exact ⟨0, Nat.zero_le _, rfl, World.ownsRow_nil _ _ _ _, Ext.refl _⟩
  case round =>
    obtain ⟨j, hj, rfl, hown, hw5⟩ := hrel
    have HO := Lib.hid hown
    have HW5 := Lib.hid hw5
    clear hown hw5
    by_cases hlt : j < l.length
    · obtain ⟨b, o, rfl, hbs, hx, hy⟩ := (H3.out.ext (HW2.out.trans HW5.out)) j hlt
      rw [← Nat.add_assoc] at hy
      have HT := Lib.hid (cells_take hlt)
      generalize l[j].1 = av at hx HT
      generalize l[j].2 = bv at hy HT
      have hsz := Ext.size HW5.out
      go_wp2_with (at_builtin; refine wpList_appN _ rfl _ _ 31 rfl w2.heap.size 38 i2 _ 2 16 Try.underlying31 hi2 hz0 hz1 hz2 rfl (by decide) _ j _ rfl (HO.out.alloc _) _ 1 _ _ rfl (new_slN _ _ _ _) (by simp [Value.oneCell']) (by unfold maxLen; omega) (by omega) (by simp; omega) ?_; intro v6 w6 hown6 hgrow6; have HO6 := Lib.hid hown6; have HG6 := Lib.hid hgrow6; clear hown6 hgrow6)
      exact ⟨⟨j + 1, hlt, by go_num, by have h1 := HO6.out; rw [HT.out] at h1; exact h1, ext_grown (HW5.out.alloc _) (HO.out.alloc _) (Nat.le_refl _) HG6.out⟩, by simp [intOf]; omega⟩
    · obtain rfl : j = l.length := by omega
      obtain ⟨A5, c5, rfl, hs5⟩ := own_slN HO.out
      rw [List.take_length] at hs5
      have HS5 := Lib.hid hs5.steps
      clear hs5 HO
      go_wp2_with fail
      have h2 := cost_any xs ys l A B A5 n m ca cb c5 wr (H1.out.ext (HW2.out.trans HW5.out)) (H2.out.ext (HW2.out.trans HW5.out)) HS5.out HN.out.1 HN.out.2.1 HN.out.2.2
      have h3 := fun W (hW : Ext w W) => refCost_any xs ys l A B C n m ca cb cc W (H1.out.ext hW) (H2.out.ext hW) (H3.out.ext hW) HN.out.1 HN.out.2.1 HN.out.2.2
      have hle := HL.out
      cases hcst : costF (eqAt xs ys) n m l 0 0 0 with
      | none =>
        rw [hcst] at h2
        simp only [hcst] at h3
        have H4 := Lib.hid h3
        clear h3 hle hcst
        with_reducible refine h2.mono ?_
        clear h2
        rintro e w6 ⟨hr6, hw6⟩
        simp only at hr6
        subst hr6
        have HW6 := Lib.hid ((HW2.out.trans HW5.out).trans hw6)
        clear hw6
        go_wp2_with fail
        have h2 := H4.out w6 HW6.out
        with_reducible refine h2.mono ?_
        clear h2
        rintro e w7 ⟨hr7, hw7⟩
        simp only at hr7
        subst hr7
        have HW7 := Lib.hid (HW6.out.trans hw7)
        clear hw7
        go_wp2
        go_ret
        exact ⟨rfl, HW7.out⟩
      | some c =>
        have hcl := hle c hcst
        rw [hcst] at h2
        simp only [hcst] at h3
        have H4 := Lib.hid h3
        clear h3 hle hcst
        with_reducible refine h2.mono ?_
        clear h2
        rintro e w6 ⟨hr6, hw6⟩
        simp only at hr6
        subst hr6
        have HW6 := Lib.hid ((HW2.out.trans HW5.out).trans hw6)
        clear hw6
        go_wp2_with fail
        have h2 := H4.out w6 HW6.out
        with_reducible refine h2.mono ?_
        clear h2
        rintro e w7 ⟨hr7, hw7⟩
        simp only at hr7
        subst hr7
        have HW7 := Lib.hid (HW6.out.trans hw7)
        clear hw7
        go_wp2_with fail
        have h2 := dist_any xs ys A B n m ca cb w7 (H1.out.ext HW7.out) (H2.out.ext HW7.out) HN.out.1 HN.out.2.1
        with_reducible refine h2.mono ?_
        clear h2
        rintro e w8 ⟨rfl, hw8⟩
        have HW8 := Lib.hid (HW7.out.trans hw8)
        clear hw8
        go_wp2
        go_ret
        exact ⟨rfl, HW8.out⟩

set_option maxRecDepth 100000 in
theorem distanceLeast_lifted (os : Os) (started : os.Started) (H : Type) (enc : TypeId × Value → H) :
    ReturnsInHanded {} Try.checked os 9 .any (Rows.distanceLeastSpec.pre6 enc Try.prog Try.f9 Rows.distanceLeastRow.domain false) (Rows.distanceLeastSpec.post enc Try.prog Try.f9 false true false false) := by
  refine returnsInHanded_of_change (C := Try.checked) (show ownKnob Try.prog.godebug = none by kernel_rfl) started (by kernel_rfl) Try.func9
    (ChangeSpec.witness6 (enc := enc) (C := Try.checked) false ⟨#[], #[.slice none 0 0, .slice none 0 0, .slice none 0 0], []⟩ 8 (by kernel_rfl) (by kernel_rfl) (by kernel_rfl) (by kernel_rfl)) ?_
  intro W base args ds gs before hval0 hW hcnd _
  have hval : ∀ (j : Nat) t v, Try.f9.params[j]? = some t → args[j]? = some v → Value.okWide Try.prog W .any base t v := hval0
  have hW' := hW
  obtain ⟨p, q, hA0, hV, rfl, hfz, hnd⟩ := hW
  have hA : DataW.TrodAll enc Try.prog W 0 (fun _ => true) true Try.f9.params.toList args.toList ds p := hA0
  rw [Try.params9] at hA hval
  obtain ⟨v0, v1, v2, d0, d1, d2, p0, p1, p2, rfl, rfl, rfl, h0, h1, h2⟩ := trodAll_three hA
  obtain ⟨A, n, ca, xs, rfl, hsA, hn⟩ := open_strs Try.underlying23 Try.underlying9 (by kernel_rfl) (okWide_slice Try.underlying23 (hval 0 23 v0 rfl rfl)) h0
  obtain ⟨B, m, cb, ys, rfl, hsB, hm⟩ := open_strs Try.underlying23 Try.underlying9 (by kernel_rfl) (okWide_slice Try.underlying23 (hval 1 23 v1 rfl rfl)) h1
  obtain ⟨C, cc, l, rfl, hsC, hk⟩ := open_steps Try.underlying34 Try.underlying37 Try.underlying3 rfl rfl rfl rfl (by kernel_rfl) (by kernel_rfl) (okWide_slice Try.underlying34 (hval 2 34 v2 rfl rfl)) h2
  have hc : Calls Try.prog 9 #[.slice A n ca, .slice B m cb, .slice C l.length cc] W (RetTrue W) := by
    by_cases c1 : n ≤ 40 ∧ m ≤ 40
    · by_cases c2 : l.length ≤ 100
      · exact least_few xs ys l A B C n m ca cb cc W hsA hsB hsC c1.1 c1.2 c2
      · exact least_long A B C n m l.length ca cb cc W c1 (by omega) hk
    · exact least_big A B C n m l.length ca cb cc W c1
  refine hc.mono fun e W' ⟨he, hw⟩ => ?_
  subst he
  exact ⟨_, rfl, law_post (t := 4) (show laidOutB Try.prog = true by kernel_rfl) (by rw [Try.params9]; intro t ht; simp at ht; rcases ht with ht | ht <;> subst ht <;> exact ⟨by kernel_rfl, of_decide_eq_true (by kernel_rfl)⟩) rfl Try.underlying4 rfl ⟨rfl, rfl, rfl⟩ hW' hw⟩

theorem distanceLeast_holds : Rows.DistanceLeastSaid :=
  OpenClaim.holds_of_wide 9 Try.f9 rfl rfl rfl rfl rfl rfl rfl ⟨rfl, rfl, rfl, rfl, rfl⟩ rfl rfl rfl rfl rfl (by kernel_rfl) Try.func9 (by kernel_rfl)
    (of_decide_eq_true (by kernel_rfl)) (by unfold Func.isWrapper; first | (rw [if_pos (by decide +kernel)]; kernel_rfl) | (rw [if_neg (by decide +kernel)]; exact ⟨rfl, rfl⟩))
    (fun os started H enc _ => distanceLeast_lifted os started H enc)

end Go.Proofs.Ytgjfjibaoehmpaa
