/-
  DistanceGrows: for every three lists the law returns true and leaves its arguments as they were. No condition.
-/
import Derived.Test.YtgjfjibaoehmpaaRows
import Derived.Test.YtgjfjibaoehmpaaLawKit
import Derived.Test.YtgjfjibaoehmpaaFew2
import Derived.Test.YtgjfjibaoehmpaaLev2
import Derived.Test.YtgjfjibaoehmpaaStep
namespace Go.Proofs.Ytgjfjibaoehmpaa
open Go.ChangeShapes Go.WideShapes Go.ChangeAt Go.RowKit

set_option maxHeartbeats 1000000 in
theorem grows_big (A B C : Option Addr) (n m k ca cb cc : Nat) (w : World) (h : ¬ (n ≤ 40 ∧ m ≤ 40 ∧ k ≤ 40)) :
    Calls Try.prog 7 #[.slice A n ca, .slice B m cb, .slice C k cc] w (RetTrue w) := by
  have HB := Lib.hid (show (decide ((n : Int) ≤ 40) && (decide ((m : Int) ≤ 40) && decide ((k : Int) ≤ 40))) = false by
    rw [Bool.eq_false_iff]; intro h1; simp at h1; exact h (by omega))
  clear h
  go_enter Try.func7, Try.ntmps7
  go_wp2_with (go_at_call 10; refine (awake_any _).mono ?_; rintro e w1 ⟨rfl, hw1⟩; have HW1 := Lib.hid hw1; clear hw1)
  have h2 := few3 40 A B C n m k ca cb cc w1 false HB.out
  with_reducible refine h2.mono ?_
  clear h2
  rintro e w2 ⟨rfl, hw2⟩
  have HW2 := Lib.hid (HW1.out.trans hw2)
  clear hw2 HW1
  go_wp2
  go_ret
  exact ⟨rfl, HW2.out⟩

theorem more_sl {w : World} {A : Option Addr} {n : Nat} {xs : List ByteArray} {z : ByteArray} (h : Sl w A (0 + n + 1) ([] ++ xs.map Value.string ++ [.string z])) : Sl w A (n + 1) ((xs ++ [z]).map Value.string) := by
  simpa using h
theorem two_new (w : World) (a b : Obj) : ((w.alloc a).alloc b).drew.heap[w.heap.size + 1]? = some b := by
  have h := heap_alloc_new (w.alloc a) b
  have e : (w.alloc a).heap.size = w.heap.size + 1 := by simp
  rw [e] at h
  exact h
theorem two_old (w : World) (a b : Obj) : ((w.alloc a).alloc b).drew.heap[w.heap.size]? = some a := by
  have h := heap_alloc_new w a
  have h2 := Below.heap_alloc (w.alloc a) b w.heap.size (by simp)
  exact h2.trans h
theorem own3 (w : World) (o : Obj) : ((w.alloc o).alloc (.cells #[] 9)).drew.ownsRow w.heap.size 9 1 (.slice (some ⟨w.heap.size + 1, 0, none⟩) 0 0) 0 [] :=
  ⟨rfl, .inr ⟨w.heap.size + 1, 0, #[], rfl, by omega, two_new w _ _, Nat.le_refl _, Nat.zero_le _, rfl, rfl⟩⟩
theorem one_kept {W w' : World} {g : Nat} {u : Value} {row : Option Nat} (hg : W.grownBy w' row) (hW : W.heap[g]? = some (.cells #[u] 9)) (hne : some g ≠ row) : Sl w' (some ⟨g, 0, none⟩) 1 [u] := by
  have hlt : g < W.heap.size := (Array.getElem?_eq_some_iff.1 hW).1
  have h1 := (hg.block g hlt hne).trans hW
  refine ⟨rfl, fun j x hx => ⟨_, rfl, (Array.getElem?_eq_some_iff.1 h1).1, ?_⟩⟩
  have hj : j = 0 := by have := (List.getElem?_eq_some_iff.1 hx).1; simp at this; exact this
  subst hj
  simp at hx
  subst hx
  show w'.cell? ⟨g, 0, none⟩ = some u
  rw [cell_of_row w' g 0 #[u] 9 (0, 0) h1]
  rfl
theorem cell_mid {w w' : World} {p : Addr} {u : Value} (h : Ext w w') (hc : w.cell? p = some u) : w'.cell? p = some u :=
  (Ext.cell h (World.block_lt_of_cell? w p hc)).trans hc

/-- Two lists one behind the other, in new memory. -/
theorem cat_end {w0 w1 w2 : World} {v1 v2 : Value} {n m : Nat} {xs ys : List ByteArray} (h1 : w1.ownsRow w0.heap.size 9 1 v1 (0 + n) ([] ++ xs.map Value.string)) (g1 : (w0.alloc (.cells #[] 9)).grownBy w1 (Value.ownBlock (.slice (some ⟨w0.heap.size, 0, none⟩) 0 0)))
    (h2 : w2.ownsRow w0.heap.size 9 1 v2 (0 + n + m) ([] ++ xs.map Value.string ++ ys.map Value.string)) (g2 : w1.grownBy w2 v1.ownBlock) :
    Ext w0 w2 ∧ ∃ A c, v2 = .slice A (n + m) c ∧ Sl w2 A (n + m) ((xs ++ ys).map Value.string) := by
  have e1 : Ext w0 w1 := ext_grown ((Ext.refl w0).alloc _) (own_empty w0 9) (Nat.le_refl _) g1
  have e2 : Ext w0 w2 := ext_grown e1 h1 (Nat.le_refl _) g2
  obtain ⟨A, c, hv, hs, _⟩ := own_sl h2
  exact ⟨e2, A, c, by rw [hv, Nat.zero_add], by simpa using hs⟩
theorem cat_mid {w0 w1 : World} (g1 : (w0.alloc (.cells #[] 9)).grownBy w1 (Value.ownBlock (.slice (some ⟨w0.heap.size, 0, none⟩) 0 0))) : Ext w0 w1 ∧ w0.heap.size ≤ w1.heap.size := by
  have e1 : Ext w0 w1 := ext_grown ((Ext.refl w0).alloc _) (own_empty w0 9) (Nat.le_refl _) g1
  exact ⟨e1, Ext.size e1⟩

set_option maxHeartbeats 4000000 in
set_option maxRecDepth 100000 in
theorem grows_few (xs ys zs : List ByteArray) (A B C : Option Addr) (n m k ca cb cc : Nat) (w : World) (hA : Sl w A n (xs.map .string)) (hB : Sl w B m (ys.map .string)) (hC : Sl w C k (zs.map .string))
    (hn : n ≤ 40) (hm : m ≤ 40) (hk : k ≤ 40) :
    Calls Try.prog 7 #[.slice A n ca, .slice B m cb, .slice C k cc] w (RetTrue w) := by
  obtain ⟨i0, hi, hz0, hz1, hz2⟩ := info_parts (show (Try.prog.info? 9).map (fun i => (i.zero, i.size, i.bytes)) = some (some (.string ⟨#[]⟩), 1, 16) from by kernel_rfl)
  have HB := Lib.hid (show (decide ((n : Int) ≤ 40) && (decide ((m : Int) ≤ 40) && decide ((k : Int) ≤ 40))) = true by simp; omega)
  have HN := Lib.hid (show n ≤ 400 ∧ m ≤ 400 ∧ k ≤ 400 ∧ k + n ≤ 400 ∧ k + m ≤ 400 ∧ n + k ≤ 400 ∧ m + k ≤ 400 ∧ n + 1 ≤ 400 by omega)
  have la : xs.length = n := by have := hA.1; simpa using this
  have lb : ys.length = m := by have := hB.1; simpa using this
  have lc : zs.length = k := by have := hC.1; simpa using this
  have q1 : dst (zs ++ xs) (zs ++ ys) (k + n) (k + m) = dst xs ys n m := by
    have h1 := D_front zs xs ys
    rw [D, D, List.length_append, List.length_append, la, lb, lc] at h1
    exact h1
  have q2 : dst (xs ++ zs) (ys ++ zs) (n + k) (m + k) = dst xs ys n m := by
    have h1 := D_back zs xs ys
    rw [D, D, List.length_append, List.length_append, la, lb, lc] at h1
    exact h1
  have q3 : dst xs ys n m ≤ max n m := by
    have h1 := D_max xs ys
    rw [D, la, lb] at h1
    exact h1
  have q4 : n ≤ m + dst xs ys n m := by
    have h1 := D_diff xs ys
    rw [D, la, lb] at h1
    exact h1
  have q5 : m ≤ n + dst xs ys n m := by
    have h1 := D_diff ys xs
    rw [D_symm, D, la, lb] at h1
    exact h1
  have hmax : dst xs ys n m ≤ n ∨ dst xs ys n m ≤ m := by omega
  have q8 : ∀ z, dst (xs ++ [z]) ys (n + 1) m ≤ dst xs ys n m + 1 ∧ dst xs ys n m ≤ dst (xs ++ [z]) ys (n + 1) m + 1 := by
    intro z
    have h1 := D_more z xs ys
    rw [D, D, List.length_append, la, lb] at h1
    exact h1
  have HQ8 := Lib.hid q8
  clear q8
  have HQ1 := Lib.hid q1
  have HQ2 := Lib.hid q2
  have HMAX := Lib.hid hmax
  have H1 := Lib.hid hA
  have H2 := Lib.hid hB
  have H3 := Lib.hid hC
  have HLA := Lib.hid la
  have HLB := Lib.hid lb
  have tok3 : True := trivial
  have tok4 : True := trivial
  have tok5 : True := trivial
  have tok6 : True := trivial
  have tok8 : True := trivial
  have tok9 : True := trivial
  have tok10 : True := trivial
  have tok11 : True := trivial
  have tok14 : True := trivial
  have tok15 : True := trivial
  clear hA hB hC q1 q2 la lb lc hmax q3
  have q6 : (n : Int) - m ≤ dst xs ys n m := by omega
  have q7 : (m : Int) - n ≤ dst xs ys n m := by omega
  go_enter Try.func7, Try.ntmps7
  go_wp2_with (go_at_call 10; refine (awake_any _).mono ?_; rintro e w1 ⟨rfl, hw1⟩; have HW1 := Lib.hid hw1; clear hw1)
  have h2 := few3 40 A B C n m k ca cb cc w1 true HB.out
  with_reducible refine h2.mono ?_
  clear h2
  rintro e w2 ⟨rfl, hw2⟩
  have HW2 := Lib.hid (HW1.out.trans hw2)
  clear hw2 HW1
  go_wp2_with fail
  have h2 := dist_any xs ys A B n m ca cb w2 (H1.out.ext HW2.out) (H2.out.ext HW2.out) HN.out.1 HN.out.2.1
  with_reducible refine h2.mono ?_
  clear h2
  rintro e w3 ⟨rfl, hw3⟩
  have HW3 := Lib.hid (HW2.out.trans hw3)
  clear hw3 HW2
  by_cases hnm : n < m
  · have hmx : dst xs ys n m ≤ m := by have := HMAX.out; omega
    go_wp2_with (first | (at_builtin; have _t := tok3; refine wpList_app _ rfl _ _ 23 rfl w3.heap.size 9 i0 _ 16 Try.underlying23 hi hz0 hz1 hz2 rfl _ 0 [] rfl (own_empty w3 9) _ k _ _ rfl ((H3.out.ext (HW3.out.alloc _))) (string_one _) (by unfold maxLen; omega) (by omega) (by simp) ?_; intro v4 w4 hown4 hgrow4; have HO4 := Lib.hid hown4; have HG4 := Lib.hid hgrow4; clear hown4 hgrow4 tok3) | (at_builtin; have _t := tok4; refine wpList_app _ rfl _ _ 23 rfl w3.heap.size 9 i0 _ 16 Try.underlying23 hi hz0 hz1 hz2 rfl _ (0 + k) ([] ++ zs.map Value.string) rfl HO4.out _ n _ _ rfl ((H1.out.ext (HW3.out.trans (cat_mid HG4.out).1))) (string_one _) (by unfold maxLen; omega) (by omega) ((cat_mid HG4.out).2) ?_; intro v5 w5 hown5 hgrow5; have HO5 := Lib.hid hown5; have HG5 := Lib.hid hgrow5; clear hown5 hgrow5 tok4; obtain ⟨hx5, A5, c5, hv5, hs5⟩ := cat_end HO4.out HG4.out HO5.out HG5.out; have HW5 := Lib.hid (HW3.out.trans hx5); have HX5 := Lib.hid hx5; have HS5 := Lib.hid hs5; rw [hv5]; clear hx5 hs5 hv5 HO4 HG4 HO5 HG5) | (at_builtin; have _t := tok5; refine wpList_app _ rfl _ _ 23 rfl w5.heap.size 9 i0 _ 16 Try.underlying23 hi hz0 hz1 hz2 rfl _ 0 [] rfl (own_empty w5 9) _ k _ _ rfl ((H3.out.ext (HW5.out.alloc _))) (string_one _) (by unfold maxLen; omega) (by omega) (by simp) ?_; intro v6 w6 hown6 hgrow6; have HO6 := Lib.hid hown6; have HG6 := Lib.hid hgrow6; clear hown6 hgrow6 tok5) | (at_builtin; have _t := tok6; refine wpList_app _ rfl _ _ 23 rfl w5.heap.size 9 i0 _ 16 Try.underlying23 hi hz0 hz1 hz2 rfl _ (0 + k) ([] ++ zs.map Value.string) rfl HO6.out _ m _ _ rfl ((H2.out.ext (HW5.out.trans (cat_mid HG6.out).1))) (string_one _) (by unfold maxLen; omega) (by omega) ((cat_mid HG6.out).2) ?_; intro v7 w7 hown7 hgrow7; have HO7 := Lib.hid hown7; have HG7 := Lib.hid hgrow7; clear hown7 hgrow7 tok6; obtain ⟨hx7, A7, c7, hv7, hs7⟩ := cat_end HO6.out HG6.out HO7.out HG7.out; have HW7 := Lib.hid (HW5.out.trans hx7); have HX7 := Lib.hid hx7; have HS7 := Lib.hid hs7; rw [hv7]; clear hx7 hs7 hv7 HO6 HG6 HO7 HG7))
    have h2 := dist_any (zs ++ xs) (zs ++ ys) A5 A7 (k + n) (k + m) c5 c7 w7 (HS5.out.ext HX7.out) HS7.out HN.out.2.2.2.1 HN.out.2.2.2.2.1
    rw [HQ1.out] at h2
    with_reducible refine h2.mono ?_
    clear h2
    rintro e w8 ⟨rfl, hw8⟩
    have HW8 := Lib.hid (HW7.out.trans hw8)
    clear hw8
    go_wp2_with (first | (at_builtin; have _t := tok8; refine wpList_app _ rfl _ _ 23 rfl w8.heap.size 9 i0 _ 16 Try.underlying23 hi hz0 hz1 hz2 rfl _ 0 [] rfl (own_empty w8 9) _ n _ _ rfl ((H1.out.ext (HW8.out.alloc _))) (string_one _) (by unfold maxLen; omega) (by omega) (by simp) ?_; intro v9 w9 hown9 hgrow9; have HO9 := Lib.hid hown9; have HG9 := Lib.hid hgrow9; clear hown9 hgrow9 tok8) | (at_builtin; have _t := tok9; refine wpList_app _ rfl _ _ 23 rfl w8.heap.size 9 i0 _ 16 Try.underlying23 hi hz0 hz1 hz2 rfl _ (0 + n) ([] ++ xs.map Value.string) rfl HO9.out _ k _ _ rfl ((H3.out.ext (HW8.out.trans (cat_mid HG9.out).1))) (string_one _) (by unfold maxLen; omega) (by omega) ((cat_mid HG9.out).2) ?_; intro v10 w10 hown10 hgrow10; have HO10 := Lib.hid hown10; have HG10 := Lib.hid hgrow10; clear hown10 hgrow10 tok9; obtain ⟨hx10, A10, c10, hv10, hs10⟩ := cat_end HO9.out HG9.out HO10.out HG10.out; have HW10 := Lib.hid (HW8.out.trans hx10); have HX10 := Lib.hid hx10; have HS10 := Lib.hid hs10; rw [hv10]; clear hx10 hs10 hv10 HO9 HG9 HO10 HG10) | (at_builtin; have _t := tok10; refine wpList_app _ rfl _ _ 23 rfl w10.heap.size 9 i0 _ 16 Try.underlying23 hi hz0 hz1 hz2 rfl _ 0 [] rfl (own_empty w10 9) _ m _ _ rfl ((H2.out.ext (HW10.out.alloc _))) (string_one _) (by unfold maxLen; omega) (by omega) (by simp) ?_; intro v11 w11 hown11 hgrow11; have HO11 := Lib.hid hown11; have HG11 := Lib.hid hgrow11; clear hown11 hgrow11 tok10) | (at_builtin; have _t := tok11; refine wpList_app _ rfl _ _ 23 rfl w10.heap.size 9 i0 _ 16 Try.underlying23 hi hz0 hz1 hz2 rfl _ (0 + m) ([] ++ ys.map Value.string) rfl HO11.out _ k _ _ rfl ((H3.out.ext (HW10.out.trans (cat_mid HG11.out).1))) (string_one _) (by unfold maxLen; omega) (by omega) ((cat_mid HG11.out).2) ?_; intro v12 w12 hown12 hgrow12; have HO12 := Lib.hid hown12; have HG12 := Lib.hid hgrow12; clear hown12 hgrow12 tok11; obtain ⟨hx12, A12, c12, hv12, hs12⟩ := cat_end HO11.out HG11.out HO12.out HG12.out; have HW12 := Lib.hid (HW10.out.trans hx12); have HX12 := Lib.hid hx12; have HS12 := Lib.hid hs12; rw [hv12]; clear hx12 hs12 hv12 HO11 HG11 HO12 HG12))
    have h2 := dist_any (xs ++ zs) (ys ++ zs) A10 A12 (n + k) (m + k) c10 c12 w12 (HS10.out.ext HX12.out) HS12.out HN.out.2.2.2.2.2.1 HN.out.2.2.2.2.2.2.1
    rw [HQ2.out] at h2
    with_reducible refine h2.mono ?_
    clear h2
    rintro e w13 ⟨rfl, hw13⟩
    have HW13 := Lib.hid (HW12.out.trans hw13)
    clear hw13
    by_cases hk0 : k = 0
    · have hkb : ((k : Int) == 0) = true := by simp [hk0]
      clear hk0
      go_wp2
      go_ret
      exact ⟨rfl, HW13.out⟩
    · have hkb : ((k : Int) == 0) = false := by simp; omega
      have hk1 : 0 < k := by omega
      clear hk0
      obtain ⟨ad, z, rfl, hzx, hzc, hzo⟩ := (H3.out.ext HW13.out).at_mapB hk1
      have hz0' : (ad.add 0) = ad := rfl
      rw [hz0'] at hzc hzo
      have HZX := Lib.hid hzx
      obtain ⟨u1, u2⟩ := HQ8.out z
      have u3 : dst (xs ++ [z]) ys (n + 1) m ≤ 82 := by have := dst_bound (xs ++ [z]) ys (n + 1) m; omega
      clear hzx hz0'
      go_wp2_with fail
      go_region_law (first | (have _t := tok14; refine step_app _ rfl _ _ 23 rfl w13.heap.size 9 i0 _ 16 Try.underlying23 hi hz0 hz1 hz2 rfl _ 0 [] rfl ((own_empty w13 9).drew) _ n _ _ rfl (H1.out.ext ((HW13.out.alloc _).drew)) (string_one _) (by unfold maxLen; omega) (by omega) (by simp; try omega) ?_; intro v14 w14 hown14 hgrow14; have HX14 := Lib.hid (ext_grown (a := w13) (((Ext.refl w13).alloc (.cells #[] 9)).drew) ((own_empty w13 9).drew) (Nat.le_refl _) hgrow14); have hc14 : w14.cell? ad = some (.string z) := (cell_mid HX14.out hzc); have HO14 := Lib.hid hown14; clear hown14 hgrow14 tok14) | (have _t := tok14; refine step_app _ rfl _ _ 23 rfl w13.heap.size 9 i0 _ 16 Try.underlying23 hi hz0 hz1 hz2 rfl _ 0 [] rfl (((own_empty w13 9).alloc _).drew) _ n _ _ rfl (H1.out.ext (((HW13.out.alloc _).alloc _).drew)) (string_one _) (by unfold maxLen; omega) (by omega) (by simp; try omega) ?_; intro v14 w14 hown14 hgrow14; have HX14 := Lib.hid (ext_grown (a := w13) ((((Ext.refl w13).alloc (.cells #[] 9)).alloc (.cells #[.string z] 9)).drew) (((own_empty w13 9).alloc _).drew) (Nat.le_refl _) hgrow14); have hc14 : w14.cell? ad = some (.string z) := (cell_mid HX14.out hzc); have HZ2 := Lib.hid (one_kept (row := some w13.heap.size) hgrow14 (two_new w13 _ _) (by simp)); have HO14 := Lib.hid hown14; clear hown14 hgrow14 tok14) | (have _t := tok14; refine step_app _ rfl _ _ 23 rfl w13.heap.size 9 i0 _ 16 Try.underlying23 hi hz0 hz1 hz2 rfl _ 0 [] rfl (own3 w13 _) _ n _ _ rfl (H1.out.ext (((HW13.out.alloc _).alloc _).drew)) (string_one _) (by unfold maxLen; omega) (by omega) (by simp; try omega) ?_; intro v14 w14 hown14 hgrow14; have HX14 := Lib.hid (ext_grown (a := w13) ((((Ext.refl w13).alloc (.cells #[.string z] 9)).alloc (.cells #[] 9)).drew) (own3 w13 _) (Nat.le_refl _) hgrow14); have hc14 : w14.cell? ad = some (.string z) := (cell_mid HX14.out hzc); have HZ3 := Lib.hid (one_kept (row := some (w13.heap.size + 1)) hgrow14 (two_old w13 _ _) (by simp)); have HO14 := Lib.hid hown14; clear hown14 hgrow14 tok14) | (have _t := tok15; refine step_app _ rfl _ _ 23 rfl w13.heap.size 9 i0 _ 16 Try.underlying23 hi hz0 hz1 hz2 rfl _ (0 + n) _ rfl HO14.out _ 1 _ _ rfl HZ2.out (by simp [Value.oneCell']) (by unfold maxLen; omega) (by omega) (by have := Ext.size HX14.out; simp; omega) ?_; intro v15 w15 hown15 hgrow15; have HX15 := Lib.hid (ext_grown (a := w13) (HX14.out) HO14.out (Nat.le_refl _) hgrow15); obtain ⟨A15, c15, hv15, hs15, _⟩ := own_sl hown15; rw [hv15, Nat.zero_add]; have HS15 := Lib.hid (more_sl hs15); clear hown15 hgrow15 hs15 hv15 tok15) | (have _t := tok15; refine step_app _ rfl _ _ 23 rfl w13.heap.size 9 i0 _ 16 Try.underlying23 hi hz0 hz1 hz2 rfl _ (0 + n) _ rfl HO14.out _ 1 _ _ rfl HZ3.out (by simp [Value.oneCell']) (by unfold maxLen; omega) (by omega) (by have := Ext.size HX14.out; simp; omega) ?_; intro v15 w15 hown15 hgrow15; have HX15 := Lib.hid (ext_grown (a := w13) (HX14.out) HO14.out (Nat.le_refl _) hgrow15); obtain ⟨A15, c15, hv15, hs15, _⟩ := own_sl hown15; rw [hv15, Nat.zero_add]; have HS15 := Lib.hid (more_sl hs15); clear hown15 hgrow15 hs15 hv15 tok15) | (have _t := tok15; refine step_app _ rfl _ _ 23 rfl w13.heap.size 9 i0 _ 16 Try.underlying23 hi hz0 hz1 hz2 rfl _ (0 + n) _ rfl (HO14.out.alloc _) _ 1 _ _ rfl (Sl.one w14 _ _) (by simp [Value.oneCell']) (by unfold maxLen; omega) (by omega) (by have := Ext.size HX14.out; simp; omega) ?_; intro v15 w15 hown15 hgrow15; have HX15 := Lib.hid (ext_grown (a := w13) (HX14.out.alloc _) (HO14.out.alloc _) (Nat.le_refl _) hgrow15); obtain ⟨A15, c15, hv15, hs15, _⟩ := own_sl hown15; rw [hv15, Nat.zero_add]; have HS15 := Lib.hid (more_sl hs15); clear hown15 hgrow15 hs15 hv15 tok15) | (go_simp; go_at_call 16; have h2 := dist_any (xs ++ [z]) ys A15 B (n + 1) m c15 cb w15 HS15.out (H2.out.ext (HW13.out.trans HX15.out)) HN.out.2.2.2.2.2.2.2 HN.out.2.1; with_reducible refine h2.mono ?_; clear h2; rintro e w16 ⟨rfl, hw16⟩; have HW16 := Lib.hid ((HW13.out.trans HX15.out).trans hw16); clear hw16))
      all_goals go_wp2
      all_goals (go_ret; exact ⟨ret_bool (by first | (simp; omega) | (exfalso; omega)), HW16.out⟩)
  · have hmx : dst xs ys n m ≤ n := by have := HMAX.out; omega
    go_wp2_with (first | (at_builtin; have _t := tok3; refine wpList_app _ rfl _ _ 23 rfl w3.heap.size 9 i0 _ 16 Try.underlying23 hi hz0 hz1 hz2 rfl _ 0 [] rfl (own_empty w3 9) _ k _ _ rfl ((H3.out.ext (HW3.out.alloc _))) (string_one _) (by unfold maxLen; omega) (by omega) (by simp) ?_; intro v4 w4 hown4 hgrow4; have HO4 := Lib.hid hown4; have HG4 := Lib.hid hgrow4; clear hown4 hgrow4 tok3) | (at_builtin; have _t := tok4; refine wpList_app _ rfl _ _ 23 rfl w3.heap.size 9 i0 _ 16 Try.underlying23 hi hz0 hz1 hz2 rfl _ (0 + k) ([] ++ zs.map Value.string) rfl HO4.out _ n _ _ rfl ((H1.out.ext (HW3.out.trans (cat_mid HG4.out).1))) (string_one _) (by unfold maxLen; omega) (by omega) ((cat_mid HG4.out).2) ?_; intro v5 w5 hown5 hgrow5; have HO5 := Lib.hid hown5; have HG5 := Lib.hid hgrow5; clear hown5 hgrow5 tok4; obtain ⟨hx5, A5, c5, hv5, hs5⟩ := cat_end HO4.out HG4.out HO5.out HG5.out; have HW5 := Lib.hid (HW3.out.trans hx5); have HX5 := Lib.hid hx5; have HS5 := Lib.hid hs5; rw [hv5]; clear hx5 hs5 hv5 HO4 HG4 HO5 HG5) | (at_builtin; have _t := tok5; refine wpList_app _ rfl _ _ 23 rfl w5.heap.size 9 i0 _ 16 Try.underlying23 hi hz0 hz1 hz2 rfl _ 0 [] rfl (own_empty w5 9) _ k _ _ rfl ((H3.out.ext (HW5.out.alloc _))) (string_one _) (by unfold maxLen; omega) (by omega) (by simp) ?_; intro v6 w6 hown6 hgrow6; have HO6 := Lib.hid hown6; have HG6 := Lib.hid hgrow6; clear hown6 hgrow6 tok5) | (at_builtin; have _t := tok6; refine wpList_app _ rfl _ _ 23 rfl w5.heap.size 9 i0 _ 16 Try.underlying23 hi hz0 hz1 hz2 rfl _ (0 + k) ([] ++ zs.map Value.string) rfl HO6.out _ m _ _ rfl ((H2.out.ext (HW5.out.trans (cat_mid HG6.out).1))) (string_one _) (by unfold maxLen; omega) (by omega) ((cat_mid HG6.out).2) ?_; intro v7 w7 hown7 hgrow7; have HO7 := Lib.hid hown7; have HG7 := Lib.hid hgrow7; clear hown7 hgrow7 tok6; obtain ⟨hx7, A7, c7, hv7, hs7⟩ := cat_end HO6.out HG6.out HO7.out HG7.out; have HW7 := Lib.hid (HW5.out.trans hx7); have HX7 := Lib.hid hx7; have HS7 := Lib.hid hs7; rw [hv7]; clear hx7 hs7 hv7 HO6 HG6 HO7 HG7))
    have h2 := dist_any (zs ++ xs) (zs ++ ys) A5 A7 (k + n) (k + m) c5 c7 w7 (HS5.out.ext HX7.out) HS7.out HN.out.2.2.2.1 HN.out.2.2.2.2.1
    rw [HQ1.out] at h2
    with_reducible refine h2.mono ?_
    clear h2
    rintro e w8 ⟨rfl, hw8⟩
    have HW8 := Lib.hid (HW7.out.trans hw8)
    clear hw8
    go_wp2_with (first | (at_builtin; have _t := tok8; refine wpList_app _ rfl _ _ 23 rfl w8.heap.size 9 i0 _ 16 Try.underlying23 hi hz0 hz1 hz2 rfl _ 0 [] rfl (own_empty w8 9) _ n _ _ rfl ((H1.out.ext (HW8.out.alloc _))) (string_one _) (by unfold maxLen; omega) (by omega) (by simp) ?_; intro v9 w9 hown9 hgrow9; have HO9 := Lib.hid hown9; have HG9 := Lib.hid hgrow9; clear hown9 hgrow9 tok8) | (at_builtin; have _t := tok9; refine wpList_app _ rfl _ _ 23 rfl w8.heap.size 9 i0 _ 16 Try.underlying23 hi hz0 hz1 hz2 rfl _ (0 + n) ([] ++ xs.map Value.string) rfl HO9.out _ k _ _ rfl ((H3.out.ext (HW8.out.trans (cat_mid HG9.out).1))) (string_one _) (by unfold maxLen; omega) (by omega) ((cat_mid HG9.out).2) ?_; intro v10 w10 hown10 hgrow10; have HO10 := Lib.hid hown10; have HG10 := Lib.hid hgrow10; clear hown10 hgrow10 tok9; obtain ⟨hx10, A10, c10, hv10, hs10⟩ := cat_end HO9.out HG9.out HO10.out HG10.out; have HW10 := Lib.hid (HW8.out.trans hx10); have HX10 := Lib.hid hx10; have HS10 := Lib.hid hs10; rw [hv10]; clear hx10 hs10 hv10 HO9 HG9 HO10 HG10) | (at_builtin; have _t := tok10; refine wpList_app _ rfl _ _ 23 rfl w10.heap.size 9 i0 _ 16 Try.underlying23 hi hz0 hz1 hz2 rfl _ 0 [] rfl (own_empty w10 9) _ m _ _ rfl ((H2.out.ext (HW10.out.alloc _))) (string_one _) (by unfold maxLen; omega) (by omega) (by simp) ?_; intro v11 w11 hown11 hgrow11; have HO11 := Lib.hid hown11; have HG11 := Lib.hid hgrow11; clear hown11 hgrow11 tok10) | (at_builtin; have _t := tok11; refine wpList_app _ rfl _ _ 23 rfl w10.heap.size 9 i0 _ 16 Try.underlying23 hi hz0 hz1 hz2 rfl _ (0 + m) ([] ++ ys.map Value.string) rfl HO11.out _ k _ _ rfl ((H3.out.ext (HW10.out.trans (cat_mid HG11.out).1))) (string_one _) (by unfold maxLen; omega) (by omega) ((cat_mid HG11.out).2) ?_; intro v12 w12 hown12 hgrow12; have HO12 := Lib.hid hown12; have HG12 := Lib.hid hgrow12; clear hown12 hgrow12 tok11; obtain ⟨hx12, A12, c12, hv12, hs12⟩ := cat_end HO11.out HG11.out HO12.out HG12.out; have HW12 := Lib.hid (HW10.out.trans hx12); have HX12 := Lib.hid hx12; have HS12 := Lib.hid hs12; rw [hv12]; clear hx12 hs12 hv12 HO11 HG11 HO12 HG12))
    have h2 := dist_any (xs ++ zs) (ys ++ zs) A10 A12 (n + k) (m + k) c10 c12 w12 (HS10.out.ext HX12.out) HS12.out HN.out.2.2.2.2.2.1 HN.out.2.2.2.2.2.2.1
    rw [HQ2.out] at h2
    with_reducible refine h2.mono ?_
    clear h2
    rintro e w13 ⟨rfl, hw13⟩
    have HW13 := Lib.hid (HW12.out.trans hw13)
    clear hw13
    by_cases hk0 : k = 0
    · have hkb : ((k : Int) == 0) = true := by simp [hk0]
      clear hk0
      go_wp2
      go_ret
      exact ⟨rfl, HW13.out⟩
    · have hkb : ((k : Int) == 0) = false := by simp; omega
      have hk1 : 0 < k := by omega
      clear hk0
      obtain ⟨ad, z, rfl, hzx, hzc, hzo⟩ := (H3.out.ext HW13.out).at_mapB hk1
      have hz0' : (ad.add 0) = ad := rfl
      rw [hz0'] at hzc hzo
      have HZX := Lib.hid hzx
      obtain ⟨u1, u2⟩ := HQ8.out z
      have u3 : dst (xs ++ [z]) ys (n + 1) m ≤ 82 := by have := dst_bound (xs ++ [z]) ys (n + 1) m; omega
      clear hzx hz0'
      go_wp2_with fail
      go_region_law (first | (have _t := tok14; refine step_app _ rfl _ _ 23 rfl w13.heap.size 9 i0 _ 16 Try.underlying23 hi hz0 hz1 hz2 rfl _ 0 [] rfl ((own_empty w13 9).drew) _ n _ _ rfl (H1.out.ext ((HW13.out.alloc _).drew)) (string_one _) (by unfold maxLen; omega) (by omega) (by simp; try omega) ?_; intro v14 w14 hown14 hgrow14; have HX14 := Lib.hid (ext_grown (a := w13) (((Ext.refl w13).alloc (.cells #[] 9)).drew) ((own_empty w13 9).drew) (Nat.le_refl _) hgrow14); have hc14 : w14.cell? ad = some (.string z) := (cell_mid HX14.out hzc); have HO14 := Lib.hid hown14; clear hown14 hgrow14 tok14) | (have _t := tok14; refine step_app _ rfl _ _ 23 rfl w13.heap.size 9 i0 _ 16 Try.underlying23 hi hz0 hz1 hz2 rfl _ 0 [] rfl (((own_empty w13 9).alloc _).drew) _ n _ _ rfl (H1.out.ext (((HW13.out.alloc _).alloc _).drew)) (string_one _) (by unfold maxLen; omega) (by omega) (by simp; try omega) ?_; intro v14 w14 hown14 hgrow14; have HX14 := Lib.hid (ext_grown (a := w13) ((((Ext.refl w13).alloc (.cells #[] 9)).alloc (.cells #[.string z] 9)).drew) (((own_empty w13 9).alloc _).drew) (Nat.le_refl _) hgrow14); have hc14 : w14.cell? ad = some (.string z) := (cell_mid HX14.out hzc); have HZ2 := Lib.hid (one_kept (row := some w13.heap.size) hgrow14 (two_new w13 _ _) (by simp)); have HO14 := Lib.hid hown14; clear hown14 hgrow14 tok14) | (have _t := tok14; refine step_app _ rfl _ _ 23 rfl w13.heap.size 9 i0 _ 16 Try.underlying23 hi hz0 hz1 hz2 rfl _ 0 [] rfl (own3 w13 _) _ n _ _ rfl (H1.out.ext (((HW13.out.alloc _).alloc _).drew)) (string_one _) (by unfold maxLen; omega) (by omega) (by simp; try omega) ?_; intro v14 w14 hown14 hgrow14; have HX14 := Lib.hid (ext_grown (a := w13) ((((Ext.refl w13).alloc (.cells #[.string z] 9)).alloc (.cells #[] 9)).drew) (own3 w13 _) (Nat.le_refl _) hgrow14); have hc14 : w14.cell? ad = some (.string z) := (cell_mid HX14.out hzc); have HZ3 := Lib.hid (one_kept (row := some (w13.heap.size + 1)) hgrow14 (two_old w13 _ _) (by simp)); have HO14 := Lib.hid hown14; clear hown14 hgrow14 tok14) | (have _t := tok15; refine step_app _ rfl _ _ 23 rfl w13.heap.size 9 i0 _ 16 Try.underlying23 hi hz0 hz1 hz2 rfl _ (0 + n) _ rfl HO14.out _ 1 _ _ rfl HZ2.out (by simp [Value.oneCell']) (by unfold maxLen; omega) (by omega) (by have := Ext.size HX14.out; simp; omega) ?_; intro v15 w15 hown15 hgrow15; have HX15 := Lib.hid (ext_grown (a := w13) (HX14.out) HO14.out (Nat.le_refl _) hgrow15); obtain ⟨A15, c15, hv15, hs15, _⟩ := own_sl hown15; rw [hv15, Nat.zero_add]; have HS15 := Lib.hid (more_sl hs15); clear hown15 hgrow15 hs15 hv15 tok15) | (have _t := tok15; refine step_app _ rfl _ _ 23 rfl w13.heap.size 9 i0 _ 16 Try.underlying23 hi hz0 hz1 hz2 rfl _ (0 + n) _ rfl HO14.out _ 1 _ _ rfl HZ3.out (by simp [Value.oneCell']) (by unfold maxLen; omega) (by omega) (by have := Ext.size HX14.out; simp; omega) ?_; intro v15 w15 hown15 hgrow15; have HX15 := Lib.hid (ext_grown (a := w13) (HX14.out) HO14.out (Nat.le_refl _) hgrow15); obtain ⟨A15, c15, hv15, hs15, _⟩ := own_sl hown15; rw [hv15, Nat.zero_add]; have HS15 := Lib.hid (more_sl hs15); clear hown15 hgrow15 hs15 hv15 tok15) | (have _t := tok15; refine step_app _ rfl _ _ 23 rfl w13.heap.size 9 i0 _ 16 Try.underlying23 hi hz0 hz1 hz2 rfl _ (0 + n) _ rfl (HO14.out.alloc _) _ 1 _ _ rfl (Sl.one w14 _ _) (by simp [Value.oneCell']) (by unfold maxLen; omega) (by omega) (by have := Ext.size HX14.out; simp; omega) ?_; intro v15 w15 hown15 hgrow15; have HX15 := Lib.hid (ext_grown (a := w13) (HX14.out.alloc _) (HO14.out.alloc _) (Nat.le_refl _) hgrow15); obtain ⟨A15, c15, hv15, hs15, _⟩ := own_sl hown15; rw [hv15, Nat.zero_add]; have HS15 := Lib.hid (more_sl hs15); clear hown15 hgrow15 hs15 hv15 tok15) | (go_simp; go_at_call 16; have h2 := dist_any (xs ++ [z]) ys A15 B (n + 1) m c15 cb w15 HS15.out (H2.out.ext (HW13.out.trans HX15.out)) HN.out.2.2.2.2.2.2.2 HN.out.2.1; with_reducible refine h2.mono ?_; clear h2; rintro e w16 ⟨rfl, hw16⟩; have HW16 := Lib.hid ((HW13.out.trans HX15.out).trans hw16); clear hw16))
      all_goals go_wp2
      all_goals (go_ret; exact ⟨ret_bool (by first | (simp; omega) | (exfalso; omega)), HW16.out⟩)

set_option maxRecDepth 100000 in
theorem distanceGrows_lifted (os : Os) (started : os.Started) (H : Type) (enc : TypeId × Value → H) :
    ReturnsInHanded {} Try.checked os 7 .any (Rows.distanceGrowsSpec.pre6 enc Try.prog Try.f7 Rows.distanceGrowsRow.domain false) (Rows.distanceGrowsSpec.post enc Try.prog Try.f7 false true false false) := by
  refine returnsInHanded_of_change (C := Try.checked) (show ownKnob Try.prog.godebug = none by kernel_rfl) started (by kernel_rfl) Try.func7
    (ChangeSpec.witness6 (enc := enc) (C := Try.checked) false ⟨#[], #[.slice none 0 0, .slice none 0 0, .slice none 0 0], []⟩ 8 (by kernel_rfl) (by kernel_rfl) (by kernel_rfl) (by kernel_rfl)) ?_
  intro W base args ds gs before hval0 hW hcnd _
  have hval : ∀ (j : Nat) t v, Try.f7.params[j]? = some t → args[j]? = some v → Value.okWide Try.prog W .any base t v := hval0
  have hW' := hW
  obtain ⟨p, q, hA0, hV, rfl, hfz, hnd⟩ := hW
  have hA : DataW.TrodAll enc Try.prog W 0 (fun _ => true) true Try.f7.params.toList args.toList ds p := hA0
  rw [Try.params7] at hA hval
  obtain ⟨v0, v1, v2, d0, d1, d2, p0, p1, p2, rfl, rfl, rfl, h0, h1, h2⟩ := trodAll_three hA
  obtain ⟨A, n, ca, xs, rfl, hsA, hn⟩ := open_strs Try.underlying23 Try.underlying9 (by kernel_rfl) (okWide_slice Try.underlying23 (hval 0 23 v0 rfl rfl)) h0
  obtain ⟨B, m, cb, ys, rfl, hsB, hm⟩ := open_strs Try.underlying23 Try.underlying9 (by kernel_rfl) (okWide_slice Try.underlying23 (hval 1 23 v1 rfl rfl)) h1
  obtain ⟨C, k, cc, zs, rfl, hsC, hk⟩ := open_strs Try.underlying23 Try.underlying9 (by kernel_rfl) (okWide_slice Try.underlying23 (hval 2 23 v2 rfl rfl)) h2
  have hc : Calls Try.prog 7 #[.slice A n ca, .slice B m cb, .slice C k cc] W (RetTrue W) := by
    by_cases c1 : n ≤ 40 ∧ m ≤ 40 ∧ k ≤ 40
    · exact grows_few xs ys zs A B C n m k ca cb cc W hsA hsB hsC c1.1 c1.2.1 c1.2.2
    · exact grows_big A B C n m k ca cb cc W c1
  refine hc.mono fun e W' ⟨he, hw⟩ => ?_
  subst he
  exact ⟨_, rfl, law_post (t := 4) (show laidOutB Try.prog = true by kernel_rfl) (by rw [Try.params7]; intro t ht; simp at ht; subst ht; exact ⟨by kernel_rfl, of_decide_eq_true (by kernel_rfl)⟩) rfl Try.underlying4 rfl ⟨rfl, rfl, rfl⟩ hW' hw⟩

theorem distanceGrows_holds : Rows.DistanceGrowsSaid :=
  OpenClaim.holds_of_wide 7 Try.f7 rfl rfl rfl rfl rfl rfl rfl ⟨rfl, rfl, rfl, rfl, rfl⟩ rfl rfl rfl rfl rfl (by kernel_rfl) Try.func7 (by kernel_rfl)
    (of_decide_eq_true (by kernel_rfl)) (by unfold Func.isWrapper; first | (rw [if_pos (by decide +kernel)]; kernel_rfl) | (rw [if_neg (by decide +kernel)]; exact ⟨rfl, rfl⟩))
    (fun os started H enc _ => distanceGrows_lifted os started H enc)

end Go.Proofs.Ytgjfjibaoehmpaa
