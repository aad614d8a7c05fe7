import Derived.Test.YtehcldnicefmeaaGreatDoorNXA
import Derived.Test.YtehcldnicefmeaaGreatDoorTPar
import Derived.Test.YtehcldnicefmeaaGreatDoorNX7
import Derived.Test.YtehcldnicefmeaaGreatDoorNX4
import Derived.Test.YtehcldnicefmeaaGreatDoorTOrd
namespace Go.Proofs.YtehcldnicefmeaaGreatDoor
open Go.RowKit
set_option linter.unusedSimpArgs false
set_option linter.unusedVariables false

/-! The requested and the supported tags, by the program. -/
def PrInvT (W1 : World) (T : List TagP) (m : Nat) (X Y a b i : Value) (wr : World) : Prop :=
  ∃ k : Nat, a = X ∧ b = Y ∧ k ≤ m ∧ i = .int .i64 k ∧ apartT (T.take k) = true ∧ MapS Tryz.prog 9 4 wr W1.heap.size k ((T.take k).map textP) ∧ Ext W1 wr
theorem text_new (S : List TagP) (x : TagP) : decide (textP x ∈ S.map textP) = !newT S x := by
  unfold newT
  rw [Bool.eq_iff_iff]
  simp only [decide_eq_true_eq, List.mem_map, Bool.not_eq_true', List.all_eq_false, Bool.not_eq_true, Bool.not_eq_false', Bool.not_eq_false, beq_iff_eq]
theorem TV.x_size {x : TV} (h : GoodT x.t) : x.x.size ≤ 60 := by
  have h1 := textP_len h.2.2
  rw [← TV.x_data] at h1
  exact h1
theorem apart_new {S : List TagP} {k : Nat} {x : TagP} (hx : S[k]? = some x) (h : newT (S.take k) x = false) : apartT S = false := by
  unfold newT at h
  rw [List.all_eq_false] at h
  obtain ⟨y, hy, h⟩ := h
  obtain ⟨j, hj⟩ := List.getElem?_of_mem hy
  rw [List.getElem?_take] at hj
  split at hj
  · next hjk => exact apart_bad hj hx hjk (by simpa using h)
  · cases hj

set_option maxHeartbeats 4000000 in
set_option maxRecDepth 100000 in
theorem tprep_any (l : List Nr) (L : Option Addr) (ln lc : Nat) (R S : List ByteArray) (A B : Option Addr) (n c m d : Nat) (w : World) (hmx : Mx w) (hL : Nrs w L ln l) (hln : ln ≤ maxLen) (hz : ∀ x ∈ l, x.f.size ≤ 1000000 ∧ x.o.size ≤ 1000000)
    (hA : Sl w A n (R.map .string)) (hB : Sl w B m (S.map .string)) (hn : n ≤ 100000) (hm : m ≤ 100000) (hR : ∀ s ∈ R, s.size ≤ 60000) (hS : ∀ s ∈ S, s.size ≤ 60000) :
    Calls Tryz.prog 98 #[.slice L ln lc, .slice A n c, .slice B m d] w (RetBoth w (l.map nearOf) (dl R) (dl S)) := by
  have G1 := fun W (h : Ext w W) => tvalN_any l L ln lc W (hL.ext h) hln hz
  have K2 := Lib.hid (fun W (h : Ext w W) => ttags_any R A n c W (hmx.ext h) (hA.ext h) hn hR)
  have K3 := Lib.hid (fun W (h : Ext w W) => ttags_any S B m d W (hmx.ext h) (hB.ext h) hm hS)
  have hSl : S.length = m := by have := hB.1; simpa using this
  have HS := Lib.hid hSl
  have hmm := @run_makeMap Tryz.prog
  clear hL hA hB hSl
  cases hv : validN (l.map nearOf) with
  | false =>
    rw [hv] at G1
    have K1 := Lib.hid G1
    have HD2 := Lib.hid (show bothL EC (l.map nearOf) (dl R) (dl S) = (([], []), 1) from by unfold bothL; rw [if_neg (by rw [hv]; decide)])
    clear G1 hv
    go_enter Tryz.func98, Tryz.ntmps98
    go_wp2_with fail
    refine (K1.out _ (Ext.refl _)).mono ?_
    rintro e w1 ⟨rfl, hw1⟩
    have HW1 := Lib.hid hw1
    clear hw1
    go_wp2
    go_ret3
    exact both_none HD2.out HW1.out
  | true =>
    rw [hv] at G1
    have K1 := Lib.hid G1
    have HV := Lib.hid hv
    clear G1 hv
    go_enter Tryz.func98, Tryz.ntmps98
    go_wp2_with fail
    refine (K1.out _ (Ext.refl _)).mono ?_
    rintro e w1 ⟨rfl, hw1⟩
    have HW1 := Lib.hid hw1
    clear hw1
    go_wp2_with fail
    refine (K2.out _ HW1.out).mono ?_
    rintro e w2 ⟨A2, n2, c2, xs, rfl, htg, hmap, hw2⟩
    have HW2 := Lib.hid (HW1.out.trans hw2)
    have HTG := Lib.hid htg
    have HMAP := Lib.hid hmap
    clear hw2 htg hmap
    by_cases h0 : (readP EC (dl R)).2 = 0
    rotate_left
    · have hnz : ((readP EC (dl R)).2 == 0) = false := by simpa using h0
      have HD2 := Lib.hid (show bothL EC (l.map nearOf) (dl R) (dl S) = (([], []), (readP EC (dl R)).2) from by unfold bothL; rw [if_pos HV.out, if_neg h0])
      go_wp2
      go_ret3
      exact both_none HD2.out HW2.out
    have h0' : ((readP EC (dl R)).2 == 0) = true := by simpa using h0
    go_wp2_with fail
    refine (K3.out _ HW2.out).mono ?_
    rintro e w3 ⟨B2, m2, d2, ys, rfl, htg3, hmap3, hw3⟩
    have HW3 := Lib.hid (HW2.out.trans hw3)
    have HTX := Lib.hid (HTG.out.ext hw3)
    have HTY := Lib.hid htg3
    have HMAPY := Lib.hid hmap3
    clear hw3 htg3 hmap3
    by_cases h1 : (readP EC (dl S)).2 = 0
    rotate_left
    · have hnz : ((readP EC (dl S)).2 == 0) = false := by simpa using h1
      have HD2 := Lib.hid (show bothL EC (l.map nearOf) (dl R) (dl S) = (([], []), (readP EC (dl S)).2) from by unfold bothL; rw [if_pos HV.out, if_pos h0, if_neg h1])
      go_wp2
      go_ret3
      exact both_none HD2.out HW3.out
    have h1' : ((readP EC (dl S)).2 == 0) = true := by simpa using h1
    have h1'' : ((readP EC (dl S)).2 != 0) = false := by simp [h1]
    have HH0 := Lib.hid h0
    have HH1 := Lib.hid h1
    have hgood : ∀ x ∈ ys, GoodV w3 x := fun x hx => ⟨read_good (l := dl S) (by rw [← HMAPY.out]; exact List.mem_map.2 ⟨x, hx, rfl⟩), HTY.out.2 x hx⟩
    have HG := Lib.hid hgood
    have hylen := HTY.out.len
    have hm2 : m2 ≤ 100000 := by
      have h := congrArg List.length HMAPY.out
      rw [read_eq h1, List.length_map, List.length_map] at h
      have h2 : (dl S).length = S.length := by simp [dl]
      have h3 := HS.out
      omega
    clear h0 h1 hgood
    go_wp2_with fail
    go_loopw [6, 7, 34] (PrInvT w3 (ys.map (·.t)) m2 (.slice A2 n2 c2) (.slice B2 m2 d2)) (fun _ _ i _ => m2 - (intOf i).toNat)
    case atStart => exact ⟨0, rfl, rfl, Nat.zero_le _, rfl, rfl, MapS.made _ _ _ _, (Ext.refl w3).alloc _⟩
    case round =>
      obtain ⟨k, rfl, rfl, hk, rfl, hap, hms, hw⟩ := hrel
      have HAP := Lib.hid hap
      have HMS := Lib.hid hms
      have HWR := Lib.hid hw
      clear hap hms hw
      by_cases hkn : k < m2
      · obtain ⟨x, hx⟩ : ∃ x, ys[k]? = some x := ⟨_, List.getElem?_eq_getElem (by omega)⟩
        have HX := Lib.hid (map_tv hx)
        have hkI : (k : Int) < (m2 : Int) := by omega
        obtain ⟨bb, oo, rfl⟩ := HTY.out.some_ hx
        have gx := HG.out x (List.mem_of_getElem? hx)
        have hsx := TV.x_size gx.1
        have HXS := Lib.hid (show x.x.size ≤ maxLen from by unfold maxLen; omega)
        have KT := Lib.hid (fun W (h : Ext w3 W) => ttext_tv x W (gx.ext h))
        have a0 := HTY.out.c0 hx wr HWR.out
        have a1 := HTY.out.c1 hx wr HWR.out
        have a2 := HTY.out.c2 hx wr HWR.out
        have a3 := HTY.out.c3 hx wr HWR.out
        have HTN := Lib.hid (text_new ((ys.map (·.t)).take k) x.t)
        have HXD := Lib.hid (TV.x_data x)
        clear hx gx hsx
        cases hnew : newT ((ys.map (·.t)).take k) x.t with
        | false =>
          have HD2 := Lib.hid (show bothL EC (l.map nearOf) (dl R) (dl S) = (([], []), 9) from by
            have hbad : apartT (readP EC (dl S)).1 = false := by
              rw [← HMAPY.out]
              exact apart_new HX.out hnew
            unfold bothL; rw [if_pos HV.out, if_pos HH0.out, if_pos HH1.out, if_neg (by rw [hbad]; decide)])
          go_wp2_with fail
          refine (KT.out _ (HWR.out.alloc _)).mono ?_
          rintro e w4 ⟨rfl, hw4⟩
          have hlk := MapS.lookup ((HMS.out.alloc _).ext hw4) Tryz.underlying9 Tryz.underlying4 Tryz.underlying137 (by kernel_rfl) x.x HXS.out
          rw [HXD.out, HTN.out, hnew] at hlk
          simp only [Bool.not_false] at hlk
          have HW4 := Lib.hid (HW3.out.trans ((HWR.out.alloc _).trans hw4))
          clear hw4 hnew
          go_wp2
          all_goals go_ret3
          exact both_none HD2.out HW4.out
        | true =>
          have HNX := Lib.hid (show apartT ((ys.map (·.t)).take (k + 1)) = true from by rw [apart_next HX.out, HAP.out, hnew]; rfl)
          go_wp2_with fail
          refine (KT.out _ (HWR.out.alloc _)).mono ?_
          rintro e w4 ⟨rfl, hw4⟩
          have hlk := MapS.lookup ((HMS.out.alloc _).ext hw4) Tryz.underlying9 Tryz.underlying4 Tryz.underlying137 (by kernel_rfl) x.x HXS.out
          rw [HXD.out, HTN.out, hnew] at hlk
          simp only [Bool.not_true] at hlk
          have hat := (AtC.new wr #[.string x.l, .string x.s, .string x.r, .slice x.A x.n x.c] : AtC 159 _ _ _).ext hw4
          have q0 := hat.cell 0 _ rfl
          have q1 := hat.cell 1 _ rfl
          have q2 := hat.cell 2 _ rfl
          have q3 := hat.cell 3 _ rfl
          have HW4 := Lib.hid ((HWR.out.alloc (.cells #[.string x.l, .string x.s, .string x.r, .slice x.A x.n x.c] 159)).trans hw4)
          have HM4 := Lib.hid ((HMS.out.alloc (.cells #[.string x.l, .string x.s, .string x.r, .slice x.A x.n x.c] 159)).ext hw4)
          clear hw4 hnew hat a0 a1 a2 a3
          go_wp2_with fail
          refine (KT.out _ HW4.out).mono ?_
          rintro e w5 ⟨rfl, hw5⟩
          have HW5 := Lib.hid (HW4.out.trans hw5)
          have HM5 := Lib.hid (HM4.out.ext hw5)
          clear hw5 hlk q0 q1 q2 q3
          go_wp2_with (at_mapUpdate; refine wpList_mapUpdateS rfl _ _ _ 137 9 4 rfl Tryz.underlying9 Tryz.underlying4 Tryz.underlying137 w3.heap.size k _ rfl HM5.out (by unfold maxLen; omega) x.x rfl rfl HXS.out ?_; intro w6 hm6 hg6; have HM6 := Lib.hid hm6; have HG6 := Lib.hid hg6; clear hm6 hg6)
          refine ⟨⟨k + 1, rfl, rfl, by omega, by go_num, HNX.out, ?_, HW5.out.grown HG6.out (fun q hq => by injection hq with hq; omega)⟩, by simp [intOf]; omega⟩
          have h := HM6.out
          rw [take_next HX.out, List.map_append, List.map_singleton, ← HXD.out]
          exact h
      · have hkk : k = m2 := by omega
        subst hkk
        have hap : apartT (readP EC (dl S)).1 = true := by
          have h := HAP.out
          rw [List.take_of_length_le (by rw [List.length_map]; omega), HMAPY.out] at h
          exact h
        have HD2 := Lib.hid (both_of HV.out HH0.out HH1.out hap)
        clear hap
        go_wp2
        go_ret3
        exact ⟨A2, n2, c2, xs, B2, k, d2, ys, by rw [HD2.out]; rfl, HTX.out.ext HWR.out, HTY.out.ext HWR.out, by rw [HD2.out]; exact HMAP.out, by rw [HD2.out]; exact HMAPY.out, HW3.out.trans HWR.out⟩
end Go.Proofs.YtehcldnicefmeaaGreatDoor
namespace Go.Proofs.YtehcldnicefmeaaGreatDoor
open Go.RowKit
set_option linter.unusedSimpArgs false
set_option linter.unusedVariables false

/-! The best one, by the program. -/
def BtInv (w : World) (l : List NearP) (T S : List TagP) (n : Nat) (best i : Value) (wr : World) : Prop := ∃ k : Nat, k ≤ n ∧ i = .int .i64 k ∧ best = .int .i64 (-1) ∧ bestL l (T.take k) S = none ∧ Ext w wr

set_option maxHeartbeats 8000000 in
set_option maxRecDepth 100000 in
theorem tbest_any (l : List Nr) (L : Option Addr) (ln lc : Nat) (R S : List ByteArray) (A B : Option Addr) (n c m d : Nat) (w : World) (hmx : Mx w) (hL : Nrs w L ln l) (hln : ln ≤ maxLen) (hz : ∀ x ∈ l, x.f.size ≤ 1000000 ∧ x.o.size ≤ 1000000)
    (hA : Sl w A n (R.map .string)) (hB : Sl w B m (S.map .string)) (hn : n ≤ 100000) (hm : m ≤ 100000) (hR : ∀ s ∈ R, s.size ≤ 60000) (hS : ∀ s ∈ S, s.size ≤ 60000) :
    Calls Tryz.prog 67 #[.slice L ln lc, .slice A n c, .slice B m d] w fun e w' => e = .returned (.tuple #[.int .i64 (bestR EC (l.map nearOf) (dl R) (dl S)).1, .int .i64 (bestR EC (l.map nearOf) (dl R) (dl S)).2]) ∧ Ext w w' := by
  obtain ⟨D, hD⟩ : ∃ D, D = bestR EC (l.map nearOf) (dl R) (dl S) := ⟨_, rfl⟩
  rw [← hD]
  have K1 := Lib.hid (tprep_any l L ln lc R S A B n c m d w hmx hL hln hz hA hB hn hm hR hS)
  have hRl : (dl R).length = n := by have := hA.1; unfold dl; simpa using this
  have hSl : (dl S).length = m := by have := hB.1; unfold dl; simpa using this
  have HD := Lib.hid hD
  have HL := Lib.hid hL
  have HN := Lib.hid hln
  have HLEN := Lib.hid (And.intro hRl hSl)
  clear hD hL hA hB hRl hSl hz hR hS
  go_enter Tryz.func67, Tryz.ntmps67
  go_wp2_with fail
  go_step3
  go_wp2_with fail
  refine K1.out.mono ?_
  rintro e w1 ⟨A2, n2, c2, xs, B2, m2, d2, ys, rfl, htx, hty, hmx, hmy, hw1⟩
  have HTX := Lib.hid htx
  have HTY := Lib.hid hty
  have HMX := Lib.hid hmx
  have HMY := Lib.hid hmy
  have HW1 := Lib.hid hw1
  clear htx hty hmx hmy hw1 K1
  by_cases h0 : (bothL EC (l.map nearOf) (dl R) (dl S)).2 = 0
  rotate_left
  · have hnz : ((bothL EC (l.map nearOf) (dl R) (dl S)).2 == 0) = false := by simpa using h0
    have HD2 := Lib.hid (HD.out.trans (bestR_bad h0))
    go_wp2
    rw [Exit.noGoto_ret]
    go_ret2
    exact ⟨by rw [HD2.out]; rfl, HW1.out⟩
  have h0' : ((bothL EC (l.map nearOf) (dl R) (dl S)).2 == 0) = true := by simpa using h0
  have h0'' : ((bothL EC (l.map nearOf) (dl R) (dl S)).2 != 0) = false := by simp [h0]
  have HH := Lib.hid h0
  obtain ⟨hval, _, _, hapt, hbe⟩ := both_ok h0
  have hxl := HTX.out.len
  have hyl := HTY.out.len
  have hn2 : n2 ≤ 100000 := by
    have h := congrArg List.length HMX.out
    rw [(both_len h0).1, List.length_map, HLEN.out.1] at h
    omega
  have hm2 : m2 ≤ 100000 := by
    have h := congrArg List.length HMY.out
    rw [(both_len h0).2, List.length_map, HLEN.out.2] at h
    omega
  have HGX := Lib.hid (show ∀ x ∈ xs, GoodV w1 x from fun x hx => ⟨both_good h0 (.inl (by rw [← HMX.out]; exact List.mem_map.2 ⟨x, hx, rfl⟩)), HTX.out.2 x hx⟩)
  have HGY := Lib.hid (show ∀ x ∈ ys, GoodV w1 x from fun x hx => ⟨both_good h0 (.inr (by rw [← HMY.out]; exact List.mem_map.2 ⟨x, hx, rfl⟩)), HTY.out.2 x hx⟩)
  have HAP := Lib.hid (show apartT (ys.map (·.t)) = true from by rw [HMY.out, hbe]; exact hapt)
  have HC := Lib.hid (costs_of hval)
  clear h0 hval hapt hbe
  go_wp2
  go_step3
  go_wp2
  go_loopw [11, 28] (BtInv w1 (l.map nearOf) (xs.map (·.t)) (ys.map (·.t)) n2) (fun _ i _ => n2 - (intOf i).toNat)
  case atStart => exact ⟨0, Nat.zero_le _, rfl, rfl, rfl, Ext.refl _⟩
  case round =>
    obtain ⟨k, hk, rfl, rfl, hbl, hw⟩ := hrel
    have HBL := Lib.hid hbl
    have HWR := Lib.hid hw
    clear hbl hw
    by_cases hkn : k < n2
    · obtain ⟨x, hx⟩ : ∃ x, xs[k]? = some x := ⟨_, List.getElem?_eq_getElem (by omega)⟩
      have HX := Lib.hid hx
      have hkI : (k : Int) < (n2 : Int) := by omega
      obtain ⟨b1, o1, rfl⟩ := HTX.out.some_ hx
      have HGX1 := Lib.hid (HGX.out x (List.mem_of_getElem? hx))
      have a0 := HTX.out.c0 hx wr HWR.out
      have a1 := HTX.out.c1 hx wr HWR.out
      have a2 := HTX.out.c2 hx wr HWR.out
      have a3 := HTX.out.c3 hx wr HWR.out
      have HAT := Lib.hid (AtC.new wr #[.string x.l, .string x.s, .string x.r, .slice x.A x.n x.c] : AtC 159 _ _ _)
      have HWA := Lib.hid (HWR.out.alloc (.cells #[.string x.l, .string x.s, .string x.r, .slice x.A x.n x.c] 159))
      have KO := Lib.hid (fun W (h : Ext w1 W) => tord_any l L ln lc x ys B2 m2 d2 W (HL.out.ext (HW1.out.trans h)) HN.out HC.out (HGX1.out.ext h) (HTY.out.ext h) (fun y hy => (HGY.out y hy).ext h) HAP.out hm2)
      clear hx
      go_wp2_with fail
      refine (KO.out _ HWA.out).mono ?_
      rintro e w2 ⟨A4, c4, rfl, hs4, hc4, hw2⟩
      have HS4 := Lib.hid hs4
      have HW2 := Lib.hid (HWA.out.trans hw2)
      have HAT2 := Lib.hid (HAT.out.ext hw2)
      clear hs4 hw2 a0 a1 a2 a3
      rcases Nat.eq_zero_or_pos m2 with hm0 | hm0
      · subst hm0
        have hys : ys = [] := List.eq_nil_of_length_eq_zero hyl
        subst hys
        have HNX := Lib.hid ((bestL_next (map_tv HX.out) HBL.out).trans best_nil)
        go_wp2_with fail
        refine wp_region_ext (by kernel_rfl) (by kernel_rfl) ?_
        repeat (go_big_quiet_step (fail))
        refine wpQuiet_nil ?_
        intro wz hz
        have HZZ := Lib.hid (HW2.out.trans (ext_of hz))
        clear hz
        go_wp2
        exact ⟨⟨k + 1, by omega, by go_num, rfl, HNX.out, HZZ.out⟩, by simp [intOf]; omega⟩
      · obtain ⟨ad, h, hA4, hh, _⟩ := HS4.out.at_map hm0
        subst hA4
        have hol := order_len (l.map nearOf) x.t (ys.map (·.t))
        rw [List.length_map, hyl] at hol
        obtain ⟨r, hr⟩ : ∃ r, orderP (l.map nearOf) x.t (ys.map (·.t)) = h :: r := by
          cases ho : orderP (l.map nearOf) x.t (ys.map (·.t)) with
          | nil => rw [ho] at hol; simp at hol; omega
          | cons a b => rw [ho] at hh; simp at hh; subst hh; exact ⟨b, rfl⟩
        have hhd := order_head (apart_iff.1 HAP.out) hr
        have hbh := best_head (apart_iff.1 HAP.out) hr
        have hhm : h < m2 := by have := hhd.1; rw [List.length_map] at this; omega
        obtain ⟨y, hy⟩ : ∃ y, ys[h]? = some y := ⟨_, List.getElem?_eq_getElem (by omega)⟩
        rw [at_tv hy] at hbh
        have HBH := Lib.hid hbh
        obtain ⟨b2, o2, rfl⟩ := HTY.out.some_ hy
        have gy := HGY.out y (List.mem_of_getElem? hy)
        have K2 := Lib.hid (fun (v : ExtW w2) => tdist_tv l L ln lc v.v (HL.out.ext (HW1.out.trans (HW2.out.trans v.h))) HN.out HC.out x y (HGX1.out.ext (HW2.out.trans v.h)) (gy.ext (HW2.out.trans v.h)))
        have hcv : ∀ v : ExtW w2, v.v.cell? ad = some (.int .i64 (h : Int)) := fun v => by
          obtain ⟨ad', q', e1, hq', hc⟩ := (HS4.out.ext v.h).at_map hm0
          injection e1 with e1
          subst e1
          rw [hr] at hq'
          simp at hq'
          subst hq'
          have e2 : ad.add 0 = ad := by unfold Addr.add; simp
          rw [e2] at hc
          exact hc
        have a0 := fun (v : ExtW w2) => (HAT2.out.ext v.h).cell 0 _ rfl
        have a1 := fun (v : ExtW w2) => (HAT2.out.ext v.h).cell 1 _ rfl
        have a2 := fun (v : ExtW w2) => (HAT2.out.ext v.h).cell 2 _ rfl
        have a3 := fun (v : ExtW w2) => (HAT2.out.ext v.h).cell 3 _ rfl
        have e0 := fun (v : ExtW w2) => HTY.out.c0 hy v.v (HW2.out.trans v.h)
        have e1 := fun (v : ExtW w2) => HTY.out.c1 hy v.v (HW2.out.trans v.h)
        have e2 := fun (v : ExtW w2) => HTY.out.c2 hy v.v (HW2.out.trans v.h)
        have e3 := fun (v : ExtW w2) => HTY.out.c3 hy v.v (HW2.out.trans v.h)
        have hhI : (h : Int) < (m2 : Int) := by omega
        have hm0I : (0 : Int) < (m2 : Int) := by omega
        have qm0 : decide ((0 : Int) < (m2 : Int)) = true := by simpa using hm0I
        clear hh hr hhd hbh hy gy hol
        by_cases h60 : distP (l.map nearOf) x.t y.t ≤ 60
        · have hbt := HBH.out
          rw [if_pos h60] at hbt
          have hfd := bestL_found (map_tv HX.out) HBL.out hbt
          rw [HMX.out, HMY.out] at hfd
          have HD2 := Lib.hid (HD.out.trans (bestR_some HH.out hfd))
          have q60 : decide (distP (l.map nearOf) x.t y.t ≤ 60) = true := by simpa using h60
          clear hbt hfd
          generalize distP (l.map nearOf) x.t y.t = D0 at *
          go_wp2_with fail
          refine wp_region_ext (by kernel_rfl) (by kernel_rfl) ?_
          repeat (go_big_quiet_step ((go_at_call 100; with_reducible exact ExtW.call (K2.out _))))
          refine wpQuiet_nil ?_
          intro wz hz
          have HZZ := Lib.hid (HW1.out.trans (HW2.out.trans (ext_of hz)))
          have hcz := (hcv ⟨wz, ext_of hz⟩)
          simp only at hcz
          clear hz a0 a1 a2 a3 e0 e1 e2 e3 hcv
          go_wp2
          rw [Exit.noGoto_ret]
          go_ret2
          exact ⟨by rw [HD2.out]; rfl, HZZ.out⟩
        · have hbt := HBH.out
          rw [if_neg h60] at hbt
          have HNX := Lib.hid ((bestL_next (map_tv HX.out) HBL.out).trans hbt)
          have q60 : decide (distP (l.map nearOf) x.t y.t ≤ 60) = false := by simpa using h60
          clear hbt
          generalize distP (l.map nearOf) x.t y.t = D0 at *
          go_wp2_with fail
          refine wp_region_ext (by kernel_rfl) (by kernel_rfl) ?_
          repeat (go_big_quiet_step ((go_at_call 100; with_reducible exact ExtW.call (K2.out _))))
          refine wpQuiet_nil ?_
          intro wz hz
          have HZZ := Lib.hid (HW2.out.trans (ext_of hz))
          clear hz a0 a1 a2 a3 e0 e1 e2 e3 hcv
          go_wp2
          exact ⟨⟨k + 1, by omega, by go_num, rfl, HNX.out, HZZ.out⟩, by simp [intOf]; omega⟩
    · have hkk : k = n2 := by omega
      subst hkk
      have hbl := HBL.out
      rw [List.take_of_length_le (by rw [List.length_map]; omega), HMX.out, HMY.out] at hbl
      have HD2 := Lib.hid (HD.out.trans (bestR_none HH.out hbl))
      go_wp2
      go_ret2
      exact ⟨by rw [HD2.out]; rfl, HW1.out.trans HWR.out⟩
end Go.Proofs.YtehcldnicefmeaaGreatDoor
