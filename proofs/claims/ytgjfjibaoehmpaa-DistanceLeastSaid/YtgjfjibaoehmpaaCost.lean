import Derived.Test.YtgjfjibaoehmpaaProg
import Derived.Test.YtgjfjibaoehmpaaAlign
namespace Go.Proofs.Ytgjfjibaoehmpaa
open Go.RowKit

set_option maxHeartbeats 8000000 in
set_option maxRecDepth 100000 in
theorem cost_any (xs ys : List ByteArray) (l : List (Int × Int)) (A B C : Option Addr) (n m ca cb cc : Nat) (w : World) (hA : Sl w A n (xs.map .string)) (hB : Sl w B m (ys.map .string))
    (hC : StepsAt w C l) (hn : n ≤ 400) (hm : m ≤ 400) (hl : l.length ≤ 65536) :
    Calls Try.prog 22 #[.slice A n ca, .slice B m cb, .slice C l.length cc] w (RetCost w (costF (eqAt xs ys) n m l 0 0 0)) := by
  have H1 := Lib.hid hA
  have H2 := Lib.hid hB
  have H3 := Lib.hid hC
  clear hA hB hC
  go_enter Try.func22, Try.ntmps22
  go_wp2
  go_loopw [8, 9, 10, 15] (CostInv w (eqAt xs ys) n m l) (fun _ _ _ j _ => l.length - (intOf j).toNat)
  case atStart => exact ⟨0, 0, 0, 0, Nat.zero_le _, Nat.zero_le _, Nat.zero_le _, Nat.le_refl _, rfl, rfl, rfl, rfl, rfl, Ext.refl _⟩
  case round =>
    obtain ⟨i, k, c, j, hi, hk, hj, hc, rfl, rfl, rfl, rfl, hz, hw⟩ := hrel
    have HZ := Lib.hid hz
    have HW := Lib.hid hw
    clear hz hw
    by_cases hlt : j < l.length
    · obtain ⟨b, o, rfl, hbs, hx, hy⟩ := (H3.out.ext HW.out) j hlt
      rw [← Nat.add_assoc] at hy
      have HQ := Lib.hid (costF_at (E := eqAt xs ys) (n := n) (m := m) (i := i) (k := k) (c := c) hlt)
      generalize l[j].1 = av at hx HQ
      generalize l[j].2 = bv at hy HQ
      by_cases h1 : av = i ∧ bv = k ∧ i < n ∧ k < m
      · obtain ⟨rfl, rfl, hin, hkm⟩ := h1
        have hq1 := HQ.out
        rw [if_pos ⟨rfl, rfl, hin, hkm⟩] at hq1
        have HQ1 := Lib.hid hq1
        clear hq1 HQ
        obtain ⟨ad, x, rfl, hu, hxc, hxo⟩ := (H1.out.ext HW.out).at_mapB hin
        obtain ⟨bd, y, rfl, hv, hyc, hyo⟩ := (H2.out.ext HW.out).at_mapB hkm
        have HU := Lib.hid hu
        have HV := Lib.hid hv
        clear hu hv
        by_cases hxy : x = y
        · subst hxy
          have hb : (!x.toList == x.toList) = false := by simp
          go_wp2_with fail
          go_quiet (fail)
          all_goals go_wp2
          refine ⟨⟨i + 1, k + 1, c, j + 1, hin, hkm, hlt, by omega, by go_num, by go_num, rfl, by go_num, ?_, by first | exact (HW.out.alloc _).drewN _ | exact (HW.out.drewN _).alloc _⟩, by simp [intOf]; omega⟩
          rw [← HZ.out, HQ1.out, if_pos (by unfold eqAt; rw [HU.out, HV.out]; simp)]
        · have hb : (!x.toList == y.toList) = true := by rw [bytes_ne hxy]; rfl
          have HXY := Lib.hid hxy
          clear hxy
          go_wp2_with fail
          go_quiet (fail)
          all_goals go_wp2
          refine ⟨⟨i + 1, k + 1, c + 1, j + 1, hin, hkm, hlt, by omega, by go_num, by go_num, by go_num, by go_num, ?_, by first | exact (HW.out.alloc _).drewN _ | exact (HW.out.drewN _).alloc _⟩, by simp [intOf]; omega⟩
          rw [← HZ.out, HQ1.out, if_neg (by unfold eqAt; rw [HU.out, HV.out]; simp [HXY.out])]
      · by_cases h2 : av = i ∧ bv = -1 ∧ i < n
        · obtain ⟨rfl, rfl, hin⟩ := h2
          have hkb : ((-1 : Int) == (k : Int)) = false := by first | (simp; done) | (simp; omega)
          have hq1 := HQ.out
          rw [if_neg h1, if_pos ⟨rfl, rfl, hin⟩] at hq1
          have HQ1 := Lib.hid hq1
          clear h1 hq1 HQ
          go_wp2
          refine ⟨⟨i + 1, k, c + 1, j + 1, hin, hk, hlt, by omega, by go_num, rfl, by go_num, by go_num, ?_, HW.out.alloc _⟩, by simp [intOf]; omega⟩
          rw [← HZ.out, HQ1.out]
        · by_cases h3 : av = -1 ∧ bv = k ∧ k < m
          · obtain ⟨rfl, rfl, hkm⟩ := h3
            have hib : ((-1 : Int) == (i : Int)) = false := by first | (simp; done) | (simp; omega)
            have hq1 := HQ.out
            rw [if_neg h1, if_neg h2, if_pos ⟨rfl, rfl, hkm⟩] at hq1
            have HQ1 := Lib.hid hq1
            clear h1 h2 hq1 HQ
            go_wp2
            refine ⟨⟨i, k + 1, c + 1, j + 1, hi, hkm, hlt, by omega, rfl, by go_num, by go_num, by go_num, ?_, HW.out.alloc _⟩, by simp [intOf]; omega⟩
            rw [← HZ.out, HQ1.out]
          · have HN : Hid (costF (eqAt xs ys) n m l 0 0 0 = none) := by
              have h4 := HQ.out
              rw [if_neg h1, if_neg h2, if_neg h3] at h4
              exact HZ.out.symm.trans h4
            go_wp2
            all_goals (go_ret2; rw [HN.out]; exact ⟨rfl, HW.out.alloc _⟩)
    · have hn1 : costF (eqAt xs ys) n m l 0 0 0 = if i = n ∧ k = m then some c else none := by
        rw [← HZ.out, costF_end (by omega)]
      have HN := Lib.hid hn1
      clear hn1
      go_wp2
      · go_ret2
        rw [HN.out, if_neg (by omega)]
        exact ⟨rfl, HW.out⟩
      · go_ret2
        rw [HN.out, if_pos (by omega)]
        exact ⟨rfl, HW.out⟩
      · go_ret2
        rw [HN.out, if_neg (by omega)]
        exact ⟨rfl, HW.out⟩

end Go.Proofs.Ytgjfjibaoehmpaa
