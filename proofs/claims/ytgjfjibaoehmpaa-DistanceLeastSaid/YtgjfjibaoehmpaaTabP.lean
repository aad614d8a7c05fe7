import Derived.Test.YtgjfjibaoehmpaaProg
import Derived.Test.YtgjfjibaoehmpaaTabBase
namespace Go.Proofs.Ytgjfjibaoehmpaa
open Go.RowKit

set_option maxHeartbeats 4000000 in
set_option maxRecDepth 100000 in
theorem table_any (xs ys : List ByteArray) (A B : Option Addr) (n m ca cb : Nat) (w : World) (hA : Sl w A n (xs.map .string)) (hB : Sl w B m (ys.map .string)) (hn : n ≤ 400) (hm : m ≤ 400) :
    Calls Try.prog 26 #[.slice A n ca, .slice B m cb] w fun e w' => ∃ f, e = .returned (slc w.heap.size (n + 1)) ∧ w'.rowIs w.heap.size 46 (n + 1) f ∧ TabR w' w.heap.size w'.heap.size w.heap.size (m + 1) (n + 1) f (dst xs ys) ∧ Ext w w' := by
  have H1 := Lib.hid hA
  have H2 := Lib.hid hB
  clear hA hB
  have hmk := fun W => run_make_row' (P := Try.prog) 47 46 (.slice none 0 0) 24 Try.underlying47 (by kernel_rfl) rfl .i64 .i64 (n + 1) (by omega) (by omega) W
  have hmk2 := fun W => run_make_row' (P := Try.prog) 46 3 (.int .i64 0) 8 Try.underlying46 (by kernel_rfl) rfl .i64 .i64 (m + 1) (by omega) (by omega) W
  have ec : ((n + 1 : Nat) : Int) = (n : Int) + 1 := by omega
  have ec2 : ((m + 1 : Nat) : Int) = (m : Int) + 1 := by omega
  rw [ec] at hmk
  rw [ec2] at hmk2
  clear ec ec2
  go_enter Try.func26, Try.ntmps26
  go_wp2
  go_loopw [14] (TabInv w n m (dst xs ys)) (fun i _ => n + 1 - (intOf i).toNat)
  case atStart => exact ⟨0, _, Nat.zero_le _, rfl, World.rowIs_made _ _ _ _, fun r hr => absurd hr (by omega), (Ext.refl _).alloc _⟩
  case round =>
    obtain ⟨i, f, hi, rfl, hrow, htab, hw⟩ := hrel
    have HR := Lib.hid hrow
    have HT := Lib.hid htab
    have HW := Lib.hid hw
    clear hrow htab hw
    by_cases hlt : i < n + 1
    · have hc0 := HR.out.cell hlt
      have hf0 := HR.out.frozen i
      have hsz := HR.out.lt
      have hltI : (i : Int) < (n : Int) + 1 := by omega
      go_wp2
      obtain ⟨wo, rfl⟩ : ∃ wo : World, wo = wr := ⟨_, rfl⟩
      go_loopw [29] (RowInv w n m i wo.heap.size (fun r => if r = i then slc wo.heap.size (m + 1) else f r) (dst xs ys)) (fun k _ => m + 1 - (intOf k).toNat)
      case atStart => exact row_start HR.out HT.out HW.out
      case round =>
        obtain ⟨k, hk, rfl, hrow2, htab2, hup, hw2, hsz2⟩ := hrel
        have HR2 := Lib.hid hrow2
        have HT2 := Lib.hid htab2
        have HU2 := Lib.hid hup
        have HW2 := Lib.hid hw2
        have HS2 := Lib.hid hsz2
        clear hrow2 htab2 hup hw2 hsz2 hc0 hf0
        by_cases hk1 : k < m + 1
        · have hci : wr.cell? ⟨w.heap.size, i, none⟩ = some (.slice (some ⟨wo.heap.size, 0, none⟩) (m + 1) (m + 1)) := by
            have := HR2.out.cell hlt
            simpa [slc] using this
          have hck : wr.cell? ⟨wo.heap.size, k, none⟩ = some (.int .i64 0) := by
            have := World.rowIs.cell HU2.out hk1
            simpa using this
          have hfk := World.rowIs.frozen HU2.out k
          have hk1I : (k : Int) < (m : Int) + 1 := by omega
          by_cases hi0 : i = 0
          · have hib : ((i : Int) == 0) = true := by simp [hi0]
            have HI0 := Lib.hid hi0
            clear hi0
            go_wp2
            exact ⟨row_step hk1 HR2.out HT2.out HU2.out HW2.out HS2.out hsz _ (by rw [HI0.out, dst_zero]), by simp [intOf]; omega⟩
          · have hib : ((i : Int) == 0) = false := by simp; omega
            by_cases hk0 : k = 0
            · have hkb : ((k : Int) == 0) = true := by simp [hk0]
              have HK0 := Lib.hid hk0
              clear hk0
              go_wp2
              exact ⟨row_step hk1 HR2.out HT2.out HU2.out HW2.out HS2.out hsz _ (by rw [HK0.out, dst_left]), by simp [intOf]; omega⟩
            · have hkb : ((k : Int) == 0) = false := by simp; omega
              have hi1 : 1 ≤ i := by omega
              have hk1' : 1 ≤ k := by omega
              have hin : i - 1 < n := by omega
              have hkm : k - 1 < m := by omega
              obtain ⟨ad, x, rfl, hu, hxc⟩ := (H1.out.ext HW2.out).at_map hin
              obtain ⟨bd, y, rfl, hv, hyc⟩ := (H2.out.ext HW2.out).at_map hkm
              have HU := Lib.hid hu
              have HV := Lib.hid hv
              obtain ⟨bp, hfp, hp1, hp2, hp3, hprow⟩ := HT2.out (i - 1) (by omega)
              have hcp : wr.cell? ⟨w.heap.size, i - 1, none⟩ = some (.slice (some ⟨bp, 0, none⟩) (m + 1) (m + 1)) := by
                have h1 := HR2.out.cell (i := i - 1) (by omega)
                exact h1.trans (congrArg some hfp)
              have hcp1 := hprow.cell (i := k - 1) (by omega)
              have hcp2 := hprow.cell (i := k) hk1
              have hcp3 : wr.cell? ⟨wo.heap.size, k - 1, none⟩ = some (.int .i64 (dst xs ys i (k - 1))) := by
                have := World.rowIs.cell HU2.out (i := k - 1) (by omega)
                rw [if_pos (by omega)] at this
                exact this
              unfold cellI at hcp1 hcp2
              have b1 := dst_bound xs ys (i - 1) (k - 1)
              have b2 := dst_bound xs ys (i - 1) k
              have b3 := dst_bound xs ys i (k - 1)
              have hi2 : i - 1 < n + 1 := by omega
              have hk2 : k - 1 < m + 1 := by omega
              clear hu hv hprow hfp
              by_cases hxy : x = y
              · subst hxy
                have hb : (x.toList == x.toList) = true := by simp
                go_wp2
                go_quiet (fail)
                all_goals go_wp2
                have e1 : IntKind.i64.wrap ((i : Int) - 1) = (i : Int) - 1 := IntWalk.i64_in _ (by omega)
                have e2 : IntKind.i64.wrap ((k : Int) - 1) = (k : Int) - 1 := IntWalk.i64_in _ (by omega)
                have e3 : ((i : Int) - 1).toNat = i - 1 := by omega
                have e4 : ((k : Int) - 1).toNat = k - 1 := by omega
                have e5 : (1 : Int) ≤ (i : Int) := by omega
                have e6 : (1 : Int) ≤ (k : Int) := by omega
                have e7 : (i : Int) - 1 < (n : Int) + 1 := by omega
                have e8 : (k : Int) - 1 < (m : Int) + 1 := by omega
                refine region_tail 15 (by kernel_rfl) (by kernel_rfl) ?_
                simp only [List.take_succ_cons, List.take_zero, List.drop_succ_cons, List.drop_zero]
                repeat still_step
                refine wpStill_nil ?_
                clear e1 e2 e3 e4 e5 e6 e7 e8
                go_wp2
                exact ⟨row_stepD hk1 HR2.out HT2.out HU2.out HW2.out HS2.out hsz _ _ (by
                  have h1 := dst_eq xs ys (i - 1) (k - 1) (by rw [HU.out, HV.out])
                  rw [show i - 1 + 1 = i from by omega, show k - 1 + 1 = k from by omega] at h1
                  rw [h1]), by simp [intOf]; omega⟩
              · have hb := bytes_ne hxy
                have HXY := Lib.hid hxy
                clear hxy
                go_wp2
                go_quiet (fail)
                all_goals go_wp2
                have e1 : IntKind.i64.wrap ((i : Int) - 1) = (i : Int) - 1 := IntWalk.i64_in _ (by omega)
                have e2 : IntKind.i64.wrap ((k : Int) - 1) = (k : Int) - 1 := IntWalk.i64_in _ (by omega)
                have e3 : ((i : Int) - 1).toNat = i - 1 := by omega
                have e4 : ((k : Int) - 1).toNat = k - 1 := by omega
                have e5 : (1 : Int) ≤ (i : Int) := by omega
                have e6 : (1 : Int) ≤ (k : Int) := by omega
                have e7 : (i : Int) - 1 < (n : Int) + 1 := by omega
                have e8 : (k : Int) - 1 < (m : Int) + 1 := by omega
                refine region_tail 33 (by kernel_rfl) (by kernel_rfl) ?_
                simp only [List.take_succ_cons, List.take_zero, List.drop_succ_cons, List.drop_zero]
                repeat still_step
                refine wpStill_nil ?_
                clear e1 e2 e3 e4 e5 e6 e7 e8
                go_wp2
                exact ⟨row_stepD hk1 HR2.out HT2.out HU2.out HW2.out HS2.out hsz _ _ (by
                  have h1 := dst_ne xs ys (i - 1) (k - 1) (by
                    rw [HU.out, HV.out]
                    intro h
                    exact HXY.out (by injection h))
                  rw [show i - 1 + 1 = i from by omega, show k - 1 + 1 = k from by omega] at h1
                  rw [h1]
                  (repeat' split) <;> omega), by simp [intOf]; omega⟩
        · go_wp2
          exact ⟨row_end hlt (by omega) HR2.out HT2.out HU2.out HW2.out HS2.out hsz, by simp [intOf]; omega⟩
    · go_wp2
      go_ret
      exact ⟨f, rfl, HR.out, by obtain rfl : i = n + 1 := (by omega); exact HT.out, HW.out⟩
end Go.Proofs.Ytgjfjibaoehmpaa
