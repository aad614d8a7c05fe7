import Derived.Test.YtblkpgglkhmggaaGreatDoorSi
namespace Go.Proofs.YtblkpgglkhmggaaGreatDoor
open Go.RowKit
set_option linter.unusedSimpArgs false
set_option linter.unusedVariables false

/-! Which signature covers which, by the reference. -/
def CvO (w : World) (a b : List Ag) (n : Nat) (i : Value) (wr : World) : Prop := ∃ k : Nat, k ≤ n ∧ i = .int .i64 k ∧ (b.take k).all (fun y => a.any (acB y)) = true ∧ Ext w wr
def CvI (w : World) (a : List Ag) (y : Ag) (n : Nat) (f i : Value) (wr : World) : Prop := ∃ k : Nat, k ≤ n ∧ i = .int .i64 k ∧ f = .bool ((a.take k).any (acB y)) ∧ Ext w wr
theorem covers_eq2 (a b : List Ag) : coversA (a.map agOf) (b.map agOf) = (validA (a.map agOf) && (validA (b.map agOf) && b.all (fun y => a.any (acB y)))) := by
  rw [covers_eq]
  congr 2
  rw [Bool.eq_iff_iff]
  simp only [List.all_eq_true, Bool.not_eq_true', List.any_eq_false]
  constructor
  · intro h y hy
    have := h y hy
    simpa using this
  · intro h y hy
    have := h y hy
    simpa using this
set_option maxHeartbeats 4000000 in
set_option maxRecDepth 100000 in
theorem rcovers_any (a b : List Ag) (A B : Option Addr) (n m c d : Nat) (w : World) (hA : Ags w A n a) (hB : Ags w B m b) (hn : n ≤ maxLen) (hm : m ≤ maxLen) (hza : ∀ x ∈ a, x.n.size ≤ maxLen) (hzb : ∀ x ∈ b, x.n.size ≤ maxLen) :
    Calls Tryz.prog 32 #[.slice A n c, .slice B m d] w fun e w' => e = .returned (.bool (coversA (a.map agOf) (b.map agOf))) ∧ Ext w w' := by
  have HA := Lib.hid hA
  have HB := Lib.hid hB
  have K1 := fun W (h : Ext w W) => rvalid28_any a A n c W (HA.out.ext h) hn hza
  have K2 := fun W (h : Ext w W) => rvalid28_any b B m d W (HB.out.ext h) hm hzb
  unfold maxLen at hn hm
  have HL1 := Lib.hid hA.len
  have HL2 := Lib.hid hB.len
  obtain ⟨R, hR⟩ : ∃ R, R = coversA (a.map agOf) (b.map agOf) := ⟨_, rfl⟩
  rw [← hR]
  rw [covers_eq2] at hR
  generalize validA (a.map agOf) = v1 at K1 hR
  generalize validA (b.map agOf) = v2 at K2 hR
  have HK1 := Lib.hid K1
  have HK2 := Lib.hid K2
  have HR := Lib.hid hR
  clear hA hB hR K1 K2 hza hzb
  go_enter Tryz.func32, Tryz.ntmps32
  go_wp2_with fail
  go_loopw [5] (CvO w a b m) (fun i _ => m - (intOf i).toNat)
  case atStart => exact ⟨0, Nat.zero_le _, rfl, by simp, Ext.refl _⟩
  case round =>
    obtain ⟨k, hk, rfl, hall, hw⟩ := hrel
    obtain ⟨wo, rfl⟩ : ∃ wo : World, wo = wr := ⟨_, rfl⟩
    have HALL := Lib.hid hall
    have HWO := Lib.hid hw
    clear hall hw
    by_cases hkm : k < m
    · obtain ⟨y, hy⟩ : ∃ y, b[k]? = some y := ⟨_, List.getElem?_eq_getElem (by have := HL2.out; omega)⟩
      obtain ⟨b2, o2, rfl, _, d0, d1⟩ := (HB.out.ext HWO.out).at_ hy
      have hkI : (k : Int) < (m : Int) := by omega
      have HY := Lib.hid hy
      have D0 := Lib.hid (fun W (h : Ext wo W) => (Ext.cell h (World.block_lt_of_cell? wo _ d0)).trans d0)
      have D1 := Lib.hid (fun W (h : Ext wo W) => (Ext.cell h (World.block_lt_of_cell? wo _ d1)).trans d1)
      clear hy d0 d1
      go_wp2_with fail
      go_loopw [6, 7] (CvI wo a y n) (fun _ i _ => n - (intOf i).toNat)
      case atStart => exact ⟨0, Nat.zero_le _, rfl, by simp, Ext.refl _⟩
      case round =>
        obtain ⟨q, hq, rfl, rfl, hw⟩ := hrel
        have HW := Lib.hid hw
        clear hw
        by_cases hqn : q < n
        · obtain ⟨x, hx⟩ : ∃ x, a[q]? = some x := ⟨_, List.getElem?_eq_getElem (by have := HL1.out; omega)⟩
          obtain ⟨b1, o1, rfl, _, c0, c1⟩ := (HA.out.ext (HWO.out.trans HW.out)).at_ hx
          have hqI : (q : Int) < (n : Int) := by omega
          have HNX := Lib.hid (show (a.take (q + 1)).any (acB y) = ((a.take q).any (acB y) || acB y x) from by rw [take_next hx, List.any_append]; simp)
          have HAC := Lib.hid (show acB y x = ((x.n.toList == y.n.toList) && (x.t == y.t || (y.t == 0 && !(x.t == 4)))) from by unfold acB accB; rw [eq_b]; rfl)
          have p0 : ∀ v : ExtW wr, v.v.cell? ⟨b1, o1 + q * 2, none⟩ = some (.string x.n) := fun v => (Ext.cell v.h (World.block_lt_of_cell? wr _ c0)).trans c0
          have p1 : ∀ v : ExtW wr, v.v.cell? ⟨b1, o1 + q * 2 + 1, none⟩ = some (.int .i64 x.t) := fun v => (Ext.cell v.h (World.block_lt_of_cell? wr _ c1)).trans c1
          have p2 : ∀ v : ExtW wr, v.v.cell? ⟨b2, o2 + k * 2, none⟩ = some (.string y.n) := fun v => D0.out _ (HW.out.trans v.h)
          have p3 : ∀ v : ExtW wr, v.v.cell? ⟨b2, o2 + k * 2 + 1, none⟩ = some (.int .i64 y.t) := fun v => D1.out _ (HW.out.trans v.h)
          clear hx c0 c1
          generalize (a.take q).any (acB y) = f0 at HNX
          cases f0
          · cases t1 : (x.n.toList == y.n.toList)
            · rw [t1] at HAC
              go_wp2_with fail
              refine wp_region_ext (by kernel_rfl) (by kernel_rfl) ?_
              repeat (go_big_quiet_step (fail))
              refine wpQuiet_nil ?_
              intro wx hwx
              have HXX := Lib.hid (HW.out.trans (ext_of28 hwx))
              clear hwx p0 p1 p2 p3
              go_wp2
              exact ⟨⟨q + 1, by omega, by go_num, by rw [HNX.out, HAC.out]; first | done | rfl, HXX.out⟩, by simp [intOf]; omega⟩
            cases t2 : (x.t == y.t)
            · cases t3 : (y.t == 0)
              · rw [t1, t2, t3] at HAC
                go_wp2_with fail
                refine wp_region_ext (by kernel_rfl) (by kernel_rfl) ?_
                repeat (go_big_quiet_step (fail))
                refine wpQuiet_nil ?_
                intro wx hwx
                have HXX := Lib.hid (HW.out.trans (ext_of28 hwx))
                clear hwx p0 p1 p2 p3
                go_wp2
                exact ⟨⟨q + 1, by omega, by go_num, by rw [HNX.out, HAC.out]; first | done | rfl, HXX.out⟩, by simp [intOf]; omega⟩
              cases t4 : (x.t == 4)
              · have t5 : (x.t != 4) = true := by rw [bne, t4]; rfl
                rw [t1, t2, t3, t4] at HAC
                go_wp2_with fail
                refine wp_region_ext (by kernel_rfl) (by kernel_rfl) ?_
                repeat (go_big_quiet_step (fail))
                refine wpQuiet_nil ?_
                intro wx hwx
                have HXX := Lib.hid (HW.out.trans (ext_of28 hwx))
                clear hwx p0 p1 p2 p3
                go_wp2
                exact ⟨⟨q + 1, by omega, by go_num, by rw [HNX.out, HAC.out]; first | done | rfl, HXX.out⟩, by simp [intOf]; omega⟩
              · have t5 : (x.t != 4) = false := by rw [bne, t4]; rfl
                rw [t1, t2, t3, t4] at HAC
                go_wp2_with fail
                refine wp_region_ext (by kernel_rfl) (by kernel_rfl) ?_
                repeat (go_big_quiet_step (fail))
                refine wpQuiet_nil ?_
                intro wx hwx
                have HXX := Lib.hid (HW.out.trans (ext_of28 hwx))
                clear hwx p0 p1 p2 p3
                go_wp2
                exact ⟨⟨q + 1, by omega, by go_num, by rw [HNX.out, HAC.out]; first | done | rfl, HXX.out⟩, by simp [intOf]; omega⟩
            · rw [t1, t2] at HAC
              go_wp2_with fail
              refine wp_region_ext (by kernel_rfl) (by kernel_rfl) ?_
              repeat (go_big_quiet_step (fail))
              refine wpQuiet_nil ?_
              intro wx hwx
              have HXX := Lib.hid (HW.out.trans (ext_of28 hwx))
              clear hwx p0 p1 p2 p3
              go_wp2
              exact ⟨⟨q + 1, by omega, by go_num, by rw [HNX.out, HAC.out]; first | done | rfl, HXX.out⟩, by simp [intOf]; omega⟩
          · go_wp2_with fail
            refine wp_region_ext (by kernel_rfl) (by kernel_rfl) ?_
            repeat (go_big_quiet_step (fail))
            refine wpQuiet_nil ?_
            intro wx hwx
            have HXX := Lib.hid (HW.out.trans (ext_of28 hwx))
            clear hwx p0 p1 p2 p3
            go_wp2
            exact ⟨⟨q + 1, by omega, by go_num, by rw [HNX.out]; first | done | rfl, HXX.out⟩, by simp [intOf]; omega⟩
        · have hqq : q = n := by omega
          subst hqq
          have HF := Lib.hid (show (a.take q).any (acB y) = a.any (acB y) from by rw [List.take_of_length_le (by rw [HL1.out]; exact Nat.le_refl _)])
          cases hany : a.any (acB y)
          · rw [hany] at HF
            rw [HF.out]
            have HRF := Lib.hid (show R = false from by
              rw [HR.out]
              have : b.all (fun y => a.any (acB y)) = false := by rw [List.all_eq_false]; exact ⟨y, List.mem_of_getElem? HY.out, by rw [hany]; decide⟩
              rw [this, Bool.and_false, Bool.and_false])
            clear hany
            go_wp2
            go_ret
            exact ⟨ret_bool HRF.out.symm, HWO.out.trans HW.out⟩
          · rw [hany] at HF
            rw [HF.out]
            have HN := Lib.hid (show (b.take (k + 1)).all (fun y => a.any (acB y)) = true from by rw [take_next HY.out, List.all_append, HALL.out]; simp [hany])
            clear hany
            go_wp2
            exact ⟨⟨k + 1, by omega, by go_num, HN.out, HWO.out.trans HW.out⟩, by simp [intOf]; omega⟩
    · have hkk : k = m := by omega
      subst hkk
      have HF := Lib.hid (show R = (v1 && v2) from by
        have h := HALL.out
        rw [List.take_of_length_le (by rw [HL2.out]; exact Nat.le_refl _)] at h
        rw [HR.out, h, Bool.and_true])
      cases v1
      · go_wp2_with fail
        refine (HK1.out _ HWO.out).mono ?_
        rintro e w2 ⟨rfl, hw2⟩
        have HW2 := Lib.hid (HWO.out.trans hw2)
        clear hw2
        go_wp2
        go_ret
        exact ⟨ret_bool (by rw [HF.out]; rfl), HW2.out⟩
      · go_wp2_with fail
        refine (HK1.out _ HWO.out).mono ?_
        rintro e w2 ⟨rfl, hw2⟩
        have HW2 := Lib.hid (HWO.out.trans hw2)
        clear hw2
        go_wp2_with fail
        refine (HK2.out _ HW2.out).mono ?_
        rintro e w3 ⟨rfl, hw3⟩
        have HW3 := Lib.hid (HW2.out.trans hw3)
        clear hw3
        go_wp2
        go_ret
        exact ⟨ret_bool (by rw [HF.out]; first | done | rfl | simp), HW3.out⟩
end Go.Proofs.YtblkpgglkhmggaaGreatDoor
