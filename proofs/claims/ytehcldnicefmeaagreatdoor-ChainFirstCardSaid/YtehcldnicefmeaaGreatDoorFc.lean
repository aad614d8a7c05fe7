import Derived.Test.YtehcldnicefmeaaGreatDoorCu
import Derived.Test.YtehcldnicefmeaaGreatDoorFb
namespace Go.Proofs.YtehcldnicefmeaaGreatDoor
open Go.RowKit
set_option linter.unusedSimpArgs false
set_option linter.unusedVariables false

/-! The inherited entry, by the reference. -/
set_option maxRecDepth 100000 in
theorem uent_any (z : En) (w : World) :
    Calls Tryz.prog 19 #[.agg #[.string z.i, .string z.s, .string z.t, .slice (z.A 0) (z.n 0) (z.c 0), .slice (z.A 1) (z.n 1) (z.c 1), .int .i64 z.st, .slice (z.A 2) (z.n 2) (z.c 2)]] w fun e w' => e = .returned (.bool ((z.st == 2) || (z.st == 3))) ∧ Ext w w' := by
  have h5 := (AtC.new w #[.string z.i, .string z.s, .string z.t, .slice (z.A 0) (z.n 0) (z.c 0), .slice (z.A 1) (z.n 1) (z.c 1), .int .i64 z.st, .slice (z.A 2) (z.n 2) (z.c 2)] : AtC 47 _ _ _).cell 5 _ rfl
  cases t2 : (z.st == 2)
  · cases t3 : (z.st == 3)
    all_goals
      go_enter Tryz.func19, Tryz.ntmps19
      go_wp2
      go_ret
      exact ⟨rfl, (Ext.refl w).alloc _⟩
  · go_enter Tryz.func19, Tryz.ntmps19
    go_wp2
    go_ret
    exact ⟨rfl, (Ext.refl w).alloc _⟩

theorem ext_ex {wr wx : World} (hx : ∃ x : ExtW wr, wx = x.v) : Ext wr wx := by obtain ⟨y, hy⟩ := hx; rw [hy]; exact y.h
set_option maxHeartbeats 4000000 in
set_option maxRecDepth 100000 in
theorem rfind_any (l : List Lc) (al : List Ali) (L A N : Option Addr) (ln lc n c m d : Nat) (ct : List Ct) (E : Option Addr) (en ec : Nat) (s id : ByteArray) (w : World) (hL : Lcs w L ln l) (hln : ln ≤ 100000) (hA : Als w A n al) (hn : n ≤ 100000) (hz : ∀ a ∈ al, a.1.size ≤ 60000 ∧ a.2.size ≤ 60000) (hs : ∀ x ∈ l, x.t.size ≤ 60000) (hss : s.size ≤ 60000)
    (hE : Cts w E en ct) (hen : en ≤ 100000) (hes : ∀ x ∈ ct, x.n 2 ≤ 100000) :
    Calls Tryz.prog 18 #[.agg #[.slice L ln lc, .slice A n c, .slice N m d], .slice E en ec, .string s, .string id] w (RetFind w (findC (l.map locOf) al (ct.map catOf) s.data.toList id.data.toList)) := by
  have KB := Lib.hid (AtC.new w #[.slice L ln lc, .slice A n c, .slice N m d] : AtC 26 _ _ _)
  have HW0 := Lib.hid ((Ext.refl w).alloc (.cells #[.slice L ln lc, .slice A n c, .slice N m d] 26))
  have h0 := KB.out.cell 0 _ rfl
  have h1 := KB.out.cell 1 _ rfl
  have h2 := KB.out.cell 2 _ rfl
  have K := rof_any l al L A N ln lc n c m d s _ (hL.ext HW0.out) hln (hA.ext HW0.out) hn hz hs hss
  obtain ⟨O, hO⟩ : ∃ O, O = ofC (l.map locOf) al s.data.toList := ⟨_, rfl⟩
  have f0 := fun h => findC_bad (cats := ct.map catOf) (id := id.data.toList) hO h
  have f1 := fun h hf => findC_none (cats := ct.map catOf) (id := id.data.toList) hO h hf
  have f2 := fun k q h hf => findC_some (cats := ct.map catOf) (id := id.data.toList) (k := k) (q := q) hO h hf
  rw [← hO] at K
  generalize findC (l.map locOf) al (ct.map catOf) s.data.toList id.data.toList = F at f0 f1 f2
  have hlen := of_len (T := l.map locOf) (al := al) (s := s.data.toList)
  rw [← hO, List.length_map, hL.len] at hlen
  obtain ⟨tags, e⟩ := O
  simp only at f0 f1 f2 hlen
  have HF0 := Lib.hid f0
  have HF1 := Lib.hid f1
  have HF2 := Lib.hid f2
  have HK := Lib.hid K
  have HE := Lib.hid (hE.ext HW0.out)
  have hcl : (ct.map catOf).length = en := by rw [List.length_map]; exact hE.len
  have HCL := Lib.hid hcl
  have HES := Lib.hid hes
  clear hL hA hz hs K hO f0 f1 f2 hE hcl hes
  go_enter Tryz.func18, Tryz.ntmps18
  go_wp2_with fail
  refine HK.out.mono ?_
  rintro e2 w2 ⟨A2, n2, c2, rfl, hs2, hc2, hw2⟩
  have HS2 := Lib.hid hs2
  have hn2 : tags.length = n2 := by have h := hs2.1; rw [List.length_map] at h; exact h
  have HN2 := Lib.hid hn2
  have hn2b : n2 ≤ 100000 := by omega
  have HW2 := Lib.hid (HW0.out.trans hw2)
  have HE2 := Lib.hid (HE.out.ext hw2)
  clear hw2 hs2 h0 h1 h2 hn2
  simp only
  by_cases he : e = 0
  rotate_left
  · have hnz : (e == 0) = false := by simpa using he
    have HF := Lib.hid (HF0.out he)
    go_wp2
    go_ret3
    exact ret_find HF.out HW2.out
  subst he
  go_wp2_with fail
  go_loopw [13] (TF1 w2 (ct.map catOf) id.data.toList tags n2) (fun i _ => n2 - (intOf i).toNat)
  case atStart => exact ⟨0, Nat.zero_le _, rfl, noT_zero _ _ _, Ext.refl _⟩
  case round =>
    obtain ⟨k, hk, rfl, hno, hw⟩ := hrel
    obtain ⟨wo, rfl⟩ : ∃ wo : World, wo = wr := ⟨_, rfl⟩
    have HNO := Lib.hid hno
    have HWO := Lib.hid hw
    clear hno hw
    by_cases hkn : k < n2
    · obtain ⟨ad, x, rfl, hx, hcx⟩ := (HS2.out.ext HWO.out).at_map hkn
      obtain ⟨xb, hx1, hx2⟩ := strv_b x
      rw [hx1] at hcx
      have HCX := Lib.hid (fun W (h : Ext wo W) => (Ext.cell h (World.block_lt_of_cell? wo _ hcx)).trans hcx)
      subst hx2
      have HX := Lib.hid hx
      have hkI : (k : Int) < (n2 : Int) := by omega
      clear hx hx1 hcx
      go_wp2_with fail
      go_loopw [14] (TF2 wo (ct.map catOf) xb.data.toList id.data.toList en) (fun i _ => en - (intOf i).toNat)
      case atStart => exact ⟨0, Nat.zero_le _, rfl, noC_zero _ _ _, Ext.refl _⟩
      case round =>
        obtain ⟨q, hq, rfl, hno, hw⟩ := hrel
        obtain ⟨wi, rfl⟩ : ∃ wi : World, wi = wr := ⟨_, rfl⟩
        have HNC := Lib.hid hno
        have HWI := Lib.hid hw
        clear hno hw
        by_cases hqn : q < en
        · obtain ⟨y, hy⟩ : ∃ y, ct[q]? = some y := ⟨_, List.getElem?_eq_getElem (by have := HCL.out; rw [List.length_map] at this; omega)⟩
          obtain ⟨b, o, rfl, hb, hc⟩ := (HE2.out.ext (HWO.out.trans HWI.out)).at_ hy
          have a0 := hc 0 _ rfl
          have a3 := hc 3 _ rfl
          rw [Nat.add_zero] at a0
          have HA0 := Lib.hid (fun W (h : Ext wi W) => (Ext.cell h (World.block_lt_of_cell? wi _ a0)).trans a0)
          have HA3 := Lib.hid (fun W (h : Ext wi W) => (Ext.cell h (World.block_lt_of_cell? wi _ a3)).trans a3)
          have hqI : (q : Int) < (en : Int) := by omega
          have HY := Lib.hid (show (ct.map catOf)[q]? = some (catOf y) from by rw [List.getElem?_map, hy]; rfl)
          have HEN := Lib.hid (HE2.out.2 y (List.mem_of_getElem? hy))
          have hy2 := HES.out y (List.mem_of_getElem? hy)
          have HYL := Lib.hid (show (catOf y).2.length = y.n 2 from by show (y.es.map entOf).length = _; rw [List.length_map]; exact HEN.out.len)
          clear hy hc a0 a3
          go_wp2_with fail
          go_loopw [15] (TF3 wi (catOf y).2 id.data.toList (y.n 2)) (fun i _ => y.n 2 - (intOf i).toNat)
          case atStart => exact ⟨0, Nat.zero_le _, rfl, noE_zero _ _, Ext.refl _⟩
          case round =>
            obtain ⟨p, hp, rfl, hno, hw⟩ := hrel
            have HNE := Lib.hid hno
            have HW := Lib.hid hw
            clear hno hw
            have q0 : ∀ z : ExtW wr, z.v.cell? ⟨b, o + q * 4, none⟩ = some (.string y.t) := fun z => HA0.out _ (HW.out.trans z.h)
            have q3 : ∀ z : ExtW wr, z.v.cell? ⟨b, o + q * 4 + 3, none⟩ = some (.slice (y.A 2) (y.n 2) (y.c 2)) := fun z => HA3.out _ (HW.out.trans z.h)
            have qx : ∀ z : ExtW wr, z.v.cell? (ad.add k) = some (.string xb) := fun z => HCX.out _ (HWI.out.trans (HW.out.trans z.h))
            by_cases hpn : p < y.n 2
            · have hpI : (p : Int) < (y.n 2 : Int) := by omega
              have hpB : decide ((p : Int) < (y.n 2 : Int)) = true := by simpa using hpI
              cases ht : (y.t.toList == xb.toList)
              · have HNX := Lib.hid (noC_other HNC.out HY.out (by rw [eq_b] at ht; exact ht))
                go_wp2_with fail
                refine wp_region_ext (by kernel_rfl) (by kernel_rfl) ?_
                repeat (go_big_quiet_step (fail))
                refine wpQuiet_nil ?_
                intro wx hx
                have HXX := Lib.hid (HWI.out.trans (HW.out.trans (ext_ex hx)))
                clear hx q0 q3 qx
                go_wp2
                exact ⟨⟨q + 1, by omega, by go_num, HNX.out, HXX.out⟩, by simp [intOf]; omega⟩
              · have HT := Lib.hid (show (((catOf y).1 == xb.data.toList) = true) from by rw [eq_b] at ht; exact ht)
                go_wp2_with fail
                refine wp_region_ext (by kernel_rfl) (by kernel_rfl) ?_
                repeat (go_big_quiet_step (fail))
                refine wpQuiet_nil ?_
                intro wx hx
                have HXX := Lib.hid (HW.out.trans (ext_ex hx))
                clear hx q0 q3 qx
                obtain ⟨z, hz⟩ : ∃ z, y.es[p]? = some z := ⟨_, List.getElem?_eq_getElem (by have := HEN.out.len; omega)⟩
                obtain ⟨b2, o2, hA3, hb2, hc2⟩ := (HEN.out.ext (HWO.out.trans (HWI.out.trans HXX.out))).at_ hz
                have a3 := HA3.out _ HXX.out
                rw [hA3] at a3
                have g0 := hc2 0 _ rfl
                have g1 := hc2 1 _ rfl
                have g2 := hc2 2 _ rfl
                have g3 := hc2 3 _ rfl
                have g4 := hc2 4 _ rfl
                have g5 := hc2 5 _ rfl
                have g6 := hc2 6 _ rfl
                rw [Nat.add_zero] at g0
                have HZ := Lib.hid (show (catOf y).2[p]? = some (entOf z) from by show (y.es.map entOf)[p]? = _; rw [List.getElem?_map, hz]; rfl)
                have HB := Lib.hid (entB_eq (id := id) (y := z))
                clear hz hc2
                cases t1 : (z.i.toList == id.toList)
                · have HNX := Lib.hid (noE_next HNE.out HZ.out (by rw [HB.out, t1]; rfl))
                  go_wp2
                  exact ⟨⟨p + 1, by omega, by go_num, HNX.out, HXX.out.alloc _⟩, by simp [intOf]; omega⟩
                · have HU := Lib.hid (fun W => uent_any z W)
                  cases t2 : ((z.st == 2) || (z.st == 3))
                  · have HNX := Lib.hid (noE_next HNE.out HZ.out (by rw [HB.out, t1, t2]; rfl))
                    rw [t2] at HU
                    go_wp2_with fail
                    refine (HU.out _).mono ?_
                    rintro e w9 ⟨rfl, hw9⟩
                    have HW9 := Lib.hid ((HXX.out.alloc _).trans hw9)
                    clear hw9
                    go_wp2
                    exact ⟨⟨p + 1, by omega, by go_num, HNX.out, HW9.out⟩, by simp [intOf]; omega⟩
                  · have HFF := Lib.hid (HF2.out q p (by first | exact rfl | trivial) (find_found HNO.out HX.out HNC.out HY.out HT.out HNE.out HZ.out (by rw [HB.out, t1, t2]; rfl)))
                    rw [t2] at HU
                    go_wp2_with fail
                    refine (HU.out _).mono ?_
                    rintro e w9 ⟨rfl, hw9⟩
                    have HW9 := Lib.hid ((HXX.out.alloc _).trans hw9)
                    clear hw9
                    go_wp2
                    go_ret3
                    exact ret_find HFF.out (HW2.out.trans (HWO.out.trans (HWI.out.trans HW9.out)))
            · have hpp : p = y.n 2 := by omega
              subst hpp
              have hpB : decide ((y.n 2 : Int) < (y.n 2 : Int)) = false := by simp
              have HNX := Lib.hid (noC_none HNC.out HY.out HNE.out (by rw [HYL.out]; exact Nat.le_refl _))
              go_wp2_with fail
              refine wp_region_ext (by kernel_rfl) (by kernel_rfl) ?_
              repeat (go_big_quiet_step (fail))
              refine wpQuiet_nil ?_
              intro wx hx
              have HXX := Lib.hid (HWI.out.trans (HW.out.trans (ext_ex hx)))
              clear hx q0 q3 qx
              go_wp2
              exact ⟨⟨q + 1, by omega, by go_num, HNX.out, HXX.out⟩, by simp [intOf]; omega⟩
        · have hqq : q = en := by omega
          subst hqq
          have HNX := Lib.hid (noT_next HNO.out HX.out HNC.out (by rw [HCL.out]; exact Nat.le_refl _))
          go_wp2
          exact ⟨⟨k + 1, by omega, by go_num, HNX.out, HWO.out.trans HWI.out⟩, by simp [intOf]; omega⟩
    · have hkk : k = n2 := by omega
      subst hkk
      have HFF := Lib.hid (HF1.out (by first | exact rfl | trivial) (noT_end HNO.out (by rw [HN2.out]; exact Nat.le_refl _)))
      go_wp2
      go_ret3
      exact ret_find HFF.out (HW2.out.trans HWO.out)
end Go.Proofs.YtehcldnicefmeaaGreatDoor
