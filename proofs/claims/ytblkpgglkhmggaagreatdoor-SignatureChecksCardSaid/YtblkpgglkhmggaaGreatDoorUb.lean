import Derived.Test.YtblkpgglkhmggaaGreatDoorUa
namespace Go.Proofs.YtblkpgglkhmggaaGreatDoor
open Go.RowKit
set_option linter.unusedSimpArgs false
set_option linter.unusedVariables false

/-! Put, by the reference. -/
theorem cell_mid28 {w w' : World} {p : Addr} {u : Value} (h : Ext w w') (hc : w.cell? p = some u) : w'.cell? p = some u :=
  (Ext.cell h (World.block_lt_of_cell? w p hc)).trans hc
theorem none_nilN {w : World} {n : Nat} {l : List Ag} (h : Ags w none n l) : n = 0 := by
  have hl := h.len
  cases l with
  | nil => exact hl.symm
  | cons x r =>
    obtain ⟨b, o, h1, _⟩ := h.at_ (k := 0) (x := x) rfl
    cases h1
theorem ags_of {w : World} {A : Option Addr} {n : Nat} {xs : List Value} {l' : List Ag} {M : List ArgP} (h : SlN w A n 2 xs) (hx : xs = l'.flatMap agC) (hM : l'.map agOf = M) : Ags w A n (M.map agP) := by
  subst hx
  rw [← agP_back hM]
  exact h
def PuI (w2 : World) (L : List ArgP) (x : By) (n : Nat) (i : Value) (wr : World) : Prop := ∃ k : Nat, k ≤ n ∧ i = .int .i64 k ∧ PreA L x k ∧ Ext w2 wr
set_option maxHeartbeats 8000000 in
set_option maxRecDepth 100000 in
theorem rput_any (l : List Ag) (x : Ag) (A : Option Addr) (n c : Nat) (w : World) (hA : Ags w A n l) (hn : n ≤ 20000) (hnc : n ≤ c) :
    Calls Tryz.prog 41 #[.slice A n c, .agg #[.string x.n, .int .i64 x.t]] w (RetPut w (putA (l.map agOf) (agOf x))) := by
  obtain ⟨i0, hi, hz0, hz1, hz2⟩ := info_parts (show (Tryz.prog.info? 58).map (fun i => (i.zero, i.size, i.bytes)) = some (some (.agg #[.string ⟨#[]⟩, .int .i64 0]), 2, 24) from by kernel_rfl)
  have HX0 := Lib.hid (show Ext w ((w.alloc (.cells #[.string x.n, .int .i64 x.t] 58)).alloc (.cells #[] 58)) from ((Ext.refl w).alloc _).alloc _)
  have HG := Lib.hid ((AtC.new w #[.string x.n, .int .i64 x.t] : AtC 58 _ _ _).alloc (.cells #[] 58))
  have hem := own_emptyN (w.alloc (.cells #[.string x.n, .int .i64 x.t] 58)) 58 2
  rw [World.size_alloc] at hem
  have HEM := Lib.hid hem
  have HA0 := Lib.hid (hA.ext HX0.out)
  have HA := Lib.hid hA
  have HL := Lib.hid hA.len
  obtain ⟨P, hP⟩ : ∃ P, P = putA (l.map agOf) (agOf x) := ⟨_, rfl⟩
  rw [← hP]
  have HP := Lib.hid hP
  clear hA hem hP
  go_enter Tryz.func41, Tryz.ntmps41
  have tok := True.intro
  go_wp2_with (first
    | (have _t := tok; at_builtin; refine wpList_appSl _ rfl _ _ 25 rfl (w.heap.size + 1) 58 i0 _ 2 24 Tryz.underlying25 hi hz0 hz1 hz2 rfl (by decide) _ 0 [] rfl HEM.out A n c _ rfl HA0.out (agC_one l) (by unfold maxLen; omega) (by omega) (by simp) ?_; intro v2 w2 hown hgr; rw [Nat.zero_add, List.nil_append] at hown; have HO2 := Lib.hid hown; have HW2 := Lib.hid (ext_grown (a := w) (B := w.heap.size + 1) HX0.out HEM.out (by omega) hgr); have HG2 := Lib.hid (show AtC 58 w2 w.heap.size #[.string x.n, .int .i64 x.t] from (hgr.block _ HG.out.lt (fun e => by have h := own_lt HEM.out _ e.symm; omega)).trans HG.out); clear hown hgr tok))
  obtain ⟨A2, c2, rfl, hn2, hs2, hg2⟩ := own_form HO2.out
  have HS2 := Lib.hid (show Ags w2 A2 n l from hs2)
  have HF2 := Lib.hid hg2
  clear hs2 hg2
  go_wp2_with fail
  go_loopw [7] (PuI w2 (l.map agOf) (agOf x).1 n) (fun i _ => n - (intOf i).toNat)
  case atStart => exact ⟨0, Nat.zero_le _, rfl, preA_zero _ _, Ext.refl _⟩
  case round =>
    obtain ⟨k, hk, rfl, hpre, hw⟩ := hrel
    obtain ⟨wo, rfl⟩ : ∃ wo : World, wo = wr := ⟨_, rfl⟩
    have HPRE := Lib.hid hpre
    have HW := Lib.hid hw
    clear hpre hw
    by_cases hkn : k < n
    · have hkI : (k : Int) < (n : Int) := by omega
      obtain ⟨g, rfl, hgl, hgs⟩ := HF2.out (by omega)
      obtain ⟨y, hy⟩ : ∃ y, l[k]? = some y := ⟨_, List.getElem?_eq_getElem (by rw [HL.out]; exact hkn)⟩
      have hyM : (l.map agOf)[k]? = some (agOf y) := by rw [List.getElem?_map, hy]; rfl
      obtain ⟨b, o, hbo, hb, a0, a1⟩ := (HS2.out.ext HW.out).at_ hy
      injection hbo with hbo
      injection hbo with e1 e2
      subst e1 e2
      rw [Nat.zero_add] at a0 a1
      have HY := Lib.hid hy
      have HYM := Lib.hid hyM
      have r0 := fun z : ExtW wo => cell_mid28 z.h a0
      have r1 := fun z : ExtW wo => cell_mid28 z.h a1
      have s0 := fun z : ExtW wo => (HG2.out.ext (HW.out.trans z.h)).cell 0 _ rfl
      have s1 := fun z : ExtW wo => (HG2.out.ext (HW.out.trans z.h)).cell 1 _ rfl
      have HR0 := Lib.hid r0
      have HR1 := Lib.hid r1
      have HSS0 := Lib.hid s0
      have HSS1 := Lib.hid s1
      have HKC := Lib.hid (fun W => rcom_any y.t x.t W)
      have HGL := Lib.hid hgl
      clear a0 a1 hy hyM hgl
      cases t1 : (y.n.toList == x.n.toList)
      · have hne : (agOf y).1 ≠ (agOf x).1 := by
          rw [eq_b] at t1
          intro h
          rw [show y.n.data.toList = x.n.data.toList from h] at t1
          simp at t1
        have HNE := Lib.hid hne
        clear hne
        go_wp2_with fail
        refine wp_region_ext (by kernel_rfl) (by kernel_rfl) ?_
        repeat (go_big_quiet_step (fail))
        refine wpQuiet_nil ?_
        intro wb hwb
        have HWB := Lib.hid (ext_of28 hwb)
        clear hwb r0 r1 s0 s1
        have r0 := fun z : ExtW wb => HR0.out ⟨z.v, HWB.out.trans z.h⟩
        have s0 := fun z : ExtW wb => HSS0.out ⟨z.v, HWB.out.trans z.h⟩
        cases t2 : Op.bytesLess y.n.toList x.n.toList
        rotate_left
        · have HPN := Lib.hid (preA_next HPRE.out HYM.out HNE.out (by
            rw [less_b] at t2
            exact by_asymm (of_decide_eq_true t2)))
          go_wp2_with fail
          refine wp_region_ext (by kernel_rfl) (by kernel_rfl) ?_
          repeat (go_big_quiet_step (fail))
          refine wpQuiet_nil ?_
          intro wc hwc
          have HWC := Lib.hid (HWB.out.trans (ext_of28 hwc))
          clear hwc r0 s0
          go_wp2
          exact ⟨⟨k + 1, by omega, by go_num, HPN.out, HW.out.trans HWC.out⟩, by simp [intOf]; omega⟩
        · have HPG := Lib.hid (put_gt HPRE.out HYM.out HNE.out (by
            rw [less_b] at t2
            rcases by_tri (agOf x).1 (agOf y).1 with h | h | h
            · exact h
            · exact absurd h.symm HNE.out
            · exact absurd h (of_decide_eq_false t2)))
          go_wp2_with fail
          refine wp_region_ext (by kernel_rfl) (by kernel_rfl) ?_
          repeat (go_big_quiet_step (fail))
          refine wpQuiet_nil ?_
          intro wx hwx
          have HWX := Lib.hid (HWB.out.trans (ext_of28 hwx))
          clear hwx r0 s0
          have HWA := Lib.hid (HW2.out.trans (HW.out.trans HWX.out))
          have HGX := Lib.hid (HG2.out.ext (HW.out.trans HWX.out))
          cases A with
          | none => exact absurd (none_nilN HA.out) (by omega)
          | some adA =>
            obtain ⟨bA, oA, hbA, hbl, _, _⟩ := (HA.out.ext HWA.out).at_ HY.out
            injection hbA with hbA
            subst hbA
            have S1 := Lib.hid (show SlN wx (some ⟨bA, oA, none⟩) k 2 ((l.take k).flatMap agC) from by rw [← flat_take (f := agC) (m := 2) (fun _ => rfl)]; exact SlN.take (HA.out.ext HWA.out) k (by omega))
            have S3 := Lib.hid (show SlN wx (some ⟨bA, oA + k * 2, none⟩) (n - k) 2 ((l.drop k).flatMap agC) from by rw [← flat_drop (f := agC) (m := 2) (fun _ => rfl)]; exact SlN.drop (HA.out.ext HWA.out) k (by omega))
            have hkc : (k : Int) ≤ (c : Int) := by omega
            have hck : ¬ c = k := by omega
            have c0 := HGX.out.cell 0 _ rfl
            have c1 := HGX.out.cell 1 _ rfl
            have c2' : ∀ ob, (wx.alloc ob).cell? ⟨w.heap.size, 0, none⟩ = some (.string x.n) := fun ob => (HGX.out.alloc ob).cell 0 _ rfl
            have c3' : ∀ ob, (wx.alloc ob).cell? ⟨w.heap.size, 1, none⟩ = some (.int .i64 x.t) := fun ob => (HGX.out.alloc ob).cell 1 _ rfl
            go_wp2_with fail
            have tok1 : True := trivial
            have tok2 : True := trivial
            have tok3 : True := trivial
            go_region_law (first
          | (have _t := tok1; refine step_appN _ rfl _ _ 25 rfl wx.heap.size 58 i0 _ 2 24 Tryz.underlying25 hi hz0 hz1 hz2 rfl (by decide) _ 0 [] rfl ((own_emptyN wx 58 2).drew) _ k _ ((l.take k).flatMap agC) rfl (SlN.ext S1.out (((Ext.refl wx).alloc _).drew)) (agC_one _) (by unfold maxLen; omega) (by omega) (by simp; try omega) ?_; intro v1 w1 hown1 hgrow1; have HX1 := Lib.hid (ext_grown (a := wx) (((Ext.refl wx).alloc _).drew) ((own_emptyN wx 58 2).drew) (Nat.le_refl _) hgrow1); have c0 : w1.cell? ⟨w.heap.size, 0, none⟩ = some (.string x.n) := (HGX.out.ext HX1.out).cell 0 _ rfl; have c1 : w1.cell? ⟨w.heap.size, 1, none⟩ = some (.int .i64 x.t) := (HGX.out.ext HX1.out).cell 1 _ rfl; have HO1 := Lib.hid hown1; clear hown1 hgrow1 tok1)
          | (have _t := tok1; refine step_appN _ rfl _ _ 25 rfl wx.heap.size 58 i0 _ 2 24 Tryz.underlying25 hi hz0 hz1 hz2 rfl (by decide) _ 0 [] rfl (((own_emptyN wx 58 2).alloc _).drew) _ k _ ((l.take k).flatMap agC) rfl (SlN.ext S1.out ((((Ext.refl wx).alloc (.cells #[] 58)).alloc (.cells #[.string x.n, .int .i64 x.t] 58)).drew)) (agC_one _) (by unfold maxLen; omega) (by omega) (by simp; try omega) ?_; intro v1 w1 hown1 hgrow1; have HX1 := Lib.hid (ext_grown (a := wx) ((((Ext.refl wx).alloc (.cells #[] 58)).alloc (.cells #[.string x.n, .int .i64 x.t] 58)).drew) (((own_emptyN wx 58 2).alloc _).drew) (Nat.le_refl _) hgrow1); have c0 : w1.cell? ⟨w.heap.size, 0, none⟩ = some (.string x.n) := (HGX.out.ext HX1.out).cell 0 _ rfl; have c1 : w1.cell? ⟨w.heap.size, 1, none⟩ = some (.int .i64 x.t) := (HGX.out.ext HX1.out).cell 1 _ rfl; have HZ1 := Lib.hid (slN_kept (n := 1) (size := 2) (row := some wx.heap.size) hgrow1 (two_new wx _ _) (by simp) rfl); have HO1 := Lib.hid hown1; clear hown1 hgrow1 tok1)
          | (have _t := tok1; refine step_appN _ rfl _ _ 25 rfl wx.heap.size 58 i0 _ 2 24 Tryz.underlying25 hi hz0 hz1 hz2 rfl (by decide) _ 0 [] rfl (own_empty2 wx _ 58 2) _ k _ ((l.take k).flatMap agC) rfl (SlN.ext S1.out ((((Ext.refl wx).alloc (.cells #[.string x.n, .int .i64 x.t] 58)).alloc (.cells #[] 58)).drew)) (agC_one _) (by unfold maxLen; omega) (by omega) (by simp; try omega) ?_; intro v1 w1 hown1 hgrow1; have HX1 := Lib.hid (ext_grown (a := wx) ((((Ext.refl wx).alloc (.cells #[.string x.n, .int .i64 x.t] 58)).alloc (.cells #[] 58)).drew) (own_empty2 wx _ 58 2) (Nat.le_refl _) hgrow1); have c0 : w1.cell? ⟨w.heap.size, 0, none⟩ = some (.string x.n) := (HGX.out.ext HX1.out).cell 0 _ rfl; have c1 : w1.cell? ⟨w.heap.size, 1, none⟩ = some (.int .i64 x.t) := (HGX.out.ext HX1.out).cell 1 _ rfl; have HZ1 := Lib.hid (slN_kept (n := 1) (size := 2) (row := some (wx.heap.size + 1)) hgrow1 (two_old wx _ _) (by simp) rfl); have HO1 := Lib.hid hown1; clear hown1 hgrow1 tok1)
          | (have _t := tok2; refine step_appN _ rfl _ _ 25 rfl wx.heap.size 58 i0 _ 2 24 Tryz.underlying25 hi hz0 hz1 hz2 rfl (by decide) _ (0 + k) _ rfl (HO1.out) _ 1 _ [.string x.n, .int .i64 x.t] rfl (HZ1.out) (agC_one [x]) (by unfold maxLen; omega) (by omega) (by have := Ext.size HX1.out; first | omega | (simp; omega)) ?_; intro v2 w2' hown2 hgrow2; have HX2 := Lib.hid (ext_grown (a := wx) (HX1.out) (HO1.out) (Nat.le_refl _) hgrow2); have HO2' := Lib.hid hown2; clear hown2 hgrow2 tok2)
          | (have _t := tok2; refine step_appN _ rfl _ _ 25 rfl wx.heap.size 58 i0 _ 2 24 Tryz.underlying25 hi hz0 hz1 hz2 rfl (by decide) _ (0 + k) _ rfl (HO1.out.alloc _) _ 1 _ [.string x.n, .int .i64 x.t] rfl (slN_new _ _ _ 1 2 rfl) (agC_one [x]) (by unfold maxLen; omega) (by omega) (by have := Ext.size HX1.out; first | omega | (simp; omega)) ?_; intro v2 w2' hown2 hgrow2; have HX2 := Lib.hid (ext_grown (a := wx) (HX1.out.alloc _) (HO1.out.alloc _) (Nat.le_refl _) hgrow2); have HO2' := Lib.hid hown2; clear hown2 hgrow2 tok2)
          | (have _t := tok3; refine step_appN _ rfl _ _ 25 rfl wx.heap.size 58 i0 _ 2 24 Tryz.underlying25 hi hz0 hz1 hz2 rfl (by decide) _ (0 + k + 1) _ rfl HO2'.out _ (n - k) _ ((l.drop k).flatMap agC) rfl (SlN.ext S3.out HX2.out) (agC_one _) (by unfold maxLen; omega) (by omega) (by have := Ext.size HX2.out; first | omega | (simp; omega)) ?_; intro v3 w3 hown3 hgrow3; have HX3 := Lib.hid (ext_grown (a := wx) HX2.out HO2'.out (Nat.le_refl _) hgrow3); have HO3 := Lib.hid hown3; clear hown3 hgrow3 tok3))
            all_goals
              go_wp2
              obtain ⟨A3, c3, hv3, hn3, hs3, _⟩ := own_form HO3.out
              subst hv3
              go_ret2
              rw [HP.out, HPG.out]
              exact ⟨A3, _, c3, rfl, ags_of hs3 (l' := l.take k ++ [x] ++ l.drop k) (by simp [agC]) (by simp), hn3, HWA.out.trans HX3.out⟩
      · have heq : (agOf y).1 = (agOf x).1 := by
          rw [eq_b] at t1
          exact eq_of_beq t1
        have HPE := Lib.hid (put_eq HPRE.out HYM.out heq)
        clear heq
        go_wp2_with fail
        refine wp_region_ext (by kernel_rfl) (by kernel_rfl) ?_
        repeat (go_big_quiet_step (fail))
        refine wpQuiet_nil ?_
        intro wb hwb
        have HWB := Lib.hid (ext_of28 hwb)
        clear hwb r0 r1 s0 s1
        have r1 := fun z : ExtW wb => HR1.out ⟨z.v, HWB.out.trans z.h⟩
        have s1 := fun z : ExtW wb => HSS1.out ⟨z.v, HWB.out.trans z.h⟩
        have hPE : P = ((l.map agOf).set k ((agOf y).1, (comA y.t x.t).1), (comA y.t x.t).2) := HP.out.trans HPE.out
        have hcw : (Lit.int .i64 (comA y.t x.t).1).wf = true := com_wf _ _
        have hkc := HKC.out
        generalize (comA y.t x.t).1 = cm at hkc hPE hcw
        generalize (comA y.t x.t).2 = ok at hkc hPE
        have HPE2 := Lib.hid hPE
        have HU := Lib.hid (fun v : ExtW wb => hkc v.v)
        clear hPE hkc
        go_wp2_with fail
        refine wp_region_ext (by kernel_rfl) (by kernel_rfl) ?_
        repeat (go_big_quiet_step ((go_at_call 30; with_reducible exact ExtW.call (HU.out _))))
        refine wpQuiet_nil ?_
        intro wx hwx
        have HWX := Lib.hid (HWB.out.trans (ext_of28 hwx))
        clear hwx r1 s1
        have HOX := Lib.hid (own_ext HO2.out (HW.out.trans HWX.out))
        have z1 := (HOX.out.cellAt (k * 2 + 1) (by omega))
        have z2 := HOX.out.frozenAt (k * 2 + 1)
        have z3 := HR1.out ⟨wx, HWX.out⟩
        clear z1
        go_wp2
        go_ret2
        have hst := (HOX.out.stored (k * 2 + 1) (.int .i64 cm)).1
        obtain ⟨A3, c3, hv3, hn3, hs3, _⟩ := own_form hst
        injection hv3 with e1 e2 e3
        subst e1 e3
        rw [HPE2.out]
        exact ⟨_, n, c2, rfl, ags_of hs3 (l' := l.set k ⟨y.n, cm⟩) (set_flat l k y cm HY.out) set_of, hn3, (HW2.out.trans (HW.out.trans HWX.out)).setCell (show w.heap.size ≤ g from Nat.le_of_succ_le HGL.out) _⟩
    · have hkk : k = n := by omega
      subst hkk
      have HPE := Lib.hid (put_end (x := agOf x) (by rw [List.length_map, HL.out]; exact HPRE.out))
      have HGX := Lib.hid (HG2.out.ext HW.out)
      have c0 := HGX.out.cell 0 _ rfl
      have c1 := HGX.out.cell 1 _ rfl
      have HOX := Lib.hid (own_ext HO2.out (HW.out.alloc (.cells #[.string x.n, .int .i64 x.t] 58)))
      have HSN := Lib.hid (slN_new wo #[.string x.n, .int .i64 x.t] 58 1 2 rfl)
      have tok := True.intro
      go_wp2_with (first
        | (have _t := tok; at_builtin; refine wpList_appSl _ rfl _ _ 25 rfl (w.heap.size + 1) 58 i0 _ 2 24 Tryz.underlying25 hi hz0 hz1 hz2 rfl (by decide) _ k _ rfl HOX.out _ 1 1 [.string x.n, .int .i64 x.t] rfl HSN.out (agC_one [x]) (by unfold maxLen; omega) (by omega) (by have := Ext.size HW.out; have := (HW2.out).size; simp; omega) ?_; intro v3 w3 hown hgr; have HO3 := Lib.hid hown; have HW3 := Lib.hid (ext_grown (a := w) (B := w.heap.size + 1) ((HW2.out.trans HW.out).alloc _) HOX.out (by omega) hgr); clear hown hgr tok))
      obtain ⟨A3, c3, hv3, hn3, hs3, _⟩ := own_form HO3.out
      subst hv3
      go_wp2
      go_ret2
      rw [HP.out, HPE.out]
      exact ⟨A3, _, c3, rfl, ags_of hs3 (l' := l ++ [x]) (by simp [agC]) (by simp), hn3, HW3.out⟩
end Go.Proofs.YtblkpgglkhmggaaGreatDoor
