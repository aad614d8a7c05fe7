import Derived.Test.YtcfgphhhgemkdaaDoorAStps
namespace Go.Proofs.YtcfgphhhgemkdaaDoor
open Go.RowKit
set_option linter.unusedSimpArgs false
set_option linter.unusedVariables false

theorem replL_bad {a : Ali} (h : aliB a = false) (s : List UInt8) : replL a s = ([], 1) := by unfold replL; rw [if_neg (by rw [h]; simp)]

set_option maxHeartbeats 4000000 in
set_option maxRecDepth 100000 in
theorem tarepl_any (fb ob s : ByteArray) (w : World) (hm : Mx w) (h1 : fb.size ≤ 60000) (h2 : ob.size ≤ 60000) (hs : s.size ≤ 60000) :
    Calls Tryd.prog 10 #[.agg #[.string fb, .string ob], .string s] w fun e w' => e = .returned (.tuple #[strv (replL (fb, ob) s.data.toList).1, .int .i64 (replL (fb, ob) s.data.toList).2]) ∧ Ext w w' := by
  have hrd := fun W hW => read_any fb ob W hW h1 h2
  cases hal : aliB (fb, ob) with
  | false =>
    rw [replL_bad hal]
    unfold RetRule at hrd
    rw [hal] at hrd
    have HRD := Lib.hid hrd
    clear hrd hal
    go_enter Tryd.func10, Tryd.ntmps10
    go_wp2_with fail
    refine (HRD.out _ (hm.ext ((Ext.refl w).alloc _))).mono ?_
    rintro e w1 ⟨x, he, _, _, hw1, _, _⟩
    obtain ⟨b0, b1, b2, b3, b4, b5, hrc⟩ := rvC_b x
    rw [hrc] at he
    subst he
    clear hrc
    have HW1 := Lib.hid (((Ext.refl w).alloc _).trans hw1)
    clear hw1
    go_wp2
    go_ret2
    exact ⟨rfl, HW1.out.alloc _⟩
  | true =>
    have hokr := ali_ok hal
    have hR : replL (fb, ob) s.data.toList = if (parseP EC s.data.toList).2 = 0 then (if fitsP (ruleOf (fb, ob)) (parseP EC s.data.toList).1 = true then (if 4 < (replP (ruleOf (fb, ob)) (parseP EC s.data.toList).1).vars.length then ([], 6) else (textP (replP (ruleOf (fb, ob)) (parseP EC s.data.toList).1), 0)) else ([], 8)) else ([], (parseP EC s.data.toList).2) := by
      unfold replL; rw [if_pos hal]
    rw [hR]
    unfold RetRule at hrd
    rw [hal] at hrd
    have hpa := fun W hW => tparse_fresh s W hW hs
    have hvt := @parse_ok s.data.toList
    generalize parseP EC s.data.toList = PR at hpa hvt ⊢
    obtain ⟨t, e0⟩ := PR
    simp only at hpa hvt ⊢
    obtain ⟨lb, hlb, _⟩ := strv_b t.lang
    obtain ⟨sb, hsb, _⟩ := strv_b t.script
    obtain ⟨rb, hrb, _⟩ := strv_b t.region
    unfold tagV at hpa
    rw [hlb, hsb, hrb] at hpa
    have HRD := Lib.hid hrd
    have HPA := Lib.hid hpa
    have HB := Lib.hid (And.intro hlb (And.intro hsb hrb))
    have HOK := Lib.hid hokr
    have HVT := Lib.hid hvt
    clear hrd hpa hR hal hlb hsb hrb hokr hvt
    by_cases he0 : e0 = 0
    · subst he0
      simp only [if_true]
      have hv := HVT.out rfl
      have hrv8 := repl_len HOK.out hv
      have hrvl := fun h4 => repl_valid HOK.out hv h4
      have hfit := fun (x : RV) W (hx : x.r = ruleOf (fb, ob)) h B m d hB hm3 h4 => by have h := fits_any x t B m d W h hB hm3 h4; rw [hx] at h; exact h
      have hrep := fun (x : RV) W (hx : x.r = ruleOf (fb, ob)) h B m d hB hm3 h4 h5 => by
        have h := trep_any x t B m d W h hB hm3 h4 h5 (by rw [hx]; exact (valid_parts HOK.out.2).2.2.2.2.2.1) (valid_parts hv).2.2.2.2.2.1 (TL_of hv) (by rw [hx]; exact TL_of HOK.out.2)
        rw [hx] at h
        exact h
      have hn60 : ∀ B m (W : World), Sl W B m (t.vars.map strv) → m ≤ 60000 := fun B m W h => n_le h (TL_of hv)
      have hx60 : ∀ (x : RV) (W : World), x.r = ruleOf (fb, ob) → RvOk W x → x.n ≤ 60000 ∧ x.m ≤ 60000 := fun x W hx h => ⟨n_le h.1 (by rw [hx]; exact TL_of HOK.out.1), n_le h.2 (by rw [hx]; exact TL_of HOK.out.2)⟩
      generalize fitsP (ruleOf (fb, ob)) t = bf at hfit ⊢
      generalize replP (ruleOf (fb, ob)) t = u at hrep hrv8 hrvl ⊢
      have htx := fun h4 A n c W h => tText_any u A n c W h (TL_of (hrvl h4))
      have htt : ∀ h4 : u.vars.length ≤ 4, txtOf u = textP u := fun h4 => by unfold txtOf; rw [if_pos (hrvl h4)]
      obtain ⟨ul, hul, _⟩ := strv_b u.lang
      obtain ⟨us, hus, _⟩ := strv_b u.script
      obtain ⟨ur, hur, _⟩ := strv_b u.region
      obtain ⟨xb, hxb, _⟩ := strv_b (textP u)
      unfold tagV at hfit hrep htx
      unfold RetTag tagV at hrep
      rw [HB.out.1, HB.out.2.1, HB.out.2.2] at hfit hrep
      rw [hul, hus, hur] at hrep htx
      have HFIT := Lib.hid hfit
      have HREP := Lib.hid hrep
      have HTX := Lib.hid (fun h4 A n c W h => by have g := htx h4 A n c W h; rw [htt h4, hxb] at g; exact g)
      have HXB := Lib.hid hxb
      have HN60 := Lib.hid hn60
      have HX60 := Lib.hid hx60
      clear hfit hrep htx htt hul hus hur hxb hn60 hx60 hrvl hv hrv8
      cases bf with
      | false =>
        simp only [Bool.false_eq_true, if_false]
        go_enter Tryd.func10, Tryd.ntmps10
        go_wp2_with fail
        refine (HRD.out _ (hm.ext ((Ext.refl w).alloc _))).mono ?_
        rintro e w1 ⟨x, he, hxr, hrv, hw1, _, _⟩
        obtain ⟨b0, b1, b2, b3, b4, b5, hrc⟩ := rvC_b x
        rw [hrc] at he
        subst he
        have hft := fun W => HFIT.out x W hxr
        rw [hrc] at hft
        have HFT := Lib.hid hft
        have HXN := Lib.hid (HX60.out x _ hxr hrv)
        have HRV := Lib.hid hrv
        have HW1 := Lib.hid (((Ext.refl w).alloc (.cells #[.string fb, .string ob] 34)).trans hw1)
        clear hrc hft hxr hrv hw1
        go_wp2_with fail
        refine (HPA.out _ (hm.ext (HW1.out.alloc _))).mono ?_
        rintro e w2 ⟨A2, n2, c2, rfl, hs2, _, hw2, _⟩
        have hk := ((AtC.new w1 #[.string b0, .string b1, .string b2, .slice x.A x.n x.c, .string b3, .string b4, .string b5, .slice x.B x.m x.d] : AtC 47 _ _ _).ext hw2).alloc (.cells #[.string lb, .string sb, .string rb, .slice A2 n2 c2] 42)
        have c0 := hk.cell 0 _ rfl
        have c1 := hk.cell 1 _ rfl
        have c2' := hk.cell 2 _ rfl
        have c3 := hk.cell 3 _ rfl
        have c4 := hk.cell 4 _ rfl
        have c5 := hk.cell 5 _ rfl
        have c6 := hk.cell 6 _ rfl
        have c7 := hk.cell 7 _ rfl
        have HW2 := Lib.hid ((HW1.out.alloc (.cells #[.string b0, .string b1, .string b2, .slice x.A x.n x.c, .string b3, .string b4, .string b5, .slice x.B x.m x.d] 47)).trans hw2)
        have HRV2 := Lib.hid (((HRV.out.ext ((Ext.refl w1).alloc (.cells #[.string b0, .string b1, .string b2, .slice x.A x.n x.c, .string b3, .string b4, .string b5, .slice x.B x.m x.d] 47))).ext hw2).ext ((Ext.refl w2).alloc (.cells #[.string lb, .string sb, .string rb, .slice A2 n2 c2] 42)))
        have HS2 := Lib.hid (hs2.ext ((Ext.refl w2).alloc (.cells #[.string lb, .string sb, .string rb, .slice A2 n2 c2] 42)))
        have HN2 := Lib.hid (HN60.out A2 n2 _ hs2)
        clear hk hw2 hs2
        go_wp2_with fail
        refine (HFT.out _ HRV2.out A2 n2 c2 HS2.out HN2.out HXN.out.1).mono ?_
        rintro e w3 ⟨rfl, hw3⟩
        have HW3 := Lib.hid ((HW2.out.alloc _).trans hw3)
        clear hw3
        go_wp2
        go_ret2
        exact ⟨rfl, HW3.out⟩
      | true =>
        simp only [if_true]
        by_cases h4 : 4 < u.vars.length
        all_goals first | rw [if_pos h4] | rw [if_neg h4]
        all_goals
          go_enter Tryd.func10, Tryd.ntmps10
          go_wp2_with fail
          refine (HRD.out _ (hm.ext ((Ext.refl w).alloc _))).mono ?_
          rintro e w1 ⟨x, he, hxr, hrv, hw1, _, _⟩
          obtain ⟨b0, b1, b2, b3, b4, b5, hrc⟩ := rvC_b x
          rw [hrc] at he
          subst he
          have hft := fun W => HFIT.out x W hxr
          have hrp := fun W => HREP.out x W hxr
          rw [hrc] at hft hrp
          have HFT := Lib.hid hft
          have HRP := Lib.hid hrp
          have HXN := Lib.hid (HX60.out x _ hxr hrv)
          have HRV := Lib.hid hrv
          have HW1 := Lib.hid (((Ext.refl w).alloc (.cells #[.string fb, .string ob] 34)).trans hw1)
          clear hrc hft hrp hxr hrv hw1
          go_wp2_with fail
          refine (HPA.out _ (hm.ext (HW1.out.alloc _))).mono ?_
          rintro e w2 ⟨A2, n2, c2, rfl, hs2, _, hw2, _⟩
          have hk := ((AtC.new w1 #[.string b0, .string b1, .string b2, .slice x.A x.n x.c, .string b3, .string b4, .string b5, .slice x.B x.m x.d] : AtC 47 _ _ _).ext hw2).alloc (.cells #[.string lb, .string sb, .string rb, .slice A2 n2 c2] 42)
          have HK := Lib.hid hk
          have c0 := hk.cell 0 _ rfl
          have c1 := hk.cell 1 _ rfl
          have c2' := hk.cell 2 _ rfl
          have c3 := hk.cell 3 _ rfl
          have c4 := hk.cell 4 _ rfl
          have c5 := hk.cell 5 _ rfl
          have c6 := hk.cell 6 _ rfl
          have c7 := hk.cell 7 _ rfl
          have HBX := Lib.hid (AtT.new w2 : AtT 42 (w2.alloc (.cells #[.string lb, .string sb, .string rb, .slice A2 n2 c2] 42)) w2.heap.size (.string lb) (.string sb) (.string rb) (.slice A2 n2 c2))
          have HW2 := Lib.hid ((HW1.out.alloc (.cells #[.string b0, .string b1, .string b2, .slice x.A x.n x.c, .string b3, .string b4, .string b5, .slice x.B x.m x.d] 47)).trans hw2)
          have HRV2 := Lib.hid (((HRV.out.ext ((Ext.refl w1).alloc (.cells #[.string b0, .string b1, .string b2, .slice x.A x.n x.c, .string b3, .string b4, .string b5, .slice x.B x.m x.d] 47))).ext hw2).ext ((Ext.refl w2).alloc (.cells #[.string lb, .string sb, .string rb, .slice A2 n2 c2] 42)))
          have HS2 := Lib.hid (hs2.ext ((Ext.refl w2).alloc (.cells #[.string lb, .string sb, .string rb, .slice A2 n2 c2] 42)))
          have HN2 := Lib.hid (HN60.out A2 n2 _ hs2)
          clear hk hw2 hs2
          go_wp2_with fail
          refine (HFT.out _ HRV2.out A2 n2 c2 HS2.out HN2.out HXN.out.1).mono ?_
          rintro e w3 ⟨rfl, hw3⟩
          have HW3 := Lib.hid ((HW2.out.alloc (.cells #[.string lb, .string sb, .string rb, .slice A2 n2 c2] 42)).trans hw3)
          have HRV3 := Lib.hid (HRV2.out.ext hw3)
          have HS3 := Lib.hid (HS2.out.ext hw3)
          have HBX3 := Lib.hid (HBX.out.ext hw3)
          have hk3 := HK.out.ext hw3
          clear c0 c1 c2' c3 c4 c5 c6 c7 hw3
          have c0 := hk3.cell 0 _ rfl
          have c1 := hk3.cell 1 _ rfl
          have c2' := hk3.cell 2 _ rfl
          have c3 := hk3.cell 3 _ rfl
          have c4 := hk3.cell 4 _ rfl
          have c5 := hk3.cell 5 _ rfl
          have c6 := hk3.cell 6 _ rfl
          have c7 := hk3.cell 7 _ rfl
          obtain ⟨⟨p0, p1, p2, p3⟩, _⟩ := HBX3.out.cells
          clear hk3
          go_wp2_with fail
          refine (HRP.out _ HRV3.out A2 n2 c2 HS3.out HN2.out HXN.out.1 HXN.out.2).mono ?_
          rintro e w4 ⟨A4, n4, c4', rfl, hs4, _, hw4, hf4⟩
          have hn4 : u.vars.length = n4 := by have := hs4.1; rwa [List.length_map] at this
          have HW4 := Lib.hid (HW3.out.trans hw4)
          have HS4 := Lib.hid hs4
          have HF4 := Lib.hid hf4
          have HGL := Lib.hid HBX3.out.lt
          clear c0 c1 c2' c3 c4 c5 c6 c7 p0 p1 p2 p3 
          obtain ⟨⟨p0, p1, p2, p3⟩, ⟨f0, f1, f2, f3⟩⟩ := (HBX3.out.ext hw4).cells
          have HSET := Lib.hid (set4 (HBX3.out.ext hw4) (.string ul) (.string us) (.string ur) (.slice A4 n4 c4'))
          clear hw4 hs4 hf4
        · have h4I : (4 : Int) < (n4 : Int) := by omega
          clear hn4
          go_wp2
          go_ret2
          exact ⟨rfl, (((HW4.out.setCell (HW2.out.size) _).setCell (HW2.out.size) _).setCell (HW2.out.size) _).setCell (HW2.out.size) _⟩
        · have h4I : ¬ (4 : Int) < (n4 : Int) := by omega
          clear hn4
          go_wp2_with fail
          have hsl : Sl ((((w4.setCell ⟨w2.heap.size, 0, none⟩ (.string ul)).setCell ⟨w2.heap.size, 1, none⟩ (.string us)).setCell ⟨w2.heap.size, 2, none⟩ (.string ur)).setCell ⟨w2.heap.size, 3, none⟩ (.slice A4 n4 c4')) A4 n4 (u.vars.map strv) :=
            HS4.out.kept (kept_set4 w4 w2.heap.size _ _ _ _) (fun ad had h => by
              injection h with h
              have h1 := HF4.out ad had
              have h2 := HGL.out
              omega)
          refine (HTX.out (by omega) A4 n4 c4' _ hsl).mono ?_
          rintro e w5 ⟨rfl, hw5⟩
          have HW5 := Lib.hid (((((HW4.out.setCell (HW2.out.size) _).setCell (HW2.out.size) _).setCell (HW2.out.size) _).setCell (HW2.out.size) _).trans hw5)
          clear hw5 hsl
          go_wp2
          go_ret2
          exact ⟨by show _ = Ending.returned (.tuple #[strv (textP u), .int .i64 0]); rw [HXB.out]; rfl, HW5.out⟩
    · simp only [if_neg he0]
      have hb1 : (e0 == 0) = false := by simpa using he0
      go_enter Tryd.func10, Tryd.ntmps10
      go_wp2_with fail
      refine (HRD.out _ (hm.ext ((Ext.refl w).alloc _))).mono ?_
      rintro e w1 ⟨x, he, hxr, hrv, hw1, _, _⟩
      obtain ⟨b0, b1, b2, b3, b4, b5, hrc⟩ := rvC_b x
      rw [hrc] at he
      subst he
      have HW1 := Lib.hid (((Ext.refl w).alloc (.cells #[.string fb, .string ob] 34)).trans hw1)
      clear hrc hxr hrv hw1
      go_wp2_with fail
      refine (HPA.out _ (hm.ext (HW1.out.alloc _))).mono ?_
      rintro e w2 ⟨A2, n2, c2, rfl, hs2, _, hw2, _⟩
      have HW2 := Lib.hid ((HW1.out.alloc (.cells #[.string b0, .string b1, .string b2, .slice x.A x.n x.c, .string b3, .string b4, .string b5, .slice x.B x.m x.d] 47)).trans hw2)
      clear hw2 hs2
      go_wp2
      go_ret2
      exact ⟨rfl, HW2.out.alloc _⟩
end Go.Proofs.YtcfgphhhgemkdaaDoor
