import Derived.Test.YtehcldnicefmeaaGreatDoorNX6
import Derived.Test.YtehcldnicefmeaaGreatDoorNX4
import Derived.Test.YtehcldnicefmeaaGreatDoorNXA
import Derived.Test.YtehcldnicefmeaaGreatDoorRPar
import Derived.Test.YtehcldnicefmeaaGreatDoorNX7
import Derived.Test.YtehcldnicefmeaaGreatDoorRVal
import Derived.Test.YtehcldnicefmeaaGreatDoorNX5
namespace Go.Proofs.YtehcldnicefmeaaGreatDoor
open Go.RowKit
set_option linter.unusedSimpArgs false
set_option linter.unusedVariables false

set_option maxHeartbeats 1000000 in
set_option maxRecDepth 100000 in
theorem requal_any (t u : TagP) (A B : Option Addr) (n c m d : Nat) (w : World) (hA : Sl w A n (t.vars.map strv)) (hB : Sl w B m (u.vars.map strv)) (hn : n ≤ 60000) (hm : m ≤ 60000) :
    Calls Tryz.prog 135 #[tagV t A n c, tagV u B m d] w fun e w' => e = .returned (.bool (eqP t u)) ∧ Ext w w' := by
  obtain ⟨lb, hl1, hl2⟩ := strv_b t.lang
  obtain ⟨sb, hs1, hs2⟩ := strv_b t.script
  obtain ⟨rb, hr1, hr2⟩ := strv_b t.region
  obtain ⟨lc, hl3, hl4⟩ := strv_b u.lang
  obtain ⟨sc, hs3, hs4⟩ := strv_b u.script
  obtain ⟨rc, hr3, hr4⟩ := strv_b u.region
  have he : eqP t u = ((lb.toList == lc.toList) && (sb.toList == sc.toList) && (rb.toList == rc.toList) && (t.vars == u.vars)) := by
    unfold eqP
    rw [eq_b, eq_b, eq_b, hl2, hs2, hr2, hl4, hs4, hr4]
  unfold tagV
  rw [hl1, hs1, hr1, hl3, hs3, hr3, he]
  have HA := Lib.hid (hA.ext (((Ext.refl w).alloc (.cells #[.string lb, .string sb, .string rb, .slice A n c] 167)).alloc (.cells #[.string lc, .string sc, .string rc, .slice B m d] 167)))
  have HB := Lib.hid (hB.ext (((Ext.refl w).alloc (.cells #[.string lb, .string sb, .string rb, .slice A n c] 167)).alloc (.cells #[.string lc, .string sc, .string rc, .slice B m d] 167)))
  clear hl1 hs1 hr1 hl2 hs2 hr2 hl3 hs3 hr3 hl4 hs4 hr4 he hA hB
  have hcall := samestr_any _ _ _ _ _ _ c d _ HA.out HB.out (by unfold maxLen; omega) (by unfold maxLen; omega)
  generalize (t.vars == u.vars) = bv at hcall ⊢
  have HC := Lib.hid hcall
  clear hcall
  cases h1 : (lb.toList == lc.toList) <;> cases h2 : (sb.toList == sc.toList) <;> cases h3 : (rb.toList == rc.toList)
  all_goals
    go_enter Tryz.func135, Tryz.ntmps135
    go_wp2_with (go_at_call 15; with_reducible refine HC.out.mono ?_; rintro e w1 ⟨rfl, hw1⟩; have HW1 := Lib.hid hw1; clear hw1)
    go_ret
    first
      | exact ⟨rfl, ((Ext.refl w).alloc _).alloc _⟩
      | exact ⟨by simp, (((Ext.refl w).alloc _).alloc _).trans HW1.out⟩
end Go.Proofs.YtehcldnicefmeaaGreatDoor
namespace Go.Proofs.YtehcldnicefmeaaGreatDoor
open Go.RowKit
set_option linter.unusedSimpArgs false
set_option linter.unusedVariables false

/-! The requested and the supported tags, by the reference. -/
set_option maxHeartbeats 4000000 in
set_option maxRecDepth 100000 in
theorem rboth_any (l : List Nr) (L : Option Addr) (ln lc : Nat) (R S : List ByteArray) (A B : Option Addr) (n c m d : Nat) (w : World) (hL : Nrs w L ln l) (hln : ln ≤ maxLen) (hz : ∀ x ∈ l, x.f.size ≤ 1000000 ∧ x.o.size ≤ 1000000)
    (hA : Sl w A n (R.map .string)) (hB : Sl w B m (S.map .string)) (hn : n ≤ 100000) (hm : m ≤ 100000) (hR : ∀ s ∈ R, s.size ≤ 60000) (hS : ∀ s ∈ S, s.size ≤ 60000) :
    Calls Tryz.prog 103 #[.slice L ln lc, .slice A n c, .slice B m d] w (RetBoth w (l.map nearOf) (dl R) (dl S)) := by
  obtain ⟨D, hD⟩ : ∃ D, D = bothL EC (l.map nearOf) (dl R) (dl S) := ⟨_, rfl⟩
  have G1 := fun W (h : Ext w W) => rvalN_any l L ln lc W (hL.ext h) hln hz
  have K2 := Lib.hid (fun W (h : Ext w W) => rtags_any R A n c W (hA.ext h) hn hR)
  have K3 := Lib.hid (fun W (h : Ext w W) => rtags_any S B m d W (hB.ext h) hm hS)
  have HD := Lib.hid hD
  have hSl : S.length = m := by have := hB.1; simpa using this
  have HS := Lib.hid hSl
  clear hD hL hA hB hSl
  cases hv : validN (l.map nearOf) with
  | false =>
    rw [hv] at G1
    have K1 := Lib.hid G1
    have HD2 := Lib.hid (show bothL EC (l.map nearOf) (dl R) (dl S) = (([], []), 1) from by unfold bothL; rw [if_neg (by rw [hv]; decide)])
    clear G1 hv
    go_enter Tryz.func103, Tryz.ntmps103
    go_wp2_with fail
    refine (K1.out _ (Ext.refl _)).mono ?_
    rintro e w1 ⟨rfl, hw1⟩
    have HW1 := Lib.hid hw1
    clear hw1
    go_wp2
    go_ret3
    exact both_none HD2.out HW1.out
  | true =>
    rw [hv] at G1
    have K1 := Lib.hid G1
    have HV := Lib.hid hv
    clear G1 hv
    go_enter Tryz.func103, Tryz.ntmps103
    go_wp2_with fail
    refine (K1.out _ (Ext.refl _)).mono ?_
    rintro e w1 ⟨rfl, hw1⟩
    have HW1 := Lib.hid hw1
    clear hw1
    go_wp2_with fail
    refine (K2.out _ HW1.out).mono ?_
    rintro e w2 ⟨A2, n2, c2, xs, rfl, htg, hmap, hw2⟩
    have HW2 := Lib.hid (HW1.out.trans hw2)
    have HTG := Lib.hid htg
    have HMAP := Lib.hid hmap
    clear hw2 htg hmap
    by_cases h0 : (readP EC (dl R)).2 = 0
    rotate_left
    · have hnz : ((readP EC (dl R)).2 == 0) = false := by simpa using h0
      have HD2 := Lib.hid (show bothL EC (l.map nearOf) (dl R) (dl S) = (([], []), (readP EC (dl R)).2) from by unfold bothL; rw [if_pos HV.out, if_neg h0])
      go_wp2
      go_ret3
      exact both_none HD2.out HW2.out
    have h0' : ((readP EC (dl R)).2 == 0) = true := by simpa using h0
    go_wp2_with fail
    refine (K3.out _ HW2.out).mono ?_
    rintro e w3 ⟨B2, m2, d2, ys, rfl, htg3, hmap3, hw3⟩
    have HW3 := Lib.hid (HW2.out.trans hw3)
    have HTX := Lib.hid (HTG.out.ext hw3)
    have HTY := Lib.hid htg3
    have HMAPY := Lib.hid hmap3
    clear hw3 htg3 hmap3
    by_cases h1 : (readP EC (dl S)).2 = 0
    rotate_left
    · have hnz : ((readP EC (dl S)).2 == 0) = false := by simpa using h1
      have HD2 := Lib.hid (show bothL EC (l.map nearOf) (dl R) (dl S) = (([], []), (readP EC (dl S)).2) from by unfold bothL; rw [if_pos HV.out, if_pos h0, if_neg h1])
      go_wp2
      go_ret3
      exact both_none HD2.out HW3.out
    have h1' : ((readP EC (dl S)).2 == 0) = true := by simpa using h1
    have HH0 := Lib.hid h0
    have HH1 := Lib.hid h1
    have hgood : ∀ x ∈ ys, GoodT x.t := fun x hx => read_good (l := dl S) (by rw [← HMAPY.out]; exact List.mem_map.2 ⟨x, hx, rfl⟩)
    have HG := Lib.hid hgood
    have hylen := HTY.out.len
    have hm2 : m2 ≤ 100000 := by
      have h := congrArg List.length HMAPY.out
      rw [read_eq h1, List.length_map, List.length_map] at h
      have h2 : (dl S).length = S.length := by simp [dl]
      have h3 := HS.out
      omega
    clear h0 h1 hgood
    go_wp2_with fail
    go_loopw [12] (ApInv w3 (ys.map (·.t)) m2) (fun i _ => m2 - (intOf i).toNat)
    case atStart => exact ⟨0, Nat.zero_le _, rfl, rfl, Ext.refl _⟩
    case round =>
      obtain ⟨k, hk, rfl, hap, hw⟩ := hrel
      have HAP := Lib.hid hap
      have HWR := Lib.hid hw
      clear hap hw
      by_cases hkn : k < m2
      · obtain ⟨x, hx⟩ : ∃ x, ys[k]? = some x := ⟨_, List.getElem?_eq_getElem (by omega)⟩
        have HX := Lib.hid hx
        have hkI : (k : Int) < (m2 : Int) := by omega
        obtain ⟨bb, oo, rfl⟩ := HTY.out.some_ hx
        clear hx
        go_wp2_with fail
        go_loopw [13] (ApIn wr (ys.map (·.t)) x.t k) (fun i _ => k - (intOf i).toNat)
        case atStart => exact ⟨0, Nat.zero_le _, rfl, rfl, Ext.refl _⟩
        case round =>
          obtain ⟨j, hj, rfl, hnew, hw⟩ := hrel
          have HNEW := Lib.hid hnew
          have HWJ := Lib.hid hw
          clear hnew hw
          by_cases hjk : j < k
          · obtain ⟨y, hy⟩ : ∃ y, ys[j]? = some y := ⟨_, List.getElem?_eq_getElem (by omega)⟩
            have HY := Lib.hid hy
            have hjI : (j : Int) < (k : Int) := by omega
            have hjnI : (j : Int) < (m2 : Int) := by omega
            have gx := HG.out x (List.mem_of_getElem? HX.out)
            have gy := HG.out y (List.mem_of_getElem? hy)
            have ox := HTY.out.ok HX.out
            have oy := HTY.out.ok hy
            have nx := n_le ox gx.1
            have ny := n_le oy gy.1
            have E1 := fun (v : ExtW _) => HWR.out.trans (HWJ.out.trans v.h)
            have G2 := fun (v : ExtW _) => requal_any x.t y.t x.A y.A x.n x.c y.n y.c v.v (ox.ext (E1 v)) (oy.ext (E1 v)) nx ny
            have a0 := fun (v : ExtW _) => (HTY.out.cells HX.out v.v (E1 v)).1
            have a1 := fun (v : ExtW _) => (HTY.out.cells HX.out v.v (E1 v)).2.1
            have a2 := fun (v : ExtW _) => (HTY.out.cells HX.out v.v (E1 v)).2.2.1
            have a3 := fun (v : ExtW _) => (HTY.out.cells HX.out v.v (E1 v)).2.2.2
            have d0 := fun (v : ExtW _) => (HTY.out.cells hy v.v (E1 v)).1
            have d1 := fun (v : ExtW _) => (HTY.out.cells hy v.v (E1 v)).2.1
            have d2 := fun (v : ExtW _) => (HTY.out.cells hy v.v (E1 v)).2.2.1
            have d3 := fun (v : ExtW _) => (HTY.out.cells hy v.v (E1 v)).2.2.2
            obtain ⟨tl, htl, _⟩ := strv_b x.t.lang
            obtain ⟨ts, hts, _⟩ := strv_b x.t.script
            obtain ⟨tr, htr, _⟩ := strv_b x.t.region
            obtain ⟨ul, hul, _⟩ := strv_b y.t.lang
            obtain ⟨us, hus, _⟩ := strv_b y.t.script
            obtain ⟨ur, hur, _⟩ := strv_b y.t.region
            unfold tagV at G2
            simp only [htl, hts, htr, hul, hus, hur] at G2
            rw [htl] at a0
            rw [hts] at a1
            rw [htr] at a2
            rw [hul] at d0
            rw [hus] at d1
            rw [hur] at d2
            have HQ := Lib.hid (good_eq gx gy)
            clear hy gx gy ox oy nx ny htl hts htr hul hus hur E1
            cases hq : eqP x.t y.t with
            | true =>
              rw [hq] at G2
              have K4 := Lib.hid G2
              have HD2 := Lib.hid (show bothL EC (l.map nearOf) (dl R) (dl S) = (([], []), 9) from by
                have hbad : apartT (readP EC (dl S)).1 = false := by
                  rw [← HMAPY.out]
                  exact apart_bad (j := j) (k := k) (y := y.t) (x := x.t) (by rw [List.getElem?_map, HY.out]; rfl) (by rw [List.getElem?_map, HX.out]; rfl) hjk (by have := HQ.out; rw [hq] at this; simpa using this)
                unfold bothL; rw [if_pos HV.out, if_pos HH0.out, if_pos HH1.out, if_neg (by rw [hbad]; decide)])
              clear G2 hq
              go_wp2_with fail
              refine wp_region_ext (by kernel_rfl) (by kernel_rfl) ?_
              repeat (go_big_quiet_step ((go_at_call 135; with_reducible exact ExtW.call (K4.out _))))
              refine wpQuiet_nil ?_
              intro wz hz
              have HZZ := Lib.hid (HW3.out.trans (HWR.out.trans (HWJ.out.trans (ext_of hz))))
              clear hz
              go_wp2
              all_goals go_ret3
              exact both_none HD2.out HZZ.out
            | false =>
              rw [hq] at G2
              have K4 := Lib.hid G2
              have HNX := Lib.hid (show newT ((ys.map (·.t)).take (j + 1)) x.t = true from by
                rw [newT_next (y := y.t) (by rw [List.getElem?_map, HY.out]; rfl), HNEW.out, HQ.out, hq]; rfl)
              clear G2 hq
              go_wp2_with fail
              refine wp_region_ext (by kernel_rfl) (by kernel_rfl) ?_
              repeat (go_big_quiet_step ((go_at_call 135; with_reducible exact ExtW.call (K4.out _))))
              refine wpQuiet_nil ?_
              intro wz hz
              have HZZ := Lib.hid (HWJ.out.trans (ext_of hz))
              clear hz
              go_wp2
              exact ⟨⟨j + 1, by omega, by go_num, HNX.out, HZZ.out⟩, by simp [intOf]; omega⟩
          · have hjj : j = k := by omega
            subst hjj
            go_wp2
            exact ⟨⟨j + 1, by omega, by go_num, by rw [apart_next (x := x.t) (by rw [List.getElem?_map, HX.out]; rfl), HAP.out, HNEW.out]; rfl, HWR.out.trans HWJ.out⟩, by simp [intOf]; omega⟩
      · have hkk : k = m2 := by omega
        subst hkk
        have hap : apartT (readP EC (dl S)).1 = true := by
          have h := HAP.out
          rw [List.take_of_length_le (by rw [List.length_map]; omega), HMAPY.out] at h
          exact h
        have HD2 := Lib.hid (both_of HV.out HH0.out HH1.out hap)
        clear hap
        go_wp2
        go_ret3
        exact ⟨A2, n2, c2, xs, B2, k, d2, ys, by rw [HD2.out]; rfl, HTX.out.ext HWR.out, HTY.out.ext HWR.out, by rw [HD2.out]; exact HMAP.out, by rw [HD2.out]; exact HMAPY.out, HW3.out.trans HWR.out⟩
end Go.Proofs.YtehcldnicefmeaaGreatDoor
namespace Go.Proofs.YtehcldnicefmeaaGreatDoor
open Go.RowKit
set_option linter.unusedSimpArgs false
set_option linter.unusedVariables false

theorem cat_val (l : List UInt8) (xb : ByteArray) : Value.string ((⟨l.toArray⟩ : ByteArray) ++ (⟨#[45]⟩ ++ xb)) = strv (l ++ 45 :: xb.data.toList) := by
  unfold strv
  congr 1
theorem cat_b (a xb : ByteArray) : Value.string (a ++ (⟨#[45]⟩ ++ xb)) = strv (a.data.toList ++ 45 :: xb.data.toList) := by
  unfold strv
  congr 1
theorem cat_b2 (a xb yb : ByteArray) : Value.string (a ++ (⟨#[45]⟩ ++ xb) ++ (⟨#[45]⟩ ++ yb)) = strv (a.data.toList ++ 45 :: xb.data.toList ++ 45 :: yb.data.toList) := by
  unfold strv
  congr 1

theorem optP_nil : optP [] = [] := rfl
theorem optP_ne {x : List UInt8} (h : ¬ x = []) : optP x = 45 :: x := by unfold optP; rw [if_neg (by simpa using h)]
def TxInv (w : World) (t : TagP) (A : Option Addr) (n c : Nat) (s i : Value) (wr : World) : Prop :=
  ∃ k : Nat, k ≤ n ∧ i = .int .i64 k ∧ s = strv (t.lang ++ optP t.script ++ optP t.region ++ ((t.vars.take k).map fun x => 45 :: x).flatten) ∧
    AtT 167 wr w.heap.size (strv t.lang) (strv t.script) (strv t.region) (.slice A n c) ∧ Sl wr A n (t.vars.map strv) ∧ Ext w wr
theorem tx_len {t : TagP} (h : validP t = true) (k : Nat) : (t.lang ++ optP t.script ++ optP t.region ++ ((t.vars.take k).map fun x => 45 :: x).flatten).length ≤ 60 := by
  have h1 := textP_len h
  rw [← text_eq t h] at h1
  unfold textR at h1
  have h2 : ((t.vars.take k).map fun x => (45 : UInt8) :: x).flatten.length ≤ ((t.vars).map fun x => (45 : UInt8) :: x).flatten.length := by
    conv => rhs; rw [← List.take_append_drop k t.vars]
    rw [List.map_append, List.flatten_append, List.length_append]
    omega
  simp only [List.length_append] at h1 ⊢
  omega

theorem TS_of {t : TagP} (h : validP t = true) : t.lang.length ≤ 60000 ∧ t.script.length ≤ 60000 ∧ t.region.length ≤ 60000 ∧ (∀ x ∈ t.vars, x.length ≤ 60000) ∧ t.vars.length ≤ 60000 := by
  have h2 := h
  simp only [validP, Bool.and_eq_true, decide_eq_true_eq] at h
  obtain ⟨⟨⟨⟨⟨v1, v2⟩, v3⟩, v4⟩, v5⟩, v6⟩ := h
  refine ⟨?_, ?_, ?_, ?_, by omega⟩
  · simp [langB] at v1; omega
  · by_cases hs : t.script = []
    · simp [hs]
    · have : scriptB t.script = true := by simpa [hs] using v2
      simp [scriptB] at this; omega
  · by_cases hs : t.region = []
    · simp [hs]
    · have : regionB t.region = true := by simpa [hs] using v3
      simp [regionB] at this; omega
  · intro x hx
    have := List.all_eq_true.1 v4 x hx
    simp [variantB] at this
    omega
set_option maxHeartbeats 4000000 in
set_option maxRecDepth 100000 in
theorem rText_any (t : TagP) (A : Option Addr) (n c : Nat) (w : World) (hA : Sl w A n (t.vars.map strv)) (ht : TL t) :
    Calls Tryz.prog 117 #[tagV t A n c] w fun e w' => e = .returned (strv (txtOf t)) ∧ Ext w w' := by
  have hl : t.vars.length = n := by have := hA.1; rwa [List.length_map] at this
  have hn : n ≤ 60000 := by rw [← hl]; exact ht.2.2.2.2
  have HA := Lib.hid hA
  have HT := Lib.hid ht
  have HL := Lib.hid hl
  clear hA ht hl
  cases hv : validP t with
  | false =>
    have HV := Lib.hid hv
    have ho : txtOf t = [] := by unfold txtOf; rw [hv]; rfl
    rw [ho]
    clear hv ho
    go_enter Tryz.func117, Tryz.ntmps117
    unfold tagV strv
    go_wp2_with fail
    have h2 := rvalid_any t A n c (w.alloc (.cells #[strv t.lang, strv t.script, strv t.region, .slice A n c] 167)) (HA.out.ext ((Ext.refl w).alloc _)) HT.out
    rw [HV.out] at h2
    unfold tagV strv at h2
    with_reducible refine h2.mono ?_
    clear h2
    rintro e w2 ⟨rfl, hw2⟩
    have HW2 := Lib.hid (((Ext.refl w).alloc _).trans hw2)
    clear hw2
    go_wp2
    go_ret
    exact ⟨rfl, HW2.out⟩
  | true =>
    have HV := Lib.hid hv
    have ho : txtOf t = textR t := by unfold txtOf; rw [hv, text_eq t hv]; rfl
    have HO := Lib.hid ho
    obtain ⟨lb, hl1, hl2⟩ := strv_b t.lang
    obtain ⟨sb, hs1, hs2⟩ := strv_b t.script
    obtain ⟨rb, hr1, hr2⟩ := strv_b t.region
    have HS := Lib.hid (And.intro hl1 (And.intro hs1 hr1))
    have HE := Lib.hid (And.intro hl2 (And.intro hs2 hr2))
    have b1 : lb.size ≤ 60000 := by rw [← size_list, hl2]; exact (TS_of HV.out).1
    have b2 : sb.size ≤ 60000 := by rw [← size_list, hs2]; exact (TS_of HV.out).2.1
    have b3 : rb.size ≤ 60000 := by rw [← size_list, hr2]; exact (TS_of HV.out).2.2.1
    rw [ho]
    unfold tagV
    rw [hl1, hs1, hr1]
    clear hv ho hl1 hs1 hr1 hl2 hs2 hr2
    go_enter Tryz.func117, Tryz.ntmps117
    go_wp2_with fail
    have h2 := rvalid_any t A n c (w.alloc (.cells #[strv t.lang, strv t.script, strv t.region, .slice A n c] 167)) (HA.out.ext ((Ext.refl w).alloc _)) HT.out
    rw [HV.out] at h2
    unfold tagV at h2
    rw [HS.out.1, HS.out.2.1, HS.out.2.2] at h2
    with_reducible refine h2.mono ?_
    clear h2
    rintro e w2 ⟨rfl, hw2⟩
    have HW2 := Lib.hid (((Ext.refl w).alloc _).trans hw2)
    have hat := AtT.ext (AtT.new w : AtT 167 (w.alloc (.cells #[.string lb, .string sb, .string rb, .slice A n c] 167)) w.heap.size _ _ _ _) hw2
    obtain ⟨⟨p0, p1, p2, p3⟩, _⟩ := hat.cells
    have HAT := Lib.hid (show AtT 167 w2 w.heap.size (strv t.lang) (strv t.script) (strv t.region) (.slice A n c) from by rw [HS.out.1, HS.out.2.1, HS.out.2.2]; exact hat)
    clear hw2 hat
    have start : ∀ v, v = strv (t.lang ++ optP t.script ++ optP t.region) → TxInv w t A n c v (.int .i64 0) w2 := by
      intro v hv
      refine ⟨0, Nat.zero_le _, rfl, ?_, HAT.out, HA.out.ext HW2.out, HW2.out⟩
      rw [hv]
      simp
    have ST := Lib.hid start
    clear start
    have round : ∀ (k : Nat) (x : List UInt8), t.vars[k]? = some x → t.lang ++ optP t.script ++ optP t.region ++ ((t.vars.take (k + 1)).map fun x => 45 :: x).flatten = (t.lang ++ optP t.script ++ optP t.region ++ ((t.vars.take k).map fun x => 45 :: x).flatten) ++ 45 :: x := by
      intro k x hx
      rw [take_next hx]
      simp
    have RD := Lib.hid round
    clear round
    by_cases hsn : sb.data.toList = [] <;> by_cases hrn : rb.data.toList = []
    · have HB := Lib.hid (show Value.string lb = strv (t.lang ++ optP t.script ++ optP t.region) from by
        rw [show t.script = [] from by rw [← HE.out.2.1]; exact hsn, show t.region = [] from by rw [← HE.out.2.2]; exact hrn, ← HE.out.1]
        rw [optP_nil, List.append_nil, List.append_nil, strv_mk])
      have e1 : sb.toList = [] := by rw [ByteArray.toList_eq]; exact hsn
      have e2 : rb.toList = [] := by rw [ByteArray.toList_eq]; exact hrn
      clear hsn hrn
      go_wp2
      go_loopw [3, 4] (TxInv w t A n c) (fun _ i _ => n - (intOf i).toNat)
      case atStart => exact ST.out _ HB.out
      case round =>
        obtain ⟨k, hk, rfl, rfl, hat, hsl, hw⟩ := hrel
        have q3 := hat.cells.1.2.2.2
        have HAT2 := Lib.hid hat
        have HSL := Lib.hid hsl
        have HW := Lib.hid hw
        clear hat hsl hw p0 p1 p2 p3
        have hlen := tx_len HV.out k
        by_cases hlt : k < n
        · obtain ⟨ad, x, rfl, hu, hc⟩ := HSL.out.at_map hlt
          obtain ⟨xb, hx1, rfl⟩ := strv_b x
          rw [hx1] at hc
          have hxs : xb.size ≤ 60000 := by rw [← size_list]; exact (TS_of HV.out).2.2.2.1 _ (List.mem_of_getElem? hu)
          have HU := Lib.hid (RD.out k _ hu)
          clear hx1 hu
          generalize (t.lang ++ optP t.script ++ optP t.region ++ ((t.vars.take k).map fun x => 45 :: x).flatten) = cur at hlen HU
          unfold strv
          go_wp2
          rw [cat_val, ← HU.out]
          exact ⟨⟨k + 1, by omega, by go_num, rfl, HAT2.out, HSL.out, HW.out⟩, by simp [intOf]; omega⟩
        · have hkn : k = n := by omega
          subst hkn
          have HF := Lib.hid (show t.lang ++ optP t.script ++ optP t.region ++ ((t.vars.take k).map fun x => 45 :: x).flatten = textR t from by
            rw [List.take_of_length_le (by rw [HL.out]; exact Nat.le_refl _)]; rfl)
          generalize (t.lang ++ optP t.script ++ optP t.region ++ ((t.vars.take k).map fun x => 45 :: x).flatten) = cur at HF hlen
          unfold strv
          go_wp2
          go_ret
          exact ⟨by rw [HF.out]; rfl, HW.out⟩
    · have HB := Lib.hid (show Value.string (lb ++ (⟨#[45]⟩ ++ rb)) = strv (t.lang ++ optP t.script ++ optP t.region) from by
        rw [cat_b, show t.script = [] from by rw [← HE.out.2.1]; exact hsn, ← HE.out.1, ← HE.out.2.2]
        rw [optP_nil, List.append_nil, optP_ne hrn])
      have e1 : sb.toList = [] := by rw [ByteArray.toList_eq]; exact hsn
      have e2 : ¬ rb.toList = [] := by rw [ByteArray.toList_eq]; exact hrn
      have e3 : rb.toList.isEmpty = false := by rw [ByteArray.toList_eq]; simpa using hrn
      clear hsn hrn
      go_wp2
      go_loopw [3, 4] (TxInv w t A n c) (fun _ i _ => n - (intOf i).toNat)
      case atStart => exact ST.out _ HB.out
      case round =>
        obtain ⟨k, hk, rfl, rfl, hat, hsl, hw⟩ := hrel
        have q3 := hat.cells.1.2.2.2
        have HAT2 := Lib.hid hat
        have HSL := Lib.hid hsl
        have HW := Lib.hid hw
        clear hat hsl hw p0 p1 p2 p3
        have hlen := tx_len HV.out k
        by_cases hlt : k < n
        · obtain ⟨ad, x, rfl, hu, hc⟩ := HSL.out.at_map hlt
          obtain ⟨xb, hx1, rfl⟩ := strv_b x
          rw [hx1] at hc
          have hxs : xb.size ≤ 60000 := by rw [← size_list]; exact (TS_of HV.out).2.2.2.1 _ (List.mem_of_getElem? hu)
          have HU := Lib.hid (RD.out k _ hu)
          clear hx1 hu
          generalize (t.lang ++ optP t.script ++ optP t.region ++ ((t.vars.take k).map fun x => 45 :: x).flatten) = cur at hlen HU
          unfold strv
          go_wp2
          rw [cat_val, ← HU.out]
          exact ⟨⟨k + 1, by omega, by go_num, rfl, HAT2.out, HSL.out, HW.out⟩, by simp [intOf]; omega⟩
        · have hkn : k = n := by omega
          subst hkn
          have HF := Lib.hid (show t.lang ++ optP t.script ++ optP t.region ++ ((t.vars.take k).map fun x => 45 :: x).flatten = textR t from by
            rw [List.take_of_length_le (by rw [HL.out]; exact Nat.le_refl _)]; rfl)
          generalize (t.lang ++ optP t.script ++ optP t.region ++ ((t.vars.take k).map fun x => 45 :: x).flatten) = cur at HF hlen
          unfold strv
          go_wp2
          go_ret
          exact ⟨by rw [HF.out]; rfl, HW.out⟩
    · have HB := Lib.hid (show Value.string (lb ++ (⟨#[45]⟩ ++ sb)) = strv (t.lang ++ optP t.script ++ optP t.region) from by
        rw [cat_b, show t.region = [] from by rw [← HE.out.2.2]; exact hrn, ← HE.out.1, ← HE.out.2.1]
        rw [optP_nil, List.append_nil, optP_ne hsn])
      have e1 : ¬ sb.toList = [] := by rw [ByteArray.toList_eq]; exact hsn
      have e3 : sb.toList.isEmpty = false := by rw [ByteArray.toList_eq]; simpa using hsn
      have e2 : rb.toList = [] := by rw [ByteArray.toList_eq]; exact hrn
      clear hsn hrn
      go_wp2
      go_loopw [3, 4] (TxInv w t A n c) (fun _ i _ => n - (intOf i).toNat)
      case atStart => exact ST.out _ HB.out
      case round =>
        obtain ⟨k, hk, rfl, rfl, hat, hsl, hw⟩ := hrel
        have q3 := hat.cells.1.2.2.2
        have HAT2 := Lib.hid hat
        have HSL := Lib.hid hsl
        have HW := Lib.hid hw
        clear hat hsl hw p0 p1 p2 p3
        have hlen := tx_len HV.out k
        by_cases hlt : k < n
        · obtain ⟨ad, x, rfl, hu, hc⟩ := HSL.out.at_map hlt
          obtain ⟨xb, hx1, rfl⟩ := strv_b x
          rw [hx1] at hc
          have hxs : xb.size ≤ 60000 := by rw [← size_list]; exact (TS_of HV.out).2.2.2.1 _ (List.mem_of_getElem? hu)
          have HU := Lib.hid (RD.out k _ hu)
          clear hx1 hu
          generalize (t.lang ++ optP t.script ++ optP t.region ++ ((t.vars.take k).map fun x => 45 :: x).flatten) = cur at hlen HU
          unfold strv
          go_wp2
          rw [cat_val, ← HU.out]
          exact ⟨⟨k + 1, by omega, by go_num, rfl, HAT2.out, HSL.out, HW.out⟩, by simp [intOf]; omega⟩
        · have hkn : k = n := by omega
          subst hkn
          have HF := Lib.hid (show t.lang ++ optP t.script ++ optP t.region ++ ((t.vars.take k).map fun x => 45 :: x).flatten = textR t from by
            rw [List.take_of_length_le (by rw [HL.out]; exact Nat.le_refl _)]; rfl)
          generalize (t.lang ++ optP t.script ++ optP t.region ++ ((t.vars.take k).map fun x => 45 :: x).flatten) = cur at HF hlen
          unfold strv
          go_wp2
          go_ret
          exact ⟨by rw [HF.out]; rfl, HW.out⟩
    · have HB := Lib.hid (show Value.string (lb ++ (⟨#[45]⟩ ++ sb) ++ (⟨#[45]⟩ ++ rb)) = strv (t.lang ++ optP t.script ++ optP t.region) from by
        rw [cat_b2, ← HE.out.1, ← HE.out.2.1, ← HE.out.2.2]
        rw [optP_ne hsn, optP_ne hrn])
      have e1 : ¬ sb.toList = [] := by rw [ByteArray.toList_eq]; exact hsn
      have e3 : sb.toList.isEmpty = false := by rw [ByteArray.toList_eq]; simpa using hsn
      have e2 : ¬ rb.toList = [] := by rw [ByteArray.toList_eq]; exact hrn
      have e4 : rb.toList.isEmpty = false := by rw [ByteArray.toList_eq]; simpa using hrn
      clear hsn hrn
      go_wp2
      go_loopw [3, 4] (TxInv w t A n c) (fun _ i _ => n - (intOf i).toNat)
      case atStart => exact ST.out _ HB.out
      case round =>
        obtain ⟨k, hk, rfl, rfl, hat, hsl, hw⟩ := hrel
        have q3 := hat.cells.1.2.2.2
        have HAT2 := Lib.hid hat
        have HSL := Lib.hid hsl
        have HW := Lib.hid hw
        clear hat hsl hw p0 p1 p2 p3
        have hlen := tx_len HV.out k
        by_cases hlt : k < n
        · obtain ⟨ad, x, rfl, hu, hc⟩ := HSL.out.at_map hlt
          obtain ⟨xb, hx1, rfl⟩ := strv_b x
          rw [hx1] at hc
          have hxs : xb.size ≤ 60000 := by rw [← size_list]; exact (TS_of HV.out).2.2.2.1 _ (List.mem_of_getElem? hu)
          have HU := Lib.hid (RD.out k _ hu)
          clear hx1 hu
          generalize (t.lang ++ optP t.script ++ optP t.region ++ ((t.vars.take k).map fun x => 45 :: x).flatten) = cur at hlen HU
          unfold strv
          go_wp2
          rw [cat_val, ← HU.out]
          exact ⟨⟨k + 1, by omega, by go_num, rfl, HAT2.out, HSL.out, HW.out⟩, by simp [intOf]; omega⟩
        · have hkn : k = n := by omega
          subst hkn
          have HF := Lib.hid (show t.lang ++ optP t.script ++ optP t.region ++ ((t.vars.take k).map fun x => 45 :: x).flatten = textR t from by
            rw [List.take_of_length_le (by rw [HL.out]; exact Nat.le_refl _)]; rfl)
          generalize (t.lang ++ optP t.script ++ optP t.region ++ ((t.vars.take k).map fun x => 45 :: x).flatten) = cur at HF hlen
          unfold strv
          go_wp2
          go_ret
          exact ⟨by rw [HF.out]; rfl, HW.out⟩
end Go.Proofs.YtehcldnicefmeaaGreatDoor
namespace Go.Proofs.YtehcldnicefmeaaGreatDoor
open Go.RowKit
set_option linter.unusedSimpArgs false
set_option linter.unusedVariables false

/-! Whether a tag comes before another one, by the reference. -/
set_option maxHeartbeats 4000000 in
set_option maxRecDepth 100000 in
theorem rbef_any (l : List Nr) (L : Option Addr) (ln lc : Nat) (t u v : TagP) (A B C : Option Addr) (n c m d p q : Nat) (w : World) (hL : Nrs w L ln l) (hln : ln ≤ maxLen) (hl : ∀ x ∈ l, 1 ≤ x.c ∧ x.c ≤ 99) (hA : Sl w A n (t.vars.map strv)) (hB : Sl w B m (u.vars.map strv)) (hC : Sl w C p (v.vars.map strv)) (hn : n ≤ 60000) (hm : m ≤ 60000) (hp : p ≤ 60000) (hu : TL u) (hv : TL v) (hu2 : txtOf u = textP u) (hv2 : txtOf v = textP v) :
    Calls Tryz.prog 105 #[.slice L ln lc, tagV t A n c, tagV u B m d, tagV v C p q] w fun e w' => e = .returned (.bool (ltB (l.map nearOf) t u v)) ∧ Ext w w' := by
  obtain ⟨tl, htl, _⟩ := strv_b t.lang
  obtain ⟨ts, hts, _⟩ := strv_b t.script
  obtain ⟨tr, htr, _⟩ := strv_b t.region
  obtain ⟨ul, hul, _⟩ := strv_b u.lang
  obtain ⟨us, hus, _⟩ := strv_b u.script
  obtain ⟨ur, hur, _⟩ := strv_b u.region
  obtain ⟨vl, hvl, _⟩ := strv_b v.lang
  obtain ⟨vs, hvs, _⟩ := strv_b v.script
  obtain ⟨vr, hvr, _⟩ := strv_b v.region
  have hw0 : Ext w (((w.alloc (.cells #[.string tl, .string ts, .string tr, .slice A n c] 167)).alloc (.cells #[.string ul, .string us, .string ur, .slice B m d] 167)).alloc (.cells #[.string vl, .string vs, .string vr, .slice C p q] 167)) := (((Ext.refl w).alloc _).alloc _).alloc _
  have G1 := fun W (y : ExtW W) (hy : Ext w W) => rdist_any l L ln lc t u A B n c m d y.v (hL.ext (hy.trans y.h)) hln hl (hA.ext (hy.trans y.h)) (hB.ext (hy.trans y.h)) hn hm
  have G2 := fun W (y : ExtW W) (hy : Ext w W) => rdist_any l L ln lc t v A C n c p q y.v (hL.ext (hy.trans y.h)) hln hl (hA.ext (hy.trans y.h)) (hC.ext (hy.trans y.h)) hn hp
  have G3 := fun W (y : ExtW W) (hy : Ext w W) => rText_any u B m d y.v (hB.ext (hy.trans y.h)) hu
  have G4 := fun W (y : ExtW W) (hy : Ext w W) => rText_any v C p q y.v (hC.ext (hy.trans y.h)) hv
  rw [hu2] at G3
  rw [hv2] at G4
  obtain ⟨xu, hxu, kxu⟩ := strv_b (textP u)
  obtain ⟨xv, hxv, kxv⟩ := strv_b (textP v)
  rw [hxu] at G3
  rw [hxv] at G4
  have hlt : ltB (l.map nearOf) t u v = (decide (distP (l.map nearOf) t u < distP (l.map nearOf) t v) || (distP (l.map nearOf) t u == distP (l.map nearOf) t v && decide (xu.data.toList < xv.data.toList))) := by unfold ltB; rw [kxu, kxv]
  rw [hlt]
  unfold tagV at G1 G2 G3 G4 ⊢
  simp only [htl, hts, htr, hul, hus, hur] at G1
  simp only [htl, hts, htr, hvl, hvs, hvr] at G2
  simp only [hul, hus, hur] at G3
  simp only [hvl, hvs, hvr] at G4
  simp only [htl, hts, htr, hul, hus, hur, hvl, hvs, hvr] at ⊢
  generalize distP (l.map nearOf) t u = d1 at *
  generalize distP (l.map nearOf) t v = d2 at *
  have HB1 := (((AtC.new w _ : AtC 167 _ _ #[.string tl, .string ts, .string tr, .slice A n c]).alloc (.cells #[.string ul, .string us, .string ur, .slice B m d] 167))).alloc (.cells #[.string vl, .string vs, .string vr, .slice C p q] 167)
  have HB2 := ((AtC.new (w.alloc (.cells #[.string tl, .string ts, .string tr, .slice A n c] 167)) _ : AtC 167 _ _ #[.string ul, .string us, .string ur, .slice B m d])).alloc (.cells #[.string vl, .string vs, .string vr, .slice C p q] 167)
  rw [show (w.alloc (.cells #[.string tl, .string ts, .string tr, .slice A n c] 167)).heap.size = w.heap.size + 1 from by simp] at HB2
  have HB3 := (AtC.new ((w.alloc (.cells #[.string tl, .string ts, .string tr, .slice A n c] 167)).alloc (.cells #[.string ul, .string us, .string ur, .slice B m d] 167)) _ : AtC 167 _ _ #[.string vl, .string vs, .string vr, .slice C p q])
  rw [show ((w.alloc (.cells #[.string tl, .string ts, .string tr, .slice A n c] 167)).alloc (.cells #[.string ul, .string us, .string ur, .slice B m d] 167)).heap.size = w.heap.size + 1 + 1 from by simp] at HB3
  have a10 := fun y : ExtW (((w.alloc (.cells #[.string tl, .string ts, .string tr, .slice A n c] 167)).alloc (.cells #[.string ul, .string us, .string ur, .slice B m d] 167)).alloc (.cells #[.string vl, .string vs, .string vr, .slice C p q] 167)) => (HB1.ext y.h).cell 0 _ rfl
  have a11 := fun y : ExtW (((w.alloc (.cells #[.string tl, .string ts, .string tr, .slice A n c] 167)).alloc (.cells #[.string ul, .string us, .string ur, .slice B m d] 167)).alloc (.cells #[.string vl, .string vs, .string vr, .slice C p q] 167)) => (HB1.ext y.h).cell 1 _ rfl
  have a12 := fun y : ExtW (((w.alloc (.cells #[.string tl, .string ts, .string tr, .slice A n c] 167)).alloc (.cells #[.string ul, .string us, .string ur, .slice B m d] 167)).alloc (.cells #[.string vl, .string vs, .string vr, .slice C p q] 167)) => (HB1.ext y.h).cell 2 _ rfl
  have a13 := fun y : ExtW (((w.alloc (.cells #[.string tl, .string ts, .string tr, .slice A n c] 167)).alloc (.cells #[.string ul, .string us, .string ur, .slice B m d] 167)).alloc (.cells #[.string vl, .string vs, .string vr, .slice C p q] 167)) => (HB1.ext y.h).cell 3 _ rfl
  have a20 := fun y : ExtW (((w.alloc (.cells #[.string tl, .string ts, .string tr, .slice A n c] 167)).alloc (.cells #[.string ul, .string us, .string ur, .slice B m d] 167)).alloc (.cells #[.string vl, .string vs, .string vr, .slice C p q] 167)) => (HB2.ext y.h).cell 0 _ rfl
  have a21 := fun y : ExtW (((w.alloc (.cells #[.string tl, .string ts, .string tr, .slice A n c] 167)).alloc (.cells #[.string ul, .string us, .string ur, .slice B m d] 167)).alloc (.cells #[.string vl, .string vs, .string vr, .slice C p q] 167)) => (HB2.ext y.h).cell 1 _ rfl
  have a22 := fun y : ExtW (((w.alloc (.cells #[.string tl, .string ts, .string tr, .slice A n c] 167)).alloc (.cells #[.string ul, .string us, .string ur, .slice B m d] 167)).alloc (.cells #[.string vl, .string vs, .string vr, .slice C p q] 167)) => (HB2.ext y.h).cell 2 _ rfl
  have a23 := fun y : ExtW (((w.alloc (.cells #[.string tl, .string ts, .string tr, .slice A n c] 167)).alloc (.cells #[.string ul, .string us, .string ur, .slice B m d] 167)).alloc (.cells #[.string vl, .string vs, .string vr, .slice C p q] 167)) => (HB2.ext y.h).cell 3 _ rfl
  have a30 := fun y : ExtW (((w.alloc (.cells #[.string tl, .string ts, .string tr, .slice A n c] 167)).alloc (.cells #[.string ul, .string us, .string ur, .slice B m d] 167)).alloc (.cells #[.string vl, .string vs, .string vr, .slice C p q] 167)) => (HB3.ext y.h).cell 0 _ rfl
  have a31 := fun y : ExtW (((w.alloc (.cells #[.string tl, .string ts, .string tr, .slice A n c] 167)).alloc (.cells #[.string ul, .string us, .string ur, .slice B m d] 167)).alloc (.cells #[.string vl, .string vs, .string vr, .slice C p q] 167)) => (HB3.ext y.h).cell 1 _ rfl
  have a32 := fun y : ExtW (((w.alloc (.cells #[.string tl, .string ts, .string tr, .slice A n c] 167)).alloc (.cells #[.string ul, .string us, .string ur, .slice B m d] 167)).alloc (.cells #[.string vl, .string vs, .string vr, .slice C p q] 167)) => (HB3.ext y.h).cell 2 _ rfl
  have a33 := fun y : ExtW (((w.alloc (.cells #[.string tl, .string ts, .string tr, .slice A n c] 167)).alloc (.cells #[.string ul, .string us, .string ur, .slice B m d] 167)).alloc (.cells #[.string vl, .string vs, .string vr, .slice C p q] 167)) => (HB3.ext y.h).cell 3 _ rfl
  have K1 := Lib.hid (fun y => G1 _ y hw0)
  have K2 := Lib.hid (fun y => G2 _ y hw0)
  have K3 := Lib.hid (fun W y (hy : Ext w W) => G3 W y hy)
  have K4 := Lib.hid (fun W y (hy : Ext w W) => G4 W y hy)
  have B1 := Lib.hid HB1
  have B2 := Lib.hid HB2
  have B3 := Lib.hid HB3
  have H0 := Lib.hid hw0
  clear G1 G2 G3 G4 HB1 HB2 HB3 hw0
  go_enter Tryz.func105, Tryz.ntmps105
  go_wp2_with fail
  refine wp_region_ext (by kernel_rfl) (by kernel_rfl) ?_
  repeat (go_big_quiet_step ((go_at_call 104; with_reducible first | exact ExtW.call (K1.out _) | exact ExtW.call (K2.out _))))
  refine wpQuiet_nil ?_
  intro wx hx
  have hxx := ext_of hx
  have HX := Lib.hid (H0.out.trans hxx)
  have D1 := Lib.hid (B1.out.ext hxx)
  have D2 := Lib.hid (B2.out.ext hxx)
  have D3 := Lib.hid (B3.out.ext hxx)
  clear hx hxx a10 a11 a12 a13 a20 a21 a22 a23 a30 a31 a32 a33
  have a20 := fun y : ExtW wx => (D2.out.ext y.h).cell 0 _ rfl
  have a21 := fun y : ExtW wx => (D2.out.ext y.h).cell 1 _ rfl
  have a22 := fun y : ExtW wx => (D2.out.ext y.h).cell 2 _ rfl
  have a23 := fun y : ExtW wx => (D2.out.ext y.h).cell 3 _ rfl
  have a30 := fun y : ExtW wx => (D3.out.ext y.h).cell 0 _ rfl
  have a31 := fun y : ExtW wx => (D3.out.ext y.h).cell 1 _ rfl
  have a32 := fun y : ExtW wx => (D3.out.ext y.h).cell 2 _ rfl
  have a33 := fun y : ExtW wx => (D3.out.ext y.h).cell 3 _ rfl
  have E3 := Lib.hid (fun y => K3.out _ y HX.out)
  have E4 := Lib.hid (fun y => K4.out _ y HX.out)
  cases g1 : decide (d1 < d2)
  rotate_left
  · go_wp2_with fail
    refine wp_region_ext (by kernel_rfl) (by kernel_rfl) ?_
    repeat (go_big_quiet_step ((go_at_call 117; with_reducible first | exact ExtW.call (E3.out _) | exact ExtW.call (E4.out _))))
    refine wpQuiet_nil ?_
    intro wy hy
    have HY := Lib.hid (HX.out.trans (ext_of hy))
    clear hy
    go_wp2
    go_ret
    exact ⟨ret_bool (by simp [*]), HY.out⟩
  cases g2 : (d1 == d2)
  · go_wp2_with fail
    refine wp_region_ext (by kernel_rfl) (by kernel_rfl) ?_
    repeat (go_big_quiet_step ((go_at_call 117; with_reducible first | exact ExtW.call (E3.out _) | exact ExtW.call (E4.out _))))
    refine wpQuiet_nil ?_
    intro wy hy
    have HY := Lib.hid (HX.out.trans (ext_of hy))
    clear hy
    go_wp2
    go_ret
    exact ⟨ret_bool (by simp [*]), HY.out⟩
  cases g3 : decide (xu.data.toList < xv.data.toList)
  all_goals
    go_wp2_with fail
    refine wp_region_ext (by kernel_rfl) (by kernel_rfl) ?_
    repeat (go_big_quiet_step ((go_at_call 117; with_reducible first | exact ExtW.call (E3.out _) | exact ExtW.call (E4.out _))))
    refine wpQuiet_nil ?_
    intro wy hy
    have HY := Lib.hid (HX.out.trans (ext_of hy))
    clear hy
    go_wp2
    go_ret
    exact ⟨ret_bool (by rw [less_b, g3, g1, g2]; rfl), HY.out⟩
end Go.Proofs.YtehcldnicefmeaaGreatDoor
namespace Go.Proofs.YtehcldnicefmeaaGreatDoor
open Go.RowKit
set_option linter.unusedSimpArgs false
set_option linter.unusedVariables false

/-! The best one, by the reference. -/
section
variable (l : List Nr) (L : Option Addr) (ln lc : Nat) (w : World) (hL : Nrs w L ln l) (hln : ln ≤ maxLen) (hl : ∀ x ∈ l, 1 ≤ x.c ∧ x.c ≤ 99)
include hL hln hl
theorem rdist_tv (x y : TV) (hx : GoodV w x) (hy : GoodV w y) :
    Calls Tryz.prog 104 #[.slice L ln lc, .agg #[.string x.l, .string x.s, .string x.r, .slice x.A x.n x.c], .agg #[.string y.l, .string y.s, .string y.r, .slice y.A y.n y.c]] w fun e w' => e = .returned (.int .i64 (distP (l.map nearOf) x.t y.t)) ∧ Ext w w' :=
  rdist_any l L ln lc x.t y.t x.A y.A x.n x.c y.n y.c w hL hln hl hx.2 hy.2 hx.n hy.n
theorem rbef_tv (x y z : TV) (hx : GoodV w x) (hy : GoodV w y) (hz : GoodV w z) :
    Calls Tryz.prog 105 #[.slice L ln lc, .agg #[.string x.l, .string x.s, .string x.r, .slice x.A x.n x.c], .agg #[.string y.l, .string y.s, .string y.r, .slice y.A y.n y.c], .agg #[.string z.l, .string z.s, .string z.r, .slice z.A z.n z.c]] w fun e w' => e = .returned (.bool (ltB (l.map nearOf) x.t y.t z.t)) ∧ Ext w w' :=
  rbef_any l L ln lc x.t y.t z.t x.A y.A z.A x.n x.c y.n y.c z.n z.c w hL hln hl hx.2 hy.2 hz.2 hx.n hy.n hz.n hy.1.1 hz.1.1 hy.1.2.1 hz.1.2.1
end

set_option maxHeartbeats 8000000 in
set_option maxRecDepth 100000 in
theorem rbest_any (l : List Nr) (L : Option Addr) (ln lc : Nat) (R S : List ByteArray) (A B : Option Addr) (n c m d : Nat) (w : World) (hL : Nrs w L ln l) (hln : ln ≤ maxLen) (hz : ∀ x ∈ l, x.f.size ≤ 1000000 ∧ x.o.size ≤ 1000000)
    (hA : Sl w A n (R.map .string)) (hB : Sl w B m (S.map .string)) (hn : n ≤ 100000) (hm : m ≤ 100000) (hR : ∀ s ∈ R, s.size ≤ 60000) (hS : ∀ s ∈ S, s.size ≤ 60000) :
    Calls Tryz.prog 69 #[.slice L ln lc, .slice A n c, .slice B m d] w fun e w' => e = .returned (.tuple #[.int .i64 (bestR EC (l.map nearOf) (dl R) (dl S)).1, .int .i64 (bestR EC (l.map nearOf) (dl R) (dl S)).2]) ∧ Ext w w' := by
  obtain ⟨D, hD⟩ : ∃ D, D = bestR EC (l.map nearOf) (dl R) (dl S) := ⟨_, rfl⟩
  rw [← hD]
  have K1 := Lib.hid (rboth_any l L ln lc R S A B n c m d w hL hln hz hA hB hn hm hR hS)
  have hRl : (dl R).length = n := by have := hA.1; unfold dl; simpa using this
  have hSl : (dl S).length = m := by have := hB.1; unfold dl; simpa using this
  have HD := Lib.hid hD
  have HL := Lib.hid hL
  have HN := Lib.hid hln
  have HLEN := Lib.hid (And.intro hRl hSl)
  clear hD hL hA hB hRl hSl hz hR hS
  go_enter Tryz.func69, Tryz.ntmps69
  go_wp2_with fail
  refine K1.out.mono ?_
  rintro e w1 ⟨A2, n2, c2, xs, B2, m2, d2, ys, rfl, htx, hty, hmx, hmy, hw1⟩
  have HTX := Lib.hid htx
  have HTY := Lib.hid hty
  have HMX := Lib.hid hmx
  have HMY := Lib.hid hmy
  have HW1 := Lib.hid hw1
  clear htx hty hmx hmy hw1 K1
  by_cases h0 : (bothL EC (l.map nearOf) (dl R) (dl S)).2 = 0
  rotate_left
  · have hnz : ((bothL EC (l.map nearOf) (dl R) (dl S)).2 == 0) = false := by simpa using h0
    have HD2 := Lib.hid (HD.out.trans (bestR_bad h0))
    go_wp2
    go_ret2
    exact ⟨by rw [HD2.out]; rfl, HW1.out⟩
  have h0' : ((bothL EC (l.map nearOf) (dl R) (dl S)).2 == 0) = true := by simpa using h0
  have HH := Lib.hid h0
  obtain ⟨hval, _, _, hapt, hbe⟩ := both_ok h0
  have hxl := HTX.out.len
  have hyl := HTY.out.len
  have hn2 : n2 ≤ 100000 := by
    have h := congrArg List.length HMX.out
    rw [(both_len h0).1, List.length_map, HLEN.out.1] at h
    omega
  have hm2 : m2 ≤ 100000 := by
    have h := congrArg List.length HMY.out
    rw [(both_len h0).2, List.length_map, HLEN.out.2] at h
    omega
  have HGX := Lib.hid (show ∀ x ∈ xs, GoodV w1 x from fun x hx => ⟨both_good h0 (.inl (by rw [← HMX.out]; exact List.mem_map.2 ⟨x, hx, rfl⟩)), HTX.out.2 x hx⟩)
  have HGY := Lib.hid (show ∀ x ∈ ys, GoodV w1 x from fun x hx => ⟨both_good h0 (.inr (by rw [← HMY.out]; exact List.mem_map.2 ⟨x, hx, rfl⟩)), HTY.out.2 x hx⟩)
  have HAP := Lib.hid (show apartT (ys.map (·.t)) = true from by rw [HMY.out, hbe]; exact hapt)
  have HC := Lib.hid (costs_of hval)
  clear h0 hval hapt hbe
  go_wp2_with fail
  go_loopw [11] (BsInv w1 (l.map nearOf) (xs.map (·.t)) (ys.map (·.t)) n2) (fun i _ => n2 - (intOf i).toNat)
  case atStart => exact ⟨0, Nat.zero_le _, rfl, rfl, Ext.refl _⟩
  case round =>
    obtain ⟨k, hk, rfl, hbl, hw⟩ := hrel
    have HBL := Lib.hid hbl
    have HWR := Lib.hid hw
    clear hbl hw
    by_cases hkn : k < n2
    · obtain ⟨x, hx⟩ : ∃ x, xs[k]? = some x := ⟨_, List.getElem?_eq_getElem (by omega)⟩
      have HX := Lib.hid hx
      have hkI : (k : Int) < (n2 : Int) := by omega
      obtain ⟨b1, o1, rfl⟩ := HTX.out.some_ hx
      have gx := HGX.out x (List.mem_of_getElem? hx)
      have HGX1 := Lib.hid gx
      clear hx gx
      go_wp2_with fail
      go_loopw [12, 13] (BsIn wr (l.map nearOf) x.t (ys.map (·.t)) m2) (fun _ i _ => m2 - (intOf i).toNat)
      case atStart => exact ⟨0, none, Nat.zero_le _, rfl, rfl, bestK_zero, Ext.refl _⟩
      case round =>
        obtain ⟨j, o, hj, rfl, rfl, hbk, hw⟩ := hrel
        have HBK := Lib.hid hbk
        have HWJ := Lib.hid hw
        clear hbk hw
        by_cases hjm : j < m2
        · obtain ⟨y, hy⟩ : ∃ y, ys[j]? = some y := ⟨_, List.getElem?_eq_getElem (by omega)⟩
          have HY := Lib.hid hy
          have hjI : (j : Int) < (m2 : Int) := by omega
          obtain ⟨b2, o2, rfl⟩ := HTY.out.some_ hy
          have gy := HGY.out y (List.mem_of_getElem? hy)
          have E1 := fun (v : ExtW _) => HWR.out.trans (HWJ.out.trans v.h)
          have K2 := Lib.hid (fun (v : ExtW _) => rdist_tv l L ln lc v.v (HL.out.ext (HW1.out.trans (E1 v))) HN.out HC.out x y (HGX1.out.ext (E1 v)) (gy.ext (E1 v)))
          have a0 := fun (v : ExtW _) => HTX.out.c0 HX.out v.v (E1 v)
          have a1 := fun (v : ExtW _) => HTX.out.c1 HX.out v.v (E1 v)
          have a2 := fun (v : ExtW _) => HTX.out.c2 HX.out v.v (E1 v)
          have a3 := fun (v : ExtW _) => HTX.out.c3 HX.out v.v (E1 v)
          have e0 := fun (v : ExtW _) => HTY.out.c0 hy v.v (E1 v)
          have e1 := fun (v : ExtW _) => HTY.out.c1 hy v.v (E1 v)
          have e2 := fun (v : ExtW _) => HTY.out.c2 hy v.v (E1 v)
          have e3 := fun (v : ExtW _) => HTY.out.c3 hy v.v (E1 v)
          have hat : atP (ys.map (·.t)) j = y.t := at_tv hy
          clear hy
          by_cases h60 : distP (l.map nearOf) x.t y.t ≤ 60
          rotate_left
          · have HF := Lib.hid (bestK_far HBK.out (by rw [hat]; exact h60))
            have q60 : decide (distP (l.map nearOf) x.t y.t ≤ 60) = false := by simpa using h60
            clear hat gy E1
            generalize distP (l.map nearOf) x.t y.t = D0 at *
            go_wp2_with fail
            refine wp_region_ext (by kernel_rfl) (by kernel_rfl) ?_
            repeat (go_big_quiet_step ((go_at_call 104; with_reducible exact ExtW.call (K2.out _))))
            refine wpQuiet_nil ?_
            intro wz hz
            have HZZ := Lib.hid (HWJ.out.trans (ext_of hz))
            clear hz
            go_wp2
            exact ⟨⟨j + 1, o, by omega, by go_num, rfl, HF.out, HZZ.out⟩, by simp [intOf]; omega⟩
          have q60 : decide (distP (l.map nearOf) x.t y.t ≤ 60) = true := by simpa using h60
          cases o with
          | none =>
            have HF := Lib.hid (bestK_first HBK.out (by rw [hat]; exact h60))
            clear hat gy E1
            generalize distP (l.map nearOf) x.t y.t = D0 at *
            unfold bestI
            have qm : decide ((-1 : Int) < 0) = true := by decide
            go_wp2_with fail
            refine wp_region_ext (by kernel_rfl) (by kernel_rfl) ?_
            repeat (go_big_quiet_step ((go_at_call 104; with_reducible exact ExtW.call (K2.out _))))
            refine wpQuiet_nil ?_
            intro wz hz
            have HZZ := Lib.hid (HWJ.out.trans (ext_of hz))
            clear hz
            go_wp2
            exact ⟨⟨j + 1, some j, by omega, by go_num, rfl, HF.out, HZZ.out⟩, by simp [intOf]; omega⟩
          | some i =>
            obtain ⟨hij, _, _⟩ := HBK.out
            obtain ⟨z, hz⟩ : ∃ z, ys[i]? = some z := ⟨_, List.getElem?_eq_getElem (by omega)⟩
            have gz := HGY.out z (List.mem_of_getElem? hz)
            have hiI : (i : Int) < (m2 : Int) := by omega
            have hat2 : atP (ys.map (·.t)) i = z.t := at_tv hz
            have f0 := fun (v : ExtW _) => HTY.out.c0 hz v.v (E1 v)
            have f1 := fun (v : ExtW _) => HTY.out.c1 hz v.v (E1 v)
            have f2 := fun (v : ExtW _) => HTY.out.c2 hz v.v (E1 v)
            have f3 := fun (v : ExtW _) => HTY.out.c3 hz v.v (E1 v)
            have K3 := fun (v : ExtW _) => rbef_tv l L ln lc v.v (HL.out.ext (HW1.out.trans (E1 v))) HN.out HC.out x y z (HGX1.out.ext (E1 v)) (gy.ext (E1 v)) (gz.ext (E1 v))
            have qi : decide ((i : Int) < 0) = false := by simp
            clear hz gz gy E1
            cases hlt : ltB (l.map nearOf) x.t y.t z.t with
            | true =>
              rw [hlt] at K3
              have K4 := Lib.hid K3
              have HF := Lib.hid (bestK_near HBK.out (by rw [hat]; exact h60) (by rw [hat, hat2]; exact hlt))
              clear K3 hlt hat hat2
              generalize distP (l.map nearOf) x.t y.t = D0 at *
              unfold bestI
              go_wp2_with fail
              refine wp_region_ext (by kernel_rfl) (by kernel_rfl) ?_
              repeat (go_big_quiet_step (first | (go_at_call 104; with_reducible exact ExtW.call (K2.out _)) | (go_at_call 105; with_reducible exact ExtW.call (K4.out _))))
              refine wpQuiet_nil ?_
              intro wz hz
              have HZZ := Lib.hid (HWJ.out.trans (ext_of hz))
              clear hz
              go_wp2
              exact ⟨⟨j + 1, some j, by omega, by go_num, rfl, HF.out, HZZ.out⟩, by simp [intOf]; omega⟩
            | false =>
              rw [hlt] at K3
              have K4 := Lib.hid K3
              have HF := Lib.hid (bestK_stay HAP.out HBK.out (by rw [List.length_map]; omega) (by rw [hat, hat2]; exact hlt))
              clear K3 hlt hat hat2
              generalize distP (l.map nearOf) x.t y.t = D0 at *
              unfold bestI
              go_wp2_with fail
              refine wp_region_ext (by kernel_rfl) (by kernel_rfl) ?_
              repeat (go_big_quiet_step (first | (go_at_call 104; with_reducible exact ExtW.call (K2.out _)) | (go_at_call 105; with_reducible exact ExtW.call (K4.out _))))
              refine wpQuiet_nil ?_
              intro wz hz
              have HZZ := Lib.hid (HWJ.out.trans (ext_of hz))
              clear hz
              go_wp2
              exact ⟨⟨j + 1, some i, by omega, by go_num, rfl, HF.out, HZZ.out⟩, by simp [intOf]; omega⟩
        · have hjj : j = m2 := by omega
          subst hjj
          have hbt : bestT (l.map nearOf) x.t (ys.map (·.t)) = o := bestK_end (by rw [List.length_map, hyl]; exact HBK.out)
          cases o with
          | none =>
            have HNX := Lib.hid ((bestL_next (map_tv HX.out) HBL.out).trans hbt)
            unfold bestI
            go_wp2
            exact ⟨⟨_, _, _, ⟨k + 1, by omega, by go_num, HNX.out, HWR.out.trans HWJ.out⟩, rfl, rfl, rfl⟩, by simp [intOf]; omega⟩
          | some i =>
            have hfd := bestL_found (map_tv HX.out) HBL.out hbt
            rw [HMX.out, HMY.out] at hfd
            have HD2 := Lib.hid (HD.out.trans (bestR_some HH.out hfd))
            unfold bestI
            go_wp2
            all_goals go_ret2
            exact ⟨by rw [HD2.out]; rfl, HW1.out.trans (HWR.out.trans HWJ.out)⟩
    · have hkk : k = n2 := by omega
      subst hkk
      have hbl := HBL.out
      rw [List.take_of_length_le (by rw [List.length_map]; omega), HMX.out, HMY.out] at hbl
      have HD2 := Lib.hid (HD.out.trans (bestR_none HH.out hbl))
      go_wp2
      go_ret2
      exact ⟨by rw [HD2.out]; rfl, HW1.out.trans HWR.out⟩
end Go.Proofs.YtehcldnicefmeaaGreatDoor
