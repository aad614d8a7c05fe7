import Derived.Test.YtpfmojeigjmlfaaGreatDoorNP7
import Derived.Test.YtpfmojeigjmlfaaGreatDoorVa
import Derived.Deep.RegionLaw
namespace Go.Proofs.YtpfmojeigjmlfaaGreatDoor
open Go.RowKit
set_option linter.unusedSimpArgs false
set_option linter.unusedVariables false

/-! The uses of parts, by the reference. -/
def typR (k : Int) : Int := if 2 ≤ k ∧ k ≤ 9 then typeU k else -1
set_option maxHeartbeats 2000000 in
set_option maxRecDepth 100000 in
theorem rtype28_any (k : Int) (h1 : 1 ≤ k) (h2 : k ≤ 11) (w : World) : Calls Tryz.prog 86 #[.int .i64 k] w fun e w' => e = .returned (.int .i64 (typR k)) ∧ w = w' := by
  have h : k = 1 ∨ k = 2 ∨ k = 3 ∨ k = 4 ∨ k = 5 ∨ k = 6 ∨ k = 7 ∨ k = 8 ∨ k = 9 ∨ k = 10 ∨ k = 11 := by omega
  rcases h with rfl | rfl | rfl | rfl | rfl | rfl | rfl | rfl | rfl | rfl | rfl
  all_goals
    go_enter Tryz.func86, Tryz.ntmps86
    go_wp2
    go_ret
    exact ⟨rfl, rfl⟩
theorem usesR_len : ∀ f : F, (usesR f).length ≤ f.nodes := by
  intro f
  induction f with
  | nil => exact Nat.zero_le _
  | cons k t n s cs ps r i1 i2 i3 =>
    rw [usesR, F.nodes]
    simp only [List.length_append]
    split <;> simp <;> omega
def RetAs (w : World) (L : List ArgP) (e : Ending) (w' : World) : Prop := ∃ A n c, e = .returned (.slice A n c) ∧ Ags w' A n (L.map agP) ∧ n ≤ c ∧ Ext w w'
def UsH (N : Nat) : Prop := ∀ (f : F) (v : Value) (ok : Nat → Prop) (d : Nat) (c pt : Bool) (w : World), f.nodes < N → FwS w ok f v → formB d c pt f = true → f.nodes ≤ 1000000000 → Calls Tryz.prog 55 #[v] w (RetAs w (usesR f))
/-- A row of uses. -/
def UsO (w : World) (out : Value) (l : List ArgP) (wr : World) : Prop := wr.ownsRow w.heap.size 66 2 out l.length ((l.map agP).flatMap agC)
def UsI (w : World) (R : List ArgP) (f : F) (out i : Value) (wr : World) : Prop := ∃ (j : Nat) (l : List ArgP), j ≤ f.len ∧ i = .int .i64 j ∧ UsO w out l wr ∧ l ++ usesR (fdrop f j) = R ∧ Ext w wr
def UsJ (w : World) (bx : Nat) (cs : Array Value) (R : List ArgP) (f : F) (out i : Value) (wr : World) : Prop := ∃ (j : Nat) (l : List ArgP), j ≤ f.len ∧ i = .int .i64 j ∧ UsO w out l wr ∧ l ++ usesR (fdrop f j) = R ∧ Ext w wr ∧ AtC 50 wr bx cs
def UsR (w : World) (bx : Nat) (cs : Array Value) (l : List ArgP) (out : Value) (wr : World) : Prop := UsO w out l wr ∧ Ext w wr ∧ AtC 50 wr bx cs
theorem AtC.grownA {T e : TypeId} {w w' : World} {g B size n : Nat} {cs : Array Value} {v : Value} {xs : List Value} (h : AtC T w g cs) (hr : w.ownsRow B e size v n xs) (hg : w.grownBy w' v.ownBlock) (hne : e ≠ T) : AtC T w' g cs := by
  refine (hg.block g h.lt fun e0 => ?_).trans h
  rcases hr.2 with ⟨hv, _⟩ | ⟨g', cap, cur, hv, _, hc, _⟩
  · rw [hv] at e0; cases e0
  · rw [hv] at e0
    obtain rfl : g = g' := by simpa [Value.ownBlock] using e0
    have h2 : w.heap[g]? = some (.cells cs T (0, 0)) := h
    rw [hc] at h2
    injection h2 with h2
    injection h2 with _ h3
    exact hne h3
theorem ags_one (l : List ArgP) : ∀ u ∈ (l.map agP).flatMap agC, u.oneCell' = true := agC_one _
theorem ags_app (l m : List ArgP) : ((l ++ m).map agP).flatMap agC = (l.map agP).flatMap agC ++ (m.map agP).flatMap agC := by rw [List.map_append, List.flatMap_append]
set_option maxHeartbeats 8000000 in
set_option maxRecDepth 100000 in
theorem uses_step (N : Nat) (hN : UsH N) : UsH (N + 1) := by
  intro f v ok d c pt w hnd hF hform hfn
  obtain ⟨i0, hi, hz0, hz1, hz2⟩ := info_parts (show (Tryz.prog.info? 66).map (fun i => (i.zero, i.size, i.bytes)) = some (some (.agg #[.string ⟨#[]⟩, .int .i64 0]), 2, 24) from by kernel_rfl)
  obtain ⟨Af, cf, rfl⟩ := hF.val
  have hfl : f.len ≤ 1000000000 := by have := fmNodes f; omega
  obtain ⟨R, hR⟩ : ∃ R, R = usesR f := ⟨_, rfl⟩
  have HRL := Lib.hid (show R.length ≤ 1000000000 from by rw [hR]; have := usesR_len f; omega)
  rw [← hR]
  have HF := Lib.hid hF
  have HFORM := Lib.hid hform
  have HND := Lib.hid hnd
  have H0 := Lib.hid (show UsI w R f (.slice none 0 0) (.int .i64 0) w from ⟨0, [], Nat.zero_le _, rfl, World.ownsRow_nil _ _ _ _, by rw [fdrop_zero]; exact hR.symm, Ext.refl _⟩)
  clear hF hform hnd hR
  go_enter Tryz.func55, Tryz.ntmps55
  go_wp2_with fail
  go_loopw [3, 4] (UsI w R f) (fun _ i _ => f.len - (intOf i).toNat)
  case atStart => exact H0.out
  case round =>
    obtain ⟨j, l1, hj, rfl, hown, hr1, hx1⟩ := hrel
    obtain ⟨wo, rfl⟩ : ∃ wo : World, wo = wr := ⟨_, rfl⟩
    by_cases hjl : j < f.len
    rotate_left
    · have hjI : ¬ (j : Int) < (f.len : Int) := by omega
      rw [fdrop_end f j (by omega)] at hr1
      have hr2 : l1 = R := by simpa [usesR] using hr1
      subst hr2
      obtain ⟨A5, c5, rfl, hn5, hs5, _⟩ := own_form hown
      have HS5 := Lib.hid hs5
      have HX1 := Lib.hid hx1
      clear hr1 hown hs5 hx1
      go_wp2
      go_ret
      exact ⟨A5, _, c5, rfl, HS5.out, hn5, HX1.out⟩
    have hjI : (j : Int) < (f.len : Int) := by omega
    obtain ⟨bf, o, cc', k, t, n, s, ca, pa, Ac, cac, Ap, cpa, hv, hbw, _, hdr, y0, y1, y2, y3, y4, y5, hCA, hPA⟩ := HF.out.at_ hjl
    have c0 := (Ext.cell (p := ⟨bf, o + j * 6, none⟩) hx1 hbw).trans y0
    have c1 := (Ext.cell (p := ⟨bf, o + j * 6 + 1, none⟩) hx1 hbw).trans y1
    have c2 := (Ext.cell (p := ⟨bf, o + j * 6 + 2, none⟩) hx1 hbw).trans y2
    have c3 := (Ext.cell (p := ⟨bf, o + j * 6 + 3, none⟩) hx1 hbw).trans y3
    have c4 := (Ext.cell (p := ⟨bf, o + j * 6 + 4, none⟩) hx1 hbw).trans y4
    have c5 := (Ext.cell (p := ⟨bf, o + j * 6 + 5, none⟩) hx1 hbw).trans y5
    clear y0 y1 y2 y3 y4 y5
    injection hv with hA _ hcc
    subst hA hcc
    obtain ⟨pt', hfm⟩ := form_at28 f j pt HFORM.out hdr
    obtain ⟨_, hnm, hk1, hk11, hsub⟩ := form_sub hfm
    have hnn := fdrop_nodes f j
    rw [hdr, F.nodes] at hnn
    rw [hdr, usesR] at hr1
    obtain ⟨L2, hL2⟩ : ∃ L2, L2 = l1 ++ (if 2 ≤ k ∧ k ≤ 9 then [(n, typeU k)] else []) := ⟨_, rfl⟩
    have hr2 : ((L2 ++ usesR pa) ++ usesR ca) ++ usesR (fdrop f (j + 1)) = R := by rw [← hr1, hL2]; simp only [List.append_assoc]
    have hlen : L2.length + (usesR pa).length + (usesR ca).length ≤ 1000000000 := by
      have h := congrArg List.length hr2
      have := HRL.out
      simp only [List.length_append] at h
      omega
    have hl1 : l1.length ≤ L2.length := by rw [hL2, List.length_append]; omega
    obtain ⟨wb, hwb⟩ : ∃ wb, wb = wo.alloc (.cells #[.int .i64 k, .string ⟨t.toArray⟩, .string ⟨n.toArray⟩, .string ⟨s.toArray⟩, .slice Ac ca.len cac, .slice Ap pa.len cpa] 50) := ⟨_, rfl⟩
    have hxb : Ext wo wb := by rw [hwb]; exact (Ext.refl wo).alloc _
    have HB := Lib.hid (show AtC 50 wb wo.heap.size #[.int .i64 k, .string ⟨t.toArray⟩, .string ⟨n.toArray⟩, .string ⟨s.toArray⟩, .slice Ac ca.len cac, .slice Ap pa.len cpa] from by rw [hwb]; exact AtC.new wo _)
    have HCA := Lib.hid hCA
    have HPA := Lib.hid hPA
    have HO1 := Lib.hid (show UsO w _ l1 wb from own_ext hown hxb)
    have HX1 := Lib.hid (hx1.trans hxb)
    have HSUB := Lib.hid hsub
    have KT := Lib.hid (fun W => rtype28_any k hk1 hk11 W)
    have HR2 := Lib.hid hr2
    have HNN := Lib.hid hnn
    have HLN := Lib.hid hlen
    have HL1 := Lib.hid hl1
    have HSW := Lib.hid (show w.heap.size ≤ wb.heap.size from (hx1.trans hxb).size)
    obtain ⟨cs, hcs⟩ : ∃ cs : Array Value, cs = #[.int .i64 k, .string ⟨t.toArray⟩, .string ⟨n.toArray⟩, .string ⟨s.toArray⟩, .slice Ac ca.len cac, .slice Ap pa.len cpa] := ⟨_, rfl⟩
    have HBX := Lib.hid (show AtC 50 wb wo.heap.size cs from by rw [hcs]; exact HB.out)
    have HCS := Lib.hid hcs
    clear hcs
    have hcl : ca.len ≤ 1000000000 := by have := fmNodes ca; omega
    have HTY := Lib.hid (show (0 ≤ typR k → L2 = l1 ++ [(n, typR k)]) ∧ (¬ 0 ≤ typR k → L2 = l1) from by
      unfold typR
      by_cases h : 2 ≤ k ∧ k ≤ 9
      · rw [if_pos h]
        rw [if_pos h] at hL2
        refine ⟨fun _ => hL2, fun hh => absurd ?_ hh⟩
        have hk := typeU_known (k := k)
        unfold knownB at hk
        simp only [Bool.and_eq_true, decide_eq_true_eq] at hk
        exact hk.1
      · rw [if_neg h]
        rw [if_neg h] at hL2
        exact ⟨fun hh => absurd hh (by decide), fun _ => by rw [hL2, List.append_nil]⟩)
    generalize typR k = ty at KT HTY
    obtain ⟨A1, cp1, hv1, hn1, hs1, _⟩ := own_form HO1.out
    have b0 := HB.out.cell 0 _ rfl
    clear hCA hPA hown hx1 hsub hfm hnm hk1 hk11 hL2 hr1 hr2 hnn hdr hxb hbw hlen hl1 hs1
    subst hv1
    go_upto_region 6 with (fail)
    rw [← hwb]
    clear hwb
    go_upto_if 20 with (first | (go_at_call 86; (with_reducible refine (KT.out _).mono ?_); rintro e w2 ⟨rfl, rfl⟩))
    go_cut [3] (UsR w wo.heap.size cs L2)
    case first =>
      by_cases hty : 0 ≤ ty
      · have hte := HTY.out.1 hty
        have HTE := Lib.hid hte
        have b2 := HB.out.cell 2 _ rfl
        have HNB := Lib.hid (show l1.length + 1 ≤ 1000000000 from by have := HLN.out; rw [hte, List.length_append] at this; simp at this; omega)
        clear hte HTY
        have tok1 : True := trivial
        have tok2 : True := trivial
        go_wp2_with fail
        go_region_law (first
          | (have _t := tok1; go_simp; go_at_call 86; (with_reducible refine (KT.out _).mono ?_); rintro e w3 ⟨rfl, rfl⟩; clear tok1)
          | (have _t := tok2; refine step_appN _ rfl _ _ 41 rfl w.heap.size 66 i0 _ 2 24 Tryz.underlying41 hi hz0 hz1 hz2 rfl (by decide) _ _ _ rfl (own_ext HO1.out ((Ext.refl wb).alloc (.cells #[.string ⟨n.toArray⟩, .int .i64 ty] 66)).drew) _ 1 _ _ rfl (SlN.ext (slN_new wb #[.string ⟨n.toArray⟩, .int .i64 ty] 66 1 2 rfl) (Ext.refl _).drew) (by simp [Value.oneCell']) (by have := HNB.out; unfold maxLen; omega) (by have := HNB.out; omega) (by have := HSW.out; simp; omega) ?_; intro v6 w6 hown6 hgrow6; have HO6 := Lib.hid hown6; have HG6 := Lib.hid hgrow6; clear hown6 hgrow6 tok2))
        all_goals go_wp2_with fail
        all_goals go_meet
        all_goals
          refine ⟨?_, ext_grown (a := w) (B := w.heap.size) ((HX1.out.alloc _).drew) (own_ext HO1.out (((Ext.refl wb).alloc (.cells #[.string ⟨n.toArray⟩, .int .i64 ty] 66)).drew)) (Nat.le_refl _) HG6.out, (HBX.out.ext (((Ext.refl wb).alloc (.cells #[.string ⟨n.toArray⟩, .int .i64 ty] 66)).drew)).grownA (own_ext HO1.out (((Ext.refl wb).alloc (.cells #[.string ⟨n.toArray⟩, .int .i64 ty] 66)).drew)) HG6.out (by decide)⟩
          unfold UsO
          rw [HTE.out, ags_app, List.length_append]
          exact HO6.out
      · have HTE := Lib.hid (HTY.out.2 (by omega))
        clear HTY
        go_wp2_with fail
        go_meet
        exact ⟨by rw [HTE.out]; exact HO1.out, HX1.out, HBX.out⟩
    case rest =>
    obtain ⟨w3, hw3⟩ : ∃ w3 : World, w3 = wc := ⟨_, rfl⟩
    rw [← hw3] at hcut
    obtain ⟨ho3, hx3, hb3⟩ := hcut
    obtain ⟨A2, cp2, hv2, hn2, _, _⟩ := own_form ho3
    subst hv2
    have HO3 := Lib.hid ho3
    have HX3 := Lib.hid hx3
    have HB3 := Lib.hid hb3
    obtain ⟨d3, c3', hf3⟩ : ∃ d3 c3, formB d3 c3 false pa = true := by
      rcases HSUB.out with ⟨_, rfl | h⟩ | ⟨rfl, _⟩
      · exact ⟨0, false, rfl⟩
      · exact h
      · exact ⟨0, false, rfl⟩
    have KW := Lib.hid (hN pa (.slice Ap pa.len cpa) ok d3 c3' false w3 (by have := HNN.out; have := HND.out; omega) (HPA.out.ext hx3) hf3 (by have := HNN.out; omega))
    have b5 : w3.cell? ⟨wo.heap.size, 5, none⟩ = some (.slice Ap pa.len cpa) := hb3.cell 5 _ (by rw [HCS.out]; rfl)
    have HUP := Lib.hid (ags_one (usesR pa))
    obtain ⟨U, hU⟩ : ∃ U, U = usesR pa := ⟨_, rfl⟩
    rw [← hU] at KW HUP
    have HU := Lib.hid hU
    have hlu : L2.length + U.length ≤ 1000000000 := by rw [hU]; have := HLN.out; omega
    clear ho3 hx3 hb3 hf3 hU b0 KT
    go_upto_region 8 with (fail)
    rw [← hw3]
    clear hw3
    go_wp2_with fail
    refine KW.out.mono ?_
    rintro e w4 ⟨A4, n4, c4', rfl, hs4, hn4, hx4⟩
    have hl4 : n4 = U.length := by have := hs4.len; rw [List.length_map] at this; omega
    subst hl4
    have HS4 := Lib.hid hs4
    have HX4 := Lib.hid (HX3.out.trans hx4)
    have HO4 := Lib.hid (own_ext HO3.out hx4)
    have HB4 := Lib.hid (HB3.out.ext hx4)
    clear hs4 hx4 KW b5
    have tok3 : True := trivial
    go_wp2_with (first | (have _t := tok3; at_builtin; refine wpList_appSl _ rfl _ _ 41 rfl w.heap.size 66 i0 _ 2 24 Tryz.underlying41 hi hz0 hz1 hz2 rfl (by decide) _ L2.length _ rfl HO4.out A4 U.length c4' _ rfl HS4.out HUP.out (by unfold maxLen; omega) (by omega) (by have := HX4.out.size; omega) ?_; intro v5 w5 hown5 hgrow5; have HO5 := Lib.hid hown5; have HG5 := Lib.hid hgrow5; clear hown5 hgrow5 tok3))
    have HX5 := Lib.hid (show Ext w w5 from ext_grown (a := w) (B := w.heap.size) HX4.out HO4.out (Nat.le_refl _) HG5.out)
    have HB5 := Lib.hid (show AtC 50 w5 wo.heap.size cs from HB4.out.grownA HO4.out HG5.out (by decide))
    have HU5 := Lib.hid (show UsO w v5 (L2 ++ U) w5 from by
      unfold UsO
      rw [ags_app, List.length_append]
      exact HO5.out)
    obtain ⟨RC, hRC⟩ : ∃ RC, RC = (L2 ++ U) ++ usesR ca := ⟨_, rfl⟩
    have HJ0 := Lib.hid (show UsJ w wo.heap.size cs RC ca v5 (.int .i64 0) w5 from ⟨0, _, Nat.zero_le _, rfl, HU5.out, by rw [fdrop_zero]; exact hRC.symm, HX5.out, HB5.out⟩)
    have HRC := Lib.hid (show RC ++ usesR (fdrop f (j + 1)) = R from by rw [hRC, HU.out]; exact HR2.out)
    have HRCL := Lib.hid (show RC.length ≤ 1000000000 from by rw [hRC, List.length_append, List.length_append, HU.out]; have := HLN.out; omega)
    clear hRC HO5 HG5 HU5 HO4 HS4 HUP
    go_wp2_with fail
    go_loopw [3, 6] (UsJ w wo.heap.size cs RC ca) (fun _ i _ => ca.len - (intOf i).toNat)
    case atStart => exact HJ0.out
    case round =>
      obtain ⟨j2, l2, hj2, rfl, ho6, hr6, hx6, hb6⟩ := hrel
      obtain ⟨wq, rfl⟩ : ∃ wq : World, wq = wr := ⟨_, rfl⟩
      obtain ⟨A6, cp6, hv6, hn6, _, _⟩ := own_form ho6
      subst hv6
      have b4 : wq.cell? ⟨wo.heap.size, 4, none⟩ = some (.slice Ac ca.len cac) := hb6.cell 4 _ (by rw [HCS.out]; rfl)
      have HO6 := Lib.hid ho6
      have HX6 := Lib.hid hx6
      have HB6 := Lib.hid hb6
      by_cases hjl2 : j2 < ca.len
      rotate_left
      · have hjI2 : ¬ (j2 : Int) < (ca.len : Int) := by omega
        rw [fdrop_end ca j2 (by omega)] at hr6
        have hr7 : l2 = RC := by simpa [usesR] using hr6
        have HR7 := Lib.hid (show l2 ++ usesR (fdrop f (j + 1)) = R from by rw [hr7]; exact HRC.out)
        clear ho6 hx6 hb6 hr6 hr7
        go_wp2
        exact ⟨⟨j + 1, l2, hjl, by go_num, HO6.out, HR7.out, HX6.out⟩, by simp [intOf]; omega⟩
      have hjI2 : (j2 : Int) < (ca.len : Int) := by omega
      obtain ⟨b', o', cc2, k', t', n', s', ca', pa', Ap', cp', hv', hbw', _, hdr', z0, z1, hPA'⟩ := HCA.out.at_ hjl2
      injection hv' with hA' _ hcc'
      subst hA' hcc'
      have d1 := (Ext.cell (p := ⟨b', o' + j2 * 2 + 1, none⟩) hx6 hbw').trans z1
      obtain ⟨kd, d3, c3', hcb⟩ : ∃ kd d' c', casB kd d' c' [] ca = true := by
        rcases HSUB.out with ⟨h, _⟩ | ⟨_, h⟩
        · subst h; exact absurd hjl2 (Nat.not_lt_zero _)
        · exact h
      obtain ⟨e0, e1, hf3⟩ := cas_at28 ca j2 [] hcb hdr'
      subst e0 e1
      have hnn2 := fdrop_nodes ca j2
      rw [hdr', F.nodes] at hnn2
      rw [hdr', usesR, if_neg (by decide), List.nil_append, ← List.append_assoc] at hr6
      have hr7 : l2 ++ usesR pa' ++ usesR (fdrop ca (j2 + 1)) = RC := by simpa [usesR] using hr6
      have hl7 : l2.length + (usesR pa').length ≤ 1000000000 := by
        have h := congrArg List.length hr7
        have := HRCL.out
        simp only [List.length_append] at h
        omega
      have KW := Lib.hid (hN pa' (.slice Ap' pa'.len cp') ok d3 c3' false wq (by have := HNN.out; have := HND.out; omega) (hPA'.ext hx6) hf3 (by have := HNN.out; omega))
      have HUP := Lib.hid (ags_one (usesR pa'))
      generalize usesR pa' = U' at KW HUP hr7 hl7
      have HR7 := Lib.hid hr7
      clear ho6 hx6 hb6 hr6 hr7 z0 z1 hcb hf3 hPA' hdr' hnn2 hbw'
      go_wp2_with fail
      refine KW.out.mono ?_
      rintro e w7 ⟨A7, n7, c7, rfl, hs7, hn7, hx7⟩
      have hl8 : n7 = U'.length := by have := hs7.len; rw [List.length_map] at this; omega
      subst hl8
      have HS7 := Lib.hid hs7
      have HX7 := Lib.hid (HX6.out.trans hx7)
      have HO7 := Lib.hid (own_ext HO6.out hx7)
      have HB7 := Lib.hid (HB6.out.ext hx7)
      clear hs7 hx7 KW b4 d1
      have tok4 : True := trivial
      go_wp2_with (first | (have _t := tok4; at_builtin; refine wpList_appSl _ rfl _ _ 41 rfl w.heap.size 66 i0 _ 2 24 Tryz.underlying41 hi hz0 hz1 hz2 rfl (by decide) _ l2.length _ rfl HO7.out A7 U'.length c7 _ rfl HS7.out HUP.out (by unfold maxLen; omega) (by omega) (by have := HX7.out.size; omega) ?_; intro v8 w8 hown8 hgrow8; have HO8 := Lib.hid hown8; have HG8 := Lib.hid hgrow8; clear hown8 hgrow8 tok4))
      refine ⟨⟨j2 + 1, l2 ++ U', hjl2, by go_num, ?_, HR7.out, ext_grown (a := w) (B := w.heap.size) HX7.out HO7.out (Nat.le_refl _) HG8.out, HB7.out.grownA HO7.out HG8.out (by decide)⟩, by simp [intOf]; omega⟩
      unfold UsO
      rw [ags_app, List.length_append]
      exact HO8.out
theorem uses_all : ∀ N, UsH N
  | 0 => fun f v ok d c pt w h => absurd h (Nat.not_lt_zero _)
  | N + 1 => uses_step N (uses_all N)
end Go.Proofs.YtpfmojeigjmlfaaGreatDoor
