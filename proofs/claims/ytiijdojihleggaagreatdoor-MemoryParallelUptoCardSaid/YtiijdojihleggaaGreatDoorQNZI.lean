import Derived.Test.YtiijdojihleggaaGreatDoorQNZH
import Derived.Test.YtiijdojihleggaaGreatDoorQNPI
import Derived.Test.YtiijdojihleggaaGreatDoorQNZD
set_option maxRecDepth 100000
set_option linter.unusedSimpArgs false
set_option linter.unusedVariables false
open Go.Lib (hid)
namespace Go.Proofs.YtiijdojihleggaaGreatDoor
open Go.RowKit
def RetPlc (w : World) (L : List PlP) (e : Ending) (w' : World) : Prop := ∃ A c, e = .returned (.slice A L.length c) ∧ SlN w' A L.length 6 (L.flatMap plC) ∧ L.length ≤ c ∧ Ext w w'
def PlcH (N : Nat) : Prop := ∀ (f : F) (v : Value) (ok : Nat → Prop) (d : Nat) (c pt : Bool) (w : World), f.nodes < N → FwS w ok f v → formB d c pt f = true → f.nodes ≤ 1000000000 → Calls Tryz.prog 43 #[v] w (RetPlc w (placesF f))
def PlcO (w : World) (out : Value) (l : List PlP) (wr : World) : Prop := wr.ownsRow w.heap.size 96 6 out l.length (l.flatMap plC)
def PlcI (w : World) (R : List PlP) (f : F) (out i : Value) (wr : World) : Prop := ∃ (j : Nat) (l : List PlP), j ≤ f.len ∧ i = .int .i64 j ∧ PlcO w out l wr ∧ l ++ placesF (fdrop f j) = R ∧ Ext w wr
def PlcJ (w : World) (bx : Nat) (cs : Array Value) (R : List PlP) (f : F) (out i : Value) (wr : World) : Prop := ∃ (j : Nat) (l : List PlP), j ≤ f.len ∧ i = .int .i64 j ∧ PlcO w out l wr ∧ l ++ placesF (fdrop f j) = R ∧ Ext w wr ∧ (∀ b, out.ownBlock = some b → b ≠ bx) ∧ AtC 96 wr bx cs
def PlcR (w : World) (bx : Nat) (cs : Array Value) (l : List PlP) (out : Value) (wr : World) : Prop := PlcO w out l wr ∧ Ext w wr ∧ (∀ b, out.ownBlock = some b → b ≠ bx) ∧ AtC 96 wr bx cs
def BWz2 (b : Bool) (W : World) (v : Value) (wx : World) : Prop := v = .bool b ∧ W = wx
theorem pl_app (l m : List PlP) : (l ++ m).flatMap plC = l.flatMap plC ++ m.flatMap plC := List.flatMap_append
set_option maxHeartbeats 8000000 in
theorem place_step (N : Nat) (hN : PlcH N) : PlcH (N + 1) := by
 intro f v ok d c pt w hnd hF hform hfn
 obtain ⟨i0, hi, hz0, hz1, hz2⟩ := info_parts (show (Tryz.prog.info? 96).map (fun i => (i.zero, i.size, i.bytes)) = some (some (.agg #[.int .i64 0, .string ⟨#[]⟩, .string ⟨#[]⟩, .string ⟨#[]⟩, .slice none 0 0, .slice none 0 0]), 6, 104) from by kernel_rfl)
 obtain ⟨Af, cf, rfl⟩ := hF.val
 have hfl : f.len ≤ 1000000000 := by have := fmNodes f; omega
 obtain ⟨R, hR⟩ : ∃ R, R = placesF f := ⟨_, rfl⟩
 have HRL := hid (show R.length ≤ 1000000000 from by rw [hR]; have := places_len f; omega)
 rw [← hR]
 have HF := hid hF
 have HFORM := hid hform
 have HND := hid hnd
 have H0 := hid (show PlcI w R f (.slice none 0 0) (.int .i64 0) w from ⟨0, [], Nat.zero_le _, rfl, World.ownsRow_nil _ _ _ _, by rw [fdrop_zero]; exact hR.symm, Ext.refl _⟩)
 clear hF hform hnd hR
 go_enter Tryz.func43, Tryz.ntmps43
 go_wp2_with fail
 go_loopw [3, 10] (PlcI w R f) (fun _ i _ => f.len - (intOf i).toNat)
 case atStart => exact H0.out
 case round =>
  obtain ⟨j, l1, hj, rfl, hown, hr1, hx1⟩ := hrel
  obtain ⟨wo, rfl⟩ : ∃ wo : World, wo = wr := ⟨_, rfl⟩
  by_cases hjl : j < f.len
  rotate_left
  ·have hjI : ¬ (j : Int) < (f.len : Int) := by omega
   rw [fdrop_end f j (by omega)] at hr1
   have hr2 : l1 = R := by simpa [placesF] using hr1
   subst hr2
   obtain ⟨A5, c5, rfl, hn5, hs5, _⟩ := own_form hown
   have HS5 := hid hs5
   have HX1 := hid hx1
   clear hr1 hown hs5 hx1
   go_wp2
   go_ret
   exact ⟨A5, c5, rfl, HS5.out, hn5, HX1.out⟩
  have hjI : (j : Int) < (f.len : Int) := by omega
  obtain ⟨bf, o, cc', k, t, n, s, ca, pa, Ac, cac, Ap, cpa, hv, hbw, _, hdr, y0, y1, y2, y3, y4, y5, hCA, hPA⟩ := HF.out.at_ hjl
  have c0 := (Ext.cell (p := ⟨bf, o + j * 6, none⟩) hx1 hbw).trans y0
  have c1 := (Ext.cell (p := ⟨bf, o + j * 6 + 1, none⟩) hx1 hbw).trans y1
  have c2 := (Ext.cell (p := ⟨bf, o + j * 6 + 2, none⟩) hx1 hbw).trans y2
  have c3 := (Ext.cell (p := ⟨bf, o + j * 6 + 3, none⟩) hx1 hbw).trans y3
  have c4 := (Ext.cell (p := ⟨bf, o + j * 6 + 4, none⟩) hx1 hbw).trans y4
  have c5 := (Ext.cell (p := ⟨bf, o + j * 6 + 5, none⟩) hx1 hbw).trans y5
  clear y0 y1 y2 y3 y4 y5
  injection hv with hA _ hcc
  subst hA hcc
  obtain ⟨pt', hfm⟩ := form_at28 f j pt HFORM.out hdr
  obtain ⟨_, hnm, hk1, hk11, hsub⟩ := form_sub hfm
  have hnn := fdrop_nodes f j
  rw [hdr, F.nodes] at hnn
  rw [hdr, placesF] at hr1
  have hcomm : placesF pa ++ placesF ca = placesF ca ++ placesF pa := by
   rcases hsub with ⟨rfl, _⟩ | ⟨rfl, _⟩
   ·simp [placesF]
   ·simp [placesF]
  obtain ⟨L2, hL2⟩ : ∃ L2, L2 = l1 ++ (if 2 ≤ k ∧ k ≤ 9 then [(k, s, n)] else []) := ⟨_, rfl⟩
  have hr2 : ((L2 ++ placesF ca) ++ placesF pa) ++ placesF (fdrop f (j + 1)) = R := by
   rw [← hr1, hL2, List.append_assoc (l1 ++ _) (placesF ca), ← hcomm]
   simp only [List.append_assoc]
  have hlen : L2.length + (placesF ca).length + (placesF pa).length ≤ 1000000000 := by
   have h := congrArg List.length hr2
   have := HRL.out
   simp only [List.length_append] at h
   omega
  have hl1 : l1.length ≤ L2.length := by rw [hL2, List.length_append]; omega
  obtain ⟨wb, hwb⟩ : ∃ wb, wb = wo.alloc (.cells #[.int .i64 k, .string ⟨t.toArray⟩, .string ⟨n.toArray⟩, .string ⟨s.toArray⟩, .slice Ac ca.len cac, .slice Ap pa.len cpa] 96) := ⟨_, rfl⟩
  have hxb : Ext wo wb := by rw [hwb]; exact (Ext.refl wo).alloc _
  have HB := hid (show AtC 96 wb wo.heap.size #[.int .i64 k, .string ⟨t.toArray⟩, .string ⟨n.toArray⟩, .string ⟨s.toArray⟩, .slice Ac ca.len cac, .slice Ap pa.len cpa] from by rw [hwb]; exact AtC.new wo _)
  have hob : ∀ (out : Value), PlcO w out l1 wo → ∀ b, out.ownBlock = some b → b ≠ wo.heap.size := fun out ho b hb e => by
   have := (ho.lt b hb).2
   omega
  have HOB := hid (hob _ hown)
  have HCA := hid hCA
  have HPA := hid hPA
  have HO1 := hid (show PlcO w _ l1 wb from own_ext hown hxb)
  have HX1 := hid (hx1.trans hxb)
  have HSUB := hid hsub
  have HR2 := hid hr2
  have HNN := hid hnn
  have HLN := hid hlen
  have HL1 := hid hl1
  have HSW := hid (show w.heap.size ≤ wb.heap.size from (hx1.trans hxb).size)
  obtain ⟨cs, hcs⟩ : ∃ cs : Array Value, cs = #[.int .i64 k, .string ⟨t.toArray⟩, .string ⟨n.toArray⟩, .string ⟨s.toArray⟩, .slice Ac ca.len cac, .slice Ap pa.len cpa] := ⟨_, rfl⟩
  have HBX := hid (show AtC 96 wb wo.heap.size cs from by rw [hcs]; exact HB.out)
  have HCS := hid hcs
  clear hcs
  have hcl : ca.len ≤ 1000000000 := by have := fmNodes ca; omega
  obtain ⟨kb, hkb⟩ : ∃ kb : Bool, kb = decide (2 ≤ k ∧ k ≤ 9) := ⟨_, rfl⟩
  have HKB := hid (show kb = (!(k == 1) && !(k == 11) && !(k == 10)) from by
   rw [hkb, Bool.eq_iff_iff]
   simp
   omega)
  have HTY := hid (show (kb = true → L2 = l1 ++ [(k, s, n)]) ∧ (kb = false → L2 = l1) from by
   rw [hkb]
   by_cases h : 2 ≤ k ∧ k ≤ 9
   ·rw [if_pos h] at hL2
    exact ⟨fun _ => hL2, fun hh => absurd h (of_decide_eq_false hh)⟩
   ·rw [if_neg h] at hL2
    exact ⟨fun hh => absurd (of_decide_eq_true hh) h, fun _ => by rw [hL2, List.append_nil]⟩)
  obtain ⟨A1, cp1, hv1, hn1, hs1, _⟩ := own_form HO1.out
  have b0 := HB.out.cell 0 _ rfl
  have b2 := HB.out.cell 2 _ rfl
  have b3 := HB.out.cell 3 _ rfl
  clear hCA hPA hown hx1 hsub hfm hnm hL2 hr1 hr2 hnn hdr hxb hbw hlen hl1 hs1 hob hcomm hkb
  subst hv1
  go_upto_region 5 with (fail)
  rw [← hwb]
  clear hwb
  go_cut [26] (BWz2 kb wb)
  case first =>
   go_wp2_with fail
   all_goals
    go_meet
    exact ⟨by rw [HKB.out]; first | rfl | (simp_all; done) | (simp_all; rfl), rfl⟩
  case rest =>
  obtain ⟨rfl, rfl⟩ := hcut
  go_upto_if 26 with (fail)
  go_cut [3] (PlcR w wo.heap.size cs L2)
  case first =>
   cases kb
   ·have HTE := hid (HTY.out.2 rfl)
    clear HTY
    go_wp2_with fail
    go_meet
    exact ⟨by rw [HTE.out]; exact HO1.out, HX1.out, HOB.out, HBX.out⟩
   ·have HTE := hid (HTY.out.1 rfl)
    have HNB := hid (show l1.length + 1 ≤ 1000000000 from by have := HLN.out; rw [HTE.out, List.length_append] at this; simp at this; omega)
    clear HTY
    go_wp2_with (at_builtin; refine wpList_appN _ rfl _ _ 47 rfl w.heap.size 96 i0 _ 6 104 Tryz.underlying47 hi hz0 hz1 hz2 rfl (by decide) _ _ _ rfl (own_ext HO1.out ((Ext.refl wb).alloc (.cells #[.int .i64 k, .string ⟨#[]⟩, .string ⟨n.toArray⟩, .string ⟨s.toArray⟩, .slice none 0 0, .slice none 0 0] 96))) ⟨wb.heap.size, 0, none⟩ 1 1 [.int .i64 k, .string ⟨#[]⟩, .string ⟨n.toArray⟩, .string ⟨s.toArray⟩, .slice none 0 0, .slice none 0 0] rfl rfl (new_cells wb #[.int .i64 k, .string ⟨#[]⟩, .string ⟨n.toArray⟩, .string ⟨s.toArray⟩, .slice none 0 0, .slice none 0 0] 96) (by simp [Value.oneCell']) (by have := HNB.out; unfold maxLen; omega) (by have := HNB.out; omega) (by have := HSW.out; simp; omega) ?_; intro v6 w6 hown6 hgrow6 hwh6; have HO6 := hid hown6; have HG6 := hid hgrow6; have HW6 := hid hwh6; clear hown6 hgrow6 hwh6)
    go_meet
    refine ⟨?_, ext_grown (a := w) (B := w.heap.size) (HX1.out.alloc _) (own_ext HO1.out ((Ext.refl wb).alloc (.cells #[.int .i64 k, .string ⟨#[]⟩, .string ⟨n.toArray⟩, .string ⟨s.toArray⟩, .slice none 0 0, .slice none 0 0] 96))) (Nat.le_refl _) HG6.out, ?_, (HBX.out.alloc _).grownB HG6.out HOB.out⟩
    ·unfold PlcO
     rw [HTE.out, pl_app, List.length_append]
     exact HO6.out
    ·intro b hb
     rcases HW6.out with h | h
     ·exact HOB.out b (h.symm.trans hb)
     ·have h1 := h b hb
      have h2 := HBX.out.lt
      simp at h1
      omega
  case rest =>
  obtain ⟨w3, hw3⟩ : ∃ w3 : World, w3 = wc := ⟨_, rfl⟩
  rw [← hw3] at hcut
  obtain ⟨ho3, hx3, hn3, hb3⟩ := hcut
  obtain ⟨A2, cp2, hv2, hn2, _, _⟩ := own_form ho3
  subst hv2
  have b4 : w3.cell? ⟨wo.heap.size, 4, none⟩ = some (.slice Ac ca.len cac) := hb3.cell 4 _ (by rw [HCS.out]; rfl)
  obtain ⟨RC, hRC⟩ : ∃ RC, RC = L2 ++ placesF ca := ⟨_, rfl⟩
  have HJ0 := hid (show PlcJ w wo.heap.size cs RC ca _ (.int .i64 0) w3 from ⟨0, _, Nat.zero_le _, rfl, ho3, by rw [fdrop_zero]; exact hRC.symm, hx3, hn3, hb3⟩)
  have HRC := hid (show RC ++ placesF pa ++ placesF (fdrop f (j + 1)) = R from by rw [hRC]; exact HR2.out)
  have HRCL := hid (show RC.length + (placesF pa).length ≤ 1000000000 from by rw [hRC, List.length_append]; exact HLN.out)
  clear hRC ho3 hx3 hn3 hb3 b0 b2 b3
  rw [← hw3]
  clear hw3
  go_wp2_with fail
  go_loopw [3, 40] (PlcJ w wo.heap.size cs RC ca) (fun _ i _ => ca.len - (intOf i).toNat)
  case atStart => exact HJ0.out
  case round =>
   obtain ⟨j2, l2, hj2, rfl, ho6, hr6, hx6, hn6, hb6⟩ := hrel
   obtain ⟨wq, rfl⟩ : ∃ wq : World, wq = wr := ⟨_, rfl⟩
   obtain ⟨A6, cp6, hv6, hn6', _, _⟩ := own_form ho6
   subst hv6
   have HO6 := hid ho6
   have HX6 := hid hx6
   have HN6 := hid hn6
   have HB6 := hid hb6
   by_cases hjl2 : j2 < ca.len
   rotate_left
   ·as_aux_lemma =>
    have hjI2 : ¬ (j2 : Int) < (ca.len : Int) := by omega
    rw [fdrop_end ca j2 (by omega)] at hr6
    have hr7 : l2 = RC := by simpa [placesF] using hr6
    subst hr7
    have b5 : wq.cell? ⟨wo.heap.size, 5, none⟩ = some (.slice Ap pa.len cpa) := hb6.cell 5 _ (by rw [HCS.out]; rfl)
    obtain ⟨d3, c3', hf3⟩ : ∃ d3 c3, formB d3 c3 false pa = true := by
     rcases HSUB.out with ⟨_, rfl | h⟩ | ⟨rfl, _⟩
     ·exact ⟨0, false, rfl⟩
     ·exact h
     ·exact ⟨0, false, rfl⟩
    have KW := hid (hN pa (.slice Ap pa.len cpa) ok d3 c3' false wq (by have := HNN.out; have := HND.out; omega) (HPA.out.ext hx6) hf3 (by have := HNN.out; omega))
    have HUP := hid (plC_one (placesF pa))
    obtain ⟨U, hU⟩ : ∃ U, U = placesF pa := ⟨_, rfl⟩
    rw [← hU] at KW HUP
    have HRF := hid (show l2 ++ U ++ placesF (fdrop f (j + 1)) = R from by rw [hU]; exact HRC.out)
    have hlu : l2.length + U.length ≤ 1000000000 := by rw [hU]; exact HRCL.out
    clear ho6 hx6 hn6 hb6 hr6 hf3 hU
    go_wp2_with fail
    refine KW.out.mono ?_
    rintro e w4 ⟨A4, c4', rfl, hs4, hn4, hx4⟩
    have HS4 := hid hs4
    have HX4 := hid (HX6.out.trans hx4)
    have HO4 := hid (own_ext HO6.out hx4)
    clear hs4 hx4 KW b5
    go_wp2_with (at_builtin; refine wpList_appSl _ rfl _ _ 47 rfl w.heap.size 96 i0 _ 6 104 Tryz.underlying47 hi hz0 hz1 hz2 rfl (by decide) _ l2.length _ rfl HO4.out A4 U.length c4' _ rfl HS4.out HUP.out (by unfold maxLen; omega) (by omega) (by have := HX4.out.size; omega) ?_; intro v5 w5 hown5 hgrow5; have HO5 := hid hown5; have HG5 := hid hgrow5; clear hown5 hgrow5)
    refine ⟨⟨j + 1, l2 ++ U, hjl, by go_num, ?_, HRF.out, ext_grown (a := w) (B := w.heap.size) HX4.out HO4.out (Nat.le_refl _) HG5.out⟩, by simp [intOf]; omega⟩
    unfold PlcO
    rw [pl_app, List.length_append]
    exact HO5.out
   as_aux_lemma =>
   have hjI2 : (j2 : Int) < (ca.len : Int) := by omega
   obtain ⟨b', o', cc2, k', t', n', s', ca', pa', Ap', cp', hv', hbw', _, hdr', z0, z1, hPA'⟩ := HCA.out.at_ hjl2
   injection hv' with hA' _ hcc'
   subst hA' hcc'
   have d0 := (Ext.cell (p := ⟨b', o' + j2 * 2, none⟩) hx6 hbw').trans z0
   have d1 := (Ext.cell (p := ⟨b', o' + j2 * 2 + 1, none⟩) hx6 hbw').trans z1
   obtain ⟨kd, d3, c3', hcb⟩ : ∃ kd d' c', casB kd d' c' [] ca = true := by
    rcases HSUB.out with ⟨h, _⟩ | ⟨_, h⟩
    ·subst h; exact absurd hjl2 (Nat.not_lt_zero _)
    ·exact h
   obtain ⟨e0, e1, hf3⟩ := cas_at28 ca j2 [] hcb hdr'
   subst e0 e1
   have hnn2 := fdrop_nodes ca j2
   rw [hdr', F.nodes] at hnn2
   rw [hdr', placesF, if_neg (by decide), List.nil_append, ← List.append_assoc] at hr6
   have hr7 : l2 ++ placesF pa' ++ placesF (fdrop ca (j2 + 1)) = RC := by simpa [placesF] using hr6
   have hl7 : l2.length + (placesF pa').length ≤ 1000000000 := by
    have h := congrArg List.length hr7
    have := HRCL.out
    simp only [List.length_append] at h
    omega
   obtain ⟨wc2, hwc2⟩ : ∃ wc2, wc2 = wq.alloc (.cells #[.string ⟨n'.toArray⟩, .slice Ap' pa'.len cp'] 106) := ⟨_, rfl⟩
   have hxc : Ext wq wc2 := by rw [hwc2]; exact (Ext.refl wq).alloc _
   have KW := hid (hN pa' (.slice Ap' pa'.len cp') ok d3 c3' false wc2 (by have := HNN.out; have := HND.out; omega) (hPA'.ext (hx6.trans hxc)) hf3 (by have := HNN.out; omega))
   have HUP := hid (plC_one (placesF pa'))
   generalize placesF pa' = U' at KW HUP hr7 hl7
   have HR7 := hid hr7
   have HXC := hid hxc
   rw [hwc2] at KW
   clear ho6 hx6 hn6 hb6 hr6 hr7 z0 z1 hcb hf3 hPA' hdr' hnn2 hbw' hxc
   go_wp2_with fail
   refine KW.out.mono ?_
   rw [← hwc2]
   rintro e w7 ⟨A7, c7, rfl, hs7, hn7, hx7⟩
   have HS7 := hid hs7
   have HX7 := hid (HX6.out.trans (HXC.out.trans hx7))
   have HO7 := hid (own_ext HO6.out (HXC.out.trans hx7))
   have HB7 := hid (HB6.out.ext (HXC.out.trans hx7))
   clear hs7 hx7 KW d0 d1
   go_wp2_with (at_builtin; refine wpList_appSW _ rfl _ _ 47 rfl w.heap.size 96 i0 _ 6 104 Tryz.underlying47 hi hz0 hz1 hz2 rfl (by decide) _ l2.length _ rfl HO7.out A7 U'.length c7 _ rfl HS7.out HUP.out (by unfold maxLen; omega) (by omega) (by have := HX7.out.size; omega) ?_; intro v8 w8 hown8 hgrow8 hwh8; have HO8 := hid hown8; have HG8 := hid hgrow8; have HW8 := hid hwh8; clear hown8 hgrow8 hwh8)
   refine ⟨⟨j2 + 1, l2 ++ U', hjl2, by go_num, ?_, HR7.out, ext_grown (a := w) (B := w.heap.size) HX7.out HO7.out (Nat.le_refl _) HG8.out, ?_, HB7.out.grownB HG8.out HN6.out⟩, by simp [intOf]; omega⟩
   ·unfold PlcO
    rw [pl_app, List.length_append]
    exact HO8.out
   ·intro b hb
    rcases HW8.out with h | h
    ·exact HN6.out b (h.symm.trans hb)
    ·have h1 := h b hb
     have h2 := HB7.out.lt
     omega
theorem places_all : ∀ N, PlcH N
 | 0 => fun f v ok d c pt w h => absurd h (Nat.not_lt_zero _)
 | N + 1 => place_step N (places_all N)
end Go.Proofs.YtiijdojihleggaaGreatDoor
namespace Go.Proofs.YtiijdojihleggaaGreatDoor
open Go.RowKit
def RetPar (w : World) (r : Option (List NmP)) (e : Ending) (w' : World) : Prop :=
 ((r = none ∧ e = .returned (.tuple #[.slice none 0 0, .bool false])) ∨ ∃ l A c, r = some l ∧ e = .returned (.tuple #[.slice A l.length c, .bool true]) ∧ SlN w' A l.length 2 (l.flatMap nmC) ∧ ∀ p ∈ l, p.1.length ≤ 1048576 ∧ p.2.length ≤ 1048576) ∧ Ext w w'
def BWe (b : Bool) (W : World) (v : Value) (wx : World) : Prop := v = .bool b ∧ Ext W wx
def ParI (w3 : World) (m1 m2 : Nat) (R : Option (List NmP)) (xs ys : List PlP) (out i : Value) (wr : World) : Prop :=
 ∃ (j : Nat) (l : List NmP), i = .int .i64 j ∧ j ≤ xs.length ∧ l.length ≤ j ∧ wr.ownsRow w3.heap.size 57 2 out l.length (l.flatMap nmC) ∧ MapO Tryz.prog 9 wr m1 j (lookP l) ∧ MapO Tryz.prog 9 wr m2 j (lookP (l.map swpN)) ∧ OneN l ∧
   parL (xs.drop j) (ys.drop j) l = R ∧ Ext w3 wr ∧ ∀ p ∈ l, p.1.length ≤ 1048576 ∧ p.2.length ≤ 1048576
theorem zeroS (w : World) : (zeroValue 9).run Tryz.prog w = .ok (bV []) w := by kernel_rfl
theorem drop_two {α : Type} {xs : List α} {j : Nat} {x : α} (h : xs[j]? = some x) : xs.drop j = x :: xs.drop (j + 1) := by
 rw [List.drop_eq_getElem_cons (List.getElem?_eq_some_iff.1 h).1, (List.getElem?_eq_some_iff.1 h).2]
set_option maxHeartbeats 8000000 in
theorem tPar_any {f g : F} {v u : Value} {ok : Nat → Prop} {w : World} (hF : FwS w ok f v) (hG : FwS w ok g u) (hcf : Can f) (hcg : Can g) (hwf : wt f ≤ 40000000) (hwg : wt g ≤ 40000000) (hnf : f.nodes ≤ 100000000) (hng : g.nodes ≤ 100000000) (hm : Mx w) :
 Calls Tryz.prog 20 #[v, u] w (RetPar w (parV f g)) := by
 obtain ⟨i0, hi, hz0, hz1, hz2⟩ := info_parts (show (Tryz.prog.info? 57).map (fun i => (i.zero, i.size, i.bytes)) = some (some (.agg #[.string ⟨#[]⟩, .string ⟨#[]⟩]), 2, 32) from by kernel_rfl)
 obtain ⟨Af, cf, rfl⟩ := hF.val
 obtain ⟨Ag, cg, rfl⟩ := hG.val
 obtain ⟨R, hR⟩ : ∃ R, R = parV f g := ⟨_, rfl⟩
 rw [← hR]
 have K1 := hid (tValid_any hF hcf hwf hnf hm)
 have K2 := hid (fun W (hW : Ext w W) => tValid_any (hG.ext hW) hcg hwg hng (hm.ext hW))
 have HF := hid hF
 have HG := hid hG
 have HCF := hid (places_can f |>.1 hcf)
 have HCG := hid (places_can g |>.1 hcg)
 have HR := hid hR
 have HNF := hid hnf
 have HNG := hid hng
 obtain ⟨vf, hvf⟩ : ∃ b, b = validF false f := ⟨_, rfl⟩
 obtain ⟨vg, hvg⟩ : ∃ b, b = validF false g := ⟨_, rfl⟩
 rw [← hvf] at K1
 rw [← hvg] at K2
 have HVF := hid hvf
 have HVG := hid hvg
 clear hF hG hcf hcg hwf hwg hnf hng hm hR hvf hvg
 go_enter Tryz.func20, Tryz.ntmps20
 obtain ⟨nb, hnb⟩ : ∃ nb, nb = !(vf && vg) := ⟨_, rfl⟩
 have HNB := hid hnb
 clear hnb
 go_upto_region 1 with (fail)
 go_cut [25] (BWe nb w)
 case first =>
  as_aux_lemma =>
  cases vf
  ·go_wp2_with (go_at_call 42; refine K1.out.mono ?_; rintro e w1 ⟨rfl, hx1⟩; have HX1 := hid hx1; clear hx1)
   go_meet
   exact ⟨by rw [HNB.out]; rfl, HX1.out⟩
  ·go_wp2_with fail
   refine K1.out.mono ?_
   rintro e w1 ⟨rfl, hx1⟩
   have HX1 := hid hx1
   clear hx1
   go_wp2_with fail
   refine (K2.out _ HX1.out).mono ?_
   rintro e w2 ⟨rfl, hx2⟩
   have HX2 := hid (HX1.out.trans hx2)
   clear hx2
   go_wp2
   all_goals
    go_meet
    exact ⟨by rw [HNB.out]; first | rfl | (simp; done) | (simp_all; done), HX2.out⟩
 case rest =>
 obtain ⟨rfl, hx1⟩ := hcut
 have HX1 := hid hx1
 clear hx1 K1 K2
 cases nb
 rotate_left
 ·have hr : R = none := by
   rw [HR.out]
   unfold parV
   rw [if_neg]
   rintro ⟨h1, h2, _⟩
   have h3 := HNB.out
   rw [HVF.out, HVG.out, h1, h2] at h3
   cases h3
  subst hr
  go_wp2
  go_ret2
  exact ⟨.inl ⟨rfl, rfl⟩, HX1.out⟩
 obtain ⟨rfl, rfl⟩ : vf = true ∧ vg = true := by have h := HNB.out; cases vf <;> cases vg <;> simp at h ⊢
 have hff := (validF_iff.1 HVF.out.symm).1
 have hfg := (validF_iff.1 HVG.out.symm).1
 have KP := hid (places_all (f.nodes + 1) f _ _ 0 false false wc (by omega) (HF.out.ext HX1.out) hff (by have := HNF.out; omega))
 have KQ := hid (fun W (hW : Ext w W) => places_all (g.nodes + 1) g _ _ 0 false false W (by omega) (HG.out.ext hW) hfg (by have := HNG.out; omega))
 obtain ⟨xs, hxs⟩ : ∃ xs, xs = placesF f := ⟨_, rfl⟩
 obtain ⟨ys, hys⟩ : ∃ ys, ys = placesF g := ⟨_, rfl⟩
 rw [← hxs] at KP HCF
 rw [← hys] at KQ HCG
 have hxl : xs.length ≤ 100000000 := by rw [hxs]; have := places_len f; have := HNF.out; omega
 have hyl : ys.length ≤ 100000000 := by rw [hys]; have := places_len g; have := HNG.out; omega
 have HRE := hid (show R = if xs.length = ys.length then parL xs ys [] else none from by
  rw [HR.out]
  unfold parV
  rw [← HVF.out, ← HVG.out, ← hxs, ← hys]
  by_cases h : xs.length = ys.length
  ·rw [if_pos ⟨rfl, rfl, h⟩, if_pos h]
  ·rw [if_neg (fun q => h q.2.2), if_neg h])
 clear hff hfg hxs hys
 go_wp2_with fail
 refine KP.out.mono ?_
 rintro e w2 ⟨A2, c2, rfl, hs2, hc2, hx2⟩
 have HS2 := hid hs2
 have HX2 := hid (HX1.out.trans hx2)
 clear hs2 hx2 hc2 KP
 go_wp2_with fail
 refine (KQ.out _ HX2.out).mono ?_
 rintro e w3 ⟨A3, c3, rfl, hs3, hc3, hx3⟩
 have HS3 := hid hs3
 have HS2b := hid (HS2.out.ext hx3)
 have HX3 := hid (HX2.out.trans hx3)
 clear hs3 hx3 hc3 KQ HS2
 by_cases hlen : xs.length = ys.length
 rotate_left
 ·have hr := HRE.out
  rw [if_neg hlen] at hr
  subst hr
  have hlb : ((xs.length : Int) != (ys.length : Int)) = true := by simp; omega
  have hlc : ((xs.length : Int) == (ys.length : Int)) = false := by simp; omega
  clear HRE
  go_wp2
  go_ret2
  exact ⟨.inl ⟨rfl, rfl⟩, HX3.out⟩
 have HRP := hid (show parL xs ys [] = R from by rw [HRE.out, if_pos hlen])
 have HLEN := hid hlen
 have hlb : ((xs.length : Int) != (ys.length : Int)) = false := by simp; omega
 have hlc : ((xs.length : Int) == (ys.length : Int)) = true := by simp; omega
 clear hlen HRE
 have hmm := @run_makeMap Tryz.prog
 have HI0 := hid (show ParI w3 w3.heap.size (w3.heap.size + 1) R xs ys (.slice none 0 0) (.int .i64 0) ((w3.alloc (.map #[] 0)).alloc (.map #[] 0)) from
  ⟨0, [], rfl, Nat.zero_le _, Nat.zero_le _, World.ownsRow_nil _ _ _ _, (MapO.made _ _ w3).ext ((Ext.refl _).alloc _), by have := MapO.made Tryz.prog 9 (w3.alloc (.map #[] 0)); rw [show (w3.alloc (.map #[] 0)).heap.size = w3.heap.size + 1 from by simp] at this; exact this, one_nil, HRP.out, ((Ext.refl w3).alloc _).alloc _, fun p hp => by cases hp⟩)
 clear HRP
 go_wp2_with fail
 go_loopw [10, 39] (ParI w3 w3.heap.size (w3.heap.size + 1) R xs ys) (fun _ i _ => xs.length - (intOf i).toNat)
 case atStart => exact HI0.out
 case round =>
  obtain ⟨j, l, rfl, hj, hlj, ho, hm1, hm2, hone, hpr, hx, hls⟩ := hrel
  obtain ⟨wo, rfl⟩ : ∃ wo : World, wo = wr := ⟨_, rfl⟩
  obtain ⟨A5, c5, rfl, hs5⟩ := own_slN ho
  have HO := hid ho
  have HM1 := hid hm1
  have HM2 := hid hm2
  have HONE := hid hone
  have HPR := hid hpr
  have HX := hid hx
  have HLS := hid hls
  have HS5 := hid hs5
  have hxl2 : l.length ≤ 100000000 := by omega
  clear ho hm1 hm2 hone hpr hx hls hs5
  by_cases hjl : j < xs.length
  rotate_left
  ·as_aux_lemma =>
   have hjx : j = xs.length := by omega
   have hr : R = some l := by
    rw [← HPR.out, List.drop_of_length_le (by omega)]
    rfl
   subst hr
   go_wp2
   go_ret2
   exact ⟨.inr ⟨l, A5, c5, rfl, rfl, HS5.out, HLS.out⟩, HX3.out.trans HX.out⟩
  as_aux_lemma =>
  have hjy : j < ys.length := by rw [← HLEN.out]; exact hjl
  obtain ⟨x, hx⟩ : ∃ x, xs[j]? = some x := ⟨_, List.getElem?_eq_getElem hjl⟩
  obtain ⟨y, hy⟩ : ∃ y, ys[j]? = some y := ⟨_, List.getElem?_eq_getElem hjy⟩
  obtain ⟨bx, ox, rfl, hbx, x0, x2, x3⟩ := pl_at (HS2b.out.ext HX.out) hx
  obtain ⟨by_, oy, rfl, hby, y0, y2, y3⟩ := pl_at (HS3.out.ext HX.out) hy
  have hxc := HCF.out x (List.mem_of_getElem? hx)
  have hyc := HCG.out y (List.mem_of_getElem? hy)
  have HPR2 := hid (show (parStep l x y).bind (parL (xs.drop (j + 1)) (ys.drop (j + 1))) = R from by
   rw [← HPR.out, drop_two hx, drop_two hy]; rfl)
  obtain ⟨k1, s1, n1⟩ := x
  obtain ⟨k2, s2, n2⟩ := y
  simp only at x0 x2 x3 y0 y2 y3 hxc hyc
  obtain ⟨hn1, hs1⟩ := hxc
  obtain ⟨hn2, hs2⟩ := hyc
  have HN1 := hid (show n1.length ≤ maxLen from by unfold maxLen; omega)
  have HN2 := hid (show n2.length ≤ maxLen from by unfold maxLen; omega)
  have HNL := hid (show n1.length ≤ 1048576 ∧ n2.length ≤ 1048576 from ⟨hn1, hn2⟩)
  have hjyI : (j : Int) < (ys.length : Int) := by omega
  have hjxI : (j : Int) < (xs.length : Int) := by omega
  clear hx hy hn1 hs1 hn2 hs2
  obtain ⟨KN, hKN⟩ : ∃ KN, KN = lookP l n1 := ⟨_, rfl⟩
  obtain ⟨BK, hBK⟩ : ∃ BK, BK = lookP (l.map swpN) n2 := ⟨_, rfl⟩
  have HKN := hid hKN
  have HBK := hid hBK
  clear hKN hBK
  obtain ⟨kv, hkv⟩ : ∃ kv, kv = KN.getD [] := ⟨_, rfl⟩
  obtain ⟨ki, hki⟩ : ∃ ki, ki = KN.isSome := ⟨_, rfl⟩
  obtain ⟨bv, hbv⟩ : ∃ bv, bv = BK.getD [] := ⟨_, rfl⟩
  obtain ⟨bi, hbi⟩ : ∃ bi, bi = BK.isSome := ⟨_, rfl⟩
  have HKV := hid hkv
  have HKI := hid hki
  have HBV := hid hbv
  have HBI := hid hbi
  clear hkv hki hbv hbi
  go_upto_region 11 with (fail)
  go_quiet (fail)
  go_wp2_with (first
   | (at_lookup; refine wpList_lookupO rfl _ _ 93 9 9 rfl Tryz.underlying9 Tryz.underlying93 (zeroS _) w3.heap.size j (lookP l) rfl HM1.out n1 rfl HN1.out ?_; rw [← HKN.out, ← HKV.out, ← HKI.out])
   | (at_lookup; refine wpList_lookupO rfl _ _ 93 9 9 rfl Tryz.underlying9 Tryz.underlying93 (zeroS _) (w3.heap.size + 1) j (lookP (l.map swpN)) rfl HM2.out n2 rfl HN2.out ?_; rw [← HBK.out, ← HBV.out, ← HBI.out]))
  obtain ⟨bad, hbad⟩ : ∃ bad, bad = (k1 != k2 || s1 != s2 || (ki && kv != n2) || (bi && bv != n1)) := ⟨_, rfl⟩
  have HBAD := hid hbad
  clear hbad
  go_cut [103] (BWe bad wo)
  case first =>
   by_cases e1 : k1 = k2
   ·have f1 : (k1 == k2) = true := by simp [e1]
    have g1 : (k1 != k2) = false := by simp [e1]
    have G1 := hid g1
    clear e1
    by_cases e2 : s1 = s2
    ·have f2 : (s1 == s2) = true := by simp [e2]
     have g2 : (s1 != s2) = false := by simp [e2]
     have G2 := hid g2
     clear e2
     cases ki
     ·cases bi
      ·go_quiet (fail)
       go_wp2_with fail
       go_meet
       exact ⟨by rw [HBAD.out, G1.out, G2.out]; first | rfl | (simp; done), ((Ext.refl wo).drewN _).drewN _⟩
      ·by_cases e4 : bv = n1
       ·have f4 : (bv == n1) = true := by simp [e4]
        have g4 : (bv != n1) = false := by simp [e4]
        have G4 := hid g4
        clear e4
        go_quiet (fail)
        go_wp2_with fail
        go_meet
        exact ⟨by rw [HBAD.out, G1.out, G2.out, G4.out]; first | rfl | (simp; done), ((Ext.refl wo).drewN _).drewN _⟩
       ·have f4 : (bv == n1) = false := by simp [e4]
        have g4 : (bv != n1) = true := by simp [e4]
        have G4 := hid g4
        clear e4
        go_quiet (fail)
        go_wp2_with fail
        go_meet
        exact ⟨by rw [HBAD.out, G1.out, G2.out, G4.out]; first | rfl | (simp; done), ((Ext.refl wo).drewN _).drewN _⟩
     ·by_cases e3 : kv = n2
      ·have f3 : (kv == n2) = true := by simp [e3]
       have g3 : (kv != n2) = false := by simp [e3]
       have G3 := hid g3
       clear e3
       cases bi
       ·go_quiet (fail)
        go_wp2_with fail
        go_meet
        exact ⟨by rw [HBAD.out, G1.out, G2.out, G3.out]; first | rfl | (simp; done), ((Ext.refl wo).drewN _).drewN _⟩
       ·by_cases e4 : bv = n1
        ·have f4 : (bv == n1) = true := by simp [e4]
         have g4 : (bv != n1) = false := by simp [e4]
         have G4 := hid g4
         clear e4
         go_quiet (fail)
         go_wp2_with fail
         go_meet
         exact ⟨by rw [HBAD.out, G1.out, G2.out, G3.out, G4.out]; first | rfl | (simp; done), ((Ext.refl wo).drewN _).drewN _⟩
        ·have f4 : (bv == n1) = false := by simp [e4]
         have g4 : (bv != n1) = true := by simp [e4]
         have G4 := hid g4
         clear e4
         go_quiet (fail)
         go_wp2_with fail
         go_meet
         exact ⟨by rw [HBAD.out, G1.out, G2.out, G3.out, G4.out]; first | rfl | (simp; done), ((Ext.refl wo).drewN _).drewN _⟩
      ·have f3 : (kv == n2) = false := by simp [e3]
       have g3 : (kv != n2) = true := by simp [e3]
       have G3 := hid g3
       clear e3
       go_quiet (fail)
       go_wp2_with fail
       go_meet
       exact ⟨by rw [HBAD.out, G1.out, G2.out, G3.out]; first | rfl | (simp; done), ((Ext.refl wo).drewN _).drewN _⟩
    ·have f2 : (s1 == s2) = false := by simp [e2]
     have g2 : (s1 != s2) = true := by simp [e2]
     have G2 := hid g2
     clear e2
     go_quiet (fail)
     go_wp2_with fail
     go_meet
     exact ⟨by rw [HBAD.out, G1.out, G2.out]; first | rfl | (simp; done), ((Ext.refl wo).drewN _).drewN _⟩
   ·have f1 : (k1 == k2) = false := by simp [e1]
    have g1 : (k1 != k2) = true := by simp [e1]
    have G1 := hid g1
    clear e1
    go_quiet (fail)
    go_wp2_with fail
    go_meet
    exact ⟨by rw [HBAD.out, G1.out]; first | rfl | (simp; done), ((Ext.refl wo).drewN _).drewN _⟩
  case rest =>
  obtain ⟨w5, hw5⟩ : ∃ w5 : World, w5 = wc := ⟨_, rfl⟩
  rw [← hw5] at hcut ⊢
  clear hw5
  obtain ⟨rfl, hx5⟩ := hcut
  have HX5 := hid hx5
  clear hx5
  have HBM := hid (show bad = (k1 != k2 || s1 != s2 || badM l n1 n2) from by
   rw [HBAD.out]
   unfold badM
   rw [← HKN.out, ← HBK.out, HKI.out, HKV.out, HBI.out, HBV.out]
   cases KN <;> cases BK <;> simp [Bool.or_assoc])
  cases bad
  rotate_left
  ·have hr : R = none := by
    rw [← HPR2.out, par_bad HONE.out HBM.out.symm]
    rfl
   subst hr
   go_wp2
   go_ret2
   exact ⟨.inl ⟨rfl, rfl⟩, HX3.out.trans (HX.out.trans HX5.out)⟩
  obtain ⟨l', hl'⟩ : ∃ l', l' = if (lookP l n1).isSome = true then l else l ++ [(n1, n2)] := ⟨_, rfl⟩
  have hbm : badM l n1 n2 = false := by
   have h := HBM.out
   cases hb : badM l n1 n2 with
   | false => rfl
   | true => rw [hb] at h; simp at h
  obtain ⟨q1, q2, q3⟩ := look_put HONE.out hbm hl'
  have HPR3 := hid (show parL (xs.drop (j + 1)) (ys.drop (j + 1)) l' = R from by
   rw [← HPR2.out, par_good HONE.out HBM.out.symm, hl']; rfl)
  have HLS' := hid (show ∀ p ∈ l', p.1.length ≤ 1048576 ∧ p.2.length ≤ 1048576 from by
   intro p hp
   rw [hl'] at hp
   split at hp
   ·exact HLS.out p hp
   ·rcases List.mem_append.1 hp with hp | hp
    ·exact HLS.out p hp
    ·rw [List.mem_singleton.1 hp]; exact HNL.out)
  have HQ1 := hid q1
  have HQ2 := hid q2
  have HQ3 := hid q3
  have HLE := hid (show l' = if ki = true then l else l ++ [(n1, n2)] from by rw [hl', HKI.out, HKN.out])
  have HO5 := hid (own_ext HO.out HX5.out)
  have HM15 := hid (HM1.out.ext HX5.out)
  have HM25 := hid (HM2.out.ext HX5.out)
  have HXX := hid (HX.out.trans HX5.out)
  have HSZ := hid (show w3.heap.size ≤ w5.heap.size from Ext.size (HX.out.trans HX5.out))
  clear hl' hbm q1 q2 q3 x0 x2 x3 y0 y2 y3
  cases ki
  ·have HLE2 := hid (show l' = l ++ [(n1, n2)] from HLE.out)
   go_wp2_with (first
    | (at_builtin; refine wpList_appN _ rfl _ _ 49 rfl w3.heap.size 57 i0 _ 2 32 Tryz.underlying49 hi hz0 hz1 hz2 rfl (by decide) _ _ _ rfl (own_ext HO5.out ((Ext.refl w5).alloc (.cells #[.string ⟨n1.toArray⟩, .string ⟨n2.toArray⟩] 57))) ⟨w5.heap.size, 0, none⟩ 1 1 [.string ⟨n1.toArray⟩, .string ⟨n2.toArray⟩] rfl rfl (new_cells w5 #[.string ⟨n1.toArray⟩, .string ⟨n2.toArray⟩] 57) (by simp [Value.oneCell']) (by unfold maxLen; omega) (by omega) (by have := HSZ.out; simp; omega) ?_; intro v6 w6 hown6 hgrow6 _; have HO6 := hid hown6; have HX6 := hid ((HXX.out.alloc _).grown hgrow6 (own_lt HO5.out)); have HM16 := hid ((HM15.out.ext ((Ext.refl w5).alloc _)).grown hgrow6 (own_neO HO5.out HM15.out)); have HM26 := hid ((HM25.out.ext ((Ext.refl w5).alloc _)).grown hgrow6 (own_neO HO5.out HM25.out)); clear hown6 hgrow6)
    | (at_mapUpdate; refine wpList_mapUpdateO rfl _ _ _ 93 9 9 rfl Tryz.underlying9 Tryz.underlying93 w3.heap.size j _ rfl HM16.out (by unfold maxLen; omega) n1 rfl n2 rfl HN1.out ?_; intro w7 hm7 hg7; have HM17 := hid hm7; have HX7 := hid (HX6.out.grown hg7 (fun k hk => by injection hk with hk; omega)); have HO7 := hid (own_of HO6.out (fun b hb => hg7.block b (own_ltH HO6.out hb) (fun e => own_neO HO6.out HM16.out (e.symm.trans hb.symm)))); have HM27 := hid (HM26.out.grown hg7 (fun e => by injection e with e; omega)); clear hm7 hg7)
    | (at_mapUpdate; refine wpList_mapUpdateO rfl _ _ _ 93 9 9 rfl Tryz.underlying9 Tryz.underlying93 (w3.heap.size + 1) j _ rfl HM27.out (by unfold maxLen; omega) n2 rfl n1 rfl HN2.out ?_; intro w8 hm8 hg8; have HM28 := hid hm8; have HX8 := hid (HX7.out.grown hg8 (fun k hk => by injection hk with hk; omega)); have HO8 := hid (own_of HO7.out (fun b hb => hg8.block b (own_ltH HO7.out hb) (fun e => own_neO HO7.out HM27.out (e.symm.trans hb.symm)))); have HM18 := hid (HM17.out.grown hg8 (fun e => by injection e with e; omega)); clear hm8 hg8))
   refine ⟨⟨j + 1, l', by go_num, hjl, by rw [HLE2.out, List.length_append]; simp; omega, ?_, HM18.out.same (fun z => (HQ2.out z).symm), HM28.out.same (fun z => (HQ3.out z).symm), HQ1.out, HPR3.out, HX8.out, HLS'.out⟩, by simp [intOf]; omega⟩
   rw [HLE2.out, List.length_append, List.flatMap_append]
   exact HO8.out
  ·have HLE2 := hid (show l' = l from HLE.out)
   go_wp2_with (first
    | (at_mapUpdate; refine wpList_mapUpdateO rfl _ _ _ 93 9 9 rfl Tryz.underlying9 Tryz.underlying93 w3.heap.size j _ rfl HM15.out (by unfold maxLen; omega) n1 rfl n2 rfl HN1.out ?_; intro w7 hm7 hg7; have HM17 := hid hm7; have HX7 := hid (HXX.out.grown hg7 (fun k hk => by injection hk with hk; omega)); have HO7 := hid (own_of HO5.out (fun b hb => hg7.block b (own_ltH HO5.out hb) (fun e => own_neO HO5.out HM15.out (e.symm.trans hb.symm)))); have HM27 := hid (HM25.out.grown hg7 (fun e => by injection e with e; omega)); clear hm7 hg7)
    | (at_mapUpdate; refine wpList_mapUpdateO rfl _ _ _ 93 9 9 rfl Tryz.underlying9 Tryz.underlying93 (w3.heap.size + 1) j _ rfl HM27.out (by unfold maxLen; omega) n2 rfl n1 rfl HN2.out ?_; intro w8 hm8 hg8; have HM28 := hid hm8; have HX8 := hid (HX7.out.grown hg8 (fun k hk => by injection hk with hk; omega)); have HO8 := hid (own_of HO7.out (fun b hb => hg8.block b (own_ltH HO7.out hb) (fun e => own_neO HO7.out HM27.out (e.symm.trans hb.symm)))); have HM18 := hid (HM17.out.grown hg8 (fun e => by injection e with e; omega)); clear hm8 hg8))
   refine ⟨⟨j + 1, l', by go_num, hjl, by rw [HLE2.out]; omega, ?_, HM18.out.same (fun z => (HQ2.out z).symm), HM28.out.same (fun z => (HQ3.out z).symm), HQ1.out, HPR3.out, HX8.out, HLS'.out⟩, by simp [intOf]; omega⟩
   rw [HLE2.out]
   exact HO8.out
end Go.Proofs.YtiijdojihleggaaGreatDoor
