import Derived.Test.YtiijdojihleggaaGreatDoorQNZH
import Derived.Test.YtiijdojihleggaaGreatDoorQNP2
import Derived.Test.YtiijdojihleggaaGreatDoorQNZB
import Derived.Test.YtiijdojihleggaaGreatDoorQNPI
import Derived.Test.YtiijdojihleggaaGreatDoorQNZI
import Derived.Test.YtiijdojihleggaaGreatDoorQJh
set_option maxRecDepth 100000
set_option linter.unusedSimpArgs false
set_option linter.unusedVariables false
open Go.Lib (hid)
namespace Go.Proofs.YtiijdojihleggaaGreatDoor
open Go.RowKit
def RetPr (w : World) (L : List PlP) (e : Ending) (w' : World) : Prop := ∃ A c, e = .returned (.slice A L.length c) ∧ SlN w' A L.length 3 (L.flatMap prC) ∧ L.length ≤ c ∧ Ext w w'
def PrH (N : Nat) : Prop := ∀ (f : F) (v : Value) (ok : Nat → Prop) (w : World), f.nodes < N → FwS w ok f v → Can f → f.nodes ≤ 1000000000 → Calls Tryz.prog 26 #[v] w (RetPr w (placesF f))
def PrOz (w : World) (out : Value) (l : List PlP) (wr : World) : Prop := wr.ownsRow w.heap.size 71 3 out l.length (l.flatMap prC)
def PrI (w : World) (R : List PlP) (f : F) (out i : Value) (wr : World) : Prop := ∃ (j : Nat) (l : List PlP), j ≤ f.len ∧ i = .int .i64 j ∧ PrOz w out l wr ∧ l ++ placesF (fdrop f j) = R ∧ Ext w wr
def PrJ (w : World) (bx : Nat) (cs : Array Value) (R : List PlP) (f : F) (out i : Value) (wr : World) : Prop := ∃ (j : Nat) (l : List PlP), j ≤ f.len ∧ i = .int .i64 j ∧ PrOz w out l wr ∧ l ++ placesF (fdrop f j) = R ∧ Ext w wr ∧ AtC 96 wr bx cs
def PrR (w : World) (bx : Nat) (cs : Array Value) (l : List PlP) (out : Value) (wr : World) : Prop := PrOz w out l wr ∧ Ext w wr ∧ AtC 96 wr bx cs
def BWzr (b : Bool) (W : World) (v : Value) (wx : World) : Prop := v = .bool b ∧ W = wx
theorem pr_app (l m : List PlP) : (l ++ m).flatMap prC = l.flatMap prC ++ m.flatMap prC := List.flatMap_append
set_option maxHeartbeats 8000000 in
theorem rplaces_step (N : Nat) (hN : PrH N) : PrH (N + 1) := by
 intro f v ok w hnd hF hcan hfn
 obtain ⟨i0, hi, hz0, hz1, hz2⟩ := info_parts (show (Tryz.prog.info? 71).map (fun i => (i.zero, i.size, i.bytes)) = some (some (.agg #[.int .i64 0, .string ⟨#[]⟩, .string ⟨#[]⟩]), 3, 40) from by kernel_rfl)
 obtain ⟨Af, cf, rfl⟩ := hF.val
 have hfl : f.len ≤ 1000000000 := by have := fmNodes f; omega
 obtain ⟨R, hR⟩ : ∃ R, R = placesF f := ⟨_, rfl⟩
 have HRL := hid (show R.length ≤ 1000000000 from by rw [hR]; have := places_len f; omega)
 rw [← hR]
 have HF := hid hF
 have HCN := hid hcan
 have HND := hid hnd
 have H0 := hid (show PrI w R f (.slice none 0 0) (.int .i64 0) w from ⟨0, [], Nat.zero_le _, rfl, World.ownsRow_nil _ _ _ _, by rw [fdrop_zero]; exact hR.symm, Ext.refl _⟩)
 clear hF hcan hnd hR
 go_enter Tryz.func26, Tryz.ntmps26
 go_wp2_with fail
 go_loopw [3, 4] (PrI w R f) (fun _ i _ => f.len - (intOf i).toNat)
 case atStart => exact H0.out
 case round =>
  obtain ⟨j, l1, hj, rfl, hown, hr1, hx1⟩ := hrel
  obtain ⟨wo, rfl⟩ : ∃ wo : World, wo = wr := ⟨_, rfl⟩
  by_cases hjl : j < f.len
  rotate_left
  ·have hjI : ¬ (j : Int) < (f.len : Int) := by omega
   rw [fdrop_end f j (by omega)] at hr1
   have hr2 : l1 = R := by simpa [placesF] using hr1
   subst hr2
   obtain ⟨A5, c5, rfl, hn5, hs5, _⟩ := own_form hown
   have HS5 := hid hs5
   have HX1 := hid hx1
   clear hr1 hown hs5 hx1
   go_wp2
   go_ret
   exact ⟨A5, c5, rfl, HS5.out, hn5, HX1.out⟩
  have hjI : (j : Int) < (f.len : Int) := by omega
  obtain ⟨bf, o, cc', k, t, n, s, ca, pa, Ac, cac, Ap, cpa, hv, hbw, _, hdr, y0, y1, y2, y3, y4, y5, hCA, hPA⟩ := HF.out.at_ hjl
  have c0 := (Ext.cell (p := ⟨bf, o + j * 6, none⟩) hx1 hbw).trans y0
  have c1 := (Ext.cell (p := ⟨bf, o + j * 6 + 1, none⟩) hx1 hbw).trans y1
  have c2 := (Ext.cell (p := ⟨bf, o + j * 6 + 2, none⟩) hx1 hbw).trans y2
  have c3 := (Ext.cell (p := ⟨bf, o + j * 6 + 3, none⟩) hx1 hbw).trans y3
  have c4 := (Ext.cell (p := ⟨bf, o + j * 6 + 4, none⟩) hx1 hbw).trans y4
  have c5 := (Ext.cell (p := ⟨bf, o + j * 6 + 5, none⟩) hx1 hbw).trans y5
  clear y0 y1 y2 y3 y4 y5
  injection hv with hA _ hcc
  subst hA hcc
  have hcc2 := (can_drop f j).1 HCN.out
  rw [hdr] at hcc2
  obtain ⟨_, _, hcca, hcpa, _⟩ := hcc2
  have hnn := fdrop_nodes f j
  rw [hdr, F.nodes] at hnn
  rw [hdr, placesF] at hr1
  obtain ⟨L2, hL2⟩ : ∃ L2, L2 = l1 ++ (if 2 ≤ k ∧ k ≤ 9 then [(k, s, n)] else []) := ⟨_, rfl⟩
  have hr2 : ((L2 ++ placesF pa) ++ placesF ca) ++ placesF (fdrop f (j + 1)) = R := by rw [← hr1, hL2]; simp only [List.append_assoc]
  have hlen : L2.length + (placesF pa).length + (placesF ca).length ≤ 1000000000 := by
   have h := congrArg List.length hr2
   have := HRL.out
   simp only [List.length_append] at h
   omega
  have hl1 : l1.length ≤ L2.length := by rw [hL2, List.length_append]; omega
  obtain ⟨wb, hwb⟩ : ∃ wb, wb = wo.alloc (.cells #[.int .i64 k, .string ⟨t.toArray⟩, .string ⟨n.toArray⟩, .string ⟨s.toArray⟩, .slice Ac ca.len cac, .slice Ap pa.len cpa] 96) := ⟨_, rfl⟩
  have hxb : Ext wo wb := by rw [hwb]; exact (Ext.refl wo).alloc _
  have HB := hid (show AtC 96 wb wo.heap.size #[.int .i64 k, .string ⟨t.toArray⟩, .string ⟨n.toArray⟩, .string ⟨s.toArray⟩, .slice Ac ca.len cac, .slice Ap pa.len cpa] from by rw [hwb]; exact AtC.new wo _)
  have HCA := hid hCA
  have HPA := hid hPA
  have HO1 := hid (show PrOz w _ l1 wb from own_ext hown hxb)
  have HX1 := hid (hx1.trans hxb)
  have HCCA := hid hcca
  have HCPA := hid hcpa
  have HR2 := hid hr2
  have HNN := hid hnn
  have HLN := hid hlen
  have HL1 := hid hl1
  have HSW := hid (show w.heap.size ≤ wb.heap.size from (hx1.trans hxb).size)
  obtain ⟨cs, hcs⟩ : ∃ cs : Array Value, cs = #[.int .i64 k, .string ⟨t.toArray⟩, .string ⟨n.toArray⟩, .string ⟨s.toArray⟩, .slice Ac ca.len cac, .slice Ap pa.len cpa] := ⟨_, rfl⟩
  have HBX := hid (show AtC 96 wb wo.heap.size cs from by rw [hcs]; exact HB.out)
  have HCS := hid hcs
  clear hcs
  have hcl : ca.len ≤ 1000000000 := by have := fmNodes ca; omega
  obtain ⟨kb, hkb⟩ : ∃ kb : Bool, kb = decide (2 ≤ k ∧ k ≤ 9) := ⟨_, rfl⟩
  have HKB := hid hkb
  have HTY := hid (show (kb = true → L2 = l1 ++ [(k, s, n)]) ∧ (kb = false → L2 = l1) from by
   rw [hkb]
   by_cases h : 2 ≤ k ∧ k ≤ 9
   ·rw [if_pos h] at hL2
    exact ⟨fun _ => hL2, fun hh => absurd h (of_decide_eq_false hh)⟩
   ·rw [if_neg h] at hL2
    exact ⟨fun hh => absurd (of_decide_eq_true hh) h, fun _ => by rw [hL2, List.append_nil]⟩)
  obtain ⟨A1, cp1, hv1, hn1, hs1, _⟩ := own_form HO1.out
  have b0 := HB.out.cell 0 _ rfl
  have b2 := HB.out.cell 2 _ rfl
  have b3 := HB.out.cell 3 _ rfl
  clear hCA hPA hown hx1 hcca hcpa hL2 hr1 hr2 hnn hdr hxb hbw hlen hl1 hs1 hkb
  subst hv1
  go_upto_region 6 with (fail)
  rw [← hwb]
  clear hwb
  go_cut [24] (BWzr kb wb)
  case first =>
   by_cases h2 : 2 ≤ k
   ·by_cases h9 : k ≤ 9
    ·go_wp2_with fail
     go_meet
     exact ⟨by rw [HKB.out]; simp [h2, h9], rfl⟩
    ·go_wp2_with fail
     go_meet
     exact ⟨by rw [HKB.out]; simp [h2, h9], rfl⟩
   ·go_wp2_with fail
    go_meet
    exact ⟨by rw [HKB.out]; simp; omega, rfl⟩
  case rest =>
  obtain ⟨rfl, rfl⟩ := hcut
  go_upto_if 24 with (fail)
  go_cut [3] (PrR w wo.heap.size cs L2)
  case first =>
   cases kb
   ·have HTE := hid (HTY.out.2 rfl)
    clear HTY
    go_wp2_with fail
    go_meet
    exact ⟨by rw [HTE.out]; exact HO1.out, HX1.out, HBX.out⟩
   ·have HTE := hid (HTY.out.1 rfl)
    have HNB := hid (show l1.length + 1 ≤ 1000000000 from by have := HLN.out; rw [HTE.out, List.length_append] at this; simp at this; omega)
    clear HTY
    go_wp2_with (at_builtin; refine wpList_appN _ rfl _ _ 68 rfl w.heap.size 71 i0 _ 3 40 Tryz.underlying68 hi hz0 hz1 hz2 rfl (by decide) _ _ _ rfl (own_ext HO1.out ((Ext.refl wb).alloc (.cells #[.int .i64 k, .string ⟨s.toArray⟩, .string ⟨n.toArray⟩] 71))) ⟨wb.heap.size, 0, none⟩ 1 1 [.int .i64 k, .string ⟨s.toArray⟩, .string ⟨n.toArray⟩] rfl rfl (new_cells wb #[.int .i64 k, .string ⟨s.toArray⟩, .string ⟨n.toArray⟩] 71) (by simp [Value.oneCell']) (by have := HNB.out; unfold maxLen; omega) (by have := HNB.out; omega) (by have := HSW.out; simp; omega) ?_; intro v6 w6 hown6 hgrow6 _; have HO6 := hid hown6; have HG6 := hid hgrow6; clear hown6 hgrow6)
    go_meet
    have HOA := own_ext HO1.out ((Ext.refl wb).alloc (.cells #[.int .i64 k, .string ⟨s.toArray⟩, .string ⟨n.toArray⟩] 71))
    refine ⟨?_, ext_grown (a := w) (B := w.heap.size) (HX1.out.alloc _) HOA (Nat.le_refl _) HG6.out, (HBX.out.alloc _).grownA HOA HG6.out (by decide)⟩
    unfold PrOz
    rw [HTE.out, pr_app, List.length_append]
    exact HO6.out
  case rest =>
  obtain ⟨w3, hw3⟩ : ∃ w3 : World, w3 = wc := ⟨_, rfl⟩
  rw [← hw3] at hcut
  obtain ⟨ho3, hx3, hb3⟩ := hcut
  obtain ⟨A2, cp2, hv2, hn2, _, _⟩ := own_form ho3
  subst hv2
  have HO3 := hid ho3
  have HX3 := hid hx3
  have HB3 := hid hb3
  have KW := hid (hN pa (.slice Ap pa.len cpa) ok w3 (by have := HNN.out; have := HND.out; omega) (HPA.out.ext hx3) HCPA.out (by have := HNN.out; omega))
  have b5 : w3.cell? ⟨wo.heap.size, 5, none⟩ = some (.slice Ap pa.len cpa) := hb3.cell 5 _ (by rw [HCS.out]; rfl)
  have HUP := hid (prC_one (placesF pa))
  obtain ⟨U, hU⟩ : ∃ U, U = placesF pa := ⟨_, rfl⟩
  rw [← hU] at KW HUP
  have HU := hid hU
  have hlu : L2.length + U.length ≤ 1000000000 := by rw [hU]; have := HLN.out; omega
  clear ho3 hx3 hb3 hU b0 b2 b3
  go_upto_region 8 with (fail)
  rw [← hw3]
  clear hw3
  go_wp2_with fail
  refine KW.out.mono ?_
  rintro e w4 ⟨A4, c4', rfl, hs4, hn4, hx4⟩
  have HS4 := hid hs4
  have HX4 := hid (HX3.out.trans hx4)
  have HO4 := hid (own_ext HO3.out hx4)
  have HB4 := hid (HB3.out.ext hx4)
  clear hs4 hx4 KW b5
  have tok3 : True := trivial
  go_wp2_with (first | (have _t := tok3; at_builtin; refine wpList_appSl _ rfl _ _ 68 rfl w.heap.size 71 i0 _ 3 40 Tryz.underlying68 hi hz0 hz1 hz2 rfl (by decide) _ L2.length _ rfl HO4.out A4 U.length c4' _ rfl HS4.out HUP.out (by unfold maxLen; omega) (by omega) (by have := HX4.out.size; omega) ?_; intro v5 w5 hown5 hgrow5; have HO5 := hid hown5; have HG5 := hid hgrow5; clear hown5 hgrow5 tok3))
  have HX5 := hid (show Ext w w5 from ext_grown (a := w) (B := w.heap.size) HX4.out HO4.out (Nat.le_refl _) HG5.out)
  have HB5 := hid (show AtC 96 w5 wo.heap.size cs from HB4.out.grownA HO4.out HG5.out (by decide))
  have HU5 := hid (show PrOz w v5 (L2 ++ U) w5 from by
   unfold PrOz
   rw [pr_app, List.length_append]
   exact HO5.out)
  obtain ⟨RC, hRC⟩ : ∃ RC, RC = (L2 ++ U) ++ placesF ca := ⟨_, rfl⟩
  have HJ0 := hid (show PrJ w wo.heap.size cs RC ca v5 (.int .i64 0) w5 from ⟨0, _, Nat.zero_le _, rfl, HU5.out, by rw [fdrop_zero]; exact hRC.symm, HX5.out, HB5.out⟩)
  have HRC := hid (show RC ++ placesF (fdrop f (j + 1)) = R from by rw [hRC, HU.out]; exact HR2.out)
  have HRCL := hid (show RC.length ≤ 1000000000 from by rw [hRC, List.length_append, List.length_append, HU.out]; have := HLN.out; omega)
  clear hRC HO5 HG5 HU5 HO4 HS4 HUP
  go_wp2_with fail
  go_loopw [3, 6] (PrJ w wo.heap.size cs RC ca) (fun _ i _ => ca.len - (intOf i).toNat)
  case atStart => exact HJ0.out
  case round =>
   obtain ⟨j2, l2, hj2, rfl, ho6, hr6, hx6, hb6⟩ := hrel
   obtain ⟨wq, rfl⟩ : ∃ wq : World, wq = wr := ⟨_, rfl⟩
   obtain ⟨A6, cp6, hv6, hn6, _, _⟩ := own_form ho6
   subst hv6
   have b4 : wq.cell? ⟨wo.heap.size, 4, none⟩ = some (.slice Ac ca.len cac) := hb6.cell 4 _ (by rw [HCS.out]; rfl)
   have HO6 := hid ho6
   have HX6 := hid hx6
   have HB6 := hid hb6
   by_cases hjl2 : j2 < ca.len
   rotate_left
   ·have hjI2 : ¬ (j2 : Int) < (ca.len : Int) := by omega
    rw [fdrop_end ca j2 (by omega)] at hr6
    have hr7 : l2 = RC := by simpa [placesF] using hr6
    have HR7 := hid (show l2 ++ placesF (fdrop f (j + 1)) = R from by rw [hr7]; exact HRC.out)
    clear ho6 hx6 hb6 hr6 hr7
    go_wp2
    exact ⟨⟨j + 1, l2, hjl, by go_num, HO6.out, HR7.out, HX6.out⟩, by simp [intOf]; omega⟩
   have hjI2 : (j2 : Int) < (ca.len : Int) := by omega
   obtain ⟨b', o', cc2, k', t', n', s', ca', pa', Ap', cp', hv', hbw', _, hdr', z0, z1, hPA'⟩ := HCA.out.at_ hjl2
   injection hv' with hA' _ hcc'
   subst hA' hcc'
   have d1 := (Ext.cell (p := ⟨b', o' + j2 * 2 + 1, none⟩) hx6 hbw').trans z1
   have hcb := (can_drop ca j2).2 HCCA.out
   rw [hdr'] at hcb
   obtain ⟨e0, e1, e2, e3, _, hf3, _⟩ := hcb
   subst e0 e1 e2 e3
   have hnn2 := fdrop_nodes ca j2
   rw [hdr', F.nodes] at hnn2
   rw [hdr', placesF, if_neg (by decide), List.nil_append, ← List.append_assoc] at hr6
   have hr7 : l2 ++ placesF pa' ++ placesF (fdrop ca (j2 + 1)) = RC := by simpa [placesF] using hr6
   have hl7 : l2.length + (placesF pa').length ≤ 1000000000 := by
    have h := congrArg List.length hr7
    have := HRCL.out
    simp only [List.length_append] at h
    omega
   have KW := hid (hN pa' (.slice Ap' pa'.len cp') ok wq (by have := HNN.out; have := HND.out; omega) (hPA'.ext hx6) hf3 (by have := HNN.out; omega))
   have HUP := hid (prC_one (placesF pa'))
   generalize placesF pa' = U' at KW HUP hr7 hl7
   have HR7 := hid hr7
   clear ho6 hx6 hb6 hr6 hr7 z0 z1 hf3 hPA' hdr' hnn2 hbw'
   go_wp2_with fail
   refine KW.out.mono ?_
   rintro e w7 ⟨A7, c7, rfl, hs7, hn7, hx7⟩
   have HS7 := hid hs7
   have HX7 := hid (HX6.out.trans hx7)
   have HO7 := hid (own_ext HO6.out hx7)
   have HB7 := hid (HB6.out.ext hx7)
   clear hs7 hx7 KW b4 d1
   have tok4 : True := trivial
   go_wp2_with (first | (have _t := tok4; at_builtin; refine wpList_appSl _ rfl _ _ 68 rfl w.heap.size 71 i0 _ 3 40 Tryz.underlying68 hi hz0 hz1 hz2 rfl (by decide) _ l2.length _ rfl HO7.out A7 U'.length c7 _ rfl HS7.out HUP.out (by unfold maxLen; omega) (by omega) (by have := HX7.out.size; omega) ?_; intro v8 w8 hown8 hgrow8; have HO8 := hid hown8; have HG8 := hid hgrow8; clear hown8 hgrow8 tok4))
   refine ⟨⟨j2 + 1, l2 ++ U', hjl2, by go_num, ?_, HR7.out, ext_grown (a := w) (B := w.heap.size) HX7.out HO7.out (Nat.le_refl _) HG8.out, HB7.out.grownA HO7.out HG8.out (by decide)⟩, by simp [intOf]; omega⟩
   unfold PrOz
   rw [pr_app, List.length_append]
   exact HO8.out
theorem rplaces_all : ∀ N, PrH N
 | 0 => fun f v ok w h => absurd h (Nat.not_lt_zero _)
 | N + 1 => rplaces_step N (rplaces_all N)
end Go.Proofs.YtiijdojihleggaaGreatDoor
namespace Go.Proofs.YtiijdojihleggaaGreatDoor
open Go.RowKit
def RS18 (bx by_ o1 o2 : Nat) (s1 s2 : ByteArray) (w' : World) : Prop := w'.cell? ⟨bx, o1, none⟩ = some (.string s1) ∧ w'.cell? ⟨by_, o2, none⟩ = some (.string s2)
noncomputable def regP18 : Code := ((Tryz.f21).body.bind (regOf15 18)).getD .skip
set_option maxHeartbeats 4000000 in
theorem rp18 {u0 u1 u2 u3 u4 u5 u10 u11 u12 u13 u14 u15 u16 u17 u18 u19 u20 u21 u22 u23 u24 u25 u26 u27 u28 u29 u30 u31 u32 u33 u34 u35 u36 u37 u38 u39 u40 u41 u42 u43 u44 u45 u46 u47 u48 u49 u50 u51 u52 u53 u54 u55 u56 u57 u58 u59 u60 u61 u62 u63 u64 u65 u66 u67 u68 u69 u70 u71 u72 u73 u74 u75 u76 u77 u78 u79 u80 u81 u82 u83 u84 u85 u86 u87 u88 u89 u90 u91 u92 u93 u94 u95 u96 u97 u98 u99 u100 u101 u102 u103 u104 u105 u106 u107 u108 u109 u110 u111 u112 u113 u114 u115 u116 u117 u118 u119 u120 : Value} {bx by_ ox oy N M cx cy j n c B : Nat} {A : Option Addr} {s1 s2 : ByteArray} {xs : List Value} {w : World} {Q : Exit → Act → World → Prop} {C : Code} (hC : C = regP18)
 (h1 : w.cell? ⟨bx, ox + j * 3 + 2, none⟩ = some (.string s1)) (h2 : w.cell? ⟨by_, oy + j * 3 + 2, none⟩ = some (.string s2)) (hb1 : bx < B) (hb2 : by_ < B) (hj1 : (j : Int) < (N : Int)) (hj2 : (j : Int) < (M : Int))
 (ho : w.ownsRow B 56 2 (.slice A n c) n xs) (hn : n ≤ 1000000000) (hB : B ≤ w.heap.size)
 (hQ : ∀ v' w', w'.ownsRow B 56 2 v' (n + 1) (xs ++ [.string s1, .string s2]) → Ext w (w.alloc (.cells #[.string s1, .string s2] 56)).drew → (w.alloc (.cells #[.string s1, .string s2] 56)).drew.grownBy w' (Value.slice A n c).ownBlock → Q .normal ⟨#[u0, u1, u2, u3, u4, u5, .slice (some ⟨bx, ox, none⟩) N cx, .slice (some ⟨by_, oy, none⟩) M cy, v', .int .i64 j, u10, u11, u12, u13, u14, u15, u16, u17, u18, u19, u20, u21, u22, u23, u24, u25, u26, u27, u28, u29, u30, u31, u32, u33, u34, u35, u36, u37, u38, u39, u40, u41, u42, u43, u44, u45, u46, u47, u48, u49, u50, u51, u52, u53, u54, u55, u56, u57, u58, u59, u60, u61, u62, u63, u64, u65, u66, u67, u68, u69, u70, u71, u72, u73, u74, u75, u76, u77, u78, u79, u80, u81, u82, u83, u84, u85, u86, u87, u88, u89, u90, u91, u92, u93, u94, u95, u96, u97, u98, u99, u100, u101, u102, u103, u104, u105, .slice A n c, .slice (some ⟨bx, ox, none⟩) N cx, .int .i64 j, .pointer (some ⟨bx, ox + j * 3, none⟩), .pointer (some ⟨bx, ox + j * 3 + 2, none⟩), .string s1, .slice (some ⟨by_, oy, none⟩) M cy, .int .i64 j, .pointer (some ⟨by_, oy + j * 3, none⟩), .pointer (some ⟨by_, oy + j * 3 + 2, none⟩), .string s2, .agg #[.string s1, .string s2], .slice (some ⟨w.heap.size, 0, none⟩) 1 1, v', u120], []⟩ w') :
 Code.wp Tryz.prog C Q ⟨#[u0, u1, u2, u3, u4, u5, .slice (some ⟨bx, ox, none⟩) N cx, .slice (some ⟨by_, oy, none⟩) M cy, .slice A n c, .int .i64 j, u10, u11, u12, u13, u14, u15, u16, u17, u18, u19, u20, u21, u22, u23, u24, u25, u26, u27, u28, u29, u30, u31, u32, u33, u34, u35, u36, u37, u38, u39, u40, u41, u42, u43, u44, u45, u46, u47, u48, u49, u50, u51, u52, u53, u54, u55, u56, u57, u58, u59, u60, u61, u62, u63, u64, u65, u66, u67, u68, u69, u70, u71, u72, u73, u74, u75, u76, u77, u78, u79, u80, u81, u82, u83, u84, u85, u86, u87, u88, u89, u90, u91, u92, u93, u94, u95, u96, u97, u98, u99, u100, u101, u102, u103, u104, u105, u106, u107, u108, u109, u110, u111, u112, u113, u114, u115, u116, u117, u118, u119, u120], []⟩ w := by
 subst hC
 conv => arg 2; whnf
 obtain ⟨i0, hi, hz0, hz1, hz2⟩ := info_parts (show (Tryz.prog.info? 56).map (fun i => (i.zero, i.size, i.bytes)) = some (some (.agg #[.string ⟨#[]⟩, .string ⟨#[]⟩]), 2, 32) from by kernel_rfl)
 have HQ := hid hQ
 have HSX := hid (show ∀ W, Ext w W → RS18 bx by_ (ox + j * 3 + 2) (oy + j * 3 + 2) s1 s2 W from fun W hW => ⟨(Ext.cell hW (Nat.lt_of_lt_of_le hb1 hB)).trans h1, (Ext.cell hW (Nat.lt_of_lt_of_le hb2 hB)).trans h2⟩)
 have HO := hid ho
 have HB := hid hB
 clear hQ ho hB h1 h2
 refine wp_region_noPanic ?_
 refine wp_region_T (n := 14) (S := RS18 bx by_ (ox + j * 3 + 2) (oy + j * 3 + 2) s1 s2) (by kernel_rfl) ?_
 have hS := HSX.out w.drew (Ext.refl w).drew
 refine wpAnyT_take (i := 0) (v := .slice A n c) rfl (by kernel_rfl) (by kernel_rfl) (by kernel_rfl) (fun _ _ _ h => h) hS (Or.inl ⟨by rfl, ?_⟩) ?_
 ·intro w1 hSw
  unfold RS18 at hSw
  obtain ⟨q1, q2⟩ := hSw
  go_simp
 simp only [Act.put, List.setIfInBounds_toArray, List.set_cons_zero, List.set_cons_succ]
 refine wpAnyT_take (i := 1) (v := .slice (some ⟨bx, ox, none⟩) N cx) rfl (by kernel_rfl) (by kernel_rfl) (by kernel_rfl) (fun _ _ _ h => h) hS (Or.inl ⟨by rfl, ?_⟩) ?_
 ·intro w1 hSw
  unfold RS18 at hSw
  obtain ⟨q1, q2⟩ := hSw
  go_simp
 simp only [Act.put, List.setIfInBounds_toArray, List.set_cons_zero, List.set_cons_succ]
 refine wpAnyT_take (i := 2) (v := .int .i64 j) rfl (by kernel_rfl) (by kernel_rfl) (by kernel_rfl) (fun _ _ _ h => h) hS (Or.inl ⟨by rfl, ?_⟩) ?_
 ·intro w1 hSw
  unfold RS18 at hSw
  obtain ⟨q1, q2⟩ := hSw
  go_simp
 simp only [Act.put, List.setIfInBounds_toArray, List.set_cons_zero, List.set_cons_succ]
 refine wpAnyT_take (i := 3) (v := .pointer (some ⟨bx, ox + j * 3, none⟩)) rfl (by kernel_rfl) (by kernel_rfl) (by kernel_rfl) (fun _ _ _ h => h) hS (Or.inl ⟨by rfl, ?_⟩) ?_
 ·intro w1 hSw
  unfold RS18 at hSw
  obtain ⟨q1, q2⟩ := hSw
  go_simp
 simp only [Act.put, List.setIfInBounds_toArray, List.set_cons_zero, List.set_cons_succ]
 refine wpAnyT_take (i := 4) (v := .pointer (some ⟨bx, ox + j * 3 + 2, none⟩)) rfl (by kernel_rfl) (by kernel_rfl) (by kernel_rfl) (fun _ _ _ h => h) hS (Or.inl ⟨by rfl, ?_⟩) ?_
 ·intro w1 hSw
  unfold RS18 at hSw
  obtain ⟨q1, q2⟩ := hSw
  go_simp
 simp only [Act.put, List.setIfInBounds_toArray, List.set_cons_zero, List.set_cons_succ]
 refine wpAnyT_take (i := 5) (v := .string s1) rfl (by kernel_rfl) (by kernel_rfl) (by kernel_rfl) (fun _ _ _ h => h) hS (Or.inl ⟨by rfl, ?_⟩) ?_
 ·intro w1 hSw
  unfold RS18 at hSw
  obtain ⟨q1, q2⟩ := hSw
  go_simp
 simp only [Act.put, List.setIfInBounds_toArray, List.set_cons_zero, List.set_cons_succ]
 refine wpAnyT_take (i := 6) (v := .slice (some ⟨by_, oy, none⟩) M cy) rfl (by kernel_rfl) (by kernel_rfl) (by kernel_rfl) (fun _ _ _ h => h) hS (Or.inl ⟨by rfl, ?_⟩) ?_
 ·intro w1 hSw
  unfold RS18 at hSw
  obtain ⟨q1, q2⟩ := hSw
  go_simp
 simp only [Act.put, List.setIfInBounds_toArray, List.set_cons_zero, List.set_cons_succ]
 refine wpAnyT_take (i := 7) (v := .int .i64 j) rfl (by kernel_rfl) (by kernel_rfl) (by kernel_rfl) (fun _ _ _ h => h) hS (Or.inl ⟨by rfl, ?_⟩) ?_
 ·intro w1 hSw
  unfold RS18 at hSw
  obtain ⟨q1, q2⟩ := hSw
  go_simp
 simp only [Act.put, List.setIfInBounds_toArray, List.set_cons_zero, List.set_cons_succ]
 refine wpAnyT_take (i := 8) (v := .pointer (some ⟨by_, oy + j * 3, none⟩)) rfl (by kernel_rfl) (by kernel_rfl) (by kernel_rfl) (fun _ _ _ h => h) hS (Or.inl ⟨by rfl, ?_⟩) ?_
 ·intro w1 hSw
  unfold RS18 at hSw
  obtain ⟨q1, q2⟩ := hSw
  go_simp
 simp only [Act.put, List.setIfInBounds_toArray, List.set_cons_zero, List.set_cons_succ]
 refine wpAnyT_take (i := 9) (v := .pointer (some ⟨by_, oy + j * 3 + 2, none⟩)) rfl (by kernel_rfl) (by kernel_rfl) (by kernel_rfl) (fun _ _ _ h => h) hS (Or.inl ⟨by rfl, ?_⟩) ?_
 ·intro w1 hSw
  unfold RS18 at hSw
  obtain ⟨q1, q2⟩ := hSw
  go_simp
 simp only [Act.put, List.setIfInBounds_toArray, List.set_cons_zero, List.set_cons_succ]
 refine wpAnyT_take (i := 10) (v := .string s2) rfl (by kernel_rfl) (by kernel_rfl) (by kernel_rfl) (fun _ _ _ h => h) hS (Or.inl ⟨by rfl, ?_⟩) ?_
 ·intro w1 hSw
  unfold RS18 at hSw
  obtain ⟨q1, q2⟩ := hSw
  go_simp
 simp only [Act.put, List.setIfInBounds_toArray, List.set_cons_zero, List.set_cons_succ]
 refine wpAnyT_take (i := 11) (v := .agg #[.string s1, .string s2]) rfl (by kernel_rfl) (by kernel_rfl) (by kernel_rfl) (fun _ _ _ h => h) hS (Or.inl ⟨by rfl, ?_⟩) ?_
 ·intro w1 hSw
  unfold RS18 at hSw
  obtain ⟨q1, q2⟩ := hSw
  go_simp
 simp only [Act.put, List.setIfInBounds_toArray, List.set_cons_zero, List.set_cons_succ]
 refine wpAnyT_all (rs := [12]) (by kernel_rfl) (by simp) ?_
 intro i_ hi_
 rw [List.mem_singleton] at hi_
 subst hi_
 refine wpOp_step15 rfl (by rfl) fun K' hK' => ?_
 go_simp
 obtain ⟨wa, hwa⟩ : ∃ wa, wa = (w.alloc (.cells #[.string s1, .string s2] 56)).drew := ⟨_, rfl⟩
 rw [← hwa]
 have hxa : Ext w wa := by rw [hwa]; exact ((Ext.refl w).alloc _).drew
 refine hK'.out _ _ ⟨fun _ => HSX.out wa hxa, ?_⟩
 clear hK'
 try simp only [Act.put, List.setIfInBounds_toArray, List.set_cons_zero, List.set_cons_succ]
 refine wpAnyT_all (rs := [13]) (by kernel_rfl) (by simp) ?_
 intro i_ hi_
 rw [List.mem_singleton] at hi_
 subst hi_
 refine wpOp_step15 rfl (by rfl) fun K' hK' => ?_
 refine wp_appW wa _ _ 52 rfl B 56 i0 _ 2 32 Tryz.underlying52 hi hz0 hz1 hz2 rfl (by decide) _ _ _ rfl (own_ext HO.out hxa) ⟨w.heap.size, 0, none⟩ 1 1 [.string s1, .string s2] rfl rfl (by rw [hwa]; exact new_cells w #[.string s1, .string s2] 56) (by simp [Value.oneCell']) (by unfold maxLen; omega) (by omega) (by have := HB.out; have := Ext.size hxa; omega) ?_
 intro v' wb ho' hg' hw'
 have HO' := hid ho'
 have HG' := hid hg'
 have hSA := HSX.out wa hxa
 have hnb : ∀ b, b < B → some b ≠ (Value.slice A n c).ownBlock := fun b hb e => by
  have := own_lt HO.out b e.symm
  omega
 refine hK'.out _ _ ⟨fun _ => ⟨hg'.cell hSA.1 (hnb bx hb1), hg'.cell hSA.2 (hnb by_ hb2)⟩, ?_⟩
 clear hK' ho' hg' hw'
 try simp only [Act.put, List.setIfInBounds_toArray, List.set_cons_zero, List.set_cons_succ]
 refine wpAnyT_all (rs := [14]) (by kernel_rfl) (by simp) ?_
 intro i_ hi_
 rw [List.mem_singleton] at hi_
 subst hi_
 refine wpOp_step15 rfl (by rfl) fun K' hK' => ?_
 go_simp
 refine hK'.out _ _ ⟨fun h => absurd h (by decide), ?_⟩
 clear hK'
 try simp only [Act.put, List.setIfInBounds_toArray, List.set_cons_zero, List.set_cons_succ]
 refine ⟨by kernel_rfl, ?_⟩
 show Q _ _ _
 exact HQ.out v' wb HO'.out (by rw [← hwa]; exact hxa) (by rw [← hwa]; exact HG'.out)
end Go.Proofs.YtiijdojihleggaaGreatDoor
namespace Go.Proofs.YtiijdojihleggaaGreatDoor
open Go.RowKit
theorem pr_at {w : World} {A : Option Addr} {L : List PlP} (h : SlN w A L.length 3 (L.flatMap prC)) {j : Nat} {p : PlP} (hp : L[j]? = some p) :
 ∃ b o, A = some ⟨b, o, none⟩ ∧ b < w.heap.size ∧ w.cell? ⟨b, o + j * 3, none⟩ = some (.int .i64 p.1) ∧ w.cell? ⟨b, o + j * 3 + 1, none⟩ = some (.string ⟨p.2.1.toArray⟩) ∧ w.cell? ⟨b, o + j * 3 + 2, none⟩ = some (.string ⟨p.2.2.toArray⟩) := by
 have g0 := flat_get prC 3 (fun _ => rfl) L j 0 p hp (by omega)
 have g2 := flat_get prC 3 (fun _ => rfl) L j 1 p hp (by omega)
 have g3 := flat_get prC 3 (fun _ => rfl) L j 2 p hp (by omega)
 obtain ⟨b, o, rfl, hb, h0⟩ := h.2 _ _ g0
 obtain ⟨b2, o2, e2, _, h2⟩ := h.2 _ _ g2
 obtain ⟨b3, o3, e3, _, h3⟩ := h.2 _ _ g3
 injection e2 with e2
 injection e2 with p2 q2 _
 injection e3 with e3
 injection e3 with p3 q3 _
 subst p2 q2 p3 q3
 exact ⟨b, o, rfl, hb, h0, by rw [Nat.add_assoc]; exact h2, by rw [Nat.add_assoc]; exact h3⟩
theorem nm_atz {w : World} {A : Option Addr} {L : List NmP} (h : SlN w A L.length 2 (L.flatMap nmC)) {j : Nat} {p : NmP} (hp : L[j]? = some p) :
 ∃ b o, A = some ⟨b, o, none⟩ ∧ b < w.heap.size ∧ w.cell? ⟨b, o + j * 2, none⟩ = some (.string ⟨p.1.toArray⟩) ∧ w.cell? ⟨b, o + j * 2 + 1, none⟩ = some (.string ⟨p.2.toArray⟩) := by
 have g0 := flat_get nmC 2 (fun _ => rfl) L j 0 p hp (by omega)
 have g2 := flat_get nmC 2 (fun _ => rfl) L j 1 p hp (by omega)
 obtain ⟨b, o, rfl, hb, h0⟩ := h.2 _ _ g0
 obtain ⟨b2, o2, e2, _, h2⟩ := h.2 _ _ g2
 injection e2 with e2
 injection e2 with p2 q2 _
 subst p2 q2
 exact ⟨b, o, rfl, hb, h0, by rw [Nat.add_assoc]; exact h2⟩
theorem mis_take {l : List NmP} {m : Nat} {p : NmP} {x y : By} (hp : l[m]? = some p) (h : misB (l.take m) x y = false) : misB (l.take (m + 1)) x y = ((p.1 == x) != (p.2 == y)) := by
 unfold misB at h ⊢
 rw [take_next hp, List.any_append, h]
 simp
theorem has_take {l : List NmP} {m : Nat} {p : NmP} {x : By} (hp : l[m]? = some p) : hasB (l.take (m + 1)) x = (hasB (l.take m) x || p.1 == x) := by
 unfold hasB
 rw [take_next hp, List.any_append]
 simp
theorem mis_all {l : List NmP} {m : Nat} {x y : By} (h : misB (l.take m) x y = true) : misB l x y = true := by
 unfold misB at h ⊢
 rw [← List.take_append_drop m l, List.any_append, h]
 rfl
def PqI (w3 : World) (R : Option (List NmP)) (xs ys : List PlP) (out i : Value) (wr : World) : Prop :=
 ∃ (j : Nat) (l : List NmP), i = .int .i64 j ∧ j ≤ xs.length ∧ l.length ≤ j ∧ wr.ownsRow w3.heap.size 56 2 out l.length (l.flatMap nmC) ∧ parL (xs.drop j) (ys.drop j) l = R ∧ Ext w3 wr ∧ ∀ p ∈ l, p.1.length ≤ 1048576 ∧ p.2.length ≤ 1048576
def PqK (w5 : World) (l : List NmP) (x y : By) (known i : Value) (wr : World) : Prop :=
 ∃ m : Nat, i = .int .i64 m ∧ m ≤ l.length ∧ known = .bool (hasB (l.take m) x) ∧ misB (l.take m) x y = false ∧ Ext w5 wr
set_option maxHeartbeats 8000000 in
theorem rPar_any {f g : F} {v u : Value} {ok : Nat → Prop} {w : World} (hF : FwS w ok f v) (hG : FwS w ok g u) (hcf : Can f) (hcg : Can g) (hwf : wt f ≤ 40000000) (hwg : wt g ≤ 40000000) (hnf : f.nodes ≤ 100000000) (hng : g.nodes ≤ 100000000) :
 Calls Tryz.prog 21 #[v, u] w (RetPar w (parV f g)) := by
 obtain ⟨i0, hi, hz0, hz1, hz2⟩ := info_parts (show (Tryz.prog.info? 56).map (fun i => (i.zero, i.size, i.bytes)) = some (some (.agg #[.string ⟨#[]⟩, .string ⟨#[]⟩]), 2, 32) from by kernel_rfl)
 obtain ⟨Af, cf, rfl⟩ := hF.val
 obtain ⟨Ag, cg, rfl⟩ := hG.val
 obtain ⟨R, hR⟩ : ∃ R, R = parV f g := ⟨_, rfl⟩
 rw [← hR]
 have K1 := hid (fun W (hW : Ext w W) => rvalid_any (hF.ext hW) hcf hwf)
 have K2 := hid (fun W (hW : Ext w W) => rvalid_any (hG.ext hW) hcg hwg)
 have KP := hid (rplaces_all (f.nodes + 1) f _ _ w (by omega) hF hcf (by omega))
 have KQ := hid (fun W (hW : Ext w W) => rplaces_all (g.nodes + 1) g _ _ W (by omega) (hG.ext hW) hcg (by omega))
 have HCF := hid (places_can f |>.1 hcf)
 have HCG := hid (places_can g |>.1 hcg)
 obtain ⟨vf, hvf⟩ : ∃ b, b = validF false f := ⟨_, rfl⟩
 obtain ⟨vg, hvg⟩ : ∃ b, b = validF false g := ⟨_, rfl⟩
 rw [← hvf] at K1
 rw [← hvg] at K2
 obtain ⟨xs, hxs⟩ : ∃ xs, xs = placesF f := ⟨_, rfl⟩
 obtain ⟨ys, hys⟩ : ∃ ys, ys = placesF g := ⟨_, rfl⟩
 rw [← hxs] at KP HCF
 rw [← hys] at KQ HCG
 have hxl : xs.length ≤ 100000000 := by rw [hxs]; have := places_len f; omega
 have hyl : ys.length ≤ 100000000 := by rw [hys]; have := places_len g; omega
 obtain ⟨nb, hnb⟩ : ∃ nb, nb = (!vf || !vg || decide (xs.length ≠ ys.length)) := ⟨_, rfl⟩
 have HNB := hid hnb
 have HRE := hid (show R = if nb = true then none else parL xs ys [] from by
  rw [hR, hnb]
  unfold parV
  rw [← hvf, ← hvg, ← hxs, ← hys]
  cases vf <;> cases vg <;> simp)
 clear hF hG hcf hcg hwf hwg hnf hng hR hvf hvg hxs hys hnb
 go_enter Tryz.func21, Tryz.ntmps21
 go_wp2_with fail
 refine KP.out.mono ?_
 rintro e w2 ⟨A2, c2, rfl, hs2, hc2, hx2⟩
 have HS2 := hid hs2
 have HX2 := hid hx2
 clear hs2 hx2 hc2 KP
 go_wp2_with fail
 refine (KQ.out _ HX2.out).mono ?_
 rintro e w3 ⟨A3, c3, rfl, hs3, hc3, hx3⟩
 have HS3 := hid hs3
 have HS2b := hid (HS2.out.ext hx3)
 have HX3 := hid (HX2.out.trans hx3)
 clear hs3 hx3 hc3 KQ HS2
 go_upto_region 2 with (fail)
 go_cut [30] (BWe nb w3)
 case first =>
  as_aux_lemma =>
  have hlq : ((xs.length : Int) != (ys.length : Int)) = decide (xs.length ≠ ys.length) := by
   by_cases h : xs.length = ys.length
   ·simp [h]
   ·rw [decide_eq_true h]; simp; omega
  cases vf
  ·go_wp2_with (go_at_call 44; refine (K1.out _ HX3.out).mono ?_; rintro e w4 ⟨rfl, hx4⟩; have HX4 := hid hx4; clear hx4)
   go_meet
   exact ⟨by rw [HNB.out]; rfl, HX4.out⟩
  ·cases vg
   ·go_wp2_with fail
    refine (K1.out _ HX3.out).mono ?_
    rintro e w4 ⟨rfl, hx4⟩
    have HX4 := hid hx4
    clear hx4
    go_wp2_with fail
    refine (K2.out _ (HX3.out.trans HX4.out)).mono ?_
    rintro e w5 ⟨rfl, hx5⟩
    have HX5 := hid (HX4.out.trans hx5)
    clear hx5
    go_wp2
    go_meet
    exact ⟨by rw [HNB.out]; rfl, HX5.out⟩
   ·go_wp2_with fail
    refine (K1.out _ HX3.out).mono ?_
    rintro e w4 ⟨rfl, hx4⟩
    have HX4 := hid hx4
    clear hx4
    go_wp2_with fail
    refine (K2.out _ (HX3.out.trans HX4.out)).mono ?_
    rintro e w5 ⟨rfl, hx5⟩
    have HX5 := hid (HX4.out.trans hx5)
    clear hx5
    go_wp2
    all_goals
     go_meet
     exact ⟨by rw [HNB.out]; first | (simp; done) | (simp_all; done), HX5.out⟩
 case rest =>
 obtain ⟨w4, hw4⟩ : ∃ w4 : World, w4 = wc := ⟨_, rfl⟩
 rw [← hw4] at hcut ⊢
 clear hw4
 obtain ⟨rfl, hx4⟩ := hcut
 have HS2 := hid (HS2b.out.ext hx4)
 have HS3b := hid (HS3.out.ext hx4)
 have HX4 := hid (HX3.out.trans hx4)
 clear hx4 K1 K2 HS2b HS3 HX3 HX2
 cases nb
 rotate_left
 ·have hr : R = none := HRE.out
  subst hr
  go_wp2
  go_ret2
  exact ⟨.inl ⟨rfl, rfl⟩, HX4.out⟩
 have HRP := hid (show parL xs ys [] = R from HRE.out.symm)
 have HLEN := hid (show xs.length = ys.length from by
  have h := HNB.out
  by_cases e : xs.length = ys.length
  ·exact e
  ·rw [decide_eq_true e] at h
   simp at h)
 clear HRE HNB
 have HI0 := hid (show PqI w4 R xs ys (.slice none 0 0) (.int .i64 0) w4 from ⟨0, [], rfl, Nat.zero_le _, Nat.zero_le _, World.ownsRow_nil _ _ _ _, HRP.out, Ext.refl _, fun p hp => by cases hp⟩)
 clear HRP
 go_wp2_with fail
 go_loopw [8, 9] (PqI w4 R xs ys) (fun _ i _ => xs.length - (intOf i).toNat)
 case atStart => exact HI0.out
 case round =>
  obtain ⟨j, l, rfl, hj, hlj, ho, hpr, hx, hls⟩ := hrel
  obtain ⟨wo, rfl⟩ : ∃ wo : World, wo = wr := ⟨_, rfl⟩
  obtain ⟨A5, c5, rfl, hs5⟩ := own_slN ho
  have HO := hid ho
  have HPR := hid hpr
  have HX := hid hx
  have HLS := hid hls
  have HS5 := hid hs5
  have hxl2 : l.length ≤ 100000000 := by omega
  clear ho hpr hx hls hs5
  by_cases hjl : j < xs.length
  rotate_left
  ·as_aux_lemma =>
   have hjx : j = xs.length := by omega
   have hr : R = some l := by
    rw [← HPR.out, List.drop_of_length_le (by omega)]
    rfl
   subst hr
   go_wp2
   go_ret2
   exact ⟨.inr ⟨l, A5, c5, rfl, rfl, HS5.out, HLS.out⟩, HX4.out.trans HX.out⟩
  as_aux_lemma =>
  have hjy : j < ys.length := by rw [← HLEN.out]; exact hjl
  obtain ⟨x, hx⟩ : ∃ x, xs[j]? = some x := ⟨_, List.getElem?_eq_getElem hjl⟩
  obtain ⟨y, hy⟩ : ∃ y, ys[j]? = some y := ⟨_, List.getElem?_eq_getElem hjy⟩
  obtain ⟨bx, ox, rfl, hbx, p0, p1, p2⟩ := pr_at HS2.out hx
  obtain ⟨by_, oy, rfl, hby, q0, q1, q2⟩ := pr_at HS3b.out hy
  have x0 := (Ext.cell (p := ⟨bx, ox + j * 3, none⟩) HX.out hbx).trans p0
  have x1 := (Ext.cell (p := ⟨bx, ox + j * 3 + 1, none⟩) HX.out hbx).trans p1
  have y0 := (Ext.cell (p := ⟨by_, oy + j * 3, none⟩) HX.out hby).trans q0
  have y1 := (Ext.cell (p := ⟨by_, oy + j * 3 + 1, none⟩) HX.out hby).trans q1
  have hxc := HCF.out x (List.mem_of_getElem? hx)
  have hyc := HCG.out y (List.mem_of_getElem? hy)
  have HPR2 := hid (show (parStep l x y).bind (parL (xs.drop (j + 1)) (ys.drop (j + 1))) = R from by
   rw [← HPR.out, drop_two hx, drop_two hy]; rfl)
  obtain ⟨k1, s1, n1⟩ := x
  obtain ⟨k2, s2, n2⟩ := y
  simp only at x0 x1 p2 y0 y1 q2 hxc hyc
  have HNL := hid (show n1.length ≤ 1048576 ∧ n2.length ≤ 1048576 from ⟨hxc.1, hyc.1⟩)
  have hjyI : (j : Int) < (ys.length : Int) := by omega
  have hjxI : (j : Int) < (xs.length : Int) := by omega
  have HX2c := hid p2
  have HY2c := hid q2
  clear hx hy hxc hyc p0 p1 p2 q0 q1 q2
  obtain ⟨bad, hbad⟩ : ∃ bad, bad = (k1 != k2 || s1 != s2) := ⟨_, rfl⟩
  have HBAD := hid hbad
  clear hbad
  go_upto_region 8 with (fail)
  go_cut [60] (BWe bad wo)
  case first =>
   as_aux_lemma =>
   by_cases e1 : k1 = k2
   ·have f1 : (k1 == k2) = true := by simp [e1]
    have g1 : (k1 != k2) = false := by simp [e1]
    have G1 := hid g1
    clear e1
    by_cases e2 : s1 = s2
    ·have f2 : (s1 == s2) = true := by simp [e2]
     have g2 : (s1 != s2) = false := by simp [e2]
     have G2 := hid g2
     clear e2
     go_quiet (fail)
     go_wp2_with fail
     go_meet
     exact ⟨by rw [HBAD.out, G1.out, G2.out]; first | rfl | (simp; done), (Ext.refl wo).drewN _⟩
    ·have f2 : (s1 == s2) = false := by simp [e2]
     have g2 : (s1 != s2) = true := by simp [e2]
     have G2 := hid g2
     clear e2
     go_quiet (fail)
     go_wp2_with fail
     go_meet
     exact ⟨by rw [HBAD.out, G1.out, G2.out]; first | rfl | (simp; done), (Ext.refl wo).drewN _⟩
   ·have f1 : (k1 == k2) = false := by simp [e1]
    have g1 : (k1 != k2) = true := by simp [e1]
    have G1 := hid g1
    clear e1
    go_quiet (fail)
    go_wp2_with fail
    go_meet
    exact ⟨by rw [HBAD.out, G1.out]; first | rfl | (simp; done), (Ext.refl wo).drewN _⟩
  case rest =>
  obtain ⟨w5, hw5⟩ : ∃ w5 : World, w5 = wc := ⟨_, rfl⟩
  rw [← hw5] at hcut ⊢
  clear hw5
  obtain ⟨rfl, hx5⟩ := hcut
  have HX5 := hid hx5
  clear hx5 x0 x1 y0 y1
  cases bad
  rotate_left
  ·have hr : R = none := by
    rw [← HPR2.out]
    unfold parStep
    rw [if_pos]
    ·rfl
    ·have h := HBAD.out
     by_cases e1 : k1 = k2
     ·by_cases e2 : s1 = s2
      ·simp [e1, e2] at h
      ·exact .inr e2
     ·exact .inl e1
   subst hr
   go_wp2
   go_ret2
   exact ⟨.inl ⟨rfl, rfl⟩, HX4.out.trans (HX.out.trans HX5.out)⟩
  have HST := hid (show parStep l (k1, s1, n1) (k2, s2, n2) = if misB l n1 n2 = true then none else if hasB l n1 = true then some l else some (l ++ [(n1, n2)]) from by
   unfold parStep
   rw [if_neg]
   have h := HBAD.out
   rintro (e | e)
   ·simp only at e; simp [e] at h
   ·simp only at e; simp [e] at h)
  have HK0 := hid (show PqK w5 l n1 n2 (.bool false) (.int .i64 0) w5 from ⟨0, rfl, Nat.zero_le _, rfl, rfl, Ext.refl _⟩)
  clear HBAD
  go_wp2_with fail
  go_loopw [10, 11] (PqK w5 l n1 n2) (fun _ i _ => l.length - (intOf i).toNat)
  case atStart => exact HK0.out
  case round =>
   obtain ⟨m, rfl, hm, rfl, hmis, hx6⟩ := hrel
   obtain ⟨wq, rfl⟩ : ∃ wq : World, wq = wr := ⟨_, rfl⟩
   have HXQ := hid (HX5.out.trans hx6)
   have HMIS := hid hmis
   have HX6 := hid hx6
   have x2 := (Ext.cell (p := ⟨bx, ox + j * 3 + 2, none⟩) (HX.out.trans HXQ.out) hbx).trans HX2c.out
   have y2 := (Ext.cell (p := ⟨by_, oy + j * 3 + 2, none⟩) (HX.out.trans HXQ.out) hby).trans HY2c.out
   obtain ⟨kn, hkn⟩ : ∃ kn, kn = hasB (l.take m) n1 := ⟨_, rfl⟩
   rw [← hkn]
   have HKN := hid hkn
   clear hmis hx6 hkn
   by_cases hml : m < l.length
   rotate_left
   ·as_aux_lemma =>
    have hmL : m = l.length := by omega
    have htk : l.take m = l := List.take_of_length_le (by omega)
    have HO6 := hid (own_ext HO.out HXQ.out)
    have HXX := hid (HX.out.trans HXQ.out)
    have hR2 : (if kn = true then some l else some (l ++ [(n1, n2)])).bind (parL (xs.drop (j + 1)) (ys.drop (j + 1))) = R := by
     have h := HMIS.out
     rw [htk] at h
     rw [← HPR2.out, HST.out, h, HKN.out, htk]
     rfl
    have HR2 := hid hR2
    have HSZ := hid (show w4.heap.size ≤ wq.heap.size from Ext.size HXX.out)
    clear hR2 htk
    cases kn
    ·go_upto_region 18 with (fail)
     refine rp18 (by kernel_rfl) x2 y2 hbx hby hjxI hjyI HO6.out (by omega) HSZ.out ?_
     intro v6 w6 hown6 hxa6 hgrow6
     have HO7 := hid hown6
     have HX7 := hid (show Ext w4 w6 from ext_grown (a := w4) (B := w4.heap.size) (HXX.out.trans hxa6) (own_ext HO6.out hxa6) (Nat.le_refl _) hgrow6)
     clear hown6 hgrow6 hxa6
     go_wp2_with fail
     refine ⟨⟨j + 1, l ++ [(n1, n2)], by go_num, hjl, by simp; omega, ?_, HR2.out, HX7.out, ?_⟩, by simp [intOf]; omega⟩
     ·rw [List.length_append, List.flatMap_append]
      exact HO7.out
     ·intro p hp
      rcases List.mem_append.1 hp with hp | hp
      ·exact HLS.out p hp
      ·rw [List.mem_singleton.1 hp]; exact HNL.out
    ·go_wp2
     refine ⟨⟨j + 1, l, by go_num, hjl, by omega, HO6.out, HR2.out, HXX.out, HLS.out⟩, by simp [intOf]; omega⟩
   as_aux_lemma =>
   obtain ⟨p, hp⟩ : ∃ p, l[m]? = some p := ⟨_, List.getElem?_eq_getElem hml⟩
   obtain ⟨bp, op, hA5, hbp, p0, p1⟩ := nm_atz (HS5.out.ext HXQ.out) hp
   subst hA5
   have HM1 := hid (mis_take hp HMIS.out (x := n1) (y := n2))
   have HH1 := hid (has_take (x := n1) hp)
   have hmI : (m : Int) < (l.length : Int) := by omega
   obtain ⟨pa, pb⟩ := p
   simp only at p0 p1 HM1 HH1
   rw [← HKN.out] at HH1
   have HP0 := hid p0
   clear hp
   obtain ⟨ba, hba⟩ : ∃ ba, ba = (pa == n1) := ⟨_, rfl⟩
   obtain ⟨bb, hbb⟩ : ∃ bb, bb = (pb == n2) := ⟨_, rfl⟩
   rw [← hba, ← hbb] at HM1
   rw [← hba] at HH1
   have f1 : (pa == n1) = ba := hba.symm
   have f2 : (pb == n2) = bb := hbb.symm
   clear hba hbb
   go_upto_region 14 with (fail)
   go_cut [89] (BWe (ba != bb) wq)
   case first =>
    as_aux_lemma =>
    go_quiet (fail)
    go_wp2_with fail
    go_meet
    exact ⟨rfl, (Ext.refl wq).drewN _⟩
   case rest =>
   obtain ⟨w7, hw7⟩ : ∃ w7 : World, w7 = wc := ⟨_, rfl⟩
   rw [← hw7] at hcut ⊢
   clear hw7
   obtain ⟨rfl, hx7⟩ := hcut
   have HX7 := hid (HX6.out.trans hx7)
   clear x2 y2 p0 p1
   have x2 := (Ext.cell (p := ⟨bx, ox + j * 3 + 2, none⟩) (HX.out.trans (HX5.out.trans HX7.out)) hbx).trans HX2c.out
   have p0 := (Ext.cell (p := ⟨bp, op + m * 2, none⟩) hx7 hbp).trans HP0.out
   clear hx7
   obtain ⟨bd, hbd⟩ : ∃ bd, bd = (ba != bb) := ⟨_, rfl⟩
   rw [← hbd] at HM1 ⊢
   clear hbd
   cases bd
   rotate_left
   ·have hr : R = none := by
     rw [← HPR2.out, HST.out, mis_all HM1.out]
     rfl
    subst hr
    go_wp2
    go_ret2
    exact ⟨.inl ⟨rfl, rfl⟩, HX4.out.trans (HX.out.trans (HX5.out.trans HX7.out))⟩
   go_upto_region 16 with (fail)
   cases kn
   ·go_quiet (fail)
    go_wp2_with fail
    refine ⟨⟨m + 1, by go_num, hml, by rw [HH1.out]; rfl, HM1.out, HX7.out.drewN _⟩, by simp [intOf]; omega⟩
   ·go_quiet (fail)
    go_wp2_with fail
    refine ⟨⟨m + 1, by go_num, hml, by rw [HH1.out]; rfl, HM1.out, HX7.out.drewN _⟩, by simp [intOf]; omega⟩
end Go.Proofs.YtiijdojihleggaaGreatDoor
