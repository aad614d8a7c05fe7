import Derived.Test.YtiijdojihleggaaGreatDoorQNP2
import Derived.Test.YtiijdojihleggaaGreatDoorQGb
import Derived.Test.YtiijdojihleggaaGreatDoorQNB1
import Derived.Test.YtiijdojihleggaaGreatDoorRows
import Derived.Deep.DeepHandedRow
import Derived.Stop.Joined
import Derived.JoinedCond
set_option maxRecDepth 100000
set_option linter.unusedSimpArgs false
set_option linter.unusedVariables false
open Go.Lib (hid)
namespace Go.Proofs.YtiijdojihleggaaGreatDoor
open Go.RowKit
theorem flJ_nodes : ∀ f : F, f.len ≤ f.nodes := by
 intro f
 induction f with
 | nil => exact Nat.le_refl _
 | cons k t n s c p r _ _ ih => rw [F.len, F.nodes]; omega
def RetInt (w : World) (e : Ending) (w' : World) : Prop := ∃ n : Int, e = .returned (.int .i64 n) ∧ Ext w w'
def RetBo (w : World) (e : Ending) (w' : World) : Prop := ∃ b : Bool, e = .returned (.bool b) ∧ Ext w w'
def sizeF : F → Nat
 | .nil => 0
 | .cons k t n s ca pa r => 1 + sizeF pa + t.length / 20 + sizeF ca + sizeF r
theorem size_wt : ∀ f : F, sizeF f * 20 ≤ wt f
 | .nil => Nat.le_refl _
 | .cons k t n s ca pa r => by
   have h1 := size_wt ca
   have h2 := size_wt pa
   have h3 := size_wt r
   rw [sizeF, wt]
   omega
def DpH (N : Nat) : Prop := ∀ (f : F) (v : Value) (ok : Nat → Prop) (w : World), f.nodes < N → N ≤ 1000000000 → FwS w ok f v → Calls Tryz.prog 39 #[v] w (RetInt w)
def DpI (w : World) (n : Nat) (m i : Value) (wr : World) : Prop := ∃ (j : Nat) (x : Int), j ≤ n ∧ i = .int .i64 j ∧ m = .int .i64 x ∧ Ext w wr
set_option maxHeartbeats 4000000 in
theorem depth_step (N : Nat) (hN : DpH N) : DpH (N + 1) := by
 intro f v ok w hnd hNN hF
 obtain ⟨A, c, rfl⟩ := hF.val
 have hfl : f.len ≤ 1000000000 := by have := flJ_nodes f; omega
 have HF := hid hF
 have HND := hid hnd
 have HNN := hid hNN
 clear hF hnd hNN
 go_enter Tryz.func39, Tryz.ntmps39
 go_wp2_with fail
 go_loopw [3, 4] (DpI w f.len) (fun _ i _ => f.len - (intOf i).toNat)
 case atStart => exact ⟨0, 0, Nat.zero_le _, rfl, rfl, Ext.refl w⟩
 case round =>
  obtain ⟨j, x, hj, rfl, rfl, hw⟩ := hrel
  obtain ⟨wo, rfl⟩ : ∃ wo : World, wo = wr := ⟨_, rfl⟩
  have HW := hid hw
  by_cases hjl : j < f.len
  rotate_left
  ·have hjI : ¬ (j : Int) < (f.len : Int) := by omega
   clear hw
   go_wp2
   go_ret
   exact ⟨_, rfl, HW.out⟩
  have hjI : (j : Int) < (f.len : Int) := by omega
  obtain ⟨b, o, cc0, k, t, n, s, ca, pa, Ac, cc, Ap, cp, hv, hbw, _, hdr, c0, c1, c2, c3, c4, c5, hCA, hPA⟩ := (HF.out.ext hw).at_ hjl
  injection hv with hA _ hcc
  subst hA hcc
  have hnd2 : ca.nodes < N ∧ pa.nodes < N := by have h1 := fdrop_nodes f j; rw [hdr, F.nodes] at h1; have := HND.out; constructor <;> omega
  have hcl : ca.len ≤ 1000000000 := by have := flJ_nodes ca; have := HNN.out; omega
  have KP := hid (hN pa _ ok wo hnd2.2 (by have := HNN.out; omega) hPA)
  have HCA := hid hCA
  have HCN := hid hnd2.1
  clear hw hPA hCA hnd2 hdr
  go_wp2_with fail
  refine KP.out.mono ?_
  rintro e w2 ⟨dn, rfl, hx2⟩
  have HX2 := hid hx2
  have e4 := (Ext.cell hx2 (World.block_lt_of_cell? _ _ c4)).trans c4
  have HE4 := hid e4
  clear hx2 KP c0 c1 c2 c3 c4 c5
  go_wp2_with fail
  all_goals
   go_loopw [3, 5] (DpI w2 ca.len) (fun _ i _ => ca.len - (intOf i).toNat)
   case atStart => exact ⟨0, _, Nat.zero_le _, rfl, rfl, Ext.refl w2⟩
   case round =>
    obtain ⟨i, x2, hi, rfl, rfl, hw⟩ := hrel
    have HW2 := hid hw
    have p4 := (Ext.cell hw (World.block_lt_of_cell? _ _ HE4.out)).trans HE4.out
    by_cases hil : i < ca.len
    rotate_left
    ·have hiI : ¬ (i : Int) < (ca.len : Int) := by omega
     clear hw
     go_wp2
     exact ⟨⟨j + 1, _, hjl, by go_num, rfl, HW.out.trans (HX2.out.trans HW2.out)⟩, by simp [intOf]; omega⟩
    have hiI : (i : Int) < (ca.len : Int) := by omega
    obtain ⟨b', o', cc', k', t', n', s', ca', pa', Ap', cp', hv', hbw', _, hdr', d0, d1, hPA'⟩ := (HCA.out.ext (HX2.out.trans hw)).at_ hil
    injection hv' with hA' _ hcc'
    subst hA' hcc'
    have hnd' : pa'.nodes < N := by have h1 := fdrop_nodes ca i; rw [hdr', F.nodes] at h1; have := HCN.out; omega
    have KP := hid (hN pa' _ ok wr hnd' (by have := HNN.out; omega) hPA')
    clear hw hPA' hnd' hdr'
    go_wp2_with fail
    refine KP.out.mono ?_
    rintro e w3 ⟨dn3, rfl, hx3⟩
    have HX3 := hid (HW2.out.trans hx3)
    clear hx3 KP
    go_wp2
    exact ⟨⟨i + 1, _, hil, by go_num, rfl, HX3.out⟩, by simp [intOf]; omega⟩
theorem depth_all : ∀ N, DpH N
 | 0 => fun f v ok w h => absurd h (Nat.not_lt_zero _)
 | N + 1 => depth_step N (depth_all N)
def ShH (N : Nat) : Prop := ∀ (f : F) (v : Value) (ok : Nat → Prop) (w : World), f.nodes < N → N ≤ 1000000000 → FwS w ok f v → Calls Tryz.prog 41 #[v] w (RetBo w)
def ShI (w : World) (n : Nat) (i : Value) (wr : World) : Prop := ∃ j : Nat, j ≤ n ∧ i = .int .i64 j ∧ Ext w wr
set_option maxHeartbeats 4000000 in
theorem short_step (N : Nat) (hN : ShH N) : ShH (N + 1) := by
 intro f v ok w hnd hNN hF
 obtain ⟨A, c, rfl⟩ := hF.val
 have hfl : f.len ≤ 1000000000 := by have := flJ_nodes f; omega
 have HF := hid hF
 have HND := hid hnd
 have HNN := hid hNN
 clear hF hnd hNN
 go_enter Tryz.func41, Tryz.ntmps41
 go_wp2_with fail
 go_loopw [3] (ShI w f.len) (fun i _ => f.len - (intOf i).toNat)
 case atStart => exact ⟨0, Nat.zero_le _, rfl, Ext.refl w⟩
 case round =>
  obtain ⟨j, hj, rfl, hw⟩ := hrel
  obtain ⟨wo, rfl⟩ : ∃ wo : World, wo = wr := ⟨_, rfl⟩
  have HW := hid hw
  by_cases hjl : j < f.len
  rotate_left
  ·have hjI : ¬ (j : Int) < (f.len : Int) := by omega
   clear hw
   go_wp2
   go_ret
   exact ⟨_, rfl, HW.out⟩
  have hjI : (j : Int) < (f.len : Int) := by omega
  obtain ⟨b, o, cc0, k, t, n, s, ca, pa, Ac, cc, Ap, cp, hv, hbw, _, hdr, c0, c1, c2, c3, c4, c5, hCA, hPA⟩ := (HF.out.ext hw).at_ hjl
  injection hv with hA _ hcc
  subst hA hcc
  have hnd2 : ca.nodes < N ∧ pa.nodes < N := by have h1 := fdrop_nodes f j; rw [hdr, F.nodes] at h1; have := HND.out; constructor <;> omega
  have hcl : ca.len ≤ 1000000000 := by have := flJ_nodes ca; have := HNN.out; omega
  have KP := hid (hN pa _ ok wo hnd2.2 (by have := HNN.out; omega) hPA)
  have HCA := hid hCA
  have HCN := hid hnd2.1
  clear hw hPA hCA hnd2 hdr
  by_cases hn6 : 60 < n.length
  ·have hn6I : (60 : Int) < (n.length : Int) := by omega
   go_wp2
   go_ret
   exact ⟨_, rfl, HW.out⟩
  have hn6I : ¬ (60 : Int) < (n.length : Int) := by omega
  by_cases hs6 : 60 < s.length
  ·have hs6I : (60 : Int) < (s.length : Int) := by omega
   go_wp2
   go_ret
   exact ⟨_, rfl, HW.out⟩
  have hs6I : ¬ (60 : Int) < (s.length : Int) := by omega
  go_wp2_with fail
  refine KP.out.mono ?_
  rintro e w2 ⟨bb, rfl, hx2⟩
  have HX2 := hid hx2
  have e4 := (Ext.cell hx2 (World.block_lt_of_cell? _ _ c4)).trans c4
  have HE4 := hid e4
  clear hx2 KP c0 c1 c2 c3 c4 c5
  cases bb
  ·go_wp2
   go_ret
   exact ⟨_, rfl, HW.out.trans HX2.out⟩
  go_wp2_with fail
  go_loopw [4] (ShI w2 ca.len) (fun i _ => ca.len - (intOf i).toNat)
  case atStart => exact ⟨0, Nat.zero_le _, rfl, Ext.refl w2⟩
  case round =>
   obtain ⟨i, hi, rfl, hw⟩ := hrel
   have HW2 := hid hw
   have p4 := (Ext.cell hw (World.block_lt_of_cell? _ _ HE4.out)).trans HE4.out
   by_cases hil : i < ca.len
   rotate_left
   ·have hiI : ¬ (i : Int) < (ca.len : Int) := by omega
    clear hw
    go_wp2
    exact ⟨⟨j + 1, hjl, by go_num, HW.out.trans (HX2.out.trans HW2.out)⟩, by simp [intOf]; omega⟩
   have hiI : (i : Int) < (ca.len : Int) := by omega
   obtain ⟨b', o', cc', k', t', n', s', ca', pa', Ap', cp', hv', hbw', _, hdr', d0, d1, hPA'⟩ := (HCA.out.ext (HX2.out.trans hw)).at_ hil
   injection hv' with hA' _ hcc'
   subst hA' hcc'
   have hnd' : pa'.nodes < N := by have h1 := fdrop_nodes ca i; rw [hdr', F.nodes] at h1; have := HCN.out; omega
   have KP := hid (hN pa' _ ok wr hnd' (by have := HNN.out; omega) hPA')
   clear hw hPA' hnd' hdr'
   by_cases hn7 : 60 < n'.length
   ·have hn7I : (60 : Int) < (n'.length : Int) := by omega
    go_wp2
    go_ret
    exact ⟨_, rfl, HW.out.trans (HX2.out.trans HW2.out)⟩
   have hn7I : ¬ (60 : Int) < (n'.length : Int) := by omega
   go_wp2_with fail
   refine KP.out.mono ?_
   rintro e w3 ⟨b3, rfl, hx3⟩
   have HX3 := hid (HW2.out.trans hx3)
   clear hx3 KP
   cases b3
   ·go_wp2
    go_ret
    exact ⟨_, rfl, HW.out.trans (HX2.out.trans HX3.out)⟩
   go_wp2
   exact ⟨⟨i + 1, hil, by go_num, HX3.out⟩, by simp [intOf]; omega⟩
theorem short_all : ∀ N, ShH N
 | 0 => fun f v ok w h => absurd h (Nat.not_lt_zero _)
 | N + 1 => short_step N (short_all N)
def SzH (N : Nat) : Prop := ∀ (f : F) (v : Value) (ok : Nat → Prop) (w : World), f.nodes < N → N ≤ 1000000000 → FwS w ok f v → Can f → wt f ≤ 40000000 → Calls Tryz.prog 40 #[v] w fun e w' => e = .returned (.int .i64 (sizeF f)) ∧ Ext w w'
def SzI (w : World) (f : F) (R : Nat) (m i : Value) (wr : World) : Prop := ∃ (j x : Nat), j ≤ f.len ∧ i = .int .i64 j ∧ m = .int .i64 x ∧ x + sizeF (fdrop f j) = R ∧ Ext w wr
set_option maxHeartbeats 4000000 in
theorem size_step (N : Nat) (hN : SzH N) : SzH (N + 1) := by
 intro f v ok w hnd hNN hF hcan hwt
 obtain ⟨A, c, rfl⟩ := hF.val
 have hfl : f.len ≤ 1000000000 := by have := flJ_nodes f; omega
 have HF := hid hF
 have HND := hid hnd
 have HNN := hid hNN
 have HCAN := hid hcan
 clear hF hnd hNN hcan
 have HWT := hid hwt
 obtain ⟨R, hR⟩ : ∃ R, R = sizeF f := ⟨_, rfl⟩
 have hR2 : R ≤ 2000000 := by have := size_wt f; omega
 rw [← hR]
 have H0 := hid (show SzI w f R (.int .i64 0) (.int .i64 0) w from ⟨0, 0, Nat.zero_le _, rfl, rfl, by rw [fdrop_zero, hR]; omega, Ext.refl w⟩)
 clear hR hwt
 go_enter Tryz.func40, Tryz.ntmps40
 go_wp2_with fail
 go_loopw [3, 4] (SzI w f R) (fun _ i _ => f.len - (intOf i).toNat)
 case atStart => exact H0.out
 case round =>
  obtain ⟨j, x, hj, rfl, rfl, hs, hw⟩ := hrel
  obtain ⟨wo, rfl⟩ : ∃ wo : World, wo = wr := ⟨_, rfl⟩
  have HW := hid hw
  by_cases hjl : j < f.len
  rotate_left
  ·have hjI : ¬ (j : Int) < (f.len : Int) := by omega
   have hx : x = R := by rw [fdrop_end f j (by omega), sizeF] at hs; omega
   subst hx
   clear hw hs
   go_wp2
   go_ret
   exact ⟨rfl, HW.out⟩
  have hjI : (j : Int) < (f.len : Int) := by omega
  obtain ⟨b, o, cc0, k, t, n, s, ca, pa, Ac, cc, Ap, cp, hv, hbw, _, hdr, c0, c1, c2, c3, c4, c5, hCA, hPA⟩ := (HF.out.ext hw).at_ hjl
  injection hv with hA _ hcc
  subst hA hcc
  have hnd2 : ca.nodes < N ∧ pa.nodes < N := by have h1 := fdrop_nodes f j; rw [hdr, F.nodes] at h1; have := HND.out; constructor <;> omega
  have hcl : ca.len ≤ 1000000000 := by have := flJ_nodes ca; have := HNN.out; omega
  have hcn := (can_drop f j).1 HCAN.out
  rw [hdr, Can] at hcn
  obtain ⟨_, _, hca, hcp, _⟩ := hcn
  have hwd := wt_drop f j hdr
  rw [hdr, sizeF] at hs
  obtain ⟨q, hq⟩ : ∃ q, q = t.length / 20 := ⟨_, rfl⟩
  obtain ⟨S1, hS1⟩ : ∃ S1, S1 = sizeF pa := ⟨_, rfl⟩
  have KP := hid (fun W (hW : Ext wo W) => hN pa _ ok W hnd2.2 (by have := HNN.out; omega) (hPA.ext hW) hcp (by have := HWT.out; omega))
  rw [← hS1] at KP
  rw [← hS1, ← hq] at hs
  have HS := hid hs
  have hqw : IntKind.i64.wrap ((t.length : Int).tdiv 20) = (q : Int) := by
   rw [show (t.length : Int).tdiv 20 = (q : Int) from by rw [hq, Int.tdiv_eq_ediv_of_nonneg (by omega)]; omega]
   exact IntWalk.i64_in _ (by have := HWT.out; omega)
  have hxb : x + (1 + S1 + q) ≤ 2000000 := by omega
  have HCA := hid hCA
  have HCN := hid hnd2.1
  have HCC := hid hca
  have HWC := hid (show wt ca ≤ 40000000 from by have := HWT.out; omega)
  have KPE := hid (fun y : ExtW wo => KP.out y.v y.h)
  have y1 : ∀ y : ExtW wo, y.v.cell? ⟨b, o + j * 6 + 1, none⟩ = some (.string ⟨t.toArray⟩) := fun y => (Ext.cell y.h (World.block_lt_of_cell? _ _ c1)).trans c1
  have y5 : ∀ y : ExtW wo, y.v.cell? ⟨b, o + j * 6 + 5, none⟩ = some (.slice Ap pa.len cp) := fun y => (Ext.cell y.h (World.block_lt_of_cell? _ _ c5)).trans c5
  have HC4 := hid c4
  have HQ := hid hq
  have HTL := hid (show t.length ≤ 20000000 from by have := HWT.out; omega)
  clear hw hPA hCA hnd2 hdr hwd hs hq hS1 hca hcp hqw
  go_wp2_with fail
  refine wp_region_ext (by kernel_rfl) (by kernel_rfl) ?_
  repeat (go_big_quiet_step ((go_at_call 40; exact ExtW.call (KPE.out _))))
  refine wpQuiet_nil ?_
  intro wx hx
  obtain ⟨y, rfl⟩ := hx
  have hv : wrap64 ((x : Int) + wrap64 (1 + (S1 : Int) + wrap64 ((t.length : Int) / 20))) = ((x + (1 + S1 + q) : Nat) : Int) := by
   have h1 := HQ.out
   have h2 := HTL.out
   have hq1 : (t.length : Int) / 20 = (q : Int) := by rw [h1]; omega
   rw [hq1, IntWalk.wrap64_in (q : Int) (by omega), IntWalk.wrap64_in (1 + (S1 : Int) + (q : Int)) (by omega), IntWalk.wrap64_in ((x : Int) + (1 + (S1 : Int) + (q : Int))) (by omega)]
   omega
  rw [hv]
  have e4 := (Ext.cell y.h (World.block_lt_of_cell? _ _ HC4.out)).trans HC4.out
  have HE4 := hid e4
  have HX2 := hid y.h
  obtain ⟨w2, hw2⟩ : ∃ w2, w2 = y.v := ⟨_, rfl⟩
  rw [← hw2] at e4 HE4 HX2 ⊢
  obtain ⟨x1, hx1⟩ : ∃ x1, x1 = x + (1 + S1 + q) := ⟨_, rfl⟩
  rw [← hx1] at hv ⊢
  have HS1 := hid (show x1 + sizeF ca + sizeF (fdrop f (j + 1)) = R from by have := HS.out; omega)
  have HC0 := hid (show SzI w2 ca (x1 + sizeF ca) (.int .i64 x1) (.int .i64 0) w2 from ⟨0, x1, Nat.zero_le _, rfl, rfl, by rw [fdrop_zero], Ext.refl w2⟩)
  have hx1b : x1 + sizeF ca ≤ 2000000 := by have := HS.out; omega
  clear hv y1 y5 hx1 hw2
  go_wp2_with fail
  go_loopw [3, 5] (SzI w2 ca (x1 + sizeF ca)) (fun _ i _ => ca.len - (intOf i).toNat)
  case atStart => exact HC0.out
  case round =>
   obtain ⟨i, x2, hi, rfl, rfl, hs2, hw⟩ := hrel
   have HW2 := hid hw
   have p4 := (Ext.cell hw (World.block_lt_of_cell? _ _ HE4.out)).trans HE4.out
   by_cases hil : i < ca.len
   rotate_left
   ·have hiI : ¬ (i : Int) < (ca.len : Int) := by omega
    have hx2 : x2 + sizeF (fdrop f (j + 1)) = R := by rw [fdrop_end ca i (by omega), sizeF] at hs2; have := HS1.out; omega
    have HXX := hid hx2
    clear hw hs2 hx2
    go_wp2
    exact ⟨⟨j + 1, x2, hjl, by go_num, rfl, HXX.out, HW.out.trans (HX2.out.trans HW2.out)⟩, by simp [intOf]; omega⟩
   have hiI : (i : Int) < (ca.len : Int) := by omega
   obtain ⟨b', o', cc', k', t', n', s', ca', pa', Ap', cp', hv', hbw', _, hdr', d0, d1, hPA'⟩ := (HCA.out.ext (HX2.out.trans hw)).at_ hil
   injection hv' with hA' _ hcc'
   subst hA' hcc'
   have hnd' : pa'.nodes < N := by have h1 := fdrop_nodes ca i; rw [hdr', F.nodes] at h1; have := HCN.out; omega
   have hcn' := (can_drop ca i).2 HCC.out
   rw [hdr', CanC] at hcn'
   obtain ⟨rfl, rfl, rfl, rfl, _, hcp', _⟩ := hcn'
   have hwd' := wt_drop ca i hdr'
   rw [hdr', sizeF] at hs2
   obtain ⟨S2, hS2⟩ : ∃ S2, S2 = sizeF pa' := ⟨_, rfl⟩
   have KP := hid (hN pa' _ ok wr hnd' (by have := HNN.out; omega) hPA' hcp' (by have := HWC.out; omega))
   rw [← hS2] at KP
   rw [← hS2] at hs2
   have HS2 := hid (show x2 + (1 + S2) + sizeF (fdrop ca (i + 1)) = x1 + sizeF ca from by rw [← hs2]; simp [sizeF]; omega)
   have hb2 : x2 + (1 + S2) ≤ 2000000 := by have := HS2.out; omega
   clear hw hPA' hnd' hdr' hwd' hs2 hS2 hcp'
   go_wp2_with fail
   refine KP.out.mono ?_
   rintro e w3 ⟨rfl, hx3⟩
   have HX3 := hid (HW2.out.trans hx3)
   clear hx3 KP
   go_wp2
   exact ⟨⟨i + 1, x2 + (1 + S2), hil, by go_num, by go_num, HS2.out, HX3.out⟩, by simp [intOf]; omega⟩
theorem size_all : ∀ N, SzH N
 | 0 => fun f v ok w h => absurd h (Nat.not_lt_zero _)
 | N + 1 => size_step N (size_all N)
set_option maxHeartbeats 1000000 in
theorem rfew_any {f : F} {v : Value} {ok : Nat → Prop} {w : World} (hf : FwS w ok f v) (hc : Can f) (hw : wt f ≤ 40000000) (hn : f.nodes < 100000000) : Calls Tryz.prog 19 #[v] w (RetBo w) := by
 have K1 := hid (fun W (hW : Ext w W) => depth_all 100000000 f v ok W hn (by decide) (hf.ext hW))
 have K2 := hid (fun W (hW : Ext w W) => size_all 100000000 f v ok W hn (by decide) (hf.ext hW) hc hw)
 have K3 := hid (fun W (hW : Ext w W) => short_all 100000000 f v ok W hn (by decide) (hf.ext hW))
 obtain ⟨A, c, rfl⟩ := hf.val
 clear hf
 go_enter Tryz.func19, Tryz.ntmps19
 go_wp2_with fail
 refine (K1.out _ (Ext.refl w)).mono ?_
 rintro e w2 ⟨d, rfl, hx2⟩
 have HX2 := hid hx2
 clear hx2
 by_cases hd : d ≤ 12
 rotate_left
 ·have hdI : ¬ d ≤ 12 := hd
  go_wp2
  go_ret
  exact ⟨_, rfl, HX2.out⟩
 go_wp2_with fail
 refine (K2.out _ HX2.out).mono ?_
 rintro e w3 ⟨rfl, hx3⟩
 have HX3 := hid (HX2.out.trans hx3)
 clear hx3
 by_cases hz : sizeF f ≤ 300
 rotate_left
 ·have hzI : ¬ (sizeF f : Int) ≤ 300 := by omega
  go_wp2
  go_ret
  exact ⟨_, rfl, HX3.out⟩
 have hzI : (sizeF f : Int) ≤ 300 := by omega
 go_wp2_with fail
 refine (K3.out _ HX3.out).mono ?_
 rintro e w4 ⟨b, rfl, hx4⟩
 have HX4 := hid (HX3.out.trans hx4)
 clear hx4
 go_wp2
 go_ret
 exact ⟨_, rfl, HX4.out⟩
end Go.Proofs.YtiijdojihleggaaGreatDoor
namespace Go.Proofs.YtiijdojihleggaaGreatDoor
open Go.ChangeShapes Go.WideShapes Go.ChangeAt Go.RowKit
theorem witness_row_shaped {H : Type} {enc : TypeId × Value → H} {C : Checked} {os : Os} {f : FuncId} {fn : Func} {s : OpenSpec} {conds : List PathCond} {apart : Bool} {laid : List (String × DataW Unit)} (modest : Bool) (w0 : World) (args : Array Value) (hos : w0.os = os)
 (hsh : (w0.forCall (fun _ _ => 0) ⟨#[], args, []⟩).Shaped C.prog)
 (hok : Input.okWideB C.prog (w0.forCall (fun _ _ => 0) ⟨#[], args, []⟩) f ⟨#[], args, []⟩ = true)
 (hrow : s.preRow enc C.prog fn conds apart laid (w0.forCall (fun _ _ => 0) ⟨#[], args, []⟩).memory args) :
 ∃ (w : World) (tape : Tape) (i : Input), w.os = os ∧ (w.forCall tape i).Shaped C.prog ∧ i.vars = [] ∧ Input.okWide C.prog (w.forCall tape i) .any w.heap.size f i ∧
   s.preRow enc C.prog fn conds apart laid (w.forCall tape i).memory i.args ∧ ({ modest := modest } : Assume).holds C.prog (lone (Frame.enter C.prog f i.args .normal) [] (w.forCall tape i)) :=
 ⟨w0, fun _ _ => 0, ⟨#[], args, []⟩, hos, hsh, (Input.okWide_of_okWideB (base := 0) hok).1, (Input.okWide_of_okWideB hok).2, hrow, by
  simp only [Assume.holds]
  exact ⟨by simp, by simp, fun _ => Modest.zero, by simp, by simp⟩⟩
theorem one_le {H : Type} (d : DataW H) : 1 ≤ Rows.uptoBulk d := by
 cases d with
 | lit l => cases l <;> simp [Rows.uptoBulk]
 | nil => simp [Rows.uptoBulk]
 | ptr d => simp [Rows.uptoBulk]
 | slice elems spare => simp [Rows.uptoBulk]
 | agg parts => simp [Rows.uptoBulk]
 | iface t d => simp [Rows.uptoBulk]
 | map entries => simp [Rows.uptoBulk]
 | held h => simp [Rows.uptoBulk]
theorem part_le {H : Type} {d : DataW H} {l : List (DataW H)} (h : d ∈ l) : Rows.uptoBulk d ≤ Rows.uptoBulkAll l := by
 induction l with
 | nil => cases h
 | cons x r ih =>
   simp only [Rows.uptoBulkAll]
   cases List.mem_cons.1 h with
   | inl e => subst e; omega
   | inr e => have := ih e; omega
theorem length_le {H : Type} (l : List (DataW H)) : l.length ≤ Rows.uptoBulkAll l := by
 induction l with
 | nil => simp [Rows.uptoBulkAll]
 | cons x r ih => have := one_le x; simp only [Rows.uptoBulkAll, List.length_cons]; omega
section
variable {H : Type} {enc : TypeId × Value → H}
end
end Go.Proofs.YtiijdojihleggaaGreatDoor
namespace Go.Proofs.YtiijdojihleggaaGreatDoor
open Go.ChangeShapes Go.WideShapes Go.ChangeAt Go.RowKit
section
variable {H : Type} {enc : TypeId × Value → H} {P : Program}
theorem open_rowU {t e : TypeId} {m fuel : Nat} {W : World} {v : Value} {x : DataW H × List MemPlace} (ht : P.underlying t = some (.slice e)) (hm : P.cellsOf e = m) (hm0 : 0 < m)
 (hv : ∃ A n c, v = .slice A n c) (hf : DataW.trod enc P W 0 (fun _ => true) true fuel t v.cells.toList = some x) :
 ∃ (A : Option Addr) (n c : Nat) (L : List (List Value × DataW H)), v = .slice A n c ∧ n ≤ c ∧ c ≤ maxLen ∧ L.length = n ∧ SlN W A n m (L.flatMap (·.1)) ∧
   (∀ y ∈ L, ∃ (k : Nat) (z : DataW H × List MemPlace), k < fuel ∧ DataW.trod enc P W 0 (fun _ => true) true k e y.1 = some z ∧ z.1 = y.2) ∧ Rows.uptoBulkAll (L.map (·.2)) + 1 ≤ Rows.uptoBulk x.1 := by
 obtain ⟨A, n, c, rfl⟩ := hv
 rcases DataW.trod_slice ht hf with ⟨hcs, hx⟩ | ⟨a, len, cap, elems, rest, k, hk, hcs, hd, _, hl, hmx, hlen, hel, _, _⟩
 ·simp [Value.cells] at hcs
  obtain ⟨rfl, rfl, rfl⟩ := hcs
  subst hx
  exact ⟨none, 0, 0, [], rfl, Nat.le_refl _, Nat.zero_le _, rfl, SlN.nil _ _ _, by simp, by simp [Rows.uptoBulkAll, Rows.uptoBulk]⟩
 ·simp [Value.cells] at hcs
  obtain ⟨rfl, rfl, rfl⟩ := hcs
  subst hd
  let f : Nat → List Value := fun i => (List.range m).map fun r => (W.cell? ((a.add (i * m)).add r)).getD undef
  have hfl : ∀ i, (f i).length = m := fun i => by simp [f]
  have each : ∀ i, i < n → W.cells? 0 (a.add (i * m)) m = some (f i) ∧ (∀ r, r < m → W.cell? ((a.add (i * m)).add r) = (f i)[r]?) := by
   intro i hi
   have h1 := hel i hi
   rw [List.getElem?_eq_getElem (by omega), hm, Option.bind_eq_some_iff] at h1
   obtain ⟨cs', h2, _⟩ := h1
   obtain ⟨_, h7, h8⟩ := World.cells?_some h2
   have hcs : cs' = f i := by
    apply List.ext_getElem?
    intro r
    by_cases hr : r < m
    ·have h9 := h8 r hr
     have hfr : (f i)[r]? = some ((W.cell? ((a.add (i * m)).add r)).getD undef) := by simp [f, hr]
     rw [hfr, h9]
     rw [List.getElem?_eq_getElem (by omega)]
     rfl
    ·rw [List.getElem?_eq_none (by omega), List.getElem?_eq_none (by rw [hfl]; omega)]
   rw [← hcs]
   exact ⟨h2, fun r hr => h8 r hr⟩
  have hL1 : ((List.range n).map fun i => (f i, (elems.map (·.1)).getD i .nil)).flatMap (·.1) = (List.range n).flatMap f := by rw [List.flatMap_map]
  have hL2 : ((List.range n).map fun i => (f i, (elems.map (·.1)).getD i .nil)).map (·.2) = elems.map (·.1) := by
   rw [List.map_map]
   apply List.ext_getElem?
   intro i
   by_cases hi : i < n
   ·rw [List.getElem?_map, List.getElem?_range hi]
    simp only [Option.map_some, Function.comp]
    rw [List.getElem?_eq_getElem (by rw [List.length_map]; omega), List.getD_eq_getElem?_getD, List.getElem?_eq_getElem (by rw [List.length_map]; omega)]
    rfl
   ·rw [List.getElem?_eq_none (by simp; omega), List.getElem?_eq_none (by simp; omega)]
  refine ⟨some a, n, c, (List.range n).map fun i => (f i, (elems.map (·.1)).getD i .nil), rfl, hl, hmx, by simp, ?_, ?_, ?_⟩
  ·rw [hL1]
   refine ⟨?_, ?_⟩
   ·rw [flat_len f m hfl, List.length_range]
   ·intro j u hu
    have hjl : j < ((List.range n).flatMap f).length := (List.getElem?_eq_some_iff.1 hu).1
    rw [flat_len f m hfl, List.length_range] at hjl
    have hq : j / m < n := Nat.div_lt_of_lt_mul (by rw [Nat.mul_comm]; exact hjl)
    have hr : j % m < m := Nat.mod_lt _ hm0
    have hj : j / m * m + j % m = j := by rw [Nat.mul_comm]; exact Nat.div_add_mod j m
    have hg := flat_get f m hfl (List.range n) (j / m) (j % m) (j / m) (by rw [List.getElem?_range hq]) hr
    rw [hj, hu] at hg
    have hc := (each (j / m) hq).2 (j % m) hr
    rw [← hg] at hc
    obtain ⟨b, o, sp⟩ := a
    have hs : sp = none := by
     have hz := (each 0 (Nat.lt_of_le_of_lt (Nat.zero_le _) hq)).2 0 hm0
     rw [Nat.zero_mul] at hz
     have hz' : W.cell? ⟨b, o, sp⟩ = (f 0)[0]? := by simpa [Addr.add] using hz
     rw [List.getElem?_eq_getElem (by rw [hfl]; exact hm0)] at hz'
     exact World.cell?_spot hz'
    subst hs
    rw [add_none, add_none] at hc
    refine ⟨b, o, rfl, World.block_lt_of_cell? W _ hc, ?_⟩
    rw [show o + j = o + j / m * m + j % m from by rw [Nat.add_assoc, hj]]
    exact hc
  ·intro y hy
   obtain ⟨i, hi, rfl⟩ := List.mem_map.1 hy
   have hin : i < n := List.mem_range.1 hi
   have h1 := hel i hin
   rw [List.getElem?_eq_getElem (by omega), hm, (each i hin).1] at h1
   refine ⟨k, _, by omega, h1, ?_⟩
   show _ = (elems.map (·.1)).getD i .nil
   rw [List.getD_eq_getElem?_getD, List.getElem?_eq_getElem (by rw [List.length_map]; omega), List.getElem_map]
   rfl
  ·rw [hL2]
   simp only [Rows.uptoBulk]
   omega
end
abbrev anyW : Nat → Prop := fun _ => True
def PartOK (W : World) (cs : List Value) (B : Nat) : Prop := ∃ (k : Int) (t n s : By) (fa pa : F) (Ac : Option Addr) (cc : Nat) (Ap : Option Addr) (cp : Nat) (ds ps : List Value),
 cs = [.int .i64 k, .string ⟨t.toArray⟩, .string ⟨n.toArray⟩, .string ⟨s.toArray⟩, .slice Ac fa.len cc, .slice Ap pa.len cp] ∧ (SlN W Ac fa.len 2 ds ∧ Cw W anyW fa ds) ∧ (SlN W Ap pa.len 6 ps ∧ Fw W anyW pa ps) ∧
 n.length ≤ 1048576 ∧ s.length ≤ 1048576 ∧ CanC fa ∧ Can pa ∧ 2 * t.length + 2 * n.length + s.length + 20 + wt fa + wt pa ≤ 20 * B
def CaseOK (W : World) (cs : List Value) (B : Nat) : Prop := ∃ (n : By) (pa : F) (Ap : Option Addr) (cp : Nat) (ps : List Value),
 cs = [.string ⟨n.toArray⟩, .slice Ap pa.len cp] ∧ (SlN W Ap pa.len 6 ps ∧ Fw W anyW pa ps) ∧ n.length ≤ 1048576 ∧ Can pa ∧ 2 * n.length + 20 + wt pa ≤ 20 * B
section
variable {H : Type} {enc : TypeId × Value → H}
theorem asm_parts {W : World} : ∀ L : List (List Value × DataW H), (∀ y ∈ L, PartOK W y.1 (Rows.uptoBulk y.2)) → ∃ f : F, f.len = L.length ∧ Fw W anyW f (L.flatMap (·.1)) ∧ Can f ∧ wt f ≤ 20 * Rows.uptoBulkAll (L.map (·.2))
 | [], _ => ⟨.nil, rfl, by rw [Fw]; rfl, by rw [Can]; trivial, by rw [wt]; exact Nat.zero_le _⟩
 | y :: L, h => by
   obtain ⟨f, h1, h2, h3, h4⟩ := asm_parts L (fun z hz => h z (List.mem_cons_of_mem _ hz))
   obtain ⟨k, t, n, s, fa, pa, Ac, cc, Ap, cp, ds, ps, e, ⟨a1, a2⟩, ⟨b1, b2⟩, hn, hs, hca, hpa, hw⟩ := h y List.mem_cons_self
   refine ⟨.cons k t n s fa pa f, by rw [F.len, h1]; rfl, ?_, ?_, ?_⟩
   ·rw [Fw, List.flatMap_cons, e]
    exact ⟨Ac, cc, Ap, cp, ds, ps, _, rfl, ⟨a1, fun _ _ _ => trivial, a2⟩, ⟨b1, fun _ _ _ => trivial, b2⟩, h2⟩
   ·rw [Can]
    exact ⟨hn, hs, hca, hpa, h3⟩
   ·rw [wt, List.map_cons, Rows.uptoBulkAll]
    omega
theorem asm_cases {W : World} : ∀ L : List (List Value × DataW H), (∀ y ∈ L, CaseOK W y.1 (Rows.uptoBulk y.2)) → ∃ f : F, f.len = L.length ∧ Cw W anyW f (L.flatMap (·.1)) ∧ CanC f ∧ wt f ≤ 20 * Rows.uptoBulkAll (L.map (·.2))
 | [], _ => ⟨.nil, rfl, by rw [Cw]; rfl, by rw [CanC]; trivial, by rw [wt]; exact Nat.zero_le _⟩
 | y :: L, h => by
   obtain ⟨f, h1, h2, h3, h4⟩ := asm_cases L (fun z hz => h z (List.mem_cons_of_mem _ hz))
   obtain ⟨n, pa, Ap, cp, ps, e, ⟨b1, b2⟩, hn, hpa, hw⟩ := h y List.mem_cons_self
   refine ⟨.cons 0 [] n [] .nil pa f, by rw [F.len, h1]; rfl, ?_, ?_, ?_⟩
   ·rw [Cw, List.flatMap_cons, e]
    exact ⟨Ap, cp, ps, _, rfl, ⟨b1, fun _ _ _ => trivial, b2⟩, h2⟩
   ·rw [CanC]
    exact ⟨rfl, rfl, rfl, rfl, hn, hpa, h3⟩
   ·rw [wt, List.map_cons, Rows.uptoBulkAll, wt]
    simp only [List.length_nil]
    omega
theorem ba_back (b : ByteArray) : b = ⟨b.data.toList.toArray⟩ := by simp
set_option maxHeartbeats 2000000 in
theorem open_all {W : World} : ∀ fuel : Nat,
 (∀ (v : Value) (x : DataW H × List MemPlace), (∃ A n c, v = .slice A n c) → DataW.trod enc Tryz.prog W 0 (fun _ => true) true fuel 47 v.cells.toList = some x → Rows.uptoBulk x.1 ≤ 1048576 →
  ∃ f, FwS W anyW f v ∧ Can f ∧ wt f + 20 ≤ 20 * Rows.uptoBulk x.1 ∧ ∀ A n c, v = .slice A n c → n ≤ c) ∧
 (∀ (v : Value) (x : DataW H × List MemPlace), (∃ A n c, v = .slice A n c) → DataW.trod enc Tryz.prog W 0 (fun _ => true) true fuel 94 v.cells.toList = some x → Rows.uptoBulk x.1 ≤ 1048576 →
  ∃ f, CwS W anyW f v ∧ CanC f ∧ wt f + 20 ≤ 20 * Rows.uptoBulk x.1) := by
 intro fuel
 induction fuel using Nat.strongRecOn with
 | _ fuel ih =>
 have hc9 : Tryz.prog.cellsOf 9 = 1 := by kernel_rfl
 have hc3 : Tryz.prog.cellsOf 3 = 1 := by kernel_rfl
 have hcP : Tryz.prog.cellsOf 96 = 6 := by kernel_rfl
 have hcC : Tryz.prog.cellsOf 106 = 2 := by kernel_rfl
 have hcs1 : Tryz.prog.cellsOf 47 = 1 := by kernel_rfl
 have hcs2 : Tryz.prog.cellsOf 94 = 1 := by kernel_rfl
 refine ⟨fun v x hv hf hb => ?_, fun v x hv hf hb => ?_⟩
 ·obtain ⟨A, n, c, L, rfl, hnc, hcm, hL, hsl, hall, hbulk⟩ := open_rowU (m := 6) Tryz.underlying47 hcP (by decide) hv hf
  have key : ∀ y ∈ L, PartOK W y.1 (Rows.uptoBulk y.2) := by
   intro y hy
   obtain ⟨k, z, hk, hz, hzy⟩ := hall y hy
   have hyb : Rows.uptoBulk y.2 ≤ 1048576 := by
    have h1 := part_le (H := H) (d := y.2) (l := L.map (·.2)) (List.mem_map.2 ⟨y, hy, rfl⟩)
    omega
   obtain ⟨xs, m, hkm, hxe, hl, hlen, hff⟩ := DataW.trod_struct Tryz.underlying96 hz
   have hl6 : y.1.length = 6 := hl.trans hcP
   obtain ⟨cs, dy⟩ := y
   simp only at hl6 hzy hyb hff ⊢
   match cs, hl6 with
   | [c0, c1, c2, c3, c4, c5], _ =>
     match xs, hlen with
     | [x0, x1, x2, x3, x4, x5], _ =>
       have f0 := hff 0 _ rfl
       have f1 := hff 1 _ rfl
       have f2 := hff 2 _ rfl
       have f3 := hff 3 _ rfl
       have f4 := hff 4 _ rfl
       have f5 := hff 5 _ rfl
       simp [hc9, hc3, hcs1, hcs2] at f0 f1 f2 f3 f4 f5
       obtain ⟨i0, r0, _, w0⟩ := DataW.trod_int Tryz.underlying3 f0
       obtain ⟨b1, e1, z1, _⟩ := DataW.trod_string Tryz.underlying9 f1
       obtain ⟨b2, e2, z2, _⟩ := DataW.trod_string Tryz.underlying9 f2
       obtain ⟨b3, e3, z3, _⟩ := DataW.trod_string Tryz.underlying9 f3
       obtain ⟨A4, n4, d4, q4, _, _⟩ := open_sl Tryz.underlying94 f4
       obtain ⟨A5, n5, d5, q5, _, _⟩ := open_sl Tryz.underlying47 f5
       simp at r0 e1 e2 e3 q4 q5
       subst r0 e1 e2 e3 q4 q5
       have hd : dy = .agg [x0.1, x1.1, x2.1, x3.1, x4.1, x5.1] := by rw [← hzy, hxe]; rfl
       have hbd : Rows.uptoBulk dy = Rows.uptoBulk x0.1 + (b1.data.toList.length + 1) + (b2.data.toList.length + 1) + (b3.data.toList.length + 1) + Rows.uptoBulk x4.1 + Rows.uptoBulk x5.1 + 1 := by
        rw [hd, z1, z2, z3]
        simp only [Rows.uptoBulk, Rows.uptoBulkAll]
        omega
       obtain ⟨fa, ⟨A4', d4', ds, ev4, a1, _, a2⟩, hca, hwa⟩ := (ih m (by omega)).2 (.slice A4 n4 d4) x4 ⟨_, _, _, rfl⟩ f4 (by omega)
       obtain ⟨pa, ⟨A5', d5', ps, ev5, p1, _, p2⟩, hpa, hwp, _⟩ := (ih m (by omega)).1 (.slice A5 n5 d5) x5 ⟨_, _, _, rfl⟩ f5 (by omega)
       injection ev4 with g1 g2 g3
       injection ev5 with h1 h2 h3
       subst g1 g2 g3 h1 h2 h3
       refine ⟨i0, b1.data.toList, b2.data.toList, b3.data.toList, fa, pa, A4, d4, A5, d5, ds, ps, ?_, ⟨a1, a2⟩, ⟨p1, p2⟩, by omega, by omega, hca, hpa, by omega⟩
       rw [← ba_back, ← ba_back, ← ba_back]
  obtain ⟨f, h1, h2, h3, h4⟩ := asm_parts L key
  have hfl : f.len = n := h1.trans hL
  subst hfl
  refine ⟨f, ⟨A, c, _, rfl, hsl, fun _ _ _ => trivial, h2⟩, h3, by omega, fun A' n' c' e => ?_⟩
  injection e with _ e1 e2
  omega
 ·obtain ⟨A, n, c, L, rfl, hnc, hcm, hL, hsl, hall, hbulk⟩ := open_rowU (m := 2) Tryz.underlying94 hcC (by decide) hv hf
  have key : ∀ y ∈ L, CaseOK W y.1 (Rows.uptoBulk y.2) := by
   intro y hy
   obtain ⟨k, z, hk, hz, hzy⟩ := hall y hy
   have hyb : Rows.uptoBulk y.2 ≤ 1048576 := by
    have h1 := part_le (H := H) (d := y.2) (l := L.map (·.2)) (List.mem_map.2 ⟨y, hy, rfl⟩)
    omega
   obtain ⟨xs, m, hkm, hxe, hl, hlen, hff⟩ := DataW.trod_struct Tryz.underlying106 hz
   have hl2 : y.1.length = 2 := hl.trans hcC
   obtain ⟨cs, dy⟩ := y
   simp only at hl2 hzy hyb hff ⊢
   match cs, hl2 with
   | [c0, c1], _ =>
     match xs, hlen with
     | [x0, x1], _ =>
       have f0 := hff 0 _ rfl
       have f1 := hff 1 _ rfl
       simp [hc9, hcs1] at f0 f1
       obtain ⟨b0, e0, z0, _⟩ := DataW.trod_string Tryz.underlying9 f0
       obtain ⟨A5, n5, d5, q5, _, _⟩ := open_sl Tryz.underlying47 f1
       simp at e0 q5
       subst e0 q5
       have hd : dy = .agg [x0.1, x1.1] := by rw [← hzy, hxe]; rfl
       have hbd : Rows.uptoBulk dy = (b0.data.toList.length + 1) + Rows.uptoBulk x1.1 + 1 := by
        rw [hd, z0]
        simp only [Rows.uptoBulk, Rows.uptoBulkAll]
        omega
       obtain ⟨pa, ⟨A5', d5', ps, ev5, p1, _, p2⟩, hpa, hwp, _⟩ := (ih m (by omega)).1 (.slice A5 n5 d5) x1 ⟨_, _, _, rfl⟩ f1 (by omega)
       injection ev5 with h1 h2 h3
       subst h1 h2 h3
       refine ⟨b0.data.toList, pa, A5, d5, ps, ?_, ⟨p1, p2⟩, by omega, hpa, by omega⟩
       rw [← ba_back]
  obtain ⟨f, h1, h2, h3, h4⟩ := asm_cases L key
  have hfl : f.len = n := h1.trans hL
  subst hfl
  exact ⟨f, ⟨A, c, _, rfl, hsl, fun _ _ _ => trivial, h2⟩, h3, by omega⟩
theorem open_parts {W : World} {v : Value} {d : DataW H} {ps : List MemPlace} (hv : ∃ A n c, v = .slice A n c) (h : DataW.Trod enc Tryz.prog W 0 (fun _ => true) true 47 v d ps) (hb : Rows.uptoBulk d ≤ 1048576) :
 ∃ f, FwS W anyW f v ∧ Can f ∧ wt f ≤ 20971520 ∧ ∀ A n c, v = .slice A n c → n ≤ c := by
 obtain ⟨fuel, hf⟩ := h
 obtain ⟨f, h1, h2, h3, h4⟩ := (open_all fuel).1 v _ hv hf hb
 exact ⟨f, h1, h2, by have : Rows.uptoBulk d ≤ 1048576 := hb; simp only at h3; omega, h4⟩
end
end Go.Proofs.YtiijdojihleggaaGreatDoor
