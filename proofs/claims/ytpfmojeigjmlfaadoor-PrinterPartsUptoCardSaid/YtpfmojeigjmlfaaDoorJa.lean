import Derived.Test.YtpfmojeigjmlfaaDoorNP2
import Derived.Test.YtpfmojeigjmlfaaDoorGb
import Derived.Test.YtpfmojeigjmlfaaDoorNB1
namespace Go.Proofs.YtpfmojeigjmlfaaDoor
open Go.RowKit
set_option linter.unusedSimpArgs false
set_option linter.unusedVariables false

/-! Which parts are few, by the reference: each of these answers; how great a message is. -/
theorem flJ_nodes : ∀ f : F, f.len ≤ f.nodes := by
  intro f
  induction f with
  | nil => exact Nat.le_refl _
  | cons k t n s c p r _ _ ih => rw [F.len, F.nodes]; omega
def RetInt (w : World) (e : Ending) (w' : World) : Prop := ∃ n : Int, e = .returned (.int .i64 n) ∧ Ext w w'
def RetBo (w : World) (e : Ending) (w' : World) : Prop := ∃ b : Bool, e = .returned (.bool b) ∧ Ext w w'
def sizeF : F → Nat
  | .nil => 0
  | .cons k t n s ca pa r => 1 + sizeF pa + t.length / 20 + sizeF ca + sizeF r
theorem size_wt : ∀ f : F, sizeF f * 20 ≤ wt f
  | .nil => Nat.le_refl _
  | .cons k t n s ca pa r => by
    have h1 := size_wt ca
    have h2 := size_wt pa
    have h3 := size_wt r
    rw [sizeF, wt]
    omega
def DpH (N : Nat) : Prop := ∀ (f : F) (v : Value) (ok : Nat → Prop) (w : World), f.nodes < N → N ≤ 1000000000 → FwS w ok f v → Calls Tryd.prog 10 #[v] w (RetInt w)
def DpI (w : World) (n : Nat) (m i : Value) (wr : World) : Prop := ∃ (j : Nat) (x : Int), j ≤ n ∧ i = .int .i64 j ∧ m = .int .i64 x ∧ Ext w wr
set_option maxHeartbeats 4000000 in
set_option maxRecDepth 100000 in
theorem depth_step (N : Nat) (hN : DpH N) : DpH (N + 1) := by
  intro f v ok w hnd hNN hF
  obtain ⟨A, c, rfl⟩ := hF.val
  have hfl : f.len ≤ 1000000000 := by have := flJ_nodes f; omega
  have HF := Lib.hid hF
  have HND := Lib.hid hnd
  have HNN := Lib.hid hNN
  clear hF hnd hNN
  go_enter Tryd.func10, Tryd.ntmps10
  go_wp2_with fail
  go_loopw [3, 4] (DpI w f.len) (fun _ i _ => f.len - (intOf i).toNat)
  case atStart => exact ⟨0, 0, Nat.zero_le _, rfl, rfl, Ext.refl w⟩
  case round =>
    obtain ⟨j, x, hj, rfl, rfl, hw⟩ := hrel
    obtain ⟨wo, rfl⟩ : ∃ wo : World, wo = wr := ⟨_, rfl⟩
    have HW := Lib.hid hw
    by_cases hjl : j < f.len
    rotate_left
    · have hjI : ¬ (j : Int) < (f.len : Int) := by omega
      clear hw
      go_wp2
      go_ret
      exact ⟨_, rfl, HW.out⟩
    have hjI : (j : Int) < (f.len : Int) := by omega
    obtain ⟨b, o, cc0, k, t, n, s, ca, pa, Ac, cc, Ap, cp, hv, hbw, _, hdr, c0, c1, c2, c3, c4, c5, hCA, hPA⟩ := (HF.out.ext hw).at_ hjl
    injection hv with hA _ hcc
    subst hA hcc
    have hnd2 : ca.nodes < N ∧ pa.nodes < N := by have h1 := fdrop_nodes f j; rw [hdr, F.nodes] at h1; have := HND.out; constructor <;> omega
    have hcl : ca.len ≤ 1000000000 := by have := flJ_nodes ca; have := HNN.out; omega
    have KP := Lib.hid (hN pa _ ok wo hnd2.2 (by have := HNN.out; omega) hPA)
    have HCA := Lib.hid hCA
    have HCN := Lib.hid hnd2.1
    clear hw hPA hCA hnd2 hdr
    go_wp2_with fail
    refine KP.out.mono ?_
    rintro e w2 ⟨dn, rfl, hx2⟩
    have HX2 := Lib.hid hx2
    have e4 := (Ext.cell hx2 (World.block_lt_of_cell? _ _ c4)).trans c4
    have HE4 := Lib.hid e4
    clear hx2 KP c0 c1 c2 c3 c4 c5
    go_wp2_with fail
    all_goals
      go_loopw [3, 5] (DpI w2 ca.len) (fun _ i _ => ca.len - (intOf i).toNat)
      case atStart => exact ⟨0, _, Nat.zero_le _, rfl, rfl, Ext.refl w2⟩
      case round =>
        obtain ⟨i, x2, hi, rfl, rfl, hw⟩ := hrel
        have HW2 := Lib.hid hw
        have p4 := (Ext.cell hw (World.block_lt_of_cell? _ _ HE4.out)).trans HE4.out
        by_cases hil : i < ca.len
        rotate_left
        · have hiI : ¬ (i : Int) < (ca.len : Int) := by omega
          clear hw
          go_wp2
          exact ⟨⟨j + 1, _, hjl, by go_num, rfl, HW.out.trans (HX2.out.trans HW2.out)⟩, by simp [intOf]; omega⟩
        have hiI : (i : Int) < (ca.len : Int) := by omega
        obtain ⟨b', o', cc', k', t', n', s', ca', pa', Ap', cp', hv', hbw', _, hdr', d0, d1, hPA'⟩ := (HCA.out.ext (HX2.out.trans hw)).at_ hil
        injection hv' with hA' _ hcc'
        subst hA' hcc'
        have hnd' : pa'.nodes < N := by have h1 := fdrop_nodes ca i; rw [hdr', F.nodes] at h1; have := HCN.out; omega
        have KP := Lib.hid (hN pa' _ ok wr hnd' (by have := HNN.out; omega) hPA')
        clear hw hPA' hnd' hdr'
        go_wp2_with fail
        refine KP.out.mono ?_
        rintro e w3 ⟨dn3, rfl, hx3⟩
        have HX3 := Lib.hid (HW2.out.trans hx3)
        clear hx3 KP
        go_wp2
        exact ⟨⟨i + 1, _, hil, by go_num, rfl, HX3.out⟩, by simp [intOf]; omega⟩
theorem depth_all : ∀ N, DpH N
  | 0 => fun f v ok w h => absurd h (Nat.not_lt_zero _)
  | N + 1 => depth_step N (depth_all N)
def ShH (N : Nat) : Prop := ∀ (f : F) (v : Value) (ok : Nat → Prop) (w : World), f.nodes < N → N ≤ 1000000000 → FwS w ok f v → Calls Tryd.prog 12 #[v] w (RetBo w)
def ShI (w : World) (n : Nat) (i : Value) (wr : World) : Prop := ∃ j : Nat, j ≤ n ∧ i = .int .i64 j ∧ Ext w wr
set_option maxHeartbeats 4000000 in
set_option maxRecDepth 100000 in
theorem short_step (N : Nat) (hN : ShH N) : ShH (N + 1) := by
  intro f v ok w hnd hNN hF
  obtain ⟨A, c, rfl⟩ := hF.val
  have hfl : f.len ≤ 1000000000 := by have := flJ_nodes f; omega
  have HF := Lib.hid hF
  have HND := Lib.hid hnd
  have HNN := Lib.hid hNN
  clear hF hnd hNN
  go_enter Tryd.func12, Tryd.ntmps12
  go_wp2_with fail
  go_loopw [3] (ShI w f.len) (fun i _ => f.len - (intOf i).toNat)
  case atStart => exact ⟨0, Nat.zero_le _, rfl, Ext.refl w⟩
  case round =>
    obtain ⟨j, hj, rfl, hw⟩ := hrel
    obtain ⟨wo, rfl⟩ : ∃ wo : World, wo = wr := ⟨_, rfl⟩
    have HW := Lib.hid hw
    by_cases hjl : j < f.len
    rotate_left
    · have hjI : ¬ (j : Int) < (f.len : Int) := by omega
      clear hw
      go_wp2
      go_ret
      exact ⟨_, rfl, HW.out⟩
    have hjI : (j : Int) < (f.len : Int) := by omega
    obtain ⟨b, o, cc0, k, t, n, s, ca, pa, Ac, cc, Ap, cp, hv, hbw, _, hdr, c0, c1, c2, c3, c4, c5, hCA, hPA⟩ := (HF.out.ext hw).at_ hjl
    injection hv with hA _ hcc
    subst hA hcc
    have hnd2 : ca.nodes < N ∧ pa.nodes < N := by have h1 := fdrop_nodes f j; rw [hdr, F.nodes] at h1; have := HND.out; constructor <;> omega
    have hcl : ca.len ≤ 1000000000 := by have := flJ_nodes ca; have := HNN.out; omega
    have KP := Lib.hid (hN pa _ ok wo hnd2.2 (by have := HNN.out; omega) hPA)
    have HCA := Lib.hid hCA
    have HCN := Lib.hid hnd2.1
    clear hw hPA hCA hnd2 hdr
    by_cases hn6 : 60 < n.length
    · have hn6I : (60 : Int) < (n.length : Int) := by omega
      go_wp2
      go_ret
      exact ⟨_, rfl, HW.out⟩
    have hn6I : ¬ (60 : Int) < (n.length : Int) := by omega
    by_cases hs6 : 60 < s.length
    · have hs6I : (60 : Int) < (s.length : Int) := by omega
      go_wp2
      go_ret
      exact ⟨_, rfl, HW.out⟩
    have hs6I : ¬ (60 : Int) < (s.length : Int) := by omega
    go_wp2_with fail
    refine KP.out.mono ?_
    rintro e w2 ⟨bb, rfl, hx2⟩
    have HX2 := Lib.hid hx2
    have e4 := (Ext.cell hx2 (World.block_lt_of_cell? _ _ c4)).trans c4
    have HE4 := Lib.hid e4
    clear hx2 KP c0 c1 c2 c3 c4 c5
    cases bb
    · go_wp2
      go_ret
      exact ⟨_, rfl, HW.out.trans HX2.out⟩
    go_wp2_with fail
    go_loopw [4] (ShI w2 ca.len) (fun i _ => ca.len - (intOf i).toNat)
    case atStart => exact ⟨0, Nat.zero_le _, rfl, Ext.refl w2⟩
    case round =>
      obtain ⟨i, hi, rfl, hw⟩ := hrel
      have HW2 := Lib.hid hw
      have p4 := (Ext.cell hw (World.block_lt_of_cell? _ _ HE4.out)).trans HE4.out
      by_cases hil : i < ca.len
      rotate_left
      · have hiI : ¬ (i : Int) < (ca.len : Int) := by omega
        clear hw
        go_wp2
        exact ⟨⟨j + 1, hjl, by go_num, HW.out.trans (HX2.out.trans HW2.out)⟩, by simp [intOf]; omega⟩
      have hiI : (i : Int) < (ca.len : Int) := by omega
      obtain ⟨b', o', cc', k', t', n', s', ca', pa', Ap', cp', hv', hbw', _, hdr', d0, d1, hPA'⟩ := (HCA.out.ext (HX2.out.trans hw)).at_ hil
      injection hv' with hA' _ hcc'
      subst hA' hcc'
      have hnd' : pa'.nodes < N := by have h1 := fdrop_nodes ca i; rw [hdr', F.nodes] at h1; have := HCN.out; omega
      have KP := Lib.hid (hN pa' _ ok wr hnd' (by have := HNN.out; omega) hPA')
      clear hw hPA' hnd' hdr'
      by_cases hn7 : 60 < n'.length
      · have hn7I : (60 : Int) < (n'.length : Int) := by omega
        go_wp2
        go_ret
        exact ⟨_, rfl, HW.out.trans (HX2.out.trans HW2.out)⟩
      have hn7I : ¬ (60 : Int) < (n'.length : Int) := by omega
      go_wp2_with fail
      refine KP.out.mono ?_
      rintro e w3 ⟨b3, rfl, hx3⟩
      have HX3 := Lib.hid (HW2.out.trans hx3)
      clear hx3 KP
      cases b3
      · go_wp2
        go_ret
        exact ⟨_, rfl, HW.out.trans (HX2.out.trans HX3.out)⟩
      go_wp2
      exact ⟨⟨i + 1, hil, by go_num, HX3.out⟩, by simp [intOf]; omega⟩
theorem short_all : ∀ N, ShH N
  | 0 => fun f v ok w h => absurd h (Nat.not_lt_zero _)
  | N + 1 => short_step N (short_all N)
def SzH (N : Nat) : Prop := ∀ (f : F) (v : Value) (ok : Nat → Prop) (w : World), f.nodes < N → N ≤ 1000000000 → FwS w ok f v → Can f → wt f ≤ 40000000 → Calls Tryd.prog 11 #[v] w fun e w' => e = .returned (.int .i64 (sizeF f)) ∧ Ext w w'
def SzI (w : World) (f : F) (R : Nat) (m i : Value) (wr : World) : Prop := ∃ (j x : Nat), j ≤ f.len ∧ i = .int .i64 j ∧ m = .int .i64 x ∧ x + sizeF (fdrop f j) = R ∧ Ext w wr
set_option maxHeartbeats 4000000 in
set_option maxRecDepth 100000 in
theorem size_step (N : Nat) (hN : SzH N) : SzH (N + 1) := by
  intro f v ok w hnd hNN hF hcan hwt
  obtain ⟨A, c, rfl⟩ := hF.val
  have hfl : f.len ≤ 1000000000 := by have := flJ_nodes f; omega
  have HF := Lib.hid hF
  have HND := Lib.hid hnd
  have HNN := Lib.hid hNN
  have HCAN := Lib.hid hcan
  clear hF hnd hNN hcan
  have HWT := Lib.hid hwt
  obtain ⟨R, hR⟩ : ∃ R, R = sizeF f := ⟨_, rfl⟩
  have hR2 : R ≤ 2000000 := by have := size_wt f; omega
  rw [← hR]
  have H0 := Lib.hid (show SzI w f R (.int .i64 0) (.int .i64 0) w from ⟨0, 0, Nat.zero_le _, rfl, rfl, by rw [fdrop_zero, hR]; omega, Ext.refl w⟩)
  clear hR hwt
  go_enter Tryd.func11, Tryd.ntmps11
  go_wp2_with fail
  go_loopw [3, 4] (SzI w f R) (fun _ i _ => f.len - (intOf i).toNat)
  case atStart => exact H0.out
  case round =>
    obtain ⟨j, x, hj, rfl, rfl, hs, hw⟩ := hrel
    obtain ⟨wo, rfl⟩ : ∃ wo : World, wo = wr := ⟨_, rfl⟩
    have HW := Lib.hid hw
    by_cases hjl : j < f.len
    rotate_left
    · have hjI : ¬ (j : Int) < (f.len : Int) := by omega
      have hx : x = R := by rw [fdrop_end f j (by omega), sizeF] at hs; omega
      subst hx
      clear hw hs
      go_wp2
      go_ret
      exact ⟨rfl, HW.out⟩
    have hjI : (j : Int) < (f.len : Int) := by omega
    obtain ⟨b, o, cc0, k, t, n, s, ca, pa, Ac, cc, Ap, cp, hv, hbw, _, hdr, c0, c1, c2, c3, c4, c5, hCA, hPA⟩ := (HF.out.ext hw).at_ hjl
    injection hv with hA _ hcc
    subst hA hcc
    have hnd2 : ca.nodes < N ∧ pa.nodes < N := by have h1 := fdrop_nodes f j; rw [hdr, F.nodes] at h1; have := HND.out; constructor <;> omega
    have hcl : ca.len ≤ 1000000000 := by have := flJ_nodes ca; have := HNN.out; omega
    have hcn := (can_drop f j).1 HCAN.out
    rw [hdr, Can] at hcn
    obtain ⟨_, _, hca, hcp, _⟩ := hcn
    have hwd := wt_drop f j hdr
    rw [hdr, sizeF] at hs
    obtain ⟨q, hq⟩ : ∃ q, q = t.length / 20 := ⟨_, rfl⟩
    obtain ⟨S1, hS1⟩ : ∃ S1, S1 = sizeF pa := ⟨_, rfl⟩
    have KP := Lib.hid (fun W (hW : Ext wo W) => hN pa _ ok W hnd2.2 (by have := HNN.out; omega) (hPA.ext hW) hcp (by have := HWT.out; omega))
    rw [← hS1] at KP
    rw [← hS1, ← hq] at hs
    have HS := Lib.hid hs
    have hqw : IntKind.i64.wrap ((t.length : Int).tdiv 20) = (q : Int) := by
      rw [show (t.length : Int).tdiv 20 = (q : Int) from by rw [hq, Int.tdiv_eq_ediv_of_nonneg (by omega)]; omega]
      exact IntWalk.i64_in _ (by have := HWT.out; omega)
    have hxb : x + (1 + S1 + q) ≤ 2000000 := by omega
    have HCA := Lib.hid hCA
    have HCN := Lib.hid hnd2.1
    have HCC := Lib.hid hca
    have HWC := Lib.hid (show wt ca ≤ 40000000 from by have := HWT.out; omega)
    have KPE := Lib.hid (fun y : ExtW wo => KP.out y.v y.h)
    have y1 : ∀ y : ExtW wo, y.v.cell? ⟨b, o + j * 6 + 1, none⟩ = some (.string ⟨t.toArray⟩) := fun y => (Ext.cell y.h (World.block_lt_of_cell? _ _ c1)).trans c1
    have y5 : ∀ y : ExtW wo, y.v.cell? ⟨b, o + j * 6 + 5, none⟩ = some (.slice Ap pa.len cp) := fun y => (Ext.cell y.h (World.block_lt_of_cell? _ _ c5)).trans c5
    have HC4 := Lib.hid c4
    have HQ := Lib.hid hq
    have HTL := Lib.hid (show t.length ≤ 20000000 from by have := HWT.out; omega)
    clear hw hPA hCA hnd2 hdr hwd hs hq hS1 hca hcp hqw
    go_wp2_with fail
    refine wp_region_ext (by kernel_rfl) (by kernel_rfl) ?_
    repeat (go_big_quiet_step ((go_at_call 11; exact ExtW.call (KPE.out _))))
    refine wpQuiet_nil ?_
    intro wx hx
    obtain ⟨y, rfl⟩ := hx
    have hv : wrap64 ((x : Int) + wrap64 (1 + (S1 : Int) + wrap64 ((t.length : Int) / 20))) = ((x + (1 + S1 + q) : Nat) : Int) := by
      have h1 := HQ.out
      have h2 := HTL.out
      have hq1 : (t.length : Int) / 20 = (q : Int) := by rw [h1]; omega
      rw [hq1, IntWalk.wrap64_in (q : Int) (by omega), IntWalk.wrap64_in (1 + (S1 : Int) + (q : Int)) (by omega), IntWalk.wrap64_in ((x : Int) + (1 + (S1 : Int) + (q : Int))) (by omega)]
      omega
    rw [hv]
    have e4 := (Ext.cell y.h (World.block_lt_of_cell? _ _ HC4.out)).trans HC4.out
    have HE4 := Lib.hid e4
    have HX2 := Lib.hid y.h
    obtain ⟨w2, hw2⟩ : ∃ w2, w2 = y.v := ⟨_, rfl⟩
    rw [← hw2] at e4 HE4 HX2 ⊢
    obtain ⟨x1, hx1⟩ : ∃ x1, x1 = x + (1 + S1 + q) := ⟨_, rfl⟩
    rw [← hx1] at hv ⊢
    have HS1 := Lib.hid (show x1 + sizeF ca + sizeF (fdrop f (j + 1)) = R from by have := HS.out; omega)
    have HC0 := Lib.hid (show SzI w2 ca (x1 + sizeF ca) (.int .i64 x1) (.int .i64 0) w2 from ⟨0, x1, Nat.zero_le _, rfl, rfl, by rw [fdrop_zero], Ext.refl w2⟩)
    have hx1b : x1 + sizeF ca ≤ 2000000 := by have := HS.out; omega
    clear hv y1 y5 hx1 hw2
    go_wp2_with fail
    go_loopw [3, 5] (SzI w2 ca (x1 + sizeF ca)) (fun _ i _ => ca.len - (intOf i).toNat)
    case atStart => exact HC0.out
    case round =>
      obtain ⟨i, x2, hi, rfl, rfl, hs2, hw⟩ := hrel
      have HW2 := Lib.hid hw
      have p4 := (Ext.cell hw (World.block_lt_of_cell? _ _ HE4.out)).trans HE4.out
      by_cases hil : i < ca.len
      rotate_left
      · have hiI : ¬ (i : Int) < (ca.len : Int) := by omega
        have hx2 : x2 + sizeF (fdrop f (j + 1)) = R := by rw [fdrop_end ca i (by omega), sizeF] at hs2; have := HS1.out; omega
        have HXX := Lib.hid hx2
        clear hw hs2 hx2
        go_wp2
        exact ⟨⟨j + 1, x2, hjl, by go_num, rfl, HXX.out, HW.out.trans (HX2.out.trans HW2.out)⟩, by simp [intOf]; omega⟩
      have hiI : (i : Int) < (ca.len : Int) := by omega
      obtain ⟨b', o', cc', k', t', n', s', ca', pa', Ap', cp', hv', hbw', _, hdr', d0, d1, hPA'⟩ := (HCA.out.ext (HX2.out.trans hw)).at_ hil
      injection hv' with hA' _ hcc'
      subst hA' hcc'
      have hnd' : pa'.nodes < N := by have h1 := fdrop_nodes ca i; rw [hdr', F.nodes] at h1; have := HCN.out; omega
      have hcn' := (can_drop ca i).2 HCC.out
      rw [hdr', CanC] at hcn'
      obtain ⟨rfl, rfl, rfl, rfl, _, hcp', _⟩ := hcn'
      have hwd' := wt_drop ca i hdr'
      rw [hdr', sizeF] at hs2
      obtain ⟨S2, hS2⟩ : ∃ S2, S2 = sizeF pa' := ⟨_, rfl⟩
      have KP := Lib.hid (hN pa' _ ok wr hnd' (by have := HNN.out; omega) hPA' hcp' (by have := HWC.out; omega))
      rw [← hS2] at KP
      rw [← hS2] at hs2
      have HS2 := Lib.hid (show x2 + (1 + S2) + sizeF (fdrop ca (i + 1)) = x1 + sizeF ca from by rw [← hs2]; simp [sizeF]; omega)
      have hb2 : x2 + (1 + S2) ≤ 2000000 := by have := HS2.out; omega
      clear hw hPA' hnd' hdr' hwd' hs2 hS2 hcp'
      go_wp2_with fail
      refine KP.out.mono ?_
      rintro e w3 ⟨rfl, hx3⟩
      have HX3 := Lib.hid (HW2.out.trans hx3)
      clear hx3 KP
      go_wp2
      exact ⟨⟨i + 1, x2 + (1 + S2), hil, by go_num, by go_num, HS2.out, HX3.out⟩, by simp [intOf]; omega⟩
theorem size_all : ∀ N, SzH N
  | 0 => fun f v ok w h => absurd h (Nat.not_lt_zero _)
  | N + 1 => size_step N (size_all N)
set_option maxHeartbeats 1000000 in
theorem rfew_any {f : F} {v : Value} {ok : Nat → Prop} {w : World} (hf : FwS w ok f v) (hc : Can f) (hw : wt f ≤ 40000000) (hn : f.nodes < 100000000) : Calls Tryd.prog 5 #[v] w (RetBo w) := by
  have K1 := Lib.hid (fun W (hW : Ext w W) => depth_all 100000000 f v ok W hn (by decide) (hf.ext hW))
  have K2 := Lib.hid (fun W (hW : Ext w W) => size_all 100000000 f v ok W hn (by decide) (hf.ext hW) hc hw)
  have K3 := Lib.hid (fun W (hW : Ext w W) => short_all 100000000 f v ok W hn (by decide) (hf.ext hW))
  obtain ⟨A, c, rfl⟩ := hf.val
  clear hf
  go_enter Tryd.func5, Tryd.ntmps5
  go_wp2_with fail
  refine (K1.out _ (Ext.refl w)).mono ?_
  rintro e w2 ⟨d, rfl, hx2⟩
  have HX2 := Lib.hid hx2
  clear hx2
  by_cases hd : d ≤ 12
  rotate_left
  · have hdI : ¬ d ≤ 12 := hd
    go_wp2
    go_ret
    exact ⟨_, rfl, HX2.out⟩
  go_wp2_with fail
  refine (K2.out _ HX2.out).mono ?_
  rintro e w3 ⟨rfl, hx3⟩
  have HX3 := Lib.hid (HX2.out.trans hx3)
  clear hx3
  by_cases hz : sizeF f ≤ 300
  rotate_left
  · have hzI : ¬ (sizeF f : Int) ≤ 300 := by omega
    go_wp2
    go_ret
    exact ⟨_, rfl, HX3.out⟩
  have hzI : (sizeF f : Int) ≤ 300 := by omega
  go_wp2_with fail
  refine (K3.out _ HX3.out).mono ?_
  rintro e w4 ⟨b, rfl, hx4⟩
  have HX4 := Lib.hid (HX3.out.trans hx4)
  clear hx4
  go_wp2
  go_ret
  exact ⟨_, rfl, HX4.out⟩
end Go.Proofs.YtpfmojeigjmlfaaDoor
