import Derived.Test.YtpfmojeigjmlfaaDoorNPA
import Derived.Test.YtpfmojeigjmlfaaDoorNP2
namespace Go.Proofs.YtpfmojeigjmlfaaDoor
open Go.RowKit
set_option linter.unusedSimpArgs false
set_option linter.unusedVariables false

/-! Whether the number of a selection occurs, by the reference. -/
theorem rcounted_any (k : Int) (w : World) : Calls Tryd.prog 15 #[.int .i64 k] w fun e w' => e = .returned (.bool (k == 7 || k == 8)) ∧ w = w' := by
  go_enter Tryd.func15, Tryd.ntmps15
  go_wp2
  all_goals (go_ret; exact ⟨ret_bool (by simp_all), rfl⟩)
theorem flen_nodes : ∀ f : F, f.len ≤ f.nodes := by
  intro f
  induction f with
  | nil => exact Nat.le_refl _
  | cons k t n s c p r _ _ ih => rw [F.len, F.nodes]; omega
def CtH (N : Nat) : Prop := ∀ (f : F) (v : Value) (ok : Nat → Prop) (w : World), f.nodes < N → N ≤ 1000000000 → FwS w ok f v → Can f → Calls Tryd.prog 7 #[v] w fun e w' => e = .returned (.bool (countB f)) ∧ Ext w w'
def CtI (w : World) (f : F) (R : Bool) (i : Value) (wr : World) : Prop := ∃ j : Nat, j ≤ f.len ∧ i = .int .i64 j ∧ R = countB (fdrop f j) ∧ Ext w wr
set_option maxHeartbeats 4000000 in
set_option maxRecDepth 100000 in
theorem counts_step (N : Nat) (hN : CtH N) : CtH (N + 1) := by
  intro f v ok w hnd hNN hF hcan
  obtain ⟨A, c, rfl⟩ := hF.val
  have hfl : f.len ≤ 1000000000 := by have := flen_nodes f; omega
  obtain ⟨R, hR⟩ : ∃ R, R = countB f := ⟨_, rfl⟩
  rw [← hR]
  have HF := Lib.hid hF
  have HCAN := Lib.hid hcan
  have HND := Lib.hid hnd
  have HNN := Lib.hid hNN
  have H0 := Lib.hid (show CtI w f R (.int .i64 0) w from ⟨0, Nat.zero_le _, rfl, by rw [fdrop_zero]; exact hR, Ext.refl w⟩)
  clear hF hcan hnd hR hNN
  go_enter Tryd.func7, Tryd.ntmps7
  go_wp2_with fail
  go_loopw [3] (CtI w f R) (fun i _ => f.len - (intOf i).toNat)
  case atStart => exact H0.out
  case round =>
    obtain ⟨j, hj, rfl, hr, hw⟩ := hrel
    obtain ⟨wo, rfl⟩ : ∃ wo : World, wo = wr := ⟨_, rfl⟩
    have HW := Lib.hid hw
    by_cases hjl : j < f.len
    rotate_left
    · have hjI : ¬ (j : Int) < (f.len : Int) := by omega
      have hR1 : R = false := by rw [hr, fdrop_end f j (by omega)]; rfl
      subst hR1
      clear hr hw
      go_wp2
      go_ret
      exact ⟨rfl, HW.out⟩
    have hjI : (j : Int) < (f.len : Int) := by omega
    obtain ⟨b, o, cc0, k, t, n, s, ca, pa, Ac, cc, Ap, cp, hv, hbw, _, hdr, c0, c1, c2, c3, c4, c5, hCA, hPA⟩ := (HF.out.ext hw).at_ hjl
    injection hv with hA _ hcc
    subst hA hcc
    have hcn := (can_drop f j).1 HCAN.out
    rw [hdr, Can] at hcn
    obtain ⟨_, _, hcc, hcp, _⟩ := hcn
    rw [hdr, countB] at hr
    have hnd2 : ca.nodes < N ∧ pa.nodes < N := by have h1 := fdrop_nodes f j; rw [hdr, F.nodes] at h1; have := HND.out; constructor <;> omega
    have KP := Lib.hid (fun W (hW : Ext wo W) => hN pa _ ok W hnd2.2 (by have := HNN.out; omega) (hPA.ext hW) hcp)
    have KD := Lib.hid (fun W => rcounted_any k W)
    obtain ⟨D, hD⟩ : ∃ D, D = (k == 7 || k == 8) := ⟨_, rfl⟩
    obtain ⟨P, hP⟩ : ∃ P, P = countB pa := ⟨_, rfl⟩
    rw [← hD] at KD
    rw [← hP] at KP hr
    rw [show (k != 7 && k != 8) = !D from by rw [hD, bne, bne, Bool.not_or]] at hr
    have hcl : ca.len ≤ 1000000000 := by have := flen_nodes ca; have := HNN.out; omega
    have HCC := Lib.hid hcc
    have HCN := Lib.hid hnd2.1
    have HR := Lib.hid hr
    have HCA := Lib.hid hCA
    have HX1 := Lib.hid ((Ext.refl wo).alloc (.cells #[.int .i64 k, .string ⟨t.toArray⟩, .string ⟨n.toArray⟩, .string ⟨s.toArray⟩, .slice Ac ca.len cc, .slice Ap pa.len cp] 31))
    have HB1 := Lib.hid (AtC.new wo #[.int .i64 k, .string ⟨t.toArray⟩, .string ⟨n.toArray⟩, .string ⟨s.toArray⟩, .slice Ac ca.len cc, .slice Ap pa.len cp] : AtC 31 _ _ _)
    clear hr hw hP hD hCA hPA hcc hcp hnd2 hdr
    cases hk : (k == 10)
    rotate_left
    · have hR1 : R = true := by rw [HR.out, hk]; rfl
      subst hR1
      go_wp2
      go_ret
      exact ⟨rfl, HW.out.trans HX1.out⟩
    have HK := Lib.hid hk
    cases P
    rotate_left
    · have hR1 : R = true := by rw [HR.out, hk]; rfl
      subst hR1
      go_wp2_with fail
      refine (KP.out _ HX1.out).mono ?_
      rintro e w2 ⟨rfl, hx2⟩
      have HX2 := Lib.hid (HW.out.trans (HX1.out.trans hx2))
      clear hx2
      go_wp2
      go_ret
      exact ⟨rfl, HX2.out⟩
    have HR2 := Lib.hid (show R = ((!D && countB ca) || countB (fdrop f (j + 1))) from by rw [HR.out, hk]; simp)
    clear HR
    go_wp2_with fail
    refine (KP.out _ HX1.out).mono ?_
    rintro e w2 ⟨rfl, hx2⟩
    have HX2 := Lib.hid (HX1.out.trans hx2)
    have HB2 := Lib.hid (HB1.out.ext hx2)
    clear hx2 KP hk c0 c1 c2 c3 c4 c5
    have p0 := HB2.out.cell 0 _ rfl
    have p4 := HB2.out.cell 4 _ rfl
    cases D
    rotate_left
    · have HR3 := Lib.hid (show R = countB (fdrop f (j + 1)) from HR2.out)
      clear HR2
      by_cases hc0 : 0 < ca.len
      · have hc0I : (0 : Int) < (ca.len : Int) := by omega
        go_wp2_with fail
        go_loopw [5] (fun i wr => i = .int .i64 0 ∧ wr = w2) (fun _ _ => 0)
        case atStart => exact ⟨rfl, rfl⟩
        case round =>
          obtain ⟨rfl, rfl⟩ := hrel
          go_wp2_with fail
          refine (KD.out _).mono ?_
          rintro e w3 ⟨rfl, rfl⟩
          go_wp2
          exact ⟨⟨j + 1, hjl, by go_num, HR3.out, HW.out.trans HX2.out⟩, by simp [intOf]; omega⟩
      · have hc0I : ¬ (0 : Int) < (ca.len : Int) := by omega
        go_wp2_with fail
        go_loopw [5] (fun i wr => i = .int .i64 0 ∧ wr = w2) (fun _ _ => 0)
        case atStart => exact ⟨rfl, rfl⟩
        case round =>
          obtain ⟨rfl, rfl⟩ := hrel
          go_wp2
          exact ⟨⟨j + 1, hjl, by go_num, HR3.out, HW.out.trans HX2.out⟩, by simp [intOf]; omega⟩
    obtain ⟨RC, hRC⟩ : ∃ RC, RC = countB ca := ⟨_, rfl⟩
    have HR3 := Lib.hid (show R = (RC || countB (fdrop f (j + 1))) from by rw [HR2.out, hRC]; rfl)
    have HC0 := Lib.hid (show CtI w2 ca RC (.int .i64 0) w2 from ⟨0, Nat.zero_le _, rfl, by rw [fdrop_zero]; exact hRC, Ext.refl w2⟩)
    clear HR2 hRC p0 p4
    go_wp2_with fail
    go_loopw [5] (CtI w2 ca RC) (fun i _ => ca.len - (intOf i).toNat)
    case atStart => exact HC0.out
    case round =>
      obtain ⟨i, hi, rfl, hr, hw⟩ := hrel
      have HW2 := Lib.hid hw
      have p0 := (HB2.out.ext hw).cell 0 _ rfl
      have p4 := (HB2.out.ext hw).cell 4 _ rfl
      by_cases hil : i < ca.len
      rotate_left
      · have hiI : ¬ (i : Int) < (ca.len : Int) := by omega
        have hR1 : RC = false := by rw [hr, fdrop_end ca i (by omega)]; rfl
        subst hR1
        have HR4 := Lib.hid (show R = countB (fdrop f (j + 1)) from HR3.out)
        clear hr hw
        go_wp2
        exact ⟨⟨j + 1, hjl, by go_num, HR4.out, HW.out.trans (HX2.out.trans HW2.out)⟩, by simp [intOf]; omega⟩
      have hiI : (i : Int) < (ca.len : Int) := by omega
      obtain ⟨b', o', cc', k', t', n', s', ca', pa', Ap', cp', hv', hbw', _, hdr', d0, d1, hPA'⟩ := (HCA.out.ext (HX2.out.trans hw)).at_ hil
      injection hv' with hA' _ hcc'
      subst hA' hcc'
      have hcn' := (can_drop ca i).2 HCC.out
      rw [hdr', CanC] at hcn'
      obtain ⟨rfl, rfl, rfl, rfl, _, hcp', _⟩ := hcn'
      rw [hdr', countB] at hr
      have hnd' : pa'.nodes < N := by have h1 := fdrop_nodes ca i; rw [hdr', F.nodes] at h1; have := HCN.out; omega
      have KP := Lib.hid (fun W (hW : Ext wr W) => hN pa' _ ok W hnd' (by have := HNN.out; omega) (hPA'.ext hW) hcp')
      obtain ⟨P, hP⟩ : ∃ P, P = countB pa' := ⟨_, rfl⟩
      rw [← hP] at KP hr
      have HR4 := Lib.hid (show RC = (P || countB (fdrop ca (i + 1))) from by rw [hr]; simp [countB])
      clear hr hw hP hPA' hcp' hnd' hdr'
      go_wp2_with fail
      refine (KD.out _).mono ?_
      rintro e w3 ⟨rfl, rfl⟩
      go_wp2_with fail
      refine (KP.out _ (Ext.refl _)).mono ?_
      rintro e w4 ⟨rfl, hx4⟩
      have HX4 := Lib.hid (HW2.out.trans hx4)
      clear hx4
      cases P
      · go_wp2
        exact ⟨⟨i + 1, hil, by go_num, HR4.out, HX4.out⟩, by simp [intOf]; omega⟩
      · have hR1 : R = true := by rw [HR3.out, HR4.out]; rfl
        subst hR1
        go_wp2
        go_ret
        exact ⟨rfl, HW.out.trans (HX2.out.trans HX4.out)⟩
theorem counts_all : ∀ N, CtH N
  | 0 => fun f v ok w h => absurd h (Nat.not_lt_zero _)
  | N + 1 => counts_step N (counts_all N)
theorem rcounts_any {f : F} {v : Value} {ok : Nat → Prop} {w : World} (hnf : f.nodes < 100000000) (hf : FwS w ok f v) (cf : Can f) : Calls Tryd.prog 7 #[v] w fun e w' => e = .returned (.bool (countB f)) ∧ Ext w w' :=
  counts_all 100000000 f v ok w hnf (by decide) hf cf
end Go.Proofs.YtpfmojeigjmlfaaDoor
