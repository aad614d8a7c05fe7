import Derived.Test.YtpfmojeigjmlfaaGreatDoorNP4
import Derived.Test.YtpfmojeigjmlfaaGreatDoorNP3
import Derived.Test.YtpfmojeigjmlfaaGreatDoorNPE
import Derived.Test.YtpfmojeigjmlfaaGreatDoorNPF
namespace Go.Proofs.YtpfmojeigjmlfaaGreatDoor
open Go.RowKit
set_option linter.unusedSimpArgs false
set_option linter.unusedVariables false

/-! The uses of parts, by the program. -/
def useTyp (k : Int) : Int := if 2 ≤ k ∧ k ≤ 9 then typeU k else 0
def useHas (k : Int) : Bool := decide (2 ≤ k) && decide (k ≤ 9)
set_option maxHeartbeats 2000000 in
set_option maxRecDepth 100000 in
theorem use28_any (k : Int) (h1 : 1 ≤ k) (h2 : k ≤ 11) (w : World) : Calls Tryz.prog 83 #[.int .i64 k] w fun e w' => e = .returned (.tuple #[.int .i64 (useTyp k), .bool (useHas k)]) ∧ Ext w w' := by
  have h : k = 1 ∨ k = 2 ∨ k = 3 ∨ k = 4 ∨ k = 5 ∨ k = 6 ∨ k = 7 ∨ k = 8 ∨ k = 9 ∨ k = 10 ∨ k = 11 := by omega
  rcases h with rfl | rfl | rfl | rfl | rfl | rfl | rfl | rfl | rfl | rfl | rfl
  all_goals
    go_enter Tryz.func83, Tryz.ntmps83
    go_wp2
    go_ret2
    exact ⟨rfl, (Ext.refl w).alloc _⟩
theorem useK_wf (k : Int) : (Lit.int .i64 (useTyp k)).wf = true := by
  unfold useTyp typeU
  (repeat' split) <;> decide
theorem cas_at28 {kind d : Nat} {c : Bool} {k : Int} {t n s : By} {cs ps r : F} : ∀ (ca : F) (j : Nat) (seen : List By), casB kind d c seen ca = true → fdrop ca j = .cons k t n s cs ps r → k = 0 ∧ cs = .nil ∧ formB d c false ps = true
  | .nil, j, _, _, h => by cases j <;> cases h
  | .cons _ _ _ _ _ _ _, 0, seen, hf, h => by
    rw [fdrop] at h
    injection h with e1 e2 e3 e4 e5 e6 e7
    subst e1 e2 e3 e4 e5 e6
    have := cas_sub hf
    exact ⟨this.1, this.2.1, this.2.2.1⟩
  | .cons _ _ _ _ _ _ r2, j + 1, seen, hf, h => by
    rw [fdrop] at h
    exact cas_at28 r2 j _ (cas_sub hf).2.2.2 h
theorem form_at28 {d : Nat} {c : Bool} {k : Int} {t n s : By} {ca pa r : F} : ∀ (f : F) (j : Nat) (pt : Bool), formB d c pt f = true → fdrop f j = .cons k t n s ca pa r → ∃ pt', formB d c pt' (.cons k t n s ca pa r) = true
  | .nil, j, _, _, h => by cases j <;> cases h
  | .cons _ _ _ _ _ _ _, 0, pt, hf, h => by
    rw [fdrop] at h
    rw [← h]
    exact ⟨pt, hf⟩
  | .cons _ _ _ _ _ _ r2, j + 1, pt, hf, h => by
    rw [fdrop] at h
    exact form_at28 r2 j _ (form_sub hf).1 h
theorem TabW.mono {w : World} {g mb n m : Nat} {T : TabP} (h : TabW w g mb n T) (hm : n ≤ m) : TabW w g mb m T := ⟨h.at_, h.map.mono hm, h.ne⟩
theorem TabW.extV {w w' : World} {g mb n : Nat} {T : TabP} (h : TabW w g mb n T) (hw : Ext w w') : TabW w' g mb n T := ⟨h.at_.ext hw, h.map.ext hw, h.ne⟩
theorem name_lenV {s : By} (h : nameB s = true) : s.length ≤ 40 := by
  unfold nameB at h
  simp only [Bool.and_eq_true, decide_eq_true_eq] at h
  exact h.1.1.2
theorem fmNodes : ∀ f : F, f.len ≤ f.nodes := by
  intro f
  induction f with
  | nil => exact Nat.le_refl _
  | cons k t n s c p r _ _ ih => rw [F.len, F.nodes]; omega
def WkH (N : Nat) : Prop := ∀ (f : F) (v : Value) (ok : Nat → Prop) (g mb n0 : Nat) (T : TabP) (d : Nat) (c pt : Bool) (w : World), f.nodes < N → FwS w ok f v → (∀ j, ok j → ¬ two g mb j) → formB d c pt f = true → TabW w g mb n0 T → n0 + f.nodes ≤ 1000000000 →
  Calls Tryz.prog 53 #[.pointer (some ⟨g, 0, none⟩), v] w fun e w' => e = .returned (.tuple #[]) ∧ TabW w' g mb (n0 + f.nodes) ((usesT f).foldl addT T) ∧ Exc (two g mb) w w'
def WkIv (w : World) (g mb M : Nat) (R : TabP) (f : F) (i : Value) (wr : World) : Prop := ∃ (j n' : Nat) (T : TabP), j ≤ f.len ∧ i = .int .i64 j ∧ n' + (fdrop f j).nodes ≤ M ∧ TabW wr g mb n' T ∧ (usesT (fdrop f j)).foldl addT T = R ∧ Exc (two g mb) w wr
def WkJ (wb : World) (g mb M : Nat) (R : TabP) (f : F) (i : Value) (wr : World) : Prop := ∃ (j n' : Nat) (T : TabP), j ≤ f.len ∧ i = .int .i64 j ∧ n' + (fdrop f j).nodes ≤ M ∧ TabW wr g mb n' T ∧ (usesT (fdrop f j)).foldl addT T = R ∧ Exc (two g mb) wb wr
def WkR (w : World) (g mb n : Nat) (T : TabP) (wr : World) : Prop := TabW wr g mb n T ∧ Exc (two g mb) w wr
set_option maxHeartbeats 8000000 in
set_option maxRecDepth 100000 in
theorem walk_step (N : Nat) (hN : WkH N) : WkH (N + 1) := by
  intro f v ok g mb n0 T d c pt w hnd hF hok hform hT hM
  obtain ⟨Af, cf, rfl⟩ := hF.val
  have hfn : f.nodes ≤ 1000000000 := by omega
  have hfl : f.len ≤ 1000000000 := by have := fmNodes f; omega
  obtain ⟨M, hMe⟩ : ∃ M, M = n0 + f.nodes := ⟨_, rfl⟩
  obtain ⟨R, hR⟩ : ∃ R, R = (usesT f).foldl addT T := ⟨_, rfl⟩
  rw [← hMe, ← hR]
  rw [← hMe] at hM
  have HF := Lib.hid hF
  have HOK := Lib.hid hok
  have HFORM := Lib.hid hform
  have HND := Lib.hid hnd
  have HM := Lib.hid hM
  have H0 := Lib.hid (show WkIv w g mb M R f (.int .i64 0) w from ⟨0, n0, T, Nat.zero_le _, rfl, by rw [fdrop_zero]; omega, hT, by rw [fdrop_zero]; exact hR.symm, Exc.refl _ _⟩)
  clear hF hok hform hnd hM hT hMe hR
  go_enter Tryz.func53, Tryz.ntmps53
  go_wp2_with fail
  go_loopw [12] (WkIv w g mb M R f) (fun i _ => f.len - (intOf i).toNat)
  case atStart => exact H0.out
  case round =>
    obtain ⟨j, n1, T1, hj, rfl, hn1, ht1, hr1, hx1⟩ := hrel
    obtain ⟨wo, rfl⟩ : ∃ wo : World, wo = wr := ⟨_, rfl⟩
    by_cases hjl : j < f.len
    rotate_left
    · have hjI : ¬ (j : Int) < (f.len : Int) := by omega
      rw [fdrop_end f j (by omega)] at hr1 hn1
      have HR1 := Lib.hid (show T1 = R from hr1)
      have HT1 := Lib.hid (ht1.mono (show n1 ≤ M from hn1))
      have HX1 := Lib.hid hx1
      clear hr1 ht1 hx1 hn1
      go_wp2
      go_end0
      exact ⟨rfl, by rw [← HR1.out]; exact HT1.out, HX1.out⟩
    have hjI : (j : Int) < (f.len : Int) := by omega
    obtain ⟨bf, o, cc', k, t, n, s, ca, pa, Ac, cac, Ap, cpa, hv, hbw, _, hdr, c0, c1, c2, c3, c4, c5, hCA, hPA⟩ := (HF.out.exc hx1 (fun k hk => HOK.out k hk) (fun _ h => h)).at_ hjl
    injection hv with hA _ hcc
    subst hA hcc
    obtain ⟨pt', hfm⟩ := form_at28 f j pt HFORM.out hdr
    obtain ⟨_, hnm, hk1, hk11, hsub⟩ := form_sub hfm
    have hnn := fdrop_nodes f j
    rw [hdr, F.nodes] at hnn hn1
    rw [hdr, usesT, List.foldl_append, List.foldl_append, List.foldl_append] at hr1
    obtain ⟨T2, hT2⟩ : ∃ T2, T2 = List.foldl addT T1 (if 2 ≤ k ∧ k ≤ 9 then [(n, typeU k)] else []) := ⟨_, rfl⟩
    obtain ⟨T3, hT3⟩ : ∃ T3, T3 = List.foldl addT T2 (usesT ca) := ⟨_, rfl⟩
    rw [← hT2, ← hT3] at hr1
    obtain ⟨wb, hwb⟩ : ∃ wb, wb = wo.alloc (.cells #[.int .i64 k, .string ⟨t.toArray⟩, .string ⟨n.toArray⟩, .string ⟨s.toArray⟩, .slice Ac ca.len cac, .slice Ap pa.len cpa] 50) := ⟨_, rfl⟩
    have hxb : Ext wo wb := by rw [hwb]; exact (Ext.refl wo).alloc _
    have HB := Lib.hid (show AtC 50 wb wo.heap.size #[.int .i64 k, .string ⟨t.toArray⟩, .string ⟨n.toArray⟩, .string ⟨s.toArray⟩, .slice Ac ca.len cac, .slice Ap pa.len cpa] from by rw [hwb]; exact AtC.new wo _)
    have HNW := Lib.hid (show ¬ two g mb wo.heap.size from fun h => by
      have h1 := ht1.at_.lt
      have h2 := ht1.map.lt
      rcases h with h | h <;> omega)
    have HCA := Lib.hid (hCA.ext hxb)
    have HPA := Lib.hid (hPA.ext hxb)
    have HT1 := Lib.hid (ht1.extV hxb)
    have HX1 := Lib.hid (hx1.trans (Exc.of_ext hxb))
    have HSUB := Lib.hid hsub
    have KU := Lib.hid (fun W => use28_any k hk1 hk11 W)
    have HWF := Lib.hid (useK_wf k)
    have HUB := Lib.hid (show (useHas k = true → nameB n = true ∧ T2 = addT T1 (n, useTyp k)) ∧ (useHas k = false → T2 = T1) from by
      unfold useHas useTyp
      by_cases h : 2 ≤ k ∧ k ≤ 9
      · rw [decide_eq_true h.1, decide_eq_true h.2, if_pos h]
        rw [if_pos h] at hT2
        exact ⟨fun _ => ⟨hnm h, hT2⟩, fun h => by cases h⟩
      · rw [if_neg h] at hT2
        refine ⟨fun h2 => ?_, fun _ => hT2⟩
        rw [Bool.and_eq_true, decide_eq_true_eq, decide_eq_true_eq] at h2
        exact absurd h2 h)
    have HT3 := Lib.hid hT3
    have HR1 := Lib.hid hr1
    have HN1 := Lib.hid hn1
    have HNN := Lib.hid hnn
    have hcl : ca.len ≤ 1000000000 := by have := fmNodes ca; omega
    generalize useHas k = ub at KU HUB
    generalize useTyp k = ut at KU HUB HWF
    have b0 := HB.out.cell 0 _ rfl
    clear hCA hPA ht1 hx1 hsub hfm hnm hk1 hk11 hT2 hT3 hr1 hn1 hnn hdr hxb hbw
    go_upto_region 3 with (fail)
    rw [← hwb]
    clear hwb
    go_upto_if 22 with (first | (go_at_call 83; (with_reducible refine (KU.out _).mono ?_); rintro e w2 ⟨rfl, hx2⟩; have HX2 := Lib.hid hx2; clear hx2))
    clear b0
    obtain ⟨w2', hw2'⟩ : ∃ w2' : World, w2' = w2 := ⟨_, rfl⟩
    have HB2 := Lib.hid (HB.out.ext HX2.out)
    have HT2 := Lib.hid (HT1.out.extV HX2.out)
    go_cut [] (WkR wb g mb (n1 + 1) T2)
    case first =>
      cases ub
      · have HU := Lib.hid (show T2 = T1 from HUB.out.2 rfl)
        clear HUB
        go_wp2_with fail
        go_meet
        exact ⟨by rw [HU.out]; exact HT2.out.mono (Nat.le_succ _), Exc.of_ext HX2.out⟩
      · obtain ⟨hnb, hte⟩ := HUB.out.1 rfl
        have HTE := Lib.hid hte
        have b2 := HB2.out.cell 2 _ rfl
        have KA := Lib.hid (tadd_any g mb n1 T1 ⟨n.toArray⟩ ut w2 HT2.out (by have := name_lenV hnb; show n.length ≤ _; unfold maxLen; omega) HWF.out (by have := HN1.out; have := HM.out; unfold maxLen; omega))
        clear hnb hte HUB
        go_wp2_with fail
        refine KA.out.mono ?_
        rintro e w3 ⟨rfl, ht3, hx3⟩
        have HR := Lib.hid (show WkR wb g mb (n1 + 1) T2 w3 from ⟨by rw [HTE.out]; exact ht3, (Exc.of_ext HX2.out).trans hx3⟩)
        clear ht3 hx3
        go_wp2_with fail
        go_meet
        exact HR.out
    case rest =>
    obtain ⟨w3, hw3⟩ : ∃ w3 : World, w3 = wc := ⟨_, rfl⟩
    rw [← hw3] at hcut
    have HX3 := Lib.hid hcut.2
    have HJ0 := Lib.hid (show WkJ wb g mb (n1 + 1 + ca.nodes) T3 ca (.int .i64 0) w3 from ⟨0, n1 + 1, T2, Nat.zero_le _, rfl, by rw [fdrop_zero]; omega, hcut.1, by rw [fdrop_zero]; exact HT3.out.symm, hcut.2⟩)
    have b4 := (HB.out.exc HX3.out HNW.out).cell 4 _ rfl
    clear hcut
    go_upto_region 6 with (fail)
    rw [← hw3]
    clear hw3
    go_wp2_with fail
    go_loopw [31] (WkJ wb g mb (n1 + 1 + ca.nodes) T3 ca) (fun i _ => ca.len - (intOf i).toNat)
    case atStart => exact HJ0.out
    case round =>
      obtain ⟨j2, n2, U, hj2, rfl, hn2, hu, hru, hx2⟩ := hrel
      obtain ⟨wq, rfl⟩ : ∃ wq : World, wq = wr := ⟨_, rfl⟩
      have HXQ := Lib.hid hx2
      by_cases hjl2 : j2 < ca.len
      rotate_left
      · have hjI2 : ¬ (j2 : Int) < (ca.len : Int) := by omega
        rw [fdrop_end ca j2 (by omega)] at hru hn2
        have hu2 : TabW wq g mb (n1 + 1 + ca.nodes) T3 := by
          have e : U = T3 := hru
          rw [← e]
          exact hu.mono hn2
        obtain ⟨d3, c3, hf3⟩ : ∃ d3 c3, formB d3 c3 false pa = true := by
          rcases HSUB.out with ⟨_, rfl | h⟩ | ⟨rfl, _⟩
          · exact ⟨0, false, rfl⟩
          · exact h
          · exact ⟨0, false, rfl⟩
        have b5 := (HB.out.exc HXQ.out HNW.out).cell 5 _ rfl
        have KW := Lib.hid (hN pa (.slice Ap pa.len cpa) ok g mb _ T3 d3 c3 false wq (by have := HNN.out; have := HND.out; omega) (HPA.out.exc HXQ.out (fun k hk => HOK.out k hk) (fun _ h => h)) HOK.out hf3 hu2 (by have := HN1.out; have := HM.out; omega))
        clear hu hru hn2 hu2 hf3 hx2
        go_wp2_with fail
        refine KW.out.mono ?_
        rintro e w5 ⟨rfl, ht5, hx5⟩
        have HT5 := Lib.hid ht5
        have HX5 := Lib.hid ((HX1.out.trans HXQ.out).trans hx5)
        clear ht5 hx5 KW
        go_wp2
        exact ⟨⟨j + 1, n1 + 1 + ca.nodes + pa.nodes, _, hjl, by go_num, by have := HN1.out; omega, HT5.out, HR1.out, HX5.out⟩, by simp [intOf]; omega⟩
      have hjI2 : (j2 : Int) < (ca.len : Int) := by omega
      obtain ⟨b', o', cc2, k', t', n', s', ca', pa', Ap', cp', hv', hbw', _, hdr', d0, d1, hPA'⟩ := (HCA.out.exc HXQ.out (fun k hk => HOK.out k hk) (fun _ h => h)).at_ hjl2
      injection hv' with hA' _ hcc'
      subst hA' hcc'
      obtain ⟨kd, d3, c3, hcb⟩ : ∃ kd d' c', casB kd d' c' [] ca = true := by
        rcases HSUB.out with ⟨h, _⟩ | ⟨_, h⟩
        · subst h; exact absurd hjl2 (Nat.not_lt_zero _)
        · exact h
      obtain ⟨e0, e1, hf3⟩ := cas_at28 ca j2 [] hcb hdr'
      subst e0 e1
      have hnn2 := fdrop_nodes ca j2
      rw [hdr', F.nodes] at hnn2 hn2
      rw [hdr', usesT, if_neg (by decide), List.nil_append, List.foldl_append, List.foldl_append] at hru
      have hxc : Ext wq (wq.alloc (.cells #[.string ⟨n'.toArray⟩, .slice Ap' pa'.len cp'] 52)) := (Ext.refl wq).alloc _
      have KW := Lib.hid (hN pa' (.slice Ap' pa'.len cp') ok g mb _ U d3 c3 false _ (by have := HNN.out; have := HND.out; omega) (hPA'.ext hxc) HOK.out hf3 (hu.extV hxc) (by have := HN1.out; have := HM.out; omega))
      have HX4 := Lib.hid (HXQ.out.trans (Exc.of_ext hxc))
      have HRU := Lib.hid (show List.foldl addT (List.foldl addT U (usesT pa')) (usesT (fdrop ca (j2 + 1))) = T3 from hru)
      have HN2 := Lib.hid hn2
      clear hu hru hn2 hx2 hcb hf3 hPA' hdr' hnn2 hxc hbw'
      go_wp2_with fail
      refine KW.out.mono ?_
      rintro e w5 ⟨rfl, ht5, hx5⟩
      have HT5 := Lib.hid ht5
      have HX5 := Lib.hid (HX4.out.trans hx5)
      clear ht5 hx5 KW
      go_wp2
      exact ⟨⟨j2 + 1, n2 + pa'.nodes, _, hjl2, by go_num, by have := HN2.out; omega, HT5.out, HRU.out, HX5.out⟩, by simp [intOf]; omega⟩
theorem walk_all : ∀ N, WkH N
  | 0 => fun f v ok g mb n0 T d c pt w h => absurd h (Nat.not_lt_zero _)
  | N + 1 => walk_step N (walk_all N)
end Go.Proofs.YtpfmojeigjmlfaaGreatDoor
