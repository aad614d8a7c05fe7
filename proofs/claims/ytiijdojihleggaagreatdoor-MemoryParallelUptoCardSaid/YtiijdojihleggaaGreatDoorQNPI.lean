import Derived.Test.YtiijdojihleggaaGreatDoorQNP2
import Derived.Test.YtiijdojihleggaaGreatDoorQNPA
set_option maxRecDepth 100000
set_option linter.unusedSimpArgs false
set_option linter.unusedVariables false
open Go.Lib (hid)
namespace Go.Proofs.YtiijdojihleggaaGreatDoor
open Go.RowKit
def headK : F → Int
 | .nil => 0
 | .cons k _ _ _ _ _ _ => k
def ptK (f : F) (j : Nat) : Bool := if j = 0 then false else headK (fdrop f (j - 1)) == 1
structure PaW (w : World) (mb nn : Nat) (names : List By) (W : World) : Prop where
 nm : MapS Tryz.prog 9 4 W mb nn names
 box : AtC 138 W w.heap.size #[.map (some mb)]
 exc : Exc (fun j => j = mb ∨ w.heap.size ≤ j) w W
 mx : Mx W
 lt : mb < w.heap.size
 size : w.heap.size + 1 ≤ W.heap.size
theorem PaW.ext {w : World} {mb nn : Nat} {names : List By} {W W' : World} (h : PaW w mb nn names W) (hx : Ext W W') : PaW w mb nn names W' :=
 ⟨h.nm.ext hx, h.box.ext hx, h.exc.trans (Exc.of_ext hx), h.mx.exc (Exc.of_ext (S := fun _ => False) hx) id, h.lt, Nat.le_trans h.size (Ext.size hx)⟩
theorem PaW.names {w : World} {mb nn : Nat} {names : List By} {W W' : World} {nn' : Nat} {names' : List By} (h : PaW w mb nn names W) (hx : Exc (fun i => i = mb) W W') (hm : MapS Tryz.prog 9 4 W' mb nn' names') (h0 : mb ≠ 0) : PaW w mb nn' names' W' := by
 have h1 := h.lt
 exact ⟨hm, h.box.exc hx (fun e => by omega), h.exc.trans (hx.mono fun i e => .inl e), h.mx.exc hx (fun e => h0 e.symm), h1, Nat.le_trans h.size hx.size⟩
def PaI (w : World) (mb nn0 : Nat) (names0 : List By) (f : F) (d : Nat) (c : Bool) (i : Value) (wr : World) : Prop :=
 ∃ (j nn : Nat) (names : List By), j ≤ f.len ∧ i = .int .i64 j ∧ PaW w mb nn names wr ∧ formB d c false f = formB d c (ptK f j) (fdrop f j) ∧ nn + (fdrop f j).nodes ≤ nn0 + f.nodes ∧
   (∀ x, (x ∈ names ∨ x ∈ usesF (fdrop f j)) ↔ (x ∈ names0 ∨ x ∈ usesF f))
theorem pa_no {w wr : World} {mb nn0 nn : Nat} {names0 names : List By} {f : F} {B : Bool} (hW : PaW w mb nn names wr) (hb : B = false) (hn : nn ≤ nn0 + f.nodes) : CkR w mb nn0 names0 f B (.returned (.bool false)) wr := by
 subst hb
 exact ⟨rfl, exc_new hW.exc, nn, names, hW.nm, hn, fun h => by cases h⟩
theorem len_zero {f : F} (h : (f.len == 0) = true) : f = .nil := by
 cases f with
 | nil => rfl
 | cons k t n s c p r => rw [F.len] at h; simp at h
theorem fld_kind {k : Int} {t n s : By} {ca pa : F} (h : fldB k t n s (ca.len == 0) (pa.len == 0) = true) :
 (k = 10 ∧ n = [] ∧ ca = .nil ∧ pa = .nil) ∨ (k = 1 ∧ n = [] ∧ ca = .nil ∧ pa = .nil) ∨ (k = 11 ∧ n ≠ [] ∧ ca = .nil) ∨ (7 ≤ k ∧ k ≤ 9 ∧ n ≠ [] ∧ pa = .nil) ∨ (2 ≤ k ∧ k ≤ 6 ∧ n ≠ [] ∧ ca = .nil ∧ pa = .nil) := by
 have hnm : nameB n = true → n ≠ [] := fun h e => by rw [e] at h; exact absurd h (by decide)
 unfold fldB at h
 split at h
 ·rename_i hk
  simp only [Bool.and_eq_true] at h
  exact .inr (.inl ⟨hk, isEmpty_eq h.1.1.1.2, len_zero h.1.2, len_zero h.2⟩)
 split at h
 ·rename_i hk
  simp only [Bool.and_eq_true] at h
  exact .inl ⟨hk, isEmpty_eq h.1.1.1.2, len_zero h.1.2, len_zero h.2⟩
 split at h
 ·simp only [Bool.and_eq_true] at h
  exact .inr (.inr (.inr (.inr ⟨by omega, by omega, hnm h.1.1.1.1, len_zero h.1.2, len_zero h.2⟩)))
 split at h
 ·simp only [Bool.and_eq_true] at h
  exact .inr (.inr (.inr (.inr ⟨by omega, by omega, hnm h.1.1.1.1, len_zero h.1.2, len_zero h.2⟩)))
 split at h
 ·simp only [Bool.and_eq_true] at h
  exact .inr (.inr (.inr (.inr ⟨by omega, by omega, hnm h.1.1.1.1, len_zero h.1.2, len_zero h.2⟩)))
 split at h
 ·simp only [Bool.and_eq_true] at h
  exact .inr (.inr (.inr (.inr ⟨by omega, by omega, hnm h.1.1.1.1, len_zero h.1.2, len_zero h.2⟩)))
 split at h
 ·rename_i hk
  simp only [Bool.and_eq_true] at h
  exact .inr (.inr (.inl ⟨hk, hnm h.1.1.1, len_zero h.2⟩))
 split at h
 ·simp only [Bool.and_eq_true] at h
  exact .inr (.inr (.inr (.inl ⟨by omega, by omega, hnm h.1.1.1, len_zero h.2⟩)))
 ·cases h
theorem prt_sel {d : Nat} {c : Bool} {k : Int} {t n s : By} {ca pa : F} (hk : k = 7 ∨ k = 8 ∨ k = 9) (hf : fldB k t n s (ca.len == 0) (pa.len == 0) = true) (hd : d < 8) :
 prtB d c k t n s ca pa = (casB k.toNat (d + 1) (c || k != 9) [] ca && decide (ca.len ≤ 20) && decide (otherP ∈ ca.keys)) := by
 unfold prtB
 rw [hf]
 rcases hk with rfl | rfl | rfl <;> simp [hd]
set_option maxHeartbeats 60000000 in
theorem ckparts (N : Nat) (hN : CkH N) (hK : CkK N) : CkH (N + 1) := by
 intro f v ok mb nn0 names0 d c w hnd hF hok hcan hmap hnn hm hmb hd
 obtain ⟨A, cc, rfl⟩ := hF.val
 have HFW := hid hF.inn
 have HOK := hid hok
 have HCAN := hid hcan
 have HND := hid hnd
 have HNN := hid hnn
 have HMB := hid hmb
 have hfl : f.len ≤ 1000000000 := by
  have : ∀ f : F, f.len ≤ f.nodes := by
   intro f
   induction f with
   | nil => exact Nat.le_refl _
   | cons k t n s c p r _ _ ih => rw [F.len, F.nodes]; omega
  have := this f
  omega
 have H0 := hid (show PaI w mb nn0 names0 f d c (.int .i64 0) (w.alloc (.cells #[.map (some mb)] 138)) from by
  have x1 : Ext w (w.alloc (.cells #[.map (some mb)] 138)) := (Ext.refl w).alloc _
  refine ⟨0, nn0, names0, Nat.zero_le _, rfl, ⟨hmap.ext x1, AtC.new w _, Exc.of_ext x1, hm.exc (Exc.of_ext (S := fun _ => False) x1) id, hmap.lt, by rw [World.size_alloc]; exact Nat.le_refl _⟩, by rw [fdrop_zero]; rfl, by rw [fdrop_zero]; exact Nat.le_refl _, fun x => by rw [fdrop_zero]⟩)
 clear hF hok hcan hmap hnn hm hmb hnd
 go_enter Tryz.func79, Tryz.ntmps79
 go_wp2_with fail
 go_loopw [13] (PaI w mb nn0 names0 f d c) (fun i _ => f.len - (intOf i).toNat)
 case atStart => exact H0.out
 case round =>
  obtain ⟨j, nn, names, hj, rfl, hW, hfm, hnn, huse⟩ := hrel
  have HW := hid hW
  by_cases hjl : j < f.len
  rotate_left
  ·have hje : j = f.len := by omega
   have hjI : ¬ (j : Int) < (f.len : Int) := by omega
   rw [fdrop_end f j (by omega)] at hfm hnn huse
   have HE := hid (show formB d c false f = true ∧ nn ≤ nn0 + f.nodes ∧ (∀ x, x ∈ names ↔ (x ∈ names0 ∨ x ∈ usesF f)) from
    ⟨hfm.trans (by rw [formB]), by simpa [F.nodes] using hnn, fun x => by rw [← huse x]; simp [usesF]⟩)
   clear hW hfm hnn huse
   go_wp2
   go_ret
   rw [HE.out.1]
   exact ⟨rfl, exc_new HW.out.exc, nn, names, HW.out.nm, HE.out.2.1, fun _ => HE.out.2.2⟩
  have hjI : (j : Int) < (f.len : Int) := by omega
  have hFr := HFW.out.exc hW.exc (fun i hi e => by have := HOK.out i hi.1; have := hi.2; rcases e with e | e <;> omega) (ok' := fun i => ok i ∧ i < w.heap.size) (fun i hi => hi)
  obtain ⟨b, o, cc', k, t, n, s, ca, pa, Ac, cac, Ap, cpa, hv, hbw, _, hdr, c0, c1, c2, c3, c4, c5, hCA, hPA⟩ := hFr.at_ hjl
  injection hv with hA _ hcc
  subst hA hcc
  have hpv : ∀ j', j = j' + 1 → ∃ kp : Int, wr.cell? ⟨b, o + j' * 6, none⟩ = some (.int .i64 kp) ∧ headK (fdrop f j') = kp := by
   intro j' e
   obtain ⟨b2, o2, cc2, k2, _, _, _, _, _, _, _, _, _, hv2, _, _, hdr2, e0, _⟩ := hFr.at_ (i := j') (by omega)
   injection hv2 with hA2 _ _
   injection hA2 with hA2
   injection hA2 with h1 h2
   subst h1 h2
   exact ⟨k2, e0, by rw [hdr2]; rfl⟩
  have hcn := (can_drop f j).1 HCAN.out
  rw [hdr] at hcn hfm hnn huse
  rw [form_prt] at hfm
  rw [Can] at hcn
  obtain ⟨hnl, hsl, hcc, hcp, _⟩ := hcn
  have hpt1 : ptK f (j + 1) = (k == 1) := by
   unfold ptK
   rw [if_neg (Nat.succ_ne_zero j), Nat.add_sub_cancel, hdr]
   rfl
  rw [← hpt1] at hfm
  have hnd2 : ca.nodes ≤ N ∧ pa.nodes < N := by have h1 := fdrop_nodes f j; rw [hdr, F.nodes] at h1; have := HND.out; constructor <;> omega
  rw [F.nodes] at hnn
  have HFM := hid hfm
  have HNN2 := hid hnn
  have HUSE := hid huse
  have HPT1 := hid hpt1
  have HCA := hid hCA
  have HPA := hid hPA
  have HPV := hid hpv
  have HXP := hid ((Ext.refl wr).alloc (.cells #[.int .i64 k, .string ⟨t.toArray⟩, .string ⟨n.toArray⟩, .string ⟨s.toArray⟩, .slice Ac ca.len cac, .slice Ap pa.len cpa] 96))
  have HB1 := hid (AtC.new wr #[.int .i64 k, .string ⟨t.toArray⟩, .string ⟨n.toArray⟩, .string ⟨s.toArray⟩, .slice Ac ca.len cac, .slice Ap pa.len cpa] : AtC 96 _ _ _)
  have hne1 : wr.heap.size ≠ mb := by have := hW.lt; have := hW.size; omega
  have KF := hid (fun W => (show Calls Tryz.prog 119 #[.agg #[.int .i64 k, .string ⟨t.toArray⟩, .string ⟨n.toArray⟩, .string ⟨s.toArray⟩, .slice Ac ca.len cac, .slice Ap pa.len cpa]] W fun e w' => e = .returned (.bool (fldB k t n s (ca.len == 0) (pa.len == 0))) ∧ Ext W w' from
   fields_any k ⟨t.toArray⟩ ⟨n.toArray⟩ ⟨s.toArray⟩ Ac ca.len cac Ap pa.len cpa W (by unfold maxLen; show n.length ≤ _; omega) (by unfold maxLen; show s.length ≤ _; omega)))
  have KP := hid (fun W (hx : Ext wr W) (h8 : d < 8) => (show Calls Tryz.prog 79 #[.agg #[.map (some mb)], .slice Ap pa.len cpa, .int .i64 ((d : Int) + 1), .bool c] W (CkR W mb nn names pa (formB (d + 1) c false pa)) from
   hN pa _ (fun i => ok i ∧ i < w.heap.size) mb nn names (d + 1) c W hnd2.2 (HPA.out.ext hx) (fun i hi => HOK.out i hi.1) hcp ((HW.out.ext hx).nm) (by have := HNN.out; have := HNN2.out; omega) ((HW.out.ext hx).mx) HMB.out (by omega)))
  have KC := hid (fun W (kk : Nat) (hx : Ext wr W) (h8 : d < 8) => hK kk ⟨t.toArray⟩ ⟨n.toArray⟩ ⟨s.toArray⟩ ca Ac cac Ap pa.len cpa (fun i => ok i ∧ i < w.heap.size) mb nn names d c W hnd2.1 (HCA.out.ext hx) (fun i hi => HOK.out i hi.1) hcc ((HW.out.ext hx).nm) (by have := HNN.out; have := HNN2.out; omega) ((HW.out.ext hx).mx) HMB.out (by omega))
  have KS := hid (fun W => sel_any k W)
  clear hW hfm hnn huse hpt1 hCA hPA hpv hcc hcp hnd2 hdr hFr
  go_wp2_with fail
  refine (KF.out _).mono ?_
  rintro e w2 ⟨rfl, hx2⟩
  have HX2 := hid (HXP.out.trans hx2)
  have HW2 := hid (HW.out.ext (HXP.out.trans hx2))
  have HB2 := hid (HB1.out.ext hx2)
  have cp0 : ∀ j' kp, j = j' + 1 → wr.cell? ⟨b, o + j' * 6, none⟩ = some (.int .i64 kp) → w2.cell? ⟨b, o + j' * 6, none⟩ = some (.int .i64 kp) := fun j' kp _ h => (Ext.cell HX2.out (World.block_lt_of_cell? _ _ h)).trans h
  have HCP := hid cp0
  clear hx2 KF c0 c1 c2 c3 c4 c5 cp0
  cases hfl2 : fldB k t n s (ca.len == 0) (pa.len == 0)
  ·go_wp2
   go_ret
   refine pa_no HW2.out ?_ (by have := HNN2.out; omega)
   rw [HFM.out]
   unfold prtB
   rw [hfl2]
   simp
  have hkind := fld_kind hfl2
  have HFL := hid hfl2
  have p0 := HB2.out.cell 0 _ rfl
  have p2 := HB2.out.cell 2 _ rfl
  have p5 := HB2.out.cell 5 _ rfl
  have q0 := HW2.out.box.cell 0 _ rfl
  clear hfl2
  rcases hkind with ⟨rfl, rfl, rfl, rfl⟩ | ⟨rfl, rfl, rfl, rfl⟩ | ⟨rfl, hne, rfl⟩ | ⟨hk7, hk9, hne, rfl⟩ | ⟨hk2, hk6, hne, rfl, rfl⟩
  ·cases c
   ·go_wp2
    all_goals go_ret
    all_goals
     refine pa_no HW2.out ?_ (by have := HNN2.out; omega)
     rw [HFM.out]
     unfold prtB
     simp
   ·go_wp2
    all_goals
     refine ⟨⟨j + 1, nn, names, hjl, by go_num, HW2.out, ?_, by have := HNN2.out; omega, fun x => ?_⟩, by simp [intOf]; omega⟩
     ·rw [HFM.out, HPT1.out]
      unfold prtB
      rw [HFL.out]
      simp
     ·rw [← HUSE.out x, usesF]
      simp [usesF]
  ·by_cases hj0 : j = 0
   ·have hI : ¬ (0 : Int) < (j : Int) := by omega
    have HPK := hid (show ptK f j = false from by unfold ptK; rw [if_pos hj0])
    go_wp2
    all_goals
     refine ⟨⟨j + 1, nn, names, hjl, by first | go_num | simp [hj0], HW2.out, ?_, by have := HNN2.out; omega, fun x => ?_⟩, by simp [intOf]; omega⟩
     ·rw [HFM.out, HPK.out]
      unfold prtB
      rw [HFL.out]
      simp
     ·rw [← HUSE.out x, usesF]
      simp [usesF]
   ·have hI : (0 : Int) < (j : Int) := by omega
    obtain ⟨kp, e1, e2⟩ := HPV.out (j - 1) (by omega)
    have e3 := HCP.out (j - 1) kp (by omega) e1
    have hI2 : (j : Int) - 1 = ((j - 1 : Nat) : Int) := by omega
    have HPK := hid (show ptK f j = (kp == 1) from by unfold ptK; rw [if_neg hj0, e2])
    clear e1 e2
    cases hkp : (kp == 1)
    ·have HP2 := hid (show ptK f j = false from HPK.out.trans hkp)
     go_wp2
     all_goals
      refine ⟨⟨j + 1, nn, names, hjl, by go_num, HW2.out, ?_, by have := HNN2.out; omega, fun x => ?_⟩, by simp [intOf]; omega⟩
      ·rw [HFM.out, HP2.out]
       unfold prtB
       rw [HFL.out]
       simp
      ·rw [← HUSE.out x, usesF]
       simp [usesF]
    ·have HP2 := hid (show ptK f j = true from HPK.out.trans hkp)
     go_wp2
     all_goals go_ret
     all_goals
      refine pa_no HW2.out ?_ (by have := HNN2.out; omega)
      rw [HFM.out, HP2.out, HPT1.out]
      simp
  ·by_cases hd8 : d < 8
   rotate_left
   ·have hdI : ¬ (d : Int) < 8 := by omega
    have hdJ : (8 : Int) ≤ (d : Int) := by omega
    go_wp2
    all_goals go_ret
    all_goals
     refine pa_no HW2.out ?_ (by have := HNN2.out; omega)
     rw [HFM.out]
     unfold prtB
     simp [hd8]
   have hdI : (d : Int) < 8 := by omega
   have hdJ : ¬ (8 : Int) ≤ (d : Int) := by omega
   have HD8 := hid hd8
   cases hB : formB (d + 1) c false pa
   ·rw [hB] at KP
    have HB := hid hB
    clear hB
    go_wp2_with (first | (refine (KS.out _).mono ?_; rintro e w5 ⟨rfl, rfl⟩) | (refine (KP.out _ HX2.out HD8.out).mono ?_; rintro e w3 ⟨rfl, hx3, nn3, names3, hm3, hnn3, hu3⟩; have HM3 := hid hm3; have HN3 := hid hnn3; have HU3 := hid hu3; have HW3 := hid (HW2.out.names hx3 hm3 HMB.out); have HB3 := hid (HB2.out.exc hx3 hne1); have p0' := HB3.out.cell 0 _ rfl; have p2' := HB3.out.cell 2 _ rfl; have q0' := HW3.out.box.cell 0 _ rfl; clear hx3 hm3 hnn3 hu3))
    all_goals go_ret
    all_goals
     refine pa_no HW3.out ?_ (by have h1 := HNN2.out; have h2 := HN3.out; simp only [F.nodes] at h1; omega)
     rw [HFM.out]
     unfold prtB
     rw [HB.out]
     simp
   ·rw [hB] at KP
    have HB := hid hB
    clear hB
    go_wp2_with (first | (refine (KS.out _).mono ?_; rintro e w5 ⟨rfl, rfl⟩) | (refine (KP.out _ HX2.out HD8.out).mono ?_; rintro e w3 ⟨rfl, hx3, nn3, names3, hm3, hnn3, hu3⟩; have HM3 := hid hm3; have HN3 := hid hnn3; have HU3 := hid hu3; have HW3 := hid (HW2.out.names hx3 hm3 HMB.out); have HB3 := hid (HB2.out.exc hx3 hne1); have p0' := HB3.out.cell 0 _ rfl; have p2' := HB3.out.cell 2 _ rfl; have q0' := HW3.out.box.cell 0 _ rfl; clear hx3 hm3 hnn3 hu3))
    all_goals
     refine ⟨⟨j + 1, nn3, names3, hjl, by go_num, HW3.out, ?_, by have h1 := HNN2.out; have h2 := HN3.out; simp only [F.nodes] at h1; omega, fun x => ?_⟩, by simp [intOf]; omega⟩
     ·rw [HFM.out, HPT1.out]
      unfold prtB
      rw [HFL.out, HB.out]
      simp [HD8.out]
     ·rw [← HUSE.out x]
      have h3 := HU3.out (by first | trivial | rfl) x
      simp only [usesF]
      simp [h3, or_assoc]
  ·have hkk : k = 7 ∨ k = 8 ∨ k = 9 := by omega
   have p1 := HB2.out.cell 1 _ rfl
   have p3 := HB2.out.cell 3 _ rfl
   have p4 := HB2.out.cell 4 _ rfl
   clear hk7 hk9
   by_cases hd8 : d < 8
   rotate_left
   ·have hdI : ¬ (d : Int) < 8 := by omega
    have hdJ : (8 : Int) ≤ (d : Int) := by omega
    have HN8 := hid hd8
    clear hd8
    rcases hkk with rfl | rfl | rfl
    all_goals go_wp2_with ((with_reducible refine (KS.out _).mono ?_); rintro e w5 ⟨rfl, rfl⟩)
    all_goals go_ret
    all_goals
     refine pa_no HW2.out ?_ (by have := HNN2.out; omega)
     rw [HFM.out]
     unfold prtB
     simp [HN8.out]
   have hdI : (d : Int) < 8 := by omega
   have hdJ : ¬ (8 : Int) ≤ (d : Int) := by omega
   have HD8 := hid hd8
   clear hd8
   rcases hkk with rfl | rfl | rfl
   ·obtain ⟨B, hB⟩ : ∃ B, B = (casB 7 (d + 1) (c || 7 != 9) [] ca && decide (ca.len ≤ 20) && decide (otherP ∈ ca.keys)) := ⟨_, rfl⟩
    have KCV := hid (show ∀ W (hx : Ext wr W) (h8 : d < 8), Calls Tryz.prog 120 #[.agg #[.map (some mb)], .agg #[.int .i64 7, .string ⟨t.toArray⟩, .string ⟨n.toArray⟩, .string ⟨s.toArray⟩, .slice Ac ca.len cac, .slice Ap F.nil.len cpa], .int .i64 ((d : Int) + 1), .bool c] W (CkR W mb nn names ca B) from by rw [hB]; exact fun W hx h8 => KC.out W 7 hx h8)
    have HPB := hid ((prt_sel (d := d) (c := c) (k := 7) (by simp) HFL.out HD8.out).trans (show _ = B from hB.symm))
    clear hB KC KP
    cases B
    ·go_wp2_with (first | ((with_reducible refine (KS.out _).mono ?_); rintro e w5 ⟨rfl, rfl⟩) | ((with_reducible refine (KCV.out _ HX2.out HD8.out).mono ?_); rintro e w3 ⟨rfl, hx3, nn3, names3, hm3, hnn3, hu3⟩; have HM3 := hid hm3; have HN3 := hid hnn3; have HU3 := hid hu3; have HW3 := hid (HW2.out.names hx3 hm3 HMB.out); have HB3 := hid (HB2.out.exc hx3 hne1); have p0' := HB3.out.cell 0 _ rfl; have p2' := HB3.out.cell 2 _ rfl; have q0' := HW3.out.box.cell 0 _ rfl; clear hx3 hm3 hnn3 hu3 KCV))
     all_goals go_ret
     all_goals
      refine pa_no HW3.out ?_ (by have h1 := HNN2.out; have h2 := HN3.out; simp only [F.nodes] at h1; omega)
      rw [HFM.out, HPB.out]
      simp
    ·go_wp2_with (first | ((with_reducible refine (KS.out _).mono ?_); rintro e w5 ⟨rfl, rfl⟩) | ((with_reducible refine (KCV.out _ HX2.out HD8.out).mono ?_); rintro e w3 ⟨rfl, hx3, nn3, names3, hm3, hnn3, hu3⟩; have HM3 := hid hm3; have HN3 := hid hnn3; have HU3 := hid hu3; have HW3 := hid (HW2.out.names hx3 hm3 HMB.out); have HB3 := hid (HB2.out.exc hx3 hne1); have p0' := HB3.out.cell 0 _ rfl; have p2' := HB3.out.cell 2 _ rfl; have q0' := HW3.out.box.cell 0 _ rfl; clear hx3 hm3 hnn3 hu3 KCV) | (at_mapUpdate; refine wpList_mapUpdateS rfl _ _ _ 122 9 4 rfl Tryz.underlying9 Tryz.underlying4 Tryz.underlying122 mb _ _ rfl HW3.out.nm (by have h0 := HNN.out; have h1 := HNN2.out; have h2 := HN3.out; simp only [F.nodes] at h1; unfold maxLen; omega) ⟨n.toArray⟩ rfl rfl (by unfold maxLen; show n.length ≤ _; omega) ?_; intro w4 hm4 hg4; have HM4 := hid hm4; have HG4 := hid hg4; clear hm4 hg4))
     all_goals first
      | (exfalso
         exact hne (List.isEmpty_iff.1 (by simpa using ‹(!List.isEmpty n) = false›)))
      | (have HW4 := hid (HW3.out.names (Exc.grown HG4.out rfl) HM4.out HMB.out)
         refine ⟨⟨j + 1, nn3 + 1, names3 ++ [n], hjl, by go_num, HW4.out, ?_, by have h1 := HNN2.out; have h2 := HN3.out; simp only [F.nodes] at h1; omega, fun x => ?_⟩, by simp [intOf]; omega⟩
         ·rw [HFM.out, HPT1.out]
          rw [HPB.out]
          simp
         ·rw [← HUSE.out x]
          have h3 := HU3.out (by first | trivial | rfl) x
          simp only [usesF]
          simp only [List.mem_append, List.mem_singleton, h3]
          simp
          constructor
          ·intro h
           rcases h with ((h | h) | h) | h <;> simp [h]
          ·intro h
           rcases h with h | h | h | h <;> simp [h])
   ·obtain ⟨B, hB⟩ : ∃ B, B = (casB 8 (d + 1) (c || 8 != 9) [] ca && decide (ca.len ≤ 20) && decide (otherP ∈ ca.keys)) := ⟨_, rfl⟩
    have KCV := hid (show ∀ W (hx : Ext wr W) (h8 : d < 8), Calls Tryz.prog 120 #[.agg #[.map (some mb)], .agg #[.int .i64 8, .string ⟨t.toArray⟩, .string ⟨n.toArray⟩, .string ⟨s.toArray⟩, .slice Ac ca.len cac, .slice Ap F.nil.len cpa], .int .i64 ((d : Int) + 1), .bool c] W (CkR W mb nn names ca B) from by rw [hB]; exact fun W hx h8 => KC.out W 8 hx h8)
    have HPB := hid ((prt_sel (d := d) (c := c) (k := 8) (by simp) HFL.out HD8.out).trans (show _ = B from hB.symm))
    clear hB KC KP
    cases B
    ·go_wp2_with (first | ((with_reducible refine (KS.out _).mono ?_); rintro e w5 ⟨rfl, rfl⟩) | ((with_reducible refine (KCV.out _ HX2.out HD8.out).mono ?_); rintro e w3 ⟨rfl, hx3, nn3, names3, hm3, hnn3, hu3⟩; have HM3 := hid hm3; have HN3 := hid hnn3; have HU3 := hid hu3; have HW3 := hid (HW2.out.names hx3 hm3 HMB.out); have HB3 := hid (HB2.out.exc hx3 hne1); have p0' := HB3.out.cell 0 _ rfl; have p2' := HB3.out.cell 2 _ rfl; have q0' := HW3.out.box.cell 0 _ rfl; clear hx3 hm3 hnn3 hu3 KCV))
     all_goals go_ret
     all_goals
      refine pa_no HW3.out ?_ (by have h1 := HNN2.out; have h2 := HN3.out; simp only [F.nodes] at h1; omega)
      rw [HFM.out, HPB.out]
      simp
    ·go_wp2_with (first | ((with_reducible refine (KS.out _).mono ?_); rintro e w5 ⟨rfl, rfl⟩) | ((with_reducible refine (KCV.out _ HX2.out HD8.out).mono ?_); rintro e w3 ⟨rfl, hx3, nn3, names3, hm3, hnn3, hu3⟩; have HM3 := hid hm3; have HN3 := hid hnn3; have HU3 := hid hu3; have HW3 := hid (HW2.out.names hx3 hm3 HMB.out); have HB3 := hid (HB2.out.exc hx3 hne1); have p0' := HB3.out.cell 0 _ rfl; have p2' := HB3.out.cell 2 _ rfl; have q0' := HW3.out.box.cell 0 _ rfl; clear hx3 hm3 hnn3 hu3 KCV) | (at_mapUpdate; refine wpList_mapUpdateS rfl _ _ _ 122 9 4 rfl Tryz.underlying9 Tryz.underlying4 Tryz.underlying122 mb _ _ rfl HW3.out.nm (by have h0 := HNN.out; have h1 := HNN2.out; have h2 := HN3.out; simp only [F.nodes] at h1; unfold maxLen; omega) ⟨n.toArray⟩ rfl rfl (by unfold maxLen; show n.length ≤ _; omega) ?_; intro w4 hm4 hg4; have HM4 := hid hm4; have HG4 := hid hg4; clear hm4 hg4))
     all_goals first
      | (exfalso
         exact hne (List.isEmpty_iff.1 (by simpa using ‹(!List.isEmpty n) = false›)))
      | (have HW4 := hid (HW3.out.names (Exc.grown HG4.out rfl) HM4.out HMB.out)
         refine ⟨⟨j + 1, nn3 + 1, names3 ++ [n], hjl, by go_num, HW4.out, ?_, by have h1 := HNN2.out; have h2 := HN3.out; simp only [F.nodes] at h1; omega, fun x => ?_⟩, by simp [intOf]; omega⟩
         ·rw [HFM.out, HPT1.out]
          rw [HPB.out]
          simp
         ·rw [← HUSE.out x]
          have h3 := HU3.out (by first | trivial | rfl) x
          simp only [usesF]
          simp only [List.mem_append, List.mem_singleton, h3]
          simp
          constructor
          ·intro h
           rcases h with ((h | h) | h) | h <;> simp [h]
          ·intro h
           rcases h with h | h | h | h <;> simp [h])
   ·obtain ⟨B, hB⟩ : ∃ B, B = (casB 9 (d + 1) (c || 9 != 9) [] ca && decide (ca.len ≤ 20) && decide (otherP ∈ ca.keys)) := ⟨_, rfl⟩
    have KCV := hid (show ∀ W (hx : Ext wr W) (h8 : d < 8), Calls Tryz.prog 120 #[.agg #[.map (some mb)], .agg #[.int .i64 9, .string ⟨t.toArray⟩, .string ⟨n.toArray⟩, .string ⟨s.toArray⟩, .slice Ac ca.len cac, .slice Ap F.nil.len cpa], .int .i64 ((d : Int) + 1), .bool c] W (CkR W mb nn names ca B) from by rw [hB]; exact fun W hx h8 => KC.out W 9 hx h8)
    have HPB := hid ((prt_sel (d := d) (c := c) (k := 9) (by simp) HFL.out HD8.out).trans (show _ = B from hB.symm))
    clear hB KC KP
    cases B
    ·go_wp2_with (first | ((with_reducible refine (KS.out _).mono ?_); rintro e w5 ⟨rfl, rfl⟩) | ((with_reducible refine (KCV.out _ HX2.out HD8.out).mono ?_); rintro e w3 ⟨rfl, hx3, nn3, names3, hm3, hnn3, hu3⟩; have HM3 := hid hm3; have HN3 := hid hnn3; have HU3 := hid hu3; have HW3 := hid (HW2.out.names hx3 hm3 HMB.out); have HB3 := hid (HB2.out.exc hx3 hne1); have p0' := HB3.out.cell 0 _ rfl; have p2' := HB3.out.cell 2 _ rfl; have q0' := HW3.out.box.cell 0 _ rfl; clear hx3 hm3 hnn3 hu3 KCV))
     all_goals go_ret
     all_goals
      refine pa_no HW3.out ?_ (by have h1 := HNN2.out; have h2 := HN3.out; simp only [F.nodes] at h1; omega)
      rw [HFM.out, HPB.out]
      simp
    ·go_wp2_with (first | ((with_reducible refine (KS.out _).mono ?_); rintro e w5 ⟨rfl, rfl⟩) | ((with_reducible refine (KCV.out _ HX2.out HD8.out).mono ?_); rintro e w3 ⟨rfl, hx3, nn3, names3, hm3, hnn3, hu3⟩; have HM3 := hid hm3; have HN3 := hid hnn3; have HU3 := hid hu3; have HW3 := hid (HW2.out.names hx3 hm3 HMB.out); have HB3 := hid (HB2.out.exc hx3 hne1); have p0' := HB3.out.cell 0 _ rfl; have p2' := HB3.out.cell 2 _ rfl; have q0' := HW3.out.box.cell 0 _ rfl; clear hx3 hm3 hnn3 hu3 KCV) | (at_mapUpdate; refine wpList_mapUpdateS rfl _ _ _ 122 9 4 rfl Tryz.underlying9 Tryz.underlying4 Tryz.underlying122 mb _ _ rfl HW3.out.nm (by have h0 := HNN.out; have h1 := HNN2.out; have h2 := HN3.out; simp only [F.nodes] at h1; unfold maxLen; omega) ⟨n.toArray⟩ rfl rfl (by unfold maxLen; show n.length ≤ _; omega) ?_; intro w4 hm4 hg4; have HM4 := hid hm4; have HG4 := hid hg4; clear hm4 hg4))
     all_goals first
      | (exfalso
         exact hne (List.isEmpty_iff.1 (by simpa using ‹(!List.isEmpty n) = false›)))
      | (have HW4 := hid (HW3.out.names (Exc.grown HG4.out rfl) HM4.out HMB.out)
         refine ⟨⟨j + 1, nn3 + 1, names3 ++ [n], hjl, by go_num, HW4.out, ?_, by have h1 := HNN2.out; have h2 := HN3.out; simp only [F.nodes] at h1; omega, fun x => ?_⟩, by simp [intOf]; omega⟩
         ·rw [HFM.out, HPT1.out]
          rw [HPB.out]
          simp
         ·rw [← HUSE.out x]
          have h3 := HU3.out (by first | trivial | rfl) x
          simp only [usesF]
          simp only [List.mem_append, List.mem_singleton, h3]
          simp
          constructor
          ·intro h
           rcases h with ((h | h) | h) | h <;> simp [h]
          ·intro h
           rcases h with h | h | h | h <;> simp [h])
  ·have hkk : k = 2 ∨ k = 3 ∨ k = 4 ∨ k = 5 ∨ k = 6 := by omega
   have HLN := hid (show nn < maxLen from by have := HNN.out; have := HNN2.out; unfold maxLen; omega)
   have p2e : w2.cell? { block := wr.heap.size, off := 2 } = some (.string ⟨n.toArray⟩) := p2
   rcases hkk with rfl | rfl | rfl | rfl | rfl
   all_goals go_wp2_with (first | (refine (KS.out _).mono ?_; rintro e w5 ⟨rfl, rfl⟩) | (at_mapUpdate; refine wpList_mapUpdateS rfl _ _ _ 122 9 4 rfl Tryz.underlying9 Tryz.underlying4 Tryz.underlying122 mb _ _ rfl HW2.out.nm HLN.out ⟨n.toArray⟩ rfl rfl (by unfold maxLen; show n.length ≤ _; omega) ?_; intro w4 hm4 hg4; have HM4 := hid hm4; have HG4 := hid hg4; clear hm4 hg4))
   all_goals first
    | (exfalso
       exact hne (List.isEmpty_iff.1 (by simpa using ‹(!List.isEmpty n) = false›)))
    | (have HW4 := hid (HW2.out.names (Exc.grown HG4.out rfl) HM4.out HMB.out)
       refine ⟨⟨j + 1, nn + 1, names ++ [n], hjl, by go_num, HW4.out, ?_, by have h1 := HNN2.out; simp only [F.nodes] at h1; omega, fun x => ?_⟩, by simp [intOf]; omega⟩
       ·rw [HFM.out, HPT1.out]
        unfold prtB
        rw [HFL.out]
        simp
       ·rw [← HUSE.out x]
        simp only [usesF]
        simp [or_assoc])
theorem ck_all : ∀ N, CkH N
 | 0 => fun f v ok mb nn names d c w h => absurd h (Nat.not_lt_zero _)
 | N + 1 => ckparts N (ck_all N) (ckcases N (ck_all N))
end Go.Proofs.YtiijdojihleggaaGreatDoor
namespace Go.Proofs.YtiijdojihleggaaGreatDoor
open Go.RowKit
theorem mx_pos {w : World} (h : Mx w) : w.heap.size ≠ 0 := by
 obtain ⟨m, h⟩ := h
 have := World.block_lt_of_cell? w ⟨0, 0, none⟩ h
 have h2 : 0 < w.heap.size := this
 omega
theorem names_set {names : List By} {f : F} (h : ∀ x, x ∈ names ↔ x ∈ ([] : List By) ∨ x ∈ usesF f) : ∀ x, x ∈ namesF f [] ↔ x ∈ names := fun x => by
 rw [h x]
 exact (foldN_nodup (usesF f) [] List.nodup_nil).2 x
set_option maxHeartbeats 4000000 in
theorem valid_any {f : F} {v : Value} {ok : Nat → Prop} {c : Bool} {w : World} (hF : FwS w ok f v) (hcan : Can f) (hwt : wt f ≤ 40000000) (hnd : f.nodes ≤ 100000000) (hm : Mx w) :
 Calls Tryz.prog 59 #[v, .bool c] w fun e w' => e = .returned (.bool (validF c f)) ∧ Ext w w' := by
 obtain ⟨A, cc, rfl⟩ := hF.val
 have hB0 := mx_pos hm
 obtain ⟨V, hV⟩ : ∃ V, V = validF c f := ⟨_, rfl⟩
 obtain ⟨B1, hB1⟩ : ∃ B1, B1 = formB 0 c false f := ⟨_, rfl⟩
 obtain ⟨L, hL⟩ : ∃ L, L = (txtP [32] f).length := ⟨_, rfl⟩
 obtain ⟨N, hN⟩ : ∃ N, N = (namesF f []).length := ⟨_, rfl⟩
 have hVV : V = (B1 && decide (N ≤ 20) && decide (L ≤ 4000)) := by rw [hV, hB1, hL, hN]; rfl
 rw [← hV]
 have x1 : Ext w ((w.alloc (.map #[] 0)).alloc (.cells #[.map (some w.heap.size)] 138)) := ((Ext.refl w).alloc _).alloc _
 have z1 : (w.alloc (.map #[] 0)).heap.size = w.heap.size + 1 := World.size_alloc _ _
 have hbox := (AtC.new (w.alloc (.map #[] 0)) #[.map (some w.heap.size)] : AtC 138 _ _ _)
 rw [z1] at hbox
 have KP : Calls Tryz.prog 79 #[.agg #[.map (some w.heap.size)], .slice A f.len cc, .int .i64 0, .bool c] ((w.alloc (.map #[] 0)).alloc (.cells #[.map (some w.heap.size)] 138)) (CkR ((w.alloc (.map #[] 0)).alloc (.cells #[.map (some w.heap.size)] 138)) w.heap.size 0 [] f (formB 0 c false f)) := ck_all (f.nodes + 1) f _ (fun j => ok j ∧ j < w.heap.size) w.heap.size 0 [] 0 c _ (Nat.lt_succ_self _) (hF.inn.ext x1) (fun j hj e => by have := hj.2; omega) hcan ((MapS.made Tryz.prog 9 4 w).alloc _) (by omega) (hm.ext x1) hB0 (by omega)
 rw [← hB1] at KP
 have KL := fun W (hx : Ext w W) (hb : B1 = true) => length_any (w := W) (hF.ext hx) (show formB 0 c false f = true from by rw [← hB1, hb]) hwt
 simp only [← hL] at KL
 have hwL : L ≤ 1000000000 := by have := (txt_wt f).1; omega
 have HKP := hid KP
 have HKL := hid KL
 have HX1 := hid x1
 have HBX := hid hbox
 have HVV := hid hVV
 have HN := hid hN
 clear KP KL x1 hbox hVV hV hB1 hL hN z1 hF hcan hnd hm hwt
 have hmm := @run_makeMap Tryz.prog
 cases B1
 ·go_enter Tryz.func59, Tryz.ntmps59
  go_wp2_with ((with_reducible refine HKP.out.mono ?_); rintro e w3 ⟨rfl, hx3, nn', names', hm3, hn3, hu3⟩; have HX3 := hid (((Exc.of_ext HX1.out).trans hx3).ext (fun k hk => by rw [hk]; exact Nat.le_refl _)); clear hx3 hm3 hn3 hu3)
  go_ret
  exact ⟨ret_bool (by rw [HVV.out]; rfl), HX3.out⟩
 ·have HKL2 := hid (fun W hx => HKL.out W hx rfl)
  clear HKL
  go_enter Tryz.func59, Tryz.ntmps59
  go_wp2_with fail
  refine HKP.out.mono ?_
  rintro e w3 ⟨rfl, hx3, nn', names', hm3, hn3, hu3⟩
  have HX3 := hid (((Exc.of_ext HX1.out).trans hx3).ext (fun k hk => by rw [hk]; exact Nat.le_refl _))
  have hln := (hm3.same (names_set (hu3 rfl))).len Tryz.underlying9 Tryz.underlying122 (foldN_nodup _ [] List.nodup_nil).1 3
  rw [show (namesF f []).length = N from HN.out.symm] at hln
  have b0 := (HBX.out.exc hx3 (fun e => by omega)).cell 0 _ rfl
  clear hx3 hm3 hn3 hu3 hmm
  go_wp2_with (((with_reducible refine (HKL2.out _ HX3.out).mono ?_); rintro e w4 ⟨rfl, hx4⟩; have HX4 := hid (HX3.out.trans hx4); clear hx4))
  all_goals go_ret
  all_goals first
   | exact ⟨ret_bool (by rw [HVV.out, Bool.eq_iff_iff]; simp; omega), HX4.out⟩
   | exact ⟨ret_bool (by rw [HVV.out, Bool.eq_iff_iff]; simp; omega), HX3.out⟩
set_option maxHeartbeats 1000000 in
theorem tValid_any {f : F} {v : Value} {ok : Nat → Prop} {w : World} (hF : FwS w ok f v) (hcan : Can f) (hwt : wt f ≤ 40000000) (hnd : f.nodes ≤ 100000000) (hm : Mx w) :
 Calls Tryz.prog 42 #[v] w fun e w' => e = .returned (.bool (validF false f)) ∧ Ext w w' := by
 have K := hid (valid_any (c := false) hF hcan hwt hnd hm)
 obtain ⟨A, cc, rfl⟩ := hF.val
 generalize validF false f = V at K ⊢
 clear hF hcan hwt hnd hm
 go_enter Tryz.func42, Tryz.ntmps42
 go_wp2_with fail
 refine K.out.mono ?_
 rintro e w2 ⟨rfl, hx2⟩
 have HX2 := hid hx2
 clear hx2
 go_wp2
 go_ret
 exact ⟨rfl, HX2.out⟩
end Go.Proofs.YtiijdojihleggaaGreatDoor
namespace Go.Proofs.YtiijdojihleggaaGreatDoor
open Go.RowKit
end Go.Proofs.YtiijdojihleggaaGreatDoor
