import Derived.Test.YtiijdojihleggaaGreatDoorQJe
import Derived.Test.YtiijdojihleggaaGreatDoorQIag
set_option maxRecDepth 100000
set_option linter.unusedSimpArgs false
set_option linter.unusedVariables false
open Go.Lib (hid)
namespace Go.Proofs.YtiijdojihleggaaGreatDoor
open Go.RowKit
def prtT (gap : By) (k : Int) (t n s : By) (cs ps : F) : By :=
 if k = 1 then escP t
  else if k = 10 then [35]
  else if k = 11 then (if ps.len = 0 then [60] ++ n ++ [47, 62] else [60] ++ n ++ [62] ++ txtP gap ps ++ [60, 47] ++ n ++ [62])
  else if k = 2 then [123] ++ n ++ [125]
  else if 3 ≤ k ∧ k ≤ 9 then [123] ++ n ++ [44] ++ gap ++ usesP k ++ styleP gap s ++ (if 7 ≤ k then [44] else []) ++ casT gap cs ++ [125]
  else []
theorem txt_prt (gap : By) (k : Int) (t n s : By) (cs ps r : F) : txtP gap (.cons k t n s cs ps r) = prtT gap k t n s cs ps ++ txtP gap r := by rw [txtP]; rfl
theorem data_ba (l : By) : (⟨l.toArray⟩ : ByteArray).data.toList = l := rfl
theorem data_add (a b : ByteArray) : (a ++ b).data.toList = a.data.toList ++ b.data.toList := by simp
theorem txt_wtg (gap : By) : ∀ (f : F), (txtP gap f).length ≤ wt f + gap.length * (2 * f.nodes) ∧ (casT gap f).length ≤ wt f + gap.length * (2 * f.nodes) := by
 intro f
 induction f with
 | nil => rw [txtP, casT, wt]; exact ⟨Nat.zero_le _, Nat.zero_le _⟩
 | cons k t n s c p r ihc ihp ihr =>
   have h1 := escP_len t
   have h2 := uses_len k
   obtain ⟨c1, c2⟩ := ihc
   obtain ⟨p1, p2⟩ := ihp
   obtain ⟨r1, r2⟩ := ihr
   rw [F.nodes]
   have hg : gap.length * (2 * (c.nodes + p.nodes + r.nodes + 1)) = gap.length * (2 * c.nodes) + gap.length * (2 * p.nodes) + gap.length * (2 * r.nodes) + 2 * gap.length := by
    rw [Nat.mul_add, Nat.mul_add, Nat.mul_add, Nat.mul_add, Nat.mul_add, Nat.mul_add]
    omega
   rw [hg]
   refine ⟨?_, ?_⟩
   ·rw [txt_prt, wt, List.length_append]
    have h3 : (styleP gap s).length ≤ s.length + 1 + gap.length := by
     unfold styleP
     split
     ·exact Nat.zero_le _
     ·simp only [List.length_append, List.length_cons, List.length_nil]; omega
    have h4 : (if 7 ≤ k then [44] else ([] : By)).length ≤ 1 := by split <;> simp
    have h5 : (prtT gap k t n s c p).length ≤ 2 * t.length + 2 * n.length + s.length + 20 + wt c + wt p + gap.length * (2 * c.nodes) + gap.length * (2 * p.nodes) + 2 * gap.length := by
     unfold prtT
     split
     ·omega
     split
     ·simp only [List.length_cons, List.length_nil]; omega
     split
     ·split
      ·simp only [List.length_append, List.length_cons, List.length_nil]; omega
      ·simp only [List.length_append, List.length_cons, List.length_nil]; omega
     split
     ·simp only [List.length_append, List.length_cons, List.length_nil]; omega
     split
     ·simp only [List.length_append, List.length_cons, List.length_nil]; omega
     ·exact Nat.zero_le _
    omega
   ·rw [casT, wt]
    simp only [List.length_append, List.length_cons, List.length_nil]
    omega
theorem nodes_wtg : ∀ f : F, f.nodes * 20 ≤ wt f
 | .nil => Nat.le_refl _
 | .cons k t n s c p r => by
   have h1 := nodes_wtg c
   have h2 := nodes_wtg p
   have h3 := nodes_wtg r
   rw [F.nodes, wt]
   omega
theorem txt_len {gap : By} {f : F} (hg : gap.length ≤ 24) (hw : wt f ≤ 40000000) : (txtP gap f).length ≤ 200000000 := by
 have h1 := (txt_wtg gap f).1
 have h2 := nodes_wtg f
 have h3 : gap.length * (2 * f.nodes) ≤ 24 * (2 * f.nodes) := Nat.mul_le_mul_right _ hg
 omega
def TxH (gap : By) (N : Nat) : Prop := ∀ (f : F) (v : Value) (ok : Nat → Prop) (w : World), f.nodes < N → N ≤ 1000000000 → FwS w ok f v → Can f → wt f ≤ 40000000 →
 Calls Tryz.prog 62 #[v, .string ⟨gap.toArray⟩] w fun e w' => e = .returned (.string ⟨(txtP gap f).toArray⟩) ∧ Ext w w'
def TxI (w : World) (f : F) (gap R : By) (s i : Value) (wr : World) : Prop := ∃ (j : Nat) (a : ByteArray), j ≤ f.len ∧ i = .int .i64 j ∧ s = .string a ∧ a.data.toList ++ txtP gap (fdrop f j) = R ∧ Ext w wr
def TxJ (w : World) (ca : F) (gap R : By) (s i : Value) (wr : World) : Prop := ∃ (j : Nat) (a : ByteArray), j ≤ ca.len ∧ i = .int .i64 j ∧ s = .string a ∧ a.data.toList ++ casT gap (fdrop ca j) = R ∧ Ext w wr
def BWg (b : Bool) (W : World) (v : Value) (wx : World) : Prop := v = .bool b ∧ W = wx
def TxB (w : World) (l : By) (s : Value) (wr : World) : Prop := ∃ a : ByteArray, s = .string a ∧ a.data.toList = l ∧ Ext w wr
theorem case_wt : ∀ (ca : F) (i : Nat) {k : Int} {t n s : By} {cs ps r : F}, fdrop ca i = .cons k t n s cs ps r → wt ps ≤ wt ca
 | .nil, i, _, _, _, _, _, _, _, h => by cases i <;> cases h
 | .cons _ _ _ _ _ _ _, 0, _, _, _, _, _, _, _, h => by
   rw [fdrop] at h
   injection h with _ _ _ _ _ h6 _
   subst h6
   rw [wt]
   omega
 | .cons _ _ _ _ _ _ r, i + 1, _, _, _, _, _, _, _, h => by
   have := case_wt r i h
   rw [wt]
   omega
def usesC : Array Value := #[.string ⟨#[110, 117, 109, 98, 101, 114]⟩, .string ⟨#[117, 110, 105, 116]⟩, .string ⟨#[100, 97, 116, 101]⟩, .string ⟨#[108, 105, 115, 116]⟩, .string ⟨#[112, 108, 117, 114, 97, 108]⟩, .string ⟨#[111, 114, 100, 105, 110, 97, 108]⟩, .string ⟨#[115, 101, 108, 101, 99, 116]⟩]
set_option maxHeartbeats 8000000 in
theorem text_step (gap : By) (hgap : gap.length ≤ 24) (N : Nat) (hN : TxH gap N) : TxH gap (N + 1) := by
 intro f v ok w hnd hNN hF hcan hwt
 obtain ⟨Af, cf, rfl⟩ := hF.val
 have hfl : f.len ≤ 1000000000 := by have := flJ_nodes f; omega
 obtain ⟨R, hR⟩ : ∃ R, R = txtP gap f := ⟨_, rfl⟩
 obtain ⟨gb, hgb⟩ : ∃ gb : ByteArray, gb = ⟨gap.toArray⟩ := ⟨_, rfl⟩
 rw [← hR, ← hgb]
 have hgl : gb.size ≤ 24 := by rw [hgb]; exact hgap
 have hRl : R.length ≤ 200000000 := by rw [hR]; exact txt_len hgap hwt
 have HRL := hid hRl
 have HGL := hid hgap
 have HGB := hid (show gb.data.toList = gap from by rw [hgb])
 have KT := hid (show ∀ (g : F) (u : Value) (ok : Nat → Prop) (W : World), g.nodes < N → FwS W ok g u → Can g → wt g ≤ 40000000 →
  Calls Tryz.prog 62 #[u, .string gb] W fun e w' => e = .returned (.string ⟨(txtP gap g).toArray⟩) ∧ Ext W w' from fun g u ok W h1 h2 h3 h4 => by rw [hgb]; exact hN g u ok W h1 (by omega) h2 h3 h4)
 have HFW := hid hF
 have HCAN := hid hcan
 have HND := hid hnd
 have HWT := hid hwt
 obtain ⟨W0, hW0⟩ : ∃ W0, W0 = w.alloc (.cells usesC 9) := ⟨_, rfl⟩
 have HX0 := hid (show Ext w W0 from by rw [hW0]; exact (Ext.refl w).alloc _)
 have HU := hid (show AtC 9 W0 w.heap.size usesC from by rw [hW0]; exact AtC.new w _)
 have H0 := hid (show TxI W0 f gap R (.string ⟨#[]⟩) (.int .i64 0) W0 from ⟨0, _, Nat.zero_le _, rfl, rfl, by rw [fdrop_zero, hR]; rfl, Ext.refl _⟩)
 unfold usesC at hW0
 clear hF hcan hnd hwt hR hgb hgap hRl
 go_enter Tryz.func62, Tryz.ntmps62
 go_wp2_with fail
 rw [← hW0]
 clear hW0
 go_loopw [5, 7] (TxI W0 f gap R) (fun _ i _ => f.len - (intOf i).toNat)
 case atStart => exact H0.out
 case round =>
  obtain ⟨j, a, hj, rfl, rfl, hr, hw⟩ := hrel
  obtain ⟨wo, rfl⟩ : ∃ wo : World, wo = wr := ⟨_, rfl⟩
  have HW := hid hw
  by_cases hjl : j < f.len
  rotate_left
  ·have hjI : ¬ (j : Int) < (f.len : Int) := by omega
   rw [fdrop_end f j (by omega), txtP, List.append_nil] at hr
   have HRR := hid (show (.string a : Value) = .string ⟨R.toArray⟩ from by rw [← hr])
   clear hw hr
   go_wp2
   go_ret
   exact ⟨ret_val HRR.out, HX0.out.trans HW.out⟩
  have hjI : (j : Int) < (f.len : Int) := by omega
  obtain ⟨b, o, cc', k, t, n, s, ca, pa, Ac, cac, Ap, cpa, hv, hbw, _, hdr, c0, c1, c2, c3, c4, c5, hCA, hPA⟩ := (HFW.out.ext (HX0.out.trans hw)).at_ hjl
  injection hv with hA _ hcc
  subst hA hcc
  have hcn := (can_drop f j).1 HCAN.out
  have hwp := wt_drop f j hdr
  rw [hdr] at hcn hr
  rw [Can] at hcn
  obtain ⟨hnl, hsl', hcc, hcp, _⟩ := hcn
  rw [txt_prt] at hr
  have hnd2 : ca.nodes < N ∧ pa.nodes < N := by have h1 := fdrop_nodes f j; rw [hdr, F.nodes] at h1; have := HND.out; constructor <;> omega
  have hwtB := HWT.out
  have hcl : ca.len ≤ 1000000000 := by have h1 := flJ_nodes ca; have h2 := flJ_nodes f; have h3 := HND.out; have h4 := hnd2.1; have h5 := fdrop_nodes f j; rw [hdr, F.nodes] at h5; omega
  have hpl : pa.len ≤ 1000000000 := by have h1 := flJ_nodes pa; have h2 := flJ_nodes f; have h3 := HND.out; have h5 := fdrop_nodes f j; rw [hdr, F.nodes] at h5; omega
  have HR := hid hr
  have HCA := hid hCA
  have HPA := hid hPA
  have HCC := hid hcc
  have HNDC := hid hnd2.1
  have HXP := hid ((Ext.refl wo).alloc (.cells #[.int .i64 k, .string ⟨t.toArray⟩, .string ⟨n.toArray⟩, .string ⟨s.toArray⟩, .slice Ac ca.len cac, .slice Ap pa.len cpa] 96))
  have HB1 := hid (AtC.new wo #[.int .i64 k, .string ⟨t.toArray⟩, .string ⟨n.toArray⟩, .string ⟨s.toArray⟩, .slice Ac ca.len cac, .slice Ap pa.len cpa] : AtC 96 _ _ _)
  have KE := hid (fun W => (show Calls Tryz.prog 86 #[.string ⟨t.toArray⟩] W fun e w' => e = .returned (.string ⟨(escP t).toArray⟩) ∧ Ext W w' from resc_any ⟨t.toArray⟩ W (by show t.length ≤ _; omega)))
  have KP := hid (fun W (hx : Ext wo W) => KT.out pa (.slice Ap pa.len cpa) ok W hnd2.2 (HPA.out.ext hx) hcp (by omega))
  have HWC := hid (show wt ca ≤ 40000000 from by omega)
  have hal : a.size ≤ 200000000 := by
   have h := congrArg List.length hr
   rw [List.length_append, size_list] at h
   have := HRL.out
   omega
  have htl : (escP t).length ≤ 40000000 := by have h := escP_len t; omega
  have hpt : (txtP gap pa).length ≤ 200000000 := txt_len HGL.out (by omega)
  clear hw hr hCA hPA hcc hcp hnd2 hdr H0 hwp hwtB
  obtain ⟨W1, hW1⟩ : ∃ W1, W1 = wo.alloc (.cells #[.int .i64 k, .string ⟨t.toArray⟩, .string ⟨n.toArray⟩, .string ⟨s.toArray⟩, .slice Ac ca.len cac, .slice Ap pa.len cpa] 96) := ⟨_, rfl⟩
  rw [← hW1] at HXP HB1
  have p0 := HB1.out.cell 0 _ rfl
  have p1 := HB1.out.cell 1 _ rfl
  have p2 := HB1.out.cell 2 _ rfl
  have p3 := HB1.out.cell 3 _ rfl
  have p4 := HB1.out.cell 4 _ rfl
  have p5 := HB1.out.cell 5 _ rfl
  by_cases h1 : k = 1
  ·subst h1
   have HR1 := hid (show a.data.toList ++ (escP t ++ txtP gap (fdrop f (j + 1))) = R from HR.out)
   clear HR
   go_upto_region 8 with (fail)
   rw [← hW1]
   clear hW1
   go_wp2_with (go_at_call 86; with_reducible refine (KE.out _).mono ?_; rintro e w2 ⟨rfl, hx2⟩; have HX2 := hid hx2; clear hx2)
   exact ⟨⟨j + 1, _, hjl, by go_num, rfl, by rw [data_add, data_ba, List.append_assoc]; exact HR1.out, HW.out.trans (HXP.out.trans HX2.out)⟩, by simp [intOf]; omega⟩
  have b1 : (k == 1) = false := by rw [beq_eq_false_iff_ne]; exact h1
  by_cases h10 : k = 10
  ·subst h10
   have HR1 := hid (show a.data.toList ++ ([35] ++ txtP gap (fdrop f (j + 1))) = R from HR.out)
   clear HR
   go_upto_region 10 with (fail)
   rw [← hW1]
   clear hW1
   go_wp2_with fail
   exact ⟨⟨j + 1, _, hjl, by go_num, rfl, by rw [data_add, List.append_assoc]; exact HR1.out, HW.out.trans HXP.out⟩, by simp [intOf]; omega⟩
  have b10 : (k == 10) = false := by rw [beq_eq_false_iff_ne]; exact h10
  by_cases h11 : k = 11
  ·subst h11
   have HR1 := hid (show a.data.toList ++ ((if pa.len = 0 then [60] ++ n ++ [47, 62] else [60] ++ n ++ [62] ++ txtP gap pa ++ [60, 47] ++ n ++ [62]) ++ txtP gap (fdrop f (j + 1))) = R from HR.out)
   clear HR
   by_cases hp0 : pa.len = 0
   ·have HR2 := hid (show a.data.toList ++ (([60] ++ n ++ [47, 62]) ++ txtP gap (fdrop f (j + 1))) = R from by have h := HR1.out; rw [if_pos hp0] at h; exact h)
    have hp0I : ((pa.len : Int) == 0) = true := by rw [hp0]; rfl
    clear HR1 hp0
    go_upto_region 12 with (fail)
    rw [← hW1]
    clear hW1
    go_wp2_with fail
    exact ⟨⟨j + 1, _, hjl, by go_num, rfl, by rw [data_add, data_add, data_add, data_ba, ← HR2.out]; simp, HW.out.trans HXP.out⟩, by simp [intOf]; omega⟩
   have HR2 := hid (show a.data.toList ++ (([60] ++ n ++ [62] ++ txtP gap pa ++ [60, 47] ++ n ++ [62]) ++ txtP gap (fdrop f (j + 1))) = R from by have h := HR1.out; rw [if_neg hp0] at h; exact h)
   have hp0I : ((pa.len : Int) == 0) = false := by rw [beq_eq_false_iff_ne]; omega
   clear HR1 hp0
   have KPE := hid (fun y : ExtW W1 => KP.out y.v (HXP.out.trans y.h))
   generalize hTP : txtP gap pa = TP at *
   have y2 : ∀ y : ExtW W1, y.v.cell? ⟨wo.heap.size, 2, none⟩ = some (.string ⟨n.toArray⟩) := fun y => (HB1.out.ext y.h).cell 2 _ rfl
   have y5 : ∀ y : ExtW W1, y.v.cell? ⟨wo.heap.size, 5, none⟩ = some (.slice Ap pa.len cpa) := fun y => (HB1.out.ext y.h).cell 5 _ rfl
   go_upto_region 14 with (fail)
   rw [← hW1]
   clear hW1
   refine wp_region_ext (by kernel_rfl) (by kernel_rfl) ?_
   repeat (go_big_quiet_step ((go_at_call 62; with_reducible exact ExtW.call (KPE.out _))))
   refine wpQuiet_nil ?_
   intro wx hx
   have HX2 := hid (show Ext W1 wx from by obtain ⟨y, hy⟩ := hx; rw [hy]; exact y.h)
   clear hx y2 y5
   go_wp2_with fail
   exact ⟨⟨j + 1, _, hjl, by go_num, rfl, by simp only [data_add, data_ba]; rw [← HR2.out]; simp, HW.out.trans (HXP.out.trans HX2.out)⟩, by simp [intOf]; omega⟩
  have b11 : (k == 11) = false := by rw [beq_eq_false_iff_ne]; exact h11
  by_cases h2 : k = 2
  ·subst h2
   have HR1 := hid (show a.data.toList ++ ([123] ++ n ++ [125] ++ txtP gap (fdrop f (j + 1))) = R from HR.out)
   clear HR
   go_upto_region 16 with (fail)
   rw [← hW1]
   clear hW1
   go_wp2_with fail
   exact ⟨⟨j + 1, _, hjl, by go_num, rfl, by rw [data_add, data_add, data_add, data_ba, ← HR1.out]; simp, HW.out.trans HXP.out⟩, by simp [intOf]; omega⟩
  have b2 : (k == 2) = false := by rw [beq_eq_false_iff_ne]; exact h2
  by_cases h39 : 3 ≤ k ∧ k ≤ 9
  rotate_left
  ·have HR1 := hid (show a.data.toList ++ txtP gap (fdrop f (j + 1)) = R from by
    have h := HR.out
    unfold prtT at h
    rw [if_neg h1, if_neg h10, if_neg h11, if_neg h2, if_neg h39] at h
    exact h)
   clear HR
   go_upto_region 17 with (fail)
   rw [← hW1]
   clear hW1
   by_cases h3 : 3 ≤ k
   ·have h9 : ¬ k ≤ 9 := fun h => h39 ⟨h3, h⟩
    go_wp2_with fail
    exact ⟨⟨j + 1, _, hjl, by go_num, rfl, HR1.out, HW.out.trans HXP.out⟩, by simp [intOf]; omega⟩
   ·go_wp2_with fail
    exact ⟨⟨j + 1, _, hjl, by go_num, rfl, HR1.out, HW.out.trans HXP.out⟩, by simp [intOf]; omega⟩
  have HR1 := hid (show a.data.toList ++ ([123] ++ n ++ [44] ++ gap ++ usesP k ++ styleP gap s ++ (if 7 ≤ k then [44] else []) ++ casT gap ca ++ [125] ++ txtP gap (fdrop f (j + 1))) = R from by
   have h := HR.out
   unfold prtT at h
   rw [if_neg h1, if_neg h10, if_neg h11, if_neg h2, if_pos h39] at h
   exact h)
  clear HR
  obtain ⟨h3, h9⟩ := h39
  have H39 := hid (And.intro h3 h9)
  have HUI := hid (HU.out.ext HW.out)
  obtain ⟨k3, hk3⟩ : ∃ k3 : Nat, (k3 : Int) = k - 3 := ⟨(k - 3).toNat, by omega⟩
  have hk7 : (k3 : Int) < 7 := by omega
  have hk0 : ¬ k - 3 < 0 := by omega
  have hkw : IntKind.i64.wrap (k - 3) = (k3 : Int) := by rw [hk3]; exact IntWalk.i64_in _ (by omega)
  have hul := uses_len k
  obtain ⟨up, hup⟩ : ∃ up : By, up = usesP k := ⟨_, rfl⟩
  rw [← hup] at hul
  have hcell : usesC[k3]? = some (.string ⟨up.toArray⟩) := by
   have h : k3 = 0 ∨ k3 = 1 ∨ k3 = 2 ∨ k3 = 3 ∨ k3 = 4 ∨ k3 = 5 ∨ k3 = 6 := by omega
   rcases h with rfl | rfl | rfl | rfl | rfl | rfl | rfl
   ·obtain rfl : k = 3 := by omega
    subst hup; rfl
   ·obtain rfl : k = 4 := by omega
    subst hup; rfl
   ·obtain rfl : k = 5 := by omega
    subst hup; rfl
   ·obtain rfl : k = 6 := by omega
    subst hup; rfl
   ·obtain rfl : k = 7 := by omega
    subst hup; rfl
   ·obtain rfl : k = 8 := by omega
    subst hup; rfl
   ·obtain rfl : k = 9 := by omega
    subst hup; rfl
  have y0 : ∀ y : ExtW W1, y.v.cell? ⟨wo.heap.size, 0, none⟩ = some (.int .i64 k) := fun y => (HB1.out.ext y.h).cell 0 _ rfl
  have y2 : ∀ y : ExtW W1, y.v.cell? ⟨wo.heap.size, 2, none⟩ = some (.string ⟨n.toArray⟩) := fun y => (HB1.out.ext y.h).cell 2 _ rfl
  have yu : ∀ y : ExtW W1, y.v.cell? ⟨w.heap.size, k3, none⟩ = some (.string ⟨up.toArray⟩) := fun y => (HUI.out.ext (HXP.out.trans y.h)).cell k3 _ hcell
  have HUP := hid hup
  have HK3 := hid hk3
  clear hup hk3 hcell
  go_upto_region 18 with (fail)
  rw [← hW1]
  clear hW1
  go_cut [5] (TxB W1 (a.data.toList ++ ([123] ++ n ++ [44] ++ gap ++ up)))
  case first =>
   refine wp_region_ext (by kernel_rfl) (by kernel_rfl) ?_
   repeat (go_big_quiet_step (fail))
   refine wpQuiet_nil ?_
   intro wx hx
   have HX2 := hid (show Ext W1 wx from by obtain ⟨y, hy⟩ := hx; rw [hy]; exact y.h)
   clear hx y0 y2 yu
   go_wp2
   go_meet
   exact ⟨_, rfl, by simp only [data_add, data_ba]; rw [HGB.out], HX2.out⟩
  case rest =>
  obtain ⟨a2, rfl, ha2, hx2⟩ := hcut
  have hl2 : a2.size ≤ 210000000 := by
   have h := congrArg List.length ha2
   simp only [List.length_append, List.length_cons, List.length_nil, size_list] at h
   have hg := HGL.out
   omega
  have HA2 := hid ha2
  have HX2 := hid hx2
  have q3 := (HB1.out.ext hx2).cell 3 _ rfl
  have HSM := hid (show (s = [] → styleP gap s = []) ∧ (¬ s = [] → styleP gap s = [44] ++ gap ++ s) from ⟨fun h => by unfold styleP; rw [if_pos h], fun h => by unfold styleP; rw [if_neg h]⟩)
  clear ha2 hx2 y0 y2 yu p0 p1 p2 p3 p4 p5
  obtain ⟨stb, hstb⟩ : ∃ stb, stb = (!(s == [])) := ⟨_, rfl⟩
  have HSTB := hid hstb
  clear hstb
  go_upto_region 19 with (fail)
  go_cut [108] (BWg stb wc)
  case first =>
   go_wp2_with fail
   go_meet
   exact ⟨by rw [HSTB.out]; cases s <;> rfl, rfl⟩
  case rest =>
  obtain ⟨rfl, rfl⟩ := hcut
  go_upto_if 108 with (fail)
  go_cut [5] (TxB wc (a.data.toList ++ ([123] ++ n ++ [44] ++ gap ++ up) ++ styleP gap s))
  case first =>
   by_cases hs0 : s = []
   ·obtain rfl : stb = false := by rw [HSTB.out, hs0]; rfl
    have HSM1 := hid (HSM.out.1 hs0)
    clear HSM HSTB hs0
    go_wp2_with fail
    go_meet
    exact ⟨a2, rfl, by rw [HA2.out, HSM1.out, List.append_nil], Ext.refl _⟩
   ·obtain rfl : stb = true := by rw [HSTB.out]; simp [hs0]
    have HSM1 := hid (HSM.out.2 hs0)
    clear HSM HSTB hs0
    go_wp2_with fail
    go_meet
    exact ⟨_, rfl, by simp only [data_add, data_ba]; rw [HA2.out, HSM1.out, HGB.out], Ext.refl _⟩
  case rest =>
  obtain ⟨a3, rfl, ha3, hx3⟩ := hcut
  have hl3 : a3.size ≤ 220000000 := by
   have h := congrArg List.length ha3
   have h2 : (styleP gap s).length ≤ s.length + 1 + gap.length := by
    unfold styleP
    split
    ·exact Nat.zero_le _
    ·simp only [List.length_append, List.length_cons, List.length_nil]; omega
   simp only [List.length_append, List.length_cons, List.length_nil, size_list] at h
   have hg := HGL.out
   omega
  have HA3 := hid ha3
  have HX3 := hid (HX2.out.trans hx3)
  have r0 := (HB1.out.ext (HX2.out.trans hx3)).cell 0 _ rfl
  clear ha3 hx3 q3 HSM HSTB
  have KS := hid (fun W => rsel26_any k W)
  obtain ⟨sb, hsb⟩ : ∃ sb, sb = ((k == 7 || k == 8) || k == 9) := ⟨_, rfl⟩
  rw [← hsb] at KS
  have HSB := hid (show (if 7 ≤ k then [44] else ([] : By)) = if sb = true then [44] else [] from by
   have h := H39.out
   have e : (7 ≤ k) ↔ sb = true := by
    rw [hsb, Bool.or_eq_true, Bool.or_eq_true, beq_iff_eq, beq_iff_eq, beq_iff_eq]
    omega
   by_cases h7 : 7 ≤ k
   ·rw [if_pos h7, if_pos (e.1 h7)]
   ·rw [if_neg h7, if_neg (fun q => h7 (e.2 q))])
  clear hsb
  obtain ⟨W3, hW3⟩ : ∃ W3 : World, W3 = wc := ⟨_, rfl⟩
  rw [← hW3] at HX3 r0
  go_upto_region 21 with (fail)
  rw [← hW3]
  clear hW3
  go_cut [118] (BWg sb W3)
  case first =>
   go_wp2_with (go_at_call 81; with_reducible refine (KS.out _).mono ?_; rintro e w2 ⟨rfl, rfl⟩)
   go_meet
   exact ⟨rfl, rfl⟩
  case rest =>
  obtain ⟨rfl, rfl⟩ := hcut
  go_upto_if 118 with (fail)
  go_cut [5] (TxB W3 (a3.data.toList ++ (if sb = true then [44] else [])))
  case first =>
   cases sb
   ·go_wp2_with fail
    go_meet
    exact ⟨a3, rfl, by simp, Ext.refl _⟩
   ·go_wp2_with fail
    go_meet
    exact ⟨_, rfl, by simp only [data_add]; rfl, Ext.refl _⟩
  case rest =>
  obtain ⟨a4, rfl, ha4, hx4⟩ := hcut
  obtain ⟨RC, hRC⟩ : ∃ RC, RC = a4.data.toList ++ casT gap ca := ⟨_, rfl⟩
  have HRC := hid (show RC ++ [125] ++ txtP gap (fdrop f (j + 1)) = R from by
   rw [hRC, ha4, HA3.out, ← HR1.out, HSB.out, HUP.out]
   simp)
  have HX4 := hid (HX3.out.trans hx4)
  have H4 := hid (show TxJ wc ca gap RC (.string a4) (.int .i64 0) wc from ⟨0, a4, Nat.zero_le _, rfl, rfl, by rw [fdrop_zero, hRC], Ext.refl _⟩)
  have HRL2 := hid (show RC.length ≤ 200000000 from by
   have h := congrArg List.length HRC.out
   simp only [List.length_append, List.length_cons, List.length_nil] at h
   have := HRL.out
   omega)
  have HB4 := hid (HB1.out.ext (HX3.out.trans hx4))
  clear ha4 hx4 hRC r0 HSB HR1 HUP HA2 HA3 HUI KS
  obtain ⟨W4, hW4⟩ : ∃ W4 : World, W4 = wc := ⟨_, rfl⟩
  rw [← hW4] at HX4 H4 HB4
  go_wp2_with fail
  rw [← hW4]
  clear hW4
  go_loopw [5, 9] (TxJ W4 ca gap RC) (fun _ i _ => ca.len - (intOf i).toNat)
  case atStart => exact H4.out
  case round =>
   obtain ⟨m, a5, hm, rfl, rfl, hr5, hx5⟩ := hrel
   obtain ⟨wi, rfl⟩ : ∃ wi : World, wi = wr := ⟨_, rfl⟩
   have HX5 := hid hx5
   have hl5 : a5.size ≤ 200000000 := by
    have h := congrArg List.length hr5
    simp only [List.length_append, size_list] at h
    have := HRL2.out
    omega
   have q4 := (HB4.out.ext hx5).cell 4 _ rfl
   by_cases hml : m < ca.len
   rotate_left
   ·have hmI : ¬ (m : Int) < (ca.len : Int) := by omega
    rw [fdrop_end ca m (by omega), casT, List.append_nil] at hr5
    have HF := hid (show (a5 ++ ⟨#[125]⟩ : ByteArray).data.toList ++ txtP gap (fdrop f (j + 1)) = R from by
     rw [data_add, hr5]
     exact HRC.out)
    clear hx5 hr5
    go_wp2_with fail
    exact ⟨⟨j + 1, _, hjl, by go_num, rfl, HF.out, HW.out.trans (HXP.out.trans (HX4.out.trans HX5.out))⟩, by simp [intOf]; omega⟩
   have hmI : (m : Int) < (ca.len : Int) := by omega
   obtain ⟨b', o', cc2, k', t', n', s', ca', pa', Ap', cp', hv', hbw', _, hdr', d0, d1, hPA'⟩ := (HCA.out.ext (HXP.out.trans (HX4.out.trans hx5))).at_ hml
   injection hv' with hA' _ hcc'
   subst hA' hcc'
   rw [hdr', casT] at hr5
   have hwp' := case_wt ca m hdr'
   have hwcB := HWC.out
   have hn2 : pa'.nodes < N := by have h1 := fdrop_nodes ca m; rw [hdr', F.nodes] at h1; have := HNDC.out; omega
   have hcp' : Can pa' ∧ n'.length ≤ 1048576 := by
    have h := (can_drop ca m).2 HCC.out
    rw [hdr', CanC] at h
    exact ⟨h.2.2.2.2.2.1, h.2.2.2.2.1⟩
   have hnl' := hcp'.2
   have KPE := hid (fun y : ExtW wi => KT.out pa' (.slice Ap' pa'.len cp') ok y.v hn2 (hPA'.ext y.h) hcp'.1 (by omega))
   have htp' : (txtP gap pa').length ≤ 200000000 := txt_len HGL.out (by omega)
   have HR5 := hid hr5
   have HBI := hid (HB4.out.ext hx5)
   have y4 : ∀ y : ExtW wi, y.v.cell? ⟨wo.heap.size, 4, none⟩ = some (.slice (some ⟨b', o', none⟩) ca.len cac) := fun y => (HBI.out.ext y.h).cell 4 _ rfl
   have y0 : ∀ y : ExtW wi, y.v.cell? ⟨b', o' + m * 2, none⟩ = some (.string ⟨n'.toArray⟩) := fun y => (Ext.cell y.h (World.block_lt_of_cell? _ _ d0)).trans d0
   have y1 : ∀ y : ExtW wi, y.v.cell? ⟨b', o' + m * 2 + 1, none⟩ = some (.slice Ap' pa'.len cp') := fun y => (Ext.cell y.h (World.block_lt_of_cell? _ _ d1)).trans d1
   generalize hTP : txtP gap pa' = TP at *
   clear hx5 hr5 hPA' hdr' hwp' hwcB hn2 hcp'
   go_wp2_with fail
   refine wp_region_ext (by kernel_rfl) (by kernel_rfl) ?_
   repeat (go_big_quiet_step ((go_at_call 62; with_reducible exact ExtW.call (KPE.out _))))
   refine wpQuiet_nil ?_
   intro wx hx
   have HX6 := hid (show Ext wi wx from by obtain ⟨y, hy⟩ := hx; rw [hy]; exact y.h)
   clear hx y0 y1 y4
   go_wp2_with fail
   exact ⟨⟨m + 1, _, hml, by go_num, rfl, by simp only [data_add, data_ba]; rw [HGB.out, ← HR5.out]; simp, HX5.out.trans HX6.out⟩, by simp [intOf]; omega⟩
theorem text_all (gap : By) (hg : gap.length ≤ 24) : ∀ N, TxH gap N
 | 0 => fun f v ok w h => absurd h (Nat.not_lt_zero _)
 | N + 1 => text_step gap hg N (text_all gap hg N)
end Go.Proofs.YtiijdojihleggaaGreatDoor
