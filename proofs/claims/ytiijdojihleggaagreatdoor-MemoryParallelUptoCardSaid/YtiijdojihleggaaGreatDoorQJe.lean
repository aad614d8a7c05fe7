import Derived.Test.YtiijdojihleggaaGreatDoorQJag
import Derived.Test.YtiijdojihleggaaGreatDoorQRDecg
import Derived.Deep.RegionLaw
import Derived.Deep.RegionWith
set_option maxRecDepth 100000
set_option linter.unusedSimpArgs false
set_option linter.unusedVariables false
open Go.Lib (hid)
namespace Go.Proofs.YtiijdojihleggaaGreatDoor
open Go.RowKit
theorem je_new (w : World) (a b : Obj) : ((w.alloc a).alloc b).drew.heap[w.heap.size + 1]? = some b := by
 have h := heap_alloc_new (w.alloc a) b
 have e : (w.alloc a).heap.size = w.heap.size + 1 := by simp
 rw [e] at h
 exact h
theorem je_old (w : World) (a b : Obj) : ((w.alloc a).alloc b).drew.heap[w.heap.size]? = some a := by
 have h := heap_alloc_new w a
 have h2 := Below.heap_alloc (w.alloc a) b w.heap.size (by simp)
 exact h2.trans h
theorem je_own3 (w : World) (o : Obj) : ((w.alloc o).alloc (.cells #[] 9)).drew.ownsRow w.heap.size 9 1 (.slice (some ⟨w.heap.size + 1, 0, none⟩) 0 0) 0 [] :=
 ⟨rfl, .inr ⟨w.heap.size + 1, 0, #[], rfl, by omega, je_new w _ _, Nat.le_refl _, Nat.zero_le _, rfl, rfl⟩⟩
theorem je_kept {W w' : World} {g : Nat} {u : Value} {row : Option Nat} (hg : W.grownBy w' row) (hW : W.heap[g]? = some (.cells #[u] 9)) (hne : some g ≠ row) : Sl w' (some ⟨g, 0, none⟩) 1 [u] := by
 have hlt : g < W.heap.size := (Array.getElem?_eq_some_iff.1 hW).1
 have h1 := (hg.block g hlt hne).trans hW
 refine ⟨rfl, fun j x hx => ⟨_, rfl, (Array.getElem?_eq_some_iff.1 h1).1, ?_⟩⟩
 have hj : j = 0 := by have := (List.getElem?_eq_some_iff.1 hx).1; simp at this; exact this
 subst hj
 simp at hx
 subst hx
 show w'.cell? ⟨g, 0, none⟩ = some u
 rw [cell_of_row w' g 0 #[u] 9 (0, 0) h1]
 rfl
theorem je_sl {w : World} {A : Option Addr} {n : Nat} {xs : List Value} (h : SlN w A n 1 xs) : Sl w A n xs :=
 ⟨by rw [h.1]; omega, fun j u hu => by
  obtain ⟨b, o, e, hb, hc⟩ := h.2 j u hu
  subst e
  refine ⟨_, rfl, hb, ?_⟩
  have ea : (⟨b, o, none⟩ : Addr).add j = ⟨b, o + j, none⟩ := by
   unfold Addr.add
   split
   ·subst_vars; rfl
   ·rfl
  rw [ea]
  exact hc⟩
theorem names_nodes : ∀ (f : F) (ns : List By), (namesF f ns).length ≤ ns.length + f.nodes
 | .nil, ns => by rw [namesF_nil]; omega
 | .cons k t n s cs ps r, ns => by
   rw [namesF_cons, F.nodes]
   have h1 : ((if 2 ≤ k ∧ k ≤ 9 then addN ns n else ns) : List By).length ≤ ns.length + 1 := by
    split
    ·unfold addN; split <;> simp
    ·omega
   have h2 := names_nodes ps (if 2 ≤ k ∧ k ≤ 9 then addN ns n else ns)
   have h3 := names_nodes cs (namesF ps (if 2 ≤ k ∧ k ≤ 9 then addN ns n else ns))
   have h4 := names_nodes r (namesF cs (namesF ps (if 2 ≤ k ∧ k ≤ 9 then addN ns n else ns)))
   omega
def namesC : F → List By → List By
 | .nil, ns => ns
 | .cons _ _ _ _ _ ps r, ns => namesC r (namesF ps ns)
theorem namesC_eq : ∀ f : F, CanC f → ∀ ns, namesC f ns = namesF f ns
 | .nil, _, ns => rfl
 | .cons k t n s cs ps r, h, ns => by
   rw [CanC] at h
   obtain ⟨rfl, rfl, rfl, rfl, _, _, h⟩ := h
   rw [namesC, namesF_cons, namesF_nil, if_neg (by omega), namesC_eq r h]
theorem namesC_nodes : ∀ (f : F) (ns : List By), (namesC f ns).length ≤ ns.length + f.nodes
 | .nil, ns => by rw [namesC]; omega
 | .cons k t n s cs ps r, ns => by
   rw [namesC, F.nodes]
   have h2 := names_nodes ps ns
   have h3 := namesC_nodes r (namesF ps ns)
   omega
def RetNs (w : World) (l : List By) (e : Ending) (w' : World) : Prop := ∃ A c, e = .returned (.slice A l.length c) ∧ SlN w' A l.length 1 (strC l) ∧ Ext w w'
def NmH (N : Nat) : Prop := ∀ (f : F) (v : Value) (ok : Nat → Prop) (ns : List By) (A : Option Addr) (c : Nat) (w : World), f.nodes < N → N ≤ 100000000 → FwS w ok f v → Can f → SlN w A ns.length 1 (strC ns) → ns.length + f.nodes ≤ 200000000 →
 Calls Tryz.prog 61 #[v, .slice A ns.length c] w (RetNs w (namesF f ns))
def NmI (w : World) (f : F) (L : List By) (B : Nat) (names i : Value) (wr : World) : Prop :=
 ∃ (j : Nat) (ns : List By) (A : Option Addr) (c : Nat), j ≤ f.len ∧ i = .int .i64 j ∧ names = .slice A ns.length c ∧ SlN wr A ns.length 1 (strC ns) ∧ namesF (fdrop f j) ns = L ∧ ns.length + (fdrop f j).nodes ≤ B ∧ Ext w wr
def NmR (W1 : World) (ns : List By) (names : Value) (wr : World) : Prop := ∃ (A : Option Addr) (c : Nat), names = .slice A ns.length c ∧ SlN wr A ns.length 1 (strC ns) ∧ Ext W1 wr
def BWj (b : Bool) (W : World) (v : Value) (wx : World) : Prop := v = .bool b ∧ W = wx
def NmJ (w : World) (ca : F) (L : List By) (B : Nat) (names i : Value) (wr : World) : Prop :=
 ∃ (j : Nat) (ns : List By) (A : Option Addr) (c : Nat), j ≤ ca.len ∧ i = .int .i64 j ∧ names = .slice A ns.length c ∧ SlN wr A ns.length 1 (strC ns) ∧ namesC (fdrop ca j) ns = L ∧ ns.length + (fdrop ca j).nodes ≤ B ∧ Ext w wr
set_option maxHeartbeats 8000000 in
theorem names_step (N : Nat) (hN : NmH N) : NmH (N + 1) := by
 intro f v ok ns A c w hnd hNN hF hcan hns hB
 obtain ⟨Af, cf, rfl⟩ := hF.val
 obtain ⟨i0, hi, hz0, hz1, hz2⟩ := info_parts (show (Tryz.prog.info? 9).map (fun i => (i.zero, i.size, i.bytes)) = some (some (.string ⟨#[]⟩), 1, 16) from by kernel_rfl)
 have hfl : f.len ≤ 1000000000 := by have := flJ_nodes f; omega
 obtain ⟨L, hL⟩ : ∃ L, L = namesF f ns := ⟨_, rfl⟩
 obtain ⟨B, hBB⟩ : ∃ B, B = ns.length + f.nodes := ⟨_, rfl⟩
 rw [← hL]
 have HFW := hid hF
 have HCAN := hid hcan
 have HND := hid hnd
 have HNN := hid hNN
 have HB := hid (show B ≤ 200000000 from by omega)
 have H0 := hid (show NmI w f L B (.slice A ns.length c) (.int .i64 0) w from ⟨0, ns, A, c, Nat.zero_le _, rfl, rfl, hns, by rw [fdrop_zero]; exact hL.symm, by rw [fdrop_zero]; omega, Ext.refl _⟩)
 clear hF hcan hnd hNN hB hns hL hBB
 go_enter Tryz.func61, Tryz.ntmps61
 go_wp2_with fail
 go_loopw [1, 5] (NmI w f L B) (fun _ i _ => f.len - (intOf i).toNat)
 case atStart => exact H0.out
 case round =>
  obtain ⟨j, ns, A, c, hj, rfl, rfl, hsl, hnm, hb, hw⟩ := hrel
  obtain ⟨wo, rfl⟩ : ∃ wo : World, wo = wr := ⟨_, rfl⟩
  have HW := hid hw
  by_cases hjl : j < f.len
  rotate_left
  ·have hjI : ¬ (j : Int) < (f.len : Int) := by omega
   rw [fdrop_end f j (by omega), namesF_nil] at hnm
   subst hnm
   have HSL := hid hsl
   clear hw hb hsl
   go_wp2
   go_ret
   exact ⟨_, _, rfl, HSL.out, HW.out⟩
  have hjI : (j : Int) < (f.len : Int) := by omega
  obtain ⟨b, o, cc', k, t, n, s, ca, pa, Ac, cac, Ap, cpa, hv, hbw, _, hdr, c0, c1, c2, c3, c4, c5, hCA, hPA⟩ := (HFW.out.ext hw).at_ hjl
  injection hv with hA _ hcc
  subst hA hcc
  have hcn := (can_drop f j).1 HCAN.out
  rw [hdr] at hcn hnm hb
  rw [Can] at hcn
  obtain ⟨hnl, hsl', hcc, hcp, _⟩ := hcn
  rw [namesF_cons] at hnm
  rw [F.nodes] at hb
  have hnd2 : ca.nodes < N ∧ pa.nodes < N := by have h1 := fdrop_nodes f j; rw [hdr, F.nodes] at h1; have := HND.out; constructor <;> omega
  obtain ⟨n1, hn1⟩ : ∃ n1 : List By, n1 = if 2 ≤ k ∧ k ≤ 9 then addN ns n else ns := ⟨_, rfl⟩
  rw [← hn1] at hnm
  have hl1 : n1.length ≤ ns.length + 1 := by
   rw [hn1]
   split
   ·unfold addN; split <;> simp
   ·omega
  have hl2 := names_nodes pa n1
  have hl3 := namesC_nodes ca (namesF pa n1)
  have hnsB : ns.length ≤ 200000000 := by have := HB.out; omega
  rw [← namesC_eq ca hcc] at hnm
  have HN1 := hid hn1
  have HNM := hid hnm
  have HSL := hid hsl
  have HSLS := hid (je_sl hsl)
  have HCA := hid hCA
  have HPA := hid hPA
  have hcl : ca.len ≤ 1000000000 := by have h1 := flJ_nodes ca; have := HNN.out; omega
  have HXP := hid ((Ext.refl wo).alloc (.cells #[.int .i64 k, .string ⟨t.toArray⟩, .string ⟨n.toArray⟩, .string ⟨s.toArray⟩, .slice Ac ca.len cac, .slice Ap pa.len cpa] 96))
  have HB1 := hid (AtC.new wo #[.int .i64 k, .string ⟨t.toArray⟩, .string ⟨n.toArray⟩, .string ⟨s.toArray⟩, .slice Ac ca.len cac, .slice Ap pa.len cpa] : AtC 96 _ _ _)
  have KI := hid (fun W (hx : Ext wo W) => rin26_any ns A c n W (HSL.out.ext hx) (by omega))
  have KP := hid (fun W (hx : Ext wo W) A' c' (hs : SlN W A' n1.length 1 (strC n1)) => (show Calls Tryz.prog 61 #[.slice Ap pa.len cpa, .slice A' n1.length c'] W (RetNs W (namesF pa n1)) from
   hN pa _ ok n1 A' c' W hnd2.2 (by have := HNN.out; omega) (HPA.out.ext hx) hcp hs (by have := HB.out; omega)))
  have HPB := hid (And.intro hl2 (And.intro hl3 (And.intro hl1 hb)))
  have HCC := hid hcc
  have HNDC := hid hnd2.1
  have HNMEM := hid (show 2 ≤ k → k ≤ 9 → n1 = if n ∈ ns then ns else ns ++ [n] from fun h1 h2 => by rw [hn1, if_pos ⟨h1, h2⟩]; rfl)
  have HNONE := hid (show ¬ (2 ≤ k ∧ k ≤ 9) → n1 = ns from fun h1 => by rw [hn1, if_neg h1])
  clear hw hnm hsl hCA hPA hcc hcp hnd2 hdr hn1 hl1 hl2 hl3 hb H0
  have p0 := HB1.out.cell 0 _ rfl
  have p2 := HB1.out.cell 2 _ rfl
  obtain ⟨W1, hW1⟩ : ∃ W1, W1 = wo.alloc (.cells #[.int .i64 k, .string ⟨t.toArray⟩, .string ⟨n.toArray⟩, .string ⟨s.toArray⟩, .slice Ac ca.len cac, .slice Ap pa.len cpa] 96) := ⟨_, rfl⟩
  rw [← hW1] at p0 p2 HXP HB1
  obtain ⟨bb, hbb⟩ : ∃ bb, bb = (decide (2 ≤ k) && decide (k ≤ 9) && !decide (n ∈ ns)) := ⟨_, rfl⟩
  have HBB := hid hbb
  have HAW := hid hW1
  clear hbb
  go_upto_region 5 with (fail)
  rw [← hW1]
  clear hW1
  go_cut [32] (BWj bb W1)
  case first =>
   by_cases h2 : 2 ≤ k
   rotate_left
   ·have HF := hid (show bb = false from by rw [HBB.out, decide_eq_false h2]; rfl)
    clear HBB
    go_wp2_with fail
    all_goals go_meet
    all_goals exact ⟨by rw [HF.out], rfl⟩
   by_cases h9 : k ≤ 9
   rotate_left
   ·have HF := hid (show bb = false from by rw [HBB.out, decide_eq_false h9, Bool.and_false]; rfl)
    clear HBB
    go_wp2_with fail
    all_goals go_meet
    all_goals exact ⟨by rw [HF.out], rfl⟩
   have HF := hid (show bb = !decide (n ∈ ns) from by rw [HBB.out, decide_eq_true h2, decide_eq_true h9]; rfl)
   have KI2 := hid (KI.out W1 HXP.out)
   generalize decide (n ∈ ns) = bn at HF KI2
   clear HBB
   go_wp2_with (go_at_call 83; with_reducible refine KI2.out.mono ?_; rintro e w2 ⟨rfl, rfl⟩)
   all_goals go_meet
   all_goals exact ⟨by rw [HF.out], rfl⟩
  case rest =>
  obtain ⟨rfl, rfl⟩ := hcut
  go_upto_if 32 with (fail)
  go_cut [1] (NmR W1 n1)
  case first =>
   cases bb
   ·have HN0 := hid (show n1 = ns from by
     by_cases h : 2 ≤ k ∧ k ≤ 9
     ·rw [HNMEM.out h.1 h.2, if_pos]
      have := HBB.out
      rw [decide_eq_true h.1, decide_eq_true h.2] at this
      simpa using this
     ·exact HNONE.out h)
    clear HBB
    go_wp2_with fail
    go_meet
    exact ⟨A, c, by rw [HN0.out], by rw [HN0.out]; exact HSL.out.ext HXP.out, Ext.refl _⟩
   ·have HN0 := hid (show n1 = ns ++ [n] from by
     have hb := HBB.out
     by_cases h : 2 ≤ k ∧ k ≤ 9
     ·rw [HNMEM.out h.1 h.2, if_neg]
      rw [decide_eq_true h.1, decide_eq_true h.2] at hb
      intro hm
      rw [decide_eq_true hm] at hb
      simp at hb
     ·exfalso
      have h2 : (decide (2 ≤ k) && decide (k ≤ 9)) = false := by
       rw [Bool.and_eq_false_iff, decide_eq_false_iff_not, decide_eq_false_iff_not]
       omega
      rw [h2] at hb
      simp at hb)
    have S1 := hid (HSLS.out.ext HXP.out)
    have pE := (HB1.out.ext ((Ext.refl W1).alloc (.cells #[] 9))).cell 2 _ rfl
    have tok1 : True := trivial
    have tok2 : True := trivial
    clear HBB
    go_wp2_with fail
    go_region_law (first
     | (have _t := tok1; refine step_app _ rfl _ _ 44 rfl W1.heap.size 9 i0 _ 16 Tryz.underlying44 hi hz0 hz1 hz2 rfl _ 0 [] rfl (by first | exact (own_empty W1 9).drew | exact ((own_empty W1 9).alloc _).drew | exact je_own3 W1 _) _ ns.length _ (strC ns) rfl (S1.out.ext (by first | exact ((Ext.refl W1).alloc _).drew | exact (((Ext.refl W1).alloc _).alloc _).drew)) (strv_one ns) (by unfold maxLen; omega) (by omega) (by simp; try omega) ?_; intro v1 w1 hown1 hgrow1; have HX1 := hid (ext_grown (a := W1) (B := W1.heap.size) (by first | exact ((Ext.refl W1).alloc _).drew | exact (((Ext.refl W1).alloc _).alloc _).drew) (by first | exact (own_empty W1 9).drew | exact ((own_empty W1 9).alloc _).drew | exact je_own3 W1 _) (Nat.le_refl _) hgrow1); have hc1 : w1.cell? ⟨wo.heap.size, 2, none⟩ = some (.string ⟨n.toArray⟩) := (HB1.out.ext HX1.out).cell 2 _ rfl; (first | have HZ1 := hid (je_kept (row := some W1.heap.size) hgrow1 (je_new W1 _ _) (by simp)) | have HZ1 := hid (je_kept (row := some (W1.heap.size + 1)) hgrow1 (je_old W1 _ _) (by simp)) | skip); have HO1 := hid hown1; clear hown1 hgrow1 tok1)
     | (have _t := tok2; (refine step_app _ rfl _ _ 44 rfl W1.heap.size 9 i0 _ 16 Tryz.underlying44 hi hz0 hz1 hz2 rfl _ (0 + ns.length) _ rfl (by first | exact HO1.out | exact HO1.out.alloc _) _ 1 _ [.string ⟨n.toArray⟩] rfl (by first | exact HZ1.out | exact Sl.one _ _ _) (by simp [Value.oneCell']) (by unfold maxLen; omega) (by omega) (by have := Ext.size HX1.out; first | omega | (simp; omega)) ?_); intro v2 w2 hown2 hgrow2; have HX2 := hid (ext_grown (a := W1) (B := W1.heap.size) (by first | exact HX1.out | exact HX1.out.alloc _) (by first | exact HO1.out | exact HO1.out.alloc _) (Nat.le_refl _) hgrow2); have HO2 := hid hown2; clear hown2 hgrow2 tok2))
    all_goals
     go_wp2
     go_meet
     obtain ⟨A2, c2', rfl, hs2⟩ := own_slN HO2.out
     refine ⟨A2, c2', ?_, ?_, HX2.out⟩
     ·rw [HN0.out, List.length_append, Nat.zero_add]; rfl
     ·rw [HN0.out]
      unfold strC
      rw [List.map_append, List.length_append]
      rw [Nat.zero_add] at hs2
      exact hs2
  case rest =>
  obtain ⟨A2, c2', rfl, hs2, hx2⟩ := hcut
  have HS2 := hid hs2
  have HX2 := hid hx2
  have p5 := (HB1.out.ext hx2).cell 5 _ rfl
  have KP2 := hid (KP.out wc (HXP.out.trans hx2) A2 c2' hs2)
  clear hs2 hx2 p0 p2 KP
  go_wp2_with fail
  refine KP2.out.mono ?_
  rintro e w3 ⟨A3, c3', rfl, hs3, hx3⟩
  have HX3 := hid ((HXP.out.trans HX2.out).trans hx3)
  have HB3 := hid ((HB1.out.ext HX2.out).ext hx3)
  obtain ⟨B3, hB3⟩ : ∃ B3, B3 = (namesF pa n1).length + ca.nodes := ⟨_, rfl⟩
  have HB3' := hid (show B3 + (fdrop f (j + 1)).nodes ≤ B from by have := HPB.out; rw [hB3]; omega)
  obtain ⟨L3, hL3⟩ : ∃ L3, L3 = namesC ca (namesF pa n1) := ⟨_, rfl⟩
  have HNM3 := hid (show namesF (fdrop f (j + 1)) L3 = L from by rw [hL3]; exact HNM.out)
  have HJ0 := hid (show NmJ w3 ca L3 B3 (.slice A3 (namesF pa n1).length c3') (.int .i64 0) w3 from ⟨0, _, A3, c3', Nat.zero_le _, rfl, rfl, hs3, by rw [fdrop_zero]; exact hL3.symm, by rw [fdrop_zero]; omega, Ext.refl _⟩)
  have HL3 := hid (show L3.length ≤ B3 from by have := HPB.out; rw [hL3, hB3]; omega)
  clear hs3 hx3 KP2 hB3 hL3 HS2 p5
  go_wp2_with fail
  go_loopw [1, 7] (NmJ w3 ca L3 B3) (fun _ i _ => ca.len - (intOf i).toNat)
  case atStart => exact HJ0.out
  case round =>
   obtain ⟨i, ns4, A4, c4', hi, rfl, rfl, hs4, hn4, hb4, hx4⟩ := hrel
   obtain ⟨wi, rfl⟩ : ∃ wi : World, wi = wr := ⟨_, rfl⟩
   have HX4 := hid hx4
   have HS4 := hid hs4
   have HXI := hid (HX3.out.trans hx4)
   have q4 := (HB3.out.ext hx4).cell 4 _ rfl
   by_cases hil : i < ca.len
   rotate_left
   ·have hiI : ¬ (i : Int) < (ca.len : Int) := by omega
    rw [fdrop_end ca i (by omega), namesC] at hn4
    subst hn4
    clear hx4 hs4 hb4
    go_wp2
    exact ⟨⟨j + 1, _, A4, c4', hjl, by go_num, rfl, HS4.out, HNM3.out, by have := HL3.out; have := HB3'.out; omega, HW.out.trans HXI.out⟩, by simp [intOf]; omega⟩
   have hiI : (i : Int) < (ca.len : Int) := by omega
   obtain ⟨b', o', cc2, k', t', n', s', ca', pa', Ap', cp', hv', hbw', _, hdr', d0, d1, hPA'⟩ := (HCA.out.ext HXI.out).at_ hil
   injection hv' with hA' _ hcc'
   subst hA' hcc'
   rw [hdr'] at hn4 hb4
   rw [namesC] at hn4
   rw [F.nodes] at hb4
   have hn2 : pa'.nodes < N := by have h1 := fdrop_nodes ca i; rw [hdr', F.nodes] at h1; have := HNDC.out; omega
   have hcp' : Can pa' := by
    have h := (can_drop ca i).2 HCC.out
    rw [hdr', CanC] at h
    exact h.2.2.2.2.2.1
   have hl5 := names_nodes pa' ns4
   have KP5 := hid (show Calls Tryz.prog 61 #[.slice Ap' pa'.len cp', .slice A4 ns4.length c4'] wi (RetNs wi (namesF pa' ns4)) from
    hN pa' _ ok ns4 A4 c4' wi hn2 (by have := HNN.out; omega) hPA' hcp' hs4 (by have := HB3'.out; have := HB.out; omega))
   have HN4 := hid hn4
   have HB4 := hid (show (namesF pa' ns4).length + (fdrop ca (i + 1)).nodes ≤ B3 from by omega)
   clear hx4 hs4 hn4 hb4 hPA' hdr' hn2 hcp' hl5
   go_wp2_with fail
   refine KP5.out.mono ?_
   rintro e w6 ⟨A6, c6', rfl, hs6, hx6⟩
   have HS6 := hid hs6
   have HX6 := hid (HX4.out.trans hx6)
   clear hs6 hx6 KP5
   go_wp2
   exact ⟨⟨i + 1, _, A6, c6', hil, by go_num, rfl, HS6.out, HN4.out, HB4.out, HX6.out⟩, by simp [intOf]; omega⟩
theorem names_all : ∀ N, NmH N
 | 0 => fun f v ok ns A c w h => absurd h (Nat.not_lt_zero _)
 | N + 1 => names_step N (names_all N)
end Go.Proofs.YtiijdojihleggaaGreatDoor
