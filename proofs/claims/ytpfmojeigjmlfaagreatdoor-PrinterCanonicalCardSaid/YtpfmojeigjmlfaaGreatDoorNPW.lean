import Derived.Test.YtpfmojeigjmlfaaGreatDoorNPH
import Derived.Test.YtpfmojeigjmlfaaGreatDoorNPC
import Derived.Test.YtpfmojeigjmlfaaGreatDoorJa
import Derived.Test.YtpfmojeigjmlfaaGreatDoorJb
import Derived.Deep.RegionLaw
import Derived.Deep.RegionWith
set_option maxRecDepth 100000
set_option linter.unusedSimpArgs false
set_option linter.unusedVariables false
open Go.Lib (hid)
namespace Go.Proofs.YtpfmojeigjmlfaaGreatDoor
open Go.RowKit
theorem rspec_any (c : UInt8) (w : World) : Calls Tryz.prog 71 #[.int .u8 c.toNat] w fun e w' => e = .returned (.bool (specB c)) ∧ w = w' := by
 obtain ⟨q1, h1⟩ : ∃ q, q = ((c.toNat : Int) == 123) := ⟨_, rfl⟩
 obtain ⟨q2, h2⟩ : ∃ q, q = ((c.toNat : Int) == 125) := ⟨_, rfl⟩
 obtain ⟨q3, h3⟩ : ∃ q, q = ((c.toNat : Int) == 60) := ⟨_, rfl⟩
 obtain ⟨q4, h4⟩ : ∃ q, q = ((c.toNat : Int) == 62) := ⟨_, rfl⟩
 obtain ⟨q5, h5⟩ : ∃ q, q = ((c.toNat : Int) == 35) := ⟨_, rfl⟩
 obtain ⟨q6, h6⟩ : ∃ q, q = ((c.toNat : Int) == 92) := ⟨_, rfl⟩
 have HS := hid (show specB c = (q1 || q2 || q3 || q4 || q5 || q6) from by
  rw [h1, h2, h3, h4, h5, h6]
  unfold specB
  rw [← u8_beq c 123, ← u8_beq c 125, ← u8_beq c 60, ← u8_beq c 62, ← u8_beq c 35, ← u8_beq c 92]; rfl)
 generalize specB c = sp at HS ⊢
 have g1 := h1.symm
 have g2 := h2.symm
 have g3 := h3.symm
 have g4 := h4.symm
 have g5 := h5.symm
 have g6 := h6.symm
 clear h1 h2 h3 h4 h5 h6
 cases q1
 all_goals cases q2
 all_goals cases q3
 all_goals cases q4
 all_goals cases q5
 all_goals cases q6
 all_goals first
  | (exfalso; simp only [beq_iff_eq] at g1 g2 g3 g4 g5 g6; omega)
  | (go_enter Tryz.func71, Tryz.ntmps71
     go_wp2
     go_ret
     exact ⟨ret_bool HS.out.symm, rfl⟩)
theorem rblank_any (c : UInt8) (w : World) : Calls Tryz.prog 111 #[.int .u8 c.toNat] w fun e w' => e = .returned (.bool (blankB c)) ∧ w = w' := by
 go_enter Tryz.func111, Tryz.ntmps111
 go_wp2
 all_goals (go_ret; exact ⟨ret_bool (by unfold blankB; rw [Bool.eq_iff_iff]; simp [← UInt8.toNat_inj]; try omega), rfl⟩)
theorem rwordy_any (c : UInt8) (w : World) : Calls Tryz.prog 140 #[.int .u8 c.toNat] w fun e w' => e = .returned (.bool (wordB c)) ∧ w = w' := by
 have e1 : wordB c = (innerB c || (c == 46 || c == 61)) := by unfold wordB; rw [Bool.or_assoc]
 rw [e1]
 go_enter Tryz.func140, Tryz.ntmps140
 go_wp2_with (go_at_call 93; refine (rinner_any _ _).mono ?_; rintro e w' ⟨rfl, rfl⟩; cases hl : innerB c)
 all_goals (go_ret; exact ⟨ret_bool (by (first | rw [hl] | skip); rw [Bool.eq_iff_iff]; simp [← UInt8.toNat_inj]; try omega), rfl⟩)
def RtI (s : ByteArray) (a : Nat) (w : World) (i : Value) (wr : World) : Prop := ∃ k : Nat, a ≤ k ∧ k ≤ s.size ∧ i = .int .i64 k ∧ a + textN (s.data.toList.drop a) = k + textN (s.data.toList.drop k) ∧ w = wr
set_option maxHeartbeats 2000000 in
theorem rtext_any (s : ByteArray) (a : Nat) (w : World) (hs : s.size ≤ 1048576) (ha : a ≤ s.size) : Calls Tryz.prog 141 #[.string s, .int .i64 a] w fun e w' => e = .returned (.int .i64 ((a + textN (s.data.toList.drop a) : Nat) : Int)) ∧ w = w' := by
 obtain ⟨R, hR⟩ : ∃ R, R = a + textN (s.data.toList.drop a) := ⟨_, rfl⟩
 rw [← hR]
 have HR := hid hR
 clear hR
 go_enter Tryz.func141, Tryz.ntmps141
 go_wp2_with fail
 go_loopw [1] (RtI s a w) (fun i _ => s.size - (intOf i).toNat)
 case atStart => exact ⟨a, Nat.le_refl _, ha, rfl, rfl, rfl⟩
 case round =>
  obtain ⟨k, hak, hk, rfl, hq, rfl⟩ := hrel
  have HA := hid (HR.out.trans hq)
  have HQ := hid hq
  clear hq
  by_cases hks : k < s.size
  rotate_left
  ·obtain rfl : k = s.size := by omega
   have HF := hid (show R = s.size from by rw [HA.out, show s.data.toList.drop s.size = [] from by rw [← size_list, List.drop_length]]; rfl)
   have hkI : ¬ (s.size : Int) < (s.size : Int) := by omega
   go_wp2
   go_ret
   exact ⟨by rw [HF.out]; rfl, rfl⟩
  have hkI : (k : Int) < (s.size : Int) := by omega
  have HD := hid (drop_at hks)
  have HK := hid (fun W => rspec_any s[k] W)
  by_cases h92 : s[k] = 92
  rotate_left
  ·have b1 : ((s[k].toNat : Int) == 92) = false := u8_ne (n := 92) h92
   cases hc : specB s[k]
   ·have HF := hid (show a + textN (s.data.toList.drop a) = (k + 1) + textN (s.data.toList.drop (k + 1)) from by rw [HQ.out, HD.out, textN_plain hc]; omega)
    rw [hc] at HK
    clear hc h92
    go_wp2_with fail
    refine (HK.out _).mono ?_
    rintro e w2 ⟨rfl, rfl⟩
    go_wp2
    exact ⟨⟨k + 1, by omega, hks, by go_num, HF.out, rfl⟩, by simp [intOf]; omega⟩
   ·have HF := hid (show R = k from by rw [HA.out, HD.out, textN_stop hc _ (fun e => absurd e h92)]; rfl)
    rw [hc] at HK
    clear hc h92
    go_wp2_with fail
    refine (HK.out _).mono ?_
    rintro e w2 ⟨rfl, rfl⟩
    go_wp2
    go_ret
    exact ⟨by rw [HF.out]; rfl, rfl⟩
  have b1 : ((s[k].toNat : Int) == 92) = true := by rw [h92]; rfl
  have hc : specB s[k] = true := by rw [h92]; decide
  rw [hc] at HK
  by_cases hke : k + 1 < s.size
  rotate_left
  ·have HF := hid (show R = k from by
    rw [HA.out, HD.out, textN_stop hc _ (fun _ d r' e => by
     have h2 := congrArg List.length e
     rw [List.length_drop, size_list, List.length_cons] at h2
     omega)]; rfl)
   have b3 : ¬ (k : Int) + 1 < (s.size : Int) := by omega
   clear hc h92
   go_wp2_with fail
   refine (HK.out _).mono ?_
   rintro e w2 ⟨rfl, rfl⟩
   go_wp2
   go_ret
   exact ⟨by rw [HF.out]; rfl, rfl⟩
  have b3 : (k : Int) + 1 < (s.size : Int) := by omega
  have HD1 := hid (drop_at hke)
  have HK1 := hid (fun W => rspec_any s[k + 1] W)
  cases hd : specB s[k + 1]
  ·have HF := hid (show R = k from by
    rw [HA.out, HD.out, textN_stop hc _ (fun _ d r' e => by
     rw [HD1.out] at e
     injection e with e _
     rw [← e]; exact hd)]; rfl)
   rw [hd] at HK1
   clear hc h92 hd
   go_wp2_with fail
   refine (HK1.out _).mono ?_
   rintro e w2 ⟨rfl, rfl⟩
   go_wp2_with fail
   refine (HK.out _).mono ?_
   rintro e w3 ⟨rfl, rfl⟩
   go_wp2
   go_ret
   exact ⟨by rw [HF.out]; rfl, rfl⟩
  ·have HF := hid (show a + textN (s.data.toList.drop a) = (k + 2) + textN (s.data.toList.drop (k + 1 + 1)) from by rw [HQ.out, HD.out, h92, HD1.out, textN_escape hd]; omega)
   rw [hd] at HK1
   clear hc h92 hd
   go_wp2_with fail
   refine (HK1.out _).mono ?_
   rintro e w2 ⟨rfl, rfl⟩
   go_wp2
   exact ⟨⟨k + 2, by omega, by omega, by go_num, HF.out, rfl⟩, by simp [intOf]; omega⟩
end Go.Proofs.YtpfmojeigjmlfaaGreatDoor
namespace Go.Proofs.YtpfmojeigjmlfaaGreatDoor
open Go.RowKit
theorem je_new (w : World) (a b : Obj) : ((w.alloc a).alloc b).drew.heap[w.heap.size + 1]? = some b := by
 have h := heap_alloc_new (w.alloc a) b
 have e : (w.alloc a).heap.size = w.heap.size + 1 := by simp
 rw [e] at h
 exact h
theorem je_old (w : World) (a b : Obj) : ((w.alloc a).alloc b).drew.heap[w.heap.size]? = some a := by
 have h := heap_alloc_new w a
 have h2 := Below.heap_alloc (w.alloc a) b w.heap.size (by simp)
 exact h2.trans h
theorem je_own3 (w : World) (o : Obj) : ((w.alloc o).alloc (.cells #[] 9)).drew.ownsRow w.heap.size 9 1 (.slice (some ⟨w.heap.size + 1, 0, none⟩) 0 0) 0 [] :=
 ⟨rfl, .inr ⟨w.heap.size + 1, 0, #[], rfl, by omega, je_new w _ _, Nat.le_refl _, Nat.zero_le _, rfl, rfl⟩⟩
theorem je_kept {W w' : World} {g : Nat} {u : Value} {row : Option Nat} (hg : W.grownBy w' row) (hW : W.heap[g]? = some (.cells #[u] 9)) (hne : some g ≠ row) : Sl w' (some ⟨g, 0, none⟩) 1 [u] := by
 have hlt : g < W.heap.size := (Array.getElem?_eq_some_iff.1 hW).1
 have h1 := (hg.block g hlt hne).trans hW
 refine ⟨rfl, fun j x hx => ⟨_, rfl, (Array.getElem?_eq_some_iff.1 h1).1, ?_⟩⟩
 have hj : j = 0 := by have := (List.getElem?_eq_some_iff.1 hx).1; simp at this; exact this
 subst hj
 simp at hx
 subst hx
 show w'.cell? ⟨g, 0, none⟩ = some u
 rw [cell_of_row w' g 0 #[u] 9 (0, 0) h1]
 rfl
theorem je_sl {w : World} {A : Option Addr} {n : Nat} {xs : List Value} (h : SlN w A n 1 xs) : Sl w A n xs :=
 ⟨by rw [h.1]; omega, fun j u hu => by
  obtain ⟨b, o, e, hb, hc⟩ := h.2 j u hu
  subst e
  refine ⟨_, rfl, hb, ?_⟩
  have ea : (⟨b, o, none⟩ : Addr).add j = ⟨b, o + j, none⟩ := by
   unfold Addr.add
   split
   ·subst_vars; rfl
   ·rfl
  rw [ea]
  exact hc⟩
theorem names_nodes : ∀ (f : F) (ns : List By), (namesF f ns).length ≤ ns.length + f.nodes
 | .nil, ns => by rw [namesF_nil]; omega
 | .cons k t n s cs ps r, ns => by
   rw [namesF_cons, F.nodes]
   have h1 : ((if 2 ≤ k ∧ k ≤ 9 then addN ns n else ns) : List By).length ≤ ns.length + 1 := by
    split
    ·unfold addN; split <;> simp
    ·omega
   have h2 := names_nodes ps (if 2 ≤ k ∧ k ≤ 9 then addN ns n else ns)
   have h3 := names_nodes cs (namesF ps (if 2 ≤ k ∧ k ≤ 9 then addN ns n else ns))
   have h4 := names_nodes r (namesF cs (namesF ps (if 2 ≤ k ∧ k ≤ 9 then addN ns n else ns)))
   omega
def namesC : F → List By → List By
 | .nil, ns => ns
 | .cons _ _ _ _ _ ps r, ns => namesC r (namesF ps ns)
theorem namesC_eq : ∀ f : F, CanC f → ∀ ns, namesC f ns = namesF f ns
 | .nil, _, ns => rfl
 | .cons k t n s cs ps r, h, ns => by
   rw [CanC] at h
   obtain ⟨rfl, rfl, rfl, rfl, _, _, h⟩ := h
   rw [namesC, namesF_cons, namesF_nil, if_neg (by omega), namesC_eq r h]
theorem namesC_nodes : ∀ (f : F) (ns : List By), (namesC f ns).length ≤ ns.length + f.nodes
 | .nil, ns => by rw [namesC]; omega
 | .cons k t n s cs ps r, ns => by
   rw [namesC, F.nodes]
   have h2 := names_nodes ps ns
   have h3 := namesC_nodes r (namesF ps ns)
   omega
def RetNs (w : World) (l : List By) (e : Ending) (w' : World) : Prop := ∃ A c, e = .returned (.slice A l.length c) ∧ SlN w' A l.length 1 (strC l) ∧ Ext w w'
def NmH (N : Nat) : Prop := ∀ (f : F) (v : Value) (ok : Nat → Prop) (ns : List By) (A : Option Addr) (c : Nat) (w : World), f.nodes < N → N ≤ 100000000 → FwS w ok f v → Can f → SlN w A ns.length 1 (strC ns) → ns.length + f.nodes ≤ 200000000 →
 Calls Tryz.prog 41 #[v, .slice A ns.length c] w (RetNs w (namesF f ns))
def NmI (w : World) (f : F) (L : List By) (B : Nat) (names i : Value) (wr : World) : Prop :=
 ∃ (j : Nat) (ns : List By) (A : Option Addr) (c : Nat), j ≤ f.len ∧ i = .int .i64 j ∧ names = .slice A ns.length c ∧ SlN wr A ns.length 1 (strC ns) ∧ namesF (fdrop f j) ns = L ∧ ns.length + (fdrop f j).nodes ≤ B ∧ Ext w wr
def NmR (W1 : World) (ns : List By) (names : Value) (wr : World) : Prop := ∃ (A : Option Addr) (c : Nat), names = .slice A ns.length c ∧ SlN wr A ns.length 1 (strC ns) ∧ Ext W1 wr
def BWj (b : Bool) (W : World) (v : Value) (wx : World) : Prop := v = .bool b ∧ W = wx
def NmJ (w : World) (ca : F) (L : List By) (B : Nat) (names i : Value) (wr : World) : Prop :=
 ∃ (j : Nat) (ns : List By) (A : Option Addr) (c : Nat), j ≤ ca.len ∧ i = .int .i64 j ∧ names = .slice A ns.length c ∧ SlN wr A ns.length 1 (strC ns) ∧ namesC (fdrop ca j) ns = L ∧ ns.length + (fdrop ca j).nodes ≤ B ∧ Ext w wr
set_option maxHeartbeats 8000000 in
theorem names_step (N : Nat) (hN : NmH N) : NmH (N + 1) := by
 intro f v ok ns A c w hnd hNN hF hcan hns hB
 obtain ⟨Af, cf, rfl⟩ := hF.val
 obtain ⟨i0, hi, hz0, hz1, hz2⟩ := info_parts (show (Tryz.prog.info? 9).map (fun i => (i.zero, i.size, i.bytes)) = some (some (.string ⟨#[]⟩), 1, 16) from by kernel_rfl)
 have hfl : f.len ≤ 1000000000 := by have := flJ_nodes f; omega
 obtain ⟨L, hL⟩ : ∃ L, L = namesF f ns := ⟨_, rfl⟩
 obtain ⟨B, hBB⟩ : ∃ B, B = ns.length + f.nodes := ⟨_, rfl⟩
 rw [← hL]
 have HFW := hid hF
 have HCAN := hid hcan
 have HND := hid hnd
 have HNN := hid hNN
 have HB := hid (show B ≤ 200000000 from by omega)
 have H0 := hid (show NmI w f L B (.slice A ns.length c) (.int .i64 0) w from ⟨0, ns, A, c, Nat.zero_le _, rfl, rfl, hns, by rw [fdrop_zero]; exact hL.symm, by rw [fdrop_zero]; omega, Ext.refl _⟩)
 clear hF hcan hnd hNN hB hns hL hBB
 go_enter Tryz.func41, Tryz.ntmps41
 go_wp2_with fail
 go_loopw [1, 5] (NmI w f L B) (fun _ i _ => f.len - (intOf i).toNat)
 case atStart => exact H0.out
 case round =>
  obtain ⟨j, ns, A, c, hj, rfl, rfl, hsl, hnm, hb, hw⟩ := hrel
  obtain ⟨wo, rfl⟩ : ∃ wo : World, wo = wr := ⟨_, rfl⟩
  have HW := hid hw
  by_cases hjl : j < f.len
  rotate_left
  ·have hjI : ¬ (j : Int) < (f.len : Int) := by omega
   rw [fdrop_end f j (by omega), namesF_nil] at hnm
   subst hnm
   have HSL := hid hsl
   clear hw hb hsl
   go_wp2
   go_ret
   exact ⟨_, _, rfl, HSL.out, HW.out⟩
  have hjI : (j : Int) < (f.len : Int) := by omega
  obtain ⟨b, o, cc', k, t, n, s, ca, pa, Ac, cac, Ap, cpa, hv, hbw, _, hdr, c0, c1, c2, c3, c4, c5, hCA, hPA⟩ := (HFW.out.ext hw).at_ hjl
  injection hv with hA _ hcc
  subst hA hcc
  have hcn := (can_drop f j).1 HCAN.out
  rw [hdr] at hcn hnm hb
  rw [Can] at hcn
  obtain ⟨hnl, hsl', hcc, hcp, _⟩ := hcn
  rw [namesF_cons] at hnm
  rw [F.nodes] at hb
  have hnd2 : ca.nodes < N ∧ pa.nodes < N := by have h1 := fdrop_nodes f j; rw [hdr, F.nodes] at h1; have := HND.out; constructor <;> omega
  obtain ⟨n1, hn1⟩ : ∃ n1 : List By, n1 = if 2 ≤ k ∧ k ≤ 9 then addN ns n else ns := ⟨_, rfl⟩
  rw [← hn1] at hnm
  have hl1 : n1.length ≤ ns.length + 1 := by
   rw [hn1]
   split
   ·unfold addN; split <;> simp
   ·omega
  have hl2 := names_nodes pa n1
  have hl3 := namesC_nodes ca (namesF pa n1)
  have hnsB : ns.length ≤ 200000000 := by have := HB.out; omega
  rw [← namesC_eq ca hcc] at hnm
  have HN1 := hid hn1
  have HNM := hid hnm
  have HSL := hid hsl
  have HSLS := hid (je_sl hsl)
  have HCA := hid hCA
  have HPA := hid hPA
  have hcl : ca.len ≤ 1000000000 := by have h1 := flJ_nodes ca; have := HNN.out; omega
  have HXP := hid ((Ext.refl wo).alloc (.cells #[.int .i64 k, .string ⟨t.toArray⟩, .string ⟨n.toArray⟩, .string ⟨s.toArray⟩, .slice Ac ca.len cac, .slice Ap pa.len cpa] 50))
  have HB1 := hid (AtC.new wo #[.int .i64 k, .string ⟨t.toArray⟩, .string ⟨n.toArray⟩, .string ⟨s.toArray⟩, .slice Ac ca.len cac, .slice Ap pa.len cpa] : AtC 50 _ _ _)
  have KI := hid (fun W (hx : Ext wo W) => rin26_any ns A c n W (HSL.out.ext hx) (by omega))
  have KP := hid (fun W (hx : Ext wo W) A' c' (hs : SlN W A' n1.length 1 (strC n1)) => (show Calls Tryz.prog 41 #[.slice Ap pa.len cpa, .slice A' n1.length c'] W (RetNs W (namesF pa n1)) from
   hN pa _ ok n1 A' c' W hnd2.2 (by have := HNN.out; omega) (HPA.out.ext hx) hcp hs (by have := HB.out; omega)))
  have HPB := hid (And.intro hl2 (And.intro hl3 (And.intro hl1 hb)))
  have HCC := hid hcc
  have HNDC := hid hnd2.1
  have HNMEM := hid (show 2 ≤ k → k ≤ 9 → n1 = if n ∈ ns then ns else ns ++ [n] from fun h1 h2 => by rw [hn1, if_pos ⟨h1, h2⟩]; rfl)
  have HNONE := hid (show ¬ (2 ≤ k ∧ k ≤ 9) → n1 = ns from fun h1 => by rw [hn1, if_neg h1])
  clear hw hnm hsl hCA hPA hcc hcp hnd2 hdr hn1 hl1 hl2 hl3 hb H0
  have p0 := HB1.out.cell 0 _ rfl
  have p2 := HB1.out.cell 2 _ rfl
  obtain ⟨W1, hW1⟩ : ∃ W1, W1 = wo.alloc (.cells #[.int .i64 k, .string ⟨t.toArray⟩, .string ⟨n.toArray⟩, .string ⟨s.toArray⟩, .slice Ac ca.len cac, .slice Ap pa.len cpa] 50) := ⟨_, rfl⟩
  rw [← hW1] at p0 p2 HXP HB1
  obtain ⟨bb, hbb⟩ : ∃ bb, bb = (decide (2 ≤ k) && decide (k ≤ 9) && !decide (n ∈ ns)) := ⟨_, rfl⟩
  have HBB := hid hbb
  have HAW := hid hW1
  clear hbb
  go_upto_region 5 with (fail)
  rw [← hW1]
  clear hW1
  go_cut [32] (BWj bb W1)
  case first =>
   by_cases h2 : 2 ≤ k
   rotate_left
   ·have HF := hid (show bb = false from by rw [HBB.out, decide_eq_false h2]; rfl)
    clear HBB
    go_wp2_with fail
    all_goals go_meet
    all_goals exact ⟨by rw [HF.out], rfl⟩
   by_cases h9 : k ≤ 9
   rotate_left
   ·have HF := hid (show bb = false from by rw [HBB.out, decide_eq_false h9, Bool.and_false]; rfl)
    clear HBB
    go_wp2_with fail
    all_goals go_meet
    all_goals exact ⟨by rw [HF.out], rfl⟩
   have HF := hid (show bb = !decide (n ∈ ns) from by rw [HBB.out, decide_eq_true h2, decide_eq_true h9]; rfl)
   have KI2 := hid (KI.out W1 HXP.out)
   generalize decide (n ∈ ns) = bn at HF KI2
   clear HBB
   go_wp2_with (go_at_call 69; with_reducible refine KI2.out.mono ?_; rintro e w2 ⟨rfl, rfl⟩)
   all_goals go_meet
   all_goals exact ⟨by rw [HF.out], rfl⟩
  case rest =>
  obtain ⟨rfl, rfl⟩ := hcut
  go_upto_if 32 with (fail)
  go_cut [1] (NmR W1 n1)
  case first =>
   cases bb
   ·have HN0 := hid (show n1 = ns from by
     by_cases h : 2 ≤ k ∧ k ≤ 9
     ·rw [HNMEM.out h.1 h.2, if_pos]
      have := HBB.out
      rw [decide_eq_true h.1, decide_eq_true h.2] at this
      simpa using this
     ·exact HNONE.out h)
    clear HBB
    go_wp2_with fail
    go_meet
    exact ⟨A, c, by rw [HN0.out], by rw [HN0.out]; exact HSL.out.ext HXP.out, Ext.refl _⟩
   ·have HN0 := hid (show n1 = ns ++ [n] from by
     have hb := HBB.out
     by_cases h : 2 ≤ k ∧ k ≤ 9
     ·rw [HNMEM.out h.1 h.2, if_neg]
      rw [decide_eq_true h.1, decide_eq_true h.2] at hb
      intro hm
      rw [decide_eq_true hm] at hb
      simp at hb
     ·exfalso
      have h2 : (decide (2 ≤ k) && decide (k ≤ 9)) = false := by
       rw [Bool.and_eq_false_iff, decide_eq_false_iff_not, decide_eq_false_iff_not]
       omega
      rw [h2] at hb
      simp at hb)
    have S1 := hid (HSLS.out.ext HXP.out)
    have pE := (HB1.out.ext ((Ext.refl W1).alloc (.cells #[] 9))).cell 2 _ rfl
    have tok1 : True := trivial
    have tok2 : True := trivial
    clear HBB
    go_wp2_with fail
    go_region_law (first
     | (have _t := tok1; refine step_app _ rfl _ _ 26 rfl W1.heap.size 9 i0 _ 16 Tryz.underlying26 hi hz0 hz1 hz2 rfl _ 0 [] rfl (by first | exact (own_empty W1 9).drew | exact ((own_empty W1 9).alloc _).drew | exact je_own3 W1 _) _ ns.length _ (strC ns) rfl (S1.out.ext (by first | exact ((Ext.refl W1).alloc _).drew | exact (((Ext.refl W1).alloc _).alloc _).drew)) (strv_one ns) (by unfold maxLen; omega) (by omega) (by simp; try omega) ?_; intro v1 w1 hown1 hgrow1; have HX1 := hid (ext_grown (a := W1) (B := W1.heap.size) (by first | exact ((Ext.refl W1).alloc _).drew | exact (((Ext.refl W1).alloc _).alloc _).drew) (by first | exact (own_empty W1 9).drew | exact ((own_empty W1 9).alloc _).drew | exact je_own3 W1 _) (Nat.le_refl _) hgrow1); have hc1 : w1.cell? ⟨wo.heap.size, 2, none⟩ = some (.string ⟨n.toArray⟩) := (HB1.out.ext HX1.out).cell 2 _ rfl; (first | have HZ1 := hid (je_kept (row := some W1.heap.size) hgrow1 (je_new W1 _ _) (by simp)) | have HZ1 := hid (je_kept (row := some (W1.heap.size + 1)) hgrow1 (je_old W1 _ _) (by simp)) | skip); have HO1 := hid hown1; clear hown1 hgrow1 tok1)
     | (have _t := tok2; (refine step_app _ rfl _ _ 26 rfl W1.heap.size 9 i0 _ 16 Tryz.underlying26 hi hz0 hz1 hz2 rfl _ (0 + ns.length) _ rfl (by first | exact HO1.out | exact HO1.out.alloc _) _ 1 _ [.string ⟨n.toArray⟩] rfl (by first | exact HZ1.out | exact Sl.one _ _ _) (by simp [Value.oneCell']) (by unfold maxLen; omega) (by omega) (by have := Ext.size HX1.out; first | omega | (simp; omega)) ?_); intro v2 w2 hown2 hgrow2; have HX2 := hid (ext_grown (a := W1) (B := W1.heap.size) (by first | exact HX1.out | exact HX1.out.alloc _) (by first | exact HO1.out | exact HO1.out.alloc _) (Nat.le_refl _) hgrow2); have HO2 := hid hown2; clear hown2 hgrow2 tok2))
    all_goals
     go_wp2
     go_meet
     obtain ⟨A2, c2', rfl, hs2⟩ := own_slN HO2.out
     refine ⟨A2, c2', ?_, ?_, HX2.out⟩
     ·rw [HN0.out, List.length_append, Nat.zero_add]; rfl
     ·rw [HN0.out]
      unfold strC
      rw [List.map_append, List.length_append]
      rw [Nat.zero_add] at hs2
      exact hs2
  case rest =>
  obtain ⟨A2, c2', rfl, hs2, hx2⟩ := hcut
  have HS2 := hid hs2
  have HX2 := hid hx2
  have p5 := (HB1.out.ext hx2).cell 5 _ rfl
  have KP2 := hid (KP.out wc (HXP.out.trans hx2) A2 c2' hs2)
  clear hs2 hx2 p0 p2 KP
  go_wp2_with fail
  refine KP2.out.mono ?_
  rintro e w3 ⟨A3, c3', rfl, hs3, hx3⟩
  have HX3 := hid ((HXP.out.trans HX2.out).trans hx3)
  have HB3 := hid ((HB1.out.ext HX2.out).ext hx3)
  obtain ⟨B3, hB3⟩ : ∃ B3, B3 = (namesF pa n1).length + ca.nodes := ⟨_, rfl⟩
  have HB3' := hid (show B3 + (fdrop f (j + 1)).nodes ≤ B from by have := HPB.out; rw [hB3]; omega)
  obtain ⟨L3, hL3⟩ : ∃ L3, L3 = namesC ca (namesF pa n1) := ⟨_, rfl⟩
  have HNM3 := hid (show namesF (fdrop f (j + 1)) L3 = L from by rw [hL3]; exact HNM.out)
  have HJ0 := hid (show NmJ w3 ca L3 B3 (.slice A3 (namesF pa n1).length c3') (.int .i64 0) w3 from ⟨0, _, A3, c3', Nat.zero_le _, rfl, rfl, hs3, by rw [fdrop_zero]; exact hL3.symm, by rw [fdrop_zero]; omega, Ext.refl _⟩)
  have HL3 := hid (show L3.length ≤ B3 from by have := HPB.out; rw [hL3, hB3]; omega)
  clear hs3 hx3 KP2 hB3 hL3 HS2 p5
  go_wp2_with fail
  go_loopw [1, 7] (NmJ w3 ca L3 B3) (fun _ i _ => ca.len - (intOf i).toNat)
  case atStart => exact HJ0.out
  case round =>
   obtain ⟨i, ns4, A4, c4', hi, rfl, rfl, hs4, hn4, hb4, hx4⟩ := hrel
   obtain ⟨wi, rfl⟩ : ∃ wi : World, wi = wr := ⟨_, rfl⟩
   have HX4 := hid hx4
   have HS4 := hid hs4
   have HXI := hid (HX3.out.trans hx4)
   have q4 := (HB3.out.ext hx4).cell 4 _ rfl
   by_cases hil : i < ca.len
   rotate_left
   ·have hiI : ¬ (i : Int) < (ca.len : Int) := by omega
    rw [fdrop_end ca i (by omega), namesC] at hn4
    subst hn4
    clear hx4 hs4 hb4
    go_wp2
    exact ⟨⟨j + 1, _, A4, c4', hjl, by go_num, rfl, HS4.out, HNM3.out, by have := HL3.out; have := HB3'.out; omega, HW.out.trans HXI.out⟩, by simp [intOf]; omega⟩
   have hiI : (i : Int) < (ca.len : Int) := by omega
   obtain ⟨b', o', cc2, k', t', n', s', ca', pa', Ap', cp', hv', hbw', _, hdr', d0, d1, hPA'⟩ := (HCA.out.ext HXI.out).at_ hil
   injection hv' with hA' _ hcc'
   subst hA' hcc'
   rw [hdr'] at hn4 hb4
   rw [namesC] at hn4
   rw [F.nodes] at hb4
   have hn2 : pa'.nodes < N := by have h1 := fdrop_nodes ca i; rw [hdr', F.nodes] at h1; have := HNDC.out; omega
   have hcp' : Can pa' := by
    have h := (can_drop ca i).2 HCC.out
    rw [hdr', CanC] at h
    exact h.2.2.2.2.2.1
   have hl5 := names_nodes pa' ns4
   have KP5 := hid (show Calls Tryz.prog 41 #[.slice Ap' pa'.len cp', .slice A4 ns4.length c4'] wi (RetNs wi (namesF pa' ns4)) from
    hN pa' _ ok ns4 A4 c4' wi hn2 (by have := HNN.out; omega) hPA' hcp' hs4 (by have := HB3'.out; have := HB.out; omega))
   have HN4 := hid hn4
   have HB4 := hid (show (namesF pa' ns4).length + (fdrop ca (i + 1)).nodes ≤ B3 from by omega)
   clear hx4 hs4 hn4 hb4 hPA' hdr' hn2 hcp' hl5
   go_wp2_with fail
   refine KP5.out.mono ?_
   rintro e w6 ⟨A6, c6', rfl, hs6, hx6⟩
   have HS6 := hid hs6
   have HX6 := hid (HX4.out.trans hx6)
   clear hs6 hx6 KP5
   go_wp2
   exact ⟨⟨i + 1, _, A6, c6', hil, by go_num, rfl, HS6.out, HN4.out, HB4.out, HX6.out⟩, by simp [intOf]; omega⟩
theorem names_all : ∀ N, NmH N
 | 0 => fun f v ok ns A c w h => absurd h (Nat.not_lt_zero _)
 | N + 1 => names_step N (names_all N)
end Go.Proofs.YtpfmojeigjmlfaaGreatDoor
namespace Go.Proofs.YtpfmojeigjmlfaaGreatDoor
open Go.RowKit
theorem own_string {w : World} {B : Nat} {v : Value} {l : By} (h : w.ownsRow B 5 1 v l.length (Lib.byteCells l)) : (∃ A n c, v = .slice A n c) ∧ (convert 23 9 v).run Tryz.prog w = .ok (.string ⟨l.toArray⟩) w := by
 have hcl := fun g hg => h.cells (g := g) hg
 rcases h.2 with ⟨rfl, h0⟩ | ⟨g, cap, cur, rfl, hb, hg, hn, hm, hs, ht⟩
 ·have : l = [] := List.eq_nil_of_length_eq_zero h0
  subst this
  refine ⟨⟨_, _, _, rfl⟩, ?_⟩
  rw [run_convert_bytes_string w 23 9 5 none 0 0 Tryz.underlying23 Tryz.underlying5 Tryz.underlying9]
  rfl
 ·refine ⟨⟨_, _, _, rfl⟩, ?_⟩
  refine run_convert_bytes_back (P := Tryz.prog) w 23 9 5 ⟨g, 0, none⟩ cap l Tryz.underlying23 Tryz.underlying5 Tryz.underlying9 (fun j hj => ?_)
  refine hcl g rfl j _ ?_
  unfold Lib.byteCells
  rw [List.getElem?_map, List.getElem?_eq_getElem hj]
  rfl
def ReI (s : ByteArray) (w : World) (out i : Value) (wr : World) : Prop := ∃ k : Nat, k ≤ s.size ∧ i = .int .i64 k ∧ wr.ownsRow w.heap.size 5 1 out (escP (s.data.toList.take k)).length (Lib.byteCells (escP (s.data.toList.take k))) ∧ Ext w wr
set_option maxHeartbeats 2000000 in
theorem resc_any (s : ByteArray) (w : World) (hs : s.size ≤ 40000000) : Calls Tryz.prog 42 #[.string s] w fun e w' => e = .returned (.string ⟨(escP s.data.toList).toArray⟩) ∧ Ext w w' := by
 obtain ⟨i0, hi, hz0, hz1, hz2⟩ := info_parts (show (Tryz.prog.info? 5).map (fun i => (i.zero, i.size, i.bytes)) = some (some (.int .u8 0), 1, 1) from by kernel_rfl)
 go_enter Tryz.func42, Tryz.ntmps42
 go_wp2_with fail
 go_loopw [3, 4] (ReI s w) (fun _ i _ => s.size - (intOf i).toNat)
 case atStart => exact ⟨0, Nat.zero_le _, rfl, World.ownsRow_nil _ _ _ _, Ext.refl _⟩
 case round =>
  obtain ⟨k, hk, rfl, ho, hw⟩ := hrel
  have HO := hid ho
  have HW := hid hw
  clear ho hw
  by_cases hks : k < s.size
  ·have hkI : (k : Int) < (s.size : Int) := by omega
   have hl := escP_len (s.data.toList.take k)
   rw [List.length_take, size_list] at hl
   have hl2 : (escP (s.data.toList.take k)).length ≤ 80000000 := by omega
   have HT := hid (show s.data.toList.take (k + 1) = s.data.toList.take k ++ [s[k]] from by
    rw [take_next (show s.data.toList[k]? = some s[k] from by rw [List.getElem?_eq_getElem (by rw [size_list]; exact hks), get_list s k hks])])
   have HK := hid (fun W => rspec_any s[k] W)
   obtain ⟨p, hp⟩ : ∃ p, p = escP (s.data.toList.take k) := ⟨_, rfl⟩
   rw [← hp] at HO hl2
   have HP := hid hp
   clear hp hl
   cases hc : specB s[k]
   ·have HF := hid (show escP (s.data.toList.take (k + 1)) = p ++ [s[k]] from by rw [HT.out, escP_snoc, hc, ← HP.out]; rfl)
    rw [hc] at HK
    clear hc
    go_wp2_with (first
     | (go_at_call 71; with_reducible refine (HK.out _).mono ?_; rintro e w2 ⟨rfl, rfl⟩)
     | (at_builtin; refine wpList_app _ rfl _ _ 23 rfl w.heap.size 5 i0 _ 1 Tryz.underlying23 hi hz0 hz1 hz2 rfl _ p.length _ rfl (HO.out.alloc _) _ 1 _ [_] rfl (Sl.one _ _ _) (by simp [Value.oneCell']) (by unfold maxLen; omega) (by omega) (by have := Ext.size HW.out; simp; omega) ?_; intro v4 w4 hown4 hgrow4; have HO4 := hid hown4; have HX4 := hid (ext_grown (a := w) (HW.out.alloc _) (HO.out.alloc _) (Nat.le_refl _) hgrow4); clear hown4 hgrow4))
    refine ⟨⟨k + 1, by omega, by go_num, ?_, HX4.out⟩, by simp [intOf]; omega⟩
    rw [HF.out, List.length_append, Lib.byteCells_append]
    exact HO4.out
   ·have HF := hid (show escP (s.data.toList.take (k + 1)) = p ++ [92, s[k]] from by rw [HT.out, escP_snoc, hc, ← HP.out]; rfl)
    rw [hc] at HK
    have tok1 : True := trivial
    clear hc
    go_wp2_with (first
     | (go_at_call 71; with_reducible refine (HK.out _).mono ?_; rintro e w2 ⟨rfl, rfl⟩)
     | (have _t := tok1; at_builtin; refine wpList_app _ rfl _ _ 23 rfl w.heap.size 5 i0 _ 1 Tryz.underlying23 hi hz0 hz1 hz2 rfl _ p.length _ rfl (HO.out.alloc _) _ 1 _ [_] rfl (Sl.one _ _ _) (by simp [Value.oneCell']) (by unfold maxLen; omega) (by omega) (by have := Ext.size HW.out; simp; omega) ?_; intro v4 w4 hown4 hgrow4; have HO4 := hid hown4; have HX4 := hid (ext_grown (a := w) (HW.out.alloc _) (HO.out.alloc _) (Nat.le_refl _) hgrow4); clear hown4 hgrow4 tok1)
     | (at_builtin; refine wpList_app _ rfl _ _ 23 rfl w.heap.size 5 i0 _ 1 Tryz.underlying23 hi hz0 hz1 hz2 rfl _ (p.length + 1) _ rfl (HO4.out.alloc _) _ 1 _ [_] rfl (Sl.one _ _ _) (by simp [Value.oneCell']) (by unfold maxLen; omega) (by omega) (by have := Ext.size HX4.out; simp; omega) ?_; intro v5 w5 hown5 hgrow5; have HO5 := hid hown5; have HX5 := hid (ext_grown (a := w) (HX4.out.alloc _) (HO4.out.alloc _) (Nat.le_refl _) hgrow5); clear hown5 hgrow5))
    refine ⟨⟨k + 1, by omega, by go_num, ?_, HX5.out⟩, by simp [intOf]; omega⟩
    rw [HF.out, List.length_append, show ([92, s[k]] : By) = [92] ++ [s[k]] from rfl, Lib.byteCells_append, Lib.byteCells_append, ← List.append_assoc]
    exact HO5.out
  ·have hkI : ¬ (k : Int) < (s.size : Int) := by omega
   have hfull : s.data.toList.take k = s.data.toList := List.take_of_length_le (by rw [size_list]; omega)
   rw [hfull] at HO
   obtain ⟨⟨A, n, c, rfl⟩, hcv⟩ := own_string HO.out
   clear hfull
   go_wp2
   go_ret
   exact ⟨rfl, HW.out⟩
end Go.Proofs.YtpfmojeigjmlfaaGreatDoor
namespace Go.Proofs.YtpfmojeigjmlfaaGreatDoor
open Go.RowKit
def prtT (gap : By) (k : Int) (t n s : By) (cs ps : F) : By :=
 if k = 1 then escP t
  else if k = 10 then [35]
  else if k = 11 then (if ps.len = 0 then [60] ++ n ++ [47, 62] else [60] ++ n ++ [62] ++ txtP gap ps ++ [60, 47] ++ n ++ [62])
  else if k = 2 then [123] ++ n ++ [125]
  else if 3 ≤ k ∧ k ≤ 9 then [123] ++ n ++ [44] ++ gap ++ usesP k ++ styleP gap s ++ (if 7 ≤ k then [44] else []) ++ casT gap cs ++ [125]
  else []
theorem txt_prt (gap : By) (k : Int) (t n s : By) (cs ps r : F) : txtP gap (.cons k t n s cs ps r) = prtT gap k t n s cs ps ++ txtP gap r := by rw [txtP]; rfl
theorem data_ba (l : By) : (⟨l.toArray⟩ : ByteArray).data.toList = l := rfl
theorem data_add (a b : ByteArray) : (a ++ b).data.toList = a.data.toList ++ b.data.toList := by simp
theorem txt_wtg (gap : By) : ∀ (f : F), (txtP gap f).length ≤ wt f + gap.length * (2 * f.nodes) ∧ (casT gap f).length ≤ wt f + gap.length * (2 * f.nodes) := by
 intro f
 induction f with
 | nil => rw [txtP, casT, wt]; exact ⟨Nat.zero_le _, Nat.zero_le _⟩
 | cons k t n s c p r ihc ihp ihr =>
   have h1 := escP_len t
   have h2 := uses_len k
   obtain ⟨c1, c2⟩ := ihc
   obtain ⟨p1, p2⟩ := ihp
   obtain ⟨r1, r2⟩ := ihr
   rw [F.nodes]
   have hg : gap.length * (2 * (c.nodes + p.nodes + r.nodes + 1)) = gap.length * (2 * c.nodes) + gap.length * (2 * p.nodes) + gap.length * (2 * r.nodes) + 2 * gap.length := by
    rw [Nat.mul_add, Nat.mul_add, Nat.mul_add, Nat.mul_add, Nat.mul_add, Nat.mul_add]
    omega
   rw [hg]
   refine ⟨?_, ?_⟩
   ·rw [txt_prt, wt, List.length_append]
    have h3 : (styleP gap s).length ≤ s.length + 1 + gap.length := by
     unfold styleP
     split
     ·exact Nat.zero_le _
     ·simp only [List.length_append, List.length_cons, List.length_nil]; omega
    have h4 : (if 7 ≤ k then [44] else ([] : By)).length ≤ 1 := by split <;> simp
    have h5 : (prtT gap k t n s c p).length ≤ 2 * t.length + 2 * n.length + s.length + 20 + wt c + wt p + gap.length * (2 * c.nodes) + gap.length * (2 * p.nodes) + 2 * gap.length := by
     unfold prtT
     split
     ·omega
     split
     ·simp only [List.length_cons, List.length_nil]; omega
     split
     ·split
      ·simp only [List.length_append, List.length_cons, List.length_nil]; omega
      ·simp only [List.length_append, List.length_cons, List.length_nil]; omega
     split
     ·simp only [List.length_append, List.length_cons, List.length_nil]; omega
     split
     ·simp only [List.length_append, List.length_cons, List.length_nil]; omega
     ·exact Nat.zero_le _
    omega
   ·rw [casT, wt]
    simp only [List.length_append, List.length_cons, List.length_nil]
    omega
theorem nodes_wtg : ∀ f : F, f.nodes * 20 ≤ wt f
 | .nil => Nat.le_refl _
 | .cons k t n s c p r => by
   have h1 := nodes_wtg c
   have h2 := nodes_wtg p
   have h3 := nodes_wtg r
   rw [F.nodes, wt]
   omega
theorem txt_len {gap : By} {f : F} (hg : gap.length ≤ 24) (hw : wt f ≤ 40000000) : (txtP gap f).length ≤ 200000000 := by
 have h1 := (txt_wtg gap f).1
 have h2 := nodes_wtg f
 have h3 : gap.length * (2 * f.nodes) ≤ 24 * (2 * f.nodes) := Nat.mul_le_mul_right _ hg
 omega
def TxH (gap : By) (N : Nat) : Prop := ∀ (f : F) (v : Value) (ok : Nat → Prop) (w : World), f.nodes < N → N ≤ 1000000000 → FwS w ok f v → Can f → wt f ≤ 40000000 →
 Calls Tryz.prog 13 #[v, .string ⟨gap.toArray⟩] w fun e w' => e = .returned (.string ⟨(txtP gap f).toArray⟩) ∧ Ext w w'
def TxI (w : World) (f : F) (gap R : By) (s i : Value) (wr : World) : Prop := ∃ (j : Nat) (a : ByteArray), j ≤ f.len ∧ i = .int .i64 j ∧ s = .string a ∧ a.data.toList ++ txtP gap (fdrop f j) = R ∧ Ext w wr
def TxJ (w : World) (ca : F) (gap R : By) (s i : Value) (wr : World) : Prop := ∃ (j : Nat) (a : ByteArray), j ≤ ca.len ∧ i = .int .i64 j ∧ s = .string a ∧ a.data.toList ++ casT gap (fdrop ca j) = R ∧ Ext w wr
def BWg (b : Bool) (W : World) (v : Value) (wx : World) : Prop := v = .bool b ∧ W = wx
def TxB (w : World) (l : By) (s : Value) (wr : World) : Prop := ∃ a : ByteArray, s = .string a ∧ a.data.toList = l ∧ Ext w wr
theorem case_wt : ∀ (ca : F) (i : Nat) {k : Int} {t n s : By} {cs ps r : F}, fdrop ca i = .cons k t n s cs ps r → wt ps ≤ wt ca
 | .nil, i, _, _, _, _, _, _, _, h => by cases i <;> cases h
 | .cons _ _ _ _ _ _ _, 0, _, _, _, _, _, _, _, h => by
   rw [fdrop] at h
   injection h with _ _ _ _ _ h6 _
   subst h6
   rw [wt]
   omega
 | .cons _ _ _ _ _ _ r, i + 1, _, _, _, _, _, _, _, h => by
   have := case_wt r i h
   rw [wt]
   omega
def usesC : Array Value := #[.string ⟨#[110, 117, 109, 98, 101, 114]⟩, .string ⟨#[117, 110, 105, 116]⟩, .string ⟨#[100, 97, 116, 101]⟩, .string ⟨#[108, 105, 115, 116]⟩, .string ⟨#[112, 108, 117, 114, 97, 108]⟩, .string ⟨#[111, 114, 100, 105, 110, 97, 108]⟩, .string ⟨#[115, 101, 108, 101, 99, 116]⟩]
set_option maxHeartbeats 8000000 in
theorem text_step (gap : By) (hgap : gap.length ≤ 24) (N : Nat) (hN : TxH gap N) : TxH gap (N + 1) := by
 intro f v ok w hnd hNN hF hcan hwt
 obtain ⟨Af, cf, rfl⟩ := hF.val
 have hfl : f.len ≤ 1000000000 := by have := flJ_nodes f; omega
 obtain ⟨R, hR⟩ : ∃ R, R = txtP gap f := ⟨_, rfl⟩
 obtain ⟨gb, hgb⟩ : ∃ gb : ByteArray, gb = ⟨gap.toArray⟩ := ⟨_, rfl⟩
 rw [← hR, ← hgb]
 have hgl : gb.size ≤ 24 := by rw [hgb]; exact hgap
 have hRl : R.length ≤ 200000000 := by rw [hR]; exact txt_len hgap hwt
 have HRL := hid hRl
 have HGL := hid hgap
 have HGB := hid (show gb.data.toList = gap from by rw [hgb])
 have KT := hid (show ∀ (g : F) (u : Value) (ok : Nat → Prop) (W : World), g.nodes < N → FwS W ok g u → Can g → wt g ≤ 40000000 →
  Calls Tryz.prog 13 #[u, .string gb] W fun e w' => e = .returned (.string ⟨(txtP gap g).toArray⟩) ∧ Ext W w' from fun g u ok W h1 h2 h3 h4 => by rw [hgb]; exact hN g u ok W h1 (by omega) h2 h3 h4)
 have HFW := hid hF
 have HCAN := hid hcan
 have HND := hid hnd
 have HWT := hid hwt
 obtain ⟨W0, hW0⟩ : ∃ W0, W0 = w.alloc (.cells usesC 9) := ⟨_, rfl⟩
 have HX0 := hid (show Ext w W0 from by rw [hW0]; exact (Ext.refl w).alloc _)
 have HU := hid (show AtC 9 W0 w.heap.size usesC from by rw [hW0]; exact AtC.new w _)
 have H0 := hid (show TxI W0 f gap R (.string ⟨#[]⟩) (.int .i64 0) W0 from ⟨0, _, Nat.zero_le _, rfl, rfl, by rw [fdrop_zero, hR]; rfl, Ext.refl _⟩)
 unfold usesC at hW0
 clear hF hcan hnd hwt hR hgb hgap hRl
 go_enter Tryz.func13, Tryz.ntmps13
 go_wp2_with fail
 rw [← hW0]
 clear hW0
 go_loopw [5, 7] (TxI W0 f gap R) (fun _ i _ => f.len - (intOf i).toNat)
 case atStart => exact H0.out
 case round =>
  obtain ⟨j, a, hj, rfl, rfl, hr, hw⟩ := hrel
  obtain ⟨wo, rfl⟩ : ∃ wo : World, wo = wr := ⟨_, rfl⟩
  have HW := hid hw
  by_cases hjl : j < f.len
  rotate_left
  ·have hjI : ¬ (j : Int) < (f.len : Int) := by omega
   rw [fdrop_end f j (by omega), txtP, List.append_nil] at hr
   have HRR := hid (show (.string a : Value) = .string ⟨R.toArray⟩ from by rw [← hr])
   clear hw hr
   go_wp2
   go_ret
   exact ⟨ret_val HRR.out, HX0.out.trans HW.out⟩
  have hjI : (j : Int) < (f.len : Int) := by omega
  obtain ⟨b, o, cc', k, t, n, s, ca, pa, Ac, cac, Ap, cpa, hv, hbw, _, hdr, c0, c1, c2, c3, c4, c5, hCA, hPA⟩ := (HFW.out.ext (HX0.out.trans hw)).at_ hjl
  injection hv with hA _ hcc
  subst hA hcc
  have hcn := (can_drop f j).1 HCAN.out
  have hwp := wt_drop f j hdr
  rw [hdr] at hcn hr
  rw [Can] at hcn
  obtain ⟨hnl, hsl', hcc, hcp, _⟩ := hcn
  rw [txt_prt] at hr
  have hnd2 : ca.nodes < N ∧ pa.nodes < N := by have h1 := fdrop_nodes f j; rw [hdr, F.nodes] at h1; have := HND.out; constructor <;> omega
  have hwtB := HWT.out
  have hcl : ca.len ≤ 1000000000 := by have h1 := flJ_nodes ca; have h2 := flJ_nodes f; have h3 := HND.out; have h4 := hnd2.1; have h5 := fdrop_nodes f j; rw [hdr, F.nodes] at h5; omega
  have hpl : pa.len ≤ 1000000000 := by have h1 := flJ_nodes pa; have h2 := flJ_nodes f; have h3 := HND.out; have h5 := fdrop_nodes f j; rw [hdr, F.nodes] at h5; omega
  have HR := hid hr
  have HCA := hid hCA
  have HPA := hid hPA
  have HCC := hid hcc
  have HNDC := hid hnd2.1
  have HXP := hid ((Ext.refl wo).alloc (.cells #[.int .i64 k, .string ⟨t.toArray⟩, .string ⟨n.toArray⟩, .string ⟨s.toArray⟩, .slice Ac ca.len cac, .slice Ap pa.len cpa] 50))
  have HB1 := hid (AtC.new wo #[.int .i64 k, .string ⟨t.toArray⟩, .string ⟨n.toArray⟩, .string ⟨s.toArray⟩, .slice Ac ca.len cac, .slice Ap pa.len cpa] : AtC 50 _ _ _)
  have KE := hid (fun W => (show Calls Tryz.prog 42 #[.string ⟨t.toArray⟩] W fun e w' => e = .returned (.string ⟨(escP t).toArray⟩) ∧ Ext W w' from resc_any ⟨t.toArray⟩ W (by show t.length ≤ _; omega)))
  have KP := hid (fun W (hx : Ext wo W) => KT.out pa (.slice Ap pa.len cpa) ok W hnd2.2 (HPA.out.ext hx) hcp (by omega))
  have HWC := hid (show wt ca ≤ 40000000 from by omega)
  have hal : a.size ≤ 200000000 := by
   have h := congrArg List.length hr
   rw [List.length_append, size_list] at h
   have := HRL.out
   omega
  have htl : (escP t).length ≤ 40000000 := by have h := escP_len t; omega
  have hpt : (txtP gap pa).length ≤ 200000000 := txt_len HGL.out (by omega)
  clear hw hr hCA hPA hcc hcp hnd2 hdr H0 hwp hwtB
  obtain ⟨W1, hW1⟩ : ∃ W1, W1 = wo.alloc (.cells #[.int .i64 k, .string ⟨t.toArray⟩, .string ⟨n.toArray⟩, .string ⟨s.toArray⟩, .slice Ac ca.len cac, .slice Ap pa.len cpa] 50) := ⟨_, rfl⟩
  rw [← hW1] at HXP HB1
  have p0 := HB1.out.cell 0 _ rfl
  have p1 := HB1.out.cell 1 _ rfl
  have p2 := HB1.out.cell 2 _ rfl
  have p3 := HB1.out.cell 3 _ rfl
  have p4 := HB1.out.cell 4 _ rfl
  have p5 := HB1.out.cell 5 _ rfl
  by_cases h1 : k = 1
  ·subst h1
   have HR1 := hid (show a.data.toList ++ (escP t ++ txtP gap (fdrop f (j + 1))) = R from HR.out)
   clear HR
   go_upto_region 8 with (fail)
   rw [← hW1]
   clear hW1
   go_wp2_with (go_at_call 42; with_reducible refine (KE.out _).mono ?_; rintro e w2 ⟨rfl, hx2⟩; have HX2 := hid hx2; clear hx2)
   exact ⟨⟨j + 1, _, hjl, by go_num, rfl, by rw [data_add, data_ba, List.append_assoc]; exact HR1.out, HW.out.trans (HXP.out.trans HX2.out)⟩, by simp [intOf]; omega⟩
  have b1 : (k == 1) = false := by rw [beq_eq_false_iff_ne]; exact h1
  by_cases h10 : k = 10
  ·subst h10
   have HR1 := hid (show a.data.toList ++ ([35] ++ txtP gap (fdrop f (j + 1))) = R from HR.out)
   clear HR
   go_upto_region 10 with (fail)
   rw [← hW1]
   clear hW1
   go_wp2_with fail
   exact ⟨⟨j + 1, _, hjl, by go_num, rfl, by rw [data_add, List.append_assoc]; exact HR1.out, HW.out.trans HXP.out⟩, by simp [intOf]; omega⟩
  have b10 : (k == 10) = false := by rw [beq_eq_false_iff_ne]; exact h10
  by_cases h11 : k = 11
  ·subst h11
   have HR1 := hid (show a.data.toList ++ ((if pa.len = 0 then [60] ++ n ++ [47, 62] else [60] ++ n ++ [62] ++ txtP gap pa ++ [60, 47] ++ n ++ [62]) ++ txtP gap (fdrop f (j + 1))) = R from HR.out)
   clear HR
   by_cases hp0 : pa.len = 0
   ·have HR2 := hid (show a.data.toList ++ (([60] ++ n ++ [47, 62]) ++ txtP gap (fdrop f (j + 1))) = R from by have h := HR1.out; rw [if_pos hp0] at h; exact h)
    have hp0I : ((pa.len : Int) == 0) = true := by rw [hp0]; rfl
    clear HR1 hp0
    go_upto_region 12 with (fail)
    rw [← hW1]
    clear hW1
    go_wp2_with fail
    exact ⟨⟨j + 1, _, hjl, by go_num, rfl, by rw [data_add, data_add, data_add, data_ba, ← HR2.out]; simp, HW.out.trans HXP.out⟩, by simp [intOf]; omega⟩
   have HR2 := hid (show a.data.toList ++ (([60] ++ n ++ [62] ++ txtP gap pa ++ [60, 47] ++ n ++ [62]) ++ txtP gap (fdrop f (j + 1))) = R from by have h := HR1.out; rw [if_neg hp0] at h; exact h)
   have hp0I : ((pa.len : Int) == 0) = false := by rw [beq_eq_false_iff_ne]; omega
   clear HR1 hp0
   have KPE := hid (fun y : ExtW W1 => KP.out y.v (HXP.out.trans y.h))
   generalize hTP : txtP gap pa = TP at *
   have y2 : ∀ y : ExtW W1, y.v.cell? ⟨wo.heap.size, 2, none⟩ = some (.string ⟨n.toArray⟩) := fun y => (HB1.out.ext y.h).cell 2 _ rfl
   have y5 : ∀ y : ExtW W1, y.v.cell? ⟨wo.heap.size, 5, none⟩ = some (.slice Ap pa.len cpa) := fun y => (HB1.out.ext y.h).cell 5 _ rfl
   go_upto_region 14 with (fail)
   rw [← hW1]
   clear hW1
   refine wp_region_ext (by kernel_rfl) (by kernel_rfl) ?_
   repeat (go_big_quiet_step ((go_at_call 13; with_reducible exact ExtW.call (KPE.out _))))
   refine wpQuiet_nil ?_
   intro wx hx
   have HX2 := hid (show Ext W1 wx from by obtain ⟨y, hy⟩ := hx; rw [hy]; exact y.h)
   clear hx y2 y5
   go_wp2_with fail
   exact ⟨⟨j + 1, _, hjl, by go_num, rfl, by simp only [data_add, data_ba]; rw [← HR2.out]; simp, HW.out.trans (HXP.out.trans HX2.out)⟩, by simp [intOf]; omega⟩
  have b11 : (k == 11) = false := by rw [beq_eq_false_iff_ne]; exact h11
  by_cases h2 : k = 2
  ·subst h2
   have HR1 := hid (show a.data.toList ++ ([123] ++ n ++ [125] ++ txtP gap (fdrop f (j + 1))) = R from HR.out)
   clear HR
   go_upto_region 16 with (fail)
   rw [← hW1]
   clear hW1
   go_wp2_with fail
   exact ⟨⟨j + 1, _, hjl, by go_num, rfl, by rw [data_add, data_add, data_add, data_ba, ← HR1.out]; simp, HW.out.trans HXP.out⟩, by simp [intOf]; omega⟩
  have b2 : (k == 2) = false := by rw [beq_eq_false_iff_ne]; exact h2
  by_cases h39 : 3 ≤ k ∧ k ≤ 9
  rotate_left
  ·have HR1 := hid (show a.data.toList ++ txtP gap (fdrop f (j + 1)) = R from by
    have h := HR.out
    unfold prtT at h
    rw [if_neg h1, if_neg h10, if_neg h11, if_neg h2, if_neg h39] at h
    exact h)
   clear HR
   go_upto_region 17 with (fail)
   rw [← hW1]
   clear hW1
   by_cases h3 : 3 ≤ k
   ·have h9 : ¬ k ≤ 9 := fun h => h39 ⟨h3, h⟩
    go_wp2_with fail
    exact ⟨⟨j + 1, _, hjl, by go_num, rfl, HR1.out, HW.out.trans HXP.out⟩, by simp [intOf]; omega⟩
   ·go_wp2_with fail
    exact ⟨⟨j + 1, _, hjl, by go_num, rfl, HR1.out, HW.out.trans HXP.out⟩, by simp [intOf]; omega⟩
  have HR1 := hid (show a.data.toList ++ ([123] ++ n ++ [44] ++ gap ++ usesP k ++ styleP gap s ++ (if 7 ≤ k then [44] else []) ++ casT gap ca ++ [125] ++ txtP gap (fdrop f (j + 1))) = R from by
   have h := HR.out
   unfold prtT at h
   rw [if_neg h1, if_neg h10, if_neg h11, if_neg h2, if_pos h39] at h
   exact h)
  clear HR
  obtain ⟨h3, h9⟩ := h39
  have H39 := hid (And.intro h3 h9)
  have HUI := hid (HU.out.ext HW.out)
  obtain ⟨k3, hk3⟩ : ∃ k3 : Nat, (k3 : Int) = k - 3 := ⟨(k - 3).toNat, by omega⟩
  have hk7 : (k3 : Int) < 7 := by omega
  have hk0 : ¬ k - 3 < 0 := by omega
  have hkw : IntKind.i64.wrap (k - 3) = (k3 : Int) := by rw [hk3]; exact IntWalk.i64_in _ (by omega)
  have hul := uses_len k
  obtain ⟨up, hup⟩ : ∃ up : By, up = usesP k := ⟨_, rfl⟩
  rw [← hup] at hul
  have hcell : usesC[k3]? = some (.string ⟨up.toArray⟩) := by
   have h : k3 = 0 ∨ k3 = 1 ∨ k3 = 2 ∨ k3 = 3 ∨ k3 = 4 ∨ k3 = 5 ∨ k3 = 6 := by omega
   rcases h with rfl | rfl | rfl | rfl | rfl | rfl | rfl
   ·obtain rfl : k = 3 := by omega
    subst hup; rfl
   ·obtain rfl : k = 4 := by omega
    subst hup; rfl
   ·obtain rfl : k = 5 := by omega
    subst hup; rfl
   ·obtain rfl : k = 6 := by omega
    subst hup; rfl
   ·obtain rfl : k = 7 := by omega
    subst hup; rfl
   ·obtain rfl : k = 8 := by omega
    subst hup; rfl
   ·obtain rfl : k = 9 := by omega
    subst hup; rfl
  have y0 : ∀ y : ExtW W1, y.v.cell? ⟨wo.heap.size, 0, none⟩ = some (.int .i64 k) := fun y => (HB1.out.ext y.h).cell 0 _ rfl
  have y2 : ∀ y : ExtW W1, y.v.cell? ⟨wo.heap.size, 2, none⟩ = some (.string ⟨n.toArray⟩) := fun y => (HB1.out.ext y.h).cell 2 _ rfl
  have yu : ∀ y : ExtW W1, y.v.cell? ⟨w.heap.size, k3, none⟩ = some (.string ⟨up.toArray⟩) := fun y => (HUI.out.ext (HXP.out.trans y.h)).cell k3 _ hcell
  have HUP := hid hup
  have HK3 := hid hk3
  clear hup hk3 hcell
  go_upto_region 18 with (fail)
  rw [← hW1]
  clear hW1
  go_cut [5] (TxB W1 (a.data.toList ++ ([123] ++ n ++ [44] ++ gap ++ up)))
  case first =>
   refine wp_region_ext (by kernel_rfl) (by kernel_rfl) ?_
   repeat (go_big_quiet_step (fail))
   refine wpQuiet_nil ?_
   intro wx hx
   have HX2 := hid (show Ext W1 wx from by obtain ⟨y, hy⟩ := hx; rw [hy]; exact y.h)
   clear hx y0 y2 yu
   go_wp2
   go_meet
   exact ⟨_, rfl, by simp only [data_add, data_ba]; rw [HGB.out], HX2.out⟩
  case rest =>
  obtain ⟨a2, rfl, ha2, hx2⟩ := hcut
  have hl2 : a2.size ≤ 210000000 := by
   have h := congrArg List.length ha2
   simp only [List.length_append, List.length_cons, List.length_nil, size_list] at h
   have hg := HGL.out
   omega
  have HA2 := hid ha2
  have HX2 := hid hx2
  have q3 := (HB1.out.ext hx2).cell 3 _ rfl
  have HSM := hid (show (s = [] → styleP gap s = []) ∧ (¬ s = [] → styleP gap s = [44] ++ gap ++ s) from ⟨fun h => by unfold styleP; rw [if_pos h], fun h => by unfold styleP; rw [if_neg h]⟩)
  clear ha2 hx2 y0 y2 yu p0 p1 p2 p3 p4 p5
  obtain ⟨stb, hstb⟩ : ∃ stb, stb = (!(s == [])) := ⟨_, rfl⟩
  have HSTB := hid hstb
  clear hstb
  go_upto_region 19 with (fail)
  go_cut [108] (BWg stb wc)
  case first =>
   go_wp2_with fail
   go_meet
   exact ⟨by rw [HSTB.out]; cases s <;> rfl, rfl⟩
  case rest =>
  obtain ⟨rfl, rfl⟩ := hcut
  go_upto_if 108 with (fail)
  go_cut [5] (TxB wc (a.data.toList ++ ([123] ++ n ++ [44] ++ gap ++ up) ++ styleP gap s))
  case first =>
   by_cases hs0 : s = []
   ·obtain rfl : stb = false := by rw [HSTB.out, hs0]; rfl
    have HSM1 := hid (HSM.out.1 hs0)
    clear HSM HSTB hs0
    go_wp2_with fail
    go_meet
    exact ⟨a2, rfl, by rw [HA2.out, HSM1.out, List.append_nil], Ext.refl _⟩
   ·obtain rfl : stb = true := by rw [HSTB.out]; simp [hs0]
    have HSM1 := hid (HSM.out.2 hs0)
    clear HSM HSTB hs0
    go_wp2_with fail
    go_meet
    exact ⟨_, rfl, by simp only [data_add, data_ba]; rw [HA2.out, HSM1.out, HGB.out], Ext.refl _⟩
  case rest =>
  obtain ⟨a3, rfl, ha3, hx3⟩ := hcut
  have hl3 : a3.size ≤ 220000000 := by
   have h := congrArg List.length ha3
   have h2 : (styleP gap s).length ≤ s.length + 1 + gap.length := by
    unfold styleP
    split
    ·exact Nat.zero_le _
    ·simp only [List.length_append, List.length_cons, List.length_nil]; omega
   simp only [List.length_append, List.length_cons, List.length_nil, size_list] at h
   have hg := HGL.out
   omega
  have HA3 := hid ha3
  have HX3 := hid (HX2.out.trans hx3)
  have r0 := (HB1.out.ext (HX2.out.trans hx3)).cell 0 _ rfl
  clear ha3 hx3 q3 HSM HSTB
  have KS := hid (fun W => rsel26_any k W)
  obtain ⟨sb, hsb⟩ : ∃ sb, sb = ((k == 7 || k == 8) || k == 9) := ⟨_, rfl⟩
  rw [← hsb] at KS
  have HSB := hid (show (if 7 ≤ k then [44] else ([] : By)) = if sb = true then [44] else [] from by
   have h := H39.out
   have e : (7 ≤ k) ↔ sb = true := by
    rw [hsb, Bool.or_eq_true, Bool.or_eq_true, beq_iff_eq, beq_iff_eq, beq_iff_eq]
    omega
   by_cases h7 : 7 ≤ k
   ·rw [if_pos h7, if_pos (e.1 h7)]
   ·rw [if_neg h7, if_neg (fun q => h7 (e.2 q))])
  clear hsb
  obtain ⟨W3, hW3⟩ : ∃ W3 : World, W3 = wc := ⟨_, rfl⟩
  rw [← hW3] at HX3 r0
  go_upto_region 21 with (fail)
  rw [← hW3]
  clear hW3
  go_cut [118] (BWg sb W3)
  case first =>
   go_wp2_with (go_at_call 43; with_reducible refine (KS.out _).mono ?_; rintro e w2 ⟨rfl, rfl⟩)
   go_meet
   exact ⟨rfl, rfl⟩
  case rest =>
  obtain ⟨rfl, rfl⟩ := hcut
  go_upto_if 118 with (fail)
  go_cut [5] (TxB W3 (a3.data.toList ++ (if sb = true then [44] else [])))
  case first =>
   cases sb
   ·go_wp2_with fail
    go_meet
    exact ⟨a3, rfl, by simp, Ext.refl _⟩
   ·go_wp2_with fail
    go_meet
    exact ⟨_, rfl, by simp only [data_add]; rfl, Ext.refl _⟩
  case rest =>
  obtain ⟨a4, rfl, ha4, hx4⟩ := hcut
  obtain ⟨RC, hRC⟩ : ∃ RC, RC = a4.data.toList ++ casT gap ca := ⟨_, rfl⟩
  have HRC := hid (show RC ++ [125] ++ txtP gap (fdrop f (j + 1)) = R from by
   rw [hRC, ha4, HA3.out, ← HR1.out, HSB.out, HUP.out]
   simp)
  have HX4 := hid (HX3.out.trans hx4)
  have H4 := hid (show TxJ wc ca gap RC (.string a4) (.int .i64 0) wc from ⟨0, a4, Nat.zero_le _, rfl, rfl, by rw [fdrop_zero, hRC], Ext.refl _⟩)
  have HRL2 := hid (show RC.length ≤ 200000000 from by
   have h := congrArg List.length HRC.out
   simp only [List.length_append, List.length_cons, List.length_nil] at h
   have := HRL.out
   omega)
  have HB4 := hid (HB1.out.ext (HX3.out.trans hx4))
  clear ha4 hx4 hRC r0 HSB HR1 HUP HA2 HA3 HUI KS
  obtain ⟨W4, hW4⟩ : ∃ W4 : World, W4 = wc := ⟨_, rfl⟩
  rw [← hW4] at HX4 H4 HB4
  go_wp2_with fail
  rw [← hW4]
  clear hW4
  go_loopw [5, 9] (TxJ W4 ca gap RC) (fun _ i _ => ca.len - (intOf i).toNat)
  case atStart => exact H4.out
  case round =>
   obtain ⟨m, a5, hm, rfl, rfl, hr5, hx5⟩ := hrel
   obtain ⟨wi, rfl⟩ : ∃ wi : World, wi = wr := ⟨_, rfl⟩
   have HX5 := hid hx5
   have hl5 : a5.size ≤ 200000000 := by
    have h := congrArg List.length hr5
    simp only [List.length_append, size_list] at h
    have := HRL2.out
    omega
   have q4 := (HB4.out.ext hx5).cell 4 _ rfl
   by_cases hml : m < ca.len
   rotate_left
   ·have hmI : ¬ (m : Int) < (ca.len : Int) := by omega
    rw [fdrop_end ca m (by omega), casT, List.append_nil] at hr5
    have HF := hid (show (a5 ++ ⟨#[125]⟩ : ByteArray).data.toList ++ txtP gap (fdrop f (j + 1)) = R from by
     rw [data_add, hr5]
     exact HRC.out)
    clear hx5 hr5
    go_wp2_with fail
    exact ⟨⟨j + 1, _, hjl, by go_num, rfl, HF.out, HW.out.trans (HXP.out.trans (HX4.out.trans HX5.out))⟩, by simp [intOf]; omega⟩
   have hmI : (m : Int) < (ca.len : Int) := by omega
   obtain ⟨b', o', cc2, k', t', n', s', ca', pa', Ap', cp', hv', hbw', _, hdr', d0, d1, hPA'⟩ := (HCA.out.ext (HXP.out.trans (HX4.out.trans hx5))).at_ hml
   injection hv' with hA' _ hcc'
   subst hA' hcc'
   rw [hdr', casT] at hr5
   have hwp' := case_wt ca m hdr'
   have hwcB := HWC.out
   have hn2 : pa'.nodes < N := by have h1 := fdrop_nodes ca m; rw [hdr', F.nodes] at h1; have := HNDC.out; omega
   have hcp' : Can pa' ∧ n'.length ≤ 1048576 := by
    have h := (can_drop ca m).2 HCC.out
    rw [hdr', CanC] at h
    exact ⟨h.2.2.2.2.2.1, h.2.2.2.2.1⟩
   have hnl' := hcp'.2
   have KPE := hid (fun y : ExtW wi => KT.out pa' (.slice Ap' pa'.len cp') ok y.v hn2 (hPA'.ext y.h) hcp'.1 (by omega))
   have htp' : (txtP gap pa').length ≤ 200000000 := txt_len HGL.out (by omega)
   have HR5 := hid hr5
   have HBI := hid (HB4.out.ext hx5)
   have y4 : ∀ y : ExtW wi, y.v.cell? ⟨wo.heap.size, 4, none⟩ = some (.slice (some ⟨b', o', none⟩) ca.len cac) := fun y => (HBI.out.ext y.h).cell 4 _ rfl
   have y0 : ∀ y : ExtW wi, y.v.cell? ⟨b', o' + m * 2, none⟩ = some (.string ⟨n'.toArray⟩) := fun y => (Ext.cell y.h (World.block_lt_of_cell? _ _ d0)).trans d0
   have y1 : ∀ y : ExtW wi, y.v.cell? ⟨b', o' + m * 2 + 1, none⟩ = some (.slice Ap' pa'.len cp') := fun y => (Ext.cell y.h (World.block_lt_of_cell? _ _ d1)).trans d1
   generalize hTP : txtP gap pa' = TP at *
   clear hx5 hr5 hPA' hdr' hwp' hwcB hn2 hcp'
   go_wp2_with fail
   refine wp_region_ext (by kernel_rfl) (by kernel_rfl) ?_
   repeat (go_big_quiet_step ((go_at_call 13; with_reducible exact ExtW.call (KPE.out _))))
   refine wpQuiet_nil ?_
   intro wx hx
   have HX6 := hid (show Ext wi wx from by obtain ⟨y, hy⟩ := hx; rw [hy]; exact y.h)
   clear hx y0 y1 y4
   go_wp2_with fail
   exact ⟨⟨m + 1, _, hml, by go_num, rfl, by simp only [data_add, data_ba]; rw [HGB.out, ← HR5.out]; simp, HX5.out.trans HX6.out⟩, by simp [intOf]; omega⟩
theorem text_all (gap : By) (hg : gap.length ≤ 24) : ∀ N, TxH gap N
 | 0 => fun f v ok w h => absurd h (Nat.not_lt_zero _)
 | N + 1 => text_step gap hg N (text_all gap hg N)
end Go.Proofs.YtpfmojeigjmlfaaGreatDoor
