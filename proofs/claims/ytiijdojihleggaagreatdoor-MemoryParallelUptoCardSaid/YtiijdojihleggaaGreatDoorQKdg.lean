import Derived.Test.YtiijdojihleggaaGreatDoorQNPM
import Derived.Test.YtiijdojihleggaaGreatDoorQNPA
import Derived.Test.YtiijdojihleggaaGreatDoorQNPI
set_option maxRecDepth 100000
set_option linter.unusedSimpArgs false
set_option linter.unusedVariables false
open Go.Lib (hid)
namespace Go.Proofs.YtiijdojihleggaaGreatDoor
open Go.RowKit
theorem PrS.gB {b B : Nat} {g0 g : Option Nat} {w0 w : World} (he : Exc (prB b g0) w0 w) (hn : g = g0 ∨ ∀ k, g = some k → w0.heap.size ≤ k) (hb : B ≤ b) (hg : ∀ k, g0 = some k → B ≤ k) (hw : B ≤ w0.heap.size) : ∀ x, g = some x → B ≤ x := by
 intro x hx
 rcases hn with h | h
 ·exact hg x (by rw [← h]; exact hx)
 ·have := h x hx
  omega
theorem case_wtK : ∀ (ca : F) (i : Nat) {k : Int} {t n s : By} {cs ps r : F}, fdrop ca i = .cons k t n s cs ps r → wt ps ≤ wt ca
 | .nil, i, _, _, _, _, _, _, _, h => by cases i <;> cases h
 | .cons _ _ _ _ _ _ _, 0, _, _, _, _, _, _, _, h => by
   rw [fdrop] at h
   injection h with _ _ _ _ _ h6 _
   subst h6
   rw [wt]
   omega
 | .cons _ _ _ _ _ _ r, i + 1, _, _, _, _, _, _, _, h => by
   have := case_wtK r i h
   rw [wt]
   omega
def BWk (b : Bool) (W : World) (v : Value) (wx : World) : Prop := v = .bool b ∧ W = wx
def CsI (b : Nat) (g : Option Nat) (w : World) (R : By) (f : F) (i : Value) (wr : World) : Prop := ∃ (j : Nat) (l : By), j ≤ f.len ∧ i = .int .i64 j ∧ l ++ casT [32] (fdrop f j) = R ∧ PrS b g w l wr
def wordsC : Array Value := #[.string ⟨#[]⟩, .string ⟨#[]⟩, .string ⟨#[]⟩, .string ⟨#[110, 117, 109, 98, 101, 114]⟩, .string ⟨#[117, 110, 105, 116]⟩, .string ⟨#[100, 97, 116, 101]⟩, .string ⟨#[108, 105, 115, 116]⟩, .string ⟨#[112, 108, 117, 114, 97, 108]⟩, .string ⟨#[111, 114, 100, 105, 110, 97, 108]⟩, .string ⟨#[115, 101, 108, 101, 99, 116]⟩]
theorem form_el {d : Nat} {c pt : Bool} {t n s : By} {ca pa r : F} (h : formB d c pt (.cons 11 t n s ca pa r) = true) : formB (d + 1) c false pa = true := by
 rw [form_prt] at h
 unfold prtB at h
 simp at h
 exact h.1.2.2
theorem casK_at {kind d : Nat} {c : Bool} {k : Int} {t n s : By} {cs ps r : F} : ∀ (ca : F) (j : Nat) (seen : List By), casB kind d c seen ca = true → fdrop ca j = .cons k t n s cs ps r → formB d c false ps = true
 | .nil, j, _, _, h => by cases j <;> cases h
 | .cons _ _ _ _ _ _ _, 0, seen, hf, h => by
   rw [fdrop] at h
   injection h with e1 e2 e3 e4 e5 e6 e7
   subst e1 e2 e3 e4 e5 e6
   rw [casB] at hf
   simp only [Bool.and_eq_true] at hf
   exact hf.1.2
 | .cons _ _ _ _ _ _ r2, j + 1, seen, hf, h => by
   rw [casB] at hf
   simp only [Bool.and_eq_true] at hf
   exact casK_at r2 j _ hf.2 h
theorem form_cas {d : Nat} {c pt : Bool} {k : Int} {t n s : By} {ca pa r : F} (h : formB d c pt (.cons k t n s ca pa r) = true) (h3 : 3 ≤ k) (h9 : k ≤ 9) :
 ∀ (j : Nat) {k' : Int} {t' n' s' : By} {cs' ps' r' : F}, fdrop ca j = .cons k' t' n' s' cs' ps' r' → ∃ d' c', formB d' c' false ps' = true := by
 intro j k' t' n' s' cs' ps' r' hj
 by_cases h7 : 7 ≤ k
 ·rw [form_prt] at h
  unfold prtB at h
  simp only [Bool.and_eq_true] at h
  have h2 := h.1.2.2
  rw [show (decide (7 ≤ k) && decide (k ≤ 9)) = true from by rw [decide_eq_true h7, decide_eq_true h9]; rfl] at h2
  simp only [Bool.not_true, Bool.false_or, Bool.and_eq_true] at h2
  exact ⟨_, _, casK_at ca j _ h2.2.1.1 hj⟩
 ·have hk : k = 3 ∨ k = 4 ∨ k = 5 ∨ k = 6 := by omega
  have hn : ca.isNil = true := by
   rw [formB] at h
   rcases hk with rfl | rfl | rfl | rfl <;> (simp at h; simp [h])
  cases ca with
  | nil => cases j <;> cases hj
  | cons a b' c' d' e' f' g' => simp [F.isNil] at hn
set_option maxHeartbeats 8000000 in
theorem pt_of (N : Nat) (hN : PtsH N) : PtH N := by
 intro k t n s ca pa Ac cc Ap cp d c pt b B g l w hnd hNN hCA hPA hform hcan hwt hpr hbB hgB hlen
 have hcl : ca.len ≤ 1000000000 := by have := flJ_nodesK ca; omega
 have hpl : pa.len ≤ 1000000000 := by have := flJ_nodesK pa; omega
 rw [wt] at hwt
 obtain ⟨R, hR⟩ : ∃ R, R = l ++ txtP [32] (.cons k t n s ca pa .nil) := ⟨_, rfl⟩
 rw [← hR] at hlen ⊢
 have HR := hid hR
 obtain ⟨W1, hW1⟩ : ∃ W1, W1 = w.alloc (.cells #[.int .i64 k, .string ⟨t.toArray⟩, .string ⟨n.toArray⟩, .string ⟨s.toArray⟩, .slice Ac ca.len cc, .slice Ap pa.len cp] 96) := ⟨_, rfl⟩
 obtain ⟨W0, hW0⟩ : ∃ W0, W0 = W1.alloc (.cells wordsC 221) := ⟨_, rfl⟩
 have hx1 : Ext w W1 := by rw [hW1]; exact (Ext.refl w).alloc _
 have hx0 : Ext w W0 := by rw [hW0]; exact hx1.alloc _
 have HX0 := hid hx0
 have hB1 : AtC 96 W0 w.heap.size #[.int .i64 k, .string ⟨t.toArray⟩, .string ⟨n.toArray⟩, .string ⟨s.toArray⟩, .slice Ac ca.len cc, .slice Ap pa.len cp] := by
  rw [hW0]
  refine AtC.ext ?_ ((Ext.refl W1).alloc _)
  rw [hW1]
  exact AtC.new w _
 have hs1 : W1.heap.size = w.heap.size + 1 := by rw [hW1, World.size_alloc]
 have hWO : AtC 221 W0 (w.heap.size + 1) wordsC := by rw [hW0, ← hs1]; exact AtC.new W1 _
 have HS1 := hid hs1
 have HB1 := hid hB1
 have HWO := hid hWO
 have HP0 := hid (hpr.ext hx0).refl
 have HNE := hid (show w.heap.size ≠ b ∧ g ≠ some w.heap.size ∧ w.heap.size + 1 ≠ b ∧ g ≠ some (w.heap.size + 1) from by
  have h1 := hpr.lt
  have h2 := hpr.glt
  exact ⟨by omega, fun e => absurd (h2 _ e) (Nat.lt_irrefl _), by omega, fun e => by have := h2 _ e; omega⟩)
 have HLW := hid (show B ≤ W0.heap.size from by have h1 := hpr.lt; have h2 := hx0.size; omega)
 have HCA := hid (hCA.ext hx0)
 have HPA := hid (hPA.ext hx0)
 have HFORM := hid hform
 have HCAN := hid hcan
 have HND := hid hnd
 have HNN := hid hNN
 have HGB := hid hgB
 have HBB := hid hbB
 have HLEN := hid hlen
 have HWT := hid hwt
 have KE := hid (fun W => (show Calls Tryz.prog 103 #[.string ⟨t.toArray⟩] W fun e w' => e = .returned (.string ⟨(escP t).toArray⟩) ∧ Ext W w' from tesc_any ⟨t.toArray⟩ W (by show t.length ≤ _; omega)))
 have p0 := hB1.cell 0 _ rfl
 have p1 := hB1.cell 1 _ rfl
 have p2 := hB1.cell 2 _ rfl
 have p3 := hB1.cell 3 _ rfl
 have p4 := hB1.cell 4 _ rfl
 have p5 := hB1.cell 5 _ rfl
 have hW0' := hW0
 rw [hW1] at hW0'
 unfold wordsC at hW0'
 clear hCA hPA hform hcan hnd hNN hgB hbB hlen hpr hx0 hx1 hB1 hWO hs1 hwt hR
 go_enter Tryz.func127, Tryz.ntmps127
 go_upto_region 2 with (fail)
 rw [← hW0']
 clear hW0' hW0 hW1
 by_cases h1 : k = 1
 ·subst h1
  have HT := hid (show l ++ escP t = R from by rw [HR.out, txtP, txtP]; simp)
  have HL1 := hid (show (l ++ (⟨(escP t).toArray⟩ : ByteArray).data.toList).length ≤ 1000000000 from by show (l ++ escP t).length ≤ _; rw [HT.out]; exact HLEN.out)
  go_wp2_with (first
   | (go_at_call 103; with_reducible refine (KE.out _).mono ?_; rintro e w2 ⟨rfl, hx2⟩; have HP2 := hid (HP0.out.ext hx2); clear hx2)
   | (go_at_call 168; (with_reducible refine (pr_lit1 _ HP2.out HL1.out).mono ?_); rintro e w3 ⟨rfl, hW3⟩; have HW3 := hid hW3; clear hW3))
  go_end0
  exact ⟨rfl, by have h := PrS.back HX0.out HW3.out; rw [← HT.out]; exact h⟩
 have b1 : (k == 1) = false := by rw [beq_eq_false_iff_ne]; exact h1
 by_cases h10 : k = 10
 ·subst h10
  have HT := hid (show l ++ [35] = R from by rw [HR.out, txtP, txtP]; simp)
  have HL1 := hid (show (l ++ (⟨#[35]⟩ : ByteArray).data.toList).length ≤ 1000000000 from by show (l ++ [35]).length ≤ _; rw [HT.out]; exact HLEN.out)
  go_wp2_with (first | (go_at_call 168; (with_reducible refine (pr_lit1 _ HP0.out HL1.out).mono ?_); rintro e w3 ⟨rfl, hW3⟩; have HW3 := hid hW3; clear hW3))
  go_end0
  exact ⟨rfl, by have h := PrS.back HX0.out HW3.out; rw [← HT.out]; exact h⟩
 have b10 : (k == 10) = false := by rw [beq_eq_false_iff_ne]; exact h10
 by_cases h2 : k = 2
 ·subst h2
  have HT := hid (show l ++ ([123] ++ (n ++ [125])) = R from by rw [HR.out, txtP, txtP]; simp)
  have HL1 := hid (show (l ++ ((⟨#[123]⟩ : ByteArray).data.toList ++ ((⟨n.toArray⟩ : ByteArray).data.toList ++ (⟨#[125]⟩ : ByteArray).data.toList))).length ≤ 1000000000 from by show (l ++ ([123] ++ (n ++ [125]))).length ≤ _; rw [HT.out]; exact HLEN.out)
  go_wp2_with (first | (go_at_call 168; (with_reducible refine (pr_lit3 _ _ _ HP0.out HL1.out).mono ?_); rintro e w3 ⟨rfl, hW3⟩; have HW3 := hid hW3; clear hW3))
  go_end0
  exact ⟨rfl, by have h := PrS.back HX0.out HW3.out; rw [← HT.out]; exact h⟩
 have b2 : (k == 2) = false := by rw [beq_eq_false_iff_ne]; exact h2
 by_cases h11 : k = 11
 ·subst h11
  by_cases hp0 : pa.len = 0
  ·have HT := hid (show l ++ ([60] ++ (n ++ [47, 62])) = R from by rw [HR.out, txtP, txtP]; simp [hp0])
   have HL1 := hid (show (l ++ ((⟨#[60]⟩ : ByteArray).data.toList ++ ((⟨n.toArray⟩ : ByteArray).data.toList ++ (⟨#[47, 62]⟩ : ByteArray).data.toList))).length ≤ 1000000000 from by show (l ++ ([60] ++ (n ++ [47, 62]))).length ≤ _; rw [HT.out]; exact HLEN.out)
   have hp0I : ((pa.len : Int) == 0) = true := by rw [hp0]; rfl
   clear hp0
   go_wp2_with (first | (go_at_call 168; (with_reducible refine (pr_lit3 _ _ _ HP0.out HL1.out).mono ?_); rintro e w3 ⟨rfl, hW3⟩; have HW3 := hid hW3; clear hW3))
   refine bodyPost_ret (results_none rfl _ _ _) rfl ?_
   exact ⟨rfl, by have h := PrS.back HX0.out HW3.out; rw [← HT.out]; exact h⟩
  have HT := hid (show l ++ ([60] ++ (n ++ [62])) ++ txtP [32] pa ++ ([60, 47] ++ (n ++ [62])) = R from by rw [HR.out, txtP, txtP]; simp [hp0])
  have hp0I : ((pa.len : Int) == 0) = false := by rw [beq_eq_false_iff_ne]; omega
  have hln : (l ++ ([60] ++ (n ++ [62]))).length + (txtP [32] pa).length + ([60, 47] ++ (n ++ [62]) : By).length ≤ 1000000000 := by
   have h := congrArg List.length HT.out
   have h2 := HLEN.out
   rw [List.length_append, List.length_append] at h
   omega
  have HL1 := hid (show (l ++ ((⟨#[60]⟩ : ByteArray).data.toList ++ ((⟨n.toArray⟩ : ByteArray).data.toList ++ (⟨#[62]⟩ : ByteArray).data.toList))).length ≤ 1000000000 from by show (l ++ ([60] ++ (n ++ [62]))).length ≤ _; omega)
  have hfe := form_el HFORM.out
  have hcp : Can pa := by have h := HCAN.out; rw [Can] at h; exact h.2.2.2.1
  obtain ⟨L1, hL1⟩ : ∃ L1, L1 = l ++ ([60] ++ (n ++ [62])) := ⟨_, rfl⟩
  rw [← hL1] at HT hln
  have HL1E := hid hL1
  have KP := hid (fun W g1 (hF : FwS W (lowB_ B) pa (.slice Ap pa.len cp)) (ho : PrO b g1 L1 W) (hg1 : ∀ x, g1 = some x → B ≤ x) => hN pa (.slice Ap pa.len cp) (d + 1) c false b B g1 L1 W (by have := HND.out; omega) HNN.out hF hfe hcp (by have := HWT.out; omega) ho HBB.out hg1 (by rw [List.length_append]; omega))
  have HLN := hid hln
  clear hp0 hfe hcp hL1 hln
  go_wp2_with fail
  (with_reducible refine (pr_lit3 _ _ _ HP0.out HL1.out).mono ?_)
  rintro e w3 ⟨rfl, hw3⟩
  have hw3' : PrS b g W0 L1 w3 := by rw [HL1E.out]; exact hw3
  have hF3 := PrS.keep hw3' HPA.out HBB.out HGB.out
  have hB3 := PrS.box hw3' HB1.out HNE.out.1 HNE.out.2.1
  have q5 := hB3.cell 5 _ rfl
  obtain ⟨e3, g3, o3, n3⟩ := hw3'
  have KP3 := hid (KP.out w3 g3 hF3 o3 (PrS.gB e3 n3 HBB.out HGB.out HLW.out))
  have HE3 := hid e3
  have HN3 := hid n3
  have HB3 := hid hB3
  clear hw3 hF3 hB3 e3 o3 n3 KP
  go_wp2_with fail
  refine KP3.out.mono ?_
  rintro e w4 ⟨rfl, hp4⟩
  have hw4 := PrS.step HE3.out HN3.out hp4
  have hB4 := PrS.box hw4 HB1.out HNE.out.1 HNE.out.2.1
  have q2 := hB4.cell 2 _ rfl
  have HP4 := hid hw4
  have HL4 := hid (show ((L1 ++ txtP [32] pa) ++ ((⟨#[60, 47]⟩ : ByteArray).data.toList ++ ((⟨n.toArray⟩ : ByteArray).data.toList ++ (⟨#[62]⟩ : ByteArray).data.toList))).length ≤ 1000000000 from by
   show ((L1 ++ txtP [32] pa) ++ ([60, 47] ++ (n ++ [62]))).length ≤ _
   rw [HT.out]
   exact HLEN.out)
  clear hp4 hw4 hB4 KP3 q5
  go_wp2_with (first | (go_at_call 168; (with_reducible refine (pr_lit3 _ _ _ HP4.out HL4.out).mono ?_); rintro e w5 ⟨rfl, hW5⟩; have HW5 := hid hW5; clear hW5))
  go_end0
  exact ⟨rfl, by have h := PrS.back HX0.out HW5.out; rw [← HT.out]; exact h⟩
 have h39 := kind_cases HFORM.out h1 h10 h11 h2
 obtain ⟨h3, h9⟩ := h39
 have b11 : (k == 11) = false := by rw [beq_eq_false_iff_ne]; exact h11
 obtain ⟨kn, hkn⟩ : ∃ kn : Nat, k = (kn : Int) := ⟨k.toNat, by omega⟩
 subst hkn
 obtain ⟨up, hup⟩ : ∃ up : By, up = usesP (kn : Int) := ⟨_, rfl⟩
 have hcell : wordsC[kn]? = some (.string ⟨up.toArray⟩) := by
  have h : kn = 3 ∨ kn = 4 ∨ kn = 5 ∨ kn = 6 ∨ kn = 7 ∨ kn = 8 ∨ kn = 9 := by omega
  rcases h with rfl | rfl | rfl | rfl | rfl | rfl | rfl <;> (subst hup; rfl)
 have pw := HWO.out.cell kn _ hcell
 have hul := uses_len (kn : Int)
 rw [← hup] at hul
 have hk10 : (kn : Int) < 10 := by omega
 have HT := hid (show l ++ ([123] ++ (n ++ ([44, 32] ++ up))) ++ styleP [32] s ++ (if 7 ≤ (kn : Int) then [44] else []) ++ casT [32] ca ++ [125] = R from by
  rw [HR.out, txtP, txtP, hup]
  simp [h1, h10, h11, h2, h3, h9])
 have HK39 := hid (And.intro h3 h9)
 have HUP := hid hup
 clear hup hcell
 obtain ⟨L1, hL1⟩ : ∃ L1, L1 = l ++ ([123] ++ (n ++ ([44, 32] ++ up))) := ⟨_, rfl⟩
 rw [← hL1] at HT
 have hLL : L1.length ≤ 1000000000 ∧ (L1 ++ styleP [32] s).length ≤ 1000000000 ∧ (L1 ++ styleP [32] s ++ (if 7 ≤ (kn : Int) then [44] else [])).length ≤ 1000000000 := by
  have h := congrArg List.length HT.out
  have h2 := HLEN.out
  simp only [List.length_append] at h ⊢
  omega
 have HLL := hid hLL
 have KA := hid (show Calls Tryz.prog 168 #[.pointer (some ⟨b, 0, none⟩), .slice (some ⟨W0.heap.size, 0, none⟩) 4 4] (W0.alloc (.cells #[.string ⟨#[123]⟩, .string ⟨n.toArray⟩, .string ⟨#[44, 32]⟩, .string ⟨up.toArray⟩] 9)).drew (fun e w' => e = .returned (.tuple #[]) ∧ PrS b g W0 L1 w') from by
  rw [hL1]
  exact pr_lit4 (w := W0.drew) ⟨#[123]⟩ ⟨n.toArray⟩ ⟨#[44, 32]⟩ ⟨up.toArray⟩ (HP0.out.ext (Ext.refl W0).drew) (by show (l ++ ([123] ++ (n ++ ([44, 32] ++ up)))).length ≤ _; rw [← hL1]; exact hLL.1))
 clear hL1 hLL
 go_upto_region 3 with (fail)
 go_cut [] (PrS b g W0 L1)
 case first =>
  go_region_with ((go_at_call 168; with_reducible refine KA.out.mono ?_; rintro e w3 ⟨rfl, hw3⟩; have HW3 := hid hw3; clear hw3))
  all_goals try go_wp2
  all_goals go_meet
  all_goals exact HW3.out
 case rest =>
 have HW3 := hid hcut
 obtain ⟨w3, hw3⟩ : ∃ w3 : World, w3 = wc := ⟨_, rfl⟩
 rw [← hw3] at HW3
 clear hcut
 have hB3 := PrS.box HW3.out HB1.out HNE.out.1 HNE.out.2.1
 have q3 := hB3.cell 3 _ rfl
 have HSM := hid (show (s = [] → styleP [32] s = []) ∧ (¬ s = [] → styleP [32] s = [44, 32] ++ s) from ⟨fun h => by unfold styleP; rw [if_pos h], fun h => by unfold styleP; rw [if_neg h]; rfl⟩)
 clear hB3 pw p0 p1 p2 p3 p4 p5 KA
 obtain ⟨L2, hL2⟩ : ∃ L2, L2 = L1 ++ styleP [32] s := ⟨_, rfl⟩
 rw [← hL2] at HT HLL
 have HL2 := hid hL2
 clear hL2
 obtain ⟨stb, hstb⟩ : ∃ stb, stb = (!(s == [])) := ⟨_, rfl⟩
 have HSTB := hid hstb
 clear hstb
 go_upto_region 4 with (fail)
 rw [← hw3]
 clear hw3
 go_cut [21] (BWk stb w3)
 case first =>
  go_wp2_with fail
  all_goals go_meet
  all_goals exact ⟨by rw [HSTB.out]; cases s <;> rfl, rfl⟩
 case rest =>
 obtain ⟨rfl, rfl⟩ := hcut
 go_upto_if 21 with (fail)
 go_cut [] (PrS b g W0 L2)
 case first =>
  cases s with
  | nil =>
    obtain rfl : stb = false := HSTB.out
    have hs1 := HSM.out.1 rfl
    have HW4 := hid (show PrS b g W0 L2 w3 from by rw [HL2.out, hs1, List.append_nil]; exact HW3.out)
    clear hs1
    go_wp2_with fail
    go_meet
    exact HW4.out
  | cons s0 sr =>
    obtain rfl : stb = true := HSTB.out
    have hs1 := HSM.out.2 (by simp)
    have HLX := hid (show (L1 ++ ((⟨#[44, 32]⟩ : ByteArray).data.toList ++ (⟨(s0 :: sr).toArray⟩ : ByteArray).data.toList)).length ≤ 1000000000 from by
     show (L1 ++ ([44, 32] ++ (s0 :: sr))).length ≤ _
     rw [← hs1, ← HL2.out]
     exact HLL.out.2.1)
    have HSE := hid hs1
    clear hs1
    go_wp2_with (first | (go_at_call 168; (with_reducible refine (pr_lit2 _ _ HW3.out HLX.out).mono ?_); rintro e w4 ⟨rfl, hW4⟩; have HW4 := hid hW4; clear hW4))
    go_meet
    rw [HL2.out, HSE.out]
    exact HW4.out
 case rest =>
 have HW4 := hid hcut
 clear hcut HW3 q3
 obtain ⟨w4, hw4⟩ : ∃ w4 : World, w4 = wc := ⟨_, rfl⟩
 rw [← hw4] at HW4
 have r0 := (PrS.box HW4.out HB1.out HNE.out.1 HNE.out.2.1).cell 0 _ rfl
 obtain ⟨sb, hsb⟩ : ∃ sb, sb = (decide (7 ≤ (kn : Int)) && decide ((kn : Int) ≤ 9)) := ⟨_, rfl⟩
 have KS := hid (fun W => sel_any (kn : Int) W)
 rw [← hsb] at KS
 obtain ⟨cm, hcm⟩ : ∃ cm : By, cm = if 7 ≤ (kn : Int) then [44] else [] := ⟨_, rfl⟩
 rw [← hcm] at HT HLL
 have HSB := hid (show cm = if sb = true then [44] else [] from by
  have h := HK39.out
  have e : sb = decide (7 ≤ (kn : Int)) := by rw [hsb, decide_eq_true h.2, Bool.and_true]
  rw [hcm, e]
  by_cases h7 : 7 ≤ (kn : Int)
  ·rw [if_pos h7, if_pos (decide_eq_true h7)]
  ·rw [if_neg h7, if_neg (by rw [decide_eq_false h7]; decide)])
 clear hsb hcm
 go_upto_region 6 with (fail)
 rw [← hw4]
 clear hw4
 go_cut [29] (BWk sb w4)
 case first =>
  go_wp2_with (first | (go_at_call 105; with_reducible refine (KS.out _).mono ?_; rintro e w2 ⟨rfl, rfl⟩))
  all_goals go_meet
  all_goals exact ⟨rfl, rfl⟩
 case rest =>
 obtain ⟨rfl, rfl⟩ := hcut
 obtain ⟨L3, hL3⟩ : ∃ L3, L3 = L2 ++ cm := ⟨_, rfl⟩
 rw [← hL3] at HT HLL
 have HL3 := hid hL3
 clear hL3
 go_upto_if 29 with (fail)
 go_cut [] (PrS b g W0 L3)
 case first =>
  cases sb
  ·have HW5 := hid (show PrS b g W0 L3 w4 from by rw [HL3.out, HSB.out]; simpa using HW4.out)
   go_wp2_with fail
   go_meet
   exact HW5.out
  ·have hs1 : cm = [44] := HSB.out
   have HLX := hid (show (L2 ++ (⟨#[44]⟩ : ByteArray).data.toList).length ≤ 1000000000 from by
    show (L2 ++ [44]).length ≤ _
    rw [← hs1, ← HL3.out]
    exact HLL.out.2.2)
   have HSE := hid hs1
   clear hs1
   go_wp2_with (first | (go_at_call 168; (with_reducible refine (pr_lit1 _ HW4.out HLX.out).mono ?_); rintro e w5 ⟨rfl, hW5⟩; have HW5 := hid hW5; clear hW5))
   go_meet
   rw [HL3.out, HSE.out]
   exact HW5.out
 case rest =>
 have HW5 := hid hcut
 clear hcut HW4 r0
 have r4 := (PrS.box HW5.out HB1.out HNE.out.1 HNE.out.2.1).cell 4 _ rfl
 obtain ⟨RC, hRC⟩ : ∃ RC, RC = L3 ++ casT [32] ca := ⟨_, rfl⟩
 rw [← hRC] at HT
 have H5 := hid (show CsI b g W0 RC ca (.int .i64 0) wc from ⟨0, L3, Nat.zero_le _, rfl, by rw [fdrop_zero]; exact hRC.symm, HW5.out⟩)
 clear hRC
 go_wp2_with fail
 go_loopw [36] (CsI b g W0 RC ca) (fun i _ => ca.len - (intOf i).toNat)
 case atStart => exact H5.out
 case round =>
  obtain ⟨j, l6, hj, rfl, hr, hp⟩ := hrel
  obtain ⟨wo, rfl⟩ : ∃ wo : World, wo = wr := ⟨_, rfl⟩
  have HP := hid hp
  by_cases hjl : j < ca.len
  rotate_left
  ·have hjI : ¬ (j : Int) < (ca.len : Int) := by omega
   rw [fdrop_end ca j (by omega), casT, List.append_nil] at hr
   subst hr
   have HLX := hid (show (l6 ++ (⟨#[125]⟩ : ByteArray).data.toList).length ≤ 1000000000 from by
    show (l6 ++ [125]).length ≤ _
    rw [HT.out]
    exact HLEN.out)
   clear hp
   go_wp2_with (first | (go_at_call 168; (with_reducible refine (pr_lit1 _ HP.out HLX.out).mono ?_); rintro e w9 ⟨rfl, hW9⟩; have HW9 := hid hW9; clear hW9))
   go_end0
   exact ⟨rfl, by have h := PrS.back HX0.out HW9.out; rw [← HT.out]; exact h⟩
  have hjI : (j : Int) < (ca.len : Int) := by omega
  obtain ⟨b', o', cc2, k', t', n', s', ca', pa', Ap', cp', hv', hbw', _, hdr', d0, d1, hPA'⟩ := (PrS.keepC hp HCA.out HBB.out HGB.out).at_ hjl
  injection hv' with hA' _ hcc'
  subst hA' hcc'
  obtain ⟨d2, c2, hfm⟩ := form_cas HFORM.out HK39.out.1 HK39.out.2 j hdr'
  have hwp := case_wtK ca j hdr'
  have hnd2 := fdrop_nodes ca j
  rw [hdr', F.nodes] at hnd2
  have hcp' : Can pa' := by
   have h := HCAN.out
   rw [Can] at h
   have h2 := (can_drop ca j).2 h.2.2.1
   rw [hdr', CanC] at h2
   exact h2.2.2.2.2.2.1
  rw [hdr', casT] at hr
  obtain ⟨e6, g6, o6, n6⟩ := hp
  have hg6 := PrS.gB e6 n6 HBB.out HGB.out HLW.out
  have hxb : Ext wo (wo.alloc (.cells #[.string ⟨n'.toArray⟩, .slice Ap' pa'.len cp'] 106)) := (Ext.refl wo).alloc _
  have HNB := hid (show wo.heap.size ≠ b ∧ g6 ≠ some wo.heap.size from by
   have h1 := o6.lt
   have h2 := o6.glt
   exact ⟨by omega, fun e => absurd (h2 _ e) (Nat.lt_irrefl _)⟩)
  have HBX := hid (AtC.new wo #[.string ⟨n'.toArray⟩, .slice Ap' pa'.len cp'] : AtC 106 _ _ _)
  have HP6 := hid (o6.ext hxb).refl
  obtain ⟨L7, hL7⟩ : ∃ L7, L7 = l6 ++ ([32] ++ (n' ++ [32, 123])) := ⟨_, rfl⟩
  have hr2 : (L7 ++ txtP [32] pa') ++ [125] ++ casT [32] (fdrop ca (j + 1)) = RC := by rw [← hr, hL7]; simp
  have hlr : L7.length + (txtP [32] pa').length + 1 ≤ 1000000000 := by
   have h := congrArg List.length hr2
   have h2 := congrArg List.length HT.out
   simp only [List.length_append, List.length_cons, List.length_nil] at h h2
   have := HLEN.out
   omega
  have HL7 := hid (show (l6 ++ ((⟨#[32]⟩ : ByteArray).data.toList ++ ((⟨n'.toArray⟩ : ByteArray).data.toList ++ (⟨#[32, 123]⟩ : ByteArray).data.toList))).length ≤ 1000000000 from by
   show (l6 ++ ([32] ++ (n' ++ [32, 123]))).length ≤ _
   rw [← hL7]
   omega)
  have HL8 := hid (show ((L7 ++ txtP [32] pa') ++ (⟨#[125]⟩ : ByteArray).data.toList).length ≤ 1000000000 from by
   show ((L7 ++ txtP [32] pa') ++ [125]).length ≤ _
   simp only [List.length_append, List.length_cons, List.length_nil]
   omega)
  have KP := hid (fun W g1 (hF : FwS W (lowB_ B) pa' (.slice Ap' pa'.len cp')) (ho : PrO b g1 L7 W) (hg1 : ∀ x, g1 = some x → B ≤ x) => hN pa' (.slice Ap' pa'.len cp') d2 c2 false b B g1 L7 W (by have := HND.out; omega) HNN.out hF hfm hcp' (by have := HWT.out; omega) ho HBB.out hg1 (by rw [List.length_append]; omega))
  have HPA' := hid (hPA'.ext hxb)
  have HG6 := hid hg6
  have HE6 := hid (Exc.trans e6 (Exc.of_ext hxb))
  have HN6 := hid n6
  have HL7E := hid hL7
  have HR2 := hid hr2
  have HBW := hid (show B ≤ (wo.alloc (.cells #[.string ⟨n'.toArray⟩, .slice Ap' pa'.len cp'] 106)).heap.size from by have h1 := o6.lt; have h2 := HBB.out; simp; omega)
  clear hr hr2 hlr hL7 e6 o6 n6 hg6 hxb hPA' hdr' hfm hwp hnd2 hcp' HP
  go_wp2_with fail
  have K7 := pr_lit3 ⟨#[32]⟩ ⟨n'.toArray⟩ ⟨#[32, 123]⟩ HP6.out HL7.out
  rw [World.size_alloc] at K7
  with_reducible refine K7.mono ?_
  rintro e w7 ⟨rfl, hw7⟩
  have hw7' : PrS b g6 (wo.alloc (.cells #[.string ⟨n'.toArray⟩, .slice Ap' pa'.len cp'] 106)) L7 w7 := by rw [HL7E.out]; exact hw7
  have hF7 := PrS.keep hw7' HPA'.out HBB.out HG6.out
  have q1 := (PrS.box hw7' HBX.out HNB.out.1 HNB.out.2).cell 1 _ rfl
  obtain ⟨e7, g7, o7, n7⟩ := hw7'
  have KP7 := hid (KP.out w7 g7 hF7 o7 (PrS.gB e7 n7 HBB.out HG6.out HBW.out))
  have HE7 := hid e7
  have HN7 := hid n7
  clear hw7 hF7 e7 o7 n7 KP
  go_wp2_with fail
  refine KP7.out.mono ?_
  rintro e w8 ⟨rfl, hp8⟩
  have HP8 := hid (PrS.step HE7.out HN7.out hp8)
  clear hp8 KP7 q1
  go_wp2_with (first | (go_at_call 168; (with_reducible refine (pr_lit1 _ HP8.out HL8.out).mono ?_); rintro e w9 ⟨rfl, hW9⟩; have HW9 := hid hW9; clear hW9))
  have HF9 := hid (PrS.step HE6.out HN6.out HW9.out)
  exact ⟨⟨j + 1, _, hjl, by go_num, HR2.out, HF9.out⟩, by simp [intOf]; omega⟩
theorem pts_all : ∀ N, PtsH N
 | 0 => fun f v d c pt b B g l w h => absurd h (Nat.not_lt_zero _)
 | N + 1 => pts_step N (pt_of N (pts_all N))
end Go.Proofs.YtiijdojihleggaaGreatDoor
namespace Go.Proofs.YtiijdojihleggaaGreatDoor
open Go.RowKit
theorem FwS.low {w : World} {ok : Nat → Prop} {f : F} {v : Value} (h : FwS w ok f v) : FwS w (lowB_ w.heap.size) f v := by
 obtain ⟨A, c, ps, e, h1, h2, h3⟩ := h
 exact ⟨A, c, ps, e, h1, fun h0 ad hA => h1.inside (by decide) h0 ad hA, (FCw_exc (Exc.refl (fun _ => False) w) (fun _ _ h => h) (fun k hk => hk.2) f).1 _ ((FCw_in w ok f).1 _ h3)⟩
def prtP (c : Bool) (f : F) : By × Int := if validF c f = true then (txtP [32] f, 0) else ([], 1)
def RetSE (w : World) (x : By × Int) (e : Ending) (w' : World) : Prop := e = .returned (.tuple #[.string ⟨x.1.toArray⟩, .int .i64 x.2]) ∧ Ext w w'
theorem pr_small {f : F} (hw : wt f ≤ 40000000) : (txtP [32] f).length ≤ 40000000 := Nat.le_trans (txt_wt f).1 hw
theorem nodes_wtk : ∀ f : F, f.nodes * 20 ≤ wt f := by
 intro f
 induction f with
 | nil => exact Nat.zero_le _
 | cons k t n s c p r i1 i2 i3 => rw [F.nodes, wt]; omega
set_option maxHeartbeats 2000000 in
theorem text27_any {f : F} {v : Value} {ok : Nat → Prop} {d : Nat} {c pt : Bool} {w : World} (hF : FwS w ok f v) (hform : formB d c pt f = true) (hcan : Can f) (hw : wt f ≤ 40000000) :
 Calls Tryz.prog 63 #[v] w fun e w' => e = .returned (.string ⟨(txtP [32] f).toArray⟩) ∧ Ext w w' := by
 obtain ⟨A, cc, rfl⟩ := hF.val
 have hn := nodes_wtk f
 have hl := pr_small hw
 obtain ⟨W0, hW0⟩ : ∃ W0, W0 = w.alloc (.cells #[.pointer none, .slice none 0 0] 149) := ⟨_, rfl⟩
 have hx0 : Ext w W0 := by rw [hW0]; exact (Ext.refl w).alloc _
 have hp0 : PrO w.heap.size none [] W0 := by rw [hW0]; exact PrO.new w
 have KP := hid (pts_all (f.nodes + 1) f (.slice A f.len cc) d c pt w.heap.size w.heap.size none [] W0 (Nat.lt_succ_self _) (by omega) (hF.low.ext hx0) hform hcan hw hp0 (Nat.le_refl _) (fun k h => by cases h) (by simpa using (by omega : (txtP [32] f).length ≤ 1000000000)))
 rw [List.nil_append] at KP
 have HX0 := hid hx0
 have HS0 := hid (show W0.heap.size = w.heap.size + 1 from by rw [hW0, World.size_alloc])
 have hw0' := hW0
 generalize txtP [32] f = T at KP ⊢
 clear hF hform hcan hw hn hl hx0 hp0
 go_enter Tryz.func63, Tryz.ntmps63
 go_wp2_with fail
 rw [← hW0]
 clear hW0
 refine KP.out.mono ?_
 rintro e w1 ⟨rfl, hp1⟩
 obtain ⟨e1, g1, o1, n1⟩ := hp1
 have hpr : IsPr w.heap.size w.heap.size T w1 := o1.isPr (Nat.le_refl _) (fun k hk => by
  rcases n1 with n1 | n1
  ·rw [n1] at hk; cases hk
  ·have := n1 k hk
   have := HS0.out
   omega)
 have hb1 : Below w.heap.size w w1 := Below.trans HX0.out (e1.below (fun k hk => by
  rcases hk with hk | hk
  ·exact Nat.le_of_eq hk.symm
  ·cases hk) (by rw [HS0.out]; omega))
 have HB1 := hid hb1
 have KE := hid (prq_end w.heap.size w.heap.size T w1 hpr (by have := o1.lt; omega))
 clear e1 o1 n1 hpr hb1 hw0' KP
 go_wp2_with fail
 refine KE.out.mono ?_
 rintro e w2 ⟨rfl, hb2⟩
 have HB2 := hid (show Ext w w2 from HB1.out.trans hb2)
 clear hb2
 go_wp2
 go_ret
 exact ⟨rfl, HB2.out⟩
set_option maxHeartbeats 1000000 in
theorem tprint_any {f : F} {v : Value} {ok : Nat → Prop} {w : World} (hF : FwS w ok f v) (hcan : Can f) (hwt : wt f ≤ 40000000) (hm : Mx w) :
 Calls Tryz.prog 46 #[v] w (RetSE w (prtP false f)) := by
 have hn := nodes_wtk f
 have K1 := hid (tValid_any hF hcan hwt (by omega) hm)
 have K2 := hid (fun (h : validF false f = true) W (hx : Ext w W) => text27_any (hF.ext hx) (validF_iff.1 h).1 hcan hwt)
 obtain ⟨A, cc, rfl⟩ := hF.val
 unfold prtP
 clear hF hcan hwt hm hn
 cases hv : validF false f
 ·rw [hv] at K1
  clear K2
  go_enter Tryz.func46, Tryz.ntmps46
  go_wp2_with fail
  refine K1.out.mono ?_
  rintro e w2 ⟨rfl, hx2⟩
  have HX2 := hid hx2
  clear hx2
  go_wp2
  go_ret2
  exact ⟨rfl, HX2.out⟩
 ·rw [hv] at K1
  have K3 := hid (fun W (hx : Ext w W) => K2.out hv W hx)
  clear hv K2
  go_enter Tryz.func46, Tryz.ntmps46
  go_wp2_with fail
  refine K1.out.mono ?_
  rintro e w2 ⟨rfl, hx2⟩
  have HX2 := hid hx2
  clear hx2
  go_wp2_with fail
  refine (K3.out _ HX2.out).mono ?_
  rintro e w3 ⟨rfl, hx3⟩
  have HX3 := hid (HX2.out.trans hx3)
  clear hx3
  go_wp2
  go_ret2
  exact ⟨rfl, HX3.out⟩
end Go.Proofs.YtiijdojihleggaaGreatDoor
