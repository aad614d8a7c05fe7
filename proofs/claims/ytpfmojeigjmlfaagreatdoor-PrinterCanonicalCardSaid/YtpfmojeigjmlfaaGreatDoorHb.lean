import Derived.Test.YtpfmojeigjmlfaaGreatDoorNPA
import Derived.Test.YtpfmojeigjmlfaaGreatDoorNP2
set_option maxRecDepth 100000
set_option linter.unusedSimpArgs false
set_option linter.unusedVariables false
open Go.Lib (hid)
namespace Go.Proofs.YtpfmojeigjmlfaaGreatDoor
open Go.RowKit
theorem F.len_nodes : ∀ f : F, f.len ≤ f.nodes := by
 intro f
 induction f with
 | nil => exact Nat.le_refl _
 | cons k t n s c p r _ _ ih => rw [F.len, F.nodes]; omega
def EqH (N : Nat) : Prop := ∀ (f g : F) (v u : Value) (ok : Nat → Prop) (w : World), f.nodes < N → g.nodes ≤ 1000000000 → N ≤ 1000000000 → FwS w ok f v → FwS w ok g u → Can f → Can g →
 Calls Tryz.prog 22 #[v, u] w fun e w' => e = .returned (.bool (eqF f g)) ∧ Ext w w'
def EqK (N : Nat) : Prop := ∀ (f g : F) (v u : Value) (ok : Nat → Prop) (w : World), f.nodes < N → g.nodes ≤ 1000000000 → N ≤ 1000000000 → CwS w ok f v → CwS w ok g u → CanC f → CanC g →
 Calls Tryz.prog 48 #[v, u, .func (.func 49) #[] #[]] w fun e w' => e = .returned (.bool (eqF f g)) ∧ Ext w w'
def EqI (w : World) (f g : F) (R : Bool) (i : Value) (wr : World) : Prop := ∃ j : Nat, j ≤ f.len ∧ i = .int .i64 j ∧ R = eqF (fdrop f j) (fdrop g j) ∧ Ext w wr
set_option maxHeartbeats 4000000 in
theorem eqclo2 (N : Nat) (hE : EqH N) (n n2 : By) (pa pa2 : F) (A A2 : Option Addr) (c c2 : Nat) (ok : Nat → Prop) (w : World) (hn : pa.nodes < N) (hn2 : pa2.nodes ≤ 1000000000) (hN : N ≤ 1000000000)
 (hp : FwS w ok pa (.slice A pa.len c)) (hp2 : FwS w ok pa2 (.slice A2 pa2.len c2)) (h1 : Can pa) (h2 : Can pa2) :
 Calls Tryz.prog 49 #[.agg #[.string ⟨n.toArray⟩, .slice A pa.len c], .agg #[.string ⟨n2.toArray⟩, .slice A2 pa2.len c2]] w fun e w' => e = .returned (.bool (n == n2 && eqF pa pa2)) ∧ Ext w w' := by
 have KE := hid (fun W (hW : Ext w W) => hE pa pa2 _ _ ok W hn hn2 hN (hp.ext hW) (hp2.ext hW) h1 h2)
 generalize eqF pa pa2 = B at KE
 have HX1 := hid (((Ext.refl w).alloc (.cells #[.string ⟨n.toArray⟩, .slice A pa.len c] 52)).alloc (.cells #[.string ⟨n2.toArray⟩, .slice A2 pa2.len c2] 52))
 clear hp hp2 h1 h2 hn hn2
 cases q : (n == n2)
 ·go_enter Tryz.func49, Tryz.ntmps49
  go_wp2_with fail
  go_ret
  exact ⟨ret_bool (by simp [q]), HX1.out⟩
 obtain rfl : n = n2 := by simpa using q
 clear q
 go_enter Tryz.func49, Tryz.ntmps49
 go_wp2_with (first | (with_reducible refine (KE.out _ HX1.out).mono ?_; rintro e w2 ⟨rfl, hx2⟩; have HX2 := hid (HX1.out.trans hx2); clear hx2))
 all_goals go_ret
 all_goals first
  | exact ⟨ret_bool (by simp_all), HX2.out⟩
  | exact ⟨ret_bool (by simp_all), HX1.out⟩
set_option maxHeartbeats 4000000 in
theorem eqclo1 (N : Nat) (hE : EqH N) (hK : EqK N) (k k2 : Int) (t t2 n n2 s s2 : By) (ca ca2 pa pa2 : F) (C C2 A A2 : Option Addr) (d d2 c c2 : Nat) (ok : Nat → Prop) (w : World) (hn : pa.nodes < N) (hn2 : pa2.nodes ≤ 1000000000)
 (hm : ca.nodes < N) (hm2 : ca2.nodes ≤ 1000000000) (hN : N ≤ 1000000000)
 (hp : FwS w ok pa (.slice A pa.len c)) (hp2 : FwS w ok pa2 (.slice A2 pa2.len c2)) (h1 : Can pa) (h2 : Can pa2) (hc : CwS w ok ca (.slice C ca.len d)) (hc2 : CwS w ok ca2 (.slice C2 ca2.len d2)) (g1 : CanC ca) (g2 : CanC ca2) :
 Calls Tryz.prog 47 #[.agg #[.int .i64 k, .string ⟨t.toArray⟩, .string ⟨n.toArray⟩, .string ⟨s.toArray⟩, .slice C ca.len d, .slice A pa.len c], .agg #[.int .i64 k2, .string ⟨t2.toArray⟩, .string ⟨n2.toArray⟩, .string ⟨s2.toArray⟩, .slice C2 ca2.len d2, .slice A2 pa2.len c2]] w
  fun e w' => e = .returned (.bool (k == k2 && t == t2 && n == n2 && s == s2 && eqF pa pa2 && eqF ca ca2)) ∧ Ext w w' := by
 have KE := hid (fun W (hW : Ext w W) => hE pa pa2 _ _ ok W hn hn2 hN (hp.ext hW) (hp2.ext hW) h1 h2)
 have KK := hid (fun W (hW : Ext w W) => hK ca ca2 _ _ ok W hm hm2 hN (hc.ext hW) (hc2.ext hW) g1 g2)
 generalize eqF pa pa2 = B at KE
 generalize eqF ca ca2 = D at KK
 have HX1 := hid (((Ext.refl w).alloc (.cells #[.int .i64 k, .string ⟨t.toArray⟩, .string ⟨n.toArray⟩, .string ⟨s.toArray⟩, .slice C ca.len d, .slice A pa.len c] 50)).alloc (.cells #[.int .i64 k2, .string ⟨t2.toArray⟩, .string ⟨n2.toArray⟩, .string ⟨s2.toArray⟩, .slice C2 ca2.len d2, .slice A2 pa2.len c2] 50))
 have HA1 := hid ((AtC.new w #[.int .i64 k, .string ⟨t.toArray⟩, .string ⟨n.toArray⟩, .string ⟨s.toArray⟩, .slice C ca.len d, .slice A pa.len c] : AtC 50 _ _ _).alloc (.cells #[.int .i64 k2, .string ⟨t2.toArray⟩, .string ⟨n2.toArray⟩, .string ⟨s2.toArray⟩, .slice C2 ca2.len d2, .slice A2 pa2.len c2] 50))
 have HA2 := hid (AtC.new (w.alloc (.cells #[.int .i64 k, .string ⟨t.toArray⟩, .string ⟨n.toArray⟩, .string ⟨s.toArray⟩, .slice C ca.len d, .slice A pa.len c] 50)) #[.int .i64 k2, .string ⟨t2.toArray⟩, .string ⟨n2.toArray⟩, .string ⟨s2.toArray⟩, .slice C2 ca2.len d2, .slice A2 pa2.len c2] : AtC 50 _ _ _)
 have hz : (w.alloc (.cells #[.int .i64 k, .string ⟨t.toArray⟩, .string ⟨n.toArray⟩, .string ⟨s.toArray⟩, .slice C ca.len d, .slice A pa.len c] 50)).heap.size = w.heap.size + 1 := World.size_alloc _ _
 rw [hz] at HA2
 clear hp hp2 h1 h2 hn hn2 hc hc2 g1 g2 hm hm2 hz
 cases q : (k == k2)
 ·go_enter Tryz.func47, Tryz.ntmps47
  go_wp2_with fail
  go_ret
  exact ⟨ret_bool (by simp [q]), HX1.out⟩
 obtain rfl : k = k2 := by simpa using q
 clear q
 cases q : (t == t2)
 ·go_enter Tryz.func47, Tryz.ntmps47
  go_wp2_with fail
  go_ret
  exact ⟨ret_bool (by simp [q]), HX1.out⟩
 obtain rfl : t = t2 := by simpa using q
 clear q
 cases q : (n == n2)
 ·go_enter Tryz.func47, Tryz.ntmps47
  go_wp2_with fail
  go_ret
  exact ⟨ret_bool (by simp [q]), HX1.out⟩
 obtain rfl : n = n2 := by simpa using q
 clear q
 cases q : (s == s2)
 ·go_enter Tryz.func47, Tryz.ntmps47
  go_wp2_with fail
  go_ret
  exact ⟨ret_bool (by simp [q]), HX1.out⟩
 obtain rfl : s = s2 := by simpa using q
 clear q
 go_enter Tryz.func47, Tryz.ntmps47
 go_wp2_with (first
  | (with_reducible refine (KE.out _ HX1.out).mono ?_; rintro e w2 ⟨rfl, hx2⟩; have HX2 := hid (HX1.out.trans hx2); have a4 := (HA1.out.ext hx2).cell 4 _ rfl; have b4 := (HA2.out.ext hx2).cell 4 _ rfl; clear hx2)
  | (with_reducible refine (KK.out _ HX2.out).mono ?_; rintro e w3 ⟨rfl, hx3⟩; have HX3 := hid (HX2.out.trans hx3); clear hx3))
 all_goals go_ret
 all_goals first
  | exact ⟨ret_bool (by simp_all), HX3.out⟩
  | exact ⟨ret_bool (by simp_all), HX2.out⟩
  | exact ⟨ret_bool (by simp_all), HX1.out⟩
set_option maxHeartbeats 4000000 in
theorem eqfun2 (N : Nat) (hE : EqH N) : EqK N := by
 intro f g v u ok w hnf hng hN hf hg cf cg
 obtain ⟨A, c, rfl⟩ := hf.val
 obtain ⟨B, d, rfl⟩ := hg.val
 have hlf : f.len ≤ 1000000000 := by have := F.len_nodes f; omega
 have hlg : g.len ≤ 1000000000 := by have := F.len_nodes g; omega
 obtain ⟨R, hR⟩ : ∃ R, R = eqF f g := ⟨_, rfl⟩
 rw [← hR]
 by_cases hl : f.len = g.len
 rotate_left
 ·have hR0 : R = false := hR.trans (eqF_len hl)
  subst hR0
  have hlI : ((f.len : Int) != (g.len : Int)) = true := by rw [bne_iff_ne]; omega
  clear hR hf hg
  go_enter Tryz.func48, Tryz.ntmps48
  go_wp2
  go_ret
  exact ⟨rfl, Ext.refl w⟩
 have hlI : ((f.len : Int) != (g.len : Int)) = false := by rw [bne_eq_false_iff_eq]; omega
 have HF := hid hf
 have HG := hid hg
 have HL := hid hl
 have HNF := hid hnf
 have HNG := hid hng
 have HCF := hid cf
 have HCG := hid cg
 have H0 := hid (show EqI w f g R (.int .i64 0) w from ⟨0, Nat.zero_le _, rfl, by rw [fdrop_zero, fdrop_zero]; exact hR, Ext.refl w⟩)
 clear hf hg hl hR cf cg hnf hng
 go_enter Tryz.func48, Tryz.ntmps48
 go_wp2_with fail
 go_loopw [17] (EqI w f g R) (fun i _ => f.len - (intOf i).toNat)
 case atStart => exact H0.out
 case round =>
  obtain ⟨j, hj, rfl, hr, hw⟩ := hrel
  have HW := hid hw
  by_cases hjl : j < f.len
  rotate_left
  ·have hjI : ¬ (j : Int) < (f.len : Int) := by omega
   have hR1 : R = true := by rw [hr, fdrop_end f j (by omega), fdrop_end g j (by have := HL.out; omega)]; rfl
   subst hR1
   clear hr hw
   go_wp2
   go_ret
   exact ⟨rfl, HW.out⟩
  have hjI : (j : Int) < (f.len : Int) := by omega
  have hjg : j < g.len := by have := HL.out; omega
  have hjgI : (j : Int) < (g.len : Int) := by omega
  obtain ⟨b, o, cc0, k, t, n, s, ca, pa, Ap, cp, hv, hbw, _, hdr, c0, c1, hPA⟩ := (HF.out.ext hw).at_ hjl
  injection hv with hA _ hcc
  subst hA hcc
  obtain ⟨b2, o2, cc02, k2, t2, n2, s2, ca2, pa2, Ap2, cp2, hv2, hbw2, _, hdr2, d0, d1, hPA2⟩ := (HG.out.ext hw).at_ hjg
  injection hv2 with hA2 _ hcc2
  subst hA2 hcc2
  have hcn := (can_drop f j).2 HCF.out
  rw [hdr, CanC] at hcn
  obtain ⟨rfl, rfl, rfl, rfl, _, hcp, _⟩ := hcn
  have hcn2 := (can_drop g j).2 HCG.out
  rw [hdr2, CanC] at hcn2
  obtain ⟨rfl, rfl, rfl, rfl, _, hcp2, _⟩ := hcn2
  rw [hdr, hdr2, eqF] at hr
  have hnd : pa.nodes < N := by have h1 := fdrop_nodes f j; rw [hdr, F.nodes] at h1; have := HNF.out; omega
  have hnd2 : pa2.nodes ≤ 1000000000 := by have h1 := fdrop_nodes g j; rw [hdr2, F.nodes] at h1; have := HNG.out; omega
  have KX := fun W (hW : Ext wr W) => eqclo2 N hE n n2 pa pa2 Ap Ap2 cp cp2 ok W hnd hnd2 hN (hPA.ext hW) (hPA2.ext hW) hcp hcp2
  obtain ⟨Q, hQ⟩ : ∃ Q, Q = (n == n2 && eqF pa pa2) := ⟨_, rfl⟩
  replace hr : R = (Q && eqF (fdrop f (j + 1)) (fdrop g (j + 1))) := by rw [hr, hQ]; simp [eqF]
  rw [← hQ] at KX
  have HR := hid hr
  have HK := hid KX
  have HX1 := hid (((Ext.refl wr).alloc (.cells #[.string ⟨n.toArray⟩, .slice Ap pa.len cp] 52)).alloc (.cells #[.string ⟨n2.toArray⟩, .slice Ap2 pa2.len cp2] 52))
  clear KX hr hQ hw hPA hPA2 hcp hcp2 hnd hnd2 hdr hdr2
  go_wp2_with fail
  refine (HK.out _ HX1.out).mono ?_
  rintro e w2 ⟨rfl, hx2⟩
  have HX2 := hid (HW.out.trans (HX1.out.trans hx2))
  clear hx2
  cases Q
  ·have hR0 : R = false := by rw [HR.out]; rfl
   subst hR0
   go_wp2
   go_ret
   exact ⟨rfl, HX2.out⟩
  ·go_wp2
   exact ⟨⟨j + 1, hjl, by go_num, by rw [HR.out]; rfl, HX2.out⟩, by simp [intOf]; omega⟩
set_option maxHeartbeats 4000000 in
theorem eqfun1 (N : Nat) (hE : EqH N) (hK : EqK N) (f g : F) (v u : Value) (ok : Nat → Prop) (w : World) (hnf : f.nodes < N + 1) (hng : g.nodes ≤ 1000000000) (hN : N + 1 ≤ 1000000000) (hf : FwS w ok f v) (hg : FwS w ok g u) (cf : Can f) (cg : Can g) :
 Calls Tryz.prog 46 #[v, u, .func (.func 47) #[] #[]] w fun e w' => e = .returned (.bool (eqF f g)) ∧ Ext w w' := by
 obtain ⟨A, c, rfl⟩ := hf.val
 obtain ⟨B, d, rfl⟩ := hg.val
 have hlf : f.len ≤ 1000000000 := by have := F.len_nodes f; omega
 have hlg : g.len ≤ 1000000000 := by have := F.len_nodes g; omega
 obtain ⟨R, hR⟩ : ∃ R, R = eqF f g := ⟨_, rfl⟩
 rw [← hR]
 by_cases hl : f.len = g.len
 rotate_left
 ·have hR0 : R = false := hR.trans (eqF_len hl)
  subst hR0
  have hlI : ((f.len : Int) != (g.len : Int)) = true := by rw [bne_iff_ne]; omega
  clear hR hf hg
  go_enter Tryz.func46, Tryz.ntmps46
  go_wp2
  go_ret
  exact ⟨rfl, Ext.refl w⟩
 have hlI : ((f.len : Int) != (g.len : Int)) = false := by rw [bne_eq_false_iff_eq]; omega
 have HF := hid hf
 have HG := hid hg
 have HL := hid hl
 have HNF := hid hnf
 have HNG := hid hng
 have HCF := hid cf
 have HCG := hid cg
 have H0 := hid (show EqI w f g R (.int .i64 0) w from ⟨0, Nat.zero_le _, rfl, by rw [fdrop_zero, fdrop_zero]; exact hR, Ext.refl w⟩)
 clear hf hg hl hR cf cg hnf hng
 go_enter Tryz.func46, Tryz.ntmps46
 go_wp2_with fail
 go_loopw [17] (EqI w f g R) (fun i _ => f.len - (intOf i).toNat)
 case atStart => exact H0.out
 case round =>
  obtain ⟨j, hj, rfl, hr, hw⟩ := hrel
  have HW := hid hw
  by_cases hjl : j < f.len
  rotate_left
  ·have hjI : ¬ (j : Int) < (f.len : Int) := by omega
   have hR1 : R = true := by rw [hr, fdrop_end f j (by omega), fdrop_end g j (by have := HL.out; omega)]; rfl
   subst hR1
   clear hr hw
   go_wp2
   go_ret
   exact ⟨rfl, HW.out⟩
  have hjI : (j : Int) < (f.len : Int) := by omega
  have hjg : j < g.len := by have := HL.out; omega
  have hjgI : (j : Int) < (g.len : Int) := by omega
  obtain ⟨b, o, cc0, k, t, n, s, ca, pa, Ac, cc, Ap, cp, hv, hbw, _, hdr, c0, c1, c2, c3, c4, c5, hCA, hPA⟩ := (HF.out.ext hw).at_ hjl
  injection hv with hA _ hcc
  subst hA hcc
  obtain ⟨b2, o2, cc02, k2, t2, n2, s2, ca2, pa2, Ac2, cc2, Ap2, cp2, hv2, hbw2, _, hdr2, d0, d1, d2, d3, d4, d5, hCA2, hPA2⟩ := (HG.out.ext hw).at_ hjg
  injection hv2 with hA2 _ hcc2
  subst hA2 hcc2
  have hcn := (can_drop f j).1 HCF.out
  rw [hdr, Can] at hcn
  obtain ⟨_, _, hcc, hcp, _⟩ := hcn
  have hcn2 := (can_drop g j).1 HCG.out
  rw [hdr2, Can] at hcn2
  obtain ⟨_, _, hcc2, hcp2, _⟩ := hcn2
  rw [hdr, hdr2, eqF] at hr
  have hnd : ca.nodes < N ∧ pa.nodes < N := by have h1 := fdrop_nodes f j; rw [hdr, F.nodes] at h1; have := HNF.out; constructor <;> omega
  have hnd2 : ca2.nodes ≤ 1000000000 ∧ pa2.nodes ≤ 1000000000 := by have h1 := fdrop_nodes g j; rw [hdr2, F.nodes] at h1; have := HNG.out; constructor <;> omega
  have KX := fun W (hW : Ext wr W) => eqclo1 N hE hK k k2 t t2 n n2 s s2 ca ca2 pa pa2 Ac Ac2 Ap Ap2 cc cc2 cp cp2 ok W hnd.2 hnd2.2 hnd.1 hnd2.1 (by omega) (hPA.ext hW) (hPA2.ext hW) hcp hcp2 (hCA.ext hW) (hCA2.ext hW) hcc hcc2
  obtain ⟨Q, hQ⟩ : ∃ Q, Q = (k == k2 && t == t2 && n == n2 && s == s2 && eqF pa pa2 && eqF ca ca2) := ⟨_, rfl⟩
  rw [← hQ] at KX hr
  have HR := hid hr
  have HK := hid KX
  have HX1 := hid (((Ext.refl wr).alloc (.cells #[.int .i64 k, .string ⟨t.toArray⟩, .string ⟨n.toArray⟩, .string ⟨s.toArray⟩, .slice Ac ca.len cc, .slice Ap pa.len cp] 50)).alloc (.cells #[.int .i64 k2, .string ⟨t2.toArray⟩, .string ⟨n2.toArray⟩, .string ⟨s2.toArray⟩, .slice Ac2 ca2.len cc2, .slice Ap2 pa2.len cp2] 50))
  clear KX hr hQ hw hPA hPA2 hCA hCA2 hcp hcp2 hcc hcc2 hnd hnd2 hdr hdr2
  go_wp2_with fail
  refine (HK.out _ HX1.out).mono ?_
  rintro e w2 ⟨rfl, hx2⟩
  have HX2 := hid (HW.out.trans (HX1.out.trans hx2))
  clear hx2
  cases Q
  ·have hR0 : R = false := by rw [HR.out]; rfl
   subst hR0
   go_wp2
   go_ret
   exact ⟨rfl, HX2.out⟩
  ·go_wp2
   exact ⟨⟨j + 1, hjl, by go_num, by rw [HR.out]; rfl, HX2.out⟩, by simp [intOf]; omega⟩
theorem eqh (N : Nat) (hE : EqH N) : EqH (N + 1) := by
 intro f g v u ok w hnf hng hN hf hg cf cg
 have KE := hid (eqfun1 N hE (eqfun2 N hE) f g v u ok w hnf hng hN hf hg cf cg)
 obtain ⟨A, c, rfl⟩ := hf.val
 obtain ⟨B, d, rfl⟩ := hg.val
 generalize eqF f g = R at KE ⊢
 clear hf hg
 go_enter Tryz.func22, Tryz.ntmps22
 go_wp2_with fail
 refine KE.out.mono ?_
 rintro e w2 ⟨rfl, hx2⟩
 have HX2 := hid hx2
 clear hx2
 go_wp2
 go_ret
 exact ⟨rfl, HX2.out⟩
theorem eq_all : ∀ N, EqH N
 | 0 => fun f g v u ok w h => absurd h (Nat.not_lt_zero _)
 | N + 1 => eqh N (eq_all N)
theorem tequal26_any {f g : F} {v u : Value} {ok : Nat → Prop} {w : World} (hnf : f.nodes < 100000000) (hng : g.nodes ≤ 1000000000) (hf : FwS w ok f v) (hg : FwS w ok g u) (cf : Can f) (cg : Can g) :
 Calls Tryz.prog 22 #[v, u] w fun e w' => e = .returned (.bool (eqF f g)) ∧ Ext w w' := eq_all 100000000 f g v u ok w hnf hng (by decide) hf hg cf cg
end Go.Proofs.YtpfmojeigjmlfaaGreatDoor
