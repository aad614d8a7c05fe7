import Derived.Test.YtpfmojeigjmlfaaGreatDoorNPA
import Derived.Test.YtpfmojeigjmlfaaGreatDoorNP2
import Derived.Test.YtpfmojeigjmlfaaGreatDoorNB1
set_option maxRecDepth 100000
set_option linter.unusedSimpArgs false
set_option linter.unusedVariables false
open Go.Lib (hid)
namespace Go.Proofs.YtpfmojeigjmlfaaGreatDoor
open Go.RowKit
theorem fLen_nodes : ∀ f : F, f.len ≤ f.nodes := by
 intro f
 induction f with
 | nil => exact Nat.le_refl _
 | cons k t n s c p r _ _ ih => rw [F.len, F.nodes]; omega
def REqH (N : Nat) : Prop := ∀ (f g : F) (v u : Value) (ok : Nat → Prop) (w : World), f.nodes < N → g.nodes ≤ 1000000000 → N ≤ 1000000000 → FwS w ok f v → FwS w ok g u → Can f → Can g →
 Calls Tryz.prog 15 #[v, u] w fun e w' => e = .returned (.bool (eqF f g)) ∧ Ext w w'
def REqI (w : World) (f g : F) (R : Bool) (i : Value) (wr : World) : Prop := ∃ j : Nat, j ≤ f.len ∧ i = .int .i64 j ∧ R = eqF (fdrop f j) (fdrop g j) ∧ Ext w wr
set_option maxHeartbeats 8000000 in
theorem req_step (N : Nat) (hN : REqH N) : REqH (N + 1) := by
 intro f g v u ok w hnf hng hNN hf hg cf cg
 obtain ⟨A, c, rfl⟩ := hf.val
 obtain ⟨B, d, rfl⟩ := hg.val
 have hlf : f.len ≤ 1000000000 := by have := fLen_nodes f; omega
 have hlg : g.len ≤ 1000000000 := by have := fLen_nodes g; omega
 obtain ⟨R, hR⟩ : ∃ R, R = eqF f g := ⟨_, rfl⟩
 rw [← hR]
 by_cases hl : f.len = g.len
 rotate_left
 ·have hR0 : R = false := hR.trans (eqF_len hl)
  subst hR0
  have hlI : ((f.len : Int) == (g.len : Int)) = false := by rw [beq_eq_false_iff_ne]; omega
  have hlN : ((f.len : Int) != (g.len : Int)) = true := by rw [bne_iff_ne]; omega
  clear hR hf hg
  go_enter Tryz.func15, Tryz.ntmps15
  go_wp2
  go_ret
  exact ⟨rfl, Ext.refl w⟩
 have hlI : ((f.len : Int) == (g.len : Int)) = true := by rw [beq_iff_eq]; omega
 have hlN : ((f.len : Int) != (g.len : Int)) = false := by rw [bne_eq_false_iff_eq]; omega
 have HF := hid hf
 have HG := hid hg
 have HL := hid hl
 have HNF := hid hnf
 have HNG := hid hng
 have HCF := hid cf
 have HCG := hid cg
 have HNN := hid hNN
 have H0 := hid (show REqI w f g R (.int .i64 0) w from ⟨0, Nat.zero_le _, rfl, by rw [fdrop_zero, fdrop_zero]; exact hR, Ext.refl w⟩)
 clear hf hg hl hR cf cg hnf hng hNN
 go_enter Tryz.func15, Tryz.ntmps15
 go_wp2_with fail
 go_loopw [5] (REqI w f g R) (fun i _ => f.len - (intOf i).toNat)
 case atStart => exact H0.out
 case round =>
  obtain ⟨j, hj, rfl, hr, hw⟩ := hrel
  obtain ⟨wo, rfl⟩ : ∃ wo : World, wo = wr := ⟨_, rfl⟩
  have HW := hid hw
  by_cases hjl : j < f.len
  rotate_left
  ·have hjI : ¬ (j : Int) < (f.len : Int) := by omega
   have hR1 : R = true := by rw [hr, fdrop_end f j (by omega), fdrop_end g j (by have := HL.out; omega)]; rfl
   subst hR1
   clear hr hw
   go_wp2
   go_ret
   exact ⟨rfl, HW.out⟩
  have hjI : (j : Int) < (f.len : Int) := by omega
  have hjg : j < g.len := by have := HL.out; omega
  have hjgI : (j : Int) < (g.len : Int) := by omega
  obtain ⟨b, o, cc0, k, t, n, s, ca, pa, Ac, cc, Ap, cp, hv, hbw, _, hdr, c0, c1, c2, c3, c4, c5, hCA, hPA⟩ := (HF.out.ext hw).at_ hjl
  injection hv with hA _ hcc
  subst hA hcc
  obtain ⟨b2, o2, cc02, k2, t2, n2, s2, ca2, pa2, Ac2, cc2, Ap2, cp2, hv2, hbw2, _, hdr2, d0, d1, d2, d3, d4, d5, hCA2, hPA2⟩ := (HG.out.ext hw).at_ hjg
  injection hv2 with hA2 _ hcc2
  subst hA2 hcc2
  have hcn := (can_drop f j).1 HCF.out
  rw [hdr, Can] at hcn
  obtain ⟨_, _, hcc, hcp, _⟩ := hcn
  have hcn2 := (can_drop g j).1 HCG.out
  rw [hdr2, Can] at hcn2
  obtain ⟨_, _, hcc2, hcp2, _⟩ := hcn2
  rw [hdr, hdr2, eqF] at hr
  have hnd : ca.nodes < N ∧ pa.nodes < N := by have h1 := fdrop_nodes f j; rw [hdr, F.nodes] at h1; have := HNF.out; constructor <;> omega
  have hnd2 : ca2.nodes ≤ 1000000000 ∧ pa2.nodes ≤ 1000000000 := by have h1 := fdrop_nodes g j; rw [hdr2, F.nodes] at h1; have := HNG.out; constructor <;> omega
  have KP := hid (fun W (hW : Ext wo W) => hN pa pa2 _ _ ok W hnd.2 hnd2.2 (by have := HNN.out; omega) (hPA.ext hW) (hPA2.ext hW) hcp hcp2)
  have HCA := hid hCA
  have HCA2 := hid hCA2
  have HCC := hid hcc
  have HCC2 := hid hcc2
  have HND := hid hnd
  have HND2 := hid hnd2
  have hcl : ca.len ≤ 1000000000 := by have := fLen_nodes ca; have := HNN.out; omega
  have hcl2 : ca2.len ≤ 1000000000 := by have := fLen_nodes ca2; omega
  have HR := hid hr
  clear hr hw hCA hPA hCA2 hPA2 hcc hcc2 hcp hcp2 hnd hnd2 hdr hdr2
  go_wp2_with fail
  go_region
  ·have HX1 := hid (show Ext wo (((wo.alloc (.cells #[.int .i64 k, .string ⟨t.toArray⟩, .string ⟨n.toArray⟩, .string ⟨s.toArray⟩, .slice Ac ca.len cc, .slice Ap pa.len cp] 50)).alloc (.cells #[.int .i64 k2, .string ⟨t2.toArray⟩, .string ⟨n2.toArray⟩, .string ⟨s2.toArray⟩, .slice Ac2 ca2.len cc2, .slice Ap2 pa2.len cp2] 50)).drew) from (((Ext.refl wo).alloc _).alloc _).drew)
   have hz : (wo.alloc (.cells #[.int .i64 k, .string ⟨t.toArray⟩, .string ⟨n.toArray⟩, .string ⟨s.toArray⟩, .slice Ac ca.len cc, .slice Ap pa.len cp] 50)).heap.size = wo.heap.size + 1 := World.size_alloc _ _
   have hb1 := ((AtC.new wo #[.int .i64 k, .string ⟨t.toArray⟩, .string ⟨n.toArray⟩, .string ⟨s.toArray⟩, .slice Ac ca.len cc, .slice Ap pa.len cp] : AtC 50 _ _ _).alloc (.cells #[.int .i64 k2, .string ⟨t2.toArray⟩, .string ⟨n2.toArray⟩, .string ⟨s2.toArray⟩, .slice Ac2 ca2.len cc2, .slice Ap2 pa2.len cp2] 50)).ext ((Ext.refl _).drew)
   have hb2 := (AtC.new (wo.alloc (.cells #[.int .i64 k, .string ⟨t.toArray⟩, .string ⟨n.toArray⟩, .string ⟨s.toArray⟩, .slice Ac ca.len cc, .slice Ap pa.len cp] 50)) #[.int .i64 k2, .string ⟨t2.toArray⟩, .string ⟨n2.toArray⟩, .string ⟨s2.toArray⟩, .slice Ac2 ca2.len cc2, .slice Ap2 pa2.len cp2] : AtC 50 _ _ _).ext ((Ext.refl _).drew)
   rw [hz] at hb2
   have HBX := hid hb1
   have HBY := hid hb2
   clear hz hb1 hb2
   generalize ((wo.alloc (.cells #[.int .i64 k, .string ⟨t.toArray⟩, .string ⟨n.toArray⟩, .string ⟨s.toArray⟩, .slice Ac ca.len cc, .slice Ap pa.len cp] 50)).alloc (.cells #[.int .i64 k2, .string ⟨t2.toArray⟩, .string ⟨n2.toArray⟩, .string ⟨s2.toArray⟩, .slice Ac2 ca2.len cc2, .slice Ap2 pa2.len cp2] 50)).drew = W1 at *
   have p0 := HBX.out.cell 0 _ rfl
   have p1 := HBX.out.cell 1 _ rfl
   have p2 := HBX.out.cell 2 _ rfl
   have p3 := HBX.out.cell 3 _ rfl
   have p4 := HBX.out.cell 4 _ rfl
   have p5 := HBX.out.cell 5 _ rfl
   have q0 := HBY.out.cell 0 _ rfl
   have q1 := HBY.out.cell 1 _ rfl
   have q2 := HBY.out.cell 2 _ rfl
   have q3 := HBY.out.cell 3 _ rfl
   have q4 := HBY.out.cell 4 _ rfl
   have q5 := HBY.out.cell 5 _ rfl
   clear c0 c1 c2 c3 c4 c5 d0 d1 d2 d3 d4 d5
   cases qq : (k == k2)
   ·have hR0 : R = false := by rw [HR.out, qq]; simp
    subst hR0
    have qn : (k != k2) = true := by rw [bne, qq]; rfl
    go_wp2
    go_ret
    exact ⟨rfl, HW.out.trans HX1.out⟩
   obtain rfl : k = k2 := by simpa using qq
   clear qq
   cases qq : (t == t2)
   ·have hR0 : R = false := by rw [HR.out, qq]; simp
    subst hR0
    have qn : (t != t2) = true := by rw [bne, qq]; rfl
    go_wp2
    go_ret
    exact ⟨rfl, HW.out.trans HX1.out⟩
   obtain rfl : t = t2 := by simpa using qq
   clear qq
   cases qq : (n == n2)
   ·have hR0 : R = false := by rw [HR.out, qq]; simp
    subst hR0
    have qn : (n != n2) = true := by rw [bne, qq]; rfl
    go_wp2
    go_ret
    exact ⟨rfl, HW.out.trans HX1.out⟩
   obtain rfl : n = n2 := by simpa using qq
   clear qq
   cases qq : (s == s2)
   ·have hR0 : R = false := by rw [HR.out, qq]; simp
    subst hR0
    have qn : (s != s2) = true := by rw [bne, qq]; rfl
    go_wp2
    go_ret
    exact ⟨rfl, HW.out.trans HX1.out⟩
   obtain rfl : s = s2 := by simpa using qq
   clear qq
   by_cases hcc : ca.len = ca2.len
   rotate_left
   ·have hLI : ((ca.len : Int) == (ca2.len : Int)) = false := by rw [beq_eq_false_iff_ne]; omega
    have hLN : ((ca.len : Int) != (ca2.len : Int)) = true := by rw [bne_iff_ne]; omega
    have hR0 : R = false := by rw [HR.out, eqF_len hcc]; simp
    subst hR0
    clear hcc
    go_wp2
    go_ret
    exact ⟨rfl, HW.out.trans HX1.out⟩
   have hLI : ((ca.len : Int) == (ca2.len : Int)) = true := by rw [beq_iff_eq]; omega
   have hLN : ((ca.len : Int) != (ca2.len : Int)) = false := by rw [bne_eq_false_iff_eq]; omega
   have HLC := hid hcc
   clear hcc
   obtain ⟨RC, hRC⟩ : ∃ RC, RC = eqF ca ca2 := ⟨_, rfl⟩
   obtain ⟨PB, hPB⟩ : ∃ PB, PB = eqF pa pa2 := ⟨_, rfl⟩
   rw [← hPB] at KP
   have HR3 := hid (show R = (PB && RC && eqF (fdrop f (j + 1)) (fdrop g (j + 1))) from by rw [HR.out, hPB, hRC]; simp)
   clear hPB HR
   cases PB
   ·have hR0 : R = false := by rw [HR3.out]; rfl
    subst hR0
    go_wp2_with fail
    refine (KP.out _ HX1.out).mono ?_
    rintro e w2 ⟨rfl, hx2⟩
    have HX2 := hid (HW.out.trans (HX1.out.trans hx2))
    clear hx2
    go_wp2
    go_ret
    exact ⟨rfl, HX2.out⟩
   have HR4 := hid (show R = (RC && eqF (fdrop f (j + 1)) (fdrop g (j + 1))) from HR3.out)
   clear HR3
   go_wp2_with fail
   refine (KP.out _ HX1.out).mono ?_
   rintro e w2 ⟨rfl, hx2⟩
   have HX2 := hid (HX1.out.trans hx2)
   have HBX2 := hid (HBX.out.ext hx2)
   have HBY2 := hid (HBY.out.ext hx2)
   have HC0 := hid (show REqI w2 ca ca2 RC (.int .i64 0) w2 from ⟨0, Nat.zero_le _, rfl, by rw [fdrop_zero, fdrop_zero]; exact hRC, Ext.refl w2⟩)
   clear hx2 KP hRC p0 p1 p2 p3 p4 p5 q0 q1 q2 q3 q4 q5 HBX HBY
   go_wp2_with fail
   go_loopw [8] (REqI w2 ca ca2 RC) (fun i _ => ca.len - (intOf i).toNat)
   case atStart => exact HC0.out
   case round =>
    obtain ⟨i, hi, rfl, hr, hw⟩ := hrel
    obtain ⟨wi, rfl⟩ : ∃ wi : World, wi = wr := ⟨_, rfl⟩
    have HW2 := hid hw
    have p4 := (HBX2.out.ext hw).cell 4 _ rfl
    have q4 := (HBY2.out.ext hw).cell 4 _ rfl
    by_cases hil : i < ca.len
    rotate_left
    ·have hiI : ¬ (i : Int) < (ca.len : Int) := by omega
     have hR1 : RC = true := by rw [hr, fdrop_end ca i (by omega), fdrop_end ca2 i (by have := HLC.out; omega)]; rfl
     have HR5 := hid (show R = eqF (fdrop f (j + 1)) (fdrop g (j + 1)) from by rw [HR4.out, hR1]; rfl)
     clear hr hw hR1
     go_wp2
     exact ⟨⟨j + 1, hjl, by go_num, HR5.out, HW.out.trans (HX2.out.trans HW2.out)⟩, by simp [intOf]; omega⟩
    have hiI : (i : Int) < (ca.len : Int) := by omega
    have hil2 : i < ca2.len := by have := HLC.out; omega
    have hiI2 : (i : Int) < (ca2.len : Int) := by omega
    obtain ⟨b', o', cc', k', t', n', s', ca', pa', Ap', cp', hv', hbw', _, hdr', e0, e1, hPA'⟩ := (HCA.out.ext (HX2.out.trans hw)).at_ hil
    injection hv' with hA' _ hcc'
    subst hA' hcc'
    obtain ⟨b'', o'', cc'', k'', t'', n'', s'', ca'', pa'', Ap'', cp'', hv'', hbw'', _, hdr'', f0, f1, hPA''⟩ := (HCA2.out.ext (HX2.out.trans hw)).at_ hil2
    injection hv'' with hA'' _ hcc''
    subst hA'' hcc''
    have hcn' := (can_drop ca i).2 HCC.out
    rw [hdr', CanC] at hcn'
    obtain ⟨rfl, rfl, rfl, rfl, _, hcp', _⟩ := hcn'
    have hcn'' := (can_drop ca2 i).2 HCC2.out
    rw [hdr'', CanC] at hcn''
    obtain ⟨rfl, rfl, rfl, rfl, _, hcp'', _⟩ := hcn''
    rw [hdr', hdr'', eqF] at hr
    have hnd' : pa'.nodes < N := by have h1 := fdrop_nodes ca i; rw [hdr', F.nodes] at h1; have := HND.out.1; omega
    have hnd'' : pa''.nodes ≤ 1000000000 := by have h1 := fdrop_nodes ca2 i; rw [hdr'', F.nodes] at h1; have := HND2.out.1; omega
    have KP := fun W (hW : Ext wi W) => hN pa' pa'' _ _ ok W hnd' hnd'' (by have := HNN.out; omega) (hPA'.ext hW) (hPA''.ext hW) hcp' hcp''
    obtain ⟨PB, hPB⟩ : ∃ PB, PB = eqF pa' pa'' := ⟨_, rfl⟩
    rw [← hPB] at KP
    have HR5 := hid (show RC = ((n' == n'' && PB) && eqF (fdrop ca (i + 1)) (fdrop ca2 (i + 1))) from by rw [hr, hPB]; simp [eqF])
    have KPE := hid (fun y : ExtW wi => KP y.v y.h)
    have y4 : ∀ y : ExtW wi, y.v.cell? ⟨wo.heap.size, 4, none⟩ = some (.slice (some ⟨b', o', none⟩) ca.len cc) := fun y => (Ext.cell y.h (World.block_lt_of_cell? _ _ p4)).trans p4
    have z4 : ∀ y : ExtW wi, y.v.cell? ⟨wo.heap.size + 1, 4, none⟩ = some (.slice (some ⟨b'', o'', none⟩) ca2.len cc2) := fun y => (Ext.cell y.h (World.block_lt_of_cell? _ _ q4)).trans q4
    have x0 : ∀ y : ExtW wi, y.v.cell? ⟨b', o' + i * 2, none⟩ = some (.string ⟨n'.toArray⟩) := fun y => (Ext.cell y.h (World.block_lt_of_cell? _ _ e0)).trans e0
    have x1 : ∀ y : ExtW wi, y.v.cell? ⟨b', o' + i * 2 + 1, none⟩ = some (.slice Ap' pa'.len cp') := fun y => (Ext.cell y.h (World.block_lt_of_cell? _ _ e1)).trans e1
    have v0 : ∀ y : ExtW wi, y.v.cell? ⟨b'', o'' + i * 2, none⟩ = some (.string ⟨n''.toArray⟩) := fun y => (Ext.cell y.h (World.block_lt_of_cell? _ _ f0)).trans f0
    have v1 : ∀ y : ExtW wi, y.v.cell? ⟨b'', o'' + i * 2 + 1, none⟩ = some (.slice Ap'' pa''.len cp'') := fun y => (Ext.cell y.h (World.block_lt_of_cell? _ _ f1)).trans f1
    clear hr hw hPB hPA' hPA'' hcp' hcp'' hnd' hnd'' hdr' hdr'' e0 e1 f0 f1 KP
    cases qq : (n' == n'')
    ·have hR0 : R = false := by rw [HR4.out, HR5.out, qq]; rfl
     subst hR0
     go_wp2_with fail
     refine wp_region_ext (by kernel_rfl) (by kernel_rfl) ?_
     repeat (go_big_quiet_step ((go_at_call 15; exact ExtW.call (KPE.out _))))
     refine wpQuiet_nil ?_
     intro wx hx
     obtain ⟨y, rfl⟩ := hx
     clear y4 z4 x0 x1 v0 v1 p4 q4
     go_wp2
     go_ret
     exact ⟨rfl, HW.out.trans (HX2.out.trans (HW2.out.trans y.h))⟩
    obtain rfl : n' = n'' := by simpa using qq
    clear qq
    cases PB
    ·have hR0 : R = false := by rw [HR4.out, HR5.out]; simp
     subst hR0
     go_wp2_with fail
     refine wp_region_ext (by kernel_rfl) (by kernel_rfl) ?_
     repeat (go_big_quiet_step ((go_at_call 15; exact ExtW.call (KPE.out _))))
     refine wpQuiet_nil ?_
     intro wx hx
     obtain ⟨y, rfl⟩ := hx
     clear y4 z4 x0 x1 v0 v1 p4 q4
     go_wp2
     go_ret
     exact ⟨rfl, HW.out.trans (HX2.out.trans (HW2.out.trans y.h))⟩
    have HR6 := hid (show RC = eqF (fdrop ca (i + 1)) (fdrop ca2 (i + 1)) from by rw [HR5.out]; simp)
    go_wp2_with fail
    refine wp_region_ext (by kernel_rfl) (by kernel_rfl) ?_
    repeat (go_big_quiet_step ((go_at_call 15; exact ExtW.call (KPE.out _))))
    refine wpQuiet_nil ?_
    intro wx hx
    obtain ⟨y, rfl⟩ := hx
    clear y4 z4 x0 x1 v0 v1 p4 q4
    go_wp2
    exact ⟨⟨i + 1, hil, by go_num, HR6.out, HW2.out.trans y.h⟩, by simp [intOf]; omega⟩
  ·have HX1 := hid (show Ext wo (((wo.alloc (.cells #[.int .i64 k2, .string ⟨t2.toArray⟩, .string ⟨n2.toArray⟩, .string ⟨s2.toArray⟩, .slice Ac2 ca2.len cc2, .slice Ap2 pa2.len cp2] 50)).alloc (.cells #[.int .i64 k, .string ⟨t.toArray⟩, .string ⟨n.toArray⟩, .string ⟨s.toArray⟩, .slice Ac ca.len cc, .slice Ap pa.len cp] 50)).drew) from (((Ext.refl wo).alloc _).alloc _).drew)
   have hz : (wo.alloc (.cells #[.int .i64 k2, .string ⟨t2.toArray⟩, .string ⟨n2.toArray⟩, .string ⟨s2.toArray⟩, .slice Ac2 ca2.len cc2, .slice Ap2 pa2.len cp2] 50)).heap.size = wo.heap.size + 1 := World.size_alloc _ _
   have hb1 := ((AtC.new wo #[.int .i64 k2, .string ⟨t2.toArray⟩, .string ⟨n2.toArray⟩, .string ⟨s2.toArray⟩, .slice Ac2 ca2.len cc2, .slice Ap2 pa2.len cp2] : AtC 50 _ _ _).alloc (.cells #[.int .i64 k, .string ⟨t.toArray⟩, .string ⟨n.toArray⟩, .string ⟨s.toArray⟩, .slice Ac ca.len cc, .slice Ap pa.len cp] 50)).ext ((Ext.refl _).drew)
   have hb2 := (AtC.new (wo.alloc (.cells #[.int .i64 k2, .string ⟨t2.toArray⟩, .string ⟨n2.toArray⟩, .string ⟨s2.toArray⟩, .slice Ac2 ca2.len cc2, .slice Ap2 pa2.len cp2] 50)) #[.int .i64 k, .string ⟨t.toArray⟩, .string ⟨n.toArray⟩, .string ⟨s.toArray⟩, .slice Ac ca.len cc, .slice Ap pa.len cp] : AtC 50 _ _ _).ext ((Ext.refl _).drew)
   rw [hz] at hb2
   have HBX := hid hb2
   have HBY := hid hb1
   clear hz hb1 hb2
   generalize ((wo.alloc (.cells #[.int .i64 k2, .string ⟨t2.toArray⟩, .string ⟨n2.toArray⟩, .string ⟨s2.toArray⟩, .slice Ac2 ca2.len cc2, .slice Ap2 pa2.len cp2] 50)).alloc (.cells #[.int .i64 k, .string ⟨t.toArray⟩, .string ⟨n.toArray⟩, .string ⟨s.toArray⟩, .slice Ac ca.len cc, .slice Ap pa.len cp] 50)).drew = W1 at *
   have p0 := HBX.out.cell 0 _ rfl
   have p1 := HBX.out.cell 1 _ rfl
   have p2 := HBX.out.cell 2 _ rfl
   have p3 := HBX.out.cell 3 _ rfl
   have p4 := HBX.out.cell 4 _ rfl
   have p5 := HBX.out.cell 5 _ rfl
   have q0 := HBY.out.cell 0 _ rfl
   have q1 := HBY.out.cell 1 _ rfl
   have q2 := HBY.out.cell 2 _ rfl
   have q3 := HBY.out.cell 3 _ rfl
   have q4 := HBY.out.cell 4 _ rfl
   have q5 := HBY.out.cell 5 _ rfl
   clear c0 c1 c2 c3 c4 c5 d0 d1 d2 d3 d4 d5
   cases qq : (k == k2)
   ·have hR0 : R = false := by rw [HR.out, qq]; simp
    subst hR0
    have qn : (k != k2) = true := by rw [bne, qq]; rfl
    go_wp2
    go_ret
    exact ⟨rfl, HW.out.trans HX1.out⟩
   obtain rfl : k = k2 := by simpa using qq
   clear qq
   cases qq : (t == t2)
   ·have hR0 : R = false := by rw [HR.out, qq]; simp
    subst hR0
    have qn : (t != t2) = true := by rw [bne, qq]; rfl
    go_wp2
    go_ret
    exact ⟨rfl, HW.out.trans HX1.out⟩
   obtain rfl : t = t2 := by simpa using qq
   clear qq
   cases qq : (n == n2)
   ·have hR0 : R = false := by rw [HR.out, qq]; simp
    subst hR0
    have qn : (n != n2) = true := by rw [bne, qq]; rfl
    go_wp2
    go_ret
    exact ⟨rfl, HW.out.trans HX1.out⟩
   obtain rfl : n = n2 := by simpa using qq
   clear qq
   cases qq : (s == s2)
   ·have hR0 : R = false := by rw [HR.out, qq]; simp
    subst hR0
    have qn : (s != s2) = true := by rw [bne, qq]; rfl
    go_wp2
    go_ret
    exact ⟨rfl, HW.out.trans HX1.out⟩
   obtain rfl : s = s2 := by simpa using qq
   clear qq
   by_cases hcc : ca.len = ca2.len
   rotate_left
   ·have hLI : ((ca.len : Int) == (ca2.len : Int)) = false := by rw [beq_eq_false_iff_ne]; omega
    have hLN : ((ca.len : Int) != (ca2.len : Int)) = true := by rw [bne_iff_ne]; omega
    have hR0 : R = false := by rw [HR.out, eqF_len hcc]; simp
    subst hR0
    clear hcc
    go_wp2
    go_ret
    exact ⟨rfl, HW.out.trans HX1.out⟩
   have hLI : ((ca.len : Int) == (ca2.len : Int)) = true := by rw [beq_iff_eq]; omega
   have hLN : ((ca.len : Int) != (ca2.len : Int)) = false := by rw [bne_eq_false_iff_eq]; omega
   have HLC := hid hcc
   clear hcc
   obtain ⟨RC, hRC⟩ : ∃ RC, RC = eqF ca ca2 := ⟨_, rfl⟩
   obtain ⟨PB, hPB⟩ : ∃ PB, PB = eqF pa pa2 := ⟨_, rfl⟩
   rw [← hPB] at KP
   have HR3 := hid (show R = (PB && RC && eqF (fdrop f (j + 1)) (fdrop g (j + 1))) from by rw [HR.out, hPB, hRC]; simp)
   clear hPB HR
   cases PB
   ·have hR0 : R = false := by rw [HR3.out]; rfl
    subst hR0
    go_wp2_with fail
    refine (KP.out _ HX1.out).mono ?_
    rintro e w2 ⟨rfl, hx2⟩
    have HX2 := hid (HW.out.trans (HX1.out.trans hx2))
    clear hx2
    go_wp2
    go_ret
    exact ⟨rfl, HX2.out⟩
   have HR4 := hid (show R = (RC && eqF (fdrop f (j + 1)) (fdrop g (j + 1))) from HR3.out)
   clear HR3
   go_wp2_with fail
   refine (KP.out _ HX1.out).mono ?_
   rintro e w2 ⟨rfl, hx2⟩
   have HX2 := hid (HX1.out.trans hx2)
   have HBX2 := hid (HBX.out.ext hx2)
   have HBY2 := hid (HBY.out.ext hx2)
   have HC0 := hid (show REqI w2 ca ca2 RC (.int .i64 0) w2 from ⟨0, Nat.zero_le _, rfl, by rw [fdrop_zero, fdrop_zero]; exact hRC, Ext.refl w2⟩)
   clear hx2 KP hRC p0 p1 p2 p3 p4 p5 q0 q1 q2 q3 q4 q5 HBX HBY
   go_wp2_with fail
   go_loopw [8] (REqI w2 ca ca2 RC) (fun i _ => ca.len - (intOf i).toNat)
   case atStart => exact HC0.out
   case round =>
    obtain ⟨i, hi, rfl, hr, hw⟩ := hrel
    obtain ⟨wi, rfl⟩ : ∃ wi : World, wi = wr := ⟨_, rfl⟩
    have HW2 := hid hw
    have p4 := (HBX2.out.ext hw).cell 4 _ rfl
    have q4 := (HBY2.out.ext hw).cell 4 _ rfl
    by_cases hil : i < ca.len
    rotate_left
    ·have hiI : ¬ (i : Int) < (ca.len : Int) := by omega
     have hR1 : RC = true := by rw [hr, fdrop_end ca i (by omega), fdrop_end ca2 i (by have := HLC.out; omega)]; rfl
     have HR5 := hid (show R = eqF (fdrop f (j + 1)) (fdrop g (j + 1)) from by rw [HR4.out, hR1]; rfl)
     clear hr hw hR1
     go_wp2
     exact ⟨⟨j + 1, hjl, by go_num, HR5.out, HW.out.trans (HX2.out.trans HW2.out)⟩, by simp [intOf]; omega⟩
    have hiI : (i : Int) < (ca.len : Int) := by omega
    have hil2 : i < ca2.len := by have := HLC.out; omega
    have hiI2 : (i : Int) < (ca2.len : Int) := by omega
    obtain ⟨b', o', cc', k', t', n', s', ca', pa', Ap', cp', hv', hbw', _, hdr', e0, e1, hPA'⟩ := (HCA.out.ext (HX2.out.trans hw)).at_ hil
    injection hv' with hA' _ hcc'
    subst hA' hcc'
    obtain ⟨b'', o'', cc'', k'', t'', n'', s'', ca'', pa'', Ap'', cp'', hv'', hbw'', _, hdr'', f0, f1, hPA''⟩ := (HCA2.out.ext (HX2.out.trans hw)).at_ hil2
    injection hv'' with hA'' _ hcc''
    subst hA'' hcc''
    have hcn' := (can_drop ca i).2 HCC.out
    rw [hdr', CanC] at hcn'
    obtain ⟨rfl, rfl, rfl, rfl, _, hcp', _⟩ := hcn'
    have hcn'' := (can_drop ca2 i).2 HCC2.out
    rw [hdr'', CanC] at hcn''
    obtain ⟨rfl, rfl, rfl, rfl, _, hcp'', _⟩ := hcn''
    rw [hdr', hdr'', eqF] at hr
    have hnd' : pa'.nodes < N := by have h1 := fdrop_nodes ca i; rw [hdr', F.nodes] at h1; have := HND.out.1; omega
    have hnd'' : pa''.nodes ≤ 1000000000 := by have h1 := fdrop_nodes ca2 i; rw [hdr'', F.nodes] at h1; have := HND2.out.1; omega
    have KP := fun W (hW : Ext wi W) => hN pa' pa'' _ _ ok W hnd' hnd'' (by have := HNN.out; omega) (hPA'.ext hW) (hPA''.ext hW) hcp' hcp''
    obtain ⟨PB, hPB⟩ : ∃ PB, PB = eqF pa' pa'' := ⟨_, rfl⟩
    rw [← hPB] at KP
    have HR5 := hid (show RC = ((n' == n'' && PB) && eqF (fdrop ca (i + 1)) (fdrop ca2 (i + 1))) from by rw [hr, hPB]; simp [eqF])
    have KPE := hid (fun y : ExtW wi => KP y.v y.h)
    have y4 : ∀ y : ExtW wi, y.v.cell? ⟨wo.heap.size + 1, 4, none⟩ = some (.slice (some ⟨b', o', none⟩) ca.len cc) := fun y => (Ext.cell y.h (World.block_lt_of_cell? _ _ p4)).trans p4
    have z4 : ∀ y : ExtW wi, y.v.cell? ⟨wo.heap.size, 4, none⟩ = some (.slice (some ⟨b'', o'', none⟩) ca2.len cc2) := fun y => (Ext.cell y.h (World.block_lt_of_cell? _ _ q4)).trans q4
    have x0 : ∀ y : ExtW wi, y.v.cell? ⟨b', o' + i * 2, none⟩ = some (.string ⟨n'.toArray⟩) := fun y => (Ext.cell y.h (World.block_lt_of_cell? _ _ e0)).trans e0
    have x1 : ∀ y : ExtW wi, y.v.cell? ⟨b', o' + i * 2 + 1, none⟩ = some (.slice Ap' pa'.len cp') := fun y => (Ext.cell y.h (World.block_lt_of_cell? _ _ e1)).trans e1
    have v0 : ∀ y : ExtW wi, y.v.cell? ⟨b'', o'' + i * 2, none⟩ = some (.string ⟨n''.toArray⟩) := fun y => (Ext.cell y.h (World.block_lt_of_cell? _ _ f0)).trans f0
    have v1 : ∀ y : ExtW wi, y.v.cell? ⟨b'', o'' + i * 2 + 1, none⟩ = some (.slice Ap'' pa''.len cp'') := fun y => (Ext.cell y.h (World.block_lt_of_cell? _ _ f1)).trans f1
    clear hr hw hPB hPA' hPA'' hcp' hcp'' hnd' hnd'' hdr' hdr'' e0 e1 f0 f1 KP
    cases qq : (n' == n'')
    ·have hR0 : R = false := by rw [HR4.out, HR5.out, qq]; rfl
     subst hR0
     go_wp2_with fail
     refine wp_region_ext (by kernel_rfl) (by kernel_rfl) ?_
     repeat (go_big_quiet_step ((go_at_call 15; exact ExtW.call (KPE.out _))))
     refine wpQuiet_nil ?_
     intro wx hx
     obtain ⟨y, rfl⟩ := hx
     clear y4 z4 x0 x1 v0 v1 p4 q4
     go_wp2
     go_ret
     exact ⟨rfl, HW.out.trans (HX2.out.trans (HW2.out.trans y.h))⟩
    obtain rfl : n' = n'' := by simpa using qq
    clear qq
    cases PB
    ·have hR0 : R = false := by rw [HR4.out, HR5.out]; simp
     subst hR0
     go_wp2_with fail
     refine wp_region_ext (by kernel_rfl) (by kernel_rfl) ?_
     repeat (go_big_quiet_step ((go_at_call 15; exact ExtW.call (KPE.out _))))
     refine wpQuiet_nil ?_
     intro wx hx
     obtain ⟨y, rfl⟩ := hx
     clear y4 z4 x0 x1 v0 v1 p4 q4
     go_wp2
     go_ret
     exact ⟨rfl, HW.out.trans (HX2.out.trans (HW2.out.trans y.h))⟩
    have HR6 := hid (show RC = eqF (fdrop ca (i + 1)) (fdrop ca2 (i + 1)) from by rw [HR5.out]; simp)
    go_wp2_with fail
    refine wp_region_ext (by kernel_rfl) (by kernel_rfl) ?_
    repeat (go_big_quiet_step ((go_at_call 15; exact ExtW.call (KPE.out _))))
    refine wpQuiet_nil ?_
    intro wx hx
    obtain ⟨y, rfl⟩ := hx
    clear y4 z4 x0 x1 v0 v1 p4 q4
    go_wp2
    exact ⟨⟨i + 1, hil, by go_num, HR6.out, HW2.out.trans y.h⟩, by simp [intOf]; omega⟩
theorem req_all : ∀ N, REqH N
 | 0 => fun f g v u ok w h => absurd h (Nat.not_lt_zero _)
 | N + 1 => req_step N (req_all N)
theorem requal26_any {f g : F} {v u : Value} {ok : Nat → Prop} {w : World} (hnf : f.nodes < 100000000) (hng : g.nodes ≤ 1000000000) (hf : FwS w ok f v) (hg : FwS w ok g u) (cf : Can f) (cg : Can g) :
 Calls Tryz.prog 15 #[v, u] w fun e w' => e = .returned (.bool (eqF f g)) ∧ Ext w w' := req_all 100000000 f g v u ok w hnf hng (by decide) hf hg cf cg
end Go.Proofs.YtpfmojeigjmlfaaGreatDoor
