import Derived.Test.YtiijdojihleggaaGreatDoorQNZB
import Derived.Test.YtiijdojihleggaaGreatDoorQNZH
import Derived.Test.YtiijdojihleggaaGreatDoorQNZD
set_option maxRecDepth 100000
set_option linter.unusedSimpArgs false
set_option linter.unusedVariables false
open Go.Lib (hid)
namespace Go.Proofs.YtiijdojihleggaaGreatDoor
open Go.RowKit
noncomputable def regN23 : Code := ((Tryz.f45).body.bind (regOf15 23)).getD .skip
set_option maxHeartbeats 4000000 in
theorem rn23 {u0 u1 u2 u3 u4 u5 u7 u9 u10 u11 u12 u13 u14 u15 u16 u17 u18 u19 u20 u21 u22 u23 u24 u25 u26 u27 u28 u29 u30 u31 u32 u33 u34 u35 u36 u37 u38 u39 u40 u41 u42 u43 u44 u45 u46 u47 u48 u49 u50 u51 u52 u53 u54 u55 u56 u57 u58 u59 u60 u61 u62 u63 u64 u65 u66 u67 u68 u69 u70 u71 u72 u73 u74 u75 u76 u77 u78 u79 u80 u81 u82 u83 u84 u85 u86 u87 u88 u89 u90 : Value} {A B4 B5 : Option Addr} {n c n4 c4 n5 c5 bx B : Nat} {k : Int} {s1 s2 s3 : ByteArray} {xs : List Value} {w : World} {Q : Exit → Act → World → Prop} {C : Code} (hC : C = regN23)
 (hb : AtC 96 w bx #[.int .i64 k, .string s1, .string s2, .string s3, .slice B4 n4 c4, .slice B5 n5 c5]) (ho : w.ownsRow B 96 6 (.slice A n c) n xs) (hn : n ≤ 1000000000) (hB : B ≤ w.heap.size)
 (hQ : ∀ v' w', w'.ownsRow B 96 6 v' (n + 1) (xs ++ [.int .i64 k, .string s1, .string s2, .string s3, .slice B4 n4 c4, .slice B5 n5 c5]) → (w.alloc (.cells #[.int .i64 k, .string s1, .string s2, .string s3, .slice B4 n4 c4, .slice B5 n5 c5] 96)).grownBy w' (Value.slice A n c).ownBlock → (v'.ownBlock = (Value.slice A n c).ownBlock ∨ ∀ b, v'.ownBlock = some b → (w.alloc (.cells #[.int .i64 k, .string s1, .string s2, .string s3, .slice B4 n4 c4, .slice B5 n5 c5] 96)).heap.size ≤ b) →
  Q .normal ⟨#[u0, u1, u2, u3, u4, u5, v', u7, .pointer (some ⟨bx, 0, none⟩), u9, u10, u11, u12, u13, u14, u15, u16, u17, u18, u19, u20, u21, u22, u23, u24, u25, u26, u27, u28, u29, u30, u31, u32, u33, u34, u35, u36, u37, u38, u39, u40, u41, u42, u43, u44, u45, u46, u47, u48, u49, u50, u51, u52, u53, u54, u55, u56, u57, u58, u59, u60, u61, u62, u63, u64, u65, u66, u67, u68, u69, u70, u71, u72, u73, u74, u75, u76, u77, u78, u79, u80, u81, u82, u83, u84, .slice A n c, .agg #[.int .i64 k, .string s1, .string s2, .string s3, .slice B4 n4 c4, .slice B5 n5 c5], .slice (some ⟨w.heap.size, 0, none⟩) 1 1, v', u89, u90], []⟩ w') :
 Code.wp Tryz.prog C Q ⟨#[u0, u1, u2, u3, u4, u5, .slice A n c, u7, .pointer (some ⟨bx, 0, none⟩), u9, u10, u11, u12, u13, u14, u15, u16, u17, u18, u19, u20, u21, u22, u23, u24, u25, u26, u27, u28, u29, u30, u31, u32, u33, u34, u35, u36, u37, u38, u39, u40, u41, u42, u43, u44, u45, u46, u47, u48, u49, u50, u51, u52, u53, u54, u55, u56, u57, u58, u59, u60, u61, u62, u63, u64, u65, u66, u67, u68, u69, u70, u71, u72, u73, u74, u75, u76, u77, u78, u79, u80, u81, u82, u83, u84, u85, u86, u87, u88, u89, u90], []⟩ w := by
 subst hC
 conv => arg 2; whnf
 obtain ⟨i0, hi, hz0, hz1, hz2⟩ := info_parts (show (Tryz.prog.info? 96).map (fun i => (i.zero, i.size, i.bytes)) = some (some (.agg #[.int .i64 0, .string ⟨#[]⟩, .string ⟨#[]⟩, .string ⟨#[]⟩, .slice none 0 0, .slice none 0 0]), 6, 104) from by kernel_rfl)
 have z0 : w.cell? ⟨bx, 0, none⟩ = some (.int .i64 k) := hb.cell 0 _ rfl
 have z1 : w.cell? ⟨bx, 1, none⟩ = some (.string s1) := hb.cell 1 _ rfl
 have z2 : w.cell? ⟨bx, 2, none⟩ = some (.string s2) := hb.cell 2 _ rfl
 have z3 : w.cell? ⟨bx, 3, none⟩ = some (.string s3) := hb.cell 3 _ rfl
 have z4 : w.cell? ⟨bx, 4, none⟩ = some (.slice B4 n4 c4) := hb.cell 4 _ rfl
 have z5 : w.cell? ⟨bx, 5, none⟩ = some (.slice B5 n5 c5) := hb.cell 5 _ rfl
 have HQ := hid hQ
 have HO := hid (show (w.alloc (.cells #[.int .i64 k, .string s1, .string s2, .string s3, .slice B4 n4 c4, .slice B5 n5 c5] 96)).ownsRow B 96 6 (.slice A n c) n xs from own_ext ho ((Ext.refl w).alloc _))
 have HB := hid hB
 clear hQ ho hB hb
 go_wp2_with (at_builtin; refine wpList_appN _ rfl _ _ 47 rfl B 96 i0 _ 6 104 Tryz.underlying47 hi hz0 hz1 hz2 rfl (by decide) _ _ _ rfl HO.out ⟨w.heap.size, 0, none⟩ 1 1 [.int .i64 k, .string s1, .string s2, .string s3, .slice B4 n4 c4, .slice B5 n5 c5] rfl rfl (new_cells w #[.int .i64 k, .string s1, .string s2, .string s3, .slice B4 n4 c4, .slice B5 n5 c5] 96) (by simp [Value.oneCell']) (by unfold maxLen; omega) (by omega) (by have := HB.out; simp; omega) ?_; intro v8 w8 hown8 hgrow8 hwh8; have HO8 := hid hown8; have HG8 := hid hgrow8; have HW8 := hid hwh8; clear hown8 hgrow8 hwh8)
 show Q _ _ _
 exact HQ.out v8 w8 HO8.out HG8.out HW8.out
end Go.Proofs.YtiijdojihleggaaGreatDoor
namespace Go.Proofs.YtiijdojihleggaaGreatDoor
open Go.RowKit
theorem name_len46 {s : By} (h : nameB s = true) : s.length ≤ 40 := by
 unfold nameB at h
 simp only [Bool.and_eq_true, decide_eq_true_eq] at h
 exact h.1.1.2
theorem know_cons (l : List NmP) (k : Int) (t n s : By) (ca pa r : F) : knowF l (.cons k t n s ca pa r) = (((if 2 ≤ k ∧ k ≤ 9 then (lookP l n).isSome else true) && knowF l pa) && (knowF l ca && knowF l r)) := by
 unfold knowF
 rw [usesF, List.all_append, List.all_append, List.all_append]
 split
 ·simp [Bool.and_assoc]
 ·simp [Bool.and_assoc]
theorem rn_exc {w w' : World} {B : Nat} {v v' : Value} (hg : w.grownBy w' v.ownBlock) (hw : v'.ownBlock = v.ownBlock ∨ ∀ b, v'.ownBlock = some b → w.heap.size ≤ b) (f : F) :
 (∀ cs, Fw w (fun k => B ≤ k ∧ some k ≠ v.ownBlock) f cs → Fw w' (fun k => B ≤ k ∧ some k ≠ v'.ownBlock) f cs) ∧ (∀ cs, Cw w (fun k => B ≤ k ∧ some k ≠ v.ownBlock) f cs → Cw w' (fun k => B ≤ k ∧ some k ≠ v'.ownBlock) f cs) := by
 have hx := exc_grown (Ext.refl w) hg
 have h1 : ∀ k, ((B ≤ k ∧ some k ≠ v.ownBlock) ∧ k < w.heap.size) → ¬ v.ownBlock = some k := fun k h e => h.1.2 e.symm
 have h2 : ∀ k, ((B ≤ k ∧ some k ≠ v.ownBlock) ∧ k < w.heap.size) → B ≤ k ∧ some k ≠ v'.ownBlock := fun k h => ⟨h.1.1, fun e => by
  rcases hw with hw | hw
  ·exact h.1.2 (e.trans hw)
  ·have := hw k e.symm
   omega⟩
 exact ⟨fun cs h => (FCw_exc hx h1 h2 f).1 cs ((FCw_in w _ f).1 cs h), fun cs h => (FCw_exc hx h1 h2 f).2 cs ((FCw_in w _ f).2 cs h)⟩
theorem rn_ext {w w' : World} {B : Nat} {v : Value} (hx : Ext w w') (f : F) :
 (∀ cs, Fw w (fun k => B ≤ k ∧ some k ≠ v.ownBlock) f cs → Fw w' (fun k => B ≤ k ∧ some k ≠ v.ownBlock) f cs) ∧ (∀ cs, Cw w (fun k => B ≤ k ∧ some k ≠ v.ownBlock) f cs → Cw w' (fun k => B ≤ k ∧ some k ≠ v.ownBlock) f cs) :=
 FCw_exc (Exc.of_ext (S := fun _ => False) hx) (fun _ _ h => h) (fun _ h => h) f
def RetRn (w : World) (l : List NmP) (f : F) (e : Ending) (w' : World) : Prop :=
 ((knowF l f = false ∧ e = .returned (.tuple #[.slice none 0 0, .bool false])) ∨ ∃ A c, knowF l f = true ∧ e = .returned (.tuple #[.slice A f.len c, .bool true]) ∧ FwS w' (fun k => w.heap.size ≤ k) (renF l f) (.slice A f.len c)) ∧ Ext w w'
def RnH (l : List NmP) (N : Nat) : Prop := ∀ (f : F) (v : Value) (ok : Nat → Prop) (d : Nat) (c pt : Bool) (mb n : Nat) (w : World), f.nodes < N → FwS w ok f v → formB d c pt f = true → f.nodes ≤ 1000000000 → MapO Tryz.prog 9 w mb n (lookP l) →
 Calls Tryz.prog 45 #[v, .map (some mb)] w (RetRn w l f)
def RnI (w : World) (l : List NmP) (f : F) (out i : Value) (wr : World) : Prop := ∃ (j : Nat) (g : F) (xs : List Value), j ≤ f.len ∧ i = .int .i64 j ∧ g.len = j ∧ wr.ownsRow w.heap.size 96 6 out j xs ∧
 Fw wr (fun k => w.heap.size ≤ k ∧ some k ≠ out.ownBlock) g xs ∧ g.app (renF l (fdrop f j)) = renF l f ∧ knowF l (fdrop f j) = knowF l f ∧ Ext w wr
def RnJ (w : World) (l : List NmP) (ca : F) (bx : Nat) (cs : Array Value) (out i : Value) (wr : World) : Prop := ∃ (j : Nat) (g : F) (xs : List Value), j ≤ ca.len ∧ i = .int .i64 j ∧ g.len = j ∧ wr.ownsRow w.heap.size 106 2 out j xs ∧
 Cw wr (fun k => w.heap.size ≤ k ∧ some k ≠ out.ownBlock) g xs ∧ g.app (renF l (fdrop ca j)) = renF l ca ∧ knowF l (fdrop ca j) = knowF l ca ∧ Ext w wr ∧ AtC 96 wr bx cs
def KnK (l : List NmP) (k : Int) (n : By) : Bool := if 2 ≤ k ∧ k ≤ 9 then (lookP l n).isSome else true
def RnB (wo : World) (bx : Nat) (cs : Array Value) (kk : Bool) (wx : World) : Prop := Ext wo wx ∧ AtC 96 wx bx cs ∧ kk = true
theorem zeroR (w : World) : (zeroValue 9).run Tryz.prog w = .ok (bV []) w := by kernel_rfl
def BWz3 (b : Bool) (W : World) (v : Value) (wx : World) : Prop := v = .bool b ∧ W = wx
set_option maxHeartbeats 8000000 in
theorem ren_step (l : List NmP) (N : Nat) (hN : RnH l N) : RnH l (N + 1) := by
 intro f v ok d c pt mb nm w hnd hF hform hfn hmap
 obtain ⟨i0, hi, hz0, hz1, hz2⟩ := info_parts (show (Tryz.prog.info? 96).map (fun i => (i.zero, i.size, i.bytes)) = some (some (.agg #[.int .i64 0, .string ⟨#[]⟩, .string ⟨#[]⟩, .string ⟨#[]⟩, .slice none 0 0, .slice none 0 0]), 6, 104) from by kernel_rfl)
 obtain ⟨i1, hi1, hz3, hz4, hz5⟩ := info_parts (show (Tryz.prog.info? 106).map (fun i => (i.zero, i.size, i.bytes)) = some (some (.agg #[.string ⟨#[]⟩, .slice none 0 0]), 2, 40) from by kernel_rfl)
 obtain ⟨Af, cf, rfl⟩ := hF.val
 have hfl : f.len ≤ 1000000000 := by have := fmNodes f; omega
 have HF := hid hF
 have HFORM := hid hform
 have HND := hid hnd
 have HMAP := hid hmap
 have HFN := hid hfn
 have H0 := hid (show RnI w l f (.slice none 0 0) (.int .i64 0) w from ⟨0, .nil, [], Nat.zero_le _, rfl, rfl, World.ownsRow_nil _ _ _ _, by rw [Fw], by rw [fdrop_zero]; rfl, by rw [fdrop_zero], Ext.refl _⟩)
 clear hF hform hnd hmap hfn
 go_enter Tryz.func45, Tryz.ntmps45
 go_wp2_with fail
 go_loopw [6, 20] (RnI w l f) (fun _ i _ => f.len - (intOf i).toNat)
 case atStart => exact H0.out
 case round =>
  obtain ⟨j, g, xs, hj, rfl, hgl, hown, hfw, hren, hkn, hx1⟩ := hrel
  obtain ⟨wo, rfl⟩ : ∃ wo : World, wo = wr := ⟨_, rfl⟩
  by_cases hjl : j < f.len
  rotate_left
  ·as_aux_lemma =>
   have hjI : ¬ (j : Int) < (f.len : Int) := by omega
   have hje : j = f.len := by omega
   rw [fdrop_end f j (by omega)] at hren hkn
   have hge : g = renF l f := by rw [← hren, renF, F.app_nil]
   have hk : knowF l f = true := by rw [← hkn]; rfl
   have HX1 := hid hx1
   have HS := hid (FwS_own (ok := fun k => w.heap.size ≤ k) (by rw [hgl]; exact hown) ((FCw_exc (Exc.of_ext (S := fun _ => False) (Ext.refl _)) (fun _ _ h => h) (fun k h => h.1) g).1 _ hfw) (fun k h => h))
   obtain ⟨A5, c5, rfl, _⟩ := own_slN hown
   have HGE := hid hge
   clear hren hkn hown hfw hge hx1
   go_wp2
   go_ret2
   refine ⟨.inr ⟨A5, c5, hk, by rw [← hje]; rfl, ?_⟩, HX1.out⟩
   rw [← hje, ← HGE.out]
   exact HS.out
  have hjI : (j : Int) < (f.len : Int) := by omega
  obtain ⟨bf, o, cc', k, t, n, s, ca, pa, Ac, cac, Ap, cpa, hv, hbw, _, hdr, y0, y1, y2, y3, y4, y5, hCA, hPA⟩ := HF.out.at_ hjl
  have c0 := (Ext.cell (p := ⟨bf, o + j * 6, none⟩) hx1 hbw).trans y0
  have c1 := (Ext.cell (p := ⟨bf, o + j * 6 + 1, none⟩) hx1 hbw).trans y1
  have c2 := (Ext.cell (p := ⟨bf, o + j * 6 + 2, none⟩) hx1 hbw).trans y2
  have c3 := (Ext.cell (p := ⟨bf, o + j * 6 + 3, none⟩) hx1 hbw).trans y3
  have c4 := (Ext.cell (p := ⟨bf, o + j * 6 + 4, none⟩) hx1 hbw).trans y4
  have c5 := (Ext.cell (p := ⟨bf, o + j * 6 + 5, none⟩) hx1 hbw).trans y5
  clear y0 y1 y2 y3 y4 y5
  injection hv with hA _ hcc
  subst hA hcc
  obtain ⟨pt', hfm⟩ := form_at28 f j pt HFORM.out hdr
  obtain ⟨_, hnm, hk1, hk11, hsub⟩ := form_sub hfm
  have hnn := fdrop_nodes f j
  rw [hdr, F.nodes] at hnn
  rw [hdr, renF] at hren
  rw [hdr, know_cons] at hkn
  obtain ⟨wb, hwb⟩ : ∃ wb, wb = wo.alloc (.cells #[.int .i64 k, .string ⟨t.toArray⟩, .string ⟨n.toArray⟩, .string ⟨s.toArray⟩, .slice Ac ca.len cac, .slice Ap pa.len cpa] 96) := ⟨_, rfl⟩
  have hxb : Ext wo wb := by rw [hwb]; exact (Ext.refl wo).alloc _
  have HB := hid (show AtC 96 wb wo.heap.size #[.int .i64 k, .string ⟨t.toArray⟩, .string ⟨n.toArray⟩, .string ⟨s.toArray⟩, .slice Ac ca.len cac, .slice Ap pa.len cpa] from by rw [hwb]; exact AtC.new wo _)
  have HXB := hid hxb
  have HCA := hid hCA
  have HPA := hid hPA
  have HO := hid hown
  have HFW := hid hfw
  have HX1 := hid hx1
  have HSUB := hid hsub
  have HREN := hid hren
  have HKN := hid hkn
  have HNN := hid hnn
  have HGL := hid hgl
  have hcl : ca.len ≤ 1000000000 := by have := fmNodes ca; have := HFN.out; omega
  have hnl : 2 ≤ k ∧ k ≤ 9 → n.length ≤ maxLen := fun h => by have := name_len46 (hnm h); unfold maxLen; omega
  have HNL := hid hnl
  obtain ⟨kb, hkb⟩ : ∃ kb : Bool, kb = decide (2 ≤ k ∧ k ≤ 9) := ⟨_, rfl⟩
  have HKD := hid hkb
  have HKB := hid (show kb = (!(k == 1) && !(k == 11) && !(k == 10)) from by
   rw [hkb, Bool.eq_iff_iff]
   simp
   omega)
  obtain ⟨nm', hnm'⟩ : ∃ nm', nm' = nameR l k n := ⟨_, rfl⟩
  have HNM := hid hnm'
  obtain ⟨A1, cp1, rfl, hs1⟩ := own_slN hown
  have b0 := HB.out.cell 0 _ rfl
  have b2 := HB.out.cell 2 _ rfl
  have HM := hid (HMAP.out.ext (hx1.trans hxb))
  clear hCA hPA hown hfw hx1 hsub hfm hnm hren hkn hnn hdr hxb hbw hs1 hkb hnm' hgl hnl hk1 hk11
  go_upto_region 5 with (fail)
  rw [← hwb]
  clear hwb
  go_cut [36] (BWz3 kb wb)
  case first =>
   as_aux_lemma =>
   go_wp2_with fail
   all_goals
    go_meet
    exact ⟨by rw [HKB.out]; first | rfl | (simp_all; done) | (simp_all; rfl), rfl⟩
  case rest =>
  obtain ⟨rfl, rfl⟩ := hcut
  go_upto_if 36 with (fail)
  go_cut [] (RnB wo wo.heap.size #[.int .i64 k, .string ⟨t.toArray⟩, .string ⟨nm'.toArray⟩, .string ⟨s.toArray⟩, .slice Ac ca.len cac, .slice Ap pa.len cpa] (KnK l k n))
  case first =>
   as_aux_lemma =>
   cases kb
   ·have hk : ¬ (2 ≤ k ∧ k ≤ 9) := of_decide_eq_false HKD.out.symm
    have HE := hid (show nm' = n from by rw [HNM.out]; unfold nameR; rw [if_neg hk])
    have HKK := hid (show KnK l k n = true from by unfold KnK; rw [if_neg hk])
    clear hk
    go_wp2_with fail
    go_meet
    exact ⟨HXB.out, by rw [HE.out]; exact HB.out, HKK.out⟩
   ·have hk : 2 ≤ k ∧ k ≤ 9 := of_decide_eq_true HKD.out.symm
    have HNL2 := hid (HNL.out hk)
    have HKN2 := hid (show ((lookP l n).isSome && knowF l pa && (knowF l ca && knowF l (fdrop f (j + 1)))) = knowF l f from by rw [← HKN.out, if_pos hk])
    have HE := hid (show nm' = (lookP l n).getD [] from by rw [HNM.out]; unfold nameR; rw [if_pos hk])
    have HKK := hid (show KnK l k n = (lookP l n).isSome from by unfold KnK; rw [if_pos hk])
    clear hk
    obtain ⟨L, hL⟩ : ∃ L, L = lookP l n := ⟨_, rfl⟩
    have HL := hid hL
    rw [← hL] at HKN2 HE HKK
    clear hL
    cases L with
    | none =>
      go_wp2_with (at_lookup; refine wpList_lookupO rfl _ _ 93 9 9 rfl Tryz.underlying9 Tryz.underlying93 (zeroR _) mb nm (lookP l) rfl HM.out n rfl HNL2.out ?_; rw [← HL.out])
      go_ret2
      exact ⟨.inl ⟨by rw [← HKN2.out]; rfl, rfl⟩, HX1.out.trans HXB.out⟩
    | some m =>
      have f2 := frz_of HB.out 2
      go_wp2_with (at_lookup; refine wpList_lookupO rfl _ _ 93 9 9 rfl Tryz.underlying9 Tryz.underlying93 (zeroR _) mb nm (lookP l) rfl HM.out n rfl HNL2.out ?_; rw [← HL.out])
      go_meet
      refine ⟨HXB.out.setCell (Nat.le_refl _) _, ?_, HKK.out⟩
      rw [HE.out]
      exact heap_setCell_same wb wo.heap.size 2 _ _ _ HB.out
  case rest =>
  obtain ⟨w3, hw3⟩ : ∃ w3 : World, w3 = wc := ⟨_, rfl⟩
  rw [← hw3] at hcut ⊢
  clear hw3
  obtain ⟨hx3, hb3, hkk3⟩ := hcut
  have HKK3 := hid hkk3
  clear hkk3
  have HX3 := hid hx3
  obtain ⟨cs, hcs⟩ : ∃ cs : Array Value, cs = #[.int .i64 k, .string ⟨t.toArray⟩, .string ⟨nm'.toArray⟩, .string ⟨s.toArray⟩, .slice Ac ca.len cac, .slice Ap pa.len cpa] := ⟨_, rfl⟩
  have b4 := hb3.cell 4 _ rfl
  have HJ0 := hid (show RnJ w3 l ca wo.heap.size cs (.slice none 0 0) (.int .i64 0) w3 from ⟨0, .nil, [], Nat.zero_le _, rfl, rfl, World.ownsRow_nil _ _ _ _, by rw [Cw], by rw [fdrop_zero]; rfl, by rw [fdrop_zero], Ext.refl _, by rw [hcs]; exact hb3⟩)
  have HCS := hid hcs
  have HM3 := hid (HMAP.out.ext (HX1.out.trans hx3))
  have HSZ3 := hid (show wo.heap.size < w3.heap.size from by have := hb3.lt; omega)
  clear hx3 hb3 hcs b0 b2
  go_wp2_with fail
  go_loopw [11, 51] (RnJ w3 l ca wo.heap.size cs) (fun _ i _ => ca.len - (intOf i).toNat)
  case atStart => exact HJ0.out
  case round =>
   obtain ⟨j2, gc, ys, hj2, rfl, hgc, ho6, hcw6, hr6, hk6, hx6, hb6⟩ := hrel
   obtain ⟨wq, rfl⟩ : ∃ wq : World, wq = wr := ⟨_, rfl⟩
   obtain ⟨A6, cp6, rfl, _⟩ := own_slN ho6
   have HO6 := hid ho6
   have HCW6 := hid hcw6
   have HX6 := hid hx6
   have HB6 := hid hb6
   by_cases hjl2 : j2 < ca.len
   rotate_left
   ·as_aux_lemma =>
    have hjI2 : ¬ (j2 : Int) < (ca.len : Int) := by omega
    have hje2 : j2 = ca.len := by omega
    subst hje2
    rw [fdrop_end ca ca.len (Nat.le_refl _)] at hr6 hk6
    have HGE := hid (show gc = renF l ca from by rw [← hr6, renF, F.app_nil])
    have HKC := hid (show knowF l ca = true from by rw [← hk6]; rfl)
    have b5 : wq.cell? ⟨wo.heap.size, 5, none⟩ = some (.slice Ap pa.len cpa) := hb6.cell 5 _ (by rw [HCS.out]; rfl)
    obtain ⟨d3, c3', hf3⟩ : ∃ d3 c3, formB d3 c3 false pa = true := by
     rcases HSUB.out with ⟨_, rfl | h⟩ | ⟨rfl, _⟩
     ·exact ⟨0, false, rfl⟩
     ·exact h
     ·exact ⟨0, false, rfl⟩
    have KW := hid (hN pa (.slice Ap pa.len cpa) ok d3 c3' false mb nm wq (by have := HNN.out; have := HND.out; omega) (HPA.out.ext (HX1.out.trans (HX3.out.trans hx6))) hf3 (by have := HNN.out; have := HFN.out; omega) (HM3.out.ext hx6))
    have HGC := hid hgc
    clear ho6 hcw6 hx6 hb6 hr6 hk6 hf3 hgc b4
    go_wp2_with fail
    refine KW.out.mono ?_
    rintro e w7 ⟨hres, hx7⟩
    have HX7 := hid hx7
    rcases hres with ⟨hkf, rfl⟩ | ⟨A7, c7, hkt, rfl, hs7⟩
    ·have HKF := hid (show knowF l f = false from by rw [← HKN.out, hkf]; simp)
     clear hx7 hkf KW b5
     go_wp2
     go_ret2
     exact ⟨.inl ⟨HKF.out, rfl⟩, HX1.out.trans (HX3.out.trans (HX6.out.trans HX7.out))⟩
    ·have HS7 := hid hs7
     have HKT := hid hkt
     have HB7 := hid (HB6.out.ext hx7)
     have e4 : w7.cell? ⟨wo.heap.size, 4, none⟩ = some (.slice Ac ca.len cac) := HB7.out.cell 4 _ (by rw [HCS.out]; rfl)
     have e5 : w7.cell? ⟨wo.heap.size, 5, none⟩ = some (.slice Ap pa.len cpa) := HB7.out.cell 5 _ (by rw [HCS.out]; rfl)
     have f4 := frz_of HB7.out 4
     have f5 := frz_of HB7.out 5
     clear hx7 hkt hs7 KW b5
     go_upto_region 23 with (fail)
     obtain ⟨w9, hw9⟩ : ∃ w9, w9 = (w7.setCell ⟨wo.heap.size, 4, none⟩ (.slice A6 ca.len cp6)).setCell ⟨wo.heap.size, 5, none⟩ (.slice A7 pa.len c7) := ⟨_, rfl⟩
     rw [← hw9]
     have hB9 : AtC 96 w9 wo.heap.size #[.int .i64 k, .string ⟨t.toArray⟩, .string ⟨nm'.toArray⟩, .string ⟨s.toArray⟩, .slice A6 ca.len cp6, .slice A7 pa.len c7] := by
      have q := HB7.out
      rw [HCS.out] at q
      rw [hw9]
      exact heap_setCell_same _ _ 5 _ _ _ (heap_setCell_same _ _ 4 _ _ _ q)
     have HE9 := hid (show Exc (fun b => b = wo.heap.size) w7 w9 from by rw [hw9]; exact (Exc.setCell (S := fun b => b = wo.heap.size) (p := ⟨wo.heap.size, 4, none⟩) rfl _).trans (Exc.setCell (S := fun b => b = wo.heap.size) (p := ⟨wo.heap.size, 5, none⟩) rfl _))
     have HX9 := hid (show Ext wo w9 from by rw [hw9]; exact ((HX3.out.trans (HX6.out.trans HX7.out)).setCell (p := ⟨wo.heap.size, 4, none⟩) (Nat.le_refl _) _).setCell (p := ⟨wo.heap.size, 5, none⟩) (Nat.le_refl _) _)
     have HBX := hid hB9
     have HOW := hid (own_ext HO.out HX9.out)
     have HBW := hid (Ext.size (HX1.out.trans HX9.out))
     clear hw9 hB9 e4 e5 f4 f5 hjI2
     refine rn23 (by kernel_rfl) HBX.out HOW.out (by omega) HBW.out ?_
     intro v8 w8 hown8 hgrow8 hwh8
     have HO8 := hid hown8
     have HG8 := hid hgrow8
     have HW8 := hid hwh8
     clear hown8 hgrow8 hwh8
     go_wp2
     refine ⟨⟨j + 1, g.app (.one k t nm' s (renF l ca) (renF l pa)), xs ++ [.int .i64 k, .string ⟨t.toArray⟩, .string ⟨nm'.toArray⟩, .string ⟨s.toArray⟩, .slice A6 ca.len cp6, .slice A7 pa.len c7], hjl, by go_num, by rw [F.app_len, HGL.out]; rfl, HO8.out, ?_, ?_, ?_, (HX1.out.trans (HX9.out.alloc _)).grown HG8.out (own_lt HO.out)⟩, by simp [intOf]; omega⟩
     ·have hlt1 : ∀ q, (Value.slice A1 j cp1).ownBlock = some q → q < wo.heap.size := fun q hq => own_ltH HO.out hq
      have hs3 := HSZ3.out
      have hsz6 := Ext.size HX6.out
      have hw1 := Ext.size HX1.out
      have hCS : CwS w9 (fun q => w.heap.size ≤ q ∧ some q ≠ (Value.slice A1 j cp1).ownBlock) (renF l ca) (.slice A6 ca.len cp6) := by
       rw [← HGE.out]
       have hcw := (FCw_exc (HE9.out) (S := fun b => b = wo.heap.size) (ok := fun q => w3.heap.size ≤ q) (ok' := fun q => w.heap.size ≤ q ∧ some q ≠ (Value.slice A1 j cp1).ownBlock) (fun q hq e => by omega) (fun q hq => ⟨by omega, fun e => by have := hlt1 q e.symm; omega⟩) gc).2 _ ((FCw_exc (Exc.of_ext (S := fun _ => False) HX7.out) (ok' := fun q => w3.heap.size ≤ q) (fun _ _ h => h) (fun q hq => hq.1) gc).2 _ HCW6.out)
       have ho9 : w9.ownsRow w3.heap.size 106 2 (.slice A6 ca.len cp6) gc.len ys := by
        rw [HGC.out]
        exact own_of (own_ext HO6.out HX7.out) (fun q hq => HE9.out.block q (own_ltH (own_ext HO6.out HX7.out) hq) (fun e => by have := ((HO6.out).lt q hq).1; omega))
       exact CwS_own ho9 hcw (fun q hq => ⟨by omega, fun e => by have := hlt1 q e.symm; omega⟩)
      have hPS : FwS w9 (fun q => w.heap.size ≤ q ∧ some q ≠ (Value.slice A1 j cp1).ownBlock) (renF l pa) (.slice A7 pa.len c7) :=
       HS7.out.exc HE9.out (fun q hq e => by omega) (fun q hq => ⟨by omega, fun e => by have := hlt1 q e.symm; omega⟩)
      have hone := Fw_one (k := k) (t := t) (n := nm') (s := s) hCS hPS
      refine (rn_exc HG8.out HW8.out _).1 _ ?_
      refine (FCw_app _ _ _ g).1 _ _ ((rn_ext (HX9.out.alloc _) g).1 _ HFW.out) ?_
      exact (rn_ext ((Ext.refl w9).alloc _) _).1 _ hone
     ·rw [← HREN.out, F.app_assoc, HNM.out]
      rfl
     ·rw [← HKN.out, HKT.out, HKC.out]
      have hh : (if 2 ≤ k ∧ k ≤ 9 then (lookP l n).isSome else true) = true := HKK3.out
      rw [hh]
      simp
   as_aux_lemma =>
   have hjI2 : (j2 : Int) < (ca.len : Int) := by omega
   obtain ⟨b', o', cc2, k', t', n', s', ca', pa', Ap', cp', hv', hbw', _, hdr', z0, z1, hPA'⟩ := (HCA.out.ext (HX1.out.trans HX3.out)).at_ hjl2
   injection hv' with hA' _ hcc'
   subst hA' hcc'
   have d0 := (Ext.cell (p := ⟨b', o' + j2 * 2, none⟩) hx6 hbw').trans z0
   have d1 := (Ext.cell (p := ⟨b', o' + j2 * 2 + 1, none⟩) hx6 hbw').trans z1
   obtain ⟨kd, d3, c3', hcb⟩ : ∃ kd d' c', casB kd d' c' [] ca = true := by
    rcases HSUB.out with ⟨h, _⟩ | ⟨_, h⟩
    ·subst h; exact absurd hjl2 (Nat.not_lt_zero _)
    ·exact h
   obtain ⟨e0, e1, hf3⟩ := cas_at28 ca j2 [] hcb hdr'
   subst e0 e1
   have hnn2 := fdrop_nodes ca j2
   rw [hdr', F.nodes] at hnn2
   rw [hdr', renF] at hr6
   rw [hdr', know_cons, if_neg (by decide)] at hk6
   obtain ⟨wc2, hwc2⟩ : ∃ wc2, wc2 = wq.alloc (.cells #[.string ⟨n'.toArray⟩, .slice Ap' pa'.len cp'] 106) := ⟨_, rfl⟩
   have hxc : Ext wq wc2 := by rw [hwc2]; exact (Ext.refl wq).alloc _
   have HBC := hid (show AtC 106 wc2 wq.heap.size #[.string ⟨n'.toArray⟩, .slice Ap' pa'.len cp'] from by rw [hwc2]; exact AtC.new wq _)
   have KW := hid (hN pa' (.slice Ap' pa'.len cp') ok d3 c3' false mb nm wc2 (by have := HNN.out; have := HND.out; omega) (hPA'.ext (hx6.trans hxc)) hf3 (by have := HNN.out; have := HFN.out; omega) (HM3.out.ext (hx6.trans hxc)))
   have HR6 := hid hr6
   have HK6 := hid hk6
   have HXC := hid hxc
   have HGC := hid hgc
   rw [hwc2] at KW
   clear ho6 hcw6 hx6 hb6 hr6 hk6 z0 z1 hcb hf3 hPA' hdr' hnn2 hbw' hxc hgc
   go_wp2_with fail
   refine KW.out.mono ?_
   rw [← hwc2]
   rintro e w7 ⟨hres, hx7⟩
   have HX7 := hid hx7
   rcases hres with ⟨hkf, rfl⟩ | ⟨A7, c7, hkt, rfl, hs7⟩
   ·have HKF := hid (show knowF l f = false from by
     rw [← HKN.out]
     have h1 := HK6.out
     rw [hkf] at h1
     rw [← h1]
     simp [knowF, usesF])
    clear hx7 hkf KW b4 d0 d1
    go_wp2
    go_ret2
    exact ⟨.inl ⟨HKF.out, rfl⟩, HX1.out.trans (HX3.out.trans (HX6.out.trans (HXC.out.trans HX7.out)))⟩
   ·have HS7 := hid hs7
    have HKT := hid hkt
    have e0 := (HBC.out.ext hx7).cell 0 _ rfl
    have HX67 := hid (HXC.out.trans hx7)
    clear hx7 hkt hs7 KW b4 d0 d1
    go_wp2_with (at_builtin; refine wpList_appN _ rfl _ _ 94 rfl w3.heap.size 106 i1 _ 2 40 Tryz.underlying94 hi1 hz3 hz4 hz5 rfl (by decide) _ _ _ rfl (own_ext HO6.out (HX67.out.alloc _)) ⟨w7.heap.size, 0, none⟩ 1 1 [.string ⟨n'.toArray⟩, .slice A7 pa'.len c7] rfl rfl (new_cells w7 #[.string ⟨n'.toArray⟩, .slice A7 pa'.len c7] 106) (by simp [Value.oneCell']) (by unfold maxLen; omega) (by omega) (by have := Ext.size (HX6.out.trans (HX67.out.alloc (.cells #[.string ⟨n'.toArray⟩, .slice A7 pa'.len c7] 106))); exact this) ?_; intro v8 w8 hown8 hgrow8 hwh8; have HO8 := hid hown8; have HG8 := hid hgrow8; have HW8 := hid hwh8; clear hown8 hgrow8 hwh8)
    refine ⟨⟨j2 + 1, gc.app (.one 0 t' n' s' .nil (renF l pa')), ys ++ [.string ⟨n'.toArray⟩, .slice A7 pa'.len c7], hjl2, by go_num, by rw [F.app_len, HGC.out]; rfl, HO8.out, ?_, ?_, ?_, (HX6.out.trans (HX67.out.alloc _)).grown HG8.out (own_lt HO6.out), (HB6.out.ext (HX67.out.alloc _)).grownA (own_ext HO6.out (HX67.out.alloc _)) HG8.out (by decide)⟩, by simp [intOf]; omega⟩
    ·refine (rn_exc HG8.out HW8.out _).2 _ ((FCw_app _ _ _ gc).2 _ _ ((rn_ext (HX67.out.alloc _) gc).2 _ HCW6.out) (Cw_one ?_))
     refine FwS.exc HS7.out (S := fun _ => False) (Exc.of_ext ((Ext.refl _).alloc _)) (fun _ _ h => h) (fun q hq => ⟨?_, fun e => ?_⟩)
     ·have h1 := Ext.size HX6.out
      have h2 := Ext.size HXC.out
      exact Nat.le_trans h1 (Nat.le_trans h2 hq)
     ·have h1 := own_ltH HO6.out e.symm
      have h2 := Ext.size HXC.out
      omega
    ·rw [← HR6.out, F.app_assoc]
     rfl
    ·rw [← HK6.out, HKT.out]
     simp [knowF, usesF]
theorem ren_all (l : List NmP) : ∀ N, RnH l N
 | 0 => fun f v ok d c pt mb n w h => absurd h (Nat.not_lt_zero _)
 | N + 1 => ren_step l N (ren_all l N)
end Go.Proofs.YtiijdojihleggaaGreatDoor
