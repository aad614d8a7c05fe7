import Derived.Test.YtljdlkonlnjadaaGreatDoorARMrg
import Derived.Test.YtljdlkonlnjadaaGreatDoorNXF
import Derived.Test.YtljdlkonlnjadaaGreatDoorNXC
import Derived.Outline
import Derived.Deep.RegionHeld3
import Derived.Test.YtljdlkonlnjadaaGreatDoorNX6
set_option maxRecDepth 100000
set_option linter.unusedSimpArgs false
set_option linter.unusedVariables false
open Go.Lib (hid)
namespace Go.Proofs.YtljdlkonlnjadaaGreatDoor
open Go.RowKit
theorem rfield_any (fb ob tb : ByteArray) (w : World) : Calls Tryz.prog 189 #[.string fb, .string ob, .string tb] w fun e w' => e = .returned (strv (fieldP fb.data.toList ob.data.toList tb.data.toList)) ∧ w = w' := by
 have hf : strv (fieldP fb.data.toList ob.data.toList tb.data.toList) = .string (bif ((!fb.toList == []) || (tb.toList == [])) then ob else tb) := by
  unfold fieldP
  rw [ByteArray.toList_eq, ByteArray.toList_eq]
  show strv (if ((!fb.data.toList == []) || (tb.data.toList == [])) = true then ob.data.toList else tb.data.toList) = _
  cases ((!fb.data.toList == []) || (tb.data.toList == [])) <;> rfl
 rw [hf]
 clear hf
 cases h1 : (fb.toList == []) <;> cases h2 : (tb.toList == [])
 all_goals simp only [Bool.not_true, Bool.not_false, Bool.or_true, Bool.or_false, Bool.true_or, Bool.false_or, cond_true, cond_false]
 all_goals have h3 := empty_eq h1
 all_goals have h4 := empty_eq h2
 all_goals go_enter Tryz.func189, Tryz.ntmps189
 all_goals go_wp2_with fail
 all_goals go_ret
 all_goals exact ⟨rfl, rfl⟩
theorem rproper_any (fb ob : ByteArray) (w : World) (h1 : fb.size ≤ 2000000) (h2 : ob.size ≤ 2000000) :
 Calls Tryz.prog 54 #[.agg #[.string fb, .string ob]] w fun e w' => e = .returned (.bool (aliB (fb, ob))) ∧ Ext w w' := by
 have hp1 := fun W => ris_any fb W h1
 have hp2 := fun W => ris_any ob W h2
 have hal : aliB (fb, ob) = (isP fb.data.toList && isP ob.data.toList && !(fb.toList == [117, 110, 100])) := by unfold aliB; rw [ByteArray.toList_eq]; rfl
 rw [hal]
 generalize isP fb.data.toList = b1 at hp1
 generalize isP ob.data.toList = b2 at hp2
 have HP1 := hid hp1
 have HP2 := hid hp2
 clear hp1 hp2 hal
 have k1 := (AtC.new w #[.string fb, .string ob] : AtC 103 _ _ _)
 have K1 := hid k1
 clear k1
 cases b1 with
 | false =>
   go_enter Tryz.func54, Tryz.ntmps54
   go_wp2_with fail
   refine (HP1.out _).mono ?_
   rintro e w2 ⟨rfl, hw2⟩
   have HW2 := hid (((Ext.refl w).alloc _).trans hw2)
   clear hw2
   go_wp2
   go_ret
   exact ⟨by simp, HW2.out⟩
 | true =>
   cases b2 with
   | false =>
     go_enter Tryz.func54, Tryz.ntmps54
     go_wp2_with fail
     refine (HP1.out _).mono ?_
     rintro e w2 ⟨rfl, hw2⟩
     have c1 := (K1.out.ext hw2).cell 1 _ rfl
     have HW2 := hid (((Ext.refl w).alloc (.cells #[.string fb, .string ob] 103)).trans hw2)
     clear hw2
     go_wp2_with fail
     refine (HP2.out _).mono ?_
     rintro e w3 ⟨rfl, hw3⟩
     have HW3 := hid (HW2.out.trans hw3)
     clear hw3
     go_wp2
     go_ret
     exact ⟨by simp, HW3.out⟩
   | true =>
     cases hq : (fb.toList == [117, 110, 100])
     all_goals
      go_enter Tryz.func54, Tryz.ntmps54
      go_wp2_with fail
      refine (HP1.out _).mono ?_
      rintro e w2 ⟨rfl, hw2⟩
      have c1 := (K1.out.ext hw2).cell 1 _ rfl
      have HW2 := hid (((Ext.refl w).alloc (.cells #[.string fb, .string ob] 103)).trans hw2)
      have HX2 := hid hw2
      clear hw2
      go_wp2_with fail
      refine (HP2.out _).mono ?_
      rintro e w3 ⟨rfl, hw3⟩
      have c0 := (K1.out.ext (HX2.out.trans hw3)).cell 0 _ rfl
      have HW3 := hid (HW2.out.trans hw3)
      clear hw3
      go_wp2
      go_ret
      exact ⟨by simp, HW3.out⟩
end Go.Proofs.YtljdlkonlnjadaaGreatDoor
namespace Go.Proofs.YtljdlkonlnjadaaGreatDoor
open Go.RowKit
def repR (r : RuleP) (t : TagP) : TagP × Int := if fitsP r t = true then (if 4 < (replP r t).vars.length then (TagP.zero, 6) else (replP r t, 0)) else (TagP.zero, 8)
def RetRep (w : World) (R : TagP × Int) (e : Ending) (w' : World) : Prop :=
 ∃ A n c, e = .returned (.tuple #[tagV R.1 A n c, .int .i64 R.2]) ∧ Sl w' A n (R.1.vars.map strv) ∧ n ≤ c ∧ Ext w w' ∧ ∀ ad, A = some ad → w.heap.size ≤ ad.block
def R5 (w3 : World) (v0 v1 v2 : Value) (vars : List (List UInt8)) (p : Value) (wx : World) : Prop :=
 ∃ g A n c, p = .pointer (some ⟨g, 0, none⟩) ∧ AtT 153 wx g v0 v1 v2 (.slice A n c) ∧ Sl wx A n (vars.map strv) ∧ n ≤ c ∧ Ext w3 wx ∧ w3.heap.size ≤ g ∧ (∀ ad, A = some ad → w3.heap.size ≤ ad.block) ∧ ∀ u, Sl (wx.setCell ⟨g, 0, none⟩ u) A n (vars.map strv)
theorem Sl.set_new {w : World} {A : Option Addr} {n : Nat} {xs : List Value} (h : Sl w A n xs) (o : Obj) (j : Nat) (u : Value) : Sl ((w.alloc o).setCell ⟨w.heap.size, j, none⟩ u) A n xs :=
 ⟨h.1, fun k x hx => by
  obtain ⟨ad, ha, hb, hc⟩ := h.2 k x hx
  refine ⟨ad, ha, by simp; omega, ?_⟩
  rw [World.cell?_setCell_other _ _ _ _ (by intro e; rw [← addr_block ad k, ← e] at hb; exact Nat.lt_irrefl _ hb), World.cell?_alloc_lt _ _ _ (by rw [addr_block]; exact hb)]
  exact hc⟩
theorem R5_a {w3 w6 : World} {v0 v1 v2 : Value} {vars : List (List UInt8)} {A6 : Option Addr} {n6 c6 : Nat} (hw6 : Ext w3.drew w6) (hs6 : Sl w6 A6 n6 (vars.map strv)) (hnc6 : n6 ≤ c6) (hf6 : ∀ ad, A6 = some ad → w3.drew.heap.size ≤ ad.block) :
 R5 w3 v0 v1 v2 vars (.pointer (some ⟨w6.heap.size, 0, none⟩)) (w6.alloc (.cells #[v0, v1, v2, .slice A6 n6 c6] 153)) :=
 ⟨w6.heap.size, A6, n6, c6, rfl, AtT.new w6, hs6.ext ((Ext.refl w6).alloc _), hnc6, ((Ext.refl w3).drew.trans hw6).alloc _, ((Ext.refl w3).drew.trans hw6).size, fun ad had => hf6 ad had, fun u => hs6.set_new _ 0 u⟩
theorem R5_b {w3 w6 : World} {v0 v1 v2 : Value} {vars : List (List UInt8)} {A6 : Option Addr} {n6 c6 : Nat} (hw6 : Ext ((w3.alloc (.cells #[.string ⟨#[]⟩, .string ⟨#[]⟩, .string ⟨#[]⟩, .slice none 0 0] 153)).drew) w6) (hs6 : Sl w6 A6 n6 (vars.map strv)) (hnc6 : n6 ≤ c6)
 (hf6 : ∀ ad, A6 = some ad → ((w3.alloc (.cells #[.string ⟨#[]⟩, .string ⟨#[]⟩, .string ⟨#[]⟩, .slice none 0 0] 153)).drew).heap.size ≤ ad.block) :
 R5 w3 v0 v1 v2 vars (.pointer (some ⟨w3.heap.size, 0, none⟩)) ((((w6.setCell ⟨w3.heap.size, 0, none⟩ v0).setCell ⟨w3.heap.size, 1, none⟩ v1).setCell ⟨w3.heap.size, 2, none⟩ v2).setCell ⟨w3.heap.size, 3, none⟩ (.slice A6 n6 c6)) := by
 have hat : AtT 153 w6 w3.heap.size (.string ⟨#[]⟩) (.string ⟨#[]⟩) (.string ⟨#[]⟩) (.slice none 0 0) := (show AtT 153 ((w3.alloc (.cells #[.string ⟨#[]⟩, .string ⟨#[]⟩, .string ⟨#[]⟩, .slice none 0 0] 153)).drew) w3.heap.size (.string ⟨#[]⟩) (.string ⟨#[]⟩) (.string ⟨#[]⟩) (.slice none 0 0) from AtT.new w3).ext hw6
 have hf : ∀ ad, A6 = some ad → w3.heap.size + 1 ≤ ad.block := fun ad had => by
  have h1 := hf6 ad had
  have e1 : ((w3.alloc (.cells #[.string ⟨#[]⟩, .string ⟨#[]⟩, .string ⟨#[]⟩, .slice none 0 0] 153)).drew).heap.size = w3.heap.size + 1 := by simp
  omega
 refine ⟨w3.heap.size, A6, n6, c6, rfl, set4 hat _ _ _ _, hs6.kept (kept_set4 w6 w3.heap.size _ _ _ _) (fun ad had h => ?_), hnc6, ((((((Ext.refl w3).alloc _).drew.trans hw6).setCell (Nat.le_refl _) _).setCell (Nat.le_refl _) _).setCell (Nat.le_refl _) _).setCell (Nat.le_refl _) _, Nat.le_refl _, fun ad had => ?_, fun u => ?_⟩
 ·injection h with h
  have h1 := hf ad had
  omega
 ·have h1 := hf ad had
  omega
 ·have ne : ∀ q, ∀ ad, A6 = some ad → ad.block ≠ (⟨w3.heap.size, q, none⟩ : Addr).block := fun q ad had => by
   have h1 := hf ad had
   show ad.block ≠ w3.heap.size
   omega
  exact ((((hs6.othr _ (ne _) _).othr _ (ne _) _).othr _ (ne _) _).othr _ (ne _) _).othr _ (ne _) _
set_option maxHeartbeats 4000000 in
theorem rrep_any (fb ob : ByteArray) (t : TagP) (A : Option Addr) (n c : Nat) (w : World) (h1 : fb.size ≤ 60000) (h2 : ob.size ≤ 60000) (hA : Sl w A n (t.vars.map strv)) (hn : n ≤ 60000) :
 Calls Tryz.prog 155 #[.agg #[.string fb, .string ob], tagV t A n c] w (RetRep w (repR (ruleOf (fb, ob)) t)) := by
 have hp1 := fun W => rparse_any fb W (by omega)
 have hp2 := fun W => rparse_any ob W (by omega)
 have htl1 := TL_parse fb.data.toList
 have htl2 := TL_parse ob.data.toList
 have hru : ruleOf (fb, ob) = ⟨(parseP EC fb.data.toList).1, (parseP EC ob.data.toList).1⟩ := rfl
 rw [hru]
 generalize parseP EC fb.data.toList = R1 at hp1 htl1 ⊢
 generalize parseP EC ob.data.toList = R2 at hp2 htl2 ⊢
 clear hru
 obtain ⟨f, e1⟩ := R1
 obtain ⟨o, e2⟩ := R2
 simp only at hp1 hp2 htl1 htl2 ⊢
 obtain ⟨l1, hl1, hl1'⟩ := strv_b f.lang
 obtain ⟨s1, hs1, hs1'⟩ := strv_b f.script
 obtain ⟨r1, hr1, hr1'⟩ := strv_b f.region
 obtain ⟨l2, hl2, hl2'⟩ := strv_b o.lang
 obtain ⟨s2, hs2, hs2'⟩ := strv_b o.script
 obtain ⟨r2, hr2, hr2'⟩ := strv_b o.region
 obtain ⟨l3, hl3, hl3'⟩ := strv_b t.lang
 obtain ⟨s3, hs3, hs3'⟩ := strv_b t.script
 obtain ⟨r3, hr3, hr3'⟩ := strv_b t.region
 have hfit := fun Af nf cf W hf hA' hnf => rfits_any ⟨f, o⟩ t Af A nf cf n c W hf hA' hn hnf
 have hmrg := fun Af nf cf Ao no co W hf ho hA' h1 h2 => rmerge_any f.vars o.vars t.vars Af Ao A nf cf no co n c W hf ho hA' h1 h2 hn
 have hf1 := fun W => rfield_any s1 s2 s3 W
 have hf2 := fun W => rfield_any r1 r2 r3 W
 obtain ⟨xS, hxS, hxS'⟩ := strv_b (fieldP s1.data.toList s2.data.toList s3.data.toList)
 obtain ⟨xR, hxR, hxR'⟩ := strv_b (fieldP r1.data.toList r2.data.toList r3.data.toList)
 rw [hxS] at hf1
 rw [hxR] at hf2
 have HF1 := hid hf1
 have HF2 := hid hf2
 have HXS := hid (And.intro hxS hxS')
 have HXR := hid (And.intro hxR hxR')
 clear hf1 hf2 hxS hxR hxS' hxR'
 unfold tagV at hp1 hp2 hfit ⊢
 simp only at hfit
 rw [hl1, hs1, hr1] at hp1 hfit
 rw [hl2, hs2, hr2] at hp2
 rw [hl3, hs3, hr3] at hfit ⊢
 have hn1 := fun Af nf (W : World) (h : Sl W Af nf (f.vars.map strv)) => n_le h htl1
 have hn2 := fun Af nf (W : World) (h : Sl W Af nf (o.vars.map strv)) => n_le h htl2
 have HP1 := hid hp1
 have HP2 := hid hp2
 have HM := hid hmrg
 have HN1 := hid hn1
 have HN2 := hid hn2
 have HA := hid hA
 have HB1 := hid (And.intro hl1' (And.intro hs1' hr1'))
 have HB2 := hid (And.intro hl2' (And.intro hs2' hr2'))
 have HB3 := hid (And.intro hl3' (And.intro hs3' hr3'))
 clear hp1 hp2 hmrg hn1 hn2 hA htl1 htl2 hl1 hs1 hr1 hl2 hs2 hr2 hl3 hs3 hr3 hl1' hs1' hr1' hl2' hs2' hr2' hl3' hs3' hr3'
 have k1 : AtC 103 (((w.alloc (.cells #[.string fb, .string ob] 103)).alloc (.cells #[.string l3, .string s3, .string r3, .slice A n c] 153)).alloc (.cells #[.string ⟨#[]⟩, .string ⟨#[]⟩, .string ⟨#[]⟩, .slice none 0 0] 153)) w.heap.size #[.string fb, .string ob] :=
  ((AtC.new w _).alloc _).alloc _
 have k2 : AtT 153 (((w.alloc (.cells #[.string fb, .string ob] 103)).alloc (.cells #[.string l3, .string s3, .string r3, .slice A n c] 153)).alloc (.cells #[.string ⟨#[]⟩, .string ⟨#[]⟩, .string ⟨#[]⟩, .slice none 0 0] 153)) (w.heap.size + 1) (.string l3) (.string s3) (.string r3) (.slice A n c) := by
  have h := (AtT.new (w.alloc (.cells #[.string fb, .string ob] 103)) : AtT 153 _ _ (.string l3) (.string s3) (.string r3) (.slice A n c)).ext ((Ext.refl _).alloc (.cells #[.string ⟨#[]⟩, .string ⟨#[]⟩, .string ⟨#[]⟩, .slice none 0 0] 153))
  rwa [show (w.alloc (.cells #[.string fb, .string ob] 103)).heap.size = w.heap.size + 1 from by simp] at h
 have k3 : AtT 153 (((w.alloc (.cells #[.string fb, .string ob] 103)).alloc (.cells #[.string l3, .string s3, .string r3, .slice A n c] 153)).alloc (.cells #[.string ⟨#[]⟩, .string ⟨#[]⟩, .string ⟨#[]⟩, .slice none 0 0] 153)) (w.heap.size + 1 + 1) (.string ⟨#[]⟩) (.string ⟨#[]⟩) (.string ⟨#[]⟩) (.slice none 0 0) := by
  have h := (AtT.new ((w.alloc (.cells #[.string fb, .string ob] 103)).alloc (.cells #[.string l3, .string s3, .string r3, .slice A n c] 153)) : AtT 153 _ _ (.string ⟨#[]⟩) (.string ⟨#[]⟩) (.string ⟨#[]⟩) (.slice none 0 0))
  rwa [show ((w.alloc (.cells #[.string fb, .string ob] 103)).alloc (.cells #[.string l3, .string s3, .string r3, .slice A n c] 153)).heap.size = w.heap.size + 1 + 1 from by simp] at h
 have k4 : Ext w (((w.alloc (.cells #[.string fb, .string ob] 103)).alloc (.cells #[.string l3, .string s3, .string r3, .slice A n c] 153)).alloc (.cells #[.string ⟨#[]⟩, .string ⟨#[]⟩, .string ⟨#[]⟩, .slice none 0 0] 153)) := (((Ext.refl w).alloc _).alloc _).alloc _
 cases hft : fitsP ⟨f, o⟩ t with
 | false =>
   rw [hft] at hfit
   have HFT := hid hfit
   have hR0 : repR ⟨f, o⟩ t = (TagP.zero, 8) := by unfold repR; rw [if_neg (by rw [hft]; simp)]
   rw [hR0]
   clear hft hfit hR0
   go_enter Tryz.func155, Tryz.ntmps155
   go_wp2_with fail
   generalize (((w.alloc (.cells #[.string fb, .string ob] 103)).alloc (.cells #[.string l3, .string s3, .string r3, .slice A n c] 153)).alloc (.cells #[.string ⟨#[]⟩, .string ⟨#[]⟩, .string ⟨#[]⟩, .slice none 0 0] 153)) = Wb at k1 k2 k3 k4 ⊢
   have K1 := hid k1
   have K2 := hid k2
   have K3 := hid k3
   have K4 := hid k4
   clear k1 k2 k3 k4
   refine (HP1.out Wb).mono ?_
   rintro e w1 ⟨A1, n1, c1, rfl, hs1, _, hw1⟩
   have c1' := (K1.out.ext hw1).cell 1 _ rfl
   have HX1 := hid (hw1.alloc (.cells #[.string l1, .string s1, .string r1, .slice A1 n1 c1] 153))
   have HA1 := hid (AtT.new w1 : AtT 153 (w1.alloc (.cells #[.string l1, .string s1, .string r1, .slice A1 n1 c1] 153)) w1.heap.size (.string l1) (.string s1) (.string r1) (.slice A1 n1 c1))
   have HS1 := hid (hs1.ext ((Ext.refl w1).alloc (.cells #[.string l1, .string s1, .string r1, .slice A1 n1 c1] 153)))
   have d1 := (K1.out.ext HX1.out).cell 1 _ rfl
   clear hs1 hw1
   go_wp2_with fail
   refine (HP2.out _).mono ?_
   rintro e w2 ⟨A2, n2, c2, rfl, hs2, _, hw2⟩
   have HX2 := hid (hw2.alloc (.cells #[.string l2, .string s2, .string r2, .slice A2 n2 c2] 153))
   have HA2 := hid (AtT.new w2 : AtT 153 (w2.alloc (.cells #[.string l2, .string s2, .string r2, .slice A2 n2 c2] 153)) w2.heap.size (.string l2) (.string s2) (.string r2) (.slice A2 n2 c2))
   have HS2 := hid (hs2.ext ((Ext.refl w2).alloc (.cells #[.string l2, .string s2, .string r2, .slice A2 n2 c2] 153)))
   obtain ⟨⟨p0, p1, p2, p3⟩, _⟩ := (HA1.out.ext HX2.out).cells
   obtain ⟨⟨q0, q1, q2, q3⟩, _⟩ := (K2.out.ext (HX1.out.trans HX2.out)).cells
   clear hs2 hw2 c1' d1
   go_wp2_with fail
   refine (HFT.out A1 n1 c1 _ (HS1.out.ext HX2.out) (HA.out.ext (K4.out.trans (HX1.out.trans HX2.out))) (HN1.out _ _ _ HS1.out)).mono ?_
   rintro e w3 ⟨rfl, hw3⟩
   have HW3 := hid (K4.out.trans ((HX1.out.trans HX2.out).trans hw3))
   obtain ⟨⟨z0, z1, z2, z3⟩, ⟨y0, y1, y2, y3⟩⟩ := (K3.out.ext ((HX1.out.trans HX2.out).trans hw3)).cells
   clear hw3 p0 p1 p2 p3 q0 q1 q2 q3
   go_wp2
   refine bodyPost_ret (v := .tuple #[.agg #[.string ⟨#[]⟩, .string ⟨#[]⟩, .string ⟨#[]⟩, .slice none 0 0], .int .i64 8]) ?_ rfl ⟨none, 0, 0, ?_, Sl.nil _ _, Nat.le_refl _, ?_, fun ad had => by cases had⟩
   ·simp [results, Tryz.results155, go_sem, z0, z1, z2, z3, y0, y1, y2, y3]
   ·rfl
   ·exact (((HW3.out.setCell (Nat.le_add_right _ 2) _).setCell (Nat.le_add_right _ 2) _).setCell (Nat.le_add_right _ 2) _).setCell (Nat.le_add_right _ 2) _
 | true =>
   rw [hft] at hfit
   have HFT := hid hfit
   have hRR : repR ⟨f, o⟩ t = if 4 < (varsP f.vars o.vars t.vars).length then (TagP.zero, 6) else (replP ⟨f, o⟩ t, 0) := by
    unfold repR
    rw [if_pos hft]
    rfl
   have hRL : replP ⟨f, o⟩ t = ⟨if ((l1.toList == [117, 110, 100]) && (l2.toList == [117, 110, 100])) = true then l3.data.toList else l2.data.toList, xS.data.toList, xR.data.toList, varsP f.vars o.vars t.vars⟩ := by
    unfold replP
    simp only
    rw [HXS.out.2, HXR.out.2, HB1.out.2.1, HB1.out.2.2, HB2.out.1, HB2.out.2.1, HB2.out.2.2, HB3.out.1, HB3.out.2.1, HB3.out.2.2, ByteArray.toList_eq, ByteArray.toList_eq, HB1.out.1, HB2.out.1]
    rfl
   rw [hRL] at hRR
   have HRR := hid hRR
   clear hft hfit hRR hRL
   go_enter Tryz.func155, Tryz.ntmps155
   go_wp2_with fail
   generalize (((w.alloc (.cells #[.string fb, .string ob] 103)).alloc (.cells #[.string l3, .string s3, .string r3, .slice A n c] 153)).alloc (.cells #[.string ⟨#[]⟩, .string ⟨#[]⟩, .string ⟨#[]⟩, .slice none 0 0] 153)) = Wb at k1 k2 k3 k4 ⊢
   have K1 := hid k1
   have K2 := hid k2
   have K3 := hid k3
   have K4 := hid k4
   clear k1 k2 k3 k4
   refine (HP1.out Wb).mono ?_
   rintro e w1 ⟨A1, n1, c1, rfl, hs1, _, hw1⟩
   have c1' := (K1.out.ext hw1).cell 1 _ rfl
   have HX1 := hid (hw1.alloc (.cells #[.string l1, .string s1, .string r1, .slice A1 n1 c1] 153))
   have HA1 := hid (AtT.new w1 : AtT 153 (w1.alloc (.cells #[.string l1, .string s1, .string r1, .slice A1 n1 c1] 153)) w1.heap.size (.string l1) (.string s1) (.string r1) (.slice A1 n1 c1))
   have HS1 := hid (hs1.ext ((Ext.refl w1).alloc (.cells #[.string l1, .string s1, .string r1, .slice A1 n1 c1] 153)))
   have d1 := (K1.out.ext HX1.out).cell 1 _ rfl
   clear hs1 hw1
   go_wp2_with fail
   refine (HP2.out _).mono ?_
   rintro e w2 ⟨A2, n2, c2, rfl, hs2, _, hw2⟩
   have HX2 := hid (hw2.alloc (.cells #[.string l2, .string s2, .string r2, .slice A2 n2 c2] 153))
   have HA2 := hid (AtT.new w2 : AtT 153 (w2.alloc (.cells #[.string l2, .string s2, .string r2, .slice A2 n2 c2] 153)) w2.heap.size (.string l2) (.string s2) (.string r2) (.slice A2 n2 c2))
   have HS2 := hid (hs2.ext ((Ext.refl w2).alloc (.cells #[.string l2, .string s2, .string r2, .slice A2 n2 c2] 153)))
   obtain ⟨⟨p0, p1, p2, p3⟩, _⟩ := (HA1.out.ext HX2.out).cells
   obtain ⟨⟨q0, q1, q2, q3⟩, _⟩ := (K2.out.ext (HX1.out.trans HX2.out)).cells
   clear hs2 hw2 c1' d1
   go_wp2_with fail
   refine (HFT.out A1 n1 c1 _ (HS1.out.ext HX2.out) (HA.out.ext (K4.out.trans (HX1.out.trans HX2.out))) (HN1.out _ _ _ HS1.out)).mono ?_
   rintro e w3 ⟨rfl, hw3⟩
   have HW3 := hid ((HX1.out.trans HX2.out).trans hw3)
   have HB4 := hid ((HA1.out.ext HX2.out).ext hw3)
   have HB5 := hid (HA2.out.ext hw3)
   have HS3 := hid ((HS1.out.ext HX2.out).ext hw3)
   have HS4 := hid (HS2.out.ext hw3)
   clear hw3 p0 p1 p2 p3 q0 q1 q2 q3
   have HK2 := hid (K2.out.ext HW3.out)
   have HMG := hid (fun W (h : Ext w3 W) => HM.out A1 n1 c1 A2 n2 c2 W (HS3.out.ext h) (HS4.out.ext h) (HA.out.ext ((K4.out.trans HW3.out).trans h)) (HN1.out _ _ _ HS3.out) (HN2.out _ _ _ HS4.out))
   go_upto_region 5 with (fail)
   go_cut [10] (R5 w3 (.string l2) (.string xS) (.string xR) (varsP f.vars o.vars t.vars))
   case first =>
    have HSW := hid (show ∀ X, Ext w3 X → (X.cell? ⟨w1.heap.size, 1, none⟩ = some (.string s1) ∧ X.cell? ⟨w1.heap.size, 2, none⟩ = some (.string r1) ∧ X.cell? ⟨w1.heap.size, 3, none⟩ = some (.slice A1 n1 c1) ∧
     X.cell? ⟨w2.heap.size, 0, none⟩ = some (.string l2) ∧ X.cell? ⟨w2.heap.size, 1, none⟩ = some (.string s2) ∧ X.cell? ⟨w2.heap.size, 2, none⟩ = some (.string r2) ∧ X.cell? ⟨w2.heap.size, 3, none⟩ = some (.slice A2 n2 c2) ∧
     X.cell? ⟨w.heap.size + 1, 1, none⟩ = some (.string s3) ∧ X.cell? ⟨w.heap.size + 1, 2, none⟩ = some (.string r3) ∧ X.cell? ⟨w.heap.size + 1, 3, none⟩ = some (.slice A n c)) from fun X h => by
     obtain ⟨⟨a0, a1, a2, a3⟩, _⟩ := (HB4.out.ext h).cells
     obtain ⟨⟨b0, b1, b2, b3⟩, _⟩ := (HB5.out.ext h).cells
     obtain ⟨⟨d0, d1, d2, d3⟩, _⟩ := (HK2.out.ext h).cells
     exact ⟨a1, a2, a3, b0, b1, b2, b3, d1, d2, d3⟩)
    obtain ⟨⟨a0, a1, a2, a3⟩, _⟩ := HB4.out.cells
    obtain ⟨⟨b0, b1, b2, b3⟩, _⟩ := HB5.out.cells
    obtain ⟨⟨d0, d1, d2, d3⟩, _⟩ := HK2.out.cells
    have hat : AtT 153 ((w3.alloc (.cells #[.string ⟨#[]⟩, .string ⟨#[]⟩, .string ⟨#[]⟩, .slice none 0 0] 153)).drew) w3.heap.size (.string ⟨#[]⟩) (.string ⟨#[]⟩) (.string ⟨#[]⟩) (.slice none 0 0) := AtT.new w3
    have hz0 : ∀ X, Ext ((w3.alloc (.cells #[.string ⟨#[]⟩, .string ⟨#[]⟩, .string ⟨#[]⟩, .slice none 0 0] 153)).drew) X → X.cell? ⟨w3.heap.size, 0, none⟩ = some (.string ⟨#[]⟩) := fun X h => ((hat.ext h).cells.1.1)
    have hy0 : ∀ X, Ext ((w3.alloc (.cells #[.string ⟨#[]⟩, .string ⟨#[]⟩, .string ⟨#[]⟩, .slice none 0 0] 153)).drew) X → X.frozen? ⟨w3.heap.size, 0, none⟩ = false := fun X h => ((hat.ext h).cells.2.1)
    have hz1 : ∀ X, Ext ((w3.alloc (.cells #[.string ⟨#[]⟩, .string ⟨#[]⟩, .string ⟨#[]⟩, .slice none 0 0] 153)).drew) X → X.cell? ⟨w3.heap.size, 1, none⟩ = some (.string ⟨#[]⟩) := fun X h => ((hat.ext h).cells.1.2.1)
    have hy1 : ∀ X, Ext ((w3.alloc (.cells #[.string ⟨#[]⟩, .string ⟨#[]⟩, .string ⟨#[]⟩, .slice none 0 0] 153)).drew) X → X.frozen? ⟨w3.heap.size, 1, none⟩ = false := fun X h => ((hat.ext h).cells.2.2.1)
    have hz2 : ∀ X, Ext ((w3.alloc (.cells #[.string ⟨#[]⟩, .string ⟨#[]⟩, .string ⟨#[]⟩, .slice none 0 0] 153)).drew) X → X.cell? ⟨w3.heap.size, 2, none⟩ = some (.string ⟨#[]⟩) := fun X h => ((hat.ext h).cells.1.2.2.1)
    have hy2 : ∀ X, Ext ((w3.alloc (.cells #[.string ⟨#[]⟩, .string ⟨#[]⟩, .string ⟨#[]⟩, .slice none 0 0] 153)).drew) X → X.frozen? ⟨w3.heap.size, 2, none⟩ = false := fun X h => ((hat.ext h).cells.2.2.2.1)
    have hz3 : ∀ X, Ext ((w3.alloc (.cells #[.string ⟨#[]⟩, .string ⟨#[]⟩, .string ⟨#[]⟩, .slice none 0 0] 153)).drew) X → X.cell? ⟨w3.heap.size, 3, none⟩ = some (.slice none 0 0) := fun X h => ((hat.ext h).cells.1.2.2.2)
    have hy3 : ∀ X, Ext ((w3.alloc (.cells #[.string ⟨#[]⟩, .string ⟨#[]⟩, .string ⟨#[]⟩, .slice none 0 0] 153)).drew) X → X.frozen? ⟨w3.heap.size, 3, none⟩ = false := fun X h => ((hat.ext h).cells.2.2.2.2)
    clear hat
    go_region_held3 (fun w' => w'.cell? ⟨w1.heap.size, 1, none⟩ = some (.string s1) ∧ w'.cell? ⟨w1.heap.size, 2, none⟩ = some (.string r1) ∧ w'.cell? ⟨w1.heap.size, 3, none⟩ = some (.slice A1 n1 c1) ∧
     w'.cell? ⟨w2.heap.size, 0, none⟩ = some (.string l2) ∧ w'.cell? ⟨w2.heap.size, 1, none⟩ = some (.string s2) ∧ w'.cell? ⟨w2.heap.size, 2, none⟩ = some (.string r2) ∧ w'.cell? ⟨w2.heap.size, 3, none⟩ = some (.slice A2 n2 c2) ∧
     w'.cell? ⟨w.heap.size + 1, 1, none⟩ = some (.string s3) ∧ w'.cell? ⟨w.heap.size + 1, 2, none⟩ = some (.string r3) ∧ w'.cell? ⟨w.heap.size + 1, 3, none⟩ = some (.slice A n c))
     (first | exact HSW.out _ ((Ext.refl w3).drew.trans hw6) | exact HSW.out _ (((Ext.refl w3).alloc _).drew.trans hw6) | exact HSW.out _ (((Ext.refl w3).drew.trans hw6).alloc _) | exact HSW.out _ ((Ext.refl w3).drew) | exact HSW.out _ (((Ext.refl w3).alloc _).drew) | exact HSW.out _ ((((((((Ext.refl w3).alloc _).drew.trans hw6).setCell (Nat.le_refl _) _).setCell (Nat.le_refl _) _).setCell (Nat.le_refl _) _).setCell (Nat.le_refl _) _)) | go_keep)
     (first
      | (go_at_call 189; (first | (with_reducible refine (HF1.out _).mono ?_) | (with_reducible refine (HF2.out _).mono ?_)); rintro e w' ⟨rfl, rfl⟩)
      | (go_at_call 190; refine (HMG.out _ ?_).mono ?_; (first | exact (Ext.refl w3).drew | exact ((Ext.refl w3).alloc _).drew); rintro e w6 ⟨A6, n6, c6, rfl, hs6, hnc6, hw6, hf6⟩))
    all_goals go_wp2
    all_goals go_meet
    ·exact R5_a hw6 hs6 hnc6 hf6
    all_goals exact R5_b hw6 hs6 hnc6 hf6
   case rest =>
    obtain ⟨g, A5, n5, c5, rfl, hat, hs5, hnc5, hw5, hg5, hf5, hu5⟩ := hcut
    obtain ⟨⟨a0, a1, a2, a3⟩, _⟩ := (HB4.out.ext hw5).cells
    obtain ⟨⟨b0, b1, b2, b3⟩, _⟩ := (HB5.out.ext hw5).cells
    obtain ⟨⟨d0, d1, d2, d3⟩, _⟩ := (HK2.out.ext hw5).cells
    obtain ⟨⟨p0, p1, p2, p3⟩, ⟨f0, f1, f2, f3⟩⟩ := hat.cells
    obtain ⟨⟨z0, z1, z2, z3⟩, ⟨y0, y1, y2, y3⟩⟩ := (K3.out.ext (HW3.out.trans hw5)).cells
    have hl5 : (varsP f.vars o.vars t.vars).length = n5 := by have := hs5.1; rwa [List.length_map] at this
    have hgl : w.heap.size + 1 + 1 < w3.heap.size := (K3.out.ext HW3.out).lt
    have hne : ¬ g = w.heap.size + 1 + 1 := by omega
    have hne2 : ¬ w.heap.size + 1 + 1 = g := by omega
    have HRR5 := HRR.out
    rw [hl5] at HRR5
    have HRR6 := hid HRR5
    have HS5 := hid hs5
    have HW5 := hid (K4.out.trans (HW3.out.trans hw5))
    have HF5 := hid hf5
    have HU5 := hid hu5
    have HGL := hid hgl
    have HZ := hid (Nat.le_trans (K4.out.trans HW3.out).size hg5)
    have HB := hid (Nat.le_trans (K4.out.trans HW3.out).size (Nat.le_refl _))
    clear hat hs5 hw5 hg5 hf5 hl5 hgl hu5 HRR5
    cases hb1 : (l1.toList == [117, 110, 100]) <;> cases hb2 : (l2.toList == [117, 110, 100])
    all_goals by_cases h4 : 4 < n5
    all_goals first | (have h4I : (4 : Int) < (n5 : Int) := by omega) | (have h4I : ¬ (4 : Int) < (n5 : Int) := by omega)
    all_goals go_wp2
    ·have HR7 := hid (HRR6.out.trans (if_pos h4))
     refine bodyPost_ret (v := .tuple #[.agg #[.string ⟨#[]⟩, .string ⟨#[]⟩, .string ⟨#[]⟩, .slice none 0 0], .int .i64 6]) ?_ rfl ?_
     ·simp [results, Tryz.results155, go_sem, z0, z1, z2, z3, y0, y1, y2, y3, hne, hne2]
     ·rw [HR7.out]
      exact ⟨none, 0, 0, rfl, Sl.nil _ _, Nat.le_refl _, (((HW5.out.setCell (Nat.le_add_right _ 2) _).setCell (Nat.le_add_right _ 2) _).setCell (Nat.le_add_right _ 2) _).setCell (Nat.le_add_right _ 2) _, fun ad had => by cases had⟩
    ·have HR7 := hid (HRR6.out.trans (if_neg h4))
     refine bodyPost_ret (v := .tuple #[.agg #[.string l2, .string xS, .string xR, .slice A5 n5 c5], .int .i64 0]) ?_ rfl ?_
     ·simp [results, Tryz.results155, go_sem, z0, z1, z2, z3, y0, y1, y2, y3, hne, hne2]
     ·rw [HR7.out]
      refine ⟨A5, n5, c5, ?_, ?_, hnc5, (((HW5.out.setCell (Nat.le_add_right _ 2) _).setCell (Nat.le_add_right _ 2) _).setCell (Nat.le_add_right _ 2) _).setCell (Nat.le_add_right _ 2) _, fun ad had => ?_⟩
      ·unfold tagV
       simp only [hb1, hb2, Bool.and_self, Bool.and_true, Bool.and_false, Bool.false_and, Bool.true_and, Bool.false_eq_true, if_false, if_true]
       rw [strv_mk, strv_mk, strv_mk]
      ·have ne : ∀ q, ∀ ad, A5 = some ad → ad.block ≠ (⟨w.heap.size + 1 + 1, q, none⟩ : Addr).block := fun q ad had => by
        have h1 := HF5.out ad had
        have h2 := HGL.out
        show ad.block ≠ w.heap.size + 1 + 1
        omega
       exact (((HS5.out.othr _ (ne _) _).othr _ (ne _) _).othr _ (ne _) _).othr _ (ne _) _
      ·have h1 := HF5.out ad had
       have h2 := HGL.out
       omega
    ·have HR7 := hid (HRR6.out.trans (if_pos h4))
     refine bodyPost_ret (v := .tuple #[.agg #[.string ⟨#[]⟩, .string ⟨#[]⟩, .string ⟨#[]⟩, .slice none 0 0], .int .i64 6]) ?_ rfl ?_
     ·simp [results, Tryz.results155, go_sem, z0, z1, z2, z3, y0, y1, y2, y3, hne, hne2]
     ·rw [HR7.out]
      exact ⟨none, 0, 0, rfl, Sl.nil _ _, Nat.le_refl _, (((HW5.out.setCell (Nat.le_add_right _ 2) _).setCell (Nat.le_add_right _ 2) _).setCell (Nat.le_add_right _ 2) _).setCell (Nat.le_add_right _ 2) _, fun ad had => by cases had⟩
    ·have HR7 := hid (HRR6.out.trans (if_neg h4))
     refine bodyPost_ret (v := .tuple #[.agg #[.string l2, .string xS, .string xR, .slice A5 n5 c5], .int .i64 0]) ?_ rfl ?_
     ·simp [results, Tryz.results155, go_sem, z0, z1, z2, z3, y0, y1, y2, y3, hne, hne2]
     ·rw [HR7.out]
      refine ⟨A5, n5, c5, ?_, ?_, hnc5, (((HW5.out.setCell (Nat.le_add_right _ 2) _).setCell (Nat.le_add_right _ 2) _).setCell (Nat.le_add_right _ 2) _).setCell (Nat.le_add_right _ 2) _, fun ad had => ?_⟩
      ·unfold tagV
       simp only [hb1, hb2, Bool.and_self, Bool.and_true, Bool.and_false, Bool.false_and, Bool.true_and, Bool.false_eq_true, if_false, if_true]
       rw [strv_mk, strv_mk, strv_mk]
      ·have ne : ∀ q, ∀ ad, A5 = some ad → ad.block ≠ (⟨w.heap.size + 1 + 1, q, none⟩ : Addr).block := fun q ad had => by
        have h1 := HF5.out ad had
        have h2 := HGL.out
        show ad.block ≠ w.heap.size + 1 + 1
        omega
       exact (((HS5.out.othr _ (ne _) _).othr _ (ne _) _).othr _ (ne _) _).othr _ (ne _) _
      ·have h1 := HF5.out ad had
       have h2 := HGL.out
       omega
    ·have HR7 := hid (HRR6.out.trans (if_pos h4))
     refine bodyPost_ret (v := .tuple #[.agg #[.string ⟨#[]⟩, .string ⟨#[]⟩, .string ⟨#[]⟩, .slice none 0 0], .int .i64 6]) ?_ rfl ?_
     ·simp [results, Tryz.results155, go_sem, z0, z1, z2, z3, y0, y1, y2, y3, hne, hne2]
     ·rw [HR7.out]
      exact ⟨none, 0, 0, rfl, Sl.nil _ _, Nat.le_refl _, (((HW5.out.setCell (Nat.le_add_right _ 2) _).setCell (Nat.le_add_right _ 2) _).setCell (Nat.le_add_right _ 2) _).setCell (Nat.le_add_right _ 2) _, fun ad had => by cases had⟩
    ·have HR7 := hid (HRR6.out.trans (if_neg h4))
     refine bodyPost_ret (v := .tuple #[.agg #[.string l2, .string xS, .string xR, .slice A5 n5 c5], .int .i64 0]) ?_ rfl ?_
     ·simp [results, Tryz.results155, go_sem, z0, z1, z2, z3, y0, y1, y2, y3, hne, hne2]
     ·rw [HR7.out]
      refine ⟨A5, n5, c5, ?_, ?_, hnc5, (((HW5.out.setCell (Nat.le_add_right _ 2) _).setCell (Nat.le_add_right _ 2) _).setCell (Nat.le_add_right _ 2) _).setCell (Nat.le_add_right _ 2) _, fun ad had => ?_⟩
      ·unfold tagV
       simp only [hb1, hb2, Bool.and_self, Bool.and_true, Bool.and_false, Bool.false_and, Bool.true_and, Bool.false_eq_true, if_false, if_true]
       rw [strv_mk, strv_mk, strv_mk]
      ·have ne : ∀ q, ∀ ad, A5 = some ad → ad.block ≠ (⟨w.heap.size + 1 + 1, q, none⟩ : Addr).block := fun q ad had => by
        have h1 := HF5.out ad had
        have h2 := HGL.out
        show ad.block ≠ w.heap.size + 1 + 1
        omega
       exact (((HS5.out.othr _ (ne _) _).othr _ (ne _) _).othr _ (ne _) _).othr _ (ne _) _
      ·have h1 := HF5.out ad had
       have h2 := HGL.out
       omega
    ·have HR7 := hid (HRR6.out.trans (if_pos h4))
     refine bodyPost_ret (v := .tuple #[.agg #[.string ⟨#[]⟩, .string ⟨#[]⟩, .string ⟨#[]⟩, .slice none 0 0], .int .i64 6]) ?_ rfl ?_
     ·simp [results, Tryz.results155, go_sem, z0, z1, z2, z3, y0, y1, y2, y3, hne, hne2]
     ·rw [HR7.out]
      exact ⟨none, 0, 0, rfl, Sl.nil _ _, Nat.le_refl _, ((((HW5.out.setCell HZ.out _).setCell (Nat.le_add_right _ 2) _).setCell (Nat.le_add_right _ 2) _).setCell (Nat.le_add_right _ 2) _).setCell (Nat.le_add_right _ 2) _, fun ad had => by cases had⟩
    ·have HR7 := hid (HRR6.out.trans (if_neg h4))
     refine bodyPost_ret (v := .tuple #[.agg #[.string l3, .string xS, .string xR, .slice A5 n5 c5], .int .i64 0]) ?_ rfl ?_
     ·simp [results, Tryz.results155, go_sem, z0, z1, z2, z3, y0, y1, y2, y3, hne, hne2]
     ·rw [HR7.out]
      refine ⟨A5, n5, c5, ?_, ?_, hnc5, ((((HW5.out.setCell HZ.out _).setCell (Nat.le_add_right _ 2) _).setCell (Nat.le_add_right _ 2) _).setCell (Nat.le_add_right _ 2) _).setCell (Nat.le_add_right _ 2) _, fun ad had => ?_⟩
      ·unfold tagV
       simp only [hb1, hb2, Bool.and_self, Bool.and_true, Bool.and_false, Bool.false_and, Bool.true_and, Bool.false_eq_true, if_false, if_true]
       rw [strv_mk, strv_mk, strv_mk]
      ·have ne : ∀ q, ∀ ad, A5 = some ad → ad.block ≠ (⟨w.heap.size + 1 + 1, q, none⟩ : Addr).block := fun q ad had => by
        have h1 := HF5.out ad had
        have h2 := HGL.out
        show ad.block ≠ w.heap.size + 1 + 1
        omega
       exact ((((HU5.out (.string l3)).othr _ (ne _) _).othr _ (ne _) _).othr _ (ne _) _).othr _ (ne _) _
      ·have h1 := HF5.out ad had
       have h2 := HGL.out
       omega
end Go.Proofs.YtljdlkonlnjadaaGreatDoor
namespace Go.Proofs.YtljdlkonlnjadaaGreatDoor
open Go.RowKit
def rstepR (o : Option TagP) (t : TagP) : TagP × Bool × Int := match o with
 | some u => if 4 < u.vars.length then (TagP.zero, false, 6) else (u, true, 0)
 | none => (t, false, 0)
def RetRStep (w : World) (R : TagP × Bool × Int) (e : Ending) (w' : World) : Prop :=
 ∃ A n c, e = .returned (.tuple #[tagV R.1 A n c, .bool R.2.1, .int .i64 R.2.2]) ∧ Sl w' A n (R.1.vars.map strv) ∧ Ext w w' ∧ (R.2.1 = true → ∀ ad, A = some ad → w.heap.size ≤ ad.block)
def RSInv (Wb : World) (L : List RuleP) (t : TagP) (n : Nat) (i : Value) (wr : World) : Prop :=
 ∃ k : Nat, k ≤ n ∧ i = .int .i64 k ∧ stepP (L.take k) t = none ∧ Ext Wb wr
def RS4 (w3 : World) (v0 v1 v2 : Value) (vars : List (List UInt8)) (code : Int) (p e : Value) (wx : World) : Prop := e = .int .i64 code ∧ R5 w3 v0 v1 v2 vars p wx
theorem stp_next {L : List RuleP} {t : TagP} {k : Nat} {x : RuleP} (hx : L[k]? = some x) (h : stepP (L.take k) t = none) (h2 : (fitsP x t && !eqT (replP x t) t) = false) : stepP (L.take (k + 1)) t = none := by
 rw [take_next hx, stepP_app, h]
 simp only [stepP]
 rw [h2]
 rfl
theorem stp_hit {L : List RuleP} {t : TagP} {k : Nat} {x : RuleP} (hx : L[k]? = some x) (h : stepP (L.take k) t = none) (h2 : (fitsP x t && !eqT (replP x t) t) = true) : stepP L t = some (replP x t) := by
 have e : L = L.take k ++ (x :: L.drop (k + 1)) := by
  obtain ⟨hk, hx'⟩ := List.getElem?_eq_some_iff.1 hx
  rw [← hx', ← List.drop_eq_getElem_cons hk, List.take_append_drop]
 rw [e, stepP_app, h]
 simp only [stepP]
 rw [h2]
 rfl
theorem eqT_len {t u : TagP} (ht : validP t = true) (h4 : 4 < u.vars.length) : eqT u t = false := by
 rw [← Bool.not_eq_true, eqT_iff]
 rintro rfl
 have := (valid_parts ht).2.2.2.2.2.2
 omega
theorem eqP_comm (t u : TagP) : eqP t u = eqT u t := by
 rw [Bool.eq_iff_iff, eqT_iff]
 have h := eqT_iff t u
 unfold eqT at h
 unfold eqP
 rw [h]
 exact ⟨fun h => h.symm, fun h => h.symm⟩
set_option maxHeartbeats 4000000 in
theorem rstep_any (l : List Ali) (t : TagP) (A B : Option Addr) (n c m d : Nat) (w : World) (hR : Als w A n l) (hB : Sl w B m (t.vars.map strv)) (hok : l.all aliB = true) (ht : validP t = true) (hn : n ≤ 100000) (hz : ∀ a ∈ l, a.1.size ≤ 60000 ∧ a.2.size ≤ 60000) :
 Calls Tryz.prog 99 #[.slice A n c, tagV t B m d] w (RetRStep w (rstepR (stepP (l.map ruleOf) t) t)) := by
 have hl := hR.len
 have hmn : m ≤ 60000 := n_le hB (TL_of ht)
 have heq := fun u A' n' c' W h1 h2 h3 => requal_any t u B A' m d n' c' W h1 h2 hmn h3
 have hrep := fun fb ob W h1 h2 (hB : Sl W B m (t.vars.map strv)) => rrep_any fb ob t B m d W h1 h2 hB hmn
 obtain ⟨lb, hlb, _⟩ := strv_b t.lang
 obtain ⟨sb, hsb, _⟩ := strv_b t.script
 obtain ⟨rb, hrb, _⟩ := strv_b t.region
 unfold tagV at hrep heq
 rw [hlb, hsb, hrb] at hrep heq
 have htv : tagV t B m d = .agg #[.string lb, .string sb, .string rb, .slice B m d] := by unfold tagV; rw [hlb, hsb, hrb]
 have HTV := hid htv
 rw [htv]
 have HR := hid hR
 have HB := hid hB
 have HOK := hid hok
 have HL := hid hl
 have HZ := hid hz
 have HREP := hid hrep
 have HEQ := hid heq
 have HT := hid ht
 clear hR hB hok hl hrep heq hlb hsb hrb htv hz ht
 go_enter Tryz.func99, Tryz.ntmps99
 go_wp2_with fail
 have k1 : AtT 153 ((w.alloc (.cells #[.string lb, .string sb, .string rb, .slice B m d] 153)).alloc (.cells #[.string ⟨#[]⟩, .string ⟨#[]⟩, .string ⟨#[]⟩, .slice none 0 0] 153)) w.heap.size (.string lb) (.string sb) (.string rb) (.slice B m d) :=
  (AtT.new w).ext ((Ext.refl _).alloc _)
 have k2 : AtT 153 ((w.alloc (.cells #[.string lb, .string sb, .string rb, .slice B m d] 153)).alloc (.cells #[.string ⟨#[]⟩, .string ⟨#[]⟩, .string ⟨#[]⟩, .slice none 0 0] 153)) (w.heap.size + 1) (.string ⟨#[]⟩) (.string ⟨#[]⟩) (.string ⟨#[]⟩) (.slice none 0 0) := by
  have h := (AtT.new (w.alloc (.cells #[.string lb, .string sb, .string rb, .slice B m d] 153)) : AtT 153 _ _ (.string ⟨#[]⟩) (.string ⟨#[]⟩) (.string ⟨#[]⟩) (.slice none 0 0))
  rwa [show (w.alloc (.cells #[.string lb, .string sb, .string rb, .slice B m d] 153)).heap.size = w.heap.size + 1 from by simp] at h
 have k3 : Ext w ((w.alloc (.cells #[.string lb, .string sb, .string rb, .slice B m d] 153)).alloc (.cells #[.string ⟨#[]⟩, .string ⟨#[]⟩, .string ⟨#[]⟩, .slice none 0 0] 153)) := ((Ext.refl w).alloc _).alloc _
 generalize ((w.alloc (.cells #[.string lb, .string sb, .string rb, .slice B m d] 153)).alloc (.cells #[.string ⟨#[]⟩, .string ⟨#[]⟩, .string ⟨#[]⟩, .slice none 0 0] 153)) = Wb at k1 k2 k3 ⊢
 have K1 := hid k1
 have K2 := hid k2
 have K3 := hid k3
 clear k1 k2 k3
 go_loopw [7] (RSInv Wb (l.map ruleOf) t n) (fun i _ => n - (intOf i).toNat)
 case atStart => exact ⟨0, Nat.zero_le _, rfl, rfl, Ext.refl _⟩
 case round =>
  obtain ⟨k, hk, rfl, hst, hw⟩ := hrel
  have HST := hid hst
  have HW := hid hw
  obtain ⟨⟨p0, p1, p2, p3⟩, _⟩ := (K1.out.ext hw).cells
  clear hst hw
  by_cases hkn : k < n
  ·obtain ⟨⟨fb, ob⟩, hx⟩ : ∃ x, l[k]? = some x := ⟨_, List.getElem?_eq_getElem (by have := HL.out; omega)⟩
   have hxm := List.mem_of_getElem? hx
   obtain ⟨b, o, rfl, hb, c0, c1'⟩ := (HR.out.ext (K3.out.trans HW.out)).at2 hx
   simp only at c0 c1'
   obtain ⟨z1, z2⟩ := HZ.out _ hxm
   have hali := List.all_eq_true.1 HOK.out _ hxm
   have hokx := ali_ok hali
   have hrp := fun W (h : Ext w W) => HREP.out fb ob W z1 z2 (HB.out.ext h)
   have hLx : (l.map ruleOf)[k]? = some (ruleOf (fb, ob)) := by rw [List.getElem?_map, hx]; rfl
   have HNX := hid (stp_next hLx HST.out)
   have HHT := hid (stp_hit hLx HST.out)
   have HVU := hid (fun h4 => repl_valid hokx HT.out h4)
   clear hx hxm hali hokx hLx z1 z2
   generalize ruleOf (fb, ob) = x at hrp HNX HHT HVU
   obtain ⟨RP, hRP⟩ : ∃ R, R = repR x t := ⟨_, rfl⟩
   rw [← hRP] at hrp
   obtain ⟨u, code⟩ := RP
   obtain ⟨ul, hul, _⟩ := strv_b u.lang
   obtain ⟨us, hus, _⟩ := strv_b u.script
   obtain ⟨ur, hur, _⟩ := strv_b u.region
   unfold RetRep tagV at hrp
   simp only at hrp
   rw [hul, hus, hur] at hrp
   have HRP := hid hrp
   have HRR := hid hRP
   have HU := hid (And.intro hul (And.intro hus hur))
   have HSW := hid (show ∀ X, Ext wr X → (X.cell? ⟨b, o + k * 2, none⟩ = some (.string fb) ∧ X.cell? ⟨b, o + k * 2 + 1, none⟩ = some (.string ob) ∧
    X.cell? ⟨w.heap.size, 0, none⟩ = some (.string lb) ∧ X.cell? ⟨w.heap.size, 1, none⟩ = some (.string sb) ∧ X.cell? ⟨w.heap.size, 2, none⟩ = some (.string rb) ∧ X.cell? ⟨w.heap.size, 3, none⟩ = some (.slice B m d)) from fun X h => by
    obtain ⟨⟨a0, a1, a2, a3⟩, _⟩ := (K1.out.ext (HW.out.trans h)).cells
    exact ⟨(h.cell hb).trans c0, (h.cell hb).trans c1', a0, a1, a2, a3⟩)
   clear hrp hRP hul hus hur
   go_upto_region 4 with (fail)
   go_cut [8, 9] (RS4 wr (.string ul) (.string us) (.string ur) u.vars code)
   case first =>
    have hat : AtT 153 ((wr.alloc (.cells #[.string ⟨#[]⟩, .string ⟨#[]⟩, .string ⟨#[]⟩, .slice none 0 0] 153)).drew) wr.heap.size (.string ⟨#[]⟩) (.string ⟨#[]⟩) (.string ⟨#[]⟩) (.slice none 0 0) := AtT.new wr
    have hz0 : ∀ X, Ext ((wr.alloc (.cells #[.string ⟨#[]⟩, .string ⟨#[]⟩, .string ⟨#[]⟩, .slice none 0 0] 153)).drew) X → X.cell? ⟨wr.heap.size, 0, none⟩ = some (.string ⟨#[]⟩) := fun X h => ((hat.ext h).cells.1.1)
    have hy0 : ∀ X, Ext ((wr.alloc (.cells #[.string ⟨#[]⟩, .string ⟨#[]⟩, .string ⟨#[]⟩, .slice none 0 0] 153)).drew) X → X.frozen? ⟨wr.heap.size, 0, none⟩ = false := fun X h => ((hat.ext h).cells.2.1)
    have hz1 : ∀ X, Ext ((wr.alloc (.cells #[.string ⟨#[]⟩, .string ⟨#[]⟩, .string ⟨#[]⟩, .slice none 0 0] 153)).drew) X → X.cell? ⟨wr.heap.size, 1, none⟩ = some (.string ⟨#[]⟩) := fun X h => ((hat.ext h).cells.1.2.1)
    have hy1 : ∀ X, Ext ((wr.alloc (.cells #[.string ⟨#[]⟩, .string ⟨#[]⟩, .string ⟨#[]⟩, .slice none 0 0] 153)).drew) X → X.frozen? ⟨wr.heap.size, 1, none⟩ = false := fun X h => ((hat.ext h).cells.2.2.1)
    have hz2 : ∀ X, Ext ((wr.alloc (.cells #[.string ⟨#[]⟩, .string ⟨#[]⟩, .string ⟨#[]⟩, .slice none 0 0] 153)).drew) X → X.cell? ⟨wr.heap.size, 2, none⟩ = some (.string ⟨#[]⟩) := fun X h => ((hat.ext h).cells.1.2.2.1)
    have hy2 : ∀ X, Ext ((wr.alloc (.cells #[.string ⟨#[]⟩, .string ⟨#[]⟩, .string ⟨#[]⟩, .slice none 0 0] 153)).drew) X → X.frozen? ⟨wr.heap.size, 2, none⟩ = false := fun X h => ((hat.ext h).cells.2.2.2.1)
    have hz3 : ∀ X, Ext ((wr.alloc (.cells #[.string ⟨#[]⟩, .string ⟨#[]⟩, .string ⟨#[]⟩, .slice none 0 0] 153)).drew) X → X.cell? ⟨wr.heap.size, 3, none⟩ = some (.slice none 0 0) := fun X h => ((hat.ext h).cells.1.2.2.2)
    have hy3 : ∀ X, Ext ((wr.alloc (.cells #[.string ⟨#[]⟩, .string ⟨#[]⟩, .string ⟨#[]⟩, .slice none 0 0] 153)).drew) X → X.frozen? ⟨wr.heap.size, 3, none⟩ = false := fun X h => ((hat.ext h).cells.2.2.2.2)
    clear hat
    go_region_held3 (fun w' => w'.cell? ⟨b, o + k * 2, none⟩ = some (.string fb) ∧ w'.cell? ⟨b, o + k * 2 + 1, none⟩ = some (.string ob) ∧
     w'.cell? ⟨w.heap.size, 0, none⟩ = some (.string lb) ∧ w'.cell? ⟨w.heap.size, 1, none⟩ = some (.string sb) ∧ w'.cell? ⟨w.heap.size, 2, none⟩ = some (.string rb) ∧ w'.cell? ⟨w.heap.size, 3, none⟩ = some (.slice B m d))
     (first | exact HSW.out _ ((Ext.refl wr).drew.trans hw6) | exact HSW.out _ (((Ext.refl wr).alloc _).drew.trans hw6) | exact HSW.out _ (((Ext.refl wr).drew.trans hw6).alloc _) | exact HSW.out _ ((Ext.refl wr).drew) | exact HSW.out _ (((Ext.refl wr).alloc _).drew) | exact HSW.out _ ((((((((Ext.refl wr).alloc _).drew.trans hw6).setCell (Nat.le_refl _) _).setCell (Nat.le_refl _) _).setCell (Nat.le_refl _) _).setCell (Nat.le_refl _) _)) | go_keep)
     (first
      | (go_at_call 155; refine (HRP.out _ ?_).mono ?_; (first | exact ((K3.out.trans HW.out).drew) | exact (((K3.out.trans HW.out).alloc _).drew)); rintro e w6 ⟨A6, n6, c6, rfl, hs6, hnc6, hw6, hf6⟩)
      | fail)
    all_goals go_wp2
    all_goals go_meet
    ·exact ⟨rfl, R5_a hw6 hs6 hnc6 hf6⟩
    all_goals exact ⟨rfl, R5_b hw6 hs6 hnc6 hf6⟩
   case rest =>
    obtain ⟨rfl, g, A5, n5, c5, rfl, hat, hs5, hnc5, hw5, hg5, hf5, _⟩ := hcut
    obtain ⟨⟨q0, q1, q2, q3⟩, _⟩ := hat.cells
    have HAT := hid hat
    have HS5 := hid hs5
    have HW5 := hid (HW.out.trans hw5)
    have HX5 := hid hw5
    have HF5 := hid hf5
    clear p0 p1 p2 p3
    obtain ⟨⟨p0, p1, p2, p3⟩, _⟩ := (K1.out.ext HW5.out).cells
    obtain ⟨⟨r0, r1, r2, r3⟩, ⟨f0, f1, f2, f3⟩⟩ := (K2.out.ext HW5.out).cells
    clear hat hs5 hw5 hf5 c0 c1'
    cases hft : fitsP x t with
    | false =>
      have hR : repR x t = (TagP.zero, 8) := by unfold repR; rw [if_neg (by rw [hft]; simp)]
      have hc : code = 8 := congrArg Prod.snd (HRR.out.trans hR)
      subst hc
      have HN := hid (HNX.out (by rw [hft]; rfl))
      clear hR hft
      go_wp2
      exact ⟨⟨k + 1, by omega, by go_num, HN.out, HW5.out⟩, by simp [intOf]; omega⟩
    | true =>
      by_cases h4 : 4 < (replP x t).vars.length
      ·have hR : repR x t = (TagP.zero, 6) := by unfold repR; rw [if_pos hft, if_pos h4]
       have hc : code = 6 := congrArg Prod.snd (HRR.out.trans hR)
       subst hc
       have HH := hid (show rstepR (stepP (l.map ruleOf) t) t = (TagP.zero, false, 6) from by
        rw [HHT.out (by rw [hft, eqT_len HT.out h4]; rfl)]
        unfold rstepR
        simp only
        rw [if_pos h4])
       clear hR hft h4
       go_wp2
       refine bodyPost_ret (v := .tuple #[.agg #[.string ⟨#[]⟩, .string ⟨#[]⟩, .string ⟨#[]⟩, .slice none 0 0], .bool false, .int .i64 6]) ?_ rfl ?_
       ·simp [results, Tryz.results99, go_sem, r0, r1, r2, r3, f0, f1, f2, f3]
       ·rw [HH.out]
        exact ⟨none, 0, 0, rfl, Sl.nil _ _, (((((K3.out.trans HW5.out).setCell (Nat.le_succ _) _).setCell (Nat.le_succ _) _).setCell (Nat.le_succ _) _).setCell (Nat.le_succ _) _), fun h => by cases h⟩
      ·have hR : repR x t = (replP x t, 0) := by unfold repR; rw [if_pos hft, if_neg h4]
       have hR2 := HRR.out.trans hR
       have hc : code = 0 := congrArg Prod.snd hR2
       have hu : u = replP x t := congrArg Prod.fst hR2
       subst hc
       rw [← hu] at HNX HHT HVU h4
       have hlen : n5 = u.vars.length := by have := HS5.out.1; rw [List.length_map] at this; exact this.symm
       have heu := fun W h1 h2 => HEQ.out u A5 n5 c5 W h1 h2 (by omega)
       rw [HU.out.1, HU.out.2.1, HU.out.2.2] at heu
       have HEU := hid heu
       clear hR hR2 hu heu hlen
       cases hq : eqP t u with
       | true =>
         have hq2 : eqT u t = true := by rw [← eqP_comm]; exact hq
         have HN := hid (HNX.out (by rw [hft, hq2]; rfl))
         have heu := HEU.out
         rw [hq] at heu
         have HEV := hid heu
         clear heu hq hq2 hft h4
         go_wp2_with (go_at_call 156; with_reducible refine (HEV.out _ (HB.out.ext (K3.out.trans HW5.out)) HS5.out).mono ?_; rintro e w7 ⟨rfl, hw7⟩; have HW7 := hid hw7; clear hw7)
         exact ⟨⟨k + 1, by omega, by go_num, HN.out, HW5.out.trans HW7.out⟩, by simp [intOf]; omega⟩
       | false =>
         have hq2 : eqT u t = false := by rw [← eqP_comm]; exact hq
         have HH := hid (show rstepR (stepP (l.map ruleOf) t) t = (u, true, 0) from by
          rw [HHT.out (by rw [hft, hq2]; rfl)]
          unfold rstepR
          simp only
          rw [if_neg h4])
         have heu := HEU.out
         rw [hq] at heu
         have HEV := hid heu
         clear heu hq hq2 hft h4
         go_wp2_with (go_at_call 156; with_reducible refine (HEV.out _ (HB.out.ext (K3.out.trans HW5.out)) HS5.out).mono ?_; rintro e w7 ⟨rfl, hw7⟩; obtain ⟨⟨x0, x1, x2, x3⟩, _⟩ := (HAT.out.ext hw7).cells; obtain ⟨⟨s0, s1, s2, s3⟩, ⟨g0, g1, g2, g3⟩⟩ := (K2.out.ext (HW5.out.trans hw7)).cells; have HW7 := hid hw7; clear hw7)
         refine bodyPost_ret (v := .tuple #[.agg #[.string ul, .string us, .string ur, .slice A5 n5 c5], .bool true, .int .i64 0]) ?_ rfl ?_
         ·simp [results, Tryz.results99, go_sem, s0, s1, s2, s3, g0, g1, g2, g3]
         ·rw [HH.out]
          refine ⟨A5, n5, c5, ?_, ?_, ((((((K3.out.trans HW5.out).trans HW7.out).setCell (Nat.le_succ _) _).setCell (Nat.le_succ _) _).setCell (Nat.le_succ _) _).setCell (Nat.le_succ _) _), fun _ ad had => ?_⟩
          ·unfold tagV
           simp only
           rw [HU.out.1, HU.out.2.1, HU.out.2.2]
          ·have hbig : w.heap.size + 1 < wr.heap.size := Nat.lt_of_lt_of_le K2.out.lt HW.out.size
           have ne : ∀ q, ∀ ad, A5 = some ad → ad.block ≠ (⟨w.heap.size + 1, q, none⟩ : Addr).block := fun q ad had => by
            have h1 := HF5.out ad had
            show ad.block ≠ w.heap.size + 1
            omega
           exact ((((HS5.out.ext HW7.out).othr _ (ne _) _).othr _ (ne _) _).othr _ (ne _) _).othr _ (ne _) _
          ·have h1 := HF5.out ad had
           have h2 := (K3.out.trans HW.out).size
           omega
  ·have hkk : k = n := by omega
   subst hkk
   have HN := hid (show rstepR (stepP (l.map ruleOf) t) t = (t, false, 0) from by
    have h := HST.out
    rw [List.take_of_length_le (by rw [List.length_map]; have := HL.out; omega)] at h
    rw [h]
    rfl)
   obtain ⟨⟨r0, r1, r2, r3⟩, ⟨f0, f1, f2, f3⟩⟩ := (K2.out.ext HW.out).cells
   go_wp2
   refine bodyPost_ret (v := .tuple #[.agg #[.string lb, .string sb, .string rb, .slice B m d], .bool false, .int .i64 0]) ?_ rfl ?_
   ·simp [results, Tryz.results99, go_sem, r0, r1, r2, r3, f0, f1, f2, f3]
   ·rw [HN.out]
    have hbt : ∀ W, Ext w W → Sl W B m (t.vars.map strv) := fun W h => HB.out.ext h
    refine ⟨B, m, d, ?_, hbt _ (((((K3.out.trans HW.out).setCell (Nat.le_succ _) _).setCell (Nat.le_succ _) _).setCell (Nat.le_succ _) _).setCell (Nat.le_succ _) _), (((((K3.out.trans HW.out).setCell (Nat.le_succ _) _).setCell (Nat.le_succ _) _).setCell (Nat.le_succ _) _).setCell (Nat.le_succ _) _), fun h => by cases h⟩
    show _ = Ending.returned (.tuple #[tagV t B m d, .bool false, .int .i64 0])
    rw [HTV.out]
end Go.Proofs.YtljdlkonlnjadaaGreatDoor
namespace Go.Proofs.YtljdlkonlnjadaaGreatDoor
open Go.RowKit
def RStInv (W1 : World) (gt : Nat) (L : List RuleP) (R : List TagP × Int) (out : Value) (wr : World) : Prop :=
 ∃ (pre : List TagP) (cur : TagP) (B : Option Addr) (m d : Nat), pre.length ≤ 20 ∧ wr.ownsRow W1.heap.size 9 1 out (pre.length + 1) ((pre ++ [cur]).map fun t => strv (textP t)) ∧
   AtT 153 wr gt (strv cur.lang) (strv cur.script) (strv cur.region) (.slice B m d) ∧ (∀ W0, Kept out.ownBlock wr W0 → Sl W0 B m (cur.vars.map strv)) ∧ validP cur = true ∧
   (∀ g, out.ownBlock = some g → g ≠ gt) ∧ R = comb pre (stepsP 6 15 L (20 - pre.length) cur) ∧ Ext W1 wr
def PrInv (w : World) (l : List Ali) (n : Nat) (i : Value) (wr : World) : Prop :=
 ∃ k : Nat, k ≤ n ∧ i = .int .i64 k ∧ (l.take k).all aliB = true ∧ Ext w wr
theorem ali_next {l : List Ali} {k : Nat} {a : Ali} (ha : l[k]? = some a) (h : aliB a = true) (hn : (l.take k).all aliB = true) : (l.take (k + 1)).all aliB = true := by
 rw [take_next ha, List.all_append, hn]
 simp [h]
theorem ali_bad {l : List Ali} {k : Nat} {a : Ali} (ha : l[k]? = some a) (h : aliB a = false) : l.all aliB = false := by
 rw [List.all_eq_false]
 exact ⟨a, List.mem_of_getElem? ha, by rw [h]; simp⟩
set_option maxHeartbeats 4000000 in
theorem rsteps_any (l : List Ali) (s : ByteArray) (A : Option Addr) (n c : Nat) (w : World) (hA : Als w A n l) (hn : n ≤ 100000) (hz : ∀ a ∈ l, a.1.size ≤ 60000 ∧ a.2.size ≤ 60000) (hs : s.size ≤ 60000) :
 Calls Tryz.prog 75 #[.slice A n c, .string s] w (RetStrs w (stepsL l s.data.toList)) := by
 obtain ⟨i0, hi, hz0, hz1, hz2⟩ := info_parts (show (Tryz.prog.info? 9).map (fun i => (i.zero, i.size, i.bytes)) = some (some (.string ⟨#[]⟩), 1, 16) from by kernel_rfl)
 have hpr := fun (fb ob : ByteArray) W (h1 : fb.size ≤ 60000) (h2 : ob.size ≤ 60000) => rproper_any fb ob W (by omega) (by omega)
 have hpa := fun W => rparse_any s W (by omega)
 have hvt := @parse_ok s.data.toList
 have hst0 : l.all aliB = true → stepsL l s.data.toList = if (parseP EC s.data.toList).2 = 0 then ((stepsP 6 15 (l.map ruleOf) 20 (parseP EC s.data.toList).1).1.map textP, (stepsP 6 15 (l.map ruleOf) 20 (parseP EC s.data.toList).1).2) else ([], (parseP EC s.data.toList).2) := fun h => by
  unfold stepsL; rw [if_pos h]
 have hst1 : l.all aliB = false → stepsL l s.data.toList = ([], 1) := fun h => by unfold stepsL; rw [if_neg (by rw [h]; simp)]
 generalize stepsL l s.data.toList = RR at hst0 hst1 ⊢
 generalize parseP EC s.data.toList = PR at hpa hvt hst0
 obtain ⟨t0, e0⟩ := PR
 simp only at hpa hvt hst0
 obtain ⟨lb, hlb, _⟩ := strv_b t0.lang
 obtain ⟨sb, hsb, _⟩ := strv_b t0.script
 obtain ⟨rb, hrb, _⟩ := strv_b t0.region
 obtain ⟨xb, hxb, _⟩ := strv_b (textP t0)
 unfold tagV at hpa
 rw [hlb, hsb, hrb] at hpa
 have HA := hid hA
 have HLL := hid hA.len
 have HZ := hid hz
 have HPR := hid hpr
 have HPA := hid hpa
 have HVT := hid hvt
 have HT0 := hid hst0
 have HT1 := hid hst1
 have HB := hid (And.intro hlb (And.intro hsb (And.intro hrb hxb)))
 clear hA hz hpr hpa hvt hst0 hst1 hlb hsb hrb hxb
 go_enter Tryz.func75, Tryz.ntmps75
 go_wp2_with fail
 go_loopw [6] (PrInv w l n) (fun i _ => n - (intOf i).toNat)
 case atStart => exact ⟨0, Nat.zero_le _, rfl, rfl, Ext.refl _⟩
 case round =>
  obtain ⟨k, hk, rfl, hall, hw⟩ := hrel
  have HALL := hid hall
  have HW := hid hw
  clear hall hw
  obtain ⟨wp, rfl⟩ : ∃ wp : World, wp = wr := ⟨_, rfl⟩
  by_cases hkn : k < n
  ·obtain ⟨⟨fb, ob⟩, hx⟩ : ∃ x, l[k]? = some x := ⟨_, List.getElem?_eq_getElem (by have := HLL.out; omega)⟩
   obtain ⟨b, o, rfl, hb, c0, c1'⟩ := (HA.out.ext HW.out).at2 hx
   simp only at c0 c1'
   obtain ⟨z1, z2⟩ := HZ.out _ (List.mem_of_getElem? hx)
   have hpr := fun W => HPR.out fb ob W z1 z2
   have hnx := ali_next hx
   have hbd := ali_bad hx
   clear hx z1 z2
   cases hb : aliB (fb, ob) with
   | false =>
     rw [hb] at hpr
     have HP := hid hpr
     have HBD := hid (HT1.out (hbd hb))
     clear hpr hnx hbd hb
     go_wp2_with fail
     refine (HP.out _).mono ?_
     rintro e w1 ⟨rfl, hw1⟩
     have HW1 := hid (HW.out.trans hw1)
     clear hw1
     go_wp2
     go_ret2
     exact ⟨none, 0, 0, by rw [HBD.out]; rfl, by rw [HBD.out]; exact Sl.nil _ _, Nat.le_refl _, HW1.out⟩
   | true =>
     rw [hb] at hpr
     have HP := hid hpr
     have HNX := hid (hnx hb HALL.out)
     clear hpr hnx hbd hb
     go_wp2_with fail
     refine (HP.out _).mono ?_
     rintro e w1 ⟨rfl, hw1⟩
     have HW1 := hid (HW.out.trans hw1)
     clear hw1
     go_wp2
     exact ⟨⟨k + 1, by omega, by go_num, HNX.out, HW1.out⟩, by simp [intOf]; omega⟩
  ·have hkk : k = n := by omega
   subst hkk
   have hal : l.all aliB = true := by
    have h := HALL.out
    rwa [List.take_of_length_le (by have := HLL.out; omega)] at h
   have hR := HT0.out hal
   have HAL := hid hal
   clear hal
   by_cases he0 : e0 = 0
   ·subst he0
    simp only [if_true] at hR
    have hv0 := HVT.out rfl
    have htx := fun A n c W h => rText_any t0 A n c W h (TL_of hv0)
    rw [show txtOf t0 = textP t0 from by unfold txtOf; rw [if_pos hv0]] at htx
    unfold tagV at htx
    rw [HB.out.1, HB.out.2.1, HB.out.2.2.1, HB.out.2.2.2] at htx
    obtain ⟨R0, hR0⟩ : ∃ R, R = stepsP 6 15 (l.map ruleOf) 20 t0 := ⟨_, rfl⟩
    rw [← hR0] at hR
    subst hR
    have HR0 := hid hR0
    have HTX := hid htx
    have HV0 := hid hv0
    clear hR0 htx hv0
    go_wp2_with fail
    refine (HPA.out _).mono ?_
    rintro e w2 ⟨A2, n2, c2, rfl, hs2, _, hw2⟩
    have HW2 := hid (HW.out.trans hw2)
    have HS2 := hid hs2
    have hbx := (AtT.new w2 : AtT 153 (w2.alloc (.cells #[.string lb, .string sb, .string rb, .slice A2 n2 c2] 153)) w2.heap.size (.string lb) (.string sb) (.string rb) (.slice A2 n2 c2))
    have HBX := hid hbx
    clear hw2 hs2 hbx
    go_wp2_with fail
    refine (HTX.out A2 n2 c2 _ (HS2.out.ext ((Ext.refl _).alloc _))).mono ?_
    rintro e w4 ⟨rfl, hw4⟩
    have HW4 := hid hw4
    have HBX4 := hid (HBX.out.ext hw4)
    clear hw4
    go_wp2_with fail
    go_loopw [9] (RStInv w2 w2.heap.size (l.map ruleOf) R0) (fun o _ => 22 - lenOf o)
    case atStart =>
     have hsz : w2.heap.size < w4.heap.size := HBX4.out.lt
     refine ⟨[], t0, A2, n2, c2, by simp, ?_, ?_, ?_, HV0.out, ?_, ?_, (((Ext.refl w2).alloc _).trans HW4.out).alloc _⟩
     ·have h := own_one w4 w2.heap.size (Nat.le_of_lt hsz) (.string xb) 9
      show World.ownsRow _ _ _ _ _ 1 [strv (textP t0)]
      rw [HB.out.2.2.2]
      exact h
     ·have h := HBX4.out.ext ((Ext.refl w4).alloc (.cells #[.string xb] 9))
      rw [← HB.out.1, ← HB.out.2.1, ← HB.out.2.2.1] at h
      exact h
     ·intro W0 hk0
      refine HS2.out.kept2 (Kept.trans (Kept.ext _ (((Ext.refl w2).alloc _).trans HW4.out)) (Kept.trans (Kept.ext _ ((Ext.refl w4).alloc _)) hk0 (.inl rfl)) (.inl rfl)) ?_
      intro ad had hlt h
      injection h with h
      change ad.block = w4.heap.size at h
      omega
     ·intro g hg h
      have hg2 : w4.heap.size = g := Option.some.inj hg
      rw [← hg2] at h
      exact Nat.lt_irrefl _ (h ▸ hsz)
     ·rw [HR0.out]
      exact (comb_nil _ (steps_err (by decide) (by decide) _ _ _)).symm
    case round =>
     obtain ⟨pre, cur, B, m, d, hp, how, hat, hsl, hv, hgt, hR, hw⟩ := hrel
     obtain ⟨A7, c7, hv7, hs7, hc7⟩ := own_sl how
     subst hv7
     have hstc := rstep_any l cur A B k c m d wr (HA.out.ext (HW2.out.trans hw)) (hsl wr (Kept.refl _ _)) HAL.out hv hn HZ.out
     have hsv := fun u (h : stepP (l.map ruleOf) cur = some u) (h4 : ¬ 4 < u.vars.length) => stepP_valid (rules_ok HAL.out) hv h h4
     have hsn := fun (h : stepP (l.map ruleOf) cur = none) => @steps_none 6 15 (l.map ruleOf) (20 - pre.length) cur h
     obtain ⟨cl, hcl, _⟩ := strv_b cur.lang
     obtain ⟨cs, hcs, _⟩ := strv_b cur.script
     obtain ⟨cr, hcr, _⟩ := strv_b cur.region
     rw [hcl, hcs, hcr] at hat
     have htc : tagV cur B m d = .agg #[.string cl, .string cs, .string cr, .slice B m d] := by unfold tagV; rw [hcl, hcs, hcr]
     rw [htc] at hstc
     obtain ⟨⟨p0, p1, p2, p3⟩, ⟨f0, f1, f2, f3⟩⟩ := hat.cells
     have HOW := hid how
     have HAT := hid hat
     have HSL := hid hsl
     have HV := hid hv
     have HGT := hid hgt
     have HR := hid hR
     have HWL := hid hw
     have HS7 := hid hs7
     have HSV := hid hsv
     have HSN := hid hsn
     have HTC := hid htc
     clear how hat hsl hv hgt hR hw hs7 hcl hcs hcr hsv hsn htc
     cases hst : stepP (l.map ruleOf) cur with
     | none =>
       rw [hst] at hstc
       unfold RetRStep rstepR at hstc
       simp only at hstc
       have hstc2 : Calls Tryz.prog 99 #[.slice A k c, .agg #[.string cl, .string cs, .string cr, .slice B m d]] wr fun e w' => ∃ A5 n5 c5, e = .returned (.tuple #[.agg #[.string cl, .string cs, .string cr, .slice A5 n5 c5], .bool false, .int .i64 0]) ∧ Ext wr w' := hstc.mono fun e w' ⟨A5, n5, c5, he, _, hw, _⟩ => by
        refine ⟨A5, n5, c5, ?_, hw⟩
        rw [he]
        have h := HTC.out
        unfold tagV at h ⊢
        injection h with h
        simp at h
        rw [h.1, h.2.1, h.2.2]
       have HST := hid hstc2
       have HRR := hid (show R0 = (pre ++ [cur], 0) from by rw [HR.out, HSN.out hst]; rfl)
       clear hstc hst hstc2
       go_wp2_with fail
       refine HST.out.mono ?_
       rintro e w5 ⟨A5, n5, c5, rfl, hw5⟩
       have HW5 := hid hw5
       clear hw5
       go_wp2
       go_ret2
       refine ⟨A7, pre.length + 1, c7, by rw [HRR.out]; rfl, ?_, hc7, (HW2.out.trans HWL.out).trans (HW5.out.alloc _)⟩
       rw [HRR.out]
       rw [List.map_map]
       exact HS7.out.ext (HW5.out.alloc _)
     | some u =>
       rw [hst] at hstc
       by_cases h4 : 4 < u.vars.length
       ·have hrr : rstepR (some u) cur = (TagP.zero, false, 6) := by unfold rstepR; simp only; rw [if_pos h4]
        rw [hrr] at hstc
        unfold RetRStep tagV TagP.zero strv at hstc
        simp only at hstc
        have HST := hid hstc
        have HRR := hid (show R0 = ([], 6) from by rw [HR.out, steps_many hst h4]; rfl)
        clear hstc hst hrr
        go_wp2_with fail
        refine HST.out.mono ?_
        rintro e w5 ⟨A5, n5, c5, rfl, hs5, hw5, _⟩
        have HW5 := hid hw5
        clear hw5 hs5 h4
        go_wp2
        go_ret2
        exact ⟨none, 0, 0, by rw [HRR.out]; rfl, by rw [HRR.out]; exact Sl.nil _ _, Nat.le_refl _, (HW2.out.trans HWL.out).trans (HW5.out.alloc _)⟩
       ·have hrr : rstepR (some u) cur = (u, true, 0) := by unfold rstepR; simp only; rw [if_neg h4]
        rw [hrr] at hstc
        unfold RetRStep tagV at hstc
        simp only at hstc
        obtain ⟨ul, hul, _⟩ := strv_b u.lang
        obtain ⟨us, hus, _⟩ := strv_b u.script
        obtain ⟨ur, hur, _⟩ := strv_b u.region
        rw [hul, hus, hur] at hstc
        have HST := hid hstc
        have HSS := hid hst
        have HU := hid (And.intro hul (And.intro hus hur))
        clear hstc hst hul hus hur hrr
        have hvu := HSV.out u HSS.out h4
        by_cases h20 : pre.length = 20
        ·have HRR := hid (show R0 = ([], 15) from by rw [HR.out, h20, steps_cyc HSS.out h4]; rfl)
         have h20I : (20 : Int) < ((pre.length + 1 : Nat) : Int) := by omega
         go_wp2_with fail
         refine HST.out.mono ?_
         rintro e w5 ⟨A5, n5, c5, rfl, hs5, hw5, _⟩
         have HW5 := hid hw5
         clear hw5 hs5 h4
         go_wp2
         go_ret2
         exact ⟨none, 0, 0, by rw [HRR.out]; rfl, by rw [HRR.out]; exact Sl.nil _ _, Nat.le_refl _, (HW2.out.trans HWL.out).trans (HW5.out.alloc _)⟩
        ·have hp19 : pre.length ≤ 19 := by omega
         have HRR := hid (show R0 = comb (pre ++ [cur]) (stepsP 6 15 (l.map ruleOf) (20 - (pre ++ [cur]).length) u) from by
          rw [HR.out, show 20 - pre.length = (20 - (pre ++ [cur]).length) + 1 from by simp; omega]
          exact comb_next pre HSS.out h4)
         have h20I : ¬ (20 : Int) < ((pre.length + 1 : Nat) : Int) := by omega
         have htxu := fun A n c W h => rText_any u A n c W h (TL_of hvu)
         rw [show txtOf u = textP u from by unfold txtOf; rw [if_pos hvu]] at htxu
         obtain ⟨ub, hub, _⟩ := strv_b (textP u)
         unfold tagV at htxu
         rw [HU.out.1, HU.out.2.1, HU.out.2.2, hub] at htxu
         have HTU := hid htxu
         have HUB := hid hub
         have HVU := hid hvu
         clear htxu hub hvu h20
         go_wp2_with fail
         refine HST.out.mono ?_
         rintro e w5 ⟨A5, n5, c5, rfl, hs5, hw5, hf5⟩
         have HW5 := hid hw5
         have HF5 := hid (hf5 trivial)
         have HS5 := hid (hs5.ext ((Ext.refl w5).alloc (.cells #[.string ul, .string us, .string ur, .slice A5 n5 c5] 153)))
         have HAT5 := hid ((HAT.out.ext hw5).ext ((Ext.refl w5).alloc (.cells #[.string ul, .string us, .string ur, .slice A5 n5 c5] 153)))
         have hnb := (AtT.new w5 : AtT 153 (w5.alloc (.cells #[.string ul, .string us, .string ur, .slice A5 n5 c5] 153)) w5.heap.size (.string ul) (.string us) (.string ur) (.slice A5 n5 c5))
         obtain ⟨⟨q0, q1, q2, q3⟩, ⟨g0, g1, g2, g3⟩⟩ := HAT5.out.cells
         obtain ⟨⟨r0, r1, r2, r3⟩, _⟩ := hnb.cells
         clear hw5 hs5 hf5 h4 p0 p1 p2 p3 f0 f1 f2 f3 hnb
         go_wp2_with fail
         have hgl : w2.heap.size < wr.heap.size := HAT.out.lt
         have hkp := kept_set4 (w5.alloc (.cells #[.string ul, .string us, .string ur, .slice A5 n5 c5] 153)) w2.heap.size (.string ul) (.string us) (.string ur) (.slice A5 n5 c5)
         have hst5 := set4 HAT5.out (.string ul) (.string us) (.string ur) (.slice A5 n5 c5)
         have hsl5 : Sl (((((w5.alloc (.cells #[.string ul, .string us, .string ur, .slice A5 n5 c5] 153)).setCell ⟨w2.heap.size, 0, none⟩ (.string ul)).setCell ⟨w2.heap.size, 1, none⟩ (.string us)).setCell ⟨w2.heap.size, 2, none⟩ (.string ur)).setCell ⟨w2.heap.size, 3, none⟩ (.slice A5 n5 c5)) A5 n5 (u.vars.map strv) := HS5.out.kept hkp (fun ad had h => by
          injection h with h
          have h1 := HF5.out ad had
          omega)
         have hex : Ext w2 (((((w5.alloc (.cells #[.string ul, .string us, .string ur, .slice A5 n5 c5] 153)).setCell ⟨w2.heap.size, 0, none⟩ (.string ul)).setCell ⟨w2.heap.size, 1, none⟩ (.string us)).setCell ⟨w2.heap.size, 2, none⟩ (.string ur)).setCell ⟨w2.heap.size, 3, none⟩ (.slice A5 n5 c5)) := (((((HWL.out.trans HW5.out).alloc _).setCell (Nat.le_refl _) _).setCell (Nat.le_refl _) _).setCell (Nat.le_refl _) _).setCell (Nat.le_refl _) _
         have hkr : ∀ g, g < wr.heap.size → g ≠ w2.heap.size → ((((((w5.alloc (.cells #[.string ul, .string us, .string ur, .slice A5 n5 c5] 153)).setCell ⟨w2.heap.size, 0, none⟩ (.string ul)).setCell ⟨w2.heap.size, 1, none⟩ (.string us)).setCell ⟨w2.heap.size, 2, none⟩ (.string ur)).setCell ⟨w2.heap.size, 3, none⟩ (.slice A5 n5 c5))).heap[g]? = wr.heap[g]? := fun g hg hne => by
          have h1 := hkp.2 g (Nat.lt_of_lt_of_le hg (HW5.out.alloc (.cells #[.string ul, .string us, .string ur, .slice A5 n5 c5] 153)).size) (by intro h; injection h with h; exact hne h)
          rw [h1]
          exact Below.block (HW5.out.alloc (.cells #[.string ul, .string us, .string ur, .slice A5 n5 c5] 153)) g hg
         have hsz : wr.heap.size ≤ ((((((w5.alloc (.cells #[.string ul, .string us, .string ur, .slice A5 n5 c5] 153)).setCell ⟨w2.heap.size, 0, none⟩ (.string ul)).setCell ⟨w2.heap.size, 1, none⟩ (.string us)).setCell ⟨w2.heap.size, 2, none⟩ (.string ur)).setCell ⟨w2.heap.size, 3, none⟩ (.slice A5 n5 c5))).heap.size := Nat.le_trans (HW5.out.alloc (.cells #[.string ul, .string us, .string ur, .slice A5 n5 c5] 153)).size hkp.1
         generalize (((((w5.alloc (.cells #[.string ul, .string us, .string ur, .slice A5 n5 c5] 153)).setCell ⟨w2.heap.size, 0, none⟩ (.string ul)).setCell ⟨w2.heap.size, 1, none⟩ (.string us)).setCell ⟨w2.heap.size, 2, none⟩ (.string ur)).setCell ⟨w2.heap.size, 3, none⟩ (.slice A5 n5 c5)) = Wt at hkp hst5 hsl5 hex hkr hsz ⊢
         have HST5 := hid hst5
         have HSL5 := hid hsl5
         have HEX := hid hex
         have HKR := hid hkr
         have HSZ := hid hsz
         have HGL := hid hgl
         clear hkp hst5 hsl5 hex hkr hsz hgl q0 q1 q2 q3 g0 g1 g2 g3 r0 r1 r2 r3
         obtain ⟨⟨q0, q1, q2, q3⟩, _⟩ := HST5.out.cells
         refine (HTU.out A5 n5 c5 _ HSL5.out).mono ?_
         rintro e w6 ⟨rfl, hw6⟩
         have HW6 := hid hw6
         have HX6 := hid (hw6.alloc (.cells #[.string ub] 9))
         have HOX := hid (show (w6.alloc (.cells #[.string ub] 9)).ownsRow w2.heap.size 9 1 (.slice A7 (pre.length + 1) c7) (pre.length + 1) ((pre ++ [cur]).map fun t => strv (textP t)) from by
          refine own_ext (own_kept HOW.out fun g hg => ?_) HX6.out
          exact HKR.out g (HOW.out.lt g hg).2 (HGT.out g hg))
         clear hw6
         go_wp2_with (at_builtin; refine wpList_app2 _ rfl _ _ 35 rfl w2.heap.size 9 i0 _ 16 Tryz.underlying35 hi hz0 hz1 hz2 rfl _ _ _ rfl HOX.out ⟨w6.heap.size, 0, none⟩ 1 1 _ rfl (Sl.lit w6 #[.string ub] 9 1 rfl) (string_one [ub]) (by unfold maxLen; omega) (by omega) (HEX.out.trans HX6.out).size ?_; intro v' w7 hown' hgrow hwhere; have HO' := hid hown'; have HG' := hid hgrow; have HWH := hid hwhere; clear hown' hgrow hwhere)
         have hkx : ∀ W0, Kept v'.ownBlock w7 W0 → Kept (Value.slice A7 (pre.length + 1) c7).ownBlock (w6.alloc (.cells #[.string ub] 9)) W0 := fun W0 hk0 => Kept.trans (Kept.grown HG'.out) hk0 HWH.out
         have hlen7 : ∃ A' c', v' = .slice A' (pre.length + 1 + 1) c' := by
          obtain ⟨A', c', h, _⟩ := own_sl HO'.out
          exact ⟨A', c', h⟩
         obtain ⟨A', c', rfl⟩ := hlen7
         have hgtn : ∀ g, (Value.slice A7 (pre.length + 1) c7).ownBlock = some g → g ≠ w2.heap.size := HGT.out
         refine ⟨⟨pre ++ [cur], u, A5, n5, c5, by simp; omega, ?_, ?_, ?_, HVU.out, ?_, HRR.out, ?_⟩, by simp [lenOf]; omega⟩
         ·have h := HO'.out
          rw [List.map_append, List.length_append]
          show World.ownsRow _ _ _ _ _ (pre.length + 1 + 1) (_ ++ [strv (textP u)])
          rw [HUB.out]
          exact h
         ·have h := ((HST5.out.ext HX6.out).kept (Kept.grown HG'.out) (by intro h; exact hgtn _ h.symm rfl))
          rw [HU.out.1, HU.out.2.1, HU.out.2.2]
          exact h
         ·intro W0 hk0
          refine (HSL5.out.ext HX6.out).kept (hkx W0 hk0) ?_
          intro ad had h
          have h1 := (HOW.out.lt _ h.symm).2
          have h2 := HF5.out ad had
          omega
         ·intro g hg
          rcases HWH.out with h | h
          ·exact hgtn g (h.symm.trans hg)
          ·have h1 := h g hg
           have h2 := HX6.out.size
           have h3 := HSZ.out
           have h4 := HGL.out
           omega
         ·exact (HEX.out.trans HX6.out).grown HG'.out (own_lt HOW.out)
   ·simp only [if_neg he0] at hR
    have hb1 : (e0 == 0) = false := by simpa using he0
    subst hR
    go_wp2_with fail
    refine (HPA.out _).mono ?_
    rintro e w2 ⟨A2, n2, c2, rfl, hs2, _, hw2⟩
    have HW2 := hid (HW.out.trans hw2)
    clear hw2 hs2
    go_wp2
    go_ret2
    exact ⟨none, 0, 0, rfl, Sl.nil _ _, Nat.le_refl _, HW2.out.alloc _⟩
end Go.Proofs.YtljdlkonlnjadaaGreatDoor
namespace Go.Proofs.YtljdlkonlnjadaaGreatDoor
open Go.RowKit
theorem rcan20_any (l : List Ali) (s : ByteArray) (A : Option Addr) (n c : Nat) (w : World) (hA : Als w A n l) (hn : n ≤ 100000) (hz : ∀ a ∈ l, a.1.size ≤ 60000 ∧ a.2.size ≤ 60000) (hs : s.size ≤ 60000) :
 Calls Tryz.prog 49 #[.slice A n c, .string s] w fun e w' => e = .returned (.tuple #[strv (canL l s.data.toList).1, .int .i64 (canL l s.data.toList).2]) ∧ Ext w w' := by
 have hst := rsteps_any l s A n c w hA hn hz hs
 have hsh := fun h => steps_shape (l := l) (s := s.data.toList) h
 unfold canL
 generalize stepsL l s.data.toList = R at hst hsh
 obtain ⟨xs, code⟩ := R
 simp only at hsh ⊢
 have HST := hid hst
 clear hst
 by_cases h0 : code = 0
 ·subst h0
  obtain ⟨ys, e, _, hx, h20, _⟩ := hsh rfl
  simp only [if_true]
  have hlast : xs.getLastD [] = textP e := by rw [hx, last_map]
  have hget : xs[xs.length - 1]? = some (textP e) := by rw [hx]; simp
  have hlen : xs.length ≤ 21 ∧ 0 < xs.length := by rw [hx]; simp; omega
  rw [hlast]
  obtain ⟨eb, heb, _⟩ := strv_b (textP e)
  rw [heb]
  have HG := hid hget
  have HE := hid heb
  clear hsh hx h20 hlast hget heb
  go_enter Tryz.func49, Tryz.ntmps49
  go_wp2_with fail
  refine HST.out.mono ?_
  rintro e w1 ⟨A1, n1, c1, rfl, hs1, _, hw1⟩
  have hn1 : xs.length = n1 := by have := hs1.1; rwa [List.length_map] at this
  have HW1 := hid hw1
  have HS1 := hid hs1
  have h1 : 1 ≤ n1 := by omega
  have h2 : n1 ≤ 21 := by omega
  cases A1 with
  | none => exact absurd (none_nil HS1.out) (by omega)
  | some ad =>
    obtain ⟨b, o, rfl, _⟩ := addr_flat HS1.out (by omega)
    have hc : w1.cell? ⟨b, o + (n1 - 1), none⟩ = some (.string eb) := by
     obtain ⟨ad, ha, _, hc⟩ := HS1.out.2 (n1 - 1) (.string eb) (by rw [List.getElem?_map, ← hn1, HG.out, ← HE.out]; rfl)
     injection ha with ha
     subst ha
     rwa [add_flat] at hc
    have hI : ((n1 : Int) - 1).toNat = n1 - 1 := by omega
    have h1I : (1 : Int) ≤ (n1 : Int) := by omega
    have hlt : (n1 : Int) - 1 < (n1 : Int) := by omega
    clear hn1 hs1 hw1 hlen
    go_wp2
    go_ret2
    exact ⟨rfl, HW1.out⟩
 ·simp only [if_neg h0]
  have hb1 : (code == 0) = false := by simpa using h0
  clear hsh
  go_enter Tryz.func49, Tryz.ntmps49
  go_wp2_with fail
  refine HST.out.mono ?_
  rintro e w1 ⟨A1, n1, c1, rfl, hs1, _, hw1⟩
  have HW1 := hid hw1
  clear hw1 hs1
  go_wp2
  go_ret2
  exact ⟨rfl, HW1.out⟩
end Go.Proofs.YtljdlkonlnjadaaGreatDoor
