import Derived.Test.YtiijdojihleggaaGreatDoorRNZD
import Derived.Test.YtiijdojihleggaaGreatDoorRNZF
import Derived.Test.YtiijdojihleggaaGreatDoorRNZH
import Derived.Test.YtiijdojihleggaaGreatDoorRNZG
import Derived.Deep.RegionHeld3
set_option maxRecDepth 100000
set_option linter.unusedSimpArgs false
set_option linter.unusedVariables false
open Go.Lib (hid)
namespace Go.Proofs.YtiijdojihleggaaGreatDoor
open Go.RowKit
set_option maxHeartbeats 1000000 in
theorem rLong_any (s : ByteArray) (w : World) (hs : s.size ≤ 1048576) : Calls Tryz.prog 36 #[.string s] w fun e w' => e = .returned (.bool (longB s)) ∧ Ext w w' := by
 obtain ⟨b, hb⟩ : ∃ b, b = longB s := ⟨_, rfl⟩
 rw [← hb]
 have HB := hid (show b = (decide (4000 < s.size) || decide (400 < (wsB s).length)) from by rw [hb]; rfl)
 clear hb
 by_cases h : 4000 < s.size
 ·have h2 : (4000 : Int) < s.size := by omega
  go_enter Tryz.func36, Tryz.ntmps36
  go_wp2_with fail
  go_ret
  exact ⟨ret_bool (by rw [HB.out, decide_eq_true h]; simp [h]), Ext.refl _⟩
 ·have h2 : ¬ (4000 : Int) < s.size := by omega
  go_enter Tryz.func36, Tryz.ntmps36
  go_wp2_with (go_at_call 18; refine (D6.refWords_any s _ hs).mono ?_; rintro e w1 ⟨A1, n1, c1, rfl, hs1, hx1⟩; have HS1 := hid hs1; have HX1 := hid hx1; clear hs1 hx1)
  go_ret
  have hn1 : n1 = (wsB s).length := by have := HS1.out.1; unfold wsB; rw [List.length_map] at this ⊢; exact this.symm
  exact ⟨ret_bool (by rw [HB.out, decide_eq_false h, hn1]; simp; omega), HX1.out⟩
def fewX (x : SgP) : Bool := decide (x.1.size ≤ 200) && decide (x.2.size ≤ 200)
def fewM (l : List SgP) : Bool := l.all fewX && decide (l.length ≤ 30)
theorem few_spec {l : List SgP} (h : fewM l = true) : FewS l := by
 unfold fewM fewX at h
 simp only [Bool.and_eq_true, decide_eq_true_eq, List.all_eq_true] at h
 exact ⟨h.2, h.1⟩
def FwI (l : List SgP) (w : World) (i : Value) (wr : World) : Prop := ∃ j : Nat, i = .int .i64 j ∧ j ≤ l.length ∧ wr = w ∧ ∀ x ∈ l.take j, fewX x = true
set_option maxHeartbeats 2000000 in
theorem rFew_any (l : List SgP) (A : Option Addr) (n c : Nat) (w : World) (hA : Als w A n l) (hl : ∀ x ∈ l, x.1.size ≤ maxLen ∧ x.2.size ≤ maxLen) (hn : n ≤ maxLen) :
 Calls Tryz.prog 11 #[.slice A n c] w fun e w' => e = .returned (.bool (fewM l)) ∧ w' = w := by
 obtain ⟨R, hR⟩ : ∃ R, R = fewM l := ⟨_, rfl⟩
 rw [← hR]
 have HR := hid hR
 have hln := hA.len
 have HA := hid hA
 have HL := hid hl
 subst hln
 clear hR hA hl
 unfold maxLen at hn
 go_enter Tryz.func11, Tryz.ntmps11
 go_wp2
 go_loopw [3] (FwI l w) (fun i _ => l.length - (intOf i).toNat)
 case atStart => exact ⟨0, rfl, Nat.zero_le _, rfl, fun x h => by simp at h⟩
 case round =>
  obtain ⟨j, rfl, hj, rfl, hall⟩ := hrel
  have HALL := hid hall
  clear hall
  by_cases hjl : j < l.length
  ·obtain ⟨x, hx⟩ : ∃ x, l[j]? = some x := ⟨_, List.getElem?_eq_getElem hjl⟩
   obtain ⟨b, o, rfl, hb, c0, c1⟩ := HA.out.at_ hx
   rw [← Nat.add_assoc] at c1
   have hz := HL.out x (List.mem_of_getElem? hx)
   unfold maxLen at hz
   have HX := hid hx
   clear hx
   obtain ⟨p, q⟩ := x
   simp only at c0 c1 hz
   by_cases hf : fewX (p, q) = true
   ·have hf2 := hf
    unfold fewX at hf2
    simp only [Bool.and_eq_true, decide_eq_true_eq] at hf2
    obtain ⟨g1, g2⟩ := hf2
    have HF := hid hf
    clear hf
    go_wp2
    refine ⟨⟨j + 1, by go_num, hjl, rfl, fun y hy => ?_⟩, by simp [intOf]; omega⟩
    rw [take_next HX.out] at hy
    rcases List.mem_append.1 hy with hy | hy
    ·exact HALL.out y hy
    ·rw [List.mem_singleton.1 hy]; exact HF.out
   ·have hr : R = false := by
     rw [HR.out]
     unfold fewM
     have : l.all fewX = false := by
      rw [Bool.eq_false_iff]
      intro h
      exact hf (List.all_eq_true.1 h _ (List.mem_of_getElem? HX.out))
     rw [this]; rfl
    subst hr
    unfold fewX at hf
    simp only [Bool.and_eq_true, decide_eq_true_eq] at hf
    go_wp2
    all_goals first
     | (exfalso; omega)
     | (go_ret; exact ⟨rfl, rfl⟩)
  ·have hje : j = l.length := by omega
   have hr : R = decide (l.length ≤ 30) := by
    rw [HR.out]
    unfold fewM
    have : l.all fewX = true := List.all_eq_true.2 fun x hx => HALL.out x (by rw [hje, List.take_length]; exact hx)
    rw [this]; rfl
   have HRR := hid hr
   clear hr
   go_wp2
   go_ret
   exact ⟨ret_bool (by rw [HRR.out]; simp; omega), rfl⟩
def RetRA (w : World) (A0 : Option Addr) (r : List SgP × Int) (e : Ending) (w' : World) : Prop := ∃ A c, e = .returned (.tuple #[.slice A r.1.length c, .int .i64 r.2]) ∧ Als w' A r.1.length r.1 ∧ Ext w w' ∧ ∀ ad, A = some ad → A0 = some ad ∨ (w.heap.size ≤ ad.block ∧ ad.block < w'.heap.size)
def RaI (w : World) (m : List SgP) (s t : ByteArray) (i : Value) (wr : World) : Prop := ∃ j : Nat, i = .int .i64 j ∧ j ≤ m.length ∧ wr = w ∧ ∀ x ∈ m.take j, x ≠ (s, t)
def BWr4 (b : Bool) (W : World) (v : Value) (wx : World) : Prop := v = .bool b ∧ Ext W wx
theorem aliC_one (l : List SgP) : ∀ u ∈ l.flatMap aliC, u.oneCell' = true := by
 intro u hu
 obtain ⟨p, _, hp⟩ := List.mem_flatMap.1 hu
 simp only [aliC, List.mem_cons, List.not_mem_nil, or_false] at hp
 rcases hp with rfl | rfl <;> rfl
set_option maxHeartbeats 4000000 in
theorem rAdd_any (m : List SgP) (A : Option Addr) (n c : Nat) (s t : ByteArray) (w : World) (hA : Als w A n m) (hs : s.size ≤ 1048576) (ht : t.size ≤ 1048576) (hn : n ≤ 1000000) :
 Calls Tryz.prog 30 #[.slice A n c, .string s, .string t] w (RetRA w A (addM m s t)) := by
 obtain ⟨i0, hi, hz0, hz1, hz2⟩ := info_parts (show (Tryz.prog.info? 31).map (fun i => (i.zero, i.size, i.bytes)) = some (some (.agg #[.string ⟨#[]⟩, .string ⟨#[]⟩]), 2, 32) from by kernel_rfl)
 obtain ⟨R, hR⟩ : ∃ R, R = addM m s t := ⟨_, rfl⟩
 rw [← hR]
 have HR := hid hR
 have hln := hA.len
 have HA := hid hA
 subst hln
 obtain ⟨lim, hlim⟩ : ∃ b, b = limB s t m.length := ⟨_, rfl⟩
 obtain ⟨lg, hlg⟩ : ∃ b, b = longB s := ⟨_, rfl⟩
 have KL := hid (rLong_any s w hs)
 rw [← hlg] at KL
 have HLS := hid (show lim = (lg || decide (4000 < t.size) || decide (2000 ≤ m.length)) from by
  rw [hlim, hlg]; unfold limB
  rw [Bool.eq_iff_iff]
  simp
  constructor
  ·rintro (h | h | h); exact .inl (.inl h); exact .inl (.inr h); exact .inr h
  ·rintro ((h | h) | h); exact .inl h; exact .inr (.inl h); exact .inr (.inr h))
 have HLIM := hid hlim
 clear hR hA hlim hlg
 go_enter Tryz.func30, Tryz.ntmps30
 go_upto_region 1 with (fail)
 go_cut [20] (BWr4 lim w)
 case first =>
  as_aux_lemma =>
  go_wp2_with fail
  refine KL.out.mono ?_
  rintro e w1 ⟨rfl, hx1⟩
  have HX1 := hid hx1
  clear hx1 KL
  cases lg
  ·go_wp2_with fail
   all_goals
    go_meet
    exact ⟨by rw [HLS.out]; first | (congr 1; rw [Bool.eq_iff_iff]; simp; omega), HX1.out⟩
  ·go_wp2_with fail
   all_goals
    go_meet
    exact ⟨by rw [HLS.out]; rfl, HX1.out⟩
 case rest =>
 obtain ⟨w1, hw1⟩ : ∃ w1 : World, w1 = wc := ⟨_, rfl⟩
 rw [← hw1] at hcut ⊢
 clear hw1
 obtain ⟨rfl, hx1⟩ := hcut
 have HX1 := hid hx1
 clear hx1
 cases lim
 rotate_left
 ·have hr : R = (m, 6) := by rw [HR.out]; exact add_lim HLIM.out.symm
  subst hr
  go_wp2
  go_ret2
  exact ⟨A, c, rfl, HA.out.ext HX1.out, HX1.out, fun ad h => .inl h⟩
 have HA1 := hid (HA.out.ext HX1.out)
 go_wp2_with fail
 go_loopw [8] (RaI w1 m s t) (fun i _ => m.length - (intOf i).toNat)
 case atStart => exact ⟨0, rfl, Nat.zero_le _, rfl, fun x h => by simp at h⟩
 case round =>
  obtain ⟨j, rfl, hj, rfl, hno⟩ := hrel
  have HNO := hid hno
  clear hno
  by_cases hjl : j < m.length
  ·as_aux_lemma =>
   obtain ⟨x, hx⟩ : ∃ x, m[j]? = some x := ⟨_, List.getElem?_eq_getElem hjl⟩
   obtain ⟨b, o, rfl, hb, c0, c1⟩ := HA1.out.at_ hx
   rw [← Nat.add_assoc] at c1
   have HX := hid hx
   clear hx
   obtain ⟨p, q⟩ := x
   simp only at c0 c1
   by_cases hp : p = s
   ·subst hp
    by_cases hq : q = t
    ·subst hq
     have hr : R = (m, 9) := by rw [HR.out]; exact add_dup HLIM.out.symm (List.mem_of_getElem? HX.out)
     subst hr
     go_wp2
     go_ret2
     exact ⟨_, c, rfl, HA1.out, HX1.out, fun ad h => .inl h⟩
    ·have hqb := bytes_ne hq
     have HQ := hid hq
     clear hq
     go_wp2
     refine ⟨⟨j + 1, by go_num, hjl, rfl, fun y hy => ?_⟩, by simp [intOf]; omega⟩
     rw [take_next HX.out] at hy
     rcases List.mem_append.1 hy with hy | hy
     ·exact HNO.out y hy
     ·rw [List.mem_singleton.1 hy]; exact fun e => HQ.out (by injection e)
   ·have hpb := bytes_ne hp
    have HP := hid hp
    clear hp
    go_wp2
    refine ⟨⟨j + 1, by go_num, hjl, rfl, fun y hy => ?_⟩, by simp [intOf]; omega⟩
    rw [take_next HX.out] at hy
    rcases List.mem_append.1 hy with hy | hy
    ·exact HNO.out y hy
    ·rw [List.mem_singleton.1 hy]; exact fun e => HP.out (by injection e)
  ·as_aux_lemma =>
   have hje : j = m.length := by omega
   have hr : R = (m ++ [(s, t)], 0) := by
    rw [HR.out]
    exact add_new HLIM.out.symm (fun h => HNO.out _ (by rw [hje, List.take_length]; exact h) rfl)
   have HRR := hid hr
   clear hr
   have HO := hid (show (wr.alloc (.cells #[] 31)).ownsRow wr.heap.size 31 2 (.slice (some ⟨wr.heap.size, 0, none⟩) 0 0) 0 [] from World.ownsRow_made wr #[] 0 (Nat.le_refl _) (Nat.zero_le _) rfl)
   have HA2 := hid (show SlN (wr.alloc (.cells #[] 31)) A m.length 2 (m.flatMap aliC) from SlN.ext HA1.out ((Ext.refl _).alloc _))
   have tok1 : True := trivial
   have tok2 : True := trivial
   go_wp2_with (first
    | (have _t := tok1; at_builtin; refine wpList_appSl _ rfl _ _ 22 rfl wr.heap.size 31 i0 _ 2 32 Tryz.underlying22 hi hz0 hz1 hz2 rfl (by decide) _ 0 [] rfl HO.out A m.length c _ rfl HA2.out (aliC_one m) (by unfold maxLen; omega) (by omega) (by simp) ?_; intro v5 w5 ho5 hg5; have HO5 := hid ho5; have HX5 := hid (((Ext.refl wr).alloc (.cells #[] 31)).grown hg5 (own_lt HO.out)); clear ho5 hg5 tok1)
    | (have _t := tok2; at_builtin; refine wpList_appN _ rfl _ _ 22 rfl wr.heap.size 31 i0 _ 2 32 Tryz.underlying22 hi hz0 hz1 hz2 rfl (by decide) _ _ _ rfl (own_ext HO5.out ((Ext.refl w5).alloc (.cells #[.string s, .string t] 31))) ⟨w5.heap.size, 0, none⟩ 1 1 [.string s, .string t] rfl rfl (new_cells w5 #[.string s, .string t] 31) (by simp [Value.oneCell']) (by unfold maxLen; omega) (by omega) (by have := Ext.size HX5.out; simp; omega) ?_; intro v6 w6 ho6 hg6 _; have HO6 := hid ho6; have HX6 := hid ((HX5.out.alloc (.cells #[.string s, .string t] 31)).grown hg6 (own_lt HO5.out)); clear ho6 hg6 tok2))
   have h6 := HO6.out
   have hlen : 0 + m.length + 1 = (m ++ [(s, t)]).length := by simp
   obtain ⟨A6, c6, rfl, hs6⟩ := own_slN h6
   have HS6 := hid hs6
   clear h6 hs6
   have hrr := HRR.out
   subst hrr
   go_ret2
   refine ⟨A6, c6, by rw [← hlen]; rfl, ?_, HX1.out.trans HX6.out, fun ad h => .inr ?_⟩
   rotate_left
   ·subst h
    have h1 := HO6.out.lt ad.block rfl
    have h2 := Ext.size HX1.out
    exact ⟨by omega, h1.2⟩
   have hs := HS6.out
   rw [hlen] at hs
   unfold Als
   rw [List.flatMap_append]
   simpa [aliC] using hs
end Go.Proofs.YtiijdojihleggaaGreatDoor
namespace Go.Proofs.YtiijdojihleggaaGreatDoor
open Go.RowKit
def bldM (l : List SgP) (j : Nat) : List SgP := buildM (l.take j)
theorem bld_next {l : List SgP} {j : Nat} {x : SgP} (h : l[j]? = some x) : bldM l (j + 1) = (addM (bldM l j) x.1 x.2).1 := by
 unfold bldM buildM
 rw [take_next h, List.foldl_append]
 rfl
theorem bld_len (l : List SgP) (j : Nat) : (bldM l j).length ≤ j := by
 have := build_len (l.take j) []
 unfold bldM buildM
 simp at this ⊢
 omega
theorem bld_all (l : List SgP) : bldM l l.length = buildM l := by unfold bldM; rw [List.take_length]
theorem bld_short (l : List SgP) (j : Nat) : ShortM (bldM l j) := by
 have key : ∀ (l m : List SgP), ShortM m → ShortM (l.foldl (fun m x => (addM m x.1 x.2).1) m) := by
  intro l
  induction l with
  | nil => intro m h; exact h
  | cons x l ih => intro m h; rw [List.foldl_cons]; exact ih _ (short_add h _ _)
 exact key _ _ short_nil
def R6 (wo : World) (A : Option Addr) (r : List SgP × Int) (v u : Value) (wx : World) : Prop := ∃ A' c, v = .slice A' r.1.length c ∧ u = .int .i64 r.2 ∧ Als wx A' r.1.length r.1 ∧ Ext wo wx ∧ ∀ ad, A' = some ad → A = some ad ∨ (wo.heap.size ≤ ad.block ∧ ad.block < wx.heap.size)
def TwoM (w : World) (gm : Nat) (M : List SgP) (A : Option Addr) (wr : World) : Prop := ∃ T, MemT T wr gm M ∧ (∀ k, T k → w.heap.size ≤ k) ∧ (∀ ad, A = some ad → ¬ T ad.block ∧ ad.block < wr.heap.size) ∧ Als wr A M.length M ∧ Ext w wr
def BdI (w : World) (gm : Nat) (l : List SgP) (v i : Value) (wr : World) : Prop := ∃ (j : Nat) (A : Option Addr) (c : Nat), i = .int .i64 j ∧ j ≤ l.length ∧ v = .slice A (bldM l j).length c ∧ TwoM w gm (bldM l j) A wr
def RetBd (w : World) (l : List SgP) (e : Ending) (w' : World) : Prop := ∃ gm A c, e = .returned (.tuple #[.pointer (some ⟨gm, 0, none⟩), .slice A (buildM l).length c, .bool true]) ∧ TwoM w gm (buildM l) A w'
def R7 (w : World) (gm : Nat) (M : List SgP) (A : Option Addr) (v : Value) (wx : World) : Prop := v = .bool false ∧ TwoM w gm M A wx
set_option maxHeartbeats 4000000 in
theorem build_any (l : List SgP) (A0 : Option Addr) (n0 c0 : Nat) (w : World) (hA : Als w A0 n0 l) (hf : FewS l) : Calls Tryz.prog 12 #[.slice A0 n0 c0] w (RetBd w l) := by
 have hln := hA.len
 subst hln
 have HA := hid hA
 have HF := hid hf
 have hll := hf.1
 clear hA hf
 go_enter Tryz.func12, Tryz.ntmps12
 go_wp2_with fail
 refine (tNew_any w).mono ?_
 rintro e w1 ⟨gm, T0, rfl, hm0, ht0, hx0⟩
 have HI0 := hid (show BdI w gm l (.slice none 0 0) (.int .i64 0) w1 from ⟨0, none, 0, rfl, Nat.zero_le _, rfl, T0, hm0, ht0, fun ad h => (by cases h), SlN.nil _ _ _, hx0⟩)
 clear hm0 ht0 hx0
 go_wp2_with fail
 go_loopw [6, 7] (BdI w gm l) (fun _ i _ => l.length - (intOf i).toNat)
 case atStart => exact HI0.out
 case round =>
  obtain ⟨j, A, c, rfl, hj, rfl, T, hmt, htb, hat, hal, hxw⟩ := hrel
  obtain ⟨wo, rfl⟩ : ∃ wo : World, wo = wr := ⟨_, rfl⟩
  obtain ⟨M, hM⟩ : ∃ M, M = bldM l j := ⟨_, rfl⟩
  rw [← hM] at hmt hal ⊢
  have hMl : M.length ≤ 30 := by rw [hM]; have := bld_len l j; omega
  have HM := hid hM
  have HMT := hid hmt
  have HTB := hid htb
  have HAT := hid hat
  have HAL := hid hal
  have HXW := hid hxw
  clear hM hmt htb hat hal hxw
  by_cases hjl : j < l.length
  ·obtain ⟨x, hx⟩ : ∃ x, l[j]? = some x := ⟨_, List.getElem?_eq_getElem hjl⟩
   obtain ⟨b, o, rfl, hb, d0, d1⟩ := (HA.out.ext HXW.out).at_ hx
   rw [← Nat.add_assoc] at d1
   have hz := HF.out.2 x (List.mem_of_getElem? hx)
   have HX := hid hx
   clear hx
   obtain ⟨p, q⟩ := x
   simp only at d0 d1 hz
   have hjI : (j : Int) < (l.length : Int) := by omega
   have hj0 : (0 : Int) ≤ (j : Int) := by omega
   have HSW := hid (show ∀ W, Ext w W → W.cell? ⟨b, o + j * 2, none⟩ = some (.string p) ∧ W.cell? ⟨b, o + j * 2 + 1, none⟩ = some (.string q) from fun W hW => by
    obtain ⟨b', o', e, _, e0, e1⟩ := (HA.out.ext hW).at_ HX.out
    injection e with e
    injection e with e2 e3 _
    subst e2 e3
    exact ⟨e0, by rw [Nat.add_assoc]; exact e1⟩)
   have KR := hid (fun W (hW : Ext wo W) => rAdd_any M A M.length c p q W (HAL.out.ext hW) (by omega) (by omega) (by omega))
   obtain ⟨r, hr⟩ : ∃ r, r = addM M p q := ⟨_, rfl⟩
   rw [← hr] at KR
   have HR := hid hr
   have HN := hid (show bldM l (j + 1) = r.1 from by rw [bld_next HX.out, ← HM.out, hr])
   clear hr
   go_upto_region 6 with (fail)
   go_cut [8, 9] (R6 wo A r)
   case first =>
    as_aux_lemma =>
    go_region_held3 (fun w' => w'.cell? ⟨b, o + j * 2, none⟩ = some (.string p) ∧ w'.cell? ⟨b, o + j * 2 + 1, none⟩ = some (.string q))
     (first | exact HSW.out _ (HXW.out.trans ((Ext.refl wo).drew.trans hw9)) | exact HSW.out _ (HXW.out.trans (Ext.refl wo).drew) | go_keep)
     (first
      | (go_at_call 30; refine (KR.out _ (Ext.refl wo).drew).mono ?_; rintro e9 w9 ⟨A9, c9, rfl, hs9, hw9, hk9⟩)
      | fail)
    all_goals go_wp2_with fail
    all_goals go_meet
    all_goals exact ⟨A9, c9, rfl, rfl, hs9, (Ext.refl wo).drew.trans hw9, hk9⟩
   case rest =>
   obtain ⟨w5, hw5⟩ : ∃ w5 : World, w5 = wc := ⟨_, rfl⟩
   rw [← hw5] at hcut ⊢
   clear hw5
   obtain ⟨A5, c5, rfl, rfl, hs5, hx5, hk5⟩ := hcut
   have HS5 := hid hs5
   have HX5 := hid hx5
   have HK5 := hid hk5
   have HXW5 := hid (HXW.out.trans hx5)
   have HMT5 := hid (HMT.out.ext hx5)
   have HAT5 := hid (show ∀ ad, A5 = some ad → ¬ T ad.block ∧ ad.block < w5.heap.size from fun ad had => by
    rcases hk5 ad had with h | h
    ·exact ⟨(HAT.out ad h).1, Nat.lt_of_lt_of_le (HAT.out ad h).2 (Ext.size hx5)⟩
    ·exact ⟨fun hT => by have := HMT.out.lt _ hT; omega, h.2⟩)
   have KP := hid (fun W (hW : Ext w5 W) => tAdd_any p q (HMT5.out.ext hW) (by omega) (by unfold maxLen; omega))
   rw [← HR.out] at KP
   clear hs5 hx5 hk5 d0 d1 KR
   go_wp2_with fail
   go_upto_region 7 with (fail)
   go_cut [45] (R7 w gm r.1 A5)
   case first =>
    as_aux_lemma =>
    go_region_held3 (fun w' => w'.cell? ⟨b, o + j * 2, none⟩ = some (.string p) ∧ w'.cell? ⟨b, o + j * 2 + 1, none⟩ = some (.string q))
     (first | exact HSW.out _ hxw9 | exact HSW.out _ (HXW5.out.trans (Ext.refl w5).drew) | go_keep)
     (first
      | (go_at_call 27; refine (KP.out _ (Ext.refl w5).drew).mono ?_; rintro e9 w9 ⟨T9, rfl, hm9, ht9, hx9⟩; have hxw9 : Ext w w9 := HXW5.out.drew.trans_below (hx9.below (B := w.heap.size) (fun k hk => HTB.out k hk) (Ext.size HXW5.out.drew)))
      | fail)
    all_goals go_wp2_with fail
    all_goals go_meet
    all_goals
     refine ⟨by simp, T9, hm9, fun k hk => ?_, fun ad had => ?_, ?_, hxw9⟩
     ·rcases ht9 k hk with h | h
      ·exact HTB.out k h
      ·exact Nat.le_trans (Ext.size HXW5.out.drew) h
     ·refine ⟨fun hT => ?_, Nat.lt_of_lt_of_le (HAT5.out ad had).2 hx9.size⟩
      rcases ht9 _ hT with h | h
      ·exact (HAT5.out ad had).1 h
      ·exact absurd (HAT5.out ad had).2 (by simpa using h)
     ·exact SlN.exc (SlN.ext HS5.out (Ext.refl w5).drew) hx9 (fun ad had => (HAT5.out ad had).1)
   case rest =>
   obtain ⟨w7, hw7⟩ : ∃ w7 : World, w7 = wc := ⟨_, rfl⟩
   rw [← hw7] at hcut ⊢
   clear hw7
   obtain ⟨rfl, h7⟩ := hcut
   have H7 := hid h7
   clear h7
   go_wp2
   exact ⟨⟨j + 1, A5, c5, by go_num, hjl, by rw [HN.out], by rw [HN.out]; exact H7.out⟩, by simp [intOf]; omega⟩
  ·have hje : j = l.length := by omega
   subst hje
   have HMM := hid (show M = buildM l from HM.out.trans (bld_all l))
   go_wp2_with (go_at_call 28; refine (tLen_any HMT.out).mono ?_; rintro e w9 ⟨rfl, rfl⟩)
   refine bodyPost_ret (results_tmp3 rfl _ _ _) rfl ?_
   refine ⟨gm, A, c, ?_, ?_⟩
   ·rw [← HMM.out]
    simp
   ·rw [← HMM.out]
    exact ⟨T, HMT.out, HTB.out, HAT.out, HAL.out, HXW.out⟩
end Go.Proofs.YtiijdojihleggaaGreatDoor
namespace Go.Proofs.YtiijdojihleggaaGreatDoor
open Go.RowKit
end Go.Proofs.YtiijdojihleggaaGreatDoor
