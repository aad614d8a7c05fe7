import Derived.Test.YtljdlkonlnjadaaGreatDoorNXC
set_option maxRecDepth 100000
set_option linter.unusedSimpArgs false
set_option linter.unusedVariables false
open Go.Lib (hid)
namespace Go.Proofs.YtljdlkonlnjadaaGreatDoor
open Go.RowKit
theorem anc_step (t : TagP) (hv : validP t = true) (k : Nat) (cur : TagP) (h : (ancs t)[k]? = some cur) : (upP cur = none → (ancs t).length = k + 1) ∧ ∀ u, upP cur = some u → (ancs t)[k + 1]? = some u := by
 induction k generalizing t with
 | zero =>
   cases hu : upP t with
   | none => rw [ancs_none hu] at h; simp at h
   | some u0 =>
     have h2 := up_valid hv hu
     rw [ancs_up hv hu] at h ⊢
     simp at h
     subst h
     refine ⟨fun hn => by rw [ancs_none hn]; rfl, fun u hu2 => ?_⟩
     rw [ancs_up h2.1 hu2]
     rfl
 | succ k ih =>
   cases hu : upP t with
   | none => rw [ancs_none hu] at h; simp at h
   | some u0 =>
     have h2 := up_valid hv hu
     rw [ancs_up hv hu] at h ⊢
     have h3 := ih u0 h2.1 (by simpa using h)
     refine ⟨fun hn => by rw [List.length_cons, h3.1 hn], fun u hu2 => by simpa using h3.2 u hu2⟩
theorem anc_valid (t : TagP) (hv : validP t = true) (k : Nat) (cur : TagP) (h : (ancs t)[k]? = some cur) : validP cur = true := by
 obtain ⟨hk, hg⟩ := List.getElem?_eq_some_iff.1 h
 obtain ⟨a, u, h1, h2, _, h4, _⟩ := ancs_chain t hv k hk
 rw [h] at h2
 injection h2 with h2
 subst h2
 exact h4
theorem rup2_any (t : TagP) (A : Option Addr) (n c : Nat) (w : World) (hA : Sl w A n (t.vars.map strv)) (hn : n ≤ 60000) (hnc : n ≤ c) (ht : TL t) :
 Calls Tryz.prog 100 #[tagV t A n c] w fun e w' => ∃ A' n' c', e = .returned (.tuple #[tagV (upR t).1 A' n' c', .bool (upR t).2]) ∧ (∀ W0, Later w w' W0 → Sl W0 A n (t.vars.map strv) → Sl W0 A' n' ((upR t).1.vars.map strv)) ∧ n' ≤ c' ∧ Ext w w' := by
 refine (rup_any t A n c w hA hn hnc ht).mono ?_
 rintro e w' ⟨A', n', c', rfl, h1, h2, h3⟩
 exact ⟨A', n', c', rfl, fun W0 _ h => h1 W0 h, h2, h3⟩
def ancL (s : List UInt8) : List (List UInt8) × Int := if (parseP EC s).2 ≠ 0 then ([], (parseP EC s).2) else ((ancs (parseP EC s).1).map textP, 0)
def ASt (T : TypeId) (w : World) (t : TagP) (gg : Nat) (o p ok : Value) (wr : World) : Prop :=
 ∃ (k : Nat) (cur : TagP) (g : Nat) (A : Option Addr) (n c : Nat) (b : Bool), ok = .bool b ∧ p = .pointer (some ⟨g, 0, none⟩) ∧ w.heap.size ≤ g ∧ AtT T wr g (strv cur.lang) (strv cur.script) (strv cur.region) (.slice A n c) ∧
   (∀ W0, Kept o.ownBlock wr W0 → Sl W0 A n (cur.vars.map strv)) ∧ n ≤ c ∧ (b = true → (ancs t)[k]? = some cur ∧ validP cur = true) ∧ (b = false → k = (ancs t).length) ∧ k ≤ (ancs t).length ∧ (ancs t).length - k ≤ gg ∧
   wr.ownsRow w.heap.size 9 1 o k (((ancs t).take k).map fun u => strv (textP u)) ∧ (∀ x, o.ownBlock = some x → x < g) ∧ Ext w wr
theorem upR_none {t : TagP} (h : upP t = none) : upR t = (TagP.zero, false) := by unfold upR; rw [h]
theorem upR_some {t u : TagP} (h : upP t = some u) : upR t = (u, true) := by unfold upR; rw [h]
set_option maxHeartbeats 2000000 in
theorem tanc_any (s : ByteArray) (w : World) (hm : Mx w) (hs : s.size ≤ 60000) :
 Calls Tryz.prog 114 #[.string s] w fun e w' => ∃ A n c, e = .returned (.tuple #[.slice A n c, .int .i64 (ancL s.data.toList).2]) ∧ Sl w' A n ((ancL s.data.toList).1.map strv) ∧ n ≤ c ∧ Ext w w' := by
 obtain ⟨i0, hi, hz0, hz1, hz2⟩ := info_parts (show (Tryz.prog.info? 9).map (fun i => (i.zero, i.size, i.bytes)) = some (some (.string ⟨#[]⟩), 1, 16) from by kernel_rfl)
 generalize hP : ancL s.data.toList = PR
 have hpr : PR = ancL s.data.toList := hP.symm
 clear hP
 unfold ancL at hpr
 have hok := @parse_ok s.data.toList
 have hpa := fun W (hM : Mx W) => tparse_any s W hM hs
 generalize parseP EC s.data.toList = R at hok hpa hpr
 obtain ⟨t, code⟩ := R
 have HOK := hid hok
 have HPA := hid hpa
 clear hok hpa
 by_cases h0 : code = 0
 ·subst h0
  have HV := hid (HOK.out rfl)
  simp only [ne_eq, not_true_eq_false, if_false] at hpr
  have HPR := hid hpr
  clear hpr
  go_enter Tryz.func114, Tryz.ntmps114
  go_wp2_with fail
  refine (HPA.out _ hm).mono ?_
  rintro e w1 ⟨A, n, c, rfl, hs1, hnc, hw1⟩
  have hn := n_le hs1 (TL_of HV.out)
  have HS1 := hid hs1
  have HW1 := hid hw1
  clear hs1 hw1
  unfold tagV strv
  go_wp2_with fail
  have h4 := tparent_any t A n c (w1.alloc (.cells #[strv t.lang, strv t.script, strv t.region, .slice A n c] 143)) (HS1.out.ext ((Ext.refl w1).alloc _)) hn hnc (TL_of HV.out)
  have h4' : Calls Tryz.prog 117 #[.agg #[.string ⟨t.lang.toArray⟩, .string ⟨t.script.toArray⟩, .string ⟨t.region.toArray⟩, .slice A n c]] (w1.alloc (.cells #[.string ⟨t.lang.toArray⟩, .string ⟨t.script.toArray⟩, .string ⟨t.region.toArray⟩, .slice A n c] 143)) fun e w' => ∃ (u : TagP) (b : Bool) (A' : Option Addr) (n' c' : Nat), e = .returned (.tuple #[.agg #[.string ⟨u.lang.toArray⟩, .string ⟨u.script.toArray⟩, .string ⟨u.region.toArray⟩, .slice A' n' c'], .bool b]) ∧ (u, b) = upR t ∧ Sl w' A' n' (u.vars.map strv) ∧ n' ≤ c' ∧ Ext (w1.alloc (.cells #[.string ⟨t.lang.toArray⟩, .string ⟨t.script.toArray⟩, .string ⟨t.region.toArray⟩, .slice A n c] 143)) w' := by
   refine h4.mono ?_
   rintro e w' ⟨A', n', c', rfl, h1, h2, h3⟩
   exact ⟨(upR t).1, (upR t).2, A', n', c', rfl, rfl, h1 w' (Later.refl _ _) (HS1.out.ext (Ext.trans ((Ext.refl w1).alloc _) h3)), h2, h3⟩
  with_reducible refine h4'.mono ?_
  clear h4 h4'
  rintro e w3 ⟨u0, b0, A3, n3, c3, rfl, hu0, hs3, hc3, hw3⟩
  have HU0 := hid hu0
  have HS3 := hid hs3
  have HW3 := hid ((HW1.out.alloc _).trans hw3)
  clear hu0 hs3 hw3
  go_wp2
  go_loopg [6, 7, 8] (ancs t).length (fun gg o p ok wr => ASt 143 w t gg o p ok wr)
  case atStart =>
   refine ⟨0, u0, w3.heap.size, A3, n3, c3, b0, rfl, rfl, Ext.size HW3.out, AtT.new w3, fun W0 hk => ?_, hc3, fun hb => ?_, fun hb => ?_, Nat.zero_le _, by omega, World.ownsRow_nil _ _ _ _, (fun x hx => by cases hx), HW3.out.alloc _⟩
   ·exact (HS3.out.ext ((Ext.refl w3).alloc (.cells #[.string ⟨u0.lang.toArray⟩, .string ⟨u0.script.toArray⟩, .string ⟨u0.region.toArray⟩, .slice A3 n3 c3] 143))).kept hk (fun ad _ h => by cases h)
   ·subst hb
    have hu := HU0.out
    cases hup : upP t with
    | none => rw [upR_none hup] at hu; cases hu
    | some u =>
      rw [upR_some hup] at hu
      injection hu with hu _
      subst hu
      have hv := up_valid HV.out hup
      exact ⟨by rw [ancs_up HV.out hup]; rfl, hv.1⟩
   ·subst hb
    have hu := HU0.out
    cases hup : upP t with
    | none => rw [ancs_none hup]; rfl
    | some u => rw [upR_some hup] at hu; cases hu
  case round =>
   obtain ⟨k, cur, g, A5, n5, c5, b, rfl, rfl, hg, hat, hsl, hnc5, hbt, hbf, hk, hgg, ho, hog, hw⟩ := hrel
   have HAT := hid hat
   have HSL := hid hsl
   have HO := hid ho
   have HOG := hid hog
   have HW := hid hw
   clear hat hsl ho hog hw HS3 HW3 HU0
   cases b with
   | false =>
     have hkl := hbf rfl
     have HF := hid (show ((ancs t).take k).map (fun u => strv (textP u)) = ((ancs t).map textP).map strv from by
      rw [hkl, List.take_of_length_le (Nat.le_refl _), List.map_map]; rfl)
     obtain ⟨A6, c6, rfl, hs6, hc6⟩ := own_sl HO.out
     have HS6 := hid hs6
     clear hs6 hbt hbf hkl
     go_wp2
     go_ret2
     rw [HPR.out]
     refine ⟨A6, k, c6, rfl, ?_, hc6, HW.out⟩
     rw [← HF.out]
     exact HS6.out
   | true =>
     obtain ⟨hcur, hvc⟩ := hbt rfl
     have hstep := anc_step t HV.out k cur hcur
     have HVC := hid hvc
     have HCUR := hid hcur
     have HSTEP := hid hstep
     obtain ⟨⟨p0, p1, p2, p3⟩, ⟨e0, e1, e2, e3⟩⟩ := HAT.out.cells
     unfold strv at p0 p1 p2
     have hn5 := n_le (HSL.out wr (Kept.refl _ _)) (TL_of hvc)
     clear hbt hbf hcur hvc hstep
     go_wp2_with fail
     have h5 := ttext_any cur A5 n5 c5 wr (HSL.out wr (Kept.refl _ _)) (n_le (HSL.out wr (Kept.refl _ _)) (TL_of HVC.out)) (by have := textP_len HVC.out; omega)
     unfold tagV strv at h5
     with_reducible refine h5.mono ?_
     clear h5
     rintro e w4 ⟨rfl, hw4⟩
     have HW4 := hid hw4
     have hk60 : k ≤ 60000 := by have := ancs_len _ t HV.out rfl; have := rank_le HV.out; omega
     clear p0 p1 p2 p3 e0 e1 e2 e3
     obtain ⟨⟨p0, p1, p2, p3⟩, _⟩ := (HAT.out.ext hw4).cells
     unfold strv at p0 p1 p2
     clear hw4
     go_wp2_with (at_builtin; refine wpList_app2 _ rfl _ _ 35 rfl w.heap.size 9 i0 _ 16 Tryz.underlying35 hi hz0 hz1 hz2 rfl _ k _ rfl ((own_ext HO.out HW4.out).alloc _) _ 1 _ _ rfl (Sl.one _ _ _) (by simp [Value.oneCell']) (by unfold maxLen; omega) (by omega) (by have := Ext.size (HW.out.trans HW4.out); simp; omega) ?_; intro v5 w5 hown5 hgrow5 hwh5; have HO5 := hid hown5; have HG5 := hid hgrow5; have HWH := hid hwh5; obtain ⟨⟨q0, q1, q2, q3⟩, _⟩ := (show AtT 143 w5 g _ _ _ _ from (hgrow5.block g (by have := (HAT.out.ext HW4.out).lt; simp; omega) (fun e => by have := HOG.out g e.symm; omega)).trans ((HAT.out.ext HW4.out).ext ((Ext.refl w4).alloc _))).cells; unfold strv at q0 q1 q2; clear hown5 hgrow5 hwh5)
     have HK5 := hid (((Kept.ext u6.ownBlock HW4.out).trans (Kept.ext u6.ownBlock ((Ext.refl w4).alloc (.cells #[.string ⟨(textP cur).toArray⟩] 9))) (.inl rfl)).trans (Kept.grown HG5.out) (.inl rfl))
     have HK6 := hid (HK5.out.trans (Kept.ext u6.ownBlock ((Ext.refl w5).alloc (.cells #[.string ⟨cur.lang.toArray⟩, .string ⟨cur.script.toArray⟩, .string ⟨cur.region.toArray⟩, .slice A5 n5 c5] 143))) (.inl rfl))
     have HX5 := hid (ext_grown (a := w) (B := w.heap.size) ((HW.out.trans HW4.out).alloc (.cells #[.string ⟨(textP cur).toArray⟩] 9)) ((own_ext HO.out HW4.out).alloc _) (Nat.le_refl _) HG5.out)
     have h6 := tparent_any cur A5 n5 c5 (w5.alloc (.cells #[strv cur.lang, strv cur.script, strv cur.region, .slice A5 n5 c5] 143)) (HSL.out _ HK6.out) hn5 hnc5 (TL_of HVC.out)
     have h6' : Calls Tryz.prog 117 #[.agg #[.string ⟨cur.lang.toArray⟩, .string ⟨cur.script.toArray⟩, .string ⟨cur.region.toArray⟩, .slice A5 n5 c5]] (w5.alloc (.cells #[.string ⟨cur.lang.toArray⟩, .string ⟨cur.script.toArray⟩, .string ⟨cur.region.toArray⟩, .slice A5 n5 c5] 143)) fun e w' => ∃ (u : TagP) (b : Bool) (A' : Option Addr) (n' c' : Nat), e = .returned (.tuple #[.agg #[.string ⟨u.lang.toArray⟩, .string ⟨u.script.toArray⟩, .string ⟨u.region.toArray⟩, .slice A' n' c'], .bool b]) ∧ (u, b) = upR cur ∧ (∀ W0, Later (w5.alloc (.cells #[.string ⟨cur.lang.toArray⟩, .string ⟨cur.script.toArray⟩, .string ⟨cur.region.toArray⟩, .slice A5 n5 c5] 143)) w' W0 → Sl W0 A5 n5 (cur.vars.map strv) → Sl W0 A' n' (u.vars.map strv)) ∧ n' ≤ c' ∧ Ext (w5.alloc (.cells #[.string ⟨cur.lang.toArray⟩, .string ⟨cur.script.toArray⟩, .string ⟨cur.region.toArray⟩, .slice A5 n5 c5] 143)) w' := by
      refine h6.mono ?_
      rintro e w' ⟨A', n', c', rfl, h1, h2, h3⟩
      exact ⟨(upR cur).1, (upR cur).2, A', n', c', rfl, rfl, h1, h2, h3⟩
     with_reducible refine h6'.mono ?_
     clear h6 h6'
     rintro e w7 ⟨u, b2, A7, n7, c7, rfl, hu7, hs7, hc7, hw7⟩
     have HU7 := hid hu7
     have HS7 := hid hs7
     have HW7 := hid hw7
     have hat7 := ((AtT.new w5 : AtT 143 (w5.alloc (.cells #[.string ⟨cur.lang.toArray⟩, .string ⟨cur.script.toArray⟩, .string ⟨cur.region.toArray⟩, .slice A5 n5 c5] 143)) w5.heap.size _ _ _ _).ext hw7)
     have HAT7 := hid hat7
     obtain ⟨⟨r0, r1, r2, r3⟩, ⟨f0, f1, f2, f3⟩⟩ := hat7.cells
     have hlt5 : ∀ x, v5.ownBlock = some x → x < w5.heap.size := fun x hx => (HO5.out.lt x hx).2
     have HLT5 := hid hlt5
     clear hu7 hs7 hw7 hat7 hlt5 q0 q1 q2 q3 p0 p1 p2 p3
     go_wp2
     have hkl : k < (ancs t).length := (List.getElem?_eq_some_iff.1 HCUR.out).1
     have hwr5 : wr.heap.size ≤ w5.heap.size := HK5.out.1
     have hset := set4_kept w7 w5.heap.size (.string ⟨u.lang.toArray⟩) (.string ⟨u.script.toArray⟩) (.string ⟨u.region.toArray⟩) (.slice A7 n7 c7)
     go_roundg ((ancs t).length - (k + 1))
     case measure => omega
     case rel =>
      refine ⟨k + 1, u, w5.heap.size, A7, n7, c7, b2, rfl, rfl, Ext.size HX5.out, set4 HAT7.out _ _ _ _, fun W0 hk0 => ?_, hc7, fun hb => ?_, fun hb => ?_, by omega, by omega, ?_, HLT5.out, ?_⟩
      ·have hkw7 : Kept u6.ownBlock wr w7 := HK6.out.trans (Kept.ext u6.ownBlock HW7.out) (.inl rfl)
       have hkw8 := hkw7.trans (⟨hset.1, fun b hb hn => hset.2 b (fun e => hn (by rw [e]))⟩ : Kept (some w5.heap.size) w7 _) (.inr fun x hx => by injection hx with hx; omega)
       have hkw0 := hkw8.trans hk0 (by
        rcases HWH.out with h | h
        ·exact .inl h
        ·refine .inr fun x hx => ?_
         have h1 := h x hx
         have h2 := Ext.size HW4.out
         simp at h1
         omega)
       refine HS7.out W0 ⟨Nat.le_trans hset.1 hk0.1, fun b hb1 hb2 => ?_⟩ (HSL.out W0 hkw0)
       simp at hb1
       refine (hk0.2 b (Nat.lt_of_lt_of_le hb2 hset.1) fun e => ?_).trans (hset.2 b (by omega))
       have := HLT5.out b e.symm
       omega
      ·subst hb
       have hu := HU7.out
       cases hup : upP cur with
       | none => rw [upR_none hup] at hu; cases hu
       | some u2 =>
         rw [upR_some hup] at hu
         injection hu with hu _
         subst hu
         have h1 := HSTEP.out.2 _ hup
         exact ⟨h1, anc_valid t HV.out _ _ h1⟩
      ·subst hb
       have hu := HU7.out
       cases hup : upP cur with
       | none => exact (HSTEP.out.1 hup).symm
       | some u2 => rw [upR_some hup] at hu; cases hu
      ·have hne : ∀ j, v5.ownBlock ≠ some (⟨w5.heap.size, j, none⟩ : Addr).block := fun j e => by
        have := HLT5.out _ e
        exact absurd this (Nat.lt_irrefl _)
       have h1 := own_ext HO5.out (((Ext.refl w5).alloc (.cells #[.string ⟨cur.lang.toArray⟩, .string ⟨cur.script.toArray⟩, .string ⟨cur.region.toArray⟩, .slice A5 n5 c5] 143)).trans HW7.out)
       have h2 := ownsRow_setCell_other (ownsRow_setCell_other (ownsRow_setCell_other (ownsRow_setCell_other h1 (hne 0) (.string ⟨u.lang.toArray⟩)) (hne 1) (.string ⟨u.script.toArray⟩)) (hne 2) (.string ⟨u.region.toArray⟩)) (hne 3) (.slice A7 n7 c7)
       rw [take_next HCUR.out, List.map_append]
       exact h2
      ·have hle := Ext.size HX5.out
       exact (((((HX5.out.alloc _).trans HW7.out).setCell (p := ⟨w5.heap.size, 0, none⟩) hle _).setCell (p := ⟨w5.heap.size, 1, none⟩) hle _).setCell (p := ⟨w5.heap.size, 2, none⟩) hle _).setCell (p := ⟨w5.heap.size, 3, none⟩) hle _
 ·simp only [ne_eq, h0, not_false_eq_true, if_true] at hpr
  have HPR := hid hpr
  clear hpr
  have hb : (code == 0) = false := by simpa using h0
  have hb2 : (!code == 0) = true := by simpa using h0
  go_enter Tryz.func114, Tryz.ntmps114
  go_wp2_with fail
  refine (HPA.out _ hm).mono ?_
  rintro e w1 ⟨A, n, c, rfl, hs1, hnc, hw1⟩
  have HW1 := hid hw1
  clear hs1 hw1
  unfold tagV strv
  go_wp2
  go_ret2
  rw [HPR.out]
  exact ⟨none, 0, 0, rfl, Sl.nil _ _, Nat.le_refl _, HW1.out.alloc _⟩
set_option maxHeartbeats 2000000 in
theorem ranc_any (s : ByteArray) (w : World) (hs : s.size ≤ 60000) :
 Calls Tryz.prog 76 #[.string s] w fun e w' => ∃ A n c, e = .returned (.tuple #[.slice A n c, .int .i64 (ancL s.data.toList).2]) ∧ Sl w' A n ((ancL s.data.toList).1.map strv) ∧ n ≤ c ∧ Ext w w' := by
 obtain ⟨i0, hi, hz0, hz1, hz2⟩ := info_parts (show (Tryz.prog.info? 9).map (fun i => (i.zero, i.size, i.bytes)) = some (some (.string ⟨#[]⟩), 1, 16) from by kernel_rfl)
 generalize hP : ancL s.data.toList = PR
 have hpr : PR = ancL s.data.toList := hP.symm
 clear hP
 unfold ancL at hpr
 have hok := @parse_ok s.data.toList
 have hpa := fun W => rparse_any s W (by omega)
 generalize parseP EC s.data.toList = R at hok hpa hpr
 obtain ⟨t, code⟩ := R
 have HOK := hid hok
 have HPA := hid hpa
 clear hok hpa
 by_cases h0 : code = 0
 ·subst h0
  have HV := hid (HOK.out rfl)
  simp only [ne_eq, not_true_eq_false, if_false] at hpr
  have HPR := hid hpr
  clear hpr
  go_enter Tryz.func76, Tryz.ntmps76
  go_wp2_with fail
  refine (HPA.out _).mono ?_
  rintro e w1 ⟨A, n, c, rfl, hs1, hnc, hw1⟩
  have hn := n_le hs1 (TL_of HV.out)
  have HS1 := hid hs1
  have HW1 := hid hw1
  clear hs1 hw1
  unfold tagV strv
  go_wp2_with fail
  have h4 := rup2_any t A n c (w1.alloc (.cells #[strv t.lang, strv t.script, strv t.region, .slice A n c] 153)) (HS1.out.ext ((Ext.refl w1).alloc _)) hn hnc (TL_of HV.out)
  have h4' : Calls Tryz.prog 100 #[.agg #[.string ⟨t.lang.toArray⟩, .string ⟨t.script.toArray⟩, .string ⟨t.region.toArray⟩, .slice A n c]] (w1.alloc (.cells #[.string ⟨t.lang.toArray⟩, .string ⟨t.script.toArray⟩, .string ⟨t.region.toArray⟩, .slice A n c] 153)) fun e w' => ∃ (u : TagP) (b : Bool) (A' : Option Addr) (n' c' : Nat), e = .returned (.tuple #[.agg #[.string ⟨u.lang.toArray⟩, .string ⟨u.script.toArray⟩, .string ⟨u.region.toArray⟩, .slice A' n' c'], .bool b]) ∧ (u, b) = upR t ∧ Sl w' A' n' (u.vars.map strv) ∧ n' ≤ c' ∧ Ext (w1.alloc (.cells #[.string ⟨t.lang.toArray⟩, .string ⟨t.script.toArray⟩, .string ⟨t.region.toArray⟩, .slice A n c] 153)) w' := by
   refine h4.mono ?_
   rintro e w' ⟨A', n', c', rfl, h1, h2, h3⟩
   exact ⟨(upR t).1, (upR t).2, A', n', c', rfl, rfl, h1 w' (Later.refl _ _) (HS1.out.ext (Ext.trans ((Ext.refl w1).alloc _) h3)), h2, h3⟩
  with_reducible refine h4'.mono ?_
  clear h4 h4'
  rintro e w3 ⟨u0, b0, A3, n3, c3, rfl, hu0, hs3, hc3, hw3⟩
  have HU0 := hid hu0
  have HS3 := hid hs3
  have HW3 := hid ((HW1.out.alloc _).trans hw3)
  clear hu0 hs3 hw3
  go_wp2
  go_loopg [6, 7, 8] (ancs t).length (fun gg o p ok wr => ASt 153 w t gg o p ok wr)
  case atStart =>
   refine ⟨0, u0, w3.heap.size, A3, n3, c3, b0, rfl, rfl, Ext.size HW3.out, AtT.new w3, fun W0 hk => ?_, hc3, fun hb => ?_, fun hb => ?_, Nat.zero_le _, by omega, World.ownsRow_nil _ _ _ _, (fun x hx => by cases hx), HW3.out.alloc _⟩
   ·exact (HS3.out.ext ((Ext.refl w3).alloc (.cells #[.string ⟨u0.lang.toArray⟩, .string ⟨u0.script.toArray⟩, .string ⟨u0.region.toArray⟩, .slice A3 n3 c3] 153))).kept hk (fun ad _ h => by cases h)
   ·subst hb
    have hu := HU0.out
    cases hup : upP t with
    | none => rw [upR_none hup] at hu; cases hu
    | some u =>
      rw [upR_some hup] at hu
      injection hu with hu _
      subst hu
      have hv := up_valid HV.out hup
      exact ⟨by rw [ancs_up HV.out hup]; rfl, hv.1⟩
   ·subst hb
    have hu := HU0.out
    cases hup : upP t with
    | none => rw [ancs_none hup]; rfl
    | some u => rw [upR_some hup] at hu; cases hu
  case round =>
   obtain ⟨k, cur, g, A5, n5, c5, b, rfl, rfl, hg, hat, hsl, hnc5, hbt, hbf, hk, hgg, ho, hog, hw⟩ := hrel
   have HAT := hid hat
   have HSL := hid hsl
   have HO := hid ho
   have HOG := hid hog
   have HW := hid hw
   clear hat hsl ho hog hw HS3 HW3 HU0
   cases b with
   | false =>
     have hkl := hbf rfl
     have HF := hid (show ((ancs t).take k).map (fun u => strv (textP u)) = ((ancs t).map textP).map strv from by
      rw [hkl, List.take_of_length_le (Nat.le_refl _), List.map_map]; rfl)
     obtain ⟨A6, c6, rfl, hs6, hc6⟩ := own_sl HO.out
     have HS6 := hid hs6
     clear hs6 hbt hbf hkl
     go_wp2
     go_ret2
     rw [HPR.out]
     refine ⟨A6, k, c6, rfl, ?_, hc6, HW.out⟩
     rw [← HF.out]
     exact HS6.out
   | true =>
     obtain ⟨hcur, hvc⟩ := hbt rfl
     have hstep := anc_step t HV.out k cur hcur
     have HVC := hid hvc
     have HCUR := hid hcur
     have HSTEP := hid hstep
     obtain ⟨⟨p0, p1, p2, p3⟩, ⟨e0, e1, e2, e3⟩⟩ := HAT.out.cells
     unfold strv at p0 p1 p2
     have hn5 := n_le (HSL.out wr (Kept.refl _ _)) (TL_of hvc)
     clear hbt hbf hcur hvc hstep
     go_wp2_with fail
     have h5 := rText_any cur A5 n5 c5 wr (HSL.out wr (Kept.refl _ _)) (TL_of HVC.out)
     rw [txt_valid HVC.out] at h5
     unfold tagV strv at h5
     with_reducible refine h5.mono ?_
     clear h5
     rintro e w4 ⟨rfl, hw4⟩
     have HW4 := hid hw4
     have hk60 : k ≤ 60000 := by have := ancs_len _ t HV.out rfl; have := rank_le HV.out; omega
     clear p0 p1 p2 p3 e0 e1 e2 e3
     obtain ⟨⟨p0, p1, p2, p3⟩, _⟩ := (HAT.out.ext hw4).cells
     unfold strv at p0 p1 p2
     clear hw4
     go_wp2_with (at_builtin; refine wpList_app2 _ rfl _ _ 35 rfl w.heap.size 9 i0 _ 16 Tryz.underlying35 hi hz0 hz1 hz2 rfl _ k _ rfl ((own_ext HO.out HW4.out).alloc _) _ 1 _ _ rfl (Sl.one _ _ _) (by simp [Value.oneCell']) (by unfold maxLen; omega) (by omega) (by have := Ext.size (HW.out.trans HW4.out); simp; omega) ?_; intro v5 w5 hown5 hgrow5 hwh5; have HO5 := hid hown5; have HG5 := hid hgrow5; have HWH := hid hwh5; obtain ⟨⟨q0, q1, q2, q3⟩, _⟩ := (show AtT 153 w5 g _ _ _ _ from (hgrow5.block g (by have := (HAT.out.ext HW4.out).lt; simp; omega) (fun e => by have := HOG.out g e.symm; omega)).trans ((HAT.out.ext HW4.out).ext ((Ext.refl w4).alloc _))).cells; unfold strv at q0 q1 q2; clear hown5 hgrow5 hwh5)
     have HK5 := hid (((Kept.ext u6.ownBlock HW4.out).trans (Kept.ext u6.ownBlock ((Ext.refl w4).alloc (.cells #[.string ⟨(textP cur).toArray⟩] 9))) (.inl rfl)).trans (Kept.grown HG5.out) (.inl rfl))
     have HK6 := hid (HK5.out.trans (Kept.ext u6.ownBlock ((Ext.refl w5).alloc (.cells #[.string ⟨cur.lang.toArray⟩, .string ⟨cur.script.toArray⟩, .string ⟨cur.region.toArray⟩, .slice A5 n5 c5] 153))) (.inl rfl))
     have HX5 := hid (ext_grown (a := w) (B := w.heap.size) ((HW.out.trans HW4.out).alloc (.cells #[.string ⟨(textP cur).toArray⟩] 9)) ((own_ext HO.out HW4.out).alloc _) (Nat.le_refl _) HG5.out)
     have h6 := rup2_any cur A5 n5 c5 (w5.alloc (.cells #[strv cur.lang, strv cur.script, strv cur.region, .slice A5 n5 c5] 153)) (HSL.out _ HK6.out) hn5 hnc5 (TL_of HVC.out)
     have h6' : Calls Tryz.prog 100 #[.agg #[.string ⟨cur.lang.toArray⟩, .string ⟨cur.script.toArray⟩, .string ⟨cur.region.toArray⟩, .slice A5 n5 c5]] (w5.alloc (.cells #[.string ⟨cur.lang.toArray⟩, .string ⟨cur.script.toArray⟩, .string ⟨cur.region.toArray⟩, .slice A5 n5 c5] 153)) fun e w' => ∃ (u : TagP) (b : Bool) (A' : Option Addr) (n' c' : Nat), e = .returned (.tuple #[.agg #[.string ⟨u.lang.toArray⟩, .string ⟨u.script.toArray⟩, .string ⟨u.region.toArray⟩, .slice A' n' c'], .bool b]) ∧ (u, b) = upR cur ∧ (∀ W0, Later (w5.alloc (.cells #[.string ⟨cur.lang.toArray⟩, .string ⟨cur.script.toArray⟩, .string ⟨cur.region.toArray⟩, .slice A5 n5 c5] 153)) w' W0 → Sl W0 A5 n5 (cur.vars.map strv) → Sl W0 A' n' (u.vars.map strv)) ∧ n' ≤ c' ∧ Ext (w5.alloc (.cells #[.string ⟨cur.lang.toArray⟩, .string ⟨cur.script.toArray⟩, .string ⟨cur.region.toArray⟩, .slice A5 n5 c5] 153)) w' := by
      refine h6.mono ?_
      rintro e w' ⟨A', n', c', rfl, h1, h2, h3⟩
      exact ⟨(upR cur).1, (upR cur).2, A', n', c', rfl, rfl, h1, h2, h3⟩
     with_reducible refine h6'.mono ?_
     clear h6 h6'
     rintro e w7 ⟨u, b2, A7, n7, c7, rfl, hu7, hs7, hc7, hw7⟩
     have HU7 := hid hu7
     have HS7 := hid hs7
     have HW7 := hid hw7
     have hat7 := ((AtT.new w5 : AtT 153 (w5.alloc (.cells #[.string ⟨cur.lang.toArray⟩, .string ⟨cur.script.toArray⟩, .string ⟨cur.region.toArray⟩, .slice A5 n5 c5] 153)) w5.heap.size _ _ _ _).ext hw7)
     have HAT7 := hid hat7
     obtain ⟨⟨r0, r1, r2, r3⟩, ⟨f0, f1, f2, f3⟩⟩ := hat7.cells
     have hlt5 : ∀ x, v5.ownBlock = some x → x < w5.heap.size := fun x hx => (HO5.out.lt x hx).2
     have HLT5 := hid hlt5
     clear hu7 hs7 hw7 hat7 hlt5 q0 q1 q2 q3 p0 p1 p2 p3
     go_wp2
     have hkl : k < (ancs t).length := (List.getElem?_eq_some_iff.1 HCUR.out).1
     have hwr5 : wr.heap.size ≤ w5.heap.size := HK5.out.1
     have hset := set4_kept w7 w5.heap.size (.string ⟨u.lang.toArray⟩) (.string ⟨u.script.toArray⟩) (.string ⟨u.region.toArray⟩) (.slice A7 n7 c7)
     go_roundg ((ancs t).length - (k + 1))
     case measure => omega
     case rel =>
      refine ⟨k + 1, u, w5.heap.size, A7, n7, c7, b2, rfl, rfl, Ext.size HX5.out, set4 HAT7.out _ _ _ _, fun W0 hk0 => ?_, hc7, fun hb => ?_, fun hb => ?_, by omega, by omega, ?_, HLT5.out, ?_⟩
      ·have hkw7 : Kept u6.ownBlock wr w7 := HK6.out.trans (Kept.ext u6.ownBlock HW7.out) (.inl rfl)
       have hkw8 := hkw7.trans (⟨hset.1, fun b hb hn => hset.2 b (fun e => hn (by rw [e]))⟩ : Kept (some w5.heap.size) w7 _) (.inr fun x hx => by injection hx with hx; omega)
       have hkw0 := hkw8.trans hk0 (by
        rcases HWH.out with h | h
        ·exact .inl h
        ·refine .inr fun x hx => ?_
         have h1 := h x hx
         have h2 := Ext.size HW4.out
         simp at h1
         omega)
       refine HS7.out W0 ⟨Nat.le_trans hset.1 hk0.1, fun b hb1 hb2 => ?_⟩ (HSL.out W0 hkw0)
       simp at hb1
       refine (hk0.2 b (Nat.lt_of_lt_of_le hb2 hset.1) fun e => ?_).trans (hset.2 b (by omega))
       have := HLT5.out b e.symm
       omega
      ·subst hb
       have hu := HU7.out
       cases hup : upP cur with
       | none => rw [upR_none hup] at hu; cases hu
       | some u2 =>
         rw [upR_some hup] at hu
         injection hu with hu _
         subst hu
         have h1 := HSTEP.out.2 _ hup
         exact ⟨h1, anc_valid t HV.out _ _ h1⟩
      ·subst hb
       have hu := HU7.out
       cases hup : upP cur with
       | none => exact (HSTEP.out.1 hup).symm
       | some u2 => rw [upR_some hup] at hu; cases hu
      ·have hne : ∀ j, v5.ownBlock ≠ some (⟨w5.heap.size, j, none⟩ : Addr).block := fun j e => by
        have := HLT5.out _ e
        exact absurd this (Nat.lt_irrefl _)
       have h1 := own_ext HO5.out (((Ext.refl w5).alloc (.cells #[.string ⟨cur.lang.toArray⟩, .string ⟨cur.script.toArray⟩, .string ⟨cur.region.toArray⟩, .slice A5 n5 c5] 153)).trans HW7.out)
       have h2 := ownsRow_setCell_other (ownsRow_setCell_other (ownsRow_setCell_other (ownsRow_setCell_other h1 (hne 0) (.string ⟨u.lang.toArray⟩)) (hne 1) (.string ⟨u.script.toArray⟩)) (hne 2) (.string ⟨u.region.toArray⟩)) (hne 3) (.slice A7 n7 c7)
       rw [take_next HCUR.out, List.map_append]
       exact h2
      ·have hle := Ext.size HX5.out
       exact (((((HX5.out.alloc _).trans HW7.out).setCell (p := ⟨w5.heap.size, 0, none⟩) hle _).setCell (p := ⟨w5.heap.size, 1, none⟩) hle _).setCell (p := ⟨w5.heap.size, 2, none⟩) hle _).setCell (p := ⟨w5.heap.size, 3, none⟩) hle _
 ·simp only [ne_eq, h0, not_false_eq_true, if_true] at hpr
  have HPR := hid hpr
  clear hpr
  have hb : (code == 0) = false := by simpa using h0
  have hb2 : (!code == 0) = true := by simpa using h0
  go_enter Tryz.func76, Tryz.ntmps76
  go_wp2_with fail
  refine (HPA.out _).mono ?_
  rintro e w1 ⟨A, n, c, rfl, hs1, hnc, hw1⟩
  have HW1 := hid hw1
  clear hs1 hw1
  unfold tagV strv
  go_wp2
  go_ret2
  rw [HPR.out]
  exact ⟨none, 0, 0, rfl, Sl.nil _ _, Nat.le_refl _, HW1.out.alloc _⟩
end Go.Proofs.YtljdlkonlnjadaaGreatDoor
