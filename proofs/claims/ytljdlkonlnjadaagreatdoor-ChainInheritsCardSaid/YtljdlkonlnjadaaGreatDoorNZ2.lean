import Derived.Test.YtljdlkonlnjadaaGreatDoorNZ1
import Derived.Test.YtljdlkonlnjadaaGreatDoorNXC
import Derived.Test.YtljdlkonlnjadaaGreatDoorAnc
import Derived.Test.YtljdlkonlnjadaaGreatDoorNXE
import Derived.Test.YtljdlkonlnjadaaGreatDoorNX4
set_option maxRecDepth 100000
set_option linter.unusedSimpArgs false
set_option linter.unusedVariables false
open Go.Lib (hid)
namespace Go.Proofs.YtljdlkonlnjadaaGreatDoor
open Go.RowKit
theorem ctext_any (s : ByteArray) (w : World) (hm : Mx w) (hs : s.size ≤ 60000) :
 Calls Tryz.prog 79 #[.string s] w fun e w' => e = .returned (.bool (isP s.data.toList)) ∧ Ext w w' := by
 have hc := tcan_any s w hm hs
 generalize hI : isP s.data.toList = I
 unfold isP at hI
 generalize canP s.data.toList = C at hc hI
 obtain ⟨x, code⟩ := C
 obtain ⟨xb, hx1, rfl⟩ := strv_b x
 simp only at hc hI
 rw [hx1] at hc
 have HI := hid hI
 have HC := hid hc
 clear hx1 hI hc
 by_cases h0 : code = 0
 ·have hb : (code == 0) = true := by simpa using h0
  have HI2 := hid (show I = (xb.toList == s.toList) from by rw [← HI.out, hb, eq_b]; rfl)
  go_enter Tryz.func79, Tryz.ntmps79
  go_wp2_with (go_at_call 101; refine (HC.out).mono ?_; rintro e w1 ⟨rfl, hw1⟩; have HW1 := hid hw1; clear hw1)
  all_goals go_ret
  all_goals exact ⟨ret_bool (by rw [HI2.out]; try simp_all), HW1.out⟩
 ·have hb : (code == 0) = false := by simpa using h0
  have HI2 := hid (show I = false from by rw [← HI.out, hb]; rfl)
  go_enter Tryz.func79, Tryz.ntmps79
  go_wp2_with (go_at_call 101; refine (HC.out).mono ?_; rintro e w1 ⟨rfl, hw1⟩; have HW1 := hid hw1; clear hw1)
  go_ret
  exact ⟨ret_bool HI2.out.symm, HW1.out⟩
theorem anc_len (s : BytesC) : (ancL s).1.length ≤ 7 := by
 unfold ancL
 by_cases h : (parseP EC s).2 = 0
 ·rw [if_neg (by simpa using h)]
  rw [List.length_map, ancs_len _ _ (parse_ok h) rfl]
  exact rank_le (parse_ok h)
 ·rw [if_pos h]; simp
def NoAnc (T : List LocP) (l : List BytesC) (k : Nat) : Prop := ∀ j x, j < k → l[j]? = some x → idxC T x = none
theorem noAnc_zero (T : List LocP) (l : List BytesC) : NoAnc T l 0 := fun j x h _ => absurd h (Nat.not_lt_zero j)
theorem noAnc_next {T : List LocP} {l : List BytesC} {k : Nat} {x : BytesC} (h : NoAnc T l k) (hx : l[k]? = some x) (hq : idxC T x = none) : NoAnc T l (k + 1) := fun j y hj hy => by
 by_cases e : j = k
 ·subst e; rw [hx] at hy; injection hy with hy; subst hy; exact hq
 ·exact h j y (by omega) hy
theorem noAnc_take {T : List LocP} {l : List BytesC} : ∀ {k : Nat}, NoAnc T l k → l.findSome? (idxC T) = (l.drop k).findSome? (idxC T) := by
 intro k
 induction k with
 | zero => intro _; rfl
 | succ k ih =>
   intro h
   rw [ih fun j x hj hx => h j x (by omega) hx]
   by_cases hk : k < l.length
   ·rw [List.drop_eq_getElem_cons hk, List.findSome?_cons, h k _ (by omega) (List.getElem?_eq_getElem hk)]
   ·rw [List.drop_eq_nil_of_le (by omega), List.drop_eq_nil_of_le (by omega)]
theorem near_none {T : List LocP} {s : BytesC} (h : idxC T s = none) (hn : NoAnc T (ancL s).1 (ancL s).1.length) : nearC T s = 0 := by
 unfold nearC
 rw [h]
 simp only
 rw [noAnc_take hn, List.drop_length]
 rfl
theorem near_found {T : List LocP} {s x : BytesC} {k i : Nat} (h : idxC T s = none) (hn : NoAnc T (ancL s).1 k) (hx : (ancL s).1[k]? = some x) (hi : idxC T x = some i) : nearC T s = i := by
 unfold nearC
 rw [h]
 simp only
 have hk := (List.getElem?_eq_some_iff.1 hx).1
 rw [noAnc_take hn, List.drop_eq_getElem_cons hk, (List.getElem?_eq_some_iff.1 hx).2, List.findSome?_cons, hi]
 rfl
def CNear (w : World) (T : List LocP) (s : BytesC) (n : Nat) (i : Value) (wr : World) : Prop := ∃ k : Nat, k ≤ n ∧ i = .int .i64 k ∧ NoAnc T (ancL s).1 k ∧ Ext w wr
set_option maxHeartbeats 1000000 in
theorem cnear_any (l : List Lc) (L A N : Option Addr) (ln lc n c m d : Nat) (s : ByteArray) (w : World) (hm : Mx w) (hL : Lcs w L ln l) (hln : ln ≤ maxLen) (hs : s.size ≤ 60000) :
 Calls Tryz.prog 89 #[.agg #[.slice L ln lc, .slice A n c, .slice N m d], .string s] w fun e w' => e = .returned (.int .i64 (nearC (l.map locOf) s.data.toList)) ∧ Ext w w' := by
 have KB := hid (AtC.new w #[.slice L ln lc, .slice A n c, .slice N m d] : AtC 26 _ _ _)
 have HW0 := hid ((Ext.refl w).alloc (.cells #[.slice L ln lc, .slice A n c, .slice N m d] 26))
 have h0 := KB.out.cell 0 _ rfl
 have h1 := KB.out.cell 1 _ rfl
 have h2 := KB.out.cell 2 _ rfl
 have KF := hid (fun (b : ByteArray) W (h : Ext w W) => cfind_any l L A N ln lc n c m d b W (hL.ext h) hln)
 have KA := hid (fun W (h : Ext w W) => tanc_any s W (hm.ext h) hs)
 have hal := anc_len s.data.toList
 clear hL hm
 cases hi : idxC (l.map locOf) s.data.toList with
 | some i =>
   have K1 := KF.out s _ HW0.out
   rw [idxI_some hi] at K1
   have HK := hid K1
   have HR := hid (near_idx hi)
   clear K1 hi
   go_enter Tryz.func89, Tryz.ntmps89
   go_wp2_with fail
   refine HK.out.mono ?_
   rintro e w2 ⟨rfl, hw2⟩
   have HW2 := hid (HW0.out.trans hw2)
   clear hw2
   go_wp2
   all_goals go_ret
   all_goals exact ⟨by rw [HR.out]; first | done | rfl, HW2.out⟩
 | none =>
   have K1 := KF.out s _ HW0.out
   rw [idxI_none hi] at K1
   have HK := hid K1
   have HI := hid hi
   clear K1 hi
   go_enter Tryz.func89, Tryz.ntmps89
   go_wp2_with fail
   refine HK.out.mono ?_
   rintro e w2 ⟨rfl, hw2⟩
   have HW2 := hid (HW0.out.trans hw2)
   have KB2 := hid (KB.out.ext hw2)
   clear hw2
   go_wp2_with fail
   refine (KA.out _ HW2.out).mono ?_
   rintro e w3 ⟨A2, n2, c2, rfl, hsl, hc2, hw3⟩
   have HW3 := hid (HW2.out.trans hw3)
   have KB3 := hid (KB2.out.ext hw3)
   have hn2 : n2 ≤ 7 := by have h := hsl.1; rw [List.length_map] at h; omega
   have HN2 := hid (show (ancL s.data.toList).1.length = n2 from by have h := hsl.1; rw [List.length_map] at h; exact h)
   have HSL := hid hsl
   clear hw3 hsl hal
   go_wp2_with fail
   go_loopw [24] (CNear w3 (l.map locOf) s.data.toList n2) (fun i _ => n2 - (intOf i).toNat)
   case atStart => exact ⟨0, Nat.zero_le _, rfl, noAnc_zero _ _, Ext.refl _⟩
   case round =>
    obtain ⟨k, hk, rfl, hpre, hw⟩ := hrel
    have HP := hid hpre
    have HW := hid hw
    clear hpre hw
    by_cases hkn : k < n2
    ·obtain ⟨ad, x, rfl, hx, hcx⟩ := (HSL.out.ext HW.out).at_map hkn
     obtain ⟨xb, hx1, rfl⟩ := strv_b x
     rw [hx1] at hcx
     have g0 := (KB3.out.ext HW.out).cell 0 _ rfl
     have g1 := (KB3.out.ext HW.out).cell 1 _ rfl
     have g2 := (KB3.out.ext HW.out).cell 2 _ rfl
     have hkI : (k : Int) < (n2 : Int) := by omega
     have K1 := KF.out xb _ (HW3.out.trans HW.out)
     have HX := hid hx
     clear hx hx1
     cases hi : idxC (l.map locOf) xb.data.toList with
     | none =>
       rw [idxI_none hi] at K1
       have HK1 := hid K1
       have HQ := hid (noAnc_next HP.out HX.out hi)
       clear K1 hi
       go_wp2_with fail
       refine HK1.out.mono ?_
       rintro e w4 ⟨rfl, hw4⟩
       have HW4 := hid (HW.out.trans hw4)
       clear hw4
       go_wp2
       exact ⟨⟨k + 1, by omega, by go_num, HQ.out, HW4.out⟩, by simp [intOf]; omega⟩
     | some i =>
       rw [idxI_some hi] at K1
       have HK1 := hid K1
       have HQ := hid (near_found HI.out HP.out HX.out hi)
       clear K1 hi
       go_wp2_with fail
       refine HK1.out.mono ?_
       rintro e w4 ⟨rfl, hw4⟩
       have HW4 := hid (HW.out.trans hw4)
       clear hw4
       go_wp2
       all_goals go_ret
       all_goals exact ⟨by rw [HQ.out]; first | done | rfl, HW3.out.trans HW4.out⟩
    ·have hkk : k = n2 := by omega
     subst hkk
     have HQ := hid (near_none HI.out (by rw [HN2.out]; exact HP.out))
     go_wp2
     go_ret
     exact ⟨by rw [HQ.out]; first | done | rfl, HW3.out.trans HW.out⟩
end Go.Proofs.YtljdlkonlnjadaaGreatDoor
namespace Go.Proofs.YtljdlkonlnjadaaGreatDoor
open Go.RowKit
theorem cuse1_any (fb ob : ByteArray) (w : World) (hm : Mx w) (h1 : fb.size ≤ 60000) (h2 : ob.size ≤ 60000) :
 Calls Tryz.prog 81 #[.agg #[.string fb, .string ob]] w fun e w' => e = .returned (.bool (!aliB (fb, ob))) ∧ Ext w w' := by
 have hp1 := fun W (h : Ext w W) => ctext_any fb W (hm.ext h) h1
 have hp2 := fun W (h : Ext w W) => ctext_any ob W (hm.ext h) h2
 have hal : aliB (fb, ob) = (isP fb.data.toList && isP ob.data.toList && !(fb.toList == [117, 110, 100])) := by unfold aliB; rw [ByteArray.toList_eq]; rfl
 rw [hal]
 generalize isP fb.data.toList = b1 at hp1
 generalize isP ob.data.toList = b2 at hp2
 have HP1 := hid hp1
 have HP2 := hid hp2
 clear hp1 hp2 hal hm
 have k1 := (AtC.new w #[.string fb, .string ob] : AtC 103 _ _ _)
 have K1 := hid k1
 have HW0 := hid ((Ext.refl w).alloc (.cells #[.string fb, .string ob] 103))
 clear k1
 have c0 := K1.out.cell 0 _ rfl
 cases b1 with
 | false =>
   go_enter Tryz.func81, Tryz.ntmps81
   go_wp2_with fail
   refine (HP1.out _ HW0.out).mono ?_
   rintro e w2 ⟨rfl, hw2⟩
   have HW2 := hid (HW0.out.trans hw2)
   clear hw2
   go_wp2
   go_ret
   exact ⟨by simp, HW2.out⟩
 | true =>
   cases b2 with
   | false =>
     go_enter Tryz.func81, Tryz.ntmps81
     go_wp2_with fail
     refine (HP1.out _ HW0.out).mono ?_
     rintro e w2 ⟨rfl, hw2⟩
     have c1 := (K1.out.ext hw2).cell 1 _ rfl
     have HW2 := hid (HW0.out.trans hw2)
     clear hw2 c0
     go_wp2_with fail
     refine (HP2.out _ HW2.out).mono ?_
     rintro e w3 ⟨rfl, hw3⟩
     have HW3 := hid (HW2.out.trans hw3)
     clear hw3
     go_wp2
     go_ret
     exact ⟨by simp, HW3.out⟩
   | true =>
     cases hq : (fb.toList == [117, 110, 100])
     all_goals
      go_enter Tryz.func81, Tryz.ntmps81
      go_wp2_with fail
      refine (HP1.out _ HW0.out).mono ?_
      rintro e w2 ⟨rfl, hw2⟩
      have c1 := (K1.out.ext hw2).cell 1 _ rfl
      have HX2 := hid hw2
      have HW2 := hid (HW0.out.trans hw2)
      clear hw2 c0
      go_wp2_with fail
      refine (HP2.out _ HW2.out).mono ?_
      rintro e w3 ⟨rfl, hw3⟩
      have c0 := (K1.out.ext (HX2.out.trans hw3)).cell 0 _ rfl
      have HW3 := hid (HW2.out.trans hw3)
      clear hw3
      go_wp2
      go_ret
      exact ⟨by simp, HW3.out⟩
theorem takeWhile_len {α : Type} {p : α → Bool} : ∀ {l : List α} {k : Nat} {x : α}, l[k]? = some x → (l.take k).all p = true → p x = false → (l.takeWhile p).length = k
 | [], _, _, h, _, _ => by simp at h
 | a :: r, 0, x, h, _, hx => by
   simp at h
   subst h
   rw [List.takeWhile_cons, hx]
   rfl
 | a :: r, k + 1, x, h, ha, hx => by
   simp only [List.take_succ_cons, List.all_cons, Bool.and_eq_true] at ha
   rw [List.takeWhile_cons, ha.1]
   simp only [if_true, List.length_cons]
   rw [takeWhile_len (by simpa using h) ha.2 hx]
def idxA (l : List Ali) : Int := if l.all aliB = true then -1 else ((l.takeWhile aliB).length : Int)
theorem idxA_all {l : List Ali} (h : l.all aliB = true) : idxA l = -1 := if_pos h
theorem idxA_not {l : List Ali} (h : l.all aliB = false) : idxA l = ((l.takeWhile aliB).length : Int) := if_neg (by rw [h]; decide)
def CAli (w : World) (l : List Ali) (n : Nat) (i : Value) (wr : World) : Prop := ∃ k : Nat, k ≤ n ∧ i = .int .i64 k ∧ (l.take k).all aliB = true ∧ Ext w wr
set_option maxHeartbeats 1000000 in
theorem cidxA_any (l : List Ali) (A : Option Addr) (n c : Nat) (w : World) (hm : Mx w) (hA : Als w A n l) (hn : n ≤ 100000) (hz : ∀ a ∈ l, a.1.size ≤ 60000 ∧ a.2.size ≤ 60000) :
 Calls Tryz.prog 102 #[.slice A n c, .func (.func 81) #[] #[]] w fun e w' => e = .returned (.int .i64 (idxA l)) ∧ Ext w w' := by
 have hl := hA.len
 have HA := hid hA
 have HLN := hid hl
 have HZ := hid hz
 clear hA hl hz
 go_enter Tryz.func102, Tryz.ntmps102
 go_wp2_with fail
 go_loopw [8] (CAli w l n) (fun i _ => n - (intOf i).toNat)
 case atStart => exact ⟨0, Nat.zero_le _, rfl, by simp, Ext.refl _⟩
 case round =>
  obtain ⟨k, hk, rfl, hall, hw⟩ := hrel
  have HALL := hid hall
  have HW := hid hw
  clear hall hw
  by_cases hkn : k < n
  ·obtain ⟨a, ha⟩ : ∃ a, l[k]? = some a := ⟨_, List.getElem?_eq_getElem (by have := HLN.out; omega)⟩
   obtain ⟨b, o, rfl, hb, c0, c1⟩ := (HA.out.ext HW.out).at2 ha
   obtain ⟨z1, z2⟩ := HZ.out a (List.mem_of_getElem? ha)
   obtain ⟨fb, ob⟩ := a
   simp only at c0 c1 z1 z2
   have HAK := hid ha
   have hkI : (k : Int) < (n : Int) := by omega
   have K := cuse1_any fb ob wr (hm.ext HW.out) z1 z2
   clear ha
   cases hq : aliB (fb, ob)
   ·rw [hq] at K
    have HK := hid K
    have HQ := hid (show idxA l = (k : Int) from by
     rw [idxA_not (all_take_false HAK.out hq)]
     rw [takeWhile_len HAK.out HALL.out hq])
    clear K hq
    simp only [Bool.not_false] at HK
    go_wp2_with fail
    refine HK.out.mono ?_
    rintro e w2 ⟨rfl, hw2⟩
    have HW2 := hid (HW.out.trans hw2)
    clear hw2
    go_wp2
    go_ret
    exact ⟨by rw [HQ.out]; first | done | rfl, HW2.out⟩
   ·rw [hq] at K
    have HK := hid K
    have HQ := hid (show (l.take (k + 1)).all aliB = true from by rw [take_next HAK.out, List.all_append, HALL.out]; simp [hq])
    clear K hq
    simp only [Bool.not_true] at HK
    go_wp2_with fail
    refine HK.out.mono ?_
    rintro e w2 ⟨rfl, hw2⟩
    have HW2 := hid (HW.out.trans hw2)
    clear hw2
    go_wp2
    exact ⟨⟨k + 1, by omega, by go_num, HQ.out, HW2.out⟩, by simp [intOf]; omega⟩
  ·have hkk : k = n := by omega
   subst hkk
   have HQ := hid (show idxA l = -1 from by
    have h := HALL.out
    rw [List.take_of_length_le (by have := HLN.out; omega)] at h
    exact idxA_all h)
   go_wp2
   go_ret
   exact ⟨by rw [HQ.out]; first | done | rfl, HW.out⟩
theorem chasA_any (l : List Ali) (A : Option Addr) (n c : Nat) (w : World) (hm : Mx w) (hA : Als w A n l) (hn : n ≤ 100000) (hz : ∀ a ∈ l, a.1.size ≤ 60000 ∧ a.2.size ≤ 60000) :
 Calls Tryz.prog 80 #[.slice A n c, .func (.func 81) #[] #[]] w fun e w' => e = .returned (.bool (!l.all aliB)) ∧ Ext w w' := by
 have K := cidxA_any l A n c w hm hA hn hz
 clear hA hz hm
 cases hq : l.all aliB
 ·rw [idxA_not hq] at K
  have HK := hid K
  clear K hq
  generalize (l.takeWhile aliB).length = q at HK
  have hq0 : (0 : Int) ≤ (q : Int) := by omega
  go_enter Tryz.func80, Tryz.ntmps80
  go_wp2_with fail
  refine HK.out.mono ?_
  rintro e w2 ⟨rfl, hw2⟩
  have HW2 := hid hw2
  clear hw2
  go_wp2
  go_ret
  exact ⟨by simp, HW2.out⟩
 ·rw [idxA_all hq] at K
  have HK := hid K
  clear K hq
  go_enter Tryz.func80, Tryz.ntmps80
  go_wp2_with fail
  refine HK.out.mono ?_
  rintro e w2 ⟨rfl, hw2⟩
  have HW2 := hid hw2
  clear hw2
  go_wp2
  go_ret
  exact ⟨by simp, HW2.out⟩
def CUse (W1 : World) (B : Nat) (T : List LocP) (m : Nat) (i : Value) (wr : World) : Prop :=
 ∃ k : Nat, k ≤ m ∧ i = .int .i64 k ∧ (T.take k).all (fun x => isP x.1) = true ∧ ((T.take k).map (·.1)).Nodup ∧ MapS Tryz.prog 9 4 wr B k ((T.take k).map (·.1)) ∧ Ext W1 wr
theorem nodup_next {T : List LocP} {k : Nat} {x : LocP} (hx : T[k]? = some x) (h : ((T.take k).map (·.1)).Nodup) (hn : decide (x.1 ∈ (T.take k).map (·.1)) = false) : ((T.take (k + 1)).map (·.1)).Nodup := by
 rw [take_next hx, List.map_append, List.nodup_append]
 refine ⟨h, by simp, ?_⟩
 intro a ha b hb e
 simp at hb
 subst hb
 rw [decide_eq_false_iff_not] at hn
 exact hn (e ▸ ha)
theorem use_seen {T : List LocP} {al : List Ali} {k : Nat} {x : LocP} (hx : T[k]? = some x) (hn : decide (x.1 ∈ (T.take k).map (·.1)) = true) : usableC T al = false := by
 unfold usableC
 have : decide (T.map (·.1)).Nodup = false := by
  rw [decide_eq_false_iff_not]
  intro h
  simp only [decide_eq_true_eq] at hn
  have h1 := List.take_append_drop k T
  have hk := (List.getElem?_eq_some_iff.1 hx).1
  rw [List.drop_eq_getElem_cons hk, (List.getElem?_eq_some_iff.1 hx).2] at h1
  rw [← h1, List.map_append, List.nodup_append] at h
  exact h.2.2 _ hn _ (by simp) rfl
 rw [this]
 simp
theorem use_bad {T : List LocP} {al : List Ali} {k : Nat} {x : LocP} (hx : T[k]? = some x) (hb : isP x.1 = false) : usableC T al = false := by
 unfold usableC
 have : T.all (fun x => isP x.1) = false := by
  rw [List.all_eq_false]
  exact ⟨x, List.mem_of_getElem? hx, by rw [hb]; decide⟩
 rw [this]
 simp
set_option maxHeartbeats 4000000 in
theorem cusable_any (l : List Lc) (al : List Ali) (L A N : Option Addr) (ln lc n c m d : Nat) (w : World) (hm : Mx w) (hL : Lcs w L ln l) (hln : ln ≤ 100000) (hA : Als w A n al) (hn : n ≤ 100000) (hz : ∀ a ∈ al, a.1.size ≤ 60000 ∧ a.2.size ≤ 60000) (hs : ∀ x ∈ l, x.t.size ≤ 60000) :
 Calls Tryz.prog 55 #[.agg #[.slice L ln lc, .slice A n c, .slice N m d]] w fun e w' => e = .returned (.bool (usableC (l.map locOf) al)) ∧ Ext w w' := by
 have KB := hid (AtC.new w #[.slice L ln lc, .slice A n c, .slice N m d] : AtC 26 _ _ _)
 have HW0 := hid ((Ext.refl w).alloc (.cells #[.slice L ln lc, .slice A n c, .slice N m d] 26))
 have h0 := KB.out.cell 0 _ rfl
 have KA := hid (fun W (h : Ext w W) => chasA_any al A n c W (hm.ext h) (hA.ext h) hn hz)
 have KT := hid (fun (b : ByteArray) (hb : b.size ≤ 60000) W (h : Ext w W) => ctext_any b W (hm.ext h) hb)
 have HL := hid hL
 have HLN := hid hL.len
 have HS := hid hs
 have hmm := @run_makeMap Tryz.prog
 clear hL hA hm hz hs
 obtain ⟨R, hR⟩ : ∃ R, R = usableC (l.map locOf) al := ⟨_, rfl⟩
 rw [← hR]
 have HR := hid hR
 clear hR
 rcases Nat.eq_zero_or_pos ln with hz0 | hp0
 ·subst hz0
  have HF := hid (show R = false from by
   rw [HR.out]
   have : l = [] := List.length_eq_zero_iff.1 HLN.out
   rw [this]; rfl)
  go_enter Tryz.func55, Tryz.ntmps55
  go_wp2
  go_ret
  exact ⟨by rw [HF.out]; first | done | rfl, HW0.out⟩
 obtain ⟨x0, hx0⟩ : ∃ x0, l[0]? = some x0 := ⟨_, List.getElem?_eq_getElem (by have := HLN.out; omega)⟩
 obtain ⟨b0, o0, rfl, hb0, hc0⟩ := (HL.out.ext HW0.out).at_ hx0
 have e0 := hc0 0 _ rfl
 simp only [Nat.zero_mul, Nat.add_zero] at e0
 have hln0 : ((ln : Int) == 0) = false := by simp; omega
 have hpI : (0 : Int) < (ln : Int) := by omega
 have HX0 := hid hx0
 clear hc0 hx0
 cases hq : (x0.t.toList == [117, 110, 100])
 ·have HF := hid (show R = false from by
   rw [HR.out]
   unfold usableC
   have h1 : (l.map locOf).head? = some (locOf x0) := by
    rw [List.head?_eq_getElem?, List.getElem?_map, HX0.out]; rfl
   have hq := hq
   rw [ByteArray.toList_eq] at hq
   rw [h1]
   have h2 : (Option.map (fun x => x.fst) (some (locOf x0)) == some undP) = false := by
    show (some x0.t.data.toList == some undP) = false
    simpa [undP] using hq
   rw [h2]; rfl)
  go_enter Tryz.func55, Tryz.ntmps55
  go_wp2
  all_goals go_ret
  all_goals exact ⟨by rw [HF.out]; first | done | rfl, HW0.out⟩
 have h0b := (KB.out.alloc (.map #[] 0)).cell 0 _ rfl
 go_enter Tryz.func55, Tryz.ntmps55
 go_wp2_with fail
 have HQ := hid hq
 clear h0 h0b hq
 go_loopw [22] (CUse (w.alloc (.cells #[.slice (some ⟨b0, o0, none⟩) ln lc, .slice A n c, .slice N m d] 26)) (w.heap.size + 1) (l.map locOf) ln) (fun i _ => ln - (intOf i).toNat)
 case atStart => exact ⟨0, Nat.zero_le _, rfl, by simp, by simp, by have h := MapS.made Tryz.prog 9 4 (w.alloc (.cells #[.slice (some ⟨b0, o0, none⟩) ln lc, .slice A n c, .slice N m d] 26)); rw [World.size_alloc] at h; exact h, (Ext.refl _).alloc _⟩
 case round =>
  obtain ⟨k, hk, rfl, hisp, hnd, hms, hw⟩ := hrel
  have HISP := hid hisp
  have HND := hid hnd
  have HMS := hid hms
  have HW := hid hw
  have HWW := hid (HW0.out.trans hw)
  have KBR := hid (KB.out.ext hw)
  clear hisp hnd hms hw
  by_cases hkn : k < ln
  ·obtain ⟨x, hx⟩ : ∃ x, l[k]? = some x := ⟨_, List.getElem?_eq_getElem (by have := HLN.out; omega)⟩
   obtain ⟨b, o, hAd, hb, hc⟩ := (HL.out.ext HWW.out).at_ hx
   injection hAd with hAd
   injection hAd with hA1 hA2 _
   subst hA1; subst hA2
   have a0 := hc 0 _ rfl
   have a1 := hc 1 _ rfl
   have a2 := hc 2 _ rfl
   have a3 := hc 3 _ rfl
   have a4 := hc 4 _ rfl
   have a5 := hc 5 _ rfl
   have a6 := hc 6 _ rfl
   have a7 := hc 7 _ rfl
   have a8 := hc 8 _ rfl
   have a9 := hc 9 _ rfl
   have a10 := hc 10 _ rfl
   have a11 := hc 11 _ rfl
   have a12 := hc 12 _ rfl
   have a13 := hc 13 _ rfl
   have a14 := hc 14 _ rfl
   have a15 := hc 15 _ rfl
   rw [Nat.add_zero] at a0
   have hkI : (k : Int) < (ln : Int) := by omega
   have hx60 := HS.out x (List.mem_of_getElem? hx)
   have HXS := hid (show x.t.size ≤ maxLen from by unfold maxLen; omega)
   have HX := hid (show (l.map locOf)[k]? = some (locOf x) from by rw [List.getElem?_map, hx]; rfl)
   have KX := KT.out x.t hx60
   clear hx hc
   have hlk := MapS.lookup (HMS.out.alloc (.cells #[.string x.t, .string x.p, .string x.d, .slice (x.A 0) (x.n 0) (x.c 0), .slice (x.A 1) (x.n 1) (x.c 1), .string (x.s 0), .string (x.s 1), .string (x.s 2), .string (x.s 3), .int .i64 (x.i 0), .int .i64 (x.i 1), .slice (x.A 2) (x.n 2) (x.c 2), .slice (x.A 3) (x.n 3) (x.c 3), .slice (x.A 4) (x.n 4) (x.c 4), .slice (x.A 5) (x.n 5) (x.c 5), .slice (x.A 6) (x.n 6) (x.c 6)] 37)) Tryz.underlying9 Tryz.underlying4 Tryz.underlying121 (by kernel_rfl) x.t HXS.out
   have hat := (AtC.new wr #[.string x.t, .string x.p, .string x.d, .slice (x.A 0) (x.n 0) (x.c 0), .slice (x.A 1) (x.n 1) (x.c 1), .string (x.s 0), .string (x.s 1), .string (x.s 2), .string (x.s 3), .int .i64 (x.i 0), .int .i64 (x.i 1), .slice (x.A 2) (x.n 2) (x.c 2), .slice (x.A 3) (x.n 3) (x.c 3), .slice (x.A 4) (x.n 4) (x.c 4), .slice (x.A 5) (x.n 5) (x.c 5), .slice (x.A 6) (x.n 6) (x.c 6)] : AtC 37 _ _ _)
   have q0 := hat.cell 0 _ rfl
   have HAT := hid hat
   clear hat
   cases hseen : decide ((locOf x).1 ∈ ((l.map locOf).take k).map (·.1)) with
   | true =>
     have HF := hid (HR.out.trans (use_seen HX.out hseen))
     have hseen2 : decide (x.t.data.toList ∈ ((l.map locOf).take k).map (·.1)) = true := hseen
     rw [hseen2] at hlk
     clear hseen hseen2
     go_wp2
     all_goals go_ret
     all_goals exact ⟨by rw [HF.out]; first | done | rfl, HWW.out.alloc _⟩
   | false =>
     have HNX := hid (nodup_next HX.out HND.out hseen)
     have hseen2 : decide (x.t.data.toList ∈ ((l.map locOf).take k).map (·.1)) = false := hseen
     rw [hseen2] at hlk
     clear hseen hseen2
     cases hp : isP x.t.data.toList with
     | false =>
       rw [hp] at KX
       have HK := hid KX
       have HF := hid (HR.out.trans (use_bad HX.out hp))
       clear KX hp
       go_wp2_with fail
       refine (HK.out _ (HWW.out.alloc _)).mono ?_
       rintro e w4 ⟨rfl, hw4⟩
       have HW4 := hid ((HWW.out.alloc (.cells #[.string x.t, .string x.p, .string x.d, .slice (x.A 0) (x.n 0) (x.c 0), .slice (x.A 1) (x.n 1) (x.c 1), .string (x.s 0), .string (x.s 1), .string (x.s 2), .string (x.s 3), .int .i64 (x.i 0), .int .i64 (x.i 1), .slice (x.A 2) (x.n 2) (x.c 2), .slice (x.A 3) (x.n 3) (x.c 3), .slice (x.A 4) (x.n 4) (x.c 4), .slice (x.A 5) (x.n 5) (x.c 5), .slice (x.A 6) (x.n 6) (x.c 6)] 37)).trans hw4)
       clear hw4
       go_wp2
       all_goals go_ret
       all_goals exact ⟨by rw [HF.out]; first | done | rfl, HW4.out⟩
     | true =>
       rw [hp] at KX
       have HK := hid KX
       have HPN := hid (show ((l.map locOf).take (k + 1)).all (fun x => isP x.1) = true from by
        rw [take_next HX.out, List.all_append, HISP.out]
        simp only [List.all_cons, List.all_nil, Bool.and_true, Bool.true_and]
        exact hp)
       clear KX hp
       go_wp2_with fail
       refine (HK.out _ (HWW.out.alloc _)).mono ?_
       rintro e w4 ⟨rfl, hw4⟩
       have q4 := (HAT.out.ext hw4).cell 0 _ rfl
       have HM4 := hid ((HMS.out.alloc (.cells #[.string x.t, .string x.p, .string x.d, .slice (x.A 0) (x.n 0) (x.c 0), .slice (x.A 1) (x.n 1) (x.c 1), .string (x.s 0), .string (x.s 1), .string (x.s 2), .string (x.s 3), .int .i64 (x.i 0), .int .i64 (x.i 1), .slice (x.A 2) (x.n 2) (x.c 2), .slice (x.A 3) (x.n 3) (x.c 3), .slice (x.A 4) (x.n 4) (x.c 4), .slice (x.A 5) (x.n 5) (x.c 5), .slice (x.A 6) (x.n 6) (x.c 6)] 37)).ext hw4)
       have HW4 := hid ((HW.out.alloc (.cells #[.string x.t, .string x.p, .string x.d, .slice (x.A 0) (x.n 0) (x.c 0), .slice (x.A 1) (x.n 1) (x.c 1), .string (x.s 0), .string (x.s 1), .string (x.s 2), .string (x.s 3), .int .i64 (x.i 0), .int .i64 (x.i 1), .slice (x.A 2) (x.n 2) (x.c 2), .slice (x.A 3) (x.n 3) (x.c 3), .slice (x.A 4) (x.n 4) (x.c 4), .slice (x.A 5) (x.n 5) (x.c 5), .slice (x.A 6) (x.n 6) (x.c 6)] 37)).trans hw4)
       clear hw4 hlk q0
       go_wp2_with (at_mapUpdate; refine wpList_mapUpdateS rfl _ _ _ 121 9 4 rfl Tryz.underlying9 Tryz.underlying4 Tryz.underlying121 (w.heap.size + 1) k _ rfl HM4.out (by unfold maxLen; omega) x.t rfl rfl HXS.out ?_; intro w6 hm6 hg6; have HM6 := hid hm6; have HG6 := hid hg6; clear hm6 hg6)
       refine ⟨⟨k + 1, by omega, by go_num, HPN.out, HNX.out, ?_, HW4.out.grown HG6.out (fun q hq => by injection hq with hq; rw [World.size_alloc]; omega)⟩, by simp [intOf]; omega⟩
       have h := HM6.out
       rw [take_next HX.out, List.map_append, List.map_singleton]
       exact h
  ·have hkk : k = ln := by omega
   subst hkk
   have hT : (l.map locOf).take k = l.map locOf := List.take_of_length_le (by rw [List.length_map, HLN.out]; exact Nat.le_refl _)
   have h1 := HISP.out
   have h2 := HND.out
   rw [hT] at h1 h2
   have hhd : ((l.map locOf).head?.map (·.1) == some undP) = true := by
    rw [List.head?_eq_getElem?, List.getElem?_map, HX0.out]
    have := HQ.out
    rw [ByteArray.toList_eq] at this
    show (some x0.t.data.toList == some undP) = true
    simpa [undP] using this
   have HF := hid (show R = al.all aliB from by
    rw [HR.out]
    unfold usableC
    rw [hhd, h1, decide_eq_true h2]
    simp)
   have g1 := KBR.out.cell 1 _ rfl
   have KK := KA.out _ HWW.out
   clear hT h1 h2 hhd
   generalize al.all aliB = q at KK HF
   have HK := hid KK
   clear KK
   cases q
   all_goals
    simp only [Bool.not_true, Bool.not_false] at HK
    go_wp2_with fail
    refine HK.out.mono ?_
    rintro e w4 ⟨rfl, hw4⟩
    have HW4 := hid (HWW.out.trans hw4)
    clear hw4
    go_wp2
    go_ret
    exact ⟨by rw [HF.out]; first | done | rfl, HW4.out⟩
end Go.Proofs.YtljdlkonlnjadaaGreatDoor
