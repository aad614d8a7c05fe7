import Derived.Test.YtkflpenpjnnhdaaGreatDoorMQB
import Derived.Test.YtkflpenpjnnhdaaGreatDoorMQ3
import Derived.Test.YtkflpenpjnnhdaaGreatDoorMd
import Derived.Test.YtkflpenpjnnhdaaGreatDoorTCan
import Derived.Test.YtkflpenpjnnhdaaGreatDoorShelf
import Derived.Test.YtkflpenpjnnhdaaGreatDoorRows
import Derived.Test.YtkflpenpjnnhdaaGreatDoorCards
import Derived.Test.YtkflpenpjnnhdaaGreatDoorTie
import Derived.Shelf.Vars
namespace Go.Proofs.YtkflpenpjnnhdaaGreatDoor.lawMatchExact
open Go.ChangeShapes Go.WideShapes Go.ChangeAt Go.RowKit
open Go.ChangeMaps (open_string shut_string)
set_option linter.unusedSimpArgs false
set_option linter.unusedVariables false

def laidL : List (String × DataW Unit) := Rows.matchExactRow.laid
theorem mx_of {W : World} (h : W.ShapedOpen Tryz.prog) : Mx W := Tryz.laysM146.s1_3 W h

def ExInv (w1 : World) (m : Nat) (i : Value) (wr : World) : Prop := ∃ k : Nat, k ≤ m ∧ i = .int .i64 k ∧ Ext w1 wr
set_option maxRecDepth 100000 in
set_option maxHeartbeats 8000000 in
theorem law (l : List Nr) (L : Option Addr) (ln lc : Nat) (R S : List ByteArray) (A B : Option Addr) (n c m d : Nat) (w : World) (hm : Mx w) (hL : Nrs w L ln l) (hln : ln ≤ maxLen) (hz : ∀ x ∈ l, x.f.size ≤ reachBytes ∧ x.o.size ≤ reachBytes) (hA : Sl w A n (R.map .string)) (hn : n ≤ maxLen) (hB : Sl w B m (S.map .string)) (hmm : m ≤ maxLen) :
    Calls Tryz.prog 7 #[.slice L ln lc, .slice A n c, .slice B m d] w (RetTrue w) := by
  have HL := Lib.hid hL
  have hm0 := Lib.hid hm
  have HA := Lib.hid hA
  have HB := Lib.hid hB
  clear hL hA hB
  have hf1 := fun W (h : Ext w W) => fewn_any l L ln lc W (HL.out.ext h) hln hz
  have hf2 := fun W (h : Ext w W) => fews_any R A n c W (HA.out.ext h) hn
  have hf3 := fun W (h : Ext w W) => fews_any S B m d W (HB.out.ext h) hmm
  cases q0 : fewN l with
  | false =>
   rw [q0] at hf1
   have HF1 := Lib.hid hf1
   clear q0 hf1 hf2 hf3
   go_enter Tryz.func7, Tryz.ntmps7
   go_wp2_with fail
   refine (awake_any _ (hm0.out.ext (Ext.refl _))).mono ?_
   rintro e w1 ⟨rfl, hw1⟩
   have HW1 := Lib.hid ((Ext.refl _).trans hw1)
   clear hw1
   go_wp2_with fail
   refine (HF1.out _ HW1.out).mono ?_
   rintro e w2 ⟨rfl, hw2⟩
   have HW2 := Lib.hid (HW1.out.trans hw2)
   clear hw2
   go_wp2_with fail
   refine (awake_any _ (hm0.out.ext HW2.out)).mono ?_
   rintro e w3 ⟨rfl, hw3⟩
   have HW3 := Lib.hid (HW2.out.trans hw3)
   clear hw3
   go_wp2
   go_ret
   exact ⟨rfl, HW3.out⟩
  | true =>
   obtain ⟨hl30, hl60⟩ := fewN_len q0
   have HZ := Lib.hid (show ∀ x ∈ l, x.f.size ≤ 1000000 ∧ x.o.size ≤ 1000000 from fun x hx => by have := hl60 x hx; omega)
   clear hl30 hl60
   rw [q0] at hf1
   have HF1 := Lib.hid hf1
   clear q0 hf1
   cases q1 : fewS R with
   | false =>
    rw [q1] at hf2
    have HF2 := Lib.hid hf2
    clear q1 hf2 hf3
    go_enter Tryz.func7, Tryz.ntmps7
    go_wp2_with fail
    refine (awake_any _ (hm0.out.ext (Ext.refl _))).mono ?_
    rintro e w1 ⟨rfl, hw1⟩
    have HW1 := Lib.hid ((Ext.refl _).trans hw1)
    clear hw1
    go_wp2_with fail
    refine (HF1.out _ HW1.out).mono ?_
    rintro e w2 ⟨rfl, hw2⟩
    have HW2 := Lib.hid (HW1.out.trans hw2)
    clear hw2
    go_wp2_with fail
    refine (HF2.out _ HW2.out).mono ?_
    rintro e w3 ⟨rfl, hw3⟩
    have HW3 := Lib.hid (HW2.out.trans hw3)
    clear hw3
    go_wp2_with fail
    refine (awake_any _ (hm0.out.ext HW3.out)).mono ?_
    rintro e w4 ⟨rfl, hw4⟩
    have HW4 := Lib.hid (HW3.out.trans hw4)
    clear hw4
    go_wp2
    go_ret
    exact ⟨rfl, HW4.out⟩
   | true =>
    obtain ⟨_, hR⟩ := fewS_len q1
    have HR := Lib.hid (show ∀ s ∈ R, s.size ≤ 60000 from fun s hs => by have := hR s hs; omega)
    clear hR
    have hn20 : n ≤ 100000 := by have h1 := HA.out.1; have h2 := (fewS_len q1).1; rw [List.length_map] at h1; omega
    rw [q1] at hf2
    have HF2 := Lib.hid hf2
    clear q1 hf2
    cases q2 : fewS S with
    | false =>
     rw [q2] at hf3
     have HF3 := Lib.hid hf3
     clear q2 hf3
     go_enter Tryz.func7, Tryz.ntmps7
     go_wp2_with fail
     refine (awake_any _ (hm0.out.ext (Ext.refl _))).mono ?_
     rintro e w1 ⟨rfl, hw1⟩
     have HW1 := Lib.hid ((Ext.refl _).trans hw1)
     clear hw1
     go_wp2_with fail
     refine (HF1.out _ HW1.out).mono ?_
     rintro e w2 ⟨rfl, hw2⟩
     have HW2 := Lib.hid (HW1.out.trans hw2)
     clear hw2
     go_wp2_with fail
     refine (HF2.out _ HW2.out).mono ?_
     rintro e w3 ⟨rfl, hw3⟩
     have HW3 := Lib.hid (HW2.out.trans hw3)
     clear hw3
     go_wp2_with fail
     refine (HF3.out _ HW3.out).mono ?_
     rintro e w4 ⟨rfl, hw4⟩
     have HW4 := Lib.hid (HW3.out.trans hw4)
     clear hw4
     go_wp2_with fail
     refine (awake_any _ (hm0.out.ext HW4.out)).mono ?_
     rintro e w5 ⟨rfl, hw5⟩
     have HW5 := Lib.hid (HW4.out.trans hw5)
     clear hw5
     go_wp2
     go_ret
     exact ⟨rfl, HW5.out⟩
    | true =>
     obtain ⟨_, hS⟩ := fewS_len q2
     have HS := Lib.hid (show ∀ s ∈ S, s.size ≤ 60000 from fun s hs => by have := hS s hs; omega)
     clear hS
     have hm20 : m ≤ 100000 := by have h1 := HB.out.1; have h2 := (fewS_len q2).1; rw [List.length_map] at h1; omega
     rw [q2] at hf3
     have HF3 := Lib.hid hf3
     clear q2 hf3
     rcases Nat.eq_zero_or_pos n with hn0 | hn0
     · subst hn0
       go_enter Tryz.func7, Tryz.ntmps7
       go_wp2_with fail
       refine (awake_any _ (hm0.out.ext (Ext.refl _))).mono ?_
       rintro e w1 ⟨rfl, hw1⟩
       have HW1 := Lib.hid ((Ext.refl _).trans hw1)
       clear hw1
       go_wp2_with fail
       refine (HF1.out _ HW1.out).mono ?_
       rintro e w2 ⟨rfl, hw2⟩
       have HW2 := Lib.hid (HW1.out.trans hw2)
       clear hw2
       go_wp2_with fail
       refine (HF2.out _ HW2.out).mono ?_
       rintro e w3 ⟨rfl, hw3⟩
       have HW3 := Lib.hid (HW2.out.trans hw3)
       clear hw3
       go_wp2_with fail
       refine (HF3.out _ HW3.out).mono ?_
       rintro e w4 ⟨rfl, hw4⟩
       have HW4 := Lib.hid (HW3.out.trans hw4)
       clear hw4
       go_wp2_with fail
       refine (awake_any _ (hm0.out.ext HW4.out)).mono ?_
       rintro e w5 ⟨rfl, hw5⟩
       have HW5 := Lib.hid (HW4.out.trans hw5)
       clear hw5
       go_wp2
       go_ret
       exact ⟨rfl, HW5.out⟩
     have hn0I : ((n : Int) == 0) = false := by simp; omega
     obtain ⟨ad, r, hA1, hr, _⟩ := HA.out.at_map hn0
     subst hA1
     obtain ⟨R', hR'⟩ : ∃ R', R = r :: R' := by
       cases R with
       | nil => simp at hr
       | cons x y => simp at hr; subst hr; exact ⟨y, rfl⟩
     have hr60 := HR.out r (by rw [hR']; simp)
     have hca : ∀ W, Ext w W → W.cell? ad = some (.string r) := fun W h => by
       obtain ⟨ad', x', e1, hx', hc⟩ := (HA.out.ext h).at_map hn0
       injection e1 with e1
       subst e1
       rw [hr] at hx'
       injection hx' with hx'
       subst hx'
       rw [show ad.add 0 = ad from by unfold Addr.add; simp] at hc
       exact hc
     have HCA := Lib.hid hca
     have k1 := fun W (h : Ext w W) => tcan_any r W (hm0.out.ext h) hr60
     have k2 := fun W (h : Ext w W) => tbest_any l L ln lc R S (some ad) B n c m d W (hm0.out.ext h) (HL.out.ext h) hln HZ.out (HA.out.ext h) (HB.out.ext h) hn20 hm20 HR.out HS.out
     have hex := fun (s : ByteArray) (k : Nat) (h) (hs : (dl S)[k]? = some s.data.toList) => exact_best (l := l.map nearOf) (R := dl R') (S := dl S) (r := r.data.toList) (s := s.data.toList) (k := k) h hs
     have hrg := fun h => best_range (l := l.map nearOf) (R := dl R) (S := dl S) h
     have hdl : dl R = r.data.toList :: dl R' := by rw [hR']; rfl
     rw [hdl] at k2 hrg
     generalize bestR EC (l.map nearOf) (r.data.toList :: dl R') (dl S) = D at k2 hex hrg
     obtain ⟨i, f⟩ := D
     simp only at k2 hex hrg
     obtain ⟨wb, hwb1, hwb2⟩ := strv_b (canP r.data.toList).1
     rw [hwb1] at k1
     rw [← hwb2] at hex
     generalize (canP r.data.toList).2 = e at k1
     have K1 := Lib.hid k1
     have K2 := Lib.hid k2
     have HEX := Lib.hid hex
     have HRG := Lib.hid hrg
     have HSL := Lib.hid (show (dl S).length = m from by have h := HB.out.1; rw [List.length_map] at h; simp [dl]; omega)
     clear k1 k2 hex hrg hr hca hR' hdl hwb1 hwb2
     by_cases he : e = 0
     rotate_left
     · have hnz : (e == 0) = false := by simpa using he
       go_enter Tryz.func7, Tryz.ntmps7
       go_wp2_with fail
       refine (awake_any _ (hm0.out.ext (Ext.refl _))).mono ?_
       rintro e w1 ⟨rfl, hw1⟩
       have HW1 := Lib.hid ((Ext.refl _).trans hw1)
       clear hw1
       go_wp2_with fail
       refine (HF1.out _ HW1.out).mono ?_
       rintro e w2 ⟨rfl, hw2⟩
       have HW2 := Lib.hid (HW1.out.trans hw2)
       clear hw2
       go_wp2_with fail
       refine (HF2.out _ HW2.out).mono ?_
       rintro e w3 ⟨rfl, hw3⟩
       have HW3 := Lib.hid (HW2.out.trans hw3)
       clear hw3
       go_wp2_with fail
       refine (HF3.out _ HW3.out).mono ?_
       rintro e w4 ⟨rfl, hw4⟩
       have HW4 := Lib.hid (HW3.out.trans hw4)
       clear hw4
       have hcw := HCA.out _ HW4.out
       go_wp2_with fail
       refine (K1.out _ HW4.out).mono ?_
       rintro e w5 ⟨rfl, hw5⟩
       have HW5 := Lib.hid (HW4.out.trans hw5)
       clear hw5
       clear hcw
       go_wp2_with fail
       refine (K2.out _ HW5.out).mono ?_
       rintro e w6 ⟨rfl, hw6⟩
       have HW6 := Lib.hid (HW5.out.trans hw6)
       clear hw6
       go_wp2
       go_ret
       exact ⟨by first | rfl | simp | simp [*], HW6.out⟩
     subst he
     by_cases hf : f = 0 ∨ f = 8
     rotate_left
     · have g0 : (f == 0) = false := by simp; omega
       have g8 : (f == 8) = false := by simp; omega
       have g1 : (f != 0) = true := by simp; omega
       have g9 : (f != 8) = true := by simp; omega
       go_enter Tryz.func7, Tryz.ntmps7
       go_wp2_with fail
       refine (awake_any _ (hm0.out.ext (Ext.refl _))).mono ?_
       rintro e w1 ⟨rfl, hw1⟩
       have HW1 := Lib.hid ((Ext.refl _).trans hw1)
       clear hw1
       go_wp2_with fail
       refine (HF1.out _ HW1.out).mono ?_
       rintro e w2 ⟨rfl, hw2⟩
       have HW2 := Lib.hid (HW1.out.trans hw2)
       clear hw2
       go_wp2_with fail
       refine (HF2.out _ HW2.out).mono ?_
       rintro e w3 ⟨rfl, hw3⟩
       have HW3 := Lib.hid (HW2.out.trans hw3)
       clear hw3
       go_wp2_with fail
       refine (HF3.out _ HW3.out).mono ?_
       rintro e w4 ⟨rfl, hw4⟩
       have HW4 := Lib.hid (HW3.out.trans hw4)
       clear hw4
       have hcw := HCA.out _ HW4.out
       go_wp2_with fail
       refine (K1.out _ HW4.out).mono ?_
       rintro e w5 ⟨rfl, hw5⟩
       have HW5 := Lib.hid (HW4.out.trans hw5)
       clear hw5
       clear hcw
       go_wp2_with fail
       refine (K2.out _ HW5.out).mono ?_
       rintro e w6 ⟨rfl, hw6⟩
       have HW6 := Lib.hid (HW5.out.trans hw6)
       clear hw6
       go_wp2
       go_ret
       exact ⟨by first | rfl | simp | simp [*], HW6.out⟩
     rcases hf with hf | hf
     · subst hf
       have hex := fun (s : ByteArray) (k : Nat) (hs : (dl S)[k]? = some s.data.toList) (he : (canP s.data.toList).1 = wb.data.toList) => HEX.out s k (by first | exact .inl rfl | exact .inr rfl) hs he
       rcases HRG.out (.inl rfl) with h8 | ⟨kk, hkk1, hkk2⟩
       · exact absurd h8 (by decide)
       subst hkk1
       have hlt2 : (kk : Int) < (m : Int) := by have := HSL.out; omega
       have hlt3 : decide ((kk : Int) < (m : Int)) = true := by simpa using hlt2
       simp only [Prod.mk.injEq] at hex
       clear HEX
       have HEX := Lib.hid hex
       clear hex
       go_enter Tryz.func7, Tryz.ntmps7
       go_wp2_with fail
       refine (awake_any _ (hm0.out.ext (Ext.refl _))).mono ?_
       rintro e w1 ⟨rfl, hw1⟩
       have HW1 := Lib.hid ((Ext.refl _).trans hw1)
       clear hw1
       go_wp2_with fail
       refine (HF1.out _ HW1.out).mono ?_
       rintro e w2 ⟨rfl, hw2⟩
       have HW2 := Lib.hid (HW1.out.trans hw2)
       clear hw2
       go_wp2_with fail
       refine (HF2.out _ HW2.out).mono ?_
       rintro e w3 ⟨rfl, hw3⟩
       have HW3 := Lib.hid (HW2.out.trans hw3)
       clear hw3
       go_wp2_with fail
       refine (HF3.out _ HW3.out).mono ?_
       rintro e w4 ⟨rfl, hw4⟩
       have HW4 := Lib.hid (HW3.out.trans hw4)
       clear hw4
       have hcw := HCA.out _ HW4.out
       go_wp2_with fail
       refine (K1.out _ HW4.out).mono ?_
       rintro e w5 ⟨rfl, hw5⟩
       have HW5 := Lib.hid (HW4.out.trans hw5)
       clear hw5
       clear hcw
       go_wp2_with fail
       refine (K2.out _ HW5.out).mono ?_
       rintro e w6 ⟨rfl, hw6⟩
       have HW6 := Lib.hid (HW5.out.trans hw6)
       clear hw6
       go_wp2_with fail
       go_loopw [11] (ExInv w m) (fun i _ => m - (intOf i).toNat)
       case atStart => exact ⟨0, Nat.zero_le _, rfl, HW6.out⟩
       case round =>
         obtain ⟨k, hk, rfl, hw⟩ := hrel
         have HW := Lib.hid hw
         clear hw
         by_cases hkm : k < m
         · obtain ⟨ad2, s, hB1, hs, hcs⟩ := (HB.out.ext HW.out).at_map hkm
           subst hB1
           have hkI : (k : Int) < (m : Int) := by omega
           have HSK := Lib.hid (show (dl S)[k]? = some s.data.toList from by unfold dl; rw [List.getElem?_map, hs]; rfl)
           have kc := fun W (h : Ext w W) => tcan_any s W (hm0.out.ext h) (HS.out s (List.mem_of_getElem? hs))
           obtain ⟨sb, hsb1, hsb2⟩ := strv_b (canP s.data.toList).1
           rw [hsb1] at kc
           have KC := Lib.hid kc
           have HSB := Lib.hid hsb2
           clear hs kc hsb1 hsb2
           cases hq : (sb.toList == wb.toList)
           · go_wp2_with fail
             refine (KC.out _ HW.out).mono ?_
             rintro e w9 ⟨rfl, hw9⟩
             have HW9 := Lib.hid (HW.out.trans hw9)
             clear hw9
             go_wp2
             exact ⟨⟨k + 1, by omega, by go_num, HW9.out⟩, by simp [intOf]; omega⟩
           · have hD := HEX.out s k HSK.out (by rw [eq_b] at hq; rw [← HSB.out]; simpa using hq)
             have hkk3 : kk = k := by omega
             subst hkk3
             go_wp2_with fail
             refine (KC.out _ HW.out).mono ?_
             rintro e w9 ⟨rfl, hw9⟩
             have HW9 := Lib.hid (HW.out.trans hw9)
             clear hw9
             go_wp2
             all_goals go_ret
             exact ⟨by first | rfl | simp | simp [*], HW9.out⟩
         · have hkk : k = m := by omega
           subst hkk
           go_wp2
           go_ret
           exact ⟨by first | rfl | simp | simp [*], HW.out⟩
     · subst hf
       have hex := fun (s : ByteArray) (k : Nat) (hs : (dl S)[k]? = some s.data.toList) (he : (canP s.data.toList).1 = wb.data.toList) => HEX.out s k (by first | exact .inl rfl | exact .inr rfl) hs he
       simp only [Prod.mk.injEq] at hex
       clear HEX
       have HEX := Lib.hid hex
       clear hex
       go_enter Tryz.func7, Tryz.ntmps7
       go_wp2_with fail
       refine (awake_any _ (hm0.out.ext (Ext.refl _))).mono ?_
       rintro e w1 ⟨rfl, hw1⟩
       have HW1 := Lib.hid ((Ext.refl _).trans hw1)
       clear hw1
       go_wp2_with fail
       refine (HF1.out _ HW1.out).mono ?_
       rintro e w2 ⟨rfl, hw2⟩
       have HW2 := Lib.hid (HW1.out.trans hw2)
       clear hw2
       go_wp2_with fail
       refine (HF2.out _ HW2.out).mono ?_
       rintro e w3 ⟨rfl, hw3⟩
       have HW3 := Lib.hid (HW2.out.trans hw3)
       clear hw3
       go_wp2_with fail
       refine (HF3.out _ HW3.out).mono ?_
       rintro e w4 ⟨rfl, hw4⟩
       have HW4 := Lib.hid (HW3.out.trans hw4)
       clear hw4
       have hcw := HCA.out _ HW4.out
       go_wp2_with fail
       refine (K1.out _ HW4.out).mono ?_
       rintro e w5 ⟨rfl, hw5⟩
       have HW5 := Lib.hid (HW4.out.trans hw5)
       clear hw5
       clear hcw
       go_wp2_with fail
       refine (K2.out _ HW5.out).mono ?_
       rintro e w6 ⟨rfl, hw6⟩
       have HW6 := Lib.hid (HW5.out.trans hw6)
       clear hw6
       go_wp2_with fail
       go_loopw [11] (ExInv w m) (fun i _ => m - (intOf i).toNat)
       case atStart => exact ⟨0, Nat.zero_le _, rfl, HW6.out⟩
       case round =>
         obtain ⟨k, hk, rfl, hw⟩ := hrel
         have HW := Lib.hid hw
         clear hw
         by_cases hkm : k < m
         · obtain ⟨ad2, s, hB1, hs, hcs⟩ := (HB.out.ext HW.out).at_map hkm
           subst hB1
           have hkI : (k : Int) < (m : Int) := by omega
           have HSK := Lib.hid (show (dl S)[k]? = some s.data.toList from by unfold dl; rw [List.getElem?_map, hs]; rfl)
           have kc := fun W (h : Ext w W) => tcan_any s W (hm0.out.ext h) (HS.out s (List.mem_of_getElem? hs))
           obtain ⟨sb, hsb1, hsb2⟩ := strv_b (canP s.data.toList).1
           rw [hsb1] at kc
           have KC := Lib.hid kc
           have HSB := Lib.hid hsb2
           clear hs kc hsb1 hsb2
           cases hq : (sb.toList == wb.toList)
           · go_wp2_with fail
             refine (KC.out _ HW.out).mono ?_
             rintro e w9 ⟨rfl, hw9⟩
             have HW9 := Lib.hid (HW.out.trans hw9)
             clear hw9
             go_wp2
             exact ⟨⟨k + 1, by omega, by go_num, HW9.out⟩, by simp [intOf]; omega⟩
           · have hD := HEX.out s k HSK.out (by rw [eq_b] at hq; rw [← HSB.out]; simpa using hq)
             exact absurd hD.2 (by decide)
         · have hkk : k = m := by omega
           subst hkk
           go_wp2
           go_ret
           exact ⟨by first | rfl | simp | simp [*], HW.out⟩

set_option maxRecDepth 100000 in
theorem lifted (os : Os) (started : os.Started) (H : Type) (enc : TypeId × Value → H) :
    ReturnsInHanded {} Tryz.checked os 7 .any (fun w args => (Rows.matchExactSpec.pre enc Tryz.prog Tryz.f7 [] false w args ∧ laidMetH Tryz.prog laidL w) ∧ sizedMet enc Tryz.prog Tryz.f7 (OpenSpec.ofChange Rows.matchExactSpec) false w args)
      (Rows.matchExactSpec.post enc Tryz.prog Tryz.f7 false true false false) := by
  refine lifted_and_sized (C := Tryz.checked) (X := fun w _ => laidMetH Tryz.prog laidL w) (fun _ _ _ hh h => h.of_heap hh) own started (by kernel_rfl) Tryz.func7
    (ChangeSpec.witness_shaped (enc := enc) (C := Tryz.checked) (os := os) (X := fun w _ => laidMetH Tryz.prog laidL w) false (World.laidAll Tryz.prog os laidL) #[.slice none 0 0, .slice none 0 0, .slice none 0 0] 8 (World.laidAll_os _ _ _)
      (World.shaped_of_ZipB (by kernel_rfl) (by kernel_rfl)) (by kernel_rfl) (by kernel_rfl) (by kernel_rfl)
      (by rw [MakeChecks.laidMetH_plain _ _ _ (by kernel_rfl)]; exact laidMet_laidAll _ (by kernel_rfl) (by kernel_rfl))) ?_
  intro W base args ds gs before hval0 hW hL hshape hsz0
  have hval : ∀ (j : Nat) t v, Tryz.f7.params[j]? = some t → args[j]? = some v → Value.okWide Tryz.prog W .any base t v := hval0
  have hW' := hW
  obtain ⟨p, q, hA0, hV, rfl, hfz, hnd⟩ := hW
  have hA : DataW.TrodAll enc Tryz.prog W 0 (fun _ => true) true Tryz.f7.params.toList args.toList ds p := hA0
  obtain ⟨rfl, rfl⟩ := trodVars_none hV
  have hsz : ∀ m ∈ DataW.weightsEach Tryz.prog Tryz.f7.params.toList ds, m ≤ reachBytes := fun m hm => hsz0 m (by
    rw [List.append_nil, show Rows.matchExactSpec.plain.varTypes Tryz.checked.prog = [] from rfl, List.append_nil]
    exact hm)
  rw [Tryz.params7] at hA hval hsz
  obtain ⟨v0, v1, v2, d0, d1, d2, p0, p1, p2, rfl, rfl, rfl, h0, h1, h2⟩ := trodAll_three hA
  obtain ⟨Al, nl, cl, l, rfl, hnr, hnl, hzl⟩ := open_nrs (hval 0 22 v0 rfl rfl) h0 (fun m hm => hsz m (DataW.weights_mem_each (j := 0) rfl rfl m hm))
  obtain ⟨A1, n1, c1, S1, rfl, hS1, hn1⟩ := open_strs Tryz.underlying23 Tryz.underlying9 (by kernel_rfl) (okWide_slice Tryz.underlying23 (hval 1 23 v1 rfl rfl)) h1
  obtain ⟨A2, n2, c2, S2, rfl, hS2, hn2⟩ := open_strs Tryz.underlying23 Tryz.underlying9 (by kernel_rfl) (okWide_slice Tryz.underlying23 (hval 2 23 v2 rfl rfl)) h2
  refine (law l Al nl cl S1 S2 A1 A2 n1 c1 n2 c2 W (mx_of hshape) hnr hnl (fun x hx => ⟨(hzl x hx).1, (hzl x hx).2.1⟩) hS1 hn1 hS2 hn2).mono fun e W' ⟨he, hw⟩ => ?_
  subst he
  exact ⟨_, rfl, law_post (t := 4) laidOut (by rw [Tryz.params7]; intro t ht; simp at ht; rcases ht with rfl | rfl | rfl <;> exact ⟨by kernel_rfl, of_decide_eq_true (by kernel_rfl)⟩) rfl Tryz.underlying4 rfl ⟨rfl, rfl, rfl⟩ hW' hw⟩

theorem row : Rows.matchExactRow.holds Tryz.pinned (OpenSpec.ofChange Rows.matchExactSpec) :=
  OpenClaim.holds_of_wide 7 Tryz.f7 rfl rfl rfl rfl rfl rfl rfl ⟨rfl, rfl, rfl, rfl, rfl⟩ rfl rfl rfl rfl rfl (by kernel_rfl) Tryz.func7 (by kernel_rfl)
    (of_decide_eq_true (by kernel_rfl)) (by unfold Func.isWrapper; first | (rw [if_pos (by decide +kernel)]; kernel_rfl) | (rw [if_neg (by decide +kernel)]; exact ⟨rfl, rfl⟩))
    (fun os started H enc _ => lifted os started H enc)
theorem card : Rows.MatchExactCardSaid :=
  Claim7.holds_tied_plain_at .later [] [.data, .pinned] true (true, "4cde27c78bbc81950535fd720fe09d69469a41aa016a45fd5cda06c4d16a1c23") false row (fun _ h => by cases h) (by kernel_rfl) (fun _ h => by cases h) matchExact_row_tie rfl ⟨rfl, rfl⟩ (by kernel_rfl) rfl
    (fun f fn hf hfn => by
      obtain rfl : f = 7 := Option.some.inj ((show Tryz.prog.funcNamed "calque/calquelaw21.MatchExact" = some 7 by kernel_rfl).symm.trans hf) |>.symm
      obtain rfl : fn = Tryz.f7 := (Option.some.inj (Tryz.func7.symm.trans hfn)).symm
      exact ⟨by kernel_rfl, fun j t ht => by
        rw [Tryz.params7] at ht
        have hm : t ∈ [22, 23, 23] := by simpa using Array.mem_of_getElem? ht
        have hall : ([22, 23, 23].all fun u => !Tryz.prog.wantsStandIn u) = true := by kernel_rfl
        exact (show Tryz.prog.wantsStandIn t = false by simpa using List.all_eq_true.1 hall t hm)⟩)
    (by kernel_rfl)
#print axioms card
end Go.Proofs.YtkflpenpjnnhdaaGreatDoor.lawMatchExact
