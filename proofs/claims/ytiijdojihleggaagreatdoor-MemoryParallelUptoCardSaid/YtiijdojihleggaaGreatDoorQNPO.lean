import Derived.Test.YtiijdojihleggaaGreatDoorQNP3
import Derived.Test.YtiijdojihleggaaGreatDoorQNB1
import Derived.Test.YtiijdojihleggaaGreatDoorQNPH
import Derived.Test.YtiijdojihleggaaGreatDoorQNPC
import Derived.Test.YtiijdojihleggaaGreatDoorQDec
set_option maxRecDepth 100000
set_option linter.unusedSimpArgs false
set_option linter.unusedVariables false
open Go.Lib (hid)
namespace Go.Proofs.YtiijdojihleggaaGreatDoor
open Go.RowKit Go.Maps Go.Sort
theorem sel_any (k : Int) (w : World) : Calls Tryz.prog 105 #[.int .i64 k] w fun e w' => e = .returned (.bool (decide (7 ≤ k) && decide (k ≤ 9))) ∧ w = w' := by
 go_enter Tryz.func105, Tryz.ntmps105
 go_wp2
 all_goals (go_ret; exact ⟨ret_bool (by rw [Bool.eq_iff_iff]; simp; omega), rfl⟩)
def usesL : List ArgP := [([115, 101, 108, 101, 99, 116], 9), ([111, 114, 100, 105, 110, 97, 108], 8), ([112, 108, 117, 114, 97, 108], 7), ([108, 105, 115, 116], 6), ([100, 97, 116, 101], 5), ([117, 110, 105, 116], 4), ([110, 117, 109, 98, 101, 114], 3)]
theorem uses_any (w : World) : Calls Tryz.prog 104 #[] w fun e w' => e = .returned (.map (some w.heap.size)) ∧ MapI Tryz.prog 9 3 w' w.heap.size 7 usesL ∧ Ext w w' := by
 have hmm := @run_makeMap Tryz.prog
 have u0 := MapI.made Tryz.prog 9 3 w
 have x0 : Ext w (w.alloc (.map #[] 0)) := (Ext.refl w).alloc _
 obtain ⟨w1, r1, m1, g1⟩ := u0.update Tryz.underlying9 Tryz.underlying3 Tryz.underlying171 (by decide) ⟨#[110, 117, 109, 98, 101, 114]⟩ (by decide) 3 (by decide)
 obtain ⟨w2, r2, m2, g2⟩ := m1.update Tryz.underlying9 Tryz.underlying3 Tryz.underlying171 (by decide) ⟨#[117, 110, 105, 116]⟩ (by decide) 4 (by decide)
 obtain ⟨w3, r3, m3, g3⟩ := m2.update Tryz.underlying9 Tryz.underlying3 Tryz.underlying171 (by decide) ⟨#[100, 97, 116, 101]⟩ (by decide) 5 (by decide)
 obtain ⟨w4, r4, m4, g4⟩ := m3.update Tryz.underlying9 Tryz.underlying3 Tryz.underlying171 (by decide) ⟨#[108, 105, 115, 116]⟩ (by decide) 6 (by decide)
 obtain ⟨w5, r5, m5, g5⟩ := m4.update Tryz.underlying9 Tryz.underlying3 Tryz.underlying171 (by decide) ⟨#[112, 108, 117, 114, 97, 108]⟩ (by decide) 7 (by decide)
 obtain ⟨w6, r6, m6, g6⟩ := m5.update Tryz.underlying9 Tryz.underlying3 Tryz.underlying171 (by decide) ⟨#[111, 114, 100, 105, 110, 97, 108]⟩ (by decide) 8 (by decide)
 obtain ⟨w7, r7, m7, g7⟩ := m6.update Tryz.underlying9 Tryz.underlying3 Tryz.underlying171 (by decide) ⟨#[115, 101, 108, 101, 99, 116]⟩ (by decide) 9 (by decide)
 have q1 : Exc (fun j => j = w.heap.size) _ _ := Exc.grown g1 rfl
 have q2 : Exc (fun j => j = w.heap.size) _ _ := Exc.grown g2 rfl
 have q3 : Exc (fun j => j = w.heap.size) _ _ := Exc.grown g3 rfl
 have q4 : Exc (fun j => j = w.heap.size) _ _ := Exc.grown g4 rfl
 have q5 : Exc (fun j => j = w.heap.size) _ _ := Exc.grown g5 rfl
 have q6 : Exc (fun j => j = w.heap.size) _ _ := Exc.grown g6 rfl
 have q7 : Exc (fun j => j = w.heap.size) _ _ := Exc.grown g7 rfl
 have hx : Exc (fun j => j = w.heap.size) (w.alloc (.map #[] 0)) w7 := q1.trans (q2.trans (q3.trans (q4.trans (q5.trans (q6.trans q7)))))
 have HX := hid (show Ext w w7 from Below.trans x0 (hx.below (fun j hj => by subst hj; exact Nat.le_refl _) (by simp)))
 have HM := hid (show MapI Tryz.prog 9 3 w7 w.heap.size 7 usesL from m7)
 clear u0 m1 m2 m3 m4 m5 m6 m7 g1 g2 g3 g4 g5 g6 g7 q1 q2 q3 q4 q5 q6 q7 hx x0
 go_enter Tryz.func104, Tryz.ntmps104
 go_wp2
 go_ret
 exact ⟨rfl, HM.out, HX.out⟩
def SkInv (s : ByteArray) (w : World) (i : Value) (wr : World) : Prop :=
 ∃ k : Nat, k ≤ s.size ∧ i = .int .i64 k ∧ wr = w ∧ (s.data.toList.take k).all (fun c => lowB c || capB c) = true
set_option maxHeartbeats 1000000 in
theorem skel_any (s : ByteArray) (w : World) (hs : s.size ≤ maxLen) : Calls Tryz.prog 146 #[.string s] w fun e w' => e = .returned (.bool (skelB s.data.toList)) ∧ w = w' := by
 unfold maxLen at hs
 obtain ⟨R, hR⟩ : ∃ R, R = skelB s.data.toList := ⟨_, rfl⟩
 rw [← hR]
 unfold skelB at hR
 rw [size_list] at hR
 have HR := hid hR
 clear hR
 go_enter Tryz.func146, Tryz.ntmps146
 go_wp2
 go_loopw [7] (SkInv s w) (fun i _ => s.size - (intOf i).toNat)
 case atStart => exact ⟨0, Nat.zero_le _, rfl, rfl, rfl⟩
 case round =>
  obtain ⟨k, hk, rfl, rfl, ht⟩ := hrel
  have HT := hid ht
  clear ht
  by_cases hlt : k < s.size
  ·have hltI : (k : Int) < (s.size : Int) := by omega
   have HP := hid (fun (h : (lowB s[k] || capB s[k]) = true) => all_stepI HT.out hlt h)
   have HN := hid (fun (h : (lowB s[k] || capB s[k]) = false) => all_stopI (p := fun c => lowB c || capB c) hlt h)
   have HL : lowB s[k] = (decide (97 ≤ s[k].toNat) && decide (s[k].toNat ≤ 122)) := by unfold lowB; simp [UInt8.le_iff_toNat_le]
   have HC : capB s[k] = (decide (65 ≤ s[k].toNat) && decide (s[k].toNat ≤ 90)) := by unfold capB; simp [UInt8.le_iff_toNat_le]
   rw [HL, HC] at HP HN
   clear HL HC
   have h255 : s[k].toNat < 256 := s[k].toNat_lt
   by_cases h1 : s[k].toNat < 97
   ·have q1 : (s[k].toNat : Int) < 97 := by omega
    by_cases h2 : s[k].toNat < 65
    ·have q2 : (s[k].toNat : Int) < 65 := by omega
     have HF := hid (show R = false from by rw [HR.out, HN.out (by simp; omega)]; rfl)
     go_wp2
     go_ret
     exact ⟨ret_bool HF.out.symm, rfl⟩
    ·have q2 : ¬ (s[k].toNat : Int) < 65 := by omega
     by_cases h3 : 90 < s[k].toNat
     ·have q3 : (90 : Int) < (s[k].toNat : Int) := by omega
      have HF := hid (show R = false from by rw [HR.out, HN.out (by simp; omega)]; rfl)
      go_wp2
      go_ret
      exact ⟨ret_bool HF.out.symm, rfl⟩
     ·have q3 : ¬ (90 : Int) < (s[k].toNat : Int) := by omega
      have HF := hid (HP.out (by simp; omega))
      go_wp2
      exact ⟨⟨k + 1, by omega, by go_num, rfl, HF.out⟩, by simp [intOf]; omega⟩
   ·have q1 : ¬ (s[k].toNat : Int) < 97 := by omega
    by_cases h2 : 122 < s[k].toNat
    ·have q2 : (122 : Int) < (s[k].toNat : Int) := by omega
     have q3 : ¬ (s[k].toNat : Int) < 65 := by omega
     have q4 : (90 : Int) < (s[k].toNat : Int) := by omega
     have HF := hid (show R = false from by rw [HR.out, HN.out (by simp; omega)]; rfl)
     go_wp2
     go_ret
     exact ⟨ret_bool HF.out.symm, rfl⟩
    ·have q2 : ¬ (122 : Int) < (s[k].toNat : Int) := by omega
     have HF := hid (HP.out (by simp; omega))
     go_wp2
     exact ⟨⟨k + 1, by omega, by go_num, rfl, HF.out⟩, by simp [intOf]; omega⟩
  ·have hkk : k = s.size := by omega
   have HA := hid (all_endI HT.out hlt)
   subst hkk
   have hltI : ¬ (s.size : Int) < (s.size : Int) := by omega
   by_cases h0 : s.size = 0
   ·have HF := hid (show R = false from by rw [HR.out, HA.out, decide_eq_false (show ¬ 1 ≤ s.size from by omega)]; rfl)
    have hse : s = ⟨#[]⟩ := by
     apply ByteArray.ext
     exact Array.eq_empty_of_size_eq_zero h0
    subst hse
    go_wp2
    all_goals go_ret
    all_goals exact ⟨ret_bool HF.out.symm, rfl⟩
   ·have g0 : ¬ s.toList = [] := by
     rw [ByteArray.toList_eq]
     intro h
     have h2 := size_list s
     rw [h] at h2
     simp at h2
     omega
    have g0b : s.toList.isEmpty = false := by
     cases h : s.toList with
     | nil => exact absurd h g0
     | cons x r => rfl
    have HF := hid (show R = decide (s.size ≤ 40) from by rw [HR.out, HA.out, decide_eq_true (show 1 ≤ s.size from by omega)]; rfl)
    by_cases h40 : s.size ≤ 40
    ·have g2 : (s.size : Int) ≤ 40 := by omega
     rw [decide_eq_true h40] at HF
     go_wp2
     all_goals go_ret
     all_goals exact ⟨ret_bool HF.out.symm, rfl⟩
    ·have g2 : ¬ (s.size : Int) ≤ 40 := by omega
     rw [decide_eq_false h40] at HF
     go_wp2
     all_goals go_ret
     all_goals exact ⟨ret_bool HF.out.symm, rfl⟩
set_option maxHeartbeats 1000000 in
theorem class_any (s : ByteArray) (w : World) : Calls Tryz.prog 187 #[.string s] w fun e w' => e = .returned (.bool (classB s.data.toList)) ∧ w = w' := by
 have HF := hid (show classB s.data.toList = (s.toList == [122, 101, 114, 111] || s.toList == [111, 110, 101] || s.toList == [116, 119, 111] || s.toList == [102, 101, 119] || s.toList == [109, 97, 110, 121] || s.toList == [111, 116, 104, 101, 114]) from by rw [ByteArray.toList_eq]; rfl)
 generalize classB s.data.toList = R at HF ⊢
 by_cases c0 : s.toList = [122, 101, 114, 111]
 ·have HG := hid (show R = true from by rw [HF.out, c0]; rfl)
  have b0 : (s.toList == [122, 101, 114, 111]) = true := by rw [beq_iff_eq]; exact c0
  go_enter Tryz.func187, Tryz.ntmps187
  go_wp2
  go_ret
  exact ⟨ret_bool HG.out.symm, rfl⟩
 have b0 : (s.toList == [122, 101, 114, 111]) = false := by rw [beq_eq_false_iff_ne]; exact c0
 by_cases c1 : s.toList = [111, 110, 101]
 ·have HG := hid (show R = true from by rw [HF.out, c1]; rfl)
  have b1 : (s.toList == [111, 110, 101]) = true := by rw [beq_iff_eq]; exact c1
  go_enter Tryz.func187, Tryz.ntmps187
  go_wp2
  go_ret
  exact ⟨ret_bool HG.out.symm, rfl⟩
 have b1 : (s.toList == [111, 110, 101]) = false := by rw [beq_eq_false_iff_ne]; exact c1
 by_cases c2 : s.toList = [116, 119, 111]
 ·have HG := hid (show R = true from by rw [HF.out, c2]; rfl)
  have b2 : (s.toList == [116, 119, 111]) = true := by rw [beq_iff_eq]; exact c2
  go_enter Tryz.func187, Tryz.ntmps187
  go_wp2
  go_ret
  exact ⟨ret_bool HG.out.symm, rfl⟩
 have b2 : (s.toList == [116, 119, 111]) = false := by rw [beq_eq_false_iff_ne]; exact c2
 by_cases c3 : s.toList = [102, 101, 119]
 ·have HG := hid (show R = true from by rw [HF.out, c3]; rfl)
  have b3 : (s.toList == [102, 101, 119]) = true := by rw [beq_iff_eq]; exact c3
  go_enter Tryz.func187, Tryz.ntmps187
  go_wp2
  go_ret
  exact ⟨ret_bool HG.out.symm, rfl⟩
 have b3 : (s.toList == [102, 101, 119]) = false := by rw [beq_eq_false_iff_ne]; exact c3
 by_cases c4 : s.toList = [109, 97, 110, 121]
 ·have HG := hid (show R = true from by rw [HF.out, c4]; rfl)
  have b4 : (s.toList == [109, 97, 110, 121]) = true := by rw [beq_iff_eq]; exact c4
  go_enter Tryz.func187, Tryz.ntmps187
  go_wp2
  go_ret
  exact ⟨ret_bool HG.out.symm, rfl⟩
 have b4 : (s.toList == [109, 97, 110, 121]) = false := by rw [beq_eq_false_iff_ne]; exact c4
 by_cases c5 : s.toList = [111, 116, 104, 101, 114]
 ·have HG := hid (show R = true from by rw [HF.out, c5]; rfl)
  have b5 : (s.toList == [111, 116, 104, 101, 114]) = true := by rw [beq_iff_eq]; exact c5
  go_enter Tryz.func187, Tryz.ntmps187
  go_wp2
  go_ret
  exact ⟨ret_bool HG.out.symm, rfl⟩
 have b5 : (s.toList == [111, 116, 104, 101, 114]) = false := by rw [beq_eq_false_iff_ne]; exact c5
 have HG := hid (show R = false from by rw [HF.out, b0, b1, b2, b3, b4, b5]; rfl)
 go_enter Tryz.func187, Tryz.ntmps187
 go_wp2
 go_ret
 exact ⟨ret_bool HG.out.symm, rfl⟩
theorem style_any (s : ByteArray) (w : World) : Calls Tryz.prog 144 #[.string s] w fun e w' => e = .returned (.bool (numStyleB s.data.toList)) ∧ w' = w := by
 have HF := hid (show numStyleB s.data.toList = (s.toList == [105, 110, 116, 101, 103, 101, 114] || s.toList == [112, 101, 114, 99, 101, 110, 116]) from by rw [ByteArray.toList_eq]; rfl)
 generalize numStyleB s.data.toList = R at HF ⊢
 by_cases c0 : s.toList = [105, 110, 116, 101, 103, 101, 114]
 ·have HG := hid (show R = true from by rw [HF.out, c0]; rfl)
  have b0 : (s.toList == [105, 110, 116, 101, 103, 101, 114]) = true := by rw [beq_iff_eq]; exact c0
  go_enter Tryz.func144, Tryz.ntmps144
  go_wp2
  go_ret
  exact ⟨ret_bool HG.out.symm, rfl⟩
 have b0 : (s.toList == [105, 110, 116, 101, 103, 101, 114]) = false := by rw [beq_eq_false_iff_ne]; exact c0
 by_cases c1 : s.toList = [112, 101, 114, 99, 101, 110, 116]
 ·have HG := hid (show R = true from by rw [HF.out, c1]; rfl)
  have b1 : (s.toList == [112, 101, 114, 99, 101, 110, 116]) = true := by rw [beq_iff_eq]; exact c1
  go_enter Tryz.func144, Tryz.ntmps144
  go_wp2
  go_ret
  exact ⟨ret_bool HG.out.symm, rfl⟩
 have b1 : (s.toList == [112, 101, 114, 99, 101, 110, 116]) = false := by rw [beq_eq_false_iff_ne]; exact c1
 have HG := hid (show R = false from by rw [HF.out, b0, b1]; rfl)
 go_enter Tryz.func144, Tryz.ntmps144
 go_wp2
 go_ret
 exact ⟨ret_bool HG.out.symm, rfl⟩
end Go.Proofs.YtiijdojihleggaaGreatDoor
namespace Go.Proofs.YtiijdojihleggaaGreatDoor
open Go.RowKit
theorem hp_one (c : UInt8) (m : By) : Lib.hasPrefix m [c] = (m.head? == some c) := by
 cases m with
 | nil => rfl
 | cons a m =>
   show ((c : UInt8) == a && true) = (some a == some c)
   rw [Bool.and_true, Bool.eq_iff_iff, beq_iff_eq, beq_iff_eq]
   exact ⟨fun e => by rw [e], fun e => (Option.some.inj e).symm⟩
set_option maxHeartbeats 1000000 in
theorem key_any (k : Nat) (s : ByteArray) (w : World) (hm : Mx w) (hs : s.size ≤ 1048576) : Calls Tryz.prog 165 #[.int .i64 k, .string s] w fun e w' => e = .returned (.bool (keyB k s.data.toList)) ∧ Ext w w' := by
 by_cases h9 : k = 9
 ·subst h9
  have K := hid (tname_any s w (by unfold maxLen; omega))
  have HF := hid (show keyB 9 s.data.toList = nameB s.data.toList from if_pos rfl)
  generalize keyB 9 s.data.toList = R at HF ⊢
  go_enter Tryz.func165, Tryz.ntmps165
  go_wp2_with fail
  refine K.out.mono ?_
  rintro e w2 ⟨rfl, rfl⟩
  go_wp2
  go_ret
  exact ⟨ret_bool HF.out.symm, Ext.refl _⟩
 have b9 : ((k : Int) == 9) = false := by rw [beq_eq_false_iff_ne]; omega
 have hF : keyB k s.data.toList = (classB s.data.toList || (s.data.toList.head? == some 61 && decB (s.data.toList.drop 1))) := if_neg h9
 rw [← hp_one] at hF
 have K1 : ∀ W, Calls Tryz.prog 178 #[.string s, .string ⟨#[61]⟩] W fun e w' => e = .returned (.tuple #[.string ⟨(Lib.trimPrefix s.data.toList [61]).toArray⟩, .bool (Lib.hasPrefix s.data.toList [61])]) ∧ w' = W := fun W => Tryz.strings_CutPrefix s ⟨#[61]⟩ W
 obtain ⟨D, hD⟩ : ∃ D : ByteArray, D = ⟨(Lib.trimPrefix s.data.toList [61]).toArray⟩ := ⟨_, rfl⟩
 rw [← hD] at K1
 have hDs : D.size ≤ 1048576 := by
  rw [hD]
  show (Lib.trimPrefix s.data.toList [61]).length ≤ _
  have : (Lib.trimPrefix s.data.toList [61]).length ≤ s.data.toList.length := by
   unfold Lib.trimPrefix
   split
   ·exact (List.drop_sublist _ _).length_le
   ·exact Nat.le_refl _
  rw [size_list] at this
  omega
 have hDd : Lib.hasPrefix s.data.toList [61] = true → D.data.toList = s.data.toList.drop 1 := fun h => by
  rw [hD]
  show Lib.trimPrefix s.data.toList [61] = _
  unfold Lib.trimPrefix
  rw [if_pos h]
  rfl
 have HK1 := hid K1
 have K2 := hid (fun W => class_any s W)
 have K3 := hid (fun W (hW : Mx W) => tdec_any D W hW hDs)
 have HM := hid hm
 have HF := hid hF
 generalize keyB k s.data.toList = R at HF ⊢
 clear hF K1 hD hm
 cases hc : classB s.data.toList
 ·rw [hc] at K2
  cases hp : Lib.hasPrefix s.data.toList [61]
  ·have HG := hid (show R = false from by rw [HF.out, hc, hp]; rfl)
   rw [hp] at HK1
   clear hc hp hDd HF
   go_enter Tryz.func165, Tryz.ntmps165
   go_wp2_with fail
   refine (HK1.out _).mono ?_
   rintro e w2 ⟨rfl, rfl⟩
   go_wp2_with fail
   refine (K2.out _).mono ?_
   rintro e w3 ⟨rfl, rfl⟩
   go_wp2
   go_ret
   exact ⟨ret_bool HG.out.symm, Ext.refl _⟩
  ·have HG := hid (show R = decB D.data.toList from by rw [HF.out, hc, hp, hDd hp]; rfl)
   rw [hp] at HK1
   clear hc hp hDd HF
   generalize decB D.data.toList = dd at K3 HG
   go_enter Tryz.func165, Tryz.ntmps165
   go_wp2_with fail
   refine (HK1.out _).mono ?_
   rintro e w2 ⟨rfl, rfl⟩
   go_wp2_with fail
   refine (K2.out _).mono ?_
   rintro e w3 ⟨rfl, rfl⟩
   go_wp2_with fail
   refine (K3.out _ HM.out).mono ?_
   rintro e w4 ⟨rfl, hx⟩
   have HX := hid hx
   clear hx
   cases dd
   all_goals
    go_wp2
    go_ret
    exact ⟨ret_bool HG.out.symm, HX.out⟩
 ·rw [hc] at K2
  have HG := hid (show R = true from by rw [HF.out, hc]; rfl)
  clear hc hDd HF
  go_enter Tryz.func165, Tryz.ntmps165
  go_wp2_with fail
  refine (HK1.out _).mono ?_
  rintro e w2 ⟨rfl, rfl⟩
  go_wp2_with fail
  refine (K2.out _).mono ?_
  rintro e w3 ⟨rfl, rfl⟩
  go_wp2
  go_ret
  exact ⟨ret_bool HG.out.symm, Ext.refl _⟩
theorem key1_any (k : Nat) (T : TypeId) (b : Nat) (s : ByteArray) (w : World) (hk : AtC T w b #[.int .i64 k]) (hm : Mx w) (hs : s.size ≤ 1048576) :
 Calls Tryz.prog 181 #[.string s, .pointer (some ⟨b, 0, none⟩)] w fun e w' => e = .returned (.bool (keyB k s.data.toList)) ∧ Ext w w' := by
 have K := hid (key_any k s w hm hs)
 have h0 := hk.cell 0 _ rfl
 go_enter Tryz.func181, Tryz.ntmps181
 go_wp2_with fail
 refine K.out.mono ?_
 rintro e w2 ⟨rfl, hx⟩
 go_wp2
 go_ret
 exact ⟨rfl, hx⟩
theorem use_get (n : By) : (getA usesL n).getD 0 = (useP n : Int) := by
 by_cases h1 : n = [110, 117, 109, 98, 101, 114]
 ·subst h1
  decide
 by_cases h2 : n = [117, 110, 105, 116]
 ·subst h2
  decide
 by_cases h3 : n = [100, 97, 116, 101]
 ·subst h3
  decide
 by_cases h4 : n = [108, 105, 115, 116]
 ·subst h4
  decide
 by_cases h5 : n = [112, 108, 117, 114, 97, 108]
 ·subst h5
  decide
 by_cases h6 : n = [111, 114, 100, 105, 110, 97, 108]
 ·subst h6
  decide
 by_cases h7 : n = [115, 101, 108, 101, 99, 116]
 ·subst h7
  decide
 unfold useP usesL
 rw [if_neg h1, if_neg h2, if_neg h3, if_neg h4, if_neg h5, if_neg h6, if_neg h7]
 simp only [getA]
 rw [if_neg (fun e => h7 e.symm), if_neg (fun e => h6 e.symm), if_neg (fun e => h5 e.symm), if_neg (fun e => h4 e.symm), if_neg (fun e => h3 e.symm), if_neg (fun e => h2 e.symm), if_neg (fun e => h1 e.symm)]
 rfl
theorem known_any (T : TypeId) (b tb : Nat) (s : ByteArray) (w : World) (hk : AtC T w b #[.map (some tb)]) (hm : MapI Tryz.prog 9 3 w tb 7 usesL) (hs : s.size ≤ 1048576) :
 Calls Tryz.prog 142 #[.string s, .pointer (some ⟨b, 0, none⟩)] w fun e w' => e = .returned (.bool (useP s.data.toList != 0)) ∧ w' = w := by
 have h0 := hk.cell 0 _ rfl
 have hz : (zeroValue 3).run Tryz.prog w = .ok (.int .i64 0) w := by kernel_rfl
 have hu := use_get s.data.toList
 go_enter Tryz.func142, Tryz.ntmps142
 go_wp2_with (first
  | (at_lookup; refine wpList_lookupI rfl _ _ 171 9 3 rfl Tryz.underlying9 Tryz.underlying3 Tryz.underlying171 hz tb 7 usesL rfl hm s rfl (by unfold maxLen; omega) ?_; rw [hu]))
 go_ret
 refine ⟨ret_bool ?_, rfl⟩
 rw [Bool.eq_iff_iff, bne_iff_ne, bne_iff_ne]
 omega
end Go.Proofs.YtiijdojihleggaaGreatDoor
