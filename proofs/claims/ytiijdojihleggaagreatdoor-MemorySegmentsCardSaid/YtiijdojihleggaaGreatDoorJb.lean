import Derived.Test.YtiijdojihleggaaGreatDoorNPO
import Derived.Test.YtiijdojihleggaaGreatDoorRDec
set_option maxRecDepth 100000
set_option linter.unusedSimpArgs false
set_option linter.unusedVariables false
open Go.Lib (hid)
namespace Go.Proofs.YtiijdojihleggaaGreatDoor
open Go.RowKit
theorem rsel26_any (k : Int) (w : World) : Calls Tryz.prog 81 #[.int .i64 k] w fun e w' => e = .returned (.bool (k == 7 || k == 8 || k == 9)) ∧ w = w' := by
 go_enter Tryz.func81, Tryz.ntmps81
 go_wp2
 all_goals (go_ret; exact ⟨ret_bool (by simp_all), rfl⟩)
theorem rcnt26_any (k : Int) (w : World) : Calls Tryz.prog 84 #[.int .i64 k] w fun e w' => e = .returned (.bool (k == 7 || k == 8)) ∧ w = w' := by
 go_enter Tryz.func84, Tryz.ntmps84
 go_wp2
 all_goals (go_ret; exact ⟨ret_bool (by simp_all), rfl⟩)
def strC (l : List By) : List Value := l.map fun x => .string ⟨x.toArray⟩
def InI (w : World) (l : List By) (s : By) (R : Bool) (i : Value) (wr : World) : Prop := ∃ k : Nat, k ≤ l.length ∧ i = .int .i64 k ∧ R = decide (s ∈ l.drop k) ∧ w = wr
set_option maxHeartbeats 1000000 in
theorem rin26_any (l : List By) (A : Option Addr) (c : Nat) (s : By) (w : World) (hl : SlN w A l.length 1 (strC l)) (hn : l.length ≤ 1000000000) : Calls Tryz.prog 83 #[.slice A l.length c, .string ⟨s.toArray⟩] w fun e w' => e = .returned (.bool (decide (s ∈ l))) ∧ w = w' := by
 obtain ⟨R, hR⟩ : ∃ R, R = decide (s ∈ l) := ⟨_, rfl⟩
 rw [← hR]
 have HL := hid hl
 have H0 := hid (show InI w l s R (.int .i64 0) w from ⟨0, Nat.zero_le _, rfl, by rw [List.drop_zero]; exact hR, rfl⟩)
 clear hl hR
 go_enter Tryz.func83, Tryz.ntmps83
 go_wp2_with fail
 go_loopw [5] (InI w l s R) (fun i _ => l.length - (intOf i).toNat)
 case atStart => exact H0.out
 case round =>
  obtain ⟨k, hk, rfl, hr, rfl⟩ := hrel
  by_cases hkl : k < l.length
  rotate_left
  ·have hkI : ¬ (k : Int) < (l.length : Int) := by omega
   have hR0 : R = false := by rw [hr, List.drop_eq_nil_of_le (by omega)]; rfl
   subst hR0
   clear hr
   go_wp2
   go_ret
   exact ⟨rfl, rfl⟩
  have hkI : (k : Int) < (l.length : Int) := by omega
  have hx : l.drop k = l[k] :: l.drop (k + 1) := List.drop_eq_getElem_cons hkl
  obtain ⟨x, hxk⟩ : ∃ x, x = l[k] := ⟨_, rfl⟩
  have hu : (strC l)[k]? = some (.string ⟨x.toArray⟩) := by unfold strC; rw [List.getElem?_map, List.getElem?_eq_getElem hkl, hxk]; rfl
  obtain ⟨b, o, rfl, hb, hc⟩ := HL.out.2 k _ hu
  rw [hx, ← hxk] at hr
  clear hu hx hxk
  cases q : (x == s)
  ·have HR := hid (show R = decide (s ∈ l.drop (k + 1)) from by
    rw [hr]
    have : s ≠ x := fun e => by rw [e] at q; simp at q
    simp [this])
   clear hr
   go_wp2
   exact ⟨⟨k + 1, hkl, by go_num, HR.out, rfl⟩, by simp [intOf]; omega⟩
  ·have hR1 : R = true := by
    rw [hr]
    have : x = s := by simpa using q
    simp [this]
   subst hR1
   clear hr
   go_wp2
   go_ret
   exact ⟨rfl, rfl⟩
theorem rclass_any (s : ByteArray) (w : World) : Calls Tryz.prog 123 #[.string s] w fun e w' => e = .returned (.bool (classB s.data.toList)) ∧ w = w' := by
 have HF := hid (show classB s.data.toList = (s.toList == [122, 101, 114, 111] || s.toList == [111, 110, 101] || s.toList == [116, 119, 111] || s.toList == [102, 101, 119] || s.toList == [109, 97, 110, 121] || s.toList == [111, 116, 104, 101, 114]) from by rw [ByteArray.toList_eq]; rfl)
 generalize classB s.data.toList = R at HF ⊢
 by_cases c0 : s.toList = [122, 101, 114, 111]
 ·have HG := hid (show R = true from by rw [HF.out, c0]; rfl)
  have b0 : (s.toList == [122, 101, 114, 111]) = true := by rw [beq_iff_eq]; exact c0
  go_enter Tryz.func123, Tryz.ntmps123
  go_wp2
  go_ret
  exact ⟨ret_bool HG.out.symm, rfl⟩
 have b0 : (s.toList == [122, 101, 114, 111]) = false := by rw [beq_eq_false_iff_ne]; exact c0
 by_cases c1 : s.toList = [111, 110, 101]
 ·have HG := hid (show R = true from by rw [HF.out, c1]; rfl)
  have b1 : (s.toList == [111, 110, 101]) = true := by rw [beq_iff_eq]; exact c1
  go_enter Tryz.func123, Tryz.ntmps123
  go_wp2
  go_ret
  exact ⟨ret_bool HG.out.symm, rfl⟩
 have b1 : (s.toList == [111, 110, 101]) = false := by rw [beq_eq_false_iff_ne]; exact c1
 by_cases c2 : s.toList = [116, 119, 111]
 ·have HG := hid (show R = true from by rw [HF.out, c2]; rfl)
  have b2 : (s.toList == [116, 119, 111]) = true := by rw [beq_iff_eq]; exact c2
  go_enter Tryz.func123, Tryz.ntmps123
  go_wp2
  go_ret
  exact ⟨ret_bool HG.out.symm, rfl⟩
 have b2 : (s.toList == [116, 119, 111]) = false := by rw [beq_eq_false_iff_ne]; exact c2
 by_cases c3 : s.toList = [102, 101, 119]
 ·have HG := hid (show R = true from by rw [HF.out, c3]; rfl)
  have b3 : (s.toList == [102, 101, 119]) = true := by rw [beq_iff_eq]; exact c3
  go_enter Tryz.func123, Tryz.ntmps123
  go_wp2
  go_ret
  exact ⟨ret_bool HG.out.symm, rfl⟩
 have b3 : (s.toList == [102, 101, 119]) = false := by rw [beq_eq_false_iff_ne]; exact c3
 by_cases c4 : s.toList = [109, 97, 110, 121]
 ·have HG := hid (show R = true from by rw [HF.out, c4]; rfl)
  have b4 : (s.toList == [109, 97, 110, 121]) = true := by rw [beq_iff_eq]; exact c4
  go_enter Tryz.func123, Tryz.ntmps123
  go_wp2
  go_ret
  exact ⟨ret_bool HG.out.symm, rfl⟩
 have b4 : (s.toList == [109, 97, 110, 121]) = false := by rw [beq_eq_false_iff_ne]; exact c4
 by_cases c5 : s.toList = [111, 116, 104, 101, 114]
 ·have HG := hid (show R = true from by rw [HF.out, c5]; rfl)
  have b5 : (s.toList == [111, 116, 104, 101, 114]) = true := by rw [beq_iff_eq]; exact c5
  go_enter Tryz.func123, Tryz.ntmps123
  go_wp2
  go_ret
  exact ⟨ret_bool HG.out.symm, rfl⟩
 have b5 : (s.toList == [111, 116, 104, 101, 114]) = false := by rw [beq_eq_false_iff_ne]; exact c5
 have HG := hid (show R = false from by rw [HF.out, b0, b1, b2, b3, b4, b5]; rfl)
 go_enter Tryz.func123, Tryz.ntmps123
 go_wp2
 go_ret
 exact ⟨ret_bool HG.out.symm, rfl⟩
set_option maxHeartbeats 1000000 in
theorem rskel_any (s : ByteArray) (w : World) (hs : s.size ≤ maxLen) : Calls Tryz.prog 125 #[.string s] w fun e w' => e = .returned (.bool (skelB s.data.toList)) ∧ w = w' := by
 unfold maxLen at hs
 obtain ⟨R, hR⟩ : ∃ R, R = skelB s.data.toList := ⟨_, rfl⟩
 rw [← hR]
 unfold skelB at hR
 rw [size_list] at hR
 have HR := hid hR
 clear hR
 go_enter Tryz.func125, Tryz.ntmps125
 go_wp2
 go_loopw [3] (SkInv s w) (fun i _ => s.size - (intOf i).toNat)
 case atStart => exact ⟨0, Nat.zero_le _, rfl, rfl, rfl⟩
 case round =>
  obtain ⟨k, hk, rfl, rfl, ht⟩ := hrel
  have HT := hid ht
  clear ht
  by_cases hlt : k < s.size
  ·have hltI : (k : Int) < (s.size : Int) := by omega
   have HP := hid (fun (h : (lowB s[k] || capB s[k]) = true) => all_stepI HT.out hlt h)
   have HN := hid (fun (h : (lowB s[k] || capB s[k]) = false) => all_stopI (p := fun c => lowB c || capB c) hlt h)
   have HL : lowB s[k] = (decide (97 ≤ s[k].toNat) && decide (s[k].toNat ≤ 122)) := by unfold lowB; simp [UInt8.le_iff_toNat_le]
   have HC : capB s[k] = (decide (65 ≤ s[k].toNat) && decide (s[k].toNat ≤ 90)) := by unfold capB; simp [UInt8.le_iff_toNat_le]
   rw [HL, HC] at HP HN
   clear HL HC
   have h255 : s[k].toNat < 256 := s[k].toNat_lt
   by_cases h1 : s[k].toNat < 97
   ·have p1 : ¬ (97 : Int) ≤ (s[k].toNat : Int) := by omega
    by_cases h2 : s[k].toNat < 65
    ·have p2 : ¬ (65 : Int) ≤ (s[k].toNat : Int) := by omega
     have HF := hid (show R = false from by rw [HR.out, HN.out (by simp; omega)]; rfl)
     go_wp2
     go_ret
     exact ⟨ret_bool HF.out.symm, rfl⟩
    ·have p2 : (65 : Int) ≤ (s[k].toNat : Int) := by omega
     by_cases h3 : 90 < s[k].toNat
     ·have q3 : ¬ (s[k].toNat : Int) ≤ 90 := by omega
      have HF := hid (show R = false from by rw [HR.out, HN.out (by simp; omega)]; rfl)
      go_wp2
      go_ret
      exact ⟨ret_bool HF.out.symm, rfl⟩
     ·have q3 : (s[k].toNat : Int) ≤ 90 := by omega
      have HF := hid (HP.out (by simp; omega))
      go_wp2
      exact ⟨⟨k + 1, by omega, by go_num, rfl, HF.out⟩, by simp [intOf]; omega⟩
   ·have p1 : (97 : Int) ≤ (s[k].toNat : Int) := by omega
    by_cases h2 : 122 < s[k].toNat
    ·have q2 : ¬ (s[k].toNat : Int) ≤ 122 := by omega
     have p3 : (65 : Int) ≤ (s[k].toNat : Int) := by omega
     have q4 : ¬ (s[k].toNat : Int) ≤ 90 := by omega
     have HF := hid (show R = false from by rw [HR.out, HN.out (by simp; omega)]; rfl)
     go_wp2
     go_ret
     exact ⟨ret_bool HF.out.symm, rfl⟩
    ·have q2 : (s[k].toNat : Int) ≤ 122 := by omega
     have HF := hid (HP.out (by simp; omega))
     go_wp2
     exact ⟨⟨k + 1, by omega, by go_num, rfl, HF.out⟩, by simp [intOf]; omega⟩
  ·have hkk : k = s.size := by omega
   have HA := hid (all_endI HT.out hlt)
   subst hkk
   have hltI : ¬ (s.size : Int) < (s.size : Int) := by omega
   by_cases h0 : s.size = 0
   ·have HF := hid (show R = false from by rw [HR.out, HA.out, decide_eq_false (show ¬ 1 ≤ s.size from by omega)]; rfl)
    have hse : s = ⟨#[]⟩ := by
     apply ByteArray.ext
     exact Array.eq_empty_of_size_eq_zero h0
    subst hse
    have g1 : ¬ (1 : Int) ≤ ((⟨#[]⟩ : ByteArray).size : Int) := by decide
    go_wp2
    all_goals go_ret
    all_goals exact ⟨ret_bool HF.out.symm, rfl⟩
   ·have g0 : ¬ s.toList = [] := by
     rw [ByteArray.toList_eq]
     intro h
     have h2 := size_list s
     rw [h] at h2
     simp at h2
     omega
    have g0b : s.toList.isEmpty = false := by
     cases h : s.toList with
     | nil => exact absurd h g0
     | cons x r => rfl
    have HF := hid (show R = decide (s.size ≤ 40) from by rw [HR.out, HA.out, decide_eq_true (show 1 ≤ s.size from by omega)]; rfl)
    have g1 : (1 : Int) ≤ (s.size : Int) := by omega
    by_cases h40 : s.size ≤ 40
    ·have g2 : (s.size : Int) ≤ 40 := by omega
     rw [decide_eq_true h40] at HF
     go_wp2
     all_goals go_ret
     all_goals exact ⟨ret_bool HF.out.symm, rfl⟩
    ·have g2 : ¬ (s.size : Int) ≤ 40 := by omega
     rw [decide_eq_false h40] at HF
     go_wp2
     all_goals go_ret
     all_goals exact ⟨ret_bool HF.out.symm, rfl⟩
theorem tail_list (s : ByteArray) : (s.extract 1 s.size).data.toList = s.data.toList.drop 1 := by
 simp only [ByteArray.data_extract, Array.toList_extract, List.extract_eq_take_drop]
 exact List.take_of_length_le (by rw [List.length_drop, size_list]; exact Nat.le_refl _)
set_option maxHeartbeats 1000000 in
theorem rkey_any (k : Int) (s : ByteArray) (w : World) (hs : s.size ≤ 1048576) : Calls Tryz.prog 82 #[.int .i64 k, .string s] w fun e w' => e = .returned (.bool (if k = 9 then nameB s.data.toList else classB s.data.toList || (s.data.toList.head? == some 61 && decB (s.data.toList.drop 1)))) ∧ Ext w w' := by
 by_cases h9 : k = 9
 ·subst h9
  have K := hid (rname_any s w (by unfold maxLen; omega))
  rw [if_pos rfl]
  generalize nameB s.data.toList = R at K ⊢
  go_enter Tryz.func82, Tryz.ntmps82
  go_wp2_with fail
  refine K.out.mono ?_
  rintro e w2 ⟨rfl, rfl⟩
  go_wp2
  go_ret
  exact ⟨rfl, Ext.refl _⟩
 have b9 : (k == 9) = false := by rw [beq_eq_false_iff_ne]; exact h9
 rw [if_neg h9]
 obtain ⟨R, hR⟩ : ∃ R, R = (classB s.data.toList || (s.data.toList.head? == some 61 && decB (s.data.toList.drop 1))) := ⟨_, rfl⟩
 rw [← hR]
 have K1 := hid (fun W => rclass_any s W)
 have K2 := fun W => rdec_any (s.extract 1 s.size) W (by rw [ByteArray.size_extract]; omega)
 rw [tail_list] at K2
 have K2 := hid K2
 have HR := hid hR
 clear hR h9
 cases hc : classB s.data.toList
 rotate_left
 ·rw [hc] at K1
  have HF := hid (show R = true from by rw [HR.out, hc]; rfl)
  clear hc
  go_enter Tryz.func82, Tryz.ntmps82
  go_wp2_with fail
  refine (K1.out _).mono ?_
  rintro e w2 ⟨rfl, rfl⟩
  go_wp2
  go_ret
  exact ⟨ret_bool HF.out.symm, Ext.refl _⟩
 rw [hc] at K1
 have HR2 := hid (show R = (s.data.toList.head? == some 61 && decB (s.data.toList.drop 1)) from by rw [HR.out, hc]; rfl)
 clear hc HR
 by_cases h1 : 1 < s.size
 rotate_left
 ·have h1I : ¬ (1 : Int) < (s.size : Int) := by omega
  have HF := hid (show R = false from by
   rw [HR2.out, List.drop_eq_nil_of_le (by rw [size_list]; omega), show decB [] = false from by decide, Bool.and_false])
  go_enter Tryz.func82, Tryz.ntmps82
  go_wp2_with fail
  refine (K1.out _).mono ?_
  rintro e w2 ⟨rfl, rfl⟩
  go_wp2
  go_ret
  exact ⟨ret_bool HF.out.symm, Ext.refl _⟩
 have h1I : (1 : Int) < (s.size : Int) := by omega
 have h0I : (0 : Int) < (s.size : Int) := by omega
 have hsl : (1 : Int) ≤ (s.size : Int) := by omega
 have hd0 := drop_at (s := s) (k := 0) (by omega)
 rw [List.drop_zero] at hd0
 by_cases c61 : s[0] = 61
 rotate_left
 ·have b61 : ((s[0].toNat : Int) == 61) = false := u8_ne (n := 61) c61
  have HF := hid (show R = false from by
   rw [HR2.out, hd0]
   simp [c61])
  clear c61 hd0
  go_enter Tryz.func82, Tryz.ntmps82
  go_wp2_with fail
  refine (K1.out _).mono ?_
  rintro e w2 ⟨rfl, rfl⟩
  go_wp2
  go_ret
  exact ⟨ret_bool HF.out.symm, Ext.refl _⟩
 have b61 : ((s[0].toNat : Int) == 61) = true := by rw [c61]; rfl
 have HF := hid (show R = decB (s.data.toList.drop 1) from by
  rw [HR2.out]
  rw [show (s.data.toList.head? == some 61) = true from by rw [hd0, c61]; rfl, Bool.true_and])
 generalize decB (s.data.toList.drop 1) = D at HF K2
 clear c61 hd0 HR2
 go_enter Tryz.func82, Tryz.ntmps82
 go_wp2_with fail
 refine (K1.out _).mono ?_
 rintro e w2 ⟨rfl, rfl⟩
 go_wp2_with fail
 refine (K2.out _).mono ?_
 rintro e w3 ⟨rfl, hx⟩
 have HX := hid hx
 clear hx
 go_wp2
 go_ret
 exact ⟨ret_bool HF.out.symm, HX.out⟩
end Go.Proofs.YtiijdojihleggaaGreatDoor
