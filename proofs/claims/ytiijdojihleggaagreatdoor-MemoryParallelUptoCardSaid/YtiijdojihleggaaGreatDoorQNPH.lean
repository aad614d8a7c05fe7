import Derived.Test.YtiijdojihleggaaGreatDoorProg
import Derived.Test.YtiijdojihleggaaGreatDoorQBaseg
import Derived.IntWalk
import Derived.Shelf.Strings.Builder1
import Derived.Test.YtiijdojihleggaaGreatDoorShelf
set_option maxRecDepth 100000
set_option linter.unusedSimpArgs false
set_option linter.unusedVariables false
open Go.Lib (hid)
namespace Go.Proofs.YtiijdojihleggaaGreatDoor
open Go.RowKit
theorem aln_any (c : UInt8) (w : World) : Calls Tryz.prog 176 #[.int .u8 c.toNat] w fun e w' => e = .returned (.bool (alnB c)) ∧ w = w' := by
 go_enter Tryz.func176, Tryz.ntmps176
 go_wp2
 all_goals (go_ret; exact ⟨ret_bool (by unfold alnB lowB capB digB; rw [Bool.eq_iff_iff]; simp [UInt8.le_iff_toNat_le]; omega), rfl⟩)
theorem rlow_any (c : UInt8) (w : World) : Calls Tryz.prog 122 #[.int .u8 c.toNat] w fun e w' => e = .returned (.bool (lowB c)) ∧ w = w' := by
 go_enter Tryz.func122, Tryz.ntmps122
 go_wp2
 all_goals (go_ret; exact ⟨ret_bool (by unfold lowB; rw [Bool.eq_iff_iff]; simp [UInt8.le_iff_toNat_le]; omega), rfl⟩)
theorem rlet_any (c : UInt8) (w : World) : Calls Tryz.prog 166 #[.int .u8 c.toNat] w fun e w' => e = .returned (.bool (lowB c || capB c)) ∧ w = w' := by
 go_enter Tryz.func166, Tryz.ntmps166
 go_wp2_with (go_at_call 122; refine (rlow_any _ _).mono ?_; rintro e w' ⟨rfl, rfl⟩; cases hl : lowB c)
 all_goals (go_ret; exact ⟨ret_bool (by unfold capB; rw [Bool.eq_iff_iff]; simp [hl, UInt8.le_iff_toNat_le]; try omega), rfl⟩)
theorem rinner_any (c : UInt8) (w : World) : Calls Tryz.prog 121 #[.int .u8 c.toNat] w fun e w' => e = .returned (.bool (innerB c)) ∧ w = w' := by
 have e1 : innerB c = ((lowB c || capB c) || (digB c || (c == 95 || c == 45))) := by unfold innerB alnB; simp only [Bool.or_assoc]
 rw [e1]
 go_enter Tryz.func121, Tryz.ntmps121
 go_wp2_with (go_at_call 166; refine (rlet_any _ _).mono ?_; rintro e w' ⟨rfl, rfl⟩; cases hl : (lowB c || capB c))
 all_goals (go_ret; exact ⟨ret_bool (by (first | rw [hl] | skip); unfold digB; rw [Bool.eq_iff_iff]; simp [UInt8.le_iff_toNat_le, ← UInt8.toNat_inj]; try omega), rfl⟩)
def NmInv (s : ByteArray) (w : World) (i : Value) (wr : World) : Prop :=
 ∃ k : Nat, k ≤ s.size ∧ i = .int .i64 k ∧ wr = w ∧ (s.data.toList.take k).all innerB = true
theorem all_stepI {p : UInt8 → Bool} {s : ByteArray} {k : Nat} (h : (s.data.toList.take k).all p = true) (hk : k < s.size) (hp : p s[k] = true) : (s.data.toList.take (k + 1)).all p = true := by
 have h1 : s.data.toList[k]? = some s[k] := by rw [List.getElem?_eq_getElem (by rw [size_list]; exact hk), get_list s k hk]
 rw [take_next h1, List.all_append, h]
 simp [hp]
theorem all_stopI {p : UInt8 → Bool} {s : ByteArray} {k : Nat} (hk : k < s.size) (hp : p s[k] = false) : s.data.toList.all p = false := by
 rw [List.all_eq_false]
 exact ⟨s[k], by rw [← get_list s k hk]; exact List.getElem_mem _, by simp [hp]⟩
theorem all_endI {p : UInt8 → Bool} {s : ByteArray} {k : Nat} (h : (s.data.toList.take k).all p = true) (hk : ¬ k < s.size) : s.data.toList.all p = true := by
 rw [List.take_of_length_le (by rw [size_list]; omega)] at h
 exact h
theorem headD_atI (l : List UInt8) (h : 0 < l.length) : l.headD 0 = l[0] := by
 cases l with
 | nil => simp at h
 | cons x r => rfl
theorem head_atI (s : ByteArray) (h : 0 < s.size) : s.data.toList.headD 0 = s[0] := by
 rw [← get_list s 0 h]
 exact headD_atI _ _
theorem name_eq {s : ByteArray} (h0 : 0 < s.size) : nameB s.data.toList = (decide (s.size ≤ 40) && (lowB s[0] && s.data.toList.all innerB)) := by
 unfold nameB
 rw [head_atI s h0, size_list, decide_eq_true (show 1 ≤ s.size by omega), Bool.true_and, Bool.and_assoc]
theorem name_zero {s : ByteArray} (h0 : s.size = 0) : nameB s.data.toList = false := by
 unfold nameB
 rw [size_list, decide_eq_false (by omega)]; rfl
set_option maxHeartbeats 1000000 in
theorem rname_any (s : ByteArray) (w : World) (hs : s.size ≤ maxLen) : Calls Tryz.prog 80 #[.string s] w fun e w' => e = .returned (.bool (nameB s.data.toList)) ∧ w = w' := by
 unfold maxLen at hs
 obtain ⟨R, hR⟩ : ∃ R, R = nameB s.data.toList := ⟨_, rfl⟩
 rw [← hR]
 have HR := hid hR
 clear hR
 go_enter Tryz.func80, Tryz.ntmps80
 go_wp2
 go_loopw [3] (NmInv s w) (fun i _ => s.size - (intOf i).toNat)
 case atStart => exact ⟨0, Nat.zero_le _, rfl, rfl, rfl⟩
 case round =>
  obtain ⟨k, hk, rfl, rfl, ht⟩ := hrel
  have HT := hid ht
  clear ht
  by_cases hlt : k < s.size
  ·have hltI : (k : Int) < (s.size : Int) := by omega
   cases hp : innerB s[k] with
   | true =>
     have HP := hid hp
     go_wp2_with (go_at_call 121; refine (rinner_any s[k] _).mono ?_; rintro e w' ⟨rfl, rfl⟩; rw [HP.out])
     exact ⟨⟨k + 1, by omega, by go_num, rfl, all_stepI HT.out hlt HP.out⟩, by simp [intOf]; omega⟩
   | false =>
     have HP := hid (all_stopI hlt hp)
     have HP2 := hid hp
     have h0 : 0 < s.size := by omega
     have HF := hid (show R = false from by rw [HR.out, name_eq h0, HP.out]; simp)
     go_wp2_with (go_at_call 121; refine (rinner_any s[k] _).mono ?_; rintro e w' ⟨rfl, rfl⟩; rw [HP2.out])
     go_ret
     exact ⟨ret_bool HF.out.symm, rfl⟩
  ·have HA := hid (all_endI HT.out hlt)
   rcases Nat.eq_zero_or_pos s.size with h0 | h0
   ·have HF := hid (show R = false from by rw [HR.out, name_zero h0])
    have g1 : ¬ (1 : Int) ≤ (s.size : Int) := by omega
    go_wp2
    go_ret
    exact ⟨ret_bool HF.out.symm, rfl⟩
   ·have HF := hid (show R = (decide (s.size ≤ 40) && lowB s[0]) from by rw [HR.out, name_eq h0, HA.out, Bool.and_true])
    have g1 : (1 : Int) ≤ (s.size : Int) := by omega
    by_cases h40 : s.size ≤ 40
    ·have g2 : (s.size : Int) ≤ 40 := by omega
     have HF2 := hid (show R = lowB s[0] from by rw [HF.out, decide_eq_true h40, Bool.true_and])
     go_wp2_with (go_at_call 122; refine (rlow_any s[0] _).mono ?_; rintro e w' ⟨rfl, rfl⟩)
     go_ret
     exact ⟨ret_bool HF2.out.symm, rfl⟩
    ·have g2 : ¬ (s.size : Int) ≤ 40 := by omega
     have HF2 := hid (show R = false from by rw [HF.out, decide_eq_false h40, Bool.false_and])
     go_wp2
     go_ret
     exact ⟨ret_bool HF2.out.symm, rfl⟩
set_option maxHeartbeats 1000000 in
theorem tname_any (s : ByteArray) (w : World) (hs : s.size ≤ maxLen) : Calls Tryz.prog 147 #[.string s] w fun e w' => e = .returned (.bool (nameB s.data.toList)) ∧ w = w' := by
 unfold maxLen at hs
 obtain ⟨R, hR⟩ : ∃ R, R = nameB s.data.toList := ⟨_, rfl⟩
 rw [← hR]
 have HR := hid hR
 clear hR
 go_enter Tryz.func147, Tryz.ntmps147
 rcases Nat.eq_zero_or_pos s.size with h0 | h0
 ·have HF := hid (show R = false from by rw [HR.out, name_zero h0])
  have hse : s = ⟨#[]⟩ := by
   apply ByteArray.ext
   exact Array.eq_empty_of_size_eq_zero h0
  subst hse
  go_wp2
  all_goals go_ret
  all_goals exact ⟨ret_bool HF.out.symm, rfl⟩
 have g0 : ¬ s.toList = [] := by
  rw [ByteArray.toList_eq]
  intro h
  have h2 := size_list s
  rw [h] at h2
  simp at h2
  omega
 have g0b : s.toList.isEmpty = false := by
  cases h : s.toList with
  | nil => exact absurd h g0
  | cons x r => rfl
 by_cases h40 : s.size ≤ 40
 rotate_left
 ·have g2 : (40 : Int) < (s.size : Int) := by omega
  have HF := hid (show R = false from by rw [HR.out, name_eq h0, decide_eq_false h40, Bool.false_and])
  go_wp2
  all_goals go_ret
  all_goals exact ⟨ret_bool HF.out.symm, rfl⟩
 have g2 : ¬ (40 : Int) < (s.size : Int) := by omega
 have HF := hid (show R = (lowB s[0] && s.data.toList.all innerB) from by rw [HR.out, name_eq h0, decide_eq_true h40, Bool.true_and])
 by_cases hl : 97 ≤ s[0].toNat ∧ s[0].toNat ≤ 122
 rotate_left
 ·have HF2 := hid (show R = false from by
   rw [HF.out]
   have : lowB s[0] = false := by unfold lowB; rw [← Bool.not_eq_true, Bool.and_eq_true, decide_eq_true_eq, decide_eq_true_eq, UInt8.le_iff_toNat_le, UInt8.le_iff_toNat_le]; exact hl
   rw [this, Bool.false_and])
  by_cases h97 : 97 ≤ s[0].toNat
  ·have q1 : ¬ (s[0].toNat : Int) < 97 := by omega
   have q2 : (122 : Int) < (s[0].toNat : Int) := by omega
   go_wp2
   all_goals go_ret
   all_goals exact ⟨ret_bool HF2.out.symm, rfl⟩
  ·have q1 : (s[0].toNat : Int) < 97 := by omega
   go_wp2
   all_goals go_ret
   all_goals exact ⟨ret_bool HF2.out.symm, rfl⟩
 have q1 : ¬ (s[0].toNat : Int) < 97 := by omega
 have q2 : ¬ (122 : Int) < (s[0].toNat : Int) := by omega
 have HF2 := hid (show R = s.data.toList.all innerB from by
  rw [HF.out]
  have : lowB s[0] = true := by unfold lowB; rw [Bool.and_eq_true, decide_eq_true_eq, decide_eq_true_eq, UInt8.le_iff_toNat_le, UInt8.le_iff_toNat_le]; exact hl
  rw [this, Bool.true_and])
 clear hl
 go_wp2
 go_loopw [23] (NmInv s w) (fun i _ => s.size - (intOf i).toNat)
 case atStart => exact ⟨0, Nat.zero_le _, rfl, rfl, rfl⟩
 case round =>
  obtain ⟨k, hk, rfl, rfl, ht⟩ := hrel
  have HT := hid ht
  clear ht q1 q2
  by_cases hlt : k < s.size
  ·have hltI : (k : Int) < (s.size : Int) := by omega
   have HI := hid (show innerB s[k] = (alnB s[k] || (s[k] == 95 || s[k] == 45)) from by unfold innerB; rw [Bool.or_assoc])
   cases hq : alnB s[k] with
   | true =>
     have HQ := hid hq
     have HP := hid (show innerB s[k] = true from by rw [HI.out, hq]; rfl)
     clear hq
     go_wp2_with (go_at_call 176; refine (aln_any s[k] _).mono ?_; rintro e w' ⟨rfl, rfl⟩; rw [HQ.out])
     exact ⟨⟨k + 1, by omega, by go_num, rfl, all_stepI HT.out hlt HP.out⟩, by simp [intOf]; omega⟩
   | false =>
     have HQ := hid hq
     rw [hq, Bool.false_or] at HI
     clear hq
     by_cases e1 : s[k].toNat = 95
     ·have HP := hid (show innerB s[k] = true from by rw [HI.out, Bool.or_eq_true]; exact .inl (by rw [beq_iff_eq, ← UInt8.toNat_inj]; exact e1))
      have E1 := hid (show (s[k].toNat : Int) = 95 from by omega)
      clear e1
      go_wp2_with (go_at_call 176; refine (aln_any s[k] _).mono ?_; rintro e w' ⟨rfl, rfl⟩; rw [HQ.out]; have c1 := E1.out)
      exact ⟨⟨k + 1, by omega, by go_num, rfl, all_stepI HT.out hlt HP.out⟩, by simp [intOf]; omega⟩
     ·have c1 : ¬ (s[k].toNat : Int) = 95 := by omega
      by_cases e2 : s[k].toNat = 45
      ·have HP := hid (show innerB s[k] = true from by rw [HI.out, Bool.or_eq_true]; exact .inr (by rw [beq_iff_eq, ← UInt8.toNat_inj]; exact e2))
       have E2 := hid (show (s[k].toNat : Int) = 45 from by omega)
       clear e1 e2 c1
       go_wp2_with (go_at_call 176; refine (aln_any s[k] _).mono ?_; rintro e w' ⟨rfl, rfl⟩; rw [HQ.out]; have c2 := E2.out)
       exact ⟨⟨k + 1, by omega, by go_num, rfl, all_stepI HT.out hlt HP.out⟩, by simp [intOf]; omega⟩
      ·have c2 : ¬ (s[k].toNat : Int) = 45 := by omega
       have HP := hid (all_stopI hlt (show innerB s[k] = false from by
        rw [HI.out, Bool.or_eq_false_iff]
        exact ⟨by rw [beq_eq_false_iff_ne]; intro h; rw [h] at e1; exact e1 rfl, by rw [beq_eq_false_iff_ne]; intro h; rw [h] at e2; exact e2 rfl⟩))
       have d1 : ((s[k].toNat : Int) != 95) = true := by simpa using c1
       have d2 : ((s[k].toNat : Int) != 45) = true := by simpa using c2
       clear e1 e2
       go_wp2_with (go_at_call 176; refine (aln_any s[k] _).mono ?_; rintro e w' ⟨rfl, rfl⟩; rw [HQ.out]; skip)
       all_goals go_ret
       all_goals exact ⟨ret_bool (by rw [HF2.out, HP.out]), rfl⟩
  ·have HA := hid (all_endI HT.out hlt)
   go_wp2
   go_ret
   exact ⟨ret_bool (by rw [HF2.out, HA.out]), rfl⟩
end Go.Proofs.YtiijdojihleggaaGreatDoor
namespace Go.Proofs.YtiijdojihleggaaGreatDoor
open Go.RowKit
theorem u8_ne {c n : UInt8} (h : ¬ c = n) : ((c.toNat : Int) == (n.toNat : Int)) = false := by
 rw [beq_eq_false_iff_ne]
 intro e
 exact h (UInt8.toNat_inj.1 (by omega))
theorem u8_bne {c n : UInt8} (h : ¬ c = n) : ((c.toNat : Int) != (n.toNat : Int)) = true := by
 rw [bne_iff_ne]
 intro e
 exact h (UInt8.toNat_inj.1 (by omega))
theorem u8_beq (c n : UInt8) : ((c.toNat : Int) == (n.toNat : Int)) = (c == n) := by
 rw [Bool.eq_iff_iff, beq_iff_eq, beq_iff_eq]
 exact ⟨fun e => UInt8.toNat_inj.1 (by omega), fun e => by rw [e]⟩
theorem tspec_any (c : UInt8) (w : World) : Calls Tryz.prog 148 #[.int .u8 c.toNat] w fun e w' => e = .returned (.bool (specB c)) ∧ w = w' := by
 obtain ⟨q1, h1⟩ : ∃ q, q = ((c.toNat : Int) == 123) := ⟨_, rfl⟩
 obtain ⟨q2, h2⟩ : ∃ q, q = ((c.toNat : Int) == 125) := ⟨_, rfl⟩
 obtain ⟨q3, h3⟩ : ∃ q, q = ((c.toNat : Int) == 60) := ⟨_, rfl⟩
 obtain ⟨q4, h4⟩ : ∃ q, q = ((c.toNat : Int) == 62) := ⟨_, rfl⟩
 obtain ⟨q5, h5⟩ : ∃ q, q = ((c.toNat : Int) == 35) := ⟨_, rfl⟩
 obtain ⟨q6, h6⟩ : ∃ q, q = ((c.toNat : Int) == 92) := ⟨_, rfl⟩
 have HS := hid (show specB c = (q1 || q2 || q3 || q4 || q5 || q6) from by
  rw [h1, h2, h3, h4, h5, h6]
  unfold specB
  rw [← u8_beq c 123, ← u8_beq c 125, ← u8_beq c 60, ← u8_beq c 62, ← u8_beq c 35, ← u8_beq c 92]; rfl)
 generalize specB c = sp at HS ⊢
 have g1 := h1.symm
 have g2 := h2.symm
 have g3 := h3.symm
 have g4 := h4.symm
 have g5 := h5.symm
 have g6 := h6.symm
 clear h1 h2 h3 h4 h5 h6
 cases q1
 all_goals cases q2
 all_goals cases q3
 all_goals cases q4
 all_goals cases q5
 all_goals cases q6
 all_goals first
  | (exfalso; simp only [beq_iff_eq] at g1 g2 g3 g4 g5 g6; omega)
  | (go_enter Tryz.func148, Tryz.ntmps148
     go_wp2
     go_ret
     exact ⟨ret_bool HS.out.symm, rfl⟩)
theorem textN_plain {c : UInt8} (hc : specB c = false) (r : By) : textN (c :: r) = textN r + 1 := by
 cases r with
 | nil => simp [textN, hc]
 | cons d r => rw [textN, if_neg (by rw [hc]; decide)]
theorem textN_escape {d : UInt8} (hd : specB d = true) (r : By) : textN (92 :: d :: r) = textN r + 2 := by
 rw [textN, if_pos (by decide), if_pos (by rw [hd]; decide)]
theorem textN_stop {c : UInt8} (hc : specB c = true) (r : By) (h : c = 92 → ∀ d r', r = d :: r' → specB d = false) : textN (c :: r) = 0 := by
 cases r with
 | nil => rw [textN, if_pos hc]
 | cons d r =>
   rw [textN, if_pos hc, if_neg]
   intro h2
   rw [Bool.and_eq_true] at h2
   rw [h (eq_of_beq h2.1) d r rfl] at h2
   exact absurd h2.2 (by decide)
theorem drop_at {s : ByteArray} {k : Nat} (h : k < s.size) : s.data.toList.drop k = s[k] :: s.data.toList.drop (k + 1) := by
 rw [List.drop_eq_getElem_cons (by rw [size_list]; exact h), get_list s k h]
def PlI (s : ByteArray) (w : World) (i : Value) (wr : World) : Prop := ∃ k : Nat, k ≤ s.size ∧ i = .int .i64 k ∧ textN s.data.toList = k + textN (s.data.toList.drop k) ∧ w = wr
theorem tplain_any (s : ByteArray) (w : World) (hs : s.size ≤ maxLen) : Calls Tryz.prog 139 #[.string s] w fun e w' => e = .returned (.int .i64 (textN s.data.toList)) ∧ w = w' := by
 unfold maxLen at hs
 obtain ⟨R, hR⟩ : ∃ R, R = textN s.data.toList := ⟨_, rfl⟩
 rw [← hR]
 have HR := hid hR
 clear hR
 go_enter Tryz.func139, Tryz.ntmps139
 go_wp2_with fail
 go_loopw [3] (PlI s w) (fun i _ => s.size - (intOf i).toNat)
 case atStart => exact ⟨0, Nat.zero_le _, rfl, by rw [List.drop_zero, Nat.zero_add], rfl⟩
 case round =>
  obtain ⟨k, hk, rfl, ha, rfl⟩ := hrel
  have HA := hid ha
  clear ha
  by_cases hks : k < s.size
  ·have hkI : (k : Int) < (s.size : Int) := by omega
   have HD := hid (drop_at hks)
   have HK := hid (fun W => tspec_any s[k] W)
   cases hc : specB s[k]
   ·have HF := hid (show textN s.data.toList = (k + 1) + textN (s.data.toList.drop (k + 1)) from by rw [HA.out, HD.out, textN_plain hc]; omega)
    rw [hc] at HK
    clear hc
    go_wp2_with fail
    refine (HK.out _).mono ?_
    rintro e w2 ⟨rfl, rfl⟩
    go_wp2
    exact ⟨⟨k + 1, hks, by go_num, HF.out, rfl⟩, by simp [intOf]; omega⟩
   by_cases h92 : s[k] = 92
   rotate_left
   ·have HF := hid (show R = k from by rw [HR.out, HA.out, HD.out, textN_stop hc _ (fun e => absurd e h92)]; rfl)
    have b1 : ((s[k].toNat : Int) != 92) = true := u8_bne (n := 92) h92
    rw [hc] at HK
    clear hc h92
    go_wp2_with fail
    refine (HK.out _).mono ?_
    rintro e w2 ⟨rfl, rfl⟩
    go_wp2
    go_ret
    exact ⟨by rw [HF.out]; rfl, rfl⟩
   have b1 : ((s[k].toNat : Int) != 92) = false := by rw [h92]; rfl
   by_cases hke : k + 1 = s.size
   ·have HF := hid (show R = k from by
     rw [HR.out, HA.out, HD.out, textN_stop hc _ (fun _ d r' e => by
      have h2 := congrArg List.length e
      rw [List.length_drop, size_list, List.length_cons] at h2
      omega)]; rfl)
    have b2 : ((k : Int) + 1 == (s.size : Int)) = true := by rw [beq_iff_eq]; omega
    have b3 : (k : Int) + 1 = (s.size : Int) := by omega
    rw [hc] at HK
    clear hc h92
    go_wp2_with fail
    refine (HK.out _).mono ?_
    rintro e w2 ⟨rfl, rfl⟩
    go_wp2
    go_ret
    exact ⟨by rw [HF.out]; rfl, rfl⟩
   have hk1 : k + 1 < s.size := by omega
   have hk1I : (k : Int) + 1 < (s.size : Int) := by omega
   have b2 : ((k : Int) + 1 == (s.size : Int)) = false := by rw [beq_eq_false_iff_ne]; omega
   have HD1 := hid (drop_at hk1)
   have HK1 := hid (fun W => tspec_any s[k + 1] W)
   cases hd : specB s[k + 1]
   ·have HF := hid (show R = k from by
     rw [HR.out, HA.out, HD.out, textN_stop hc _ (fun _ d r' e => by
      rw [HD1.out] at e
      injection e with e _
      rw [← e]; exact hd)]; rfl)
    rw [hc] at HK
    rw [hd] at HK1
    clear hc h92 hd
    go_wp2_with fail
    refine (HK.out _).mono ?_
    rintro e w2 ⟨rfl, rfl⟩
    go_wp2_with fail
    refine (HK1.out _).mono ?_
    rintro e w3 ⟨rfl, rfl⟩
    go_wp2
    go_ret
    exact ⟨by rw [HF.out]; rfl, rfl⟩
   ·have HF := hid (show textN s.data.toList = (k + 2) + textN (s.data.toList.drop (k + 1 + 1)) from by rw [HA.out, HD.out, HD1.out, h92, textN_escape hd]; omega)
    rw [hc] at HK
    rw [hd] at HK1
    clear hc h92 hd
    go_wp2_with fail
    refine (HK.out _).mono ?_
    rintro e w2 ⟨rfl, rfl⟩
    go_wp2_with fail
    refine (HK1.out _).mono ?_
    rintro e w3 ⟨rfl, rfl⟩
    go_wp2
    exact ⟨⟨k + 2, by omega, by first | go_num | (congr 1; omega), HF.out, rfl⟩, by simp [intOf]; omega⟩
  ·have hkk : k = s.size := by omega
   have HF := hid (show R = s.size from by rw [HR.out, HA.out, List.drop_eq_nil_of_le (by rw [size_list]; omega), hkk]; rfl)
   subst hkk
   go_wp2
   go_ret
   exact ⟨by rw [HF.out]; rfl, rfl⟩
theorem tw_stop {p : UInt8 → Bool} : ∀ (t : By) (c : UInt8) (r : By), t.all p = true → p c = false → (t ++ c :: r).takeWhile p = t
 | [], c, r, _, hc => by rw [List.nil_append, List.takeWhile_cons, if_neg (by rw [hc]; decide)]
 | a :: t, c, r, h, hc => by
   rw [List.all_cons, Bool.and_eq_true] at h
   rw [List.cons_append, List.takeWhile_cons, if_pos h.1, tw_stop t c r h.2 hc]
theorem wordN_at {s : ByteArray} {k : Nat} (h : (s.data.toList.take k).all wordB = true) (hk : k < s.size) (hc : wordB s[k] = false) : wordN s.data.toList = k := by
 have e : s.data.toList = s.data.toList.take k ++ s[k] :: s.data.toList.drop (k + 1) := by rw [← drop_at hk, List.take_append_drop]
 have hl : (s.data.toList.take k).length = k := by rw [List.length_take, size_list]; omega
 have h2 := tw_stop (p := wordB) (s.data.toList.take k) s[k] (s.data.toList.drop (k + 1)) h hc
 rw [← e] at h2
 unfold wordN
 rw [h2, hl]
theorem wordN_all {s : ByteArray} (h : s.data.toList.all wordB = true) : wordN s.data.toList = s.size := by
 have e : ∀ l : By, l.all wordB = true → wordN l = l.length := by
  intro l
  induction l with
  | nil => intro _; rfl
  | cons a t ih =>
    intro h
    rw [List.all_cons, Bool.and_eq_true] at h
    have := ih h.2
    unfold wordN at this ⊢
    rw [List.takeWhile_cons, if_pos h.1, List.length_cons, this, List.length_cons]
 rw [e _ h, size_list]
def WdI (s : ByteArray) (w : World) (i : Value) (wr : World) : Prop := ∃ k : Nat, k ≤ s.size ∧ i = .int .i64 k ∧ (s.data.toList.take k).all wordB = true ∧ w = wr
theorem tword_any (s : ByteArray) (w : World) (hs : s.size ≤ maxLen) : Calls Tryz.prog 137 #[.string s] w fun e w' => e = .returned (.int .i64 (wordN s.data.toList)) ∧ w = w' := by
 unfold maxLen at hs
 obtain ⟨R, hR⟩ : ∃ R, R = wordN s.data.toList := ⟨_, rfl⟩
 rw [← hR]
 have HR := hid hR
 clear hR
 go_enter Tryz.func137, Tryz.ntmps137
 go_wp2_with fail
 go_loopw [6] (WdI s w) (fun i _ => s.size - (intOf i).toNat)
 case atStart => exact ⟨0, Nat.zero_le _, rfl, rfl, rfl⟩
 case round =>
  obtain ⟨k, hk, rfl, ha, rfl⟩ := hrel
  by_cases hks : k < s.size
  ·have hkI : (k : Int) < (s.size : Int) := by omega
   have HK := hid (fun W => aln_any s[k] W)
   have HY := hid (fun h : wordB s[k] = true => all_stepI (p := wordB) ha hks h)
   have HN := hid (fun h : wordB s[k] = false => wordN_at ha hks h)
   have HW := hid (show wordB s[k] = (alnB s[k] || s[k] == 95 || s[k] == 45 || s[k] == 46 || s[k] == 61) from rfl)
   have e1 := u8_beq s[k] 95
   have e2 := u8_beq s[k] 45
   have e3 := u8_beq s[k] 46
   have e4 := u8_beq s[k] 61
   generalize (s[k] == 95) = q1 at HW e1
   generalize (s[k] == 45) = q2 at HW e2
   generalize (s[k] == 46) = q3 at HW e3
   generalize (s[k] == 61) = q4 at HW e4
   have b1 : ((s[k].toNat : Int) != 95) = !q1 := by rw [← e1]; rfl
   have b2 : ((s[k].toNat : Int) != 45) = !q2 := by rw [← e2]; rfl
   have b3 : ((s[k].toNat : Int) != 46) = !q3 := by rw [← e3]; rfl
   have b4 : ((s[k].toNat : Int) != 61) = !q4 := by rw [← e4]; rfl
   generalize alnB s[k] = q0 at HK HW
   clear e1 e2 e3 e4 ha
   cases q0
   rotate_left
   ·have HF := hid (HY.out (by rw [HW.out]; rfl))
    go_wp2_with fail
    refine (HK.out _).mono ?_
    rintro e w2 ⟨rfl, rfl⟩
    go_wp2
    exact ⟨⟨k + 1, hks, by go_num, HF.out, rfl⟩, by simp [intOf]; omega⟩
   cases q1
   rotate_left
   ·have HF := hid (HY.out (by rw [HW.out]; rfl))
    go_wp2_with fail
    refine (HK.out _).mono ?_
    rintro e w2 ⟨rfl, rfl⟩
    go_wp2
    exact ⟨⟨k + 1, hks, by go_num, HF.out, rfl⟩, by simp [intOf]; omega⟩
   cases q2
   rotate_left
   ·have HF := hid (HY.out (by rw [HW.out]; rfl))
    go_wp2_with fail
    refine (HK.out _).mono ?_
    rintro e w2 ⟨rfl, rfl⟩
    go_wp2
    exact ⟨⟨k + 1, hks, by go_num, HF.out, rfl⟩, by simp [intOf]; omega⟩
   cases q3
   rotate_left
   ·have HF := hid (HY.out (by rw [HW.out]; rfl))
    go_wp2_with fail
    refine (HK.out _).mono ?_
    rintro e w2 ⟨rfl, rfl⟩
    go_wp2
    exact ⟨⟨k + 1, hks, by go_num, HF.out, rfl⟩, by simp [intOf]; omega⟩
   cases q4
   rotate_left
   ·have HF := hid (HY.out (by rw [HW.out]; rfl))
    go_wp2_with fail
    refine (HK.out _).mono ?_
    rintro e w2 ⟨rfl, rfl⟩
    go_wp2
    exact ⟨⟨k + 1, hks, by go_num, HF.out, rfl⟩, by simp [intOf]; omega⟩
   ·have HF := hid (HR.out.trans (HN.out (by rw [HW.out]; rfl)))
    go_wp2_with fail
    refine (HK.out _).mono ?_
    rintro e w2 ⟨rfl, rfl⟩
    go_wp2
    go_ret
    exact ⟨by rw [HF.out]; rfl, rfl⟩
  ·have hkk : k = s.size := by omega
   have HF := hid (show R = s.size from by rw [HR.out]; exact wordN_all (all_endI ha (by omega)))
   subst hkk
   clear ha
   go_wp2
   go_ret
   exact ⟨by rw [HF.out]; rfl, rfl⟩
end Go.Proofs.YtiijdojihleggaaGreatDoor
namespace Go.Proofs.YtiijdojihleggaaGreatDoor
open Go.RowKit
set_option maxHeartbeats 1000000 in
theorem bld_used (b : Nat) (w : World) (h0 : w.cell? ⟨b, 0, none⟩ = some (.pointer (some ⟨b, 0, none⟩))) :
 Calls Tryz.prog 180 #[.pointer (some ⟨b, 0, none⟩)] w fun e w' => e = .returned (.tuple #[]) ∧ w' = w := by
 obtain ⟨j, hj, _⟩ := Option.map_eq_some_iff.1 (show (Tryz.prog.info? 147).map (·.size) = some 2 from by kernel_rfl)
 go_enter Tryz.func180, Tryz.ntmps180
 go_wp2
 rw [Lib.run_neq_ptr_same w _ Tryz.underlying144 hj]
 simp only [Result.andThen]
 rw [Oper.upon_value]
 go_wp2
 go_end0
 exact ⟨rfl, rfl⟩
set_option maxHeartbeats 1000000 in
theorem bld_fresh (b : Nat) (w : World) (h0 : w.cell? ⟨b, 0, none⟩ = some (.pointer none)) (hsh : w.shape? b = some (147, 2)) (hfz : w.frozen? ⟨b, 0, none⟩ = false) :
 Calls Tryz.prog 180 #[.pointer (some ⟨b, 0, none⟩)] w fun e w' => e = .returned (.tuple #[]) ∧ w' = w.setCell ⟨b, 0, none⟩ (.pointer (some ⟨b, 0, none⟩)) := by
 obtain ⟨j, hj, hjs⟩ := Option.map_eq_some_iff.1 (show (Tryz.prog.info? 147).map (·.size) = some 2 from by kernel_rfl)
 go_enter Tryz.func180, Tryz.ntmps180
 go_wp2
 rw [Lib.run_to_unsafe w ⟨b, 0, none⟩ Tryz.underlying144 Tryz.underlying235 hj (by rw [hjs]; decide) hsh (Nat.zero_lt_succ 1)]
 simp only [Result.andThen]
 rw [Oper.upon_value]
 go_wp2
 rw [run_callFunc_extern Tryz.func198 (by kernel_rfl) (by kernel_rfl) (by kernel_rfl) (e := Extern.AbiNoEscape.same) (by kernel_rfl)]
 rw [Lib.run_noEscape]
 simp only [Result.andThen]
 rw [Oper.upon_value]
 go_wp2
 rw [Lib.run_from_unsafe w ⟨b, 0, none⟩ Tryz.underlying235 Tryz.underlying144 hj hsh (by kernel_rfl)]
 simp only [Result.andThen]
 rw [Oper.upon_value]
 go_wp2
 go_end0
 exact ⟨rfl, rfl⟩
theorem bld_check (B b : Nat) (bs : List Value) (w : World) (h : Lib.IsBuilder 147 5 B b bs w) :
 Calls Tryz.prog 180 #[.pointer (some ⟨b, 0, none⟩)] w fun e w' => e = .returned (.tuple #[]) ∧ (Lib.BuilderAt 147 5 B b (.pointer (some ⟨b, 0, none⟩)) bs w' ∧ Below B w w') := by
 rcases h with h | h
 ·refine (bld_fresh b w h.cell0 h.shape h.frozen0).mono ?_
  rintro e w' ⟨rfl, rfl⟩
  exact ⟨rfl, h.used _, (Below.refl B w).setCell (p := ⟨b, 0, none⟩) h.1 _⟩
 ·refine (bld_used b w h.cell0).mono ?_
  rintro e w' ⟨rfl, rfl⟩
  exact ⟨rfl, h, Below.refl B _⟩
set_option maxHeartbeats 2000000 in
theorem bld_byte (B b : Nat) (bs : List Value) (c : Int) (w : World) (h : Lib.IsBuilder 147 5 B b bs w) (hlen : bs.length + 1 ≤ 140737488355328) (hBw : B ≤ w.heap.size) :
 Calls Tryz.prog 140 #[.pointer (some ⟨b, 0, none⟩), .int .u8 c] w fun e w' => e = .returned .nilIface ∧ (Lib.BuilderAt 147 5 B b (.pointer (some ⟨b, 0, none⟩)) (bs ++ [.int .u8 c]) w' ∧ Below B w w') := by
 obtain ⟨i0, hi, hz0, hz1, hz2⟩ := info_parts (show (Tryz.prog.info? 5).map (fun i => (i.zero, i.size, i.bytes)) = some (some (.int .u8 0), 1, 1) from by kernel_rfl)
 go_enter Tryz.func140, Tryz.ntmps140
 go_wp2_with fail
 refine (bld_check B b bs _ h).mono ?_
 rintro e w1 ⟨rfl, h1, hb1⟩
 obtain ⟨hB, v, hbk, hown, hne⟩ := h1
 have c0 : w1.cell? ⟨b, 0, none⟩ = some (.pointer (some ⟨b, 0, none⟩)) := by rw [Lib.cell_of_heap hbk]; rfl
 have c1 : w1.cell? ⟨b, 1, none⟩ = some v := by rw [Lib.cell_of_heap hbk]; rfl
 go_wp2_with (at_builtin; refine wpList_append_own _ rfl _ _ 145 rfl B 5 i0 (.int .u8 0) 1 1 Tryz.underlying145 hi hz0 hz1 hz2 rfl (by decide) _ _ _ rfl (hown.alloc _) ⟨w1.heap.size, 0, none⟩ 1 1 [.int .u8 c] rfl rfl ?c1 ?c2 ?c3 ?c4 ?c5 ?_)
 case c1 =>
  intro j u hj
  match j, hj with
  | 0, hj => simp at hj; subst hj; simp [Addr.add]
 case c2 => intro u hu; simp at hu; subst hu; rfl
 case c3 => unfold maxLen; omega
 case c4 => omega
 case c5 => have := hb1.size; simp; omega
 intro v' w2 hown' hgrow _
 have hlt : b < w1.heap.size := by
  rcases Nat.lt_or_ge b w1.heap.size with h' | h'
  ·exact h'
  ·simp [Array.getElem?_eq_none h'] at hbk
 have hb2 : w2.heap[b]? = some (.cells #[.pointer (some ⟨b, 0, none⟩), v] 147 (0, 0)) := by
  rw [hgrow.block b (by simp; omega) (fun e => hne e.symm), Lib.alloc_old w1 _ b hlt]
  exact hbk
 have d0 : w2.cell? ⟨b, 0, none⟩ = some (.pointer (some ⟨b, 0, none⟩)) := by rw [Lib.cell_of_heap hb2]; rfl
 have d1 : w2.cell? ⟨b, 1, none⟩ = some v := by rw [Lib.cell_of_heap hb2]; rfl
 have f1 : w2.frozen? ⟨b, 1, none⟩ = false := Lib.frozen_of_heap hb2 1
 obtain ⟨g, cap, rfl⟩ : ∃ g cap, v' = .slice (some ⟨g, 0, none⟩) (bs.length + 1) cap := by
  rcases hown'.2 with ⟨_, h0⟩ | ⟨g, cap, cur, hv, _⟩
  ·omega
  ·exact ⟨g, cap, hv⟩
 go_wp2
 go_ret
 refine ⟨rfl, ?_, ?_⟩
 ·exact Lib.BuilderAt.put (T := 147) (e := 5) hB hb2 (bs' := bs ++ [.int .u8 c]) (by simpa using hown') (by decide)
 ·exact ((hb1.alloc (by have := hb1.size; omega) _).grown hgrow (by have := hb1.size; simp; omega) (fun k hk => (hown.lt k hk).1)).setCell (p := ⟨b, 1, none⟩) hB _
end Go.Proofs.YtiijdojihleggaaGreatDoor
namespace Go.Proofs.YtiijdojihleggaaGreatDoor
open Go.RowKit
theorem bld_new (w : World) : Lib.IsBuilder 147 5 w.heap.size w.heap.size (Lib.byteCells []) (w.alloc (.cells #[.pointer none, .slice none 0 0] 147)) :=
 .inl ⟨Nat.le_refl _, .slice none 0 0, heap_alloc_new w _, ⟨by simp [Lib.byteCells], .inl ⟨rfl, rfl⟩⟩, by simp [Value.ownBlock]⟩
theorem bytes_snoc (l : By) (c : UInt8) : Lib.byteCells l ++ [Value.int .u8 c.toNat] = Lib.byteCells (l ++ [c]) := by rw [Lib.byteCells_append]; rfl
theorem bld_put (B b : Nat) (l : By) (c : UInt8) (w : World) (h : Lib.IsBuilder 147 5 B b (Lib.byteCells l) w) (hlen : l.length ≤ 100000000) (hBw : B ≤ w.heap.size) :
 Calls Tryz.prog 140 #[.pointer (some ⟨b, 0, none⟩), .int .u8 c.toNat] w fun e w' => e = .returned .nilIface ∧ Lib.IsBuilder 147 5 B b (Lib.byteCells (l ++ [c])) w' ∧ Below B w w' := by
 refine (bld_byte B b (Lib.byteCells l) c.toNat w h (by rw [Lib.byteCells_length]; omega) hBw).mono ?_
 rintro e w' ⟨rfl, h1, h2⟩
 rw [bytes_snoc] at h1
 exact ⟨rfl, .inr h1, h2⟩
theorem escP_snoc (l : By) (c : UInt8) : escP (l ++ [c]) = escP l ++ (if specB c then [92, c] else [c]) := by unfold escP; rw [List.flatMap_append]; simp
theorem escP_len : ∀ l : By, (escP l).length ≤ 2 * l.length
 | [] => Nat.le_refl _
 | c :: l => by
   have h := escP_len l
   have e : escP (c :: l) = (if specB c then [92, c] else [c]) ++ escP l := by unfold escP; rw [List.flatMap_cons]
   rw [e, List.length_append, List.length_cons]
   split <;> simp <;> omega
def EsI (s : ByteArray) (w0 : World) (b : Nat) (i : Value) (wr : World) : Prop := ∃ k : Nat, k ≤ s.size ∧ i = .int .i64 k ∧ Lib.IsBuilder 147 5 b b (Lib.byteCells (escP (s.data.toList.take k))) wr ∧ Below b w0 wr ∧ b ≤ wr.heap.size
theorem tesc_any (s : ByteArray) (w : World) (hs : s.size ≤ 40000000) : Calls Tryz.prog 103 #[.string s] w fun e w' => e = .returned (.string ⟨(escP s.data.toList).toArray⟩) ∧ Ext w w' := by
 have HB := hid (bld_new w)
 have HX := hid (show Below w.heap.size w (w.alloc (.cells #[.pointer none, .slice none 0 0] 147)) from (Ext.refl w).alloc _)
 obtain ⟨R, hR⟩ : ∃ R : ByteArray, R = ⟨(escP s.data.toList).toArray⟩ := ⟨_, rfl⟩
 rw [← hR]
 have HR := hid hR
 clear hR
 go_enter Tryz.func103, Tryz.ntmps103
 go_wp2_with fail
 go_loopw [7] (EsI s (w.alloc (.cells #[.pointer none, .slice none 0 0] 147)) w.heap.size) (fun i _ => s.size - (intOf i).toNat)
 case atStart => exact ⟨0, Nat.zero_le _, rfl, HB.out, Below.refl _ _, by simp⟩
 case round =>
  obtain ⟨k, hk, rfl, hb, hw, hsz⟩ := hrel
  have HBK := hid hb
  have HW := hid hw
  clear hb hw
  by_cases hks : k < s.size
  ·have hkI : (k : Int) < (s.size : Int) := by omega
   have HL := hid (show (escP (s.data.toList.take k)).length ≤ 2 * 40000000 from by
    have h1 := escP_len (s.data.toList.take k)
    rw [List.length_take, size_list] at h1
    omega)
   have HT := hid (show s.data.toList.take (k + 1) = s.data.toList.take k ++ [s[k]] from by
    rw [take_next (show s.data.toList[k]? = some s[k] from by rw [List.getElem?_eq_getElem (by rw [size_list]; exact hks), get_list s k hks])])
   have HK := hid (fun W => tspec_any s[k] W)
   cases hc : specB s[k]
   ·have HF := hid (show escP (s.data.toList.take (k + 1)) = escP (s.data.toList.take k) ++ [s[k]] from by rw [HT.out, escP_snoc, hc]; rfl)
    rw [hc] at HK
    clear hc
    go_wp2_with fail
    refine (HK.out _).mono ?_
    rintro e w2 ⟨rfl, rfl⟩
    go_wp2_with fail
    refine (bld_put _ _ _ s[k] _ HBK.out (by have := HL.out; omega) hsz).mono ?_
    rintro e w3 ⟨rfl, h3, hw3⟩
    have H3 := hid h3
    have HW3 := hid (HW.out.trans hw3)
    have hsz3 := Nat.le_trans hsz (Below.size hw3)
    clear h3 hw3
    go_wp2
    exact ⟨⟨k + 1, hks, by go_num, by rw [HF.out]; exact H3.out, HW3.out, hsz3⟩, by simp [intOf]; omega⟩
   ·have HF := hid (show escP (s.data.toList.take (k + 1)) = escP (s.data.toList.take k) ++ [92] ++ [s[k]] from by rw [HT.out, escP_snoc, hc]; simp)
    rw [hc] at HK
    clear hc
    go_wp2_with fail
    refine (HK.out _).mono ?_
    rintro e w2 ⟨rfl, rfl⟩
    go_wp2_with fail
    refine (bld_put _ _ _ 92 _ HBK.out (by have := HL.out; omega) hsz).mono ?_
    rintro e w3 ⟨rfl, h3, hw3⟩
    have H3 := hid h3
    have HW3 := hid (HW.out.trans hw3)
    have hsz3 := Nat.le_trans hsz (Below.size hw3)
    clear h3 hw3
    go_wp2_with fail
    refine (bld_put _ _ _ s[k] _ H3.out (by have := HL.out; rw [List.length_append]; simp; omega) hsz3).mono ?_
    rintro e w4 ⟨rfl, h4, hw4⟩
    have H4 := hid h4
    have HW4 := hid (HW3.out.trans hw4)
    have hsz4 := Nat.le_trans hsz3 (Below.size hw4)
    clear h4 hw4
    go_wp2
    exact ⟨⟨k + 1, hks, by go_num, by rw [HF.out]; exact H4.out, HW4.out, hsz4⟩, by simp [intOf]; omega⟩
  ·have hkk : k = s.size := by omega
   subst hkk
   have HF := hid (show s.data.toList.take s.size = s.data.toList from List.take_of_length_le (by rw [size_list]; exact Nat.le_refl _))
   rw [HF.out] at HBK
   go_wp2_with fail
   refine (Tryz.Builder_String_any _ _ _ _ HBK.out hsz).mono ?_
   rintro e w3 ⟨rfl, hw3⟩
   have HW3 := hid (HW.out.trans hw3)
   clear hw3
   go_wp2
   go_ret
   exact ⟨by rw [HR.out]; rfl, HX.out.trans HW3.out⟩
theorem unesc_cons {c : UInt8} (h : c ≠ 92) (r : By) : unescP (c :: r) = c :: unescP r := by
 cases r with
 | nil => rfl
 | cons d r => rw [unescP, if_neg (by simpa using h)]
theorem unescP_len : ∀ (n : Nat) (l : By), l.length ≤ n → (unescP l).length ≤ l.length
 | 0, l, h => by obtain rfl := List.eq_nil_of_length_eq_zero (Nat.le_zero.1 h); exact Nat.le_refl _
 | n + 1, [], _ => Nat.le_refl _
 | n + 1, [c], _ => Nat.le_refl _
 | n + 1, c :: d :: r, h => by
   simp only [List.length_cons] at h
   have h1 := unescP_len n r (by omega)
   have h2 := unescP_len n (d :: r) (by simp only [List.length_cons]; omega)
   simp only [List.length_cons] at h2
   rw [unescP]
   split <;> simp only [List.length_cons] <;> omega
theorem full_step {c : UInt8} {r : By} (h : textN (c :: r) = (c :: r).length) : (c ≠ 92 ∧ textN r = r.length) ∨ (c = 92 ∧ ∃ d r', r = d :: r' ∧ specB d = true ∧ textN r' = r'.length) := by
 cases hc : specB c with
 | false =>
   left
   refine ⟨by rintro rfl; exact absurd hc (by decide), ?_⟩
   rw [textN_plain hc, List.length_cons] at h
   omega
 | true =>
   right
   cases r with
   | nil => rw [textN_stop hc [] (fun _ d r' e => by cases e)] at h; cases h
   | cons d r' =>
     by_cases h2 : (c == 92 && specB d) = true
     ·rw [Bool.and_eq_true] at h2
      obtain rfl := eq_of_beq h2.1
      refine ⟨rfl, d, r', rfl, h2.2, ?_⟩
      rw [textN_escape h2.2] at h
      simp only [List.length_cons] at h
      omega
     ·rw [textN, if_pos hc, if_neg h2] at h
      simp at h
def UnI (s : ByteArray) (w0 : World) (b : Nat) (i : Value) (wr : World) : Prop := ∃ (k : Nat) (acc : By), k ≤ s.size ∧ i = .int .i64 k ∧ unescP s.data.toList = acc ++ unescP (s.data.toList.drop k) ∧ textN (s.data.toList.drop k) = (s.data.toList.drop k).length ∧
 Lib.IsBuilder 147 5 b b (Lib.byteCells acc) wr ∧ Below b w0 wr ∧ b ≤ wr.heap.size
theorem tunesc_any (s : ByteArray) (w : World) (hs : s.size ≤ 1048576) (hf : textN s.data.toList = s.data.toList.length) : Calls Tryz.prog 95 #[.string s] w fun e w' => e = .returned (.tuple #[.string ⟨(unescP s.data.toList).toArray⟩, .int .i64 0, .int .i64 0]) ∧ Ext w w' := by
 have HB := hid (bld_new w)
 have HX := hid (show Below w.heap.size w (w.alloc (.cells #[.pointer none, .slice none 0 0] 147)) from (Ext.refl w).alloc _)
 have HP := hid (fun W => tplain_any s W (by unfold maxLen; omega))
 rw [hf, size_list] at HP
 obtain ⟨R, hR⟩ : ∃ R : ByteArray, R = ⟨(unescP s.data.toList).toArray⟩ := ⟨_, rfl⟩
 rw [← hR]
 have HR := hid hR
 have HFL := hid hf
 have HUL := hid (unescP_len _ s.data.toList (Nat.le_refl _))
 clear hR hf
 go_enter Tryz.func95, Tryz.ntmps95
 go_wp2_with fail
 refine (HP.out _).mono ?_
 rintro e w2 ⟨rfl, rfl⟩
 go_wp2_with fail
 go_loopw [7] (UnI s (w.alloc (.cells #[.pointer none, .slice none 0 0] 147)) w.heap.size) (fun i _ => s.size - (intOf i).toNat)
 case atStart => exact ⟨0, [], Nat.zero_le _, rfl, by rw [List.drop_zero]; rfl, by rw [List.drop_zero]; exact HFL.out, HB.out, Below.refl _ _, by simp⟩
 case round =>
  obtain ⟨k, acc, hk, rfl, ha, hfl, hb, hw, hsz⟩ := hrel
  have HBK := hid hb
  have HW := hid hw
  have HAC := hid ha
  have hal : acc.length ≤ 1048576 := by
   have h1 := congrArg List.length ha
   rw [List.length_append] at h1
   have h2 := HUL.out
   rw [size_list] at h2
   omega
  clear hb hw ha
  by_cases hks : k < s.size
  ·have hkI : (k : Int) < (s.size : Int) := by omega
   rw [drop_at hks] at hfl
   have HD := hid (drop_at hks)
   rcases full_step hfl with ⟨hc, hr⟩ | ⟨hc, d, r', hr, hd, hr2⟩
   ·have HF := hid (show unescP s.data.toList = (acc ++ [s[k]]) ++ unescP (s.data.toList.drop (k + 1)) from by rw [HAC.out, HD.out, unesc_cons hc]; simp)
    have HRR := hid hr
    have b1 : ((s[k].toNat : Int) == 92) = false := u8_ne (n := 92) hc
    clear hfl hc hr
    go_wp2_with fail
    refine (bld_put _ _ _ s[k] _ HBK.out (by omega) hsz).mono ?_
    rintro e w3 ⟨rfl, h3, hw3⟩
    have H3 := hid h3
    have HW3 := hid (HW.out.trans hw3)
    have hsz3 := Nat.le_trans hsz (Below.size hw3)
    clear h3 hw3
    go_wp2
    exact ⟨⟨k + 1, _, hks, by go_num, HF.out, HRR.out, H3.out, HW3.out, hsz3⟩, by simp [intOf]; omega⟩
   ·have hk1 : k + 1 < s.size := by
     have h2 := congrArg List.length hr
     rw [List.length_drop, size_list, List.length_cons] at h2
     omega
    have hk1I : (k : Int) + 1 < (s.size : Int) := by omega
    have hk10 : (0 : Int) ≤ (k : Int) + 1 := by omega
    rw [drop_at hk1] at hr
    injection hr with hr1 hr3
    subst hr1 hr3
    have HF := hid (show unescP s.data.toList = (acc ++ [s[k + 1]]) ++ unescP (s.data.toList.drop (k + 1 + 1)) from by rw [HAC.out, HD.out, hc, drop_at hk1, unescP, if_pos (by decide)]; simp)
    have HRR := hid hr2
    have b1 : (s[k].toNat : Int) = 92 := by rw [hc]; rfl
    clear hfl hc hr2 hd
    go_wp2_with fail
    refine (bld_put _ _ _ s[k + 1] _ HBK.out (by omega) hsz).mono ?_
    rintro e w3 ⟨rfl, h3, hw3⟩
    have H3 := hid h3
    have HW3 := hid (HW.out.trans hw3)
    have hsz3 := Nat.le_trans hsz (Below.size hw3)
    clear h3 hw3
    go_wp2
    exact ⟨⟨k + 1 + 1, _, by omega, by first | go_num | (congr 1; omega), HF.out, HRR.out, H3.out, HW3.out, hsz3⟩, by simp [intOf]; omega⟩
  ·have hkk : k = s.size := by omega
   subst hkk
   have HF := hid (show unescP s.data.toList = acc from by rw [HAC.out, List.drop_eq_nil_of_le (by rw [size_list]; exact Nat.le_refl _)]; simp [unescP])
   go_wp2_with fail
   refine (Tryz.Builder_String_any _ _ _ _ HBK.out hsz).mono ?_
   rintro e w3 ⟨rfl, hw3⟩
   have HW3 := hid (HW.out.trans hw3)
   clear hw3
   go_wp2
   go_ret3
   exact ⟨by rw [HR.out, HF.out]; rfl, HX.out.trans HW3.out⟩
end Go.Proofs.YtiijdojihleggaaGreatDoor
