import Derived.Test.YtpfmojeigjmlfaaGreatDoorProg
import Derived.Test.YtpfmojeigjmlfaaGreatDoorBase
import Derived.Test.YtpfmojeigjmlfaaGreatDoorTk
import Derived.IntWalk
namespace Go.Proofs.YtpfmojeigjmlfaaGreatDoor
open Go.RowKit
set_option linter.unusedSimpArgs false
set_option linter.unusedVariables false

/-! Letters and names, by both sides. -/
theorem aln_any (c : UInt8) (w : World) : Calls Tryz.prog 88 #[.int .u8 c.toNat] w fun e w' => e = .returned (.bool (alnB c)) ∧ w = w' := by
  go_enter Tryz.func88, Tryz.ntmps88
  go_wp2
  all_goals (go_ret; exact ⟨ret_bool (by unfold alnB lowB capB digB; rw [Bool.eq_iff_iff]; simp [UInt8.le_iff_toNat_le]; omega), rfl⟩)
theorem rlow_any (c : UInt8) (w : World) : Calls Tryz.prog 94 #[.int .u8 c.toNat] w fun e w' => e = .returned (.bool (lowB c)) ∧ w = w' := by
  go_enter Tryz.func94, Tryz.ntmps94
  go_wp2
  all_goals (go_ret; exact ⟨ret_bool (by unfold lowB; rw [Bool.eq_iff_iff]; simp [UInt8.le_iff_toNat_le]; omega), rfl⟩)
theorem rlet_any (c : UInt8) (w : World) : Calls Tryz.prog 127 #[.int .u8 c.toNat] w fun e w' => e = .returned (.bool (lowB c || capB c)) ∧ w = w' := by
  go_enter Tryz.func127, Tryz.ntmps127
  go_wp2_with (go_at_call 94; refine (rlow_any _ _).mono ?_; rintro e w' ⟨rfl, rfl⟩; cases hl : lowB c)
  all_goals (go_ret; exact ⟨ret_bool (by unfold capB; rw [Bool.eq_iff_iff]; simp [hl, UInt8.le_iff_toNat_le]; try omega), rfl⟩)
theorem rinner_any (c : UInt8) (w : World) : Calls Tryz.prog 93 #[.int .u8 c.toNat] w fun e w' => e = .returned (.bool (innerB c)) ∧ w = w' := by
  have e1 : innerB c = ((lowB c || capB c) || (digB c || (c == 95 || c == 45))) := by unfold innerB alnB; simp only [Bool.or_assoc]
  rw [e1]
  go_enter Tryz.func93, Tryz.ntmps93
  go_wp2_with (go_at_call 127; refine (rlet_any _ _).mono ?_; rintro e w' ⟨rfl, rfl⟩; cases hl : (lowB c || capB c))
  all_goals (go_ret; exact ⟨ret_bool (by (first | rw [hl] | skip); unfold digB; rw [Bool.eq_iff_iff]; simp [UInt8.le_iff_toNat_le, ← UInt8.toNat_inj]; try omega), rfl⟩)

/-! Names. -/
def NmInv (s : ByteArray) (w : World) (i : Value) (wr : World) : Prop :=
  ∃ k : Nat, k ≤ s.size ∧ i = .int .i64 k ∧ wr = w ∧ (s.data.toList.take k).all innerB = true
theorem all_stepI {p : UInt8 → Bool} {s : ByteArray} {k : Nat} (h : (s.data.toList.take k).all p = true) (hk : k < s.size) (hp : p s[k] = true) : (s.data.toList.take (k + 1)).all p = true := by
  have h1 : s.data.toList[k]? = some s[k] := by rw [List.getElem?_eq_getElem (by rw [size_list]; exact hk), get_list s k hk]
  rw [take_next h1, List.all_append, h]
  simp [hp]
theorem all_stopI {p : UInt8 → Bool} {s : ByteArray} {k : Nat} (hk : k < s.size) (hp : p s[k] = false) : s.data.toList.all p = false := by
  rw [List.all_eq_false]
  exact ⟨s[k], by rw [← get_list s k hk]; exact List.getElem_mem _, by simp [hp]⟩
theorem all_endI {p : UInt8 → Bool} {s : ByteArray} {k : Nat} (h : (s.data.toList.take k).all p = true) (hk : ¬ k < s.size) : s.data.toList.all p = true := by
  rw [List.take_of_length_le (by rw [size_list]; omega)] at h
  exact h
theorem headD_atI (l : List UInt8) (h : 0 < l.length) : l.headD 0 = l[0] := by
  cases l with
  | nil => simp at h
  | cons x r => rfl
theorem head_atI (s : ByteArray) (h : 0 < s.size) : s.data.toList.headD 0 = s[0] := by
  rw [← get_list s 0 h]
  exact headD_atI _ _
theorem name_eq {s : ByteArray} (h0 : 0 < s.size) : nameB s.data.toList = (decide (s.size ≤ 40) && (lowB s[0] && s.data.toList.all innerB)) := by
  unfold nameB
  rw [head_atI s h0, size_list, decide_eq_true (show 1 ≤ s.size by omega), Bool.true_and, Bool.and_assoc]
theorem name_zero {s : ByteArray} (h0 : s.size = 0) : nameB s.data.toList = false := by
  unfold nameB
  rw [size_list, decide_eq_false (by omega)]; rfl

set_option maxHeartbeats 1000000 in
theorem rname_any (s : ByteArray) (w : World) (hs : s.size ≤ maxLen) : Calls Tryz.prog 67 #[.string s] w fun e w' => e = .returned (.bool (nameB s.data.toList)) ∧ w = w' := by
  unfold maxLen at hs
  obtain ⟨R, hR⟩ : ∃ R, R = nameB s.data.toList := ⟨_, rfl⟩
  rw [← hR]
  have HR := Lib.hid hR
  clear hR
  go_enter Tryz.func67, Tryz.ntmps67
  go_wp2
  go_loopw [3] (NmInv s w) (fun i _ => s.size - (intOf i).toNat)
  case atStart => exact ⟨0, Nat.zero_le _, rfl, rfl, rfl⟩
  case round =>
    obtain ⟨k, hk, rfl, rfl, ht⟩ := hrel
    have HT := Lib.hid ht
    clear ht
    by_cases hlt : k < s.size
    · have hltI : (k : Int) < (s.size : Int) := by omega
      cases hp : innerB s[k] with
      | true =>
        have HP := Lib.hid hp
        go_wp2_with (go_at_call 93; refine (rinner_any s[k] _).mono ?_; rintro e w' ⟨rfl, rfl⟩; rw [HP.out])
        exact ⟨⟨k + 1, by omega, by go_num, rfl, all_stepI HT.out hlt HP.out⟩, by simp [intOf]; omega⟩
      | false =>
        have HP := Lib.hid (all_stopI hlt hp)
        have HP2 := Lib.hid hp
        have h0 : 0 < s.size := by omega
        have HF := Lib.hid (show R = false from by rw [HR.out, name_eq h0, HP.out]; simp)
        go_wp2_with (go_at_call 93; refine (rinner_any s[k] _).mono ?_; rintro e w' ⟨rfl, rfl⟩; rw [HP2.out])
        go_ret
        exact ⟨ret_bool HF.out.symm, rfl⟩
    · have HA := Lib.hid (all_endI HT.out hlt)
      rcases Nat.eq_zero_or_pos s.size with h0 | h0
      · have HF := Lib.hid (show R = false from by rw [HR.out, name_zero h0])
        have g1 : ¬ (1 : Int) ≤ (s.size : Int) := by omega
        go_wp2
        go_ret
        exact ⟨ret_bool HF.out.symm, rfl⟩
      · have HF := Lib.hid (show R = (decide (s.size ≤ 40) && lowB s[0]) from by rw [HR.out, name_eq h0, HA.out, Bool.and_true])
        have g1 : (1 : Int) ≤ (s.size : Int) := by omega
        by_cases h40 : s.size ≤ 40
        · have g2 : (s.size : Int) ≤ 40 := by omega
          have HF2 := Lib.hid (show R = lowB s[0] from by rw [HF.out, decide_eq_true h40, Bool.true_and])
          go_wp2_with (go_at_call 94; refine (rlow_any s[0] _).mono ?_; rintro e w' ⟨rfl, rfl⟩)
          go_ret
          exact ⟨ret_bool HF2.out.symm, rfl⟩
        · have g2 : ¬ (s.size : Int) ≤ 40 := by omega
          have HF2 := Lib.hid (show R = false from by rw [HF.out, decide_eq_false h40, Bool.false_and])
          go_wp2
          go_ret
          exact ⟨ret_bool HF2.out.symm, rfl⟩
set_option maxRecDepth 100000 in
set_option maxHeartbeats 1000000 in
theorem tname_any (s : ByteArray) (w : World) (hs : s.size ≤ maxLen) : Calls Tryz.prog 57 #[.string s] w fun e w' => e = .returned (.bool (nameB s.data.toList)) ∧ w = w' := by
  unfold maxLen at hs
  obtain ⟨R, hR⟩ : ∃ R, R = nameB s.data.toList := ⟨_, rfl⟩
  rw [← hR]
  have HR := Lib.hid hR
  clear hR
  go_enter Tryz.func57, Tryz.ntmps57
  rcases Nat.eq_zero_or_pos s.size with h0 | h0
  · have HF := Lib.hid (show R = false from by rw [HR.out, name_zero h0])
    have hse : s = ⟨#[]⟩ := by
      apply ByteArray.ext
      exact Array.eq_empty_of_size_eq_zero h0
    subst hse
    go_wp2
    all_goals go_ret
    all_goals exact ⟨ret_bool HF.out.symm, rfl⟩
  have g0 : ¬ s.toList = [] := by
    rw [ByteArray.toList_eq]
    intro h
    have h2 := size_list s
    rw [h] at h2
    simp at h2
    omega
  have g0b : s.toList.isEmpty = false := by
    cases h : s.toList with
    | nil => exact absurd h g0
    | cons x r => rfl
  by_cases h40 : s.size ≤ 40
  rotate_left
  · have g2 : (40 : Int) < (s.size : Int) := by omega
    have HF := Lib.hid (show R = false from by rw [HR.out, name_eq h0, decide_eq_false h40, Bool.false_and])
    go_wp2
    all_goals go_ret
    all_goals exact ⟨ret_bool HF.out.symm, rfl⟩
  have g2 : ¬ (40 : Int) < (s.size : Int) := by omega
  have HF := Lib.hid (show R = (lowB s[0] && s.data.toList.all innerB) from by rw [HR.out, name_eq h0, decide_eq_true h40, Bool.true_and])
  by_cases hl : 97 ≤ s[0].toNat ∧ s[0].toNat ≤ 122
  rotate_left
  · have HF2 := Lib.hid (show R = false from by
      rw [HF.out]
      have : lowB s[0] = false := by unfold lowB; rw [← Bool.not_eq_true, Bool.and_eq_true, decide_eq_true_eq, decide_eq_true_eq, UInt8.le_iff_toNat_le, UInt8.le_iff_toNat_le]; exact hl
      rw [this, Bool.false_and])
    by_cases h97 : 97 ≤ s[0].toNat
    · have q1 : ¬ (s[0].toNat : Int) < 97 := by omega
      have q2 : (122 : Int) < (s[0].toNat : Int) := by omega
      go_wp2
      all_goals go_ret
      all_goals exact ⟨ret_bool HF2.out.symm, rfl⟩
    · have q1 : (s[0].toNat : Int) < 97 := by omega
      go_wp2
      all_goals go_ret
      all_goals exact ⟨ret_bool HF2.out.symm, rfl⟩
  have q1 : ¬ (s[0].toNat : Int) < 97 := by omega
  have q2 : ¬ (122 : Int) < (s[0].toNat : Int) := by omega
  have HF2 := Lib.hid (show R = s.data.toList.all innerB from by
    rw [HF.out]
    have : lowB s[0] = true := by unfold lowB; rw [Bool.and_eq_true, decide_eq_true_eq, decide_eq_true_eq, UInt8.le_iff_toNat_le, UInt8.le_iff_toNat_le]; exact hl
    rw [this, Bool.true_and])
  clear hl
  go_wp2
  go_loopw [23] (NmInv s w) (fun i _ => s.size - (intOf i).toNat)
  case atStart => exact ⟨0, Nat.zero_le _, rfl, rfl, rfl⟩
  case round =>
    obtain ⟨k, hk, rfl, rfl, ht⟩ := hrel
    have HT := Lib.hid ht
    clear ht q1 q2
    by_cases hlt : k < s.size
    · have hltI : (k : Int) < (s.size : Int) := by omega
      have HI := Lib.hid (show innerB s[k] = (alnB s[k] || (s[k] == 95 || s[k] == 45)) from by unfold innerB; rw [Bool.or_assoc])
      cases hq : alnB s[k] with
      | true =>
        have HQ := Lib.hid hq
        have HP := Lib.hid (show innerB s[k] = true from by rw [HI.out, hq]; rfl)
        clear hq
        go_wp2_with (go_at_call 88; refine (aln_any s[k] _).mono ?_; rintro e w' ⟨rfl, rfl⟩; rw [HQ.out])
        exact ⟨⟨k + 1, by omega, by go_num, rfl, all_stepI HT.out hlt HP.out⟩, by simp [intOf]; omega⟩
      | false =>
        have HQ := Lib.hid hq
        rw [hq, Bool.false_or] at HI
        clear hq
        by_cases e1 : s[k].toNat = 95
        · have HP := Lib.hid (show innerB s[k] = true from by rw [HI.out, Bool.or_eq_true]; exact .inl (by rw [beq_iff_eq, ← UInt8.toNat_inj]; exact e1))
          have E1 := Lib.hid (show (s[k].toNat : Int) = 95 from by omega)
          clear e1
          go_wp2_with (go_at_call 88; refine (aln_any s[k] _).mono ?_; rintro e w' ⟨rfl, rfl⟩; rw [HQ.out]; have c1 := E1.out)
          exact ⟨⟨k + 1, by omega, by go_num, rfl, all_stepI HT.out hlt HP.out⟩, by simp [intOf]; omega⟩
        · have c1 : ¬ (s[k].toNat : Int) = 95 := by omega
          by_cases e2 : s[k].toNat = 45
          · have HP := Lib.hid (show innerB s[k] = true from by rw [HI.out, Bool.or_eq_true]; exact .inr (by rw [beq_iff_eq, ← UInt8.toNat_inj]; exact e2))
            have E2 := Lib.hid (show (s[k].toNat : Int) = 45 from by omega)
            clear e1 e2 c1
            go_wp2_with (go_at_call 88; refine (aln_any s[k] _).mono ?_; rintro e w' ⟨rfl, rfl⟩; rw [HQ.out]; have c2 := E2.out)
            exact ⟨⟨k + 1, by omega, by go_num, rfl, all_stepI HT.out hlt HP.out⟩, by simp [intOf]; omega⟩
          · have c2 : ¬ (s[k].toNat : Int) = 45 := by omega
            have HP := Lib.hid (all_stopI hlt (show innerB s[k] = false from by
              rw [HI.out, Bool.or_eq_false_iff]
              exact ⟨by rw [beq_eq_false_iff_ne]; intro h; rw [h] at e1; exact e1 rfl, by rw [beq_eq_false_iff_ne]; intro h; rw [h] at e2; exact e2 rfl⟩))
            have d1 : ((s[k].toNat : Int) != 95) = true := by simpa using c1
            have d2 : ((s[k].toNat : Int) != 45) = true := by simpa using c2
            clear e1 e2
            go_wp2_with (go_at_call 88; refine (aln_any s[k] _).mono ?_; rintro e w' ⟨rfl, rfl⟩; rw [HQ.out]; skip)
            all_goals go_ret
            all_goals exact ⟨ret_bool (by rw [HF2.out, HP.out]), rfl⟩
    · have HA := Lib.hid (all_endI HT.out hlt)
      go_wp2
      go_ret
      exact ⟨ret_bool (by rw [HF2.out, HA.out]), rfl⟩
end Go.Proofs.YtpfmojeigjmlfaaGreatDoor
