import Derived.Test.YtklobkpepbokkaaDoorNPH
import Derived.Test.YtklobkpepbokkaaDoorNPC
namespace Go.Proofs.YtklobkpepbokkaaDoor
open Go.RowKit
set_option linter.unusedSimpArgs false
set_option linter.unusedVariables false

/-! The reference's bytes, texts and words. -/
theorem rspec_any (c : UInt8) (w : World) : Calls Tryd.prog 51 #[.int .u8 c.toNat] w fun e w' => e = .returned (.bool (specB c)) ∧ w = w' := by
  obtain ⟨q1, h1⟩ : ∃ q, q = ((c.toNat : Int) == 123) := ⟨_, rfl⟩
  obtain ⟨q2, h2⟩ : ∃ q, q = ((c.toNat : Int) == 125) := ⟨_, rfl⟩
  obtain ⟨q3, h3⟩ : ∃ q, q = ((c.toNat : Int) == 60) := ⟨_, rfl⟩
  obtain ⟨q4, h4⟩ : ∃ q, q = ((c.toNat : Int) == 62) := ⟨_, rfl⟩
  obtain ⟨q5, h5⟩ : ∃ q, q = ((c.toNat : Int) == 35) := ⟨_, rfl⟩
  obtain ⟨q6, h6⟩ : ∃ q, q = ((c.toNat : Int) == 92) := ⟨_, rfl⟩
  have HS := Lib.hid (show specB c = (q1 || q2 || q3 || q4 || q5 || q6) from by
    rw [h1, h2, h3, h4, h5, h6]
    unfold specB
    rw [← u8_beq c 123, ← u8_beq c 125, ← u8_beq c 60, ← u8_beq c 62, ← u8_beq c 35, ← u8_beq c 92]; rfl)
  generalize specB c = sp at HS ⊢
  have g1 := h1.symm
  have g2 := h2.symm
  have g3 := h3.symm
  have g4 := h4.symm
  have g5 := h5.symm
  have g6 := h6.symm
  clear h1 h2 h3 h4 h5 h6
  cases q1
  all_goals cases q2
  all_goals cases q3
  all_goals cases q4
  all_goals cases q5
  all_goals cases q6
  all_goals first
    | (exfalso; simp only [beq_iff_eq] at g1 g2 g3 g4 g5 g6; omega)
    | (go_enter Tryd.func51, Tryd.ntmps51
       go_wp2
       go_ret
       exact ⟨ret_bool HS.out.symm, rfl⟩)
theorem rblank_any (c : UInt8) (w : World) : Calls Tryd.prog 20 #[.int .u8 c.toNat] w fun e w' => e = .returned (.bool (blankB c)) ∧ w = w' := by
  go_enter Tryd.func20, Tryd.ntmps20
  go_wp2
  all_goals (go_ret; exact ⟨ret_bool (by unfold blankB; rw [Bool.eq_iff_iff]; simp [← UInt8.toNat_inj]; try omega), rfl⟩)
theorem rwordy_any (c : UInt8) (w : World) : Calls Tryd.prog 35 #[.int .u8 c.toNat] w fun e w' => e = .returned (.bool (wordB c)) ∧ w = w' := by
  have e1 : wordB c = (innerB c || (c == 46 || c == 61)) := by unfold wordB; rw [Bool.or_assoc]
  rw [e1]
  go_enter Tryd.func35, Tryd.ntmps35
  go_wp2_with (go_at_call 50; refine (rinner_any _ _).mono ?_; rintro e w' ⟨rfl, rfl⟩; cases hl : innerB c)
  all_goals (go_ret; exact ⟨ret_bool (by (first | rw [hl] | skip); rw [Bool.eq_iff_iff]; simp [← UInt8.toNat_inj]; try omega), rfl⟩)
def RtI (s : ByteArray) (a : Nat) (w : World) (i : Value) (wr : World) : Prop := ∃ k : Nat, a ≤ k ∧ k ≤ s.size ∧ i = .int .i64 k ∧ a + textN (s.data.toList.drop a) = k + textN (s.data.toList.drop k) ∧ w = wr
set_option maxHeartbeats 2000000 in
theorem rtext_any (s : ByteArray) (a : Nat) (w : World) (hs : s.size ≤ 1048576) (ha : a ≤ s.size) : Calls Tryd.prog 36 #[.string s, .int .i64 a] w fun e w' => e = .returned (.int .i64 ((a + textN (s.data.toList.drop a) : Nat) : Int)) ∧ w = w' := by
  obtain ⟨R, hR⟩ : ∃ R, R = a + textN (s.data.toList.drop a) := ⟨_, rfl⟩
  rw [← hR]
  have HR := Lib.hid hR
  clear hR
  go_enter Tryd.func36, Tryd.ntmps36
  go_wp2_with fail
  go_loopw [1] (RtI s a w) (fun i _ => s.size - (intOf i).toNat)
  case atStart => exact ⟨a, Nat.le_refl _, ha, rfl, rfl, rfl⟩
  case round =>
    obtain ⟨k, hak, hk, rfl, hq, rfl⟩ := hrel
    have HA := Lib.hid (HR.out.trans hq)
    have HQ := Lib.hid hq
    clear hq
    by_cases hks : k < s.size
    rotate_left
    · obtain rfl : k = s.size := by omega
      have HF := Lib.hid (show R = s.size from by rw [HA.out, show s.data.toList.drop s.size = [] from by rw [← size_list, List.drop_length]]; rfl)
      have hkI : ¬ (s.size : Int) < (s.size : Int) := by omega
      go_wp2
      go_ret
      exact ⟨by rw [HF.out]; rfl, rfl⟩
    have hkI : (k : Int) < (s.size : Int) := by omega
    have HD := Lib.hid (drop_at hks)
    have HK := Lib.hid (fun W => rspec_any s[k] W)
    by_cases h92 : s[k] = 92
    rotate_left
    · have b1 : ((s[k].toNat : Int) == 92) = false := u8_ne (n := 92) h92
      cases hc : specB s[k]
      · have HF := Lib.hid (show a + textN (s.data.toList.drop a) = (k + 1) + textN (s.data.toList.drop (k + 1)) from by rw [HQ.out, HD.out, textN_plain hc]; omega)
        rw [hc] at HK
        clear hc h92
        go_wp2_with fail
        refine (HK.out _).mono ?_
        rintro e w2 ⟨rfl, rfl⟩
        go_wp2
        exact ⟨⟨k + 1, by omega, hks, by go_num, HF.out, rfl⟩, by simp [intOf]; omega⟩
      · have HF := Lib.hid (show R = k from by rw [HA.out, HD.out, textN_stop hc _ (fun e => absurd e h92)]; rfl)
        rw [hc] at HK
        clear hc h92
        go_wp2_with fail
        refine (HK.out _).mono ?_
        rintro e w2 ⟨rfl, rfl⟩
        go_wp2
        go_ret
        exact ⟨by rw [HF.out]; rfl, rfl⟩
    have b1 : ((s[k].toNat : Int) == 92) = true := by rw [h92]; rfl
    have hc : specB s[k] = true := by rw [h92]; decide
    rw [hc] at HK
    by_cases hke : k + 1 < s.size
    rotate_left
    · have HF := Lib.hid (show R = k from by
        rw [HA.out, HD.out, textN_stop hc _ (fun _ d r' e => by
          have h2 := congrArg List.length e
          rw [List.length_drop, size_list, List.length_cons] at h2
          omega)]; rfl)
      have b3 : ¬ (k : Int) + 1 < (s.size : Int) := by omega
      clear hc h92
      go_wp2_with fail
      refine (HK.out _).mono ?_
      rintro e w2 ⟨rfl, rfl⟩
      go_wp2
      go_ret
      exact ⟨by rw [HF.out]; rfl, rfl⟩
    have b3 : (k : Int) + 1 < (s.size : Int) := by omega
    have HD1 := Lib.hid (drop_at hke)
    have HK1 := Lib.hid (fun W => rspec_any s[k + 1] W)
    cases hd : specB s[k + 1]
    · have HF := Lib.hid (show R = k from by
        rw [HA.out, HD.out, textN_stop hc _ (fun _ d r' e => by
          rw [HD1.out] at e
          injection e with e _
          rw [← e]; exact hd)]; rfl)
      rw [hd] at HK1
      clear hc h92 hd
      go_wp2_with fail
      refine (HK1.out _).mono ?_
      rintro e w2 ⟨rfl, rfl⟩
      go_wp2_with fail
      refine (HK.out _).mono ?_
      rintro e w3 ⟨rfl, rfl⟩
      go_wp2
      go_ret
      exact ⟨by rw [HF.out]; rfl, rfl⟩
    · have HF := Lib.hid (show a + textN (s.data.toList.drop a) = (k + 2) + textN (s.data.toList.drop (k + 1 + 1)) from by rw [HQ.out, HD.out, h92, HD1.out, textN_escape hd]; omega)
      rw [hd] at HK1
      clear hc h92 hd
      go_wp2_with fail
      refine (HK1.out _).mono ?_
      rintro e w2 ⟨rfl, rfl⟩
      go_wp2
      exact ⟨⟨k + 2, by omega, by omega, by go_num, HF.out, rfl⟩, by simp [intOf]; omega⟩
end Go.Proofs.YtklobkpepbokkaaDoor
