import Derived.Test.YtkflpenpjnnhdaaGreatDoorBytes
namespace Go.Proofs.YtkflpenpjnnhdaaGreatDoor
open Go.RowKit
set_option linter.unusedSimpArgs false
set_option linter.unusedVariables false


theorem lang_any (s : ByteArray) (w : World) (hs : s.size ≤ 9223372036854775807) :
    Calls Tryz.prog 58 #[.string s] w fun e w' => e = .returned (.bool (langB s.data.toList)) ∧ w = w' := by
  go_enter Tryz.func58, Tryz.ntmps58
  go_wp2_with (go_at_call 82; refine (all_small _ _ hs).mono ?_; rintro e w' ⟨rfl, rfl⟩; cases hb : s.data.toList.all isSmall)
  all_goals (go_ret; exact ⟨ret_bool (by rw [Bool.eq_iff_iff]; simp [langB, size_list, *] <;> omega), rfl⟩)


theorem extract_size (s : ByteArray) (a b : Nat) (hb : b ≤ s.size) : (s.extract a b).size = b - a := by
  simp [ByteArray.size_extract, Nat.min_eq_left hb]
theorem extract_drop (s : ByteArray) (a : Nat) : (s.extract a s.size).data.toList = s.data.toList.drop a := by
  simp [ByteArray.data_extract, List.extract_eq_take_drop]
  exact List.take_of_length_le (by simp [size_list])
theorem headD_at (l : List UInt8) (h : 0 < l.length) : l.headD 0 = l[0] := by
  cases l with
  | nil => simp at h
  | cons a r => rfl
theorem head_at (s : ByteArray) (h : 0 < s.size) : s.data.toList.headD 0 = s[0] := by
  rw [← get_list s 0 h]
  exact headD_at _ _

theorem script_any (s : ByteArray) (w : World) (hs : s.size ≤ 9223372036854775807) :
    Calls Tryz.prog 60 #[.string s] w fun e w' => e = .returned (.bool (scriptB s.data.toList)) ∧ w = w' := by
  by_cases h4 : s.size = 4
  · have h1 : (s.extract 1 4).size = 3 := extract_size s 1 4 (by omega)
    have h2 : (s.extract 1 4).data.toList = s.data.toList.drop 1 := by rw [← h4]; exact extract_drop s 1
    have h3 := head_at s (by omega)
    have H2 := Lib.hid h2
    have H3 := Lib.hid h3
    clear h2 h3
    go_enter Tryz.func60, Tryz.ntmps60
    go_wp2_with (first
      | (go_at_call 82; refine (all_small _ _ (by omega)).mono ?_; rintro e w' ⟨rfl, rfl⟩; rw [H2.out]; cases hb : (s.data.toList.drop 1).all isSmall)
      | (go_at_call 84; refine (cap_any _ _).mono ?_; rintro e w' ⟨rfl, rfl⟩; cases hc : isCap s[0]))
    all_goals (go_ret; exact ⟨ret_bool (by simp only [scriptB, size_list, H3.out, *]; simp), rfl⟩)
  · have h5 : ((s.size : Int) == 4) = false := by simp; omega
    go_enter Tryz.func60, Tryz.ntmps60
    go_wp2
    all_goals (go_ret; exact ⟨ret_bool (by simp [scriptB, size_list, h4]), rfl⟩)

theorem region_any (s : ByteArray) (w : World) (hs : s.size ≤ 9223372036854775807) :
    Calls Tryz.prog 62 #[.string s] w fun e w' => e = .returned (.bool (regionB s.data.toList)) ∧ w = w' := by
  by_cases h2 : s.size = 2
  · go_enter Tryz.func62, Tryz.ntmps62
    go_wp2_with (go_at_call 82; refine (all_cap _ _ hs).mono ?_; rintro e w' ⟨rfl, rfl⟩; cases hb : s.data.toList.all isCap)
    all_goals (go_ret; exact ⟨ret_bool (by rw [Bool.eq_iff_iff]; simp [regionB, size_list, *]), rfl⟩)
  · have h5 : ((s.size : Int) == 2) = false := by simp; omega
    go_enter Tryz.func62, Tryz.ntmps62
    go_wp2_with (go_at_call 82; refine (all_dig _ _ hs).mono ?_; rintro e w' ⟨rfl, rfl⟩; cases hb : s.data.toList.all isDig)
    all_goals (go_ret; exact ⟨ret_bool (by rw [Bool.eq_iff_iff]; simp [regionB, size_list, *] <;> omega), rfl⟩)

theorem variant_any (s : ByteArray) (w : World) (hs : s.size ≤ 9223372036854775807) :
    Calls Tryz.prog 63 #[.string s] w fun e w' => e = .returned (.bool (variantB s.data.toList)) ∧ w = w' := by
  by_cases h4 : s.size = 4
  · have h3 := head_at s (by omega)
    have H3 := Lib.hid h3
    clear h3
    go_enter Tryz.func63, Tryz.ntmps63
    go_wp2_with (first
      | (go_at_call 82; refine (all_eith _ _ hs).mono ?_; rintro e w' ⟨rfl, rfl⟩; cases hb : s.data.toList.all isEith)
      | (go_at_call 85; refine (dig_any _ _).mono ?_; rintro e w' ⟨rfl, rfl⟩; cases hc : isDig s[0]))
    all_goals (go_ret; exact ⟨ret_bool (by simp only [variantB, size_list, H3.out, *]; simp), rfl⟩)
  · have h5 : ((s.size : Int) == 4) = false := by simp; omega
    go_enter Tryz.func63, Tryz.ntmps63
    go_wp2_with (go_at_call 82; refine (all_eith _ _ hs).mono ?_; rintro e w' ⟨rfl, rfl⟩; cases hb : s.data.toList.all isEith)
    all_goals (go_ret; exact ⟨ret_bool (by rw [Bool.eq_iff_iff]; simp [variantB, size_list, *] <;> omega), rfl⟩)
end Go.Proofs.YtkflpenpjnnhdaaGreatDoor
