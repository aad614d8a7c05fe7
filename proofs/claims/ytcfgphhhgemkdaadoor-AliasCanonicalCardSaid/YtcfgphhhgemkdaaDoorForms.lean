import Derived.Test.YtcfgphhhgemkdaaDoorBytes
namespace Go.Proofs.YtcfgphhhgemkdaaDoor
open Go.RowKit
set_option linter.unusedSimpArgs false
set_option linter.unusedVariables false


theorem lang_any (s : ByteArray) (w : World) (hs : s.size ≤ 9223372036854775807) :
    Calls Tryd.prog 26 #[.string s] w fun e w' => e = .returned (.bool (langB s.data.toList)) ∧ w = w' := by
  go_enter Tryd.func26, Tryd.ntmps26
  go_wp2_with (go_at_call 44; refine (all_small _ _ hs).mono ?_; rintro e w' ⟨rfl, rfl⟩; cases hb : s.data.toList.all isSmall)
  all_goals (go_ret; exact ⟨ret_bool (by rw [Bool.eq_iff_iff]; simp [langB, size_list, *] <;> omega), rfl⟩)


theorem extract_size (s : ByteArray) (a b : Nat) (hb : b ≤ s.size) : (s.extract a b).size = b - a := by
  simp [ByteArray.size_extract, Nat.min_eq_left hb]
theorem extract_drop (s : ByteArray) (a : Nat) : (s.extract a s.size).data.toList = s.data.toList.drop a := by
  simp [ByteArray.data_extract, List.extract_eq_take_drop]
  exact List.take_of_length_le (by simp [size_list])
theorem headD_at (l : List UInt8) (h : 0 < l.length) : l.headD 0 = l[0] := by
  cases l with
  | nil => simp at h
  | cons a r => rfl
theorem head_at (s : ByteArray) (h : 0 < s.size) : s.data.toList.headD 0 = s[0] := by
  rw [← get_list s 0 h]
  exact headD_at _ _

theorem script_any (s : ByteArray) (w : World) (hs : s.size ≤ 9223372036854775807) :
    Calls Tryd.prog 28 #[.string s] w fun e w' => e = .returned (.bool (scriptB s.data.toList)) ∧ w = w' := by
  by_cases h4 : s.size = 4
  · have h1 : (s.extract 1 4).size = 3 := extract_size s 1 4 (by omega)
    have h2 : (s.extract 1 4).data.toList = s.data.toList.drop 1 := by rw [← h4]; exact extract_drop s 1
    have h3 := head_at s (by omega)
    have H2 := Lib.hid h2
    have H3 := Lib.hid h3
    clear h2 h3
    go_enter Tryd.func28, Tryd.ntmps28
    go_wp2_with (first
      | (go_at_call 44; refine (all_small _ _ (by omega)).mono ?_; rintro e w' ⟨rfl, rfl⟩; rw [H2.out]; cases hb : (s.data.toList.drop 1).all isSmall)
      | (go_at_call 46; refine (cap_any _ _).mono ?_; rintro e w' ⟨rfl, rfl⟩; cases hc : isCap s[0]))
    all_goals (go_ret; exact ⟨ret_bool (by simp only [scriptB, size_list, H3.out, *]; simp), rfl⟩)
  · have h5 : ((s.size : Int) == 4) = false := by simp; omega
    go_enter Tryd.func28, Tryd.ntmps28
    go_wp2
    all_goals (go_ret; exact ⟨ret_bool (by simp [scriptB, size_list, h4]), rfl⟩)

theorem region_any (s : ByteArray) (w : World) (hs : s.size ≤ 9223372036854775807) :
    Calls Tryd.prog 30 #[.string s] w fun e w' => e = .returned (.bool (regionB s.data.toList)) ∧ w = w' := by
  by_cases h2 : s.size = 2
  · go_enter Tryd.func30, Tryd.ntmps30
    go_wp2_with (go_at_call 44; refine (all_cap _ _ hs).mono ?_; rintro e w' ⟨rfl, rfl⟩; cases hb : s.data.toList.all isCap)
    all_goals (go_ret; exact ⟨ret_bool (by rw [Bool.eq_iff_iff]; simp [regionB, size_list, *]), rfl⟩)
  · have h5 : ((s.size : Int) == 2) = false := by simp; omega
    go_enter Tryd.func30, Tryd.ntmps30
    go_wp2_with (go_at_call 44; refine (all_dig _ _ hs).mono ?_; rintro e w' ⟨rfl, rfl⟩; cases hb : s.data.toList.all isDig)
    all_goals (go_ret; exact ⟨ret_bool (by rw [Bool.eq_iff_iff]; simp [regionB, size_list, *] <;> omega), rfl⟩)

theorem variant_any (s : ByteArray) (w : World) (hs : s.size ≤ 9223372036854775807) :
    Calls Tryd.prog 31 #[.string s] w fun e w' => e = .returned (.bool (variantB s.data.toList)) ∧ w = w' := by
  by_cases h4 : s.size = 4
  · have h3 := head_at s (by omega)
    have H3 := Lib.hid h3
    clear h3
    go_enter Tryd.func31, Tryd.ntmps31
    go_wp2_with (first
      | (go_at_call 44; refine (all_eith _ _ hs).mono ?_; rintro e w' ⟨rfl, rfl⟩; cases hb : s.data.toList.all isEith)
      | (go_at_call 47; refine (dig_any _ _).mono ?_; rintro e w' ⟨rfl, rfl⟩; cases hc : isDig s[0]))
    all_goals (go_ret; exact ⟨ret_bool (by simp only [variantB, size_list, H3.out, *]; simp), rfl⟩)
  · have h5 : ((s.size : Int) == 4) = false := by simp; omega
    go_enter Tryd.func31, Tryd.ntmps31
    go_wp2_with (go_at_call 44; refine (all_eith _ _ hs).mono ?_; rintro e w' ⟨rfl, rfl⟩; cases hb : s.data.toList.all isEith)
    all_goals (go_ret; exact ⟨ret_bool (by rw [Bool.eq_iff_iff]; simp [variantB, size_list, *] <;> omega), rfl⟩)
end Go.Proofs.YtcfgphhhgemkdaaDoor
