import Derived.Test.YtkflpenpjnnhdaaGreatDoorProg
import Derived.Test.YtkflpenpjnnhdaaGreatDoorMQ2
import Derived.Test.YtkflpenpjnnhdaaGreatDoorMQ1
namespace Go.Proofs.YtkflpenpjnnhdaaGreatDoor
open Go.RowKit


theorem small_any (c : UInt8) (w : World) :
    Calls Tryz.prog 83 #[.int .u8 c.toNat] w fun e w' => e = .returned (.bool (isSmall c)) ∧ w = w' := by
  go_enter Tryz.func83, Tryz.ntmps83
  go_wp2
  all_goals (go_ret; exact ⟨ret_bool (by unfold isSmall; rw [Bool.eq_iff_iff]; simp [UInt8.le_iff_toNat_le]; omega), rfl⟩)
theorem cap_any (c : UInt8) (w : World) :
    Calls Tryz.prog 84 #[.int .u8 c.toNat] w fun e w' => e = .returned (.bool (isCap c)) ∧ w = w' := by
  go_enter Tryz.func84, Tryz.ntmps84
  go_wp2
  all_goals (go_ret; exact ⟨ret_bool (by unfold isCap; rw [Bool.eq_iff_iff]; simp [UInt8.le_iff_toNat_le]; omega), rfl⟩)
theorem dig_any (c : UInt8) (w : World) :
    Calls Tryz.prog 85 #[.int .u8 c.toNat] w fun e w' => e = .returned (.bool (isDig c)) ∧ w = w' := by
  go_enter Tryz.func85, Tryz.ntmps85
  go_wp2
  all_goals (go_ret; exact ⟨ret_bool (by unfold isDig; rw [Bool.eq_iff_iff]; simp [UInt8.le_iff_toNat_le]; omega), rfl⟩)


theorem eith_any (c : UInt8) (w : World) :
    Calls Tryz.prog 86 #[.int .u8 c.toNat] w fun e w' => e = .returned (.bool (isEith c)) ∧ w = w' := by
  go_enter Tryz.func86, Tryz.ntmps86
  go_wp2_with (first
    | (go_at_call 83; refine (small_any _ _).mono ?_; rintro e w' ⟨rfl, rfl⟩; cases hs : isSmall c)
    | (go_at_call 85; refine (dig_any _ _).mono ?_; rintro e w' ⟨rfl, rfl⟩; cases hd : isDig c))
  all_goals (go_ret; exact ⟨ret_bool (by simp [isEith, *]), rfl⟩)

def AllInv (p : UInt8 → Bool) (s : ByteArray) (w : World) (i : Value) (wr : World) : Prop :=
  ∃ k : Nat, k ≤ s.size ∧ i = .int .i64 k ∧ wr = w ∧ (s.data.toList.take k).all p = true
theorem all_step {p : UInt8 → Bool} {s : ByteArray} {k : Nat} (h : (s.data.toList.take k).all p = true) (hk : k < s.size) (hp : p s[k] = true) : (s.data.toList.take (k + 1)).all p = true := by
  have h1 : s.data.toList[k]? = some s[k] := by rw [List.getElem?_eq_getElem (by rw [size_list]; exact hk), get_list s k hk]
  rw [take_next h1, List.all_append, h]
  simp [hp]
theorem all_stop {p : UInt8 → Bool} {s : ByteArray} {k : Nat} (hk : k < s.size) (hp : p s[k] = false) : s.data.toList.all p = false := by
  rw [List.all_eq_false]
  exact ⟨s[k], by rw [← get_list s k hk]; exact List.getElem_mem _, by simp [hp]⟩
theorem all_end {p : UInt8 → Bool} {s : ByteArray} {k : Nat} (h : (s.data.toList.take k).all p = true) (hk : ¬ k < s.size) : s.data.toList.all p = true := by
  rw [List.take_of_length_le (by rw [size_list]; omega)] at h
  exact h

theorem all_small (s : ByteArray) (w : World) (hs : s.size ≤ 9223372036854775807) :
    Calls Tryz.prog 82 #[.string s, .func (.func 83) #[] #[]] w fun e w' => e = .returned (.bool (s.data.toList.all isSmall)) ∧ w = w' := by
  go_enter Tryz.func82, Tryz.ntmps82
  go_wp2
  go_loopw [8] (AllInv isSmall s w) (fun i _ => s.size - (intOf i).toNat)
  case atStart => exact ⟨0, Nat.zero_le _, rfl, rfl, rfl⟩
  case round =>
    obtain ⟨k, hk, rfl, rfl, ht⟩ := hrel
    have HT := Lib.hid ht
    clear ht
    by_cases hlt : k < s.size
    · cases hp : isSmall s[k] with
      | true =>
        have HP := Lib.hid hp
        go_wp2_with (go_at_call 83; refine (small_any s[k] _).mono ?_; rintro e w' ⟨rfl, rfl⟩; rw [HP.out])
        exact ⟨⟨k + 1, by omega, by go_num, rfl, all_step HT.out hlt HP.out⟩, by simp [intOf]; omega⟩
      | false =>
        have HP := Lib.hid hp
        go_wp2_with (go_at_call 83; refine (small_any s[k] _).mono ?_; rintro e w' ⟨rfl, rfl⟩; rw [HP.out])
        go_ret
        exact ⟨ret_bool (all_stop hlt HP.out).symm, rfl⟩
    · go_wp2
      go_ret
      exact ⟨ret_bool (all_end HT.out hlt).symm, rfl⟩

theorem all_cap (s : ByteArray) (w : World) (hs : s.size ≤ 9223372036854775807) :
    Calls Tryz.prog 82 #[.string s, .func (.func 84) #[] #[]] w fun e w' => e = .returned (.bool (s.data.toList.all isCap)) ∧ w = w' := by
  go_enter Tryz.func82, Tryz.ntmps82
  go_wp2
  go_loopw [8] (AllInv isCap s w) (fun i _ => s.size - (intOf i).toNat)
  case atStart => exact ⟨0, Nat.zero_le _, rfl, rfl, rfl⟩
  case round =>
    obtain ⟨k, hk, rfl, rfl, ht⟩ := hrel
    have HT := Lib.hid ht
    clear ht
    by_cases hlt : k < s.size
    · cases hp : isCap s[k] with
      | true =>
        have HP := Lib.hid hp
        go_wp2_with (go_at_call 84; refine (cap_any s[k] _).mono ?_; rintro e w' ⟨rfl, rfl⟩; rw [HP.out])
        exact ⟨⟨k + 1, by omega, by go_num, rfl, all_step HT.out hlt HP.out⟩, by simp [intOf]; omega⟩
      | false =>
        have HP := Lib.hid hp
        go_wp2_with (go_at_call 84; refine (cap_any s[k] _).mono ?_; rintro e w' ⟨rfl, rfl⟩; rw [HP.out])
        go_ret
        exact ⟨ret_bool (all_stop hlt HP.out).symm, rfl⟩
    · go_wp2
      go_ret
      exact ⟨ret_bool (all_end HT.out hlt).symm, rfl⟩

theorem all_dig (s : ByteArray) (w : World) (hs : s.size ≤ 9223372036854775807) :
    Calls Tryz.prog 82 #[.string s, .func (.func 85) #[] #[]] w fun e w' => e = .returned (.bool (s.data.toList.all isDig)) ∧ w = w' := by
  go_enter Tryz.func82, Tryz.ntmps82
  go_wp2
  go_loopw [8] (AllInv isDig s w) (fun i _ => s.size - (intOf i).toNat)
  case atStart => exact ⟨0, Nat.zero_le _, rfl, rfl, rfl⟩
  case round =>
    obtain ⟨k, hk, rfl, rfl, ht⟩ := hrel
    have HT := Lib.hid ht
    clear ht
    by_cases hlt : k < s.size
    · cases hp : isDig s[k] with
      | true =>
        have HP := Lib.hid hp
        go_wp2_with (go_at_call 85; refine (dig_any s[k] _).mono ?_; rintro e w' ⟨rfl, rfl⟩; rw [HP.out])
        exact ⟨⟨k + 1, by omega, by go_num, rfl, all_step HT.out hlt HP.out⟩, by simp [intOf]; omega⟩
      | false =>
        have HP := Lib.hid hp
        go_wp2_with (go_at_call 85; refine (dig_any s[k] _).mono ?_; rintro e w' ⟨rfl, rfl⟩; rw [HP.out])
        go_ret
        exact ⟨ret_bool (all_stop hlt HP.out).symm, rfl⟩
    · go_wp2
      go_ret
      exact ⟨ret_bool (all_end HT.out hlt).symm, rfl⟩

theorem all_eith (s : ByteArray) (w : World) (hs : s.size ≤ 9223372036854775807) :
    Calls Tryz.prog 82 #[.string s, .func (.func 86) #[] #[]] w fun e w' => e = .returned (.bool (s.data.toList.all isEith)) ∧ w = w' := by
  go_enter Tryz.func82, Tryz.ntmps82
  go_wp2
  go_loopw [8] (AllInv isEith s w) (fun i _ => s.size - (intOf i).toNat)
  case atStart => exact ⟨0, Nat.zero_le _, rfl, rfl, rfl⟩
  case round =>
    obtain ⟨k, hk, rfl, rfl, ht⟩ := hrel
    have HT := Lib.hid ht
    clear ht
    by_cases hlt : k < s.size
    · cases hp : isEith s[k] with
      | true =>
        have HP := Lib.hid hp
        go_wp2_with (go_at_call 86; refine (eith_any s[k] _).mono ?_; rintro e w' ⟨rfl, rfl⟩; rw [HP.out])
        exact ⟨⟨k + 1, by omega, by go_num, rfl, all_step HT.out hlt HP.out⟩, by simp [intOf]; omega⟩
      | false =>
        have HP := Lib.hid hp
        go_wp2_with (go_at_call 86; refine (eith_any s[k] _).mono ?_; rintro e w' ⟨rfl, rfl⟩; rw [HP.out])
        go_ret
        exact ⟨ret_bool (all_stop hlt HP.out).symm, rfl⟩
    · go_wp2
      go_ret
      exact ⟨ret_bool (all_end HT.out hlt).symm, rfl⟩
end Go.Proofs.YtkflpenpjnnhdaaGreatDoor
