import Derived.Test.YtcfgphhhgemkdaaGreatDoorCase
namespace Go.Proofs.YtcfgphhhgemkdaaGreatDoor
open Go.RowKit
set_option linter.unusedSimpArgs false
set_option linter.unusedVariables false

theorem conv_one (wr : World) (c : UInt8) :
    (convert 83 9 (.slice (some ⟨wr.heap.size, 0, none⟩) 1 1)).run Tryz.prog (wr.alloc (.cells #[.int .u8 (c.toNat : Int)] 5)) = .ok (.string ⟨#[c]⟩) (wr.alloc (.cells #[.int .u8 (c.toNat : Int)] 5)) := by
  have h := run_convert_bytes_back (P := Tryz.prog) (wr.alloc (.cells #[.int .u8 (c.toNat : Int)] 5)) 83 9 5 ⟨wr.heap.size, 0, none⟩ 1 [c] Tryz.underlying83 Tryz.underlying5 Tryz.underlying9 (fun j hj => by
    have hj0 : j = 0 := by simp at hj; exact hj
    subst hj0
    rw [add_at, cell_of_row _ wr.heap.size 0 #[.int .u8 (c.toNat : Int)] 5 (0, 0) (heap_alloc_new wr _)]
    rfl)
  exact h

def StrInv (f : UInt8 → UInt8) (s : ByteArray) (w : World) (o i : Value) (wr : World) : Prop :=
  ∃ k : Nat, k ≤ s.size ∧ i = .int .i64 k ∧ o = strv ((s.data.toList.map f).take k) ∧ Ext w wr
theorem strInv_next {f : UInt8 → UInt8} {s : ByteArray} {k : Nat} (h : k < s.size) {c : UInt8} (hc : c = f s[k]) :
    Value.string (⟨((s.data.toList.map f).take k).toArray⟩ ++ ⟨#[c]⟩) = strv ((s.data.toList.map f).take (k + 1)) := by
  have h1 : (s.data.toList.map f)[k]? = some c := by rw [List.getElem?_map, List.getElem?_eq_getElem (by rw [size_list]; exact h), get_list s k h, hc]; rfl
  rw [take_next h1, ByteArray.mk_append_mk]
  simp [strv]
theorem lowC_num' (c : UInt8) (h : isCap c = true) : (c.toNat : Int) + 32 = ((lowC c).toNat : Int) := by
  have h1 := lowC_num c h
  have h2 : c.toNat ≤ 90 := by simp [isCap, UInt8.le_iff_toNat_le] at h; omega
  omega
theorem upC_num' (c : UInt8) (h : isSmall c = true) : (c.toNat : Int) - 32 = ((upC c).toNat : Int) := by
  have h1 := upC_num c h
  have h2 : c.toNat ≤ 122 ∧ 97 ≤ c.toNat := by simp [isSmall, UInt8.le_iff_toNat_le] at h; omega
  omega

set_option maxRecDepth 100000 in
theorem rlower_any (s : ByteArray) (w : World) (hs : s.size ≤ 9223372036854775807) :
    Calls Tryz.prog 33 #[.string s] w fun e w' => e = .returned (strv (s.data.toList.map lowC)) ∧ Ext w w' := by
  go_enter Tryz.func33, Tryz.ntmps33
  go_wp2
  go_loopw [3, 4] (StrInv lowC s w) (fun _ i _ => s.size - (intOf i).toNat)
  case atStart => exact ⟨0, Nat.zero_le _, rfl, rfl, Ext.refl _⟩
  case round =>
    obtain ⟨k, hk, rfl, rfl, hw⟩ := hrel
    have HW := Lib.hid hw
    clear hw
    by_cases hlt : k < s.size
    · have hcv := conv_one wr (lowC s[k])
      have hcl : ((s.data.toList.map lowC).take k).length ≤ 9223372036854775807 := by simp; omega
      unfold strv
      cases hp : isCap s[k] with
      | true =>
        obtain ⟨h1, h2⟩ : 65 ≤ s[k].toNat ∧ s[k].toNat ≤ 90 := by simpa [isCap, UInt8.le_iff_toNat_le] using hp
        rw [← lowC_num' _ hp] at hcv
        go_wp2
        exact ⟨⟨k + 1, by omega, by go_num, strInv_next hlt rfl, HW.out.alloc _⟩, by simp [intOf]; omega⟩
      | false =>
        have hp2 : ¬ (65 ≤ s[k].toNat ∧ s[k].toNat ≤ 90) := by simpa [isCap, UInt8.le_iff_toNat_le] using hp
        have hn : lowC s[k] = s[k] := by simp [lowC, hp]
        rw [hn] at hcv
        have HN := Lib.hid hn
        clear hn
        go_wp2
        all_goals first
          | exact ⟨⟨k + 1, by omega, by go_num, strInv_next hlt HN.out.symm, HW.out.alloc _⟩, by simp [intOf]; omega⟩
          | (exfalso; omega)
    · unfold strv
      go_wp2
      go_ret
      refine ⟨?_, HW.out⟩
      rw [List.take_of_length_le (by rw [List.length_map, size_list]; omega)]
      rfl

set_option maxRecDepth 100000 in
theorem rupper_any (s : ByteArray) (w : World) (hs : s.size ≤ 9223372036854775807) :
    Calls Tryz.prog 38 #[.string s] w fun e w' => e = .returned (strv (s.data.toList.map upC)) ∧ Ext w w' := by
  go_enter Tryz.func38, Tryz.ntmps38
  go_wp2
  go_loopw [3, 4] (StrInv upC s w) (fun _ i _ => s.size - (intOf i).toNat)
  case atStart => exact ⟨0, Nat.zero_le _, rfl, rfl, Ext.refl _⟩
  case round =>
    obtain ⟨k, hk, rfl, rfl, hw⟩ := hrel
    have HW := Lib.hid hw
    clear hw
    by_cases hlt : k < s.size
    · have hcv := conv_one wr (upC s[k])
      have hcl : ((s.data.toList.map upC).take k).length ≤ 9223372036854775807 := by simp; omega
      unfold strv
      cases hp : isSmall s[k] with
      | true =>
        obtain ⟨h1, h2⟩ : 97 ≤ s[k].toNat ∧ s[k].toNat ≤ 122 := by simpa [isSmall, UInt8.le_iff_toNat_le] using hp
        rw [← upC_num' _ hp] at hcv
        go_wp2
        exact ⟨⟨k + 1, by omega, by go_num, strInv_next hlt rfl, HW.out.alloc _⟩, by simp [intOf]; omega⟩
      | false =>
        have hp2 : ¬ (97 ≤ s[k].toNat ∧ s[k].toNat ≤ 122) := by simpa [isSmall, UInt8.le_iff_toNat_le] using hp
        have hn : upC s[k] = s[k] := by simp [upC, hp]
        rw [hn] at hcv
        have HN := Lib.hid hn
        clear hn
        go_wp2
        all_goals first
          | exact ⟨⟨k + 1, by omega, by go_num, strInv_next hlt HN.out.symm, HW.out.alloc _⟩, by simp [intOf]; omega⟩
          | (exfalso; omega)
    · unfold strv
      go_wp2
      go_ret
      refine ⟨?_, HW.out⟩
      rw [List.take_of_length_le (by rw [List.length_map, size_list]; omega)]
      rfl


/-- What 'all' asks of a byte. -/
def ldB (l d : Bool) (c : UInt8) : Bool := l && isSmall c || d && isDig c
set_option maxRecDepth 100000 in
theorem rall_any (s : ByteArray) (l d : Bool) (w : World) (hs : s.size ≤ 9223372036854775807) :
    Calls Tryz.prog 63 #[.string s, .bool l, .bool d] w fun e w' => e = .returned (.bool (s.data.toList.all (ldB l d))) ∧ w = w' := by
  generalize hB : s.data.toList.all (ldB l d) = B
  have HB := Lib.hid hB
  clear hB
  go_enter Tryz.func63, Tryz.ntmps63
  go_wp2
  go_loopw [7] (AllInv (ldB l d) s w) (fun i _ => s.size - (intOf i).toNat)
  case atStart => exact ⟨0, Nat.zero_le _, rfl, rfl, rfl⟩
  case round =>
    obtain ⟨k, hk, rfl, rfl, ht⟩ := hrel
    have HT := Lib.hid ht
    clear ht
    by_cases hlt : k < s.size
    · have hp : ldB l d s[k] = true ↔ (l = true ∧ 97 ≤ s[k].toNat ∧ s[k].toNat ≤ 122) ∨ (d = true ∧ 48 ≤ s[k].toNat ∧ s[k].toNat ≤ 57) := by
        simp [ldB, isSmall, isDig, UInt8.le_iff_toNat_le]
      have HP := Lib.hid hp
      clear hp
      cases l <;> cases d
      all_goals go_wp2
      all_goals try simp only [Bool.not_eq_true', Bool.not_eq_false', decide_eq_false_iff_not, decide_eq_true_eq] at *
      all_goals first
        | exact ⟨⟨k + 1, by omega, by go_num, rfl, all_step HT.out hlt (HP.out.2 (by simp only [true_and, false_and, or_false, false_or, reduceCtorEq]; omega))⟩, by simp [intOf]; omega⟩
        | (go_ret; refine ⟨ret_bool ?_, rfl⟩; rw [← HB.out, all_stop hlt (Bool.eq_false_iff.2 fun h => ?_)]; rcases HP.out.1 h with ⟨h0, h1, h2⟩ | ⟨h0, h1, h2⟩ <;> first | omega | cases h0)
        | trace_state
    · go_wp2
      go_ret
      exact ⟨ret_bool ((all_end HT.out hlt).symm.trans HB.out), rfl⟩

theorem ld_s : ldB true false = isSmall := by funext c; simp [ldB]
theorem ld_d : ldB false true = isDig := by funext c; simp [ldB]
theorem ld_e : ldB true true = isEith := by funext c; simp [ldB, isEith]

theorem rlang_any (s : ByteArray) (w : World) (hs : s.size ≤ 9223372036854775807) :
    Calls Tryz.prog 34 #[.string s] w fun e w' => e = .returned (.bool (langB s.data.toList)) ∧ w = w' := by
  go_enter Tryz.func34, Tryz.ntmps34
  go_wp2_with (go_at_call 63; refine (rall_any _ _ _ _ hs).mono ?_; rintro e w' ⟨rfl, rfl⟩; rw [ld_s]; cases hb : s.data.toList.all isSmall)
  all_goals (go_ret; exact ⟨ret_bool (by rw [Bool.eq_iff_iff]; simp [langB, size_list, *] <;> omega), rfl⟩)
theorem rscript_any (s : ByteArray) (w : World) (hs : s.size ≤ 9223372036854775807) :
    Calls Tryz.prog 35 #[.string s] w fun e w' => e = .returned (.bool (scriptL s.data.toList)) ∧ w = w' := by
  go_enter Tryz.func35, Tryz.ntmps35
  go_wp2_with (go_at_call 63; refine (rall_any _ _ _ _ hs).mono ?_; rintro e w' ⟨rfl, rfl⟩; rw [ld_s]; cases hb : s.data.toList.all isSmall)
  all_goals (go_ret; exact ⟨ret_bool (by rw [Bool.eq_iff_iff]; simp [scriptL, size_list, *] <;> omega), rfl⟩)
theorem rregion_any (s : ByteArray) (w : World) (hs : s.size ≤ 9223372036854775807) :
    Calls Tryz.prog 37 #[.string s] w fun e w' => e = .returned (.bool (regionL s.data.toList)) ∧ w = w' := by
  by_cases h2 : s.size = 2
  · go_enter Tryz.func37, Tryz.ntmps37
    go_wp2_with (go_at_call 63; refine (rall_any _ _ _ _ hs).mono ?_; rintro e w' ⟨rfl, rfl⟩; rw [ld_s]; cases hb : s.data.toList.all isSmall)
    all_goals (go_ret; exact ⟨ret_bool (by rw [Bool.eq_iff_iff]; simp [regionL, size_list, *]), rfl⟩)
  · have h5 : ((s.size : Int) == 2) = false := by simp; omega
    go_enter Tryz.func37, Tryz.ntmps37
    go_wp2_with (go_at_call 63; refine (rall_any _ _ _ _ hs).mono ?_; rintro e w' ⟨rfl, rfl⟩; rw [ld_d]; cases hb : s.data.toList.all isDig)
    all_goals (go_ret; exact ⟨ret_bool (by rw [Bool.eq_iff_iff]; simp [regionL, size_list, *] <;> omega), rfl⟩)
theorem all_head (s : ByteArray) (p : UInt8 → Bool) (h : 0 < s.size) : (s.extract 0 1).data.toList.all p = p (s.data.toList.headD 0) := by
  have h1 : (s.extract 0 1).data.toList = [s.data.toList.headD 0] := by
    have h2 : 0 < s.data.toList.length := h
    simp only [ByteArray.data_extract]
    rw [Array.toList_extract, List.extract_eq_take_drop]
    revert h2
    generalize s.data.toList = l
    intro h2
    cases l with
    | nil => simp at h2
    | cons a r => simp
  rw [h1]
  simp
theorem rvariant_any (s : ByteArray) (w : World) (hs : s.size ≤ 9223372036854775807) :
    Calls Tryz.prog 39 #[.string s] w fun e w' => e = .returned (.bool (variantB s.data.toList)) ∧ w = w' := by
  by_cases h4 : s.size = 4
  · have h3 := all_head s (ldB false true) (by omega)
    have h1 : (s.extract 0 1).size = 1 := extract_size s 0 1 (by omega)
    have H3 := Lib.hid h3
    clear h3
    go_enter Tryz.func39, Tryz.ntmps39
    go_wp2_with (go_at_call 63; refine (rall_any _ _ _ _ (by omega)).mono ?_; rintro e w' ⟨rfl, rfl⟩; first
      | (rw [ld_e]; cases hb : s.data.toList.all isEith)
      | (rw [H3.out, ld_d]; cases hc : isDig (s.data.toList.headD 0)))
    all_goals (go_ret; exact ⟨ret_bool (by simp only [variantB, size_list, *]; simp), rfl⟩)
  · have h5 : ((s.size : Int) == 4) = false := by simp; omega
    go_enter Tryz.func39, Tryz.ntmps39
    go_wp2_with (go_at_call 63; refine (rall_any _ _ _ _ hs).mono ?_; rintro e w' ⟨rfl, rfl⟩; rw [ld_e]; cases hb : s.data.toList.all isEith)
    all_goals (go_ret; exact ⟨ret_bool (by rw [Bool.eq_iff_iff]; simp [variantB, size_list, *] <;> omega), rfl⟩)

end Go.Proofs.YtcfgphhhgemkdaaGreatDoor
