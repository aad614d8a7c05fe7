import Derived.Test.YtcfgphhhgemkdaaDoorCase
namespace Go.Proofs.YtcfgphhhgemkdaaDoor
open Go.RowKit
set_option linter.unusedSimpArgs false
set_option linter.unusedVariables false

theorem conv_one (wr : World) (c : UInt8) :
    (convert 59 9 (.slice (some ⟨wr.heap.size, 0, none⟩) 1 1)).run Tryd.prog (wr.alloc (.cells #[.int .u8 (c.toNat : Int)] 5)) = .ok (.string ⟨#[c]⟩) (wr.alloc (.cells #[.int .u8 (c.toNat : Int)] 5)) := by
  have h := run_convert_bytes_back (P := Tryd.prog) (wr.alloc (.cells #[.int .u8 (c.toNat : Int)] 5)) 59 9 5 ⟨wr.heap.size, 0, none⟩ 1 [c] Tryd.underlying59 Tryd.underlying5 Tryd.underlying9 (fun j hj => by
    have hj0 : j = 0 := by simp at hj; exact hj
    subst hj0
    rw [add_at, cell_of_row _ wr.heap.size 0 #[.int .u8 (c.toNat : Int)] 5 (0, 0) (heap_alloc_new wr _)]
    rfl)
  exact h

def StrInv (f : UInt8 → UInt8) (s : ByteArray) (w : World) (o i : Value) (wr : World) : Prop :=
  ∃ k : Nat, k ≤ s.size ∧ i = .int .i64 k ∧ o = strv ((s.data.toList.map f).take k) ∧ Ext w wr
theorem strInv_next {f : UInt8 → UInt8} {s : ByteArray} {k : Nat} (h : k < s.size) {c : UInt8} (hc : c = f s[k]) :
    Value.string (⟨((s.data.toList.map f).take k).toArray⟩ ++ ⟨#[c]⟩) = strv ((s.data.toList.map f).take (k + 1)) := by
  have h1 : (s.data.toList.map f)[k]? = some c := by rw [List.getElem?_map, List.getElem?_eq_getElem (by rw [size_list]; exact h), get_list s k h, hc]; rfl
  rw [take_next h1, ByteArray.mk_append_mk]
  simp [strv]
theorem lowC_num' (c : UInt8) (h : isCap c = true) : (c.toNat : Int) + 32 = ((lowC c).toNat : Int) := by
  have h1 := lowC_num c h
  have h2 : c.toNat ≤ 90 := by simp [isCap, UInt8.le_iff_toNat_le] at h; omega
  omega
theorem upC_num' (c : UInt8) (h : isSmall c = true) : (c.toNat : Int) - 32 = ((upC c).toNat : Int) := by
  have h1 := upC_num c h
  have h2 : c.toNat ≤ 122 ∧ 97 ≤ c.toNat := by simp [isSmall, UInt8.le_iff_toNat_le] at h; omega
  omega

set_option maxRecDepth 100000 in
theorem rlower_any (s : ByteArray) (w : World) (hs : s.size ≤ 9223372036854775807) :
    Calls Tryd.prog 15 #[.string s] w fun e w' => e = .returned (strv (s.data.toList.map lowC)) ∧ Ext w w' := by
  go_enter Tryd.func15, Tryd.ntmps15
  go_wp2
  go_loopw [3, 4] (StrInv lowC s w) (fun _ i _ => s.size - (intOf i).toNat)
  case atStart => exact ⟨0, Nat.zero_le _, rfl, rfl, Ext.refl _⟩
  case round =>
    obtain ⟨k, hk, rfl, rfl, hw⟩ := hrel
    have HW := Lib.hid hw
    clear hw
    by_cases hlt : k < s.size
    · have hcv := conv_one wr (lowC s[k])
      have hcl : ((s.data.toList.map lowC).take k).length ≤ 9223372036854775807 := by simp; omega
      unfold strv
      cases hp : isCap s[k] with
      | true =>
        obtain ⟨h1, h2⟩ : 65 ≤ s[k].toNat ∧ s[k].toNat ≤ 90 := by simpa [isCap, UInt8.le_iff_toNat_le] using hp
        rw [← lowC_num' _ hp] at hcv
        go_wp2
        exact ⟨⟨k + 1, by omega, by go_num, strInv_next hlt rfl, HW.out.alloc _⟩, by simp [intOf]; omega⟩
      | false =>
        have hp2 : ¬ (65 ≤ s[k].toNat ∧ s[k].toNat ≤ 90) := by simpa [isCap, UInt8.le_iff_toNat_le] using hp
        have hn : lowC s[k] = s[k] := by simp [lowC, hp]
        rw [hn] at hcv
        have HN := Lib.hid hn
        clear hn
        go_wp2
        all_goals first
          | exact ⟨⟨k + 1, by omega, by go_num, strInv_next hlt HN.out.symm, HW.out.alloc _⟩, by simp [intOf]; omega⟩
          | (exfalso; omega)
    · unfold strv
      go_wp2
      go_ret
      refine ⟨?_, HW.out⟩
      rw [List.take_of_length_le (by rw [List.length_map, size_list]; omega)]
      rfl

set_option maxRecDepth 100000 in
theorem rupper_any (s : ByteArray) (w : World) (hs : s.size ≤ 9223372036854775807) :
    Calls Tryd.prog 14 #[.string s] w fun e w' => e = .returned (strv (s.data.toList.map upC)) ∧ Ext w w' := by
  go_enter Tryd.func14, Tryd.ntmps14
  go_wp2
  go_loopw [3, 4] (StrInv upC s w) (fun _ i _ => s.size - (intOf i).toNat)
  case atStart => exact ⟨0, Nat.zero_le _, rfl, rfl, Ext.refl _⟩
  case round =>
    obtain ⟨k, hk, rfl, rfl, hw⟩ := hrel
    have HW := Lib.hid hw
    clear hw
    by_cases hlt : k < s.size
    · have hcv := conv_one wr (upC s[k])
      have hcl : ((s.data.toList.map upC).take k).length ≤ 9223372036854775807 := by simp; omega
      unfold strv
      cases hp : isSmall s[k] with
      | true =>
        obtain ⟨h1, h2⟩ : 97 ≤ s[k].toNat ∧ s[k].toNat ≤ 122 := by simpa [isSmall, UInt8.le_iff_toNat_le] using hp
        rw [← upC_num' _ hp] at hcv
        go_wp2
        exact ⟨⟨k + 1, by omega, by go_num, strInv_next hlt rfl, HW.out.alloc _⟩, by simp [intOf]; omega⟩
      | false =>
        have hp2 : ¬ (97 ≤ s[k].toNat ∧ s[k].toNat ≤ 122) := by simpa [isSmall, UInt8.le_iff_toNat_le] using hp
        have hn : upC s[k] = s[k] := by simp [upC, hp]
        rw [hn] at hcv
        have HN := Lib.hid hn
        clear hn
        go_wp2
        all_goals first
          | exact ⟨⟨k + 1, by omega, by go_num, strInv_next hlt HN.out.symm, HW.out.alloc _⟩, by simp [intOf]; omega⟩
          | (exfalso; omega)
    · unfold strv
      go_wp2
      go_ret
      refine ⟨?_, HW.out⟩
      rw [List.take_of_length_le (by rw [List.length_map, size_list]; omega)]
      rfl


/-- What 'all' asks of a byte. -/
def ldB (l d : Bool) (c : UInt8) : Bool := l && isSmall c || d && isDig c
end Go.Proofs.YtcfgphhhgemkdaaDoor
