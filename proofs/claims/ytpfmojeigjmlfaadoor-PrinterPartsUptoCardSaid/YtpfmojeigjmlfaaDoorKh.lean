import Derived.Test.YtpfmojeigjmlfaaDoorKe
namespace Go.Proofs.YtpfmojeigjmlfaaDoor
open Go.RowKit
set_option linter.unusedSimpArgs false
set_option linter.unusedVariables false

/-! Whether a text stands in another one, by the reference. -/
theorem sizeK (a : ByteArray) : a.data.toList.length = a.size := by show a.data.toList.length = a.data.size; simp
theorem eq_bK (x y : ByteArray) : (x.toList == y.toList) = (x.data.toList == y.data.toList) := by
  rw [ByteArray.toList_eq, ByteArray.toList_eq]
theorem extK (s : ByteArray) (i j : Nat) : (s.extract i j).data.toList = (s.data.toList.take j).drop i := by
  rw [ByteArray.data_extract]
  simp [List.extract_eq_take_drop, List.drop_take]
def HdI (w : World) (n : Nat) (i : Value) (wr : World) : Prop := ∃ k : Nat, k ≤ n ∧ i = .int .i64 k ∧ Ext w wr
set_option maxHeartbeats 2000000 in
set_option maxRecDepth 100000 in
theorem rholds_any (s p : ByteArray) (a b : By) (h : s.data.toList = a ++ (p.data.toList ++ b)) (w : World) (hs : s.size ≤ 100000000) :
    Calls Tryd.prog 8 #[.string s, .string p] w fun e w' => e = .returned (.bool true) ∧ Ext w w' := by
  have hsz : s.size = a.length + (p.size + b.length) := by rw [← sizeK s, h, List.length_append, List.length_append, sizeK]
  have HE := Lib.hid (show ∀ k, k ≤ a.length → ((s.extract k (k + p.size)).toList == p.toList) = false → k + 1 ≤ a.length from fun k hk he => by
    rcases Nat.lt_or_ge k a.length with h1 | h1
    · exact h1
    · obtain rfl : k = a.length := by omega
      rw [eq_bK, extK, h, ← List.append_assoc, List.take_append_of_le_length (by rw [List.length_append, sizeK]; omega), List.take_of_length_le (by rw [List.length_append, sizeK]; omega), List.drop_append_of_le_length (Nat.le_refl _), List.drop_length, List.nil_append] at he
      simp at he)
  have hp : p.size ≤ 100000000 := by omega
  have ha : a.length + p.size ≤ s.size := by omega
  clear h hsz
  go_enter Tryd.func8, Tryd.ntmps8
  go_wp2_with fail
  go_loopw [5] (HdI w a.length) (fun i _ => a.length + 1 - (intOf i).toNat)
  case atStart => exact ⟨0, Nat.zero_le _, rfl, Ext.refl _⟩
  case round =>
    obtain ⟨k, hk, rfl, hw⟩ := hrel
    have HW := Lib.hid hw
    have h1 : (k : Int) + (p.size : Int) ≤ (s.size : Int) := by omega
    clear hw
    cases hq : ((s.extract k (k + p.size)).toList == p.toList)
    · have HK := Lib.hid (HE.out k hk hq)
      go_wp2
      exact ⟨⟨k + 1, HK.out, by go_num, HW.out⟩, by simp [intOf]; omega⟩
    · go_wp2
      go_ret
      exact ⟨rfl, HW.out⟩
end Go.Proofs.YtpfmojeigjmlfaaDoor
