import Derived.Test.YtpfmojeigjmlfaaDoorNPO
import Derived.Test.YtpfmojeigjmlfaaDoorRDec
namespace Go.Proofs.YtpfmojeigjmlfaaDoor
open Go.RowKit
set_option linter.unusedSimpArgs false
set_option linter.unusedVariables false

/-! Keys and lists of words, by the reference. -/
theorem rcnt26_any (k : Int) (w : World) : Calls Tryd.prog 15 #[.int .i64 k] w fun e w' => e = .returned (.bool (k == 7 || k == 8)) ∧ w = w' := by
  go_enter Tryd.func15, Tryd.ntmps15
  go_wp2
  all_goals (go_ret; exact ⟨ret_bool (by simp_all), rfl⟩)
def strC (l : List By) : List Value := l.map fun x => .string ⟨x.toArray⟩
def InI (w : World) (l : List By) (s : By) (R : Bool) (i : Value) (wr : World) : Prop := ∃ k : Nat, k ≤ l.length ∧ i = .int .i64 k ∧ R = decide (s ∈ l.drop k) ∧ w = wr
theorem tail_list (s : ByteArray) : (s.extract 1 s.size).data.toList = s.data.toList.drop 1 := by
  simp only [ByteArray.data_extract, Array.toList_extract, List.extract_eq_take_drop]
  exact List.take_of_length_le (by rw [List.length_drop, size_list]; exact Nat.le_refl _)
end Go.Proofs.YtpfmojeigjmlfaaDoor
