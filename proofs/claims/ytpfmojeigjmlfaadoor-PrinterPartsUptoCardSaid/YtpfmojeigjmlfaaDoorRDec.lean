import Derived.Test.YtpfmojeigjmlfaaDoorDec
namespace Go.Proofs.YtpfmojeigjmlfaaDoor
open Go.RowKit
set_option linter.unusedSimpArgs false
set_option linter.unusedVariables false

/-! Decimal numbers, by the reference. -/
def AlI (s : ByteArray) (p : UInt8 → Bool) (w : World) (i : Value) (wr : World) : Prop := ∃ k : Nat, k ≤ s.size ∧ i = .int .i64 k ∧ (s.data.toList.take k).all p = true ∧ w = wr
theorem dotW_no : ∀ (q : By) (k : Nat) (x : UInt8), k < (dotW q).length → q[k]? = some x → x ≠ 46
  | [], k, x, h, hx => by simp at hx
  | b :: l, k, x, h, hx => by
    unfold dotW at h
    rw [List.takeWhile_cons] at h
    split at h
    · rename_i hb
      cases k with
      | zero => simp at hx; subst hx; simpa using hb
      | succ k => exact dotW_no l k x (by unfold dotW; simpa using h) (by simpa using hx)
    · simp at h
theorem dotW_at : ∀ (q : By) (x : UInt8), q[(dotW q).length]? = some x → x = 46
  | [], x, hx => by simp at hx
  | b :: l, x, hx => by
    unfold dotW at hx
    rw [List.takeWhile_cons] at hx
    split at hx
    · exact dotW_at l x (by unfold dotW; simpa using hx)
    · rename_i hb
      simp at hx hb
      rw [← hx]; exact hb
theorem decN_alt (g pt : Bool) (WH FR : ByteArray) (h : pt = true → ¬ FR.size = 0) : decN g WH.data.toList FR.data.toList pt = (WH.data.toList.all digB && FR.data.toList.all digB && (decide (1 ≤ WH.size) && decide (WH.size ≤ 15) && !(decide (1 < WH.size) && (WH.data.toList.headD 0 == 48)) && decide (FR.size ≤ 6) && !(g && (WH.data.toList.all (· == 48) && FR.data.toList.all (· == 48))))) := by
  have e1 : (pt && decide (FR.size = 0)) = false := by
    cases pt
    · rfl
    · simpa using h rfl
  unfold decN
  rw [size_list, size_list, e1]
  have e2 : decide (WH.size < 1) = !decide (1 ≤ WH.size) := by rw [Bool.eq_iff_iff]; simp
  have e3 : decide (15 < WH.size) = !decide (WH.size ≤ 15) := by rw [Bool.eq_iff_iff]; simp
  have e4 : decide (6 < FR.size) = !decide (FR.size ≤ 6) := by rw [Bool.eq_iff_iff]; simp
  rw [e2, e3, e4]
  generalize WH.data.toList.all digB = a1
  generalize FR.data.toList.all digB = a2
  generalize decide (1 ≤ WH.size) = a3
  generalize decide (WH.size ≤ 15) = a4
  generalize (decide (1 < WH.size) && (WH.data.toList.headD 0 == 48)) = a5
  generalize decide (FR.size ≤ 6) = a6
  generalize (g && (WH.data.toList.all (· == 48) && FR.data.toList.all (· == 48))) = a7
  revert a1 a2 a3 a4 a5 a6 a7
  decide
def DkI (n : Nat) (w : World) (i : Value) (wr : World) : Prop := ∃ k : Nat, k ≤ n ∧ i = .int .i64 k ∧ w = wr
def RgB (w : World) (s : ByteArray) (t : Value) (wr : World) : Prop := t = .bool (negB s.data.toList) ∧ w = wr
def RetSq (w : World) (ok : Bool) (e : Ending) (w' : World) : Prop := ∃ (g : Bool) (a b : ByteArray), e = .returned (.tuple #[.agg #[.bool g, .string a, .string b], .bool ok]) ∧ Ext w w'
theorem at_set3b {T : TypeId} {w : World} {g : Nat} {a0 a1 a2 b1 : Value} (h : AtC T w g #[a0, a1, a2]) : AtC T (w.setCell ⟨g, 1, none⟩ b1) g #[a0, b1, a2] := by
  unfold AtC at h ⊢
  simp only [World.setCell, Array.getElem?_modify, if_true, h]
  rfl
theorem at_set3c {T : TypeId} {w : World} {g : Nat} {a0 a1 a2 b1 : Value} (h : AtC T w g #[a0, a1, a2]) : AtC T (w.setCell ⟨g, 2, none⟩ b1) g #[a0, a1, b1] := by
  unfold AtC at h ⊢
  simp only [World.setCell, Array.getElem?_modify, if_true, h]
  rfl
theorem at_set3a {T : TypeId} {w : World} {g : Nat} {a0 a1 a2 b1 : Value} (h : AtC T w g #[a0, a1, a2]) : AtC T (w.setCell ⟨g, 0, none⟩ b1) g #[b1, a1, a2] := by
  unfold AtC at h ⊢
  simp only [World.setCell, Array.getElem?_modify, if_true, h]
  rfl
theorem AtC.other {T : TypeId} {w : World} {g : Nat} {cs : Array Value} (h : AtC T w g cs) {p : Addr} (hp : p.block ≠ g) (u : Value) : AtC T (w.setCell p u) g cs := by
  unfold AtC at h ⊢
  rw [World.setCell, Array.getElem?_modify, if_neg hp]
  exact h
end Go.Proofs.YtpfmojeigjmlfaaDoor
