import Derived.Test.YtkflpenpjnnhdaaGreatDoorMQ3
import Derived.Test.YtkflpenpjnnhdaaGreatDoorRows
import Derived.Deep.DeepHandedRow
import Derived.Stop.Joined
import Derived.JoinedCond
namespace Go.Proofs.YtkflpenpjnnhdaaGreatDoor
open Go.ChangeShapes Go.WideShapes Go.ChangeAt Go.RowKit
set_option linter.unusedSimpArgs false
set_option linter.unusedVariables false

theorem witness_row_shaped {H : Type} {enc : TypeId × Value → H} {C : Checked} {os : Os} {f : FuncId} {fn : Func} {s : OpenSpec} {conds : List PathCond} {apart : Bool} {laid : List (String × DataW Unit)} (modest : Bool) (w0 : World) (args : Array Value) (hos : w0.os = os)
    (hsh : (w0.forCall (fun _ _ => 0) ⟨#[], args, []⟩).Shaped C.prog)
    (hok : Input.okWideB C.prog (w0.forCall (fun _ _ => 0) ⟨#[], args, []⟩) f ⟨#[], args, []⟩ = true)
    (hrow : s.preRow enc C.prog fn conds apart laid (w0.forCall (fun _ _ => 0) ⟨#[], args, []⟩).memory args) :
    ∃ (w : World) (tape : Tape) (i : Input), w.os = os ∧ (w.forCall tape i).Shaped C.prog ∧ i.vars = [] ∧ Input.okWide C.prog (w.forCall tape i) .any w.heap.size f i ∧
      s.preRow enc C.prog fn conds apart laid (w.forCall tape i).memory i.args ∧ ({ modest := modest } : Assume).holds C.prog (lone (Frame.enter C.prog f i.args .normal) [] (w.forCall tape i)) :=
  ⟨w0, fun _ _ => 0, ⟨#[], args, []⟩, hos, hsh, (Input.okWide_of_okWideB (base := 0) hok).1, (Input.okWide_of_okWideB hok).2, hrow, by
    simp only [Assume.holds]
    exact ⟨by simp, by simp, fun _ => Modest.zero, by simp, by simp⟩⟩

/-! What the bound gives. -/
theorem one_le {H : Type} (d : DataW H) : 1 ≤ Rows.uptoBulk d := by
  cases d with
  | lit l => cases l <;> simp [Rows.uptoBulk]
  | nil => simp [Rows.uptoBulk]
  | ptr d => simp [Rows.uptoBulk]
  | slice elems spare => simp [Rows.uptoBulk]
  | agg parts => simp [Rows.uptoBulk]
  | iface t d => simp [Rows.uptoBulk]
  | map entries => simp [Rows.uptoBulk]
  | held h => simp [Rows.uptoBulk]
theorem part_le {H : Type} {d : DataW H} {l : List (DataW H)} (h : d ∈ l) : Rows.uptoBulk d ≤ Rows.uptoBulkAll l := by
  induction l with
  | nil => cases h
  | cons x r ih =>
    simp only [Rows.uptoBulkAll]
    cases List.mem_cons.1 h with
    | inl e => subst e; omega
    | inr e => have := ih e; omega
theorem length_le {H : Type} (l : List (DataW H)) : l.length ≤ Rows.uptoBulkAll l := by
  induction l with
  | nil => simp [Rows.uptoBulkAll]
  | cons x r ih => have := one_le x; simp only [Rows.uptoBulkAll, List.length_cons]; omega
section
variable {H : Type} {enc : TypeId × Value → H}
theorem open_strsU {P : Program} {t e : TypeId} {W : World} {v : Value} {d : DataW H} {ps : List MemPlace} (ht : P.underlying t = some (.slice e)) (he : P.underlying e = some .string) (hc : P.cellsOf e = 1)
    (hv : ∃ A n c, v = .slice A n c) (h : DataW.Trod enc P W 0 (fun _ => true) true t v d ps) :
    ∃ (A : Option Addr) (n c : Nat) (xs : List ByteArray), v = .slice A n c ∧ Sl W A n (xs.map .string) ∧ n ≤ Rows.uptoBulk d ∧ ∀ x ∈ xs, x.size ≤ Rows.uptoBulk d := by
  obtain ⟨A, n, c, rfl⟩ := hv
  obtain ⟨fuel, hf⟩ := h
  rcases open_strings ht he hc hf with ⟨hcs, _⟩ | ⟨a, len, cap, ss, hcs, _, hl, hm, hz, hx, hcell, _⟩
  · simp [Value.cells] at hcs
    obtain ⟨rfl, rfl, rfl⟩ := hcs
    exact ⟨none, 0, 0, [], rfl, Sl.nil _ _, Nat.zero_le _, by simp⟩
  · simp [Value.cells] at hcs
    obtain ⟨rfl, rfl, rfl⟩ := hcs
    simp only [if_true] at hz
    injection hx with hx _
    subst hx
    have hlen := length_le (strs (H := H) (ss.take n))
    have hbulk : Rows.uptoBulkAll (strs (H := H) (ss.take n)) ≤ Rows.uptoBulk (DataW.slice (strs (H := H) (ss.take n)) (strs (ss.drop n))) := by
      simp only [Rows.uptoBulk]
      omega
    refine ⟨some a, n, c, ss.take n, rfl, ⟨by simp; omega, fun j u hu => ?_⟩, ?_, fun x hx => ?_⟩
    · rw [List.getElem?_map] at hu
      have hj : j < n := by
        rcases Nat.lt_or_ge j n with h | h
        · exact h
        · rw [List.getElem?_eq_none (by simp; omega)] at hu; simp at hu
      have h1 := hcell j (by omega)
      refine ⟨a, rfl, ?_, ?_⟩
      · have := World.block_lt_of_cell? W (a.add j) h1
        rwa [addr_block] at this
      · rw [h1, ← hu, List.getElem?_take, if_pos hj, List.getD_eq_getElem?_getD, List.getElem?_eq_getElem (by omega)]
        simp
    · unfold strs at hlen
      rw [List.length_map, List.length_take, Nat.min_eq_left (by omega)] at hlen
      unfold strs at hbulk ⊢
      omega
    · have h1 := part_le (H := H) (d := .lit (.string x.data.toList)) (l := strs (ss.take n)) (List.mem_map.2 ⟨x, hx, rfl⟩)
      have h2 : Rows.uptoBulk (DataW.lit (H := H) (.string x.data.toList)) = x.size + 1 := by simp only [Rows.uptoBulk]; rfl
      omega
end

end Go.Proofs.YtkflpenpjnnhdaaGreatDoor
