import Derived.Test.YtgjfjibaoehmpaaProg
import Derived.Test.YtgjfjibaoehmpaaBase
import Derived.Test.YtgjfjibaoehmpaaPlain
namespace Go.Proofs.Ytgjfjibaoehmpaa
open Go.RowKit

def FewInv (w : World) (N : Int) (ls : List (Option Addr × Nat × Nat)) (m : Nat) (i : Value) (wr : World) : Prop :=
  ∃ k : Nat, k ≤ m ∧ i = .int .i64 k ∧ wr = w ∧ (ls.take k).all (fun x => decide ((x.2.1 : Int) ≤ N)) = true

theorem few_any (N : Int) (ls : List (Option Addr × Nat × Nat)) (A : Option Addr) (m c : Nat) (w : World)
    (hA : Sl w A m (ls.map fun x => .slice x.1 x.2.1 x.2.2)) (hm : m ≤ maxLen) :
    Calls Try.prog 15 #[.int .i64 N, .slice A m c] w fun e w' => e = .returned (.bool (ls.all fun x => decide ((x.2.1 : Int) ≤ N))) ∧ Ext w w' := by
  unfold maxLen at hm
  have hla : ls.length = m := by have := hA.1; simpa using this
  have H1 := Lib.hid hA
  have L1 := Lib.hid hla
  clear hA hla
  go_enter Try.func15, Try.ntmps15
  go_wp2
  go_loopw [5] (FewInv w N ls m) (fun i _ => m - (intOf i).toNat)
  case atStart => exact ⟨0, Nat.zero_le _, rfl, rfl, rfl⟩
  case round =>
    obtain ⟨k, hk, rfl, rfl, ht⟩ := hrel
    have HT := Lib.hid ht
    clear ht
    by_cases hlt : k < m
    · obtain ⟨ad, ⟨x, n, cc⟩, rfl, hu, hc⟩ := H1.out.at_map hlt
      have HU := Lib.hid hu
      clear hu
      simp only at hc
      by_cases hn : N < (n : Int)
      · go_wp2
        go_ret
        refine ⟨ret_bool ?_, Ext.refl _⟩
        have : (x, n, cc) ∈ ls := List.mem_of_getElem? HU.out
        rw [Bool.eq_iff_iff]
        simp only [Bool.false_eq_true, false_iff, List.all_eq_true, decide_eq_true_eq]
        intro h
        have := h _ this
        simp at this
        omega
      · go_wp2
        refine ⟨⟨k + 1, by omega, by go_num, rfl, ?_⟩, by simp [intOf]; omega⟩
        rw [List.take_add_one, HU.out, List.all_append, HT.out]
        simp
        omega
    · go_wp2
      go_ret
      refine ⟨ret_bool ?_, Ext.refl _⟩
      rw [← HT.out, List.take_of_length_le (by have := L1.out; omega)]

end Go.Proofs.Ytgjfjibaoehmpaa
