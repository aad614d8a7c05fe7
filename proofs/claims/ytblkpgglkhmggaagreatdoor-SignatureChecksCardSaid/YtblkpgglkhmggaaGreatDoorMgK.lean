import Derived.Test.YtblkpgglkhmggaaGreatDoorSn
import Derived.Test.YtblkpgglkhmggaaGreatDoorSi
namespace Go.Proofs.YtblkpgglkhmggaaGreatDoor
open Go.RowKit
set_option linter.unusedSimpArgs false
set_option linter.unusedVariables false

/-! Merges, for the laws. -/
theorem merge_len (a b : List ArgP) : (mergeA a b).1.length ≤ 20 := by
  unfold mergeA
  split
  · split
    · simp
    · rename_i o _
      split
      · assumption
      · simp
  · simp
theorem valid_map {l : List Ag} (h : validA (l.map agOf) = true) : l.length ≤ 20 := by
  have := (sig_ok h).2.2
  rwa [List.length_map] at this
theorem known_wf {t : Int} (h : knownB t = true) : (Lit.int .i64 t).wf = true := by
  unfold knownB at h
  simp only [Bool.and_eq_true, decide_eq_true_eq] at h
  simp only [Lit.wf, IntKind.min, IntKind.max, IntKind.signed, IntKind.bits, Bool.and_eq_true, decide_eq_true_eq, if_true]
  omega
theorem merge_fit {a b : List ArgP} (h : (mergeA a b).2 = 0) : ∀ x ∈ (mergeA a b).1.map agP, x.n.size ≤ maxLen ∧ (Lit.int .i64 x.t).wf = true := by
  have hv := (merge_ok h).2.2.2.2.2
  intro x hx
  obtain ⟨y, hy, rfl⟩ := List.mem_map.1 hx
  have h2 := (sig_ok hv).1 y hy
  refine ⟨?_, known_wf h2.2⟩
  have h3 := name_len h2.1
  show y.1.toArray.size ≤ maxLen
  rw [List.size_toArray]
  unfold maxLen
  omega
theorem ags_len {w : World} {A : Option Addr} {n : Nat} {l : List ArgP} (h : Ags w A n (l.map agP)) : n = l.length := by
  have := h.len
  rw [List.length_map] at this
  exact this.symm
theorem ags_max {w : World} {A : Option Addr} {n : Nat} {a b : List ArgP} (h : Ags w A n ((mergeA a b).1.map agP)) : n ≤ maxLen := by
  have h1 := ags_len h
  have h2 := merge_len a b
  unfold maxLen
  omega
theorem ags_max2 {w : World} {A : Option Addr} {n : Nat} {l : List Ag} (hl : l.length ≤ 20) (h : Ags w A n ((l.map agOf).map agP)) : n ≤ maxLen := by
  have h1 := ags_len h
  rw [List.length_map] at h1
  unfold maxLen
  omega
end Go.Proofs.YtblkpgglkhmggaaGreatDoor
