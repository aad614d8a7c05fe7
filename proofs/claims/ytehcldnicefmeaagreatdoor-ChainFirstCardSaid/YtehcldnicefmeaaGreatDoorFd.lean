import Derived.Test.YtehcldnicefmeaaGreatDoorCq
import Derived.Test.YtehcldnicefmeaaGreatDoorCu
import Derived.Test.YtehcldnicefmeaaGreatDoorFb
namespace Go.Proofs.YtehcldnicefmeaaGreatDoor
open Go.RowKit
set_option linter.unusedSimpArgs false
set_option linter.unusedVariables false

theorem fewC_len {l : List Lc} {al : List Ali} {nl : List Nr} (h : fewC l al nl = true) :
    l.length ≤ 12 ∧ (∀ x ∈ l, x.t.size + x.p.size ≤ 120 ∧ x.n 0 + x.n 1 + x.n 2 + x.n 3 + x.n 4 + x.n 5 + x.n 6 ≤ 120) ∧ (al.length ≤ 12 ∧ nl.length ≤ 30) ∧ (∀ a ∈ al, a.1.size ≤ 60000 ∧ a.2.size ≤ 60000) ∧ (∀ a ∈ nl, a.f.size ≤ 60 ∧ a.o.size ≤ 60) := by
  unfold fewC at h
  simp only [Bool.and_eq_true, decide_eq_true_eq] at h
  obtain ⟨h1, h2, h3, h4⟩ := h
  obtain ⟨a1, a2⟩ := fewL_len h3
  obtain ⟨b1, b2⟩ := fewN_len h4
  refine ⟨h2, fun x hx => ?_, ⟨a1, b1⟩, a2, b2⟩
  have := List.all_eq_true.1 h1 x hx
  unfold fewLc at this
  simpa only [Bool.and_eq_true, decide_eq_true_eq] using this
theorem tags_max {w : World} {A : Option Addr} {n : Nat} {r : List BytesC} (h : Sl w A n (r.map strv)) (hr : r.length ≤ 100000) : n ≤ maxLen := by
  have h1 := h.1
  rw [List.length_map] at h1
  unfold maxLen
  omega
end Go.Proofs.YtehcldnicefmeaaGreatDoor
