import Derived.Test.YtkflpenpjnnhdaaGreatDoorTagC
namespace Go.Proofs.YtkflpenpjnnhdaaGreatDoor
open Go.RowKit Go.Sort
set_option linter.unusedSimpArgs false
set_option linter.unusedVariables false

theorem enc_strv (l : List (List UInt8)) : l.map encStr = l.map strv := rfl

/-- slices.Sort on a slice of the call's own. -/
theorem sort_any (l : List (List UInt8)) (A : Option Addr) (n c B : Nat) (w : World) (ho : w.ownsRow B 9 1 (.slice A n c) l.length (l.map strv)) (hl : l.length ≤ 1048576) (hB : B ≤ w.heap.size) :
    Calls Tryz.prog 64 #[.slice A n c] w fun e w' => e = .returned (.tuple #[]) ∧ w'.ownsRow B 9 1 (.slice A n c) l.length ((sortS l).map strv) ∧ Below B w w' := by
  rcases ho.2 with ⟨hv, hx⟩ | ⟨g, cap, cur, hv, hbase, hb, h1, h2, h3, h4⟩
  · injection hv with hv1 hv2 hv3
    subst hv1; subst hv2; subst hv3
    have hl0 : l = [] := by simpa using hx
    subst hl0
    refine (Tryz.slices_Sort_string_none none 0 w).mono ?_
    rintro e w' ⟨rfl, rfl⟩
    exact ⟨rfl, by simpa [sortS] using ho, Below.refl _ _⟩
  · injection hv with hv1 hv2 hv3
    subst hv1; subst hv2; subst hv3
    have hH : Holds encStr w g 0 l.toArray := holds_of_block hb (by rw [Nat.mul_one] at h4; exact h4)
    refine (Tryz.slices_Sort_string g 0 c l w hH (Array.getElem?_eq_some_iff.1 hb).1 (by omega)).mono ?_
    rintro e w' ⟨rfl, nn, os, rfl⟩
    refine ⟨rfl, ?_, ?_⟩
    · exact ownsRow_sorted (ss := l) (ts := sortS l) (sortS_len l) hbase hb h1 h2 h3
    · exact Below.grown (Below.refl B w) (grownBy_sorted _) hB (fun k hk => by injection hk with hk; omega)

/-- slices.Compact on a slice of the call's own. -/
theorem compact_any (l : List (List UInt8)) (A : Option Addr) (n c B : Nat) (w : World) (ho : w.ownsRow B 9 1 (.slice A n c) l.length (l.map strv)) (hl : l.length ≤ 1048576) (hB : B ≤ w.heap.size) :
    Calls Tryz.prog 65 #[.slice A n c] w fun e w' => ∃ A' c', e = .returned (.slice A' (Lib.compact l).length c') ∧ Sl w' A' (Lib.compact l).length ((Lib.compact l).map strv) ∧ (Lib.compact l).length ≤ c' ∧ Below B w w' ∧ ∀ ad, A' = some ad → B ≤ ad.block := by
  rcases ho.2 with ⟨hv, hx⟩ | ⟨g, cap, cur, hv, hbase, hb, h1, h2, h3, h4⟩
  · injection hv with hv1 hv2 hv3
    subst hv1; subst hv2; subst hv3
    have hl0 : l = [] := by simpa using hx
    subst hl0
    refine (Tryz.slices_Compact_string_empty none 0 w).mono ?_
    rintro e w' ⟨rfl, rfl⟩
    exact ⟨none, 0, rfl, Sl.nil _ _, Nat.le_refl _, Below.refl _ _, fun ad h => by cases h⟩
  · injection hv with hv1 hv2 hv3
    subst hv1; subst hv2; subst hv3
    have hH : Holds encStr w g 0 l.toArray := holds_of_block hb (by rw [Nat.mul_one] at h4; exact h4)
    refine (Tryz.slices_Compact_string g 0 c l w hH (by omega) h1).mono ?_
    rintro e w' ⟨rfl, q, rfl⟩
    have hle := compact_le l
    have hts : (Lib.compact l ++ List.replicate (l.length - (Lib.compact l).length) []).length = l.length := by simp; omega
    have ho2 := ownsRow_sorted (w := w) (n := q) (os := #[]) (ss := l) (ts := Lib.compact l ++ List.replicate (l.length - (Lib.compact l).length) []) hts hbase hb h1 h2 h3
    rw [grow_empty] at ho2
    have hg2 := grownBy_sorted (w := w) (g := g) (n := q) (os := #[]) (Lib.compact l ++ List.replicate (l.length - (Lib.compact l).length) []).toArray
    rw [grow_empty] at hg2
    obtain ⟨_, hs⟩ := own_sl' ho2
    have hs2 := hs.take (Lib.compact l).length hle
    rw [← List.map_take, List.take_left] at hs2
    refine ⟨_, c, rfl, hs2, Nat.le_trans hle h1, Below.grown (Below.refl B w) hg2 hB (fun k hk => by injection hk with hk; omega), fun ad h => by injection h with h; subst h; exact hbase⟩
end Go.Proofs.YtkflpenpjnnhdaaGreatDoor
