import Derived.Test.YtcfgphhhgemkdaaDoorEq
namespace Go.Proofs.YtcfgphhhgemkdaaDoor
open Go.RowKit
set_option linter.unusedSimpArgs false
set_option linter.unusedVariables false

/-- slices.Equal on strings. -/
theorem sleq_any (xs ys : List (List UInt8)) (A B : Option Addr) (n m ca cb : Nat) (w : World) (hA : Sl w A n (xs.map strv)) (hB : Sl w B m (ys.map strv)) (hn : n ≤ 1048576) (hm : m ≤ 1048576) :
    Calls Tryd.prog 58 #[.slice A n ca, .slice B m cb] w fun e w' => e = .returned (.bool (xs == ys)) ∧ Ext w w' := by
  have hx : xs.length = n := by have := hA.1; rwa [List.length_map] at this
  have hy : ys.length = m := by have := hB.1; rwa [List.length_map] at this
  by_cases hnm : n = m
  · by_cases h0 : n = 0
    · subst h0
      have hm0 : m = 0 := hnm.symm
      subst hm0
      have hx0 : xs = [] := List.eq_nil_of_length_eq_zero hx
      have hy0 : ys = [] := List.eq_nil_of_length_eq_zero hy
      subst hx0; subst hy0
      refine (Tryd.slices_Equal_string_empty A B ca 0 cb w (by omega)).mono ?_
      rintro e w' ⟨rfl, rfl⟩
      exact ⟨rfl, Ext.refl _⟩
    · cases A with
      | none => exact absurd (none_nil hA) h0
      | some a =>
        cases B with
        | none => exact absurd (none_nil hB) (by omega)
        | some b =>
          obtain ⟨b1, o1, rfl, _⟩ := addr_flat hA (by omega)
          obtain ⟨b2, o2, rfl, _⟩ := addr_flat hB (by omega)
          have cells : ∀ (zs : List (List UInt8)) (b o k : Nat), Sl w (some ⟨b, o, none⟩) k (zs.map strv) → ∀ j, j < (zs.map fun x => (⟨x.toArray⟩ : ByteArray)).length → w.cell? ⟨b, o + j, none⟩ = some (.string ((zs.map fun x => (⟨x.toArray⟩ : ByteArray)).getD j ByteArray.empty)) := by
            intro zs b o k hs j hj
            rw [List.length_map] at hj
            obtain ⟨ad, ha, _, hcell⟩ := hs.2 j (strv zs[j]) (by rw [List.getElem?_map, List.getElem?_eq_getElem hj]; rfl)
            injection ha with ha
            subst ha
            rw [add_flat] at hcell
            rw [hcell]
            simp [List.getD_eq_getElem?_getD, hj, strv]
          have h := Tryd.slices_Equal_string b1 o1 n ca b2 o2 m cb (xs.map fun x => ⟨x.toArray⟩) (ys.map fun x => ⟨x.toArray⟩) w (by rw [List.length_map]; omega) (by rw [List.length_map]; omega) (by omega) (by omega) (cells xs b1 o1 n hA) (cells ys b2 o2 m hB)
          refine h.mono ?_
          rintro e w' ⟨rfl, q, rfl⟩
          refine ⟨ret_bool ?_, (Ext.refl w).drewN q⟩
          rw [List.take_of_length_le (by rw [List.length_map]; omega), List.take_of_length_le (by rw [List.length_map]; omega), Bool.eq_iff_iff]
          simp only [decide_eq_true_eq, beq_iff_eq]
          constructor
          · intro h
            have h2 := congrArg (List.map fun b : ByteArray => b.data.toList) h
            simpa [List.map_map, Function.comp_def] using h2
          · rintro rfl; rfl
  · refine (Tryd.slices_Equal_string_lens A B n ca m cb w hnm).mono ?_
    rintro e w' ⟨rfl, rfl⟩
    refine ⟨ret_bool ?_, Ext.refl _⟩
    symm
    rw [beq_eq_false_iff_ne]
    intro h
    subst h
    omega

end Go.Proofs.YtcfgphhhgemkdaaDoor
