import Derived.Test.YtfcnhodokbnjnaaDoorPar
namespace Go.Proofs.YtfcnhodokbnjnaaDoor
open Go.RowKit
set_option linter.unusedSimpArgs false
set_option linter.unusedVariables false

def eqP (t u : TagP) : Bool := t.lang == u.lang && t.script == u.script && t.region == u.region && t.vars == u.vars
theorem eqP_iff (t u : TagP) : eqP t u = true ↔ t = u := by
  obtain ⟨a, b, c, d⟩ := t
  obtain ⟨a', b', c', d'⟩ := u
  simp [eqP, and_assoc]
theorem eqP_self (t : TagP) : eqP t t = true := (eqP_iff t t).2 rfl

/-- slices.Equal on strings. -/
theorem sleq_any (xs ys : List (List UInt8)) (A B : Option Addr) (n m ca cb : Nat) (w : World) (hA : Sl w A n (xs.map strv)) (hB : Sl w B m (ys.map strv)) (hn : n ≤ 1048576) (hm : m ≤ 1048576) :
    Calls Tryd.prog 51 #[.slice A n ca, .slice B m cb] w fun e w' => e = .returned (.bool (xs == ys)) ∧ Ext w w' := by
  have hx : xs.length = n := by have := hA.1; rwa [List.length_map] at this
  have hy : ys.length = m := by have := hB.1; rwa [List.length_map] at this
  by_cases hnm : n = m
  · by_cases h0 : n = 0
    · subst h0
      have hm0 : m = 0 := hnm.symm
      subst hm0
      have hx0 : xs = [] := List.eq_nil_of_length_eq_zero hx
      have hy0 : ys = [] := List.eq_nil_of_length_eq_zero hy
      subst hx0; subst hy0
      refine (Tryd.slices_Equal_string_empty A B ca 0 cb w (by omega)).mono ?_
      rintro e w' ⟨rfl, rfl⟩
      exact ⟨rfl, Ext.refl _⟩
    · cases A with
      | none => exact absurd (none_nil hA) h0
      | some a =>
        cases B with
        | none => exact absurd (none_nil hB) (by omega)
        | some b =>
          obtain ⟨b1, o1, rfl, _⟩ := addr_flat hA (by omega)
          obtain ⟨b2, o2, rfl, _⟩ := addr_flat hB (by omega)
          have cells : ∀ (zs : List (List UInt8)) (b o k : Nat), Sl w (some ⟨b, o, none⟩) k (zs.map strv) → ∀ j, j < (zs.map fun x => (⟨x.toArray⟩ : ByteArray)).length → w.cell? ⟨b, o + j, none⟩ = some (.string ((zs.map fun x => (⟨x.toArray⟩ : ByteArray)).getD j ByteArray.empty)) := by
            intro zs b o k hs j hj
            rw [List.length_map] at hj
            obtain ⟨ad, ha, _, hcell⟩ := hs.2 j (strv zs[j]) (by rw [List.getElem?_map, List.getElem?_eq_getElem hj]; rfl)
            injection ha with ha
            subst ha
            rw [add_flat] at hcell
            rw [hcell]
            simp [List.getD_eq_getElem?_getD, hj, strv]
          have h := Tryd.slices_Equal_string b1 o1 n ca b2 o2 m cb (xs.map fun x => ⟨x.toArray⟩) (ys.map fun x => ⟨x.toArray⟩) w (by rw [List.length_map]; omega) (by rw [List.length_map]; omega) (by omega) (by omega) (cells xs b1 o1 n hA) (cells ys b2 o2 m hB)
          refine h.mono ?_
          rintro e w' ⟨rfl, q, rfl⟩
          refine ⟨ret_bool ?_, (Ext.refl w).drewN q⟩
          rw [List.take_of_length_le (by rw [List.length_map]; omega), List.take_of_length_le (by rw [List.length_map]; omega), Bool.eq_iff_iff]
          simp only [decide_eq_true_eq, beq_iff_eq]
          constructor
          · intro h
            have h2 := congrArg (List.map fun b : ByteArray => b.data.toList) h
            simpa [List.map_map, Function.comp_def] using h2
          · rintro rfl; rfl
  · refine (Tryd.slices_Equal_string_lens A B n ca m cb w hnm).mono ?_
    rintro e w' ⟨rfl, rfl⟩
    refine ⟨ret_bool ?_, Ext.refl _⟩
    symm
    rw [beq_eq_false_iff_ne]
    intro h
    subst h
    omega

set_option maxHeartbeats 1000000 in
set_option maxRecDepth 100000 in
theorem requal_any (t u : TagP) (A B : Option Addr) (n c m d : Nat) (w : World) (hA : Sl w A n (t.vars.map strv)) (hB : Sl w B m (u.vars.map strv)) (hn : n ≤ 60000) (hm : m ≤ 60000) :
    Calls Tryd.prog 15 #[tagV t A n c, tagV u B m d] w fun e w' => e = .returned (.bool (eqP t u)) ∧ Ext w w' := by
  obtain ⟨lb, hl1, hl2⟩ := strv_b t.lang
  obtain ⟨sb, hs1, hs2⟩ := strv_b t.script
  obtain ⟨rb, hr1, hr2⟩ := strv_b t.region
  obtain ⟨lc, hl3, hl4⟩ := strv_b u.lang
  obtain ⟨sc, hs3, hs4⟩ := strv_b u.script
  obtain ⟨rc, hr3, hr4⟩ := strv_b u.region
  have he : eqP t u = ((lb.toList == lc.toList) && (sb.toList == sc.toList) && (rb.toList == rc.toList) && (t.vars == u.vars)) := by
    unfold eqP
    rw [eq_b, eq_b, eq_b, hl2, hs2, hr2, hl4, hs4, hr4]
  unfold tagV
  rw [hl1, hs1, hr1, hl3, hs3, hr3, he]
  have HA := Lib.hid (hA.ext (((Ext.refl w).alloc (.cells #[.string lb, .string sb, .string rb, .slice A n c] 29)).alloc (.cells #[.string lc, .string sc, .string rc, .slice B m d] 29)))
  have HB := Lib.hid (hB.ext (((Ext.refl w).alloc (.cells #[.string lb, .string sb, .string rb, .slice A n c] 29)).alloc (.cells #[.string lc, .string sc, .string rc, .slice B m d] 29)))
  clear hl1 hs1 hr1 hl2 hs2 hr2 hl3 hs3 hr3 hl4 hs4 hr4 he hA hB
  have hcall := samestr_any _ _ _ _ _ _ c d _ HA.out HB.out (by unfold maxLen; omega) (by unfold maxLen; omega)
  generalize (t.vars == u.vars) = bv at hcall ⊢
  have HC := Lib.hid hcall
  clear hcall
  cases h1 : (lb.toList == lc.toList) <;> cases h2 : (sb.toList == sc.toList) <;> cases h3 : (rb.toList == rc.toList)
  all_goals
    go_enter Tryd.func15, Tryd.ntmps15
    go_wp2_with (go_at_call 22; with_reducible refine HC.out.mono ?_; rintro e w1 ⟨rfl, hw1⟩; have HW1 := Lib.hid hw1; clear hw1)
    go_ret
    first
      | exact ⟨rfl, ((Ext.refl w).alloc _).alloc _⟩
      | exact ⟨by simp, (((Ext.refl w).alloc _).alloc _).trans HW1.out⟩
set_option maxHeartbeats 1000000 in
set_option maxRecDepth 100000 in
theorem tequal_any (t u : TagP) (A B : Option Addr) (n c m d : Nat) (w : World) (hA : Sl w A n (t.vars.map strv)) (hB : Sl w B m (u.vars.map strv)) (hn : n ≤ 60000) (hm : m ≤ 60000) :
    Calls Tryd.prog 28 #[tagV t A n c, tagV u B m d] w fun e w' => e = .returned (.bool (eqP t u)) ∧ Ext w w' := by
  obtain ⟨lb, hl1, hl2⟩ := strv_b t.lang
  obtain ⟨sb, hs1, hs2⟩ := strv_b t.script
  obtain ⟨rb, hr1, hr2⟩ := strv_b t.region
  obtain ⟨lc, hl3, hl4⟩ := strv_b u.lang
  obtain ⟨sc, hs3, hs4⟩ := strv_b u.script
  obtain ⟨rc, hr3, hr4⟩ := strv_b u.region
  have he : eqP t u = ((lb.toList == lc.toList) && (sb.toList == sc.toList) && (rb.toList == rc.toList) && (t.vars == u.vars)) := by
    unfold eqP
    rw [eq_b, eq_b, eq_b, hl2, hs2, hr2, hl4, hs4, hr4]
  unfold tagV
  rw [hl1, hs1, hr1, hl3, hs3, hr3, he]
  have HA := Lib.hid (hA.ext (((Ext.refl w).alloc (.cells #[.string lb, .string sb, .string rb, .slice A n c] 25)).alloc (.cells #[.string lc, .string sc, .string rc, .slice B m d] 25)))
  have HB := Lib.hid (hB.ext (((Ext.refl w).alloc (.cells #[.string lb, .string sb, .string rb, .slice A n c] 25)).alloc (.cells #[.string lc, .string sc, .string rc, .slice B m d] 25)))
  clear hl1 hs1 hr1 hl2 hs2 hr2 hl3 hs3 hr3 hl4 hs4 hr4 he hA hB
  have hcall := sleq_any _ _ _ _ _ _ c d _ HA.out HB.out (by omega) (by omega)
  generalize (t.vars == u.vars) = bv at hcall ⊢
  have HC := Lib.hid hcall
  clear hcall
  cases h1 : (lb.toList == lc.toList) <;> cases h2 : (sb.toList == sc.toList) <;> cases h3 : (rb.toList == rc.toList)
  all_goals
    go_enter Tryd.func28, Tryd.ntmps28
    go_wp2_with (go_at_call 51; with_reducible refine HC.out.mono ?_; rintro e w1 ⟨rfl, hw1⟩; have HW1 := Lib.hid hw1; clear hw1)
    go_ret
    first
      | exact ⟨rfl, ((Ext.refl w).alloc _).alloc _⟩
      | exact ⟨by simp, (((Ext.refl w).alloc _).alloc _).trans HW1.out⟩

/-- Whether a text is a canonical one. -/
def isP (s : List UInt8) : Bool := (canP s).2 == 0 && (canP s).1 == s
set_option maxRecDepth 100000 in
theorem ris_any (s : ByteArray) (w : World) (hs : s.size ≤ 2000000) :
    Calls Tryd.prog 17 #[.string s] w fun e w' => e = .returned (.bool (isP s.data.toList)) ∧ Ext w w' := by
  have hc := rcan_any s w hs
  generalize hI : isP s.data.toList = I
  unfold isP at hI
  generalize canP s.data.toList = C at hc hI
  obtain ⟨x, code⟩ := C
  obtain ⟨xb, hx1, rfl⟩ := strv_b x
  simp only at hc hI
  rw [hx1] at hc
  have HI := Lib.hid hI
  have HC := Lib.hid hc
  clear hx1 hI hc
  by_cases h0 : code = 0
  · have hb : (code == 0) = true := by simpa using h0
    have HI2 := Lib.hid (show I = (xb.toList == s.toList) from by rw [← HI.out, hb, eq_b]; rfl)
    go_enter Tryd.func17, Tryd.ntmps17
    go_wp2_with (go_at_call 14; refine (HC.out).mono ?_; rintro e w1 ⟨rfl, hw1⟩; have HW1 := Lib.hid hw1; clear hw1)
    all_goals go_ret
    all_goals exact ⟨ret_bool (by rw [HI2.out]; try simp_all), HW1.out⟩
  · have hb : (code == 0) = false := by simpa using h0
    have HI2 := Lib.hid (show I = false from by rw [← HI.out, hb]; rfl)
    go_enter Tryd.func17, Tryd.ntmps17
    go_wp2_with (go_at_call 14; refine (HC.out).mono ?_; rintro e w1 ⟨rfl, hw1⟩; have HW1 := Lib.hid hw1; clear hw1)
    go_ret
    exact ⟨ret_bool HI2.out.symm, HW1.out⟩
end Go.Proofs.YtfcnhodokbnjnaaDoor
