import Derived.Test.YtehcldnicefmeaaGreatDoorNXJ
namespace Go.Proofs.YtehcldnicefmeaaGreatDoor
open Go.RowKit
set_option linter.unusedSimpArgs false
set_option linter.unusedVariables false

/-- No string of a tag is long, and it has not many variants. -/
def TL (t : TagP) : Prop := t.lang.length ≤ 9223372036854775807 ∧ t.script.length ≤ 9223372036854775807 ∧ t.region.length ≤ 9223372036854775807 ∧ (∀ x ∈ t.vars, x.length ≤ 9223372036854775807) ∧ t.vars.length ≤ 60000

def VInv (T : TypeId) (w : World) (t : TagP) (A : Option Addr) (n c : Nat) (i : Value) (wr : World) : Prop :=
  ∃ k : Nat, k ≤ n ∧ i = .int .i64 k ∧ AtT T wr w.heap.size (strv t.lang) (strv t.script) (strv t.region) (.slice A n c) ∧ Sl wr A n (t.vars.map strv) ∧ Ext w wr ∧ (t.vars.take k).all variantB = true ∧ incB (t.vars.take k) = true
theorem valid_bad {t : TagP} {k : Nat} {x : List UInt8} (hx : t.vars[k]? = some x) (h : variantB x = false) : validP t = false := by
  rw [Bool.eq_false_iff]
  intro h2
  simp only [validP, Bool.and_eq_true] at h2
  have := List.all_eq_true.1 h2.1.1.2 x (List.mem_of_getElem? hx)
  rw [h] at this
  cases this
theorem valid_desc {t : TagP} {k : Nat} {x y : List UInt8} (hy : t.vars[k]? = some y) (hx : t.vars[k + 1]? = some x) (h : ¬ y < x) : validP t = false := by
  rw [Bool.eq_false_iff]
  intro h2
  simp only [validP, Bool.and_eq_true] at h2
  exact h ((incB_adj _).1 h2.1.2 k y x hy hx)
theorem vinv_next {l : List (List UInt8)} {k : Nat} {x : List UInt8} (hx : l[k]? = some x) (h1 : (l.take k).all variantB = true) (h2 : incB (l.take k) = true) (hv : variantB x = true) (hy : ∀ y j, j + 1 = k → l[j]? = some y → y < x) :
    (l.take (k + 1)).all variantB = true ∧ incB (l.take (k + 1)) = true := by
  refine ⟨?_, ?_⟩
  · rw [take_next hx, List.all_append, h1]; simp [hv]
  · rw [incB_adj] at h2 ⊢
    intro j a b ha hb
    have hjk : j + 1 < k + 1 := by
      rcases Nat.lt_or_ge (j + 1) (k + 1) with h | h
      · exact h
      · rw [List.getElem?_take_eq_none (by omega)] at hb; cases hb
    rw [List.getElem?_take_of_lt (by omega)] at ha
    rw [List.getElem?_take_of_lt (by omega)] at hb
    by_cases hj : j + 1 = k
    · rw [hj, hx] at hb
      injection hb with hb
      subst hb
      exact hy a j hj ha
    · refine h2 j a b ?_ ?_
      · rw [List.getElem?_take_of_lt (by omega)]; exact ha
      · rw [List.getElem?_take_of_lt (by omega)]; exact hb
/-- Three ways that two strings may stand. -/
theorem three (x y : ByteArray) : (Op.bytesLess x.toList y.toList = true ∧ ¬ y.data.toList < x.data.toList) ∨ (Op.bytesLess x.toList y.toList = false ∧ (x.toList == y.toList) = true ∧ ¬ y.data.toList < x.data.toList) ∨ (Op.bytesLess x.toList y.toList = false ∧ (x.toList == y.toList) = false ∧ y.data.toList < x.data.toList) := by
  rw [less_b, eq_b]
  generalize x.data.toList = a
  generalize y.data.toList = b
  by_cases h1 : a < b
  · exact .inl ⟨by simpa using h1, fun h => List.lt_irrefl a (List.lt_trans h1 h)⟩
  · by_cases h2 : a = b
    · subst h2
      exact .inr (.inl ⟨by simp, by simp, h1⟩)
    · exact .inr (.inr ⟨by simpa using h1, by simpa using h2, le_ne_lt (nlt_le h1) (Ne.symm h2)⟩)
theorem empty_b (x : ByteArray) : (x.toList == []) = (x.data.toList == []) := by rw [ByteArray.toList_eq]
theorem empty_b2 (x : ByteArray) : x.toList.isEmpty = (x.data.toList == []) := by rw [ByteArray.toList_eq]; cases x.data.toList <;> rfl

set_option maxHeartbeats 4000000 in
set_option maxRecDepth 100000 in
theorem tvalid_any (t : TagP) (A : Option Addr) (n c : Nat) (w : World) (hA : Sl w A n (t.vars.map strv)) (ht : TL t) :
    Calls Tryz.prog 122 #[tagV t A n c] w fun e w' => e = .returned (.bool (validP t)) ∧ Ext w w' := by
  have hl : t.vars.length = n := by have := hA.1; rwa [List.length_map] at this
  obtain ⟨t1, t2, t3, t4, t5⟩ := ht
  rw [hl] at t5
  have HL := Lib.hid hl
  have HA := Lib.hid hA
  have HT4 := Lib.hid t4
  generalize hv : validP t = V
  have HV := Lib.hid hv
  clear hl hA t4 hv
  unfold tagV strv
  go_enter Tryz.func122, Tryz.ntmps122
  go_wp2
  go_loopw [8] (VInv 159 w t A n c) (fun i _ => n - (intOf i).toNat)
  case atStart => exact ⟨0, Nat.zero_le _, rfl, AtT.new w, HA.out.ext ((Ext.refl w).alloc _), (Ext.refl w).alloc _, rfl, rfl⟩
  case round =>
    obtain ⟨k, hk, rfl, hat, hsl, hw, hall, hinc⟩ := hrel
    obtain ⟨⟨p0, p1, p2, p3⟩, ⟨e0, e1, e2, e3⟩⟩ := hat.cells
    unfold strv at p0 p1 p2
    have HAT := Lib.hid hat
    have HSL := Lib.hid hsl
    have HW := Lib.hid hw
    have HALL := Lib.hid hall
    have HINC := Lib.hid hinc
    clear hat hsl hw hall hinc
    by_cases hlt : k < n
    · obtain ⟨ad, x, rfl, hu, hc⟩ := HSL.out.at_map hlt
      obtain ⟨xb, hx1, rfl⟩ := strv_b x
      rw [hx1] at hc
      have hxs : xb.size ≤ 9223372036854775807 := by rw [← size_list]; exact HT4.out _ (List.mem_of_getElem? hu)
      have HU := Lib.hid hu
      clear hx1 hu
      cases hvx : variantB xb.data.toList with
      | false =>
        have HB := Lib.hid (HV.out.symm.trans (valid_bad HU.out hvx))
        have HX := Lib.hid hvx
        clear hvx
        go_wp2_with (go_at_call 178; refine (variant_any _ _ (by omega)).mono ?_; rintro e w' ⟨rfl, rfl⟩; rw [HX.out])
        go_ret
        exact ⟨ret_bool HB.out.symm, HW.out⟩
      | true =>
        have HX := Lib.hid hvx
        clear hvx
        by_cases hk0 : k = 0
        · have HN := Lib.hid (vinv_next HU.out HALL.out HINC.out HX.out (fun y j hj _ => by omega))
          have hkI : ¬ (0 : Int) < (k : Int) := by omega
          clear hk0
          go_wp2_with (go_at_call 178; refine (variant_any _ _ (by omega)).mono ?_; rintro e w' ⟨rfl, rfl⟩; rw [HX.out])
          exact ⟨⟨k + 1, by omega, by go_num, HAT.out, HSL.out, HW.out, HN.out.1, HN.out.2⟩, by simp [intOf]; omega⟩
        · obtain ⟨ad', y, had, hu2, hc2⟩ := HSL.out.at_map (k := k - 1) (by omega)
          injection had with had
          subst had
          obtain ⟨yb, hy1, rfl⟩ := strv_b y
          rw [hy1] at hc2
          have HU2 := Lib.hid hu2
          have hu' : t.vars[k - 1 + 1]? = some xb.data.toList := by rw [show k - 1 + 1 = k from by omega]; exact HU.out
          have HU' := Lib.hid hu'
          have e1 : (1 : Int) ≤ (k : Int) := by omega
          have e2 : ((k : Int) - 1).toNat = k - 1 := by omega
          have e3 : (0 : Int) < (k : Int) := by omega
          have e4 : (k : Int) - 1 < (n : Int) := by omega
          clear hy1 hu2 hu' hk0
          rcases three xb yb with ⟨h1, h3⟩ | ⟨h1, h2, h3⟩ | ⟨h1, h2, h3⟩
          · have HB := Lib.hid (HV.out.symm.trans (valid_desc HU2.out HU'.out h3))
            clear h3
            go_wp2_with (go_at_call 178; refine (variant_any _ _ (by omega)).mono ?_; rintro e w' ⟨rfl, rfl⟩; rw [HX.out])
            go_ret
            exact ⟨ret_bool HB.out.symm, HW.out⟩
          · have HB := Lib.hid (HV.out.symm.trans (valid_desc HU2.out HU'.out h3))
            clear h3
            go_wp2_with (go_at_call 178; refine (variant_any _ _ (by omega)).mono ?_; rintro e w' ⟨rfl, rfl⟩; rw [HX.out])
            go_ret
            exact ⟨ret_bool HB.out.symm, HW.out⟩
          · have HN := Lib.hid (vinv_next HU.out HALL.out HINC.out HX.out (fun y i hi hy => by
              have : i = k - 1 := by omega
              subst this
              rw [HU2.out] at hy
              injection hy with hy
              subst hy
              exact h3))
            clear h3
            go_wp2_with (go_at_call 178; refine (variant_any _ _ (by omega)).mono ?_; rintro e w' ⟨rfl, rfl⟩; rw [HX.out])
            exact ⟨⟨k + 1, by omega, by go_num, HAT.out, HSL.out, HW.out, HN.out.1, HN.out.2⟩, by simp [intOf]; omega⟩
    · have hkn : k = n := by omega
      subst hkn
      have hall := HALL.out
      have hinc := HINC.out
      rw [List.take_of_length_le (by rw [HL.out]; exact Nat.le_refl _)] at hall hinc
      have hval : V = (langB t.lang && (t.script == [] || scriptB t.script) && (t.region == [] || regionB t.region) && decide (k ≤ 4)) := by
        rw [← HV.out]
        unfold validP
        rw [hall, hinc, HL.out]
        simp
      have HVAL := Lib.hid hval
      clear hall hinc hval HALL HINC
      obtain ⟨lb, hl1, hl2⟩ := strv_b t.lang
      obtain ⟨sb, hs1, hs2⟩ := strv_b t.script
      obtain ⟨rb, hr1, hr2⟩ := strv_b t.region
      rw [← hl2] at t1
      rw [← hs2] at t2
      rw [← hr2] at t3
      rw [size_list] at t1 t2 t3
      rw [show (Value.string ⟨t.lang.toArray⟩) = .string lb from hl1] at p0
      rw [show (Value.string ⟨t.script.toArray⟩) = .string sb from hs1] at p1
      rw [show (Value.string ⟨t.region.toArray⟩) = .string rb from hr1] at p2
      have HVAL2 := HVAL.out
      rw [← hl2, ← hs2, ← hr2] at HVAL2
      have HVAL := Lib.hid HVAL2
      clear HVAL2 hl1 hl2 hs1 hs2 hr1 hr2
      go_wp2_with (first
        | (go_at_call 179; refine (lang_any _ _ (by omega)).mono ?_; rintro e w' ⟨rfl, rfl⟩; cases hA1 : langB lb.data.toList)
        | (go_at_call 180; refine (script_any _ _ (by omega)).mono ?_; rintro e w' ⟨rfl, rfl⟩; cases hA2 : scriptB sb.data.toList)
        | (go_at_call 181; refine (region_any _ _ (by omega)).mono ?_; rintro e w' ⟨rfl, rfl⟩; cases hA3 : regionB rb.data.toList))
      all_goals go_ret
      all_goals refine ⟨ret_bool ?_, HW.out⟩
      all_goals rw [HVAL.out]
      all_goals simp_all [ByteArray.toList_eq]
      all_goals omega
end Go.Proofs.YtehcldnicefmeaaGreatDoor
