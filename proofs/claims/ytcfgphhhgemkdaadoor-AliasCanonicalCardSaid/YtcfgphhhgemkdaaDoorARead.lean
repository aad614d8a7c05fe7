import Derived.Test.YtcfgphhhgemkdaaDoorARep
import Derived.Test.YtcfgphhhgemkdaaDoorAlLaw
import Derived.Test.YtcfgphhhgemkdaaDoorExtW
namespace Go.Proofs.YtcfgphhhgemkdaaDoor
open Go.RowKit
set_option linter.unusedSimpArgs false
set_option linter.unusedVariables false

def RetRule (w : World) (a : Ali) (e : Ending) (w' : World) : Prop := ∃ x : RV, e = .returned (.tuple #[.agg (rvC x).toArray, .bool (aliB a)]) ∧ x.r = ruleOf a ∧ RvOk w' x ∧ Ext w w' ∧ (∀ ad, x.A = some ad → w.heap.size ≤ ad.block) ∧ (∀ ad, x.B = some ad → w.heap.size ≤ ad.block)
/-- What the test of an alias comes to. -/
theorem ali_split (fb ob : ByteArray) (t1 t2 : TagP) (e1 e2 : Int) (h1 : parseP EC fb.data.toList = (t1, e1)) (h2 : parseP EC ob.data.toList = (t2, e2)) (x1 x2 : ByteArray) (hx1 : x1.data.toList = txtOf t1) (hx2 : x2.data.toList = txtOf t2) :
    aliB (fb, ob) = ((e1 == 0) && ((e2 == 0) && ((x1.toList == fb.toList) && ((x2.toList == ob.toList) && !(fb.toList == [117, 110, 100]))))) := by
  have g : ∀ (s x : ByteArray) (t : TagP) (e : Int), parseP EC s.data.toList = (t, e) → x.data.toList = txtOf t → isP s.data.toList = ((e == 0) && (x.toList == s.toList)) := by
    intro s x t e h hx
    unfold isP canP
    rw [h, eq_b, hx]
    simp only
    by_cases h0 : e = 0
    · subst h0
      have hv : validP t = true := by have := parse_ok (s := s.data.toList) (by rw [h]); rwa [h] at this
      unfold txtOf
      rw [if_pos rfl, if_pos hv]
    · have : (e == 0) = false := by simpa using h0
      rw [this]
      rfl
  unfold aliB
  simp only
  rw [g fb x1 t1 e1 h1 hx1, g ob x2 t2 e2 h2 hx2, ← ByteArray.toList_eq fb]
  show _ = _
  cases (e1 == 0) <;> cases (e2 == 0) <;> cases (x1.toList == fb.toList) <;> cases (x2.toList == ob.toList) <;> rfl

theorem kept_set (w : World) (g j : Nat) (u : Value) : Kept (some g) w (w.setCell ⟨g, j, none⟩ u) :=
  ⟨by simp [World.setCell], fun b hb hne => heap_setCell_other w _ b u (by intro h; apply hne; show some b = some g; rw [h])⟩
def set8 (w : World) (g : Nat) (u0 u1 u2 u3 u4 u5 u6 u7 : Value) : World := ((((((((w.setCell ⟨g, 0, none⟩ u0).setCell ⟨g, 1, none⟩ u1).setCell ⟨g, 2, none⟩ u2).setCell ⟨g, 3, none⟩ u3).setCell ⟨g, 4, none⟩ u4).setCell ⟨g, 5, none⟩ u5).setCell ⟨g, 6, none⟩ u6).setCell ⟨g, 7, none⟩ u7)
theorem kept_set8 (w : World) (g : Nat) (u0 u1 u2 u3 u4 u5 u6 u7 : Value) : Kept (some g) w (set8 w g u0 u1 u2 u3 u4 u5 u6 u7) := (((((((kept_set _ _ _ _).trans (kept_set _ _ _ _) (.inl rfl)).trans (kept_set _ _ _ _) (.inl rfl)).trans (kept_set _ _ _ _) (.inl rfl)).trans (kept_set _ _ _ _) (.inl rfl)).trans (kept_set _ _ _ _) (.inl rfl)).trans (kept_set _ _ _ _) (.inl rfl)).trans (kept_set _ _ _ _) (.inl rfl)
theorem ext_set8 {a w : World} (h : Ext a w) (g : Nat) (hg : a.heap.size ≤ g) (u0 u1 u2 u3 u4 u5 u6 u7 : Value) : Ext a (set8 w g u0 u1 u2 u3 u4 u5 u6 u7) := ((((((((h.setCell hg _).setCell hg _).setCell hg _).setCell hg _).setCell hg _).setCell hg _).setCell hg _).setCell hg _)
/-- Strings that are not empty lie in no block of zero values. -/
theorem Sl.zeroed {T : TypeId} {w w' : World} {g : Nat} {cs : Array Value} {A : Option Addr} {n : Nat} {l : List (List UInt8)} (h : Sl w A n (l.map strv)) (hne : ∀ x ∈ l, x ≠ []) (hz : AtC T w g cs)
    (hcs : ∀ u ∈ cs.toList, u = .string ⟨#[]⟩ ∨ u = .slice none 0 0) (hk : Kept (some g) w w') : Sl w' A n (l.map strv) :=
  ⟨h.1, fun j u hu => by
    obtain ⟨ad, ha, hb, hc⟩ := h.2 j u hu
    obtain ⟨x, hx, rfl⟩ := List.mem_map.1 (List.mem_of_getElem? hu)
    have hg : ad.block ≠ g := by
      intro hg
      have h2 := hc
      unfold World.cell? at h2
      rw [show (ad.add j).block = g from by rw [addr_block]; exact hg, show w.heap[g]? = some (.cells cs T (0, 0)) from hz] at h2
      have h3 : ∃ i : Nat, cs[i]? = some (strv x) := by
        revert h2
        simp only
        split <;> intro h2 <;> first | exact ⟨_, h2⟩ | cases h2
      obtain ⟨i, h3⟩ := h3
      have h4 : strv x ∈ cs.toList := by
        rw [← Array.getElem?_toList] at h3
        exact List.mem_of_getElem? h3
      rcases hcs _ h4 with h5 | h5
      · unfold strv at h5
        injection h5 with h5
        have h6 := congrArg (fun b : ByteArray => b.data.toList) h5
        simp at h6
        exact hne x hx h6
      · cases h5
    refine ⟨ad, ha, Nat.lt_of_lt_of_le hb hk.1, ?_⟩
    rw [← hc]
    exact World.cell?_of_block (by rw [addr_block]; exact hk.2 ad.block hb (by intro h; injection h with h; exact hg h))⟩
theorem parse_vars_ne (s : List UInt8) : ∀ x ∈ (parseP EC s).1.vars, x ≠ [] := by
  by_cases h0 : (parseP EC s).2 = 0
  · intro x hx
    exact variant_ne ((valid_parts (parse_ok h0)).2.2.2.1 x hx)
  · rw [parse_zero EC s h0]
    intro x hx
    cases hx

def BX (b : Bool) (W : World) (v : Value) (wx : World) : Prop := v = .bool b ∧ Ext W wx

set_option maxHeartbeats 2000000 in
set_option maxRecDepth 100000 in
theorem read_any (fb ob : ByteArray) (w : World) (hm : Mx w) (h1 : fb.size ≤ 60000) (h2 : ob.size ≤ 60000) :
    Calls Tryd.prog 18 #[.agg #[.string fb, .string ob]] w (RetRule w (fb, ob)) := by
  have hp1 := fun W hW => tparse_fresh fb W hW h1
  have hp2 := fun W hW => tparse_fresh ob W hW h2
  have htl1 := TL_parse fb.data.toList
  have hv1 := parse_vars_ne fb.data.toList
  have hv2 := parse_vars_ne ob.data.toList
  have htl2 := TL_parse ob.data.toList
  have hsp := ali_split fb ob
  have hru : ruleOf (fb, ob) = ⟨(parseP EC fb.data.toList).1, (parseP EC ob.data.toList).1⟩ := rfl
  generalize parseP EC fb.data.toList = R1 at hp1 htl1 hsp hru hv1
  generalize parseP EC ob.data.toList = R2 at hp2 htl2 hsp hru hv2
  obtain ⟨t1, e1⟩ := R1
  obtain ⟨t2, e2⟩ := R2
  simp only at hp1 hp2 htl1 htl2 hru hv1 hv2
  have HV1 := Lib.hid hv1
  have HV2 := Lib.hid hv2
  clear hv1 hv2
  obtain ⟨x1, hx1, hx1'⟩ := strv_b (txtOf t1)
  obtain ⟨x2, hx2, hx2'⟩ := strv_b (txtOf t2)
  have hal := hsp t1 t2 e1 e2 rfl rfl x1 x2 hx1' hx2'
  have ht1 := fun A n c W h => tText_any t1 A n c W h htl1
  have ht2 := fun A n c W h => tText_any t2 A n c W h htl2
  rw [hx1] at ht1
  rw [hx2] at ht2
  obtain ⟨l1, hl1, _⟩ := strv_b t1.lang
  obtain ⟨s1, hs1, _⟩ := strv_b t1.script
  obtain ⟨r1, hr1, _⟩ := strv_b t1.region
  obtain ⟨l2, hl2, _⟩ := strv_b t2.lang
  obtain ⟨s2, hs2, _⟩ := strv_b t2.script
  obtain ⟨r2, hr2, _⟩ := strv_b t2.region
  have fin : ∀ (A1 A2 : Option Addr) (n1 c1 n2 c2 : Nat) (w' : World), Sl w' A1 n1 (t1.vars.map strv) → Sl w' A2 n2 (t2.vars.map strv) → Ext w w' → (∀ ad, A1 = some ad → w.heap.size ≤ ad.block) → (∀ ad, A2 = some ad → w.heap.size ≤ ad.block) →
      RetRule w (fb, ob) (.returned (.tuple #[.agg #[.string l1, .string s1, .string r1, .slice A1 n1 c1, .string l2, .string s2, .string r2, .slice A2 n2 c2], .bool (aliB (fb, ob))])) w' := by
    intro A1 A2 n1 c1 n2 c2 w' h1 h2 h3 g1 g2
    refine ⟨⟨⟨t1, t2⟩, A1, n1, c1, A2, n2, c2⟩, ?_, hru.symm, ⟨h1, h2⟩, h3, g1, g2⟩
    unfold rvC
    simp only
    rw [hl1, hs1, hr1, hl2, hs2, hr2]
  unfold tagV at hp1 hp2 ht1 ht2
  rw [hl1, hs1, hr1] at hp1 ht1
  rw [hl2, hs2, hr2] at hp2 ht2
  have HP1 := Lib.hid hp1
  have HP2 := Lib.hid hp2
  have HT1 := Lib.hid ht1
  have HT2 := Lib.hid ht2
  have HAL := Lib.hid hal
  have FIN := Lib.hid fin
  clear hp1 hp2 ht1 ht2 hal fin hru hsp hl1 hs1 hr1 hl2 hs2 hr2 hx1 hx2 hx1' hx2' htl1 htl2
  go_enter Tryd.func18, Tryd.ntmps18
  go_wp2_with fail
  have k1 : AtC 34 ((w.alloc (.cells #[.string fb, .string ob] 34)).alloc (.cells #[.string ⟨#[]⟩, .string ⟨#[]⟩, .string ⟨#[]⟩, .slice none 0 0, .string ⟨#[]⟩, .string ⟨#[]⟩, .string ⟨#[]⟩, .slice none 0 0] 47)) w.heap.size #[.string fb, .string ob] := (AtC.new w _).alloc _
  have k2 : AtC 47 ((w.alloc (.cells #[.string fb, .string ob] 34)).alloc (.cells #[.string ⟨#[]⟩, .string ⟨#[]⟩, .string ⟨#[]⟩, .slice none 0 0, .string ⟨#[]⟩, .string ⟨#[]⟩, .string ⟨#[]⟩, .slice none 0 0] 47)) (w.heap.size + 1) #[.string ⟨#[]⟩, .string ⟨#[]⟩, .string ⟨#[]⟩, .slice none 0 0, .string ⟨#[]⟩, .string ⟨#[]⟩, .string ⟨#[]⟩, .slice none 0 0] := by
    have h := (AtC.new (w.alloc (.cells #[.string fb, .string ob] 34)) #[.string ⟨#[]⟩, .string ⟨#[]⟩, .string ⟨#[]⟩, .slice none 0 0, .string ⟨#[]⟩, .string ⟨#[]⟩, .string ⟨#[]⟩, .slice none 0 0] : AtC 47 _ _ _)
    rwa [show (w.alloc (.cells #[.string fb, .string ob] 34)).heap.size = w.heap.size + 1 from by simp] at h
  have k3 : Ext w ((w.alloc (.cells #[.string fb, .string ob] 34)).alloc (.cells #[.string ⟨#[]⟩, .string ⟨#[]⟩, .string ⟨#[]⟩, .slice none 0 0, .string ⟨#[]⟩, .string ⟨#[]⟩, .string ⟨#[]⟩, .slice none 0 0] 47)) := ((Ext.refl w).alloc _).alloc _
  generalize ((w.alloc (.cells #[.string fb, .string ob] 34)).alloc (.cells #[.string ⟨#[]⟩, .string ⟨#[]⟩, .string ⟨#[]⟩, .slice none 0 0, .string ⟨#[]⟩, .string ⟨#[]⟩, .string ⟨#[]⟩, .slice none 0 0] 47)) = Wb at k1 k2 k3 ⊢
  refine (HP1.out Wb (hm.ext k3)).mono ?_
  rintro e w1 ⟨A1, n1, c1, rfl, hs1, _, hw1, hf1⟩
  have F1 : Hid (∀ ad, A1 = some ad → w.heap.size ≤ ad.block) := Lib.hid fun ad h => Nat.le_trans k3.size (hf1 ad h)
  clear hf1
  have K1 := Lib.hid ((k1.ext hw1).alloc (.cells #[.string l1, .string s1, .string r1, .slice A1 n1 c1] 42))
  have K2 := Lib.hid ((k2.ext hw1).alloc (.cells #[.string l1, .string s1, .string r1, .slice A1 n1 c1] 42))
  have K3 := Lib.hid ((k3.trans hw1).alloc (.cells #[.string l1, .string s1, .string r1, .slice A1 n1 c1] 42))
  have K4 := Lib.hid (AtC.new w1 _ : AtC 42 _ _ #[.string l1, .string s1, .string r1, .slice A1 n1 c1])
  have S1 := Lib.hid (hs1.ext ((Ext.refl w1).alloc (.cells #[.string l1, .string s1, .string r1, .slice A1 n1 c1] 42)))
  have a1 := (k1.ext hw1).cell 1 _ rfl
  have a0 := (k1.ext hw1).cell 0 _ rfl
  have q1 := K1.out.cell 1 _ rfl
  clear k1 k2 k3 hs1 hw1
  go_wp2_with fail
  refine (HP2.out _ (hm.ext K3.out)).mono ?_
  rintro e w2 ⟨A2, n2, c2, rfl, hs2, _, hw2, hf2⟩
  have F2 : Hid (∀ ad, A2 = some ad → w.heap.size ≤ ad.block) := Lib.hid fun ad h => Nat.le_trans K3.out.size (hf2 ad h)
  clear hf2
  have M1 := Lib.hid ((K1.out.ext hw2).alloc (.cells #[.string l2, .string s2, .string r2, .slice A2 n2 c2] 42))
  have M2 := Lib.hid ((K2.out.ext hw2).alloc (.cells #[.string l2, .string s2, .string r2, .slice A2 n2 c2] 42))
  have M3 := Lib.hid ((K3.out.trans hw2).alloc (.cells #[.string l2, .string s2, .string r2, .slice A2 n2 c2] 42))
  have M4 := Lib.hid ((K4.out.ext hw2).alloc (.cells #[.string l2, .string s2, .string r2, .slice A2 n2 c2] 42))
  have M5 := Lib.hid (AtC.new w2 _ : AtC 42 _ _ #[.string l2, .string s2, .string r2, .slice A2 n2 c2])
  have S3 := Lib.hid ((S1.out.ext hw2).ext ((Ext.refl w2).alloc (.cells #[.string l2, .string s2, .string r2, .slice A2 n2 c2] 42)))
  have S4 := Lib.hid (hs2.ext ((Ext.refl w2).alloc (.cells #[.string l2, .string s2, .string r2, .slice A2 n2 c2] 42)))
  clear a0 a1 q1 K1 K2 K3 K4 S1 hs2 hw2
  go_upto_region 3 with (fail)
  go_cut [8] (BX (aliB (fb, ob)) (w2.alloc (.cells #[.string l2, .string s2, .string r2, .slice A2 n2 c2] 42)))
  case first =>
    generalize hW : (w2.alloc (.cells #[.string l2, .string s2, .string r2, .slice A2 n2 c2] 42)) = W2 at M1 M2 M3 M4 M5 S3 S4 ⊢
    have HW := Lib.hid hW
    clear hW
    have T1 := Lib.hid (fun y : ExtW W2 => HT1.out A1 n1 c1 y.v (S3.out.ext y.h))
    have T2 := Lib.hid (fun y : ExtW W2 => HT2.out A2 n2 c2 y.v (S4.out.ext y.h))
    have a0 : ∀ y : ExtW W2, y.v.cell? ⟨w.heap.size, 0, none⟩ = some (.string fb) := fun y => (M1.out.ext y.h).cell 0 _ rfl
    have a1 : ∀ y : ExtW W2, y.v.cell? ⟨w.heap.size, 1, none⟩ = some (.string ob) := fun y => (M1.out.ext y.h).cell 1 _ rfl
    have b0 : ∀ y : ExtW W2, y.v.cell? ⟨w1.heap.size, 0, none⟩ = some (.string l1) := fun y => (M4.out.ext y.h).cell 0 _ rfl
    have b1 : ∀ y : ExtW W2, y.v.cell? ⟨w1.heap.size, 1, none⟩ = some (.string s1) := fun y => (M4.out.ext y.h).cell 1 _ rfl
    have b2 : ∀ y : ExtW W2, y.v.cell? ⟨w1.heap.size, 2, none⟩ = some (.string r1) := fun y => (M4.out.ext y.h).cell 2 _ rfl
    have b3 : ∀ y : ExtW W2, y.v.cell? ⟨w1.heap.size, 3, none⟩ = some (.slice A1 n1 c1) := fun y => (M4.out.ext y.h).cell 3 _ rfl
    have d0 : ∀ y : ExtW W2, y.v.cell? ⟨w2.heap.size, 0, none⟩ = some (.string l2) := fun y => (M5.out.ext y.h).cell 0 _ rfl
    have d1 : ∀ y : ExtW W2, y.v.cell? ⟨w2.heap.size, 1, none⟩ = some (.string s2) := fun y => (M5.out.ext y.h).cell 1 _ rfl
    have d2 : ∀ y : ExtW W2, y.v.cell? ⟨w2.heap.size, 2, none⟩ = some (.string r2) := fun y => (M5.out.ext y.h).cell 2 _ rfl
    have d3 : ∀ y : ExtW W2, y.v.cell? ⟨w2.heap.size, 3, none⟩ = some (.slice A2 n2 c2) := fun y => (M5.out.ext y.h).cell 3 _ rfl
    cases h1 : (e1 == 0) with
    | false =>
      have HV := Lib.hid (show aliB (fb, ob) = false from by simp [HAL.out, h1])
      refine wp_region_ext (by kernel_rfl) (by kernel_rfl) ?_
      repeat (go_big_quiet_step ((go_at_call 21; first | with_reducible exact ExtW.call (T1.out _) | with_reducible exact ExtW.call (T2.out _))))
      refine wpQuiet_nil ?_
      intro wx hx
      have HX := Lib.hid (show Ext W2 wx from by obtain ⟨y, hy⟩ := hx; rw [hy]; exact y.h)
      clear hx
      go_wp2
      go_meet
      exact ⟨by rw [HV.out], by have h := HX.out; rw [← HW.out] at h; exact h⟩
    | true =>
      cases h2 : (e2 == 0) with
      | false =>
        have HV := Lib.hid (show aliB (fb, ob) = false from by simp [HAL.out, h1, h2])
        refine wp_region_ext (by kernel_rfl) (by kernel_rfl) ?_
        repeat (go_big_quiet_step ((go_at_call 21; first | with_reducible exact ExtW.call (T1.out _) | with_reducible exact ExtW.call (T2.out _))))
        refine wpQuiet_nil ?_
        intro wx hx
        have HX := Lib.hid (show Ext W2 wx from by obtain ⟨y, hy⟩ := hx; rw [hy]; exact y.h)
        clear hx
        go_wp2
        go_meet
        exact ⟨by rw [HV.out], by have h := HX.out; rw [← HW.out] at h; exact h⟩
      | true =>
        cases h3 : (x1.toList == fb.toList) with
        | false =>
          have HV := Lib.hid (show aliB (fb, ob) = false from by simp [HAL.out, h1, h2, h3])
          refine wp_region_ext (by kernel_rfl) (by kernel_rfl) ?_
          repeat (go_big_quiet_step ((go_at_call 21; first | with_reducible exact ExtW.call (T1.out _) | with_reducible exact ExtW.call (T2.out _))))
          refine wpQuiet_nil ?_
          intro wx hx
          have HX := Lib.hid (show Ext W2 wx from by obtain ⟨y, hy⟩ := hx; rw [hy]; exact y.h)
          clear hx
          go_wp2
          go_meet
          exact ⟨by rw [HV.out], by have h := HX.out; rw [← HW.out] at h; exact h⟩
        | true =>
          cases h4 : (x2.toList == ob.toList) with
          | false =>
            have HV := Lib.hid (show aliB (fb, ob) = false from by simp [HAL.out, h1, h2, h3, h4])
            refine wp_region_ext (by kernel_rfl) (by kernel_rfl) ?_
            repeat (go_big_quiet_step ((go_at_call 21; first | with_reducible exact ExtW.call (T1.out _) | with_reducible exact ExtW.call (T2.out _))))
            refine wpQuiet_nil ?_
            intro wx hx
            have HX := Lib.hid (show Ext W2 wx from by obtain ⟨y, hy⟩ := hx; rw [hy]; exact y.h)
            clear hx
            go_wp2
            go_meet
            exact ⟨by rw [HV.out], by have h := HX.out; rw [← HW.out] at h; exact h⟩
          | true =>
            cases h5 : (fb.toList == [117, 110, 100]) with
            | false =>
              have HV := Lib.hid (show aliB (fb, ob) = true from by simp [HAL.out, h1, h2, h3, h4, h5])
              refine wp_region_ext (by kernel_rfl) (by kernel_rfl) ?_
              repeat (go_big_quiet_step ((go_at_call 21; first | with_reducible exact ExtW.call (T1.out _) | with_reducible exact ExtW.call (T2.out _))))
              refine wpQuiet_nil ?_
              intro wx hx
              have HX := Lib.hid (show Ext W2 wx from by obtain ⟨y, hy⟩ := hx; rw [hy]; exact y.h)
              clear hx
              go_wp2
              go_meet
              exact ⟨by rw [HV.out], by have h := HX.out; rw [← HW.out] at h; exact h⟩
            | true =>
              have HV := Lib.hid (show aliB (fb, ob) = false from by simp [HAL.out, h1, h2, h3, h4, h5])
              refine wp_region_ext (by kernel_rfl) (by kernel_rfl) ?_
              repeat (go_big_quiet_step ((go_at_call 21; first | with_reducible exact ExtW.call (T1.out _) | with_reducible exact ExtW.call (T2.out _))))
              refine wpQuiet_nil ?_
              intro wx hx
              have HX := Lib.hid (show Ext W2 wx from by obtain ⟨y, hy⟩ := hx; rw [hy]; exact y.h)
              clear hx
              go_wp2
              go_meet
              exact ⟨by rw [HV.out], by have h := HX.out; rw [← HW.out] at h; exact h⟩
  case rest =>
    obtain ⟨rfl, hx⟩ := hcut
    have N2 := Lib.hid (M2.out.ext hx)
    have N3 := Lib.hid (M3.out.trans hx)
    have S5 := Lib.hid (S3.out.ext hx)
    have S6 := Lib.hid (S4.out.ext hx)
    have b0 := (M4.out.ext hx).cell 0 _ rfl
    have b1 := (M4.out.ext hx).cell 1 _ rfl
    have b2 := (M4.out.ext hx).cell 2 _ rfl
    have b3 := (M4.out.ext hx).cell 3 _ rfl
    have d0 := (M5.out.ext hx).cell 0 _ rfl
    have d1 := (M5.out.ext hx).cell 1 _ rfl
    have d2 := (M5.out.ext hx).cell 2 _ rfl
    have d3 := (M5.out.ext hx).cell 3 _ rfl
    have z := fun j u hu => (M2.out.ext hx).cell j u hu
    have z0 := z 0 _ rfl
    have z1 := z 1 _ rfl
    have z2 := z 2 _ rfl
    have z3 := z 3 _ rfl
    have z4 := z 4 _ rfl
    have z5 := z 5 _ rfl
    have z6 := z 6 _ rfl
    have z7 := z 7 _ rfl
    have y0 : ∀ j, wc.frozen? ⟨w.heap.size + 1, j, none⟩ = false := fun j => by have h := N2.out; unfold AtC at h; simp [World.frozen?, h]
    have f0 := y0 0
    have f1 := y0 1
    have f2 := y0 2
    have f3 := y0 3
    have f4 := y0 4
    have f5 := y0 5
    have f6 := y0 6
    have f7 := y0 7
    clear hx z y0 M1 M2 M3 M4 M5 S3 S4
    go_wp2
    have hk8 := kept_set8 wc (w.heap.size + 1) (.string l1) (.string s1) (.string r1) (.slice A1 n1 c1) (.string l2) (.string s2) (.string r2) (.slice A2 n2 c2)
    have he8 := ext_set8 N3.out (w.heap.size + 1) (Nat.le_succ _) (.string l1) (.string s1) (.string r1) (.slice A1 n1 c1) (.string l2) (.string s2) (.string r2) (.slice A2 n2 c2)
    have hq := FIN.out A1 A2 n1 c1 n2 c2 _ (Sl.zeroed S5.out HV1.out N2.out (by simp) hk8) (Sl.zeroed S6.out HV2.out N2.out (by simp) hk8) he8 F1.out F2.out
    unfold set8 at hq
    refine bodyPost_ret (v := .tuple #[.agg #[.string l1, .string s1, .string r1, .slice A1 n1 c1, .string l2, .string s2, .string r2, .slice A2 n2 c2], .bool (aliB (fb, ob))]) ?_ rfl hq
    simp [results, Tryd.results18, go_sem, z0, z1, z2, z3, z4, z5, z6, z7, f0, f1, f2, f3, f4, f5, f6, f7]
end Go.Proofs.YtcfgphhhgemkdaaDoor
