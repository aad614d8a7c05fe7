import Derived.Test.YtcfgphhhgemkdaaDoorAl
import Derived.Test.YtcfgphhhgemkdaaDoorShelf
namespace Go.Proofs.YtcfgphhhgemkdaaDoor
open Go.RowKit
set_option linter.unusedSimpArgs false
set_option linter.unusedVariables false

/-- A struct of whatever length in memory. -/
def AtC (T : TypeId) (w : World) (g : Nat) (cs : Array Value) : Prop := w.heap[g]? = some (.cells cs T (0, 0))
section
variable {T : TypeId} {w w' : World} {g : Nat} {cs : Array Value}
theorem AtC.lt (h : AtC T w g cs) : g < w.heap.size := (Array.getElem?_eq_some_iff.1 h).1
theorem AtC.cell (h : AtC T w g cs) (j : Nat) (u : Value) (hu : cs[j]? = some u) : w.cell? ⟨g, j, none⟩ = some u := by
  unfold AtC at h
  simp [World.cell?, h, hu]
theorem AtC.below {B : Nat} (h : AtC T w g cs) (hw : Below B w w') (hg : g < B) : AtC T w' g cs := (Below.block hw g hg).trans h
theorem AtC.ext (h : AtC T w g cs) (hw : Ext w w') : AtC T w' g cs := h.below hw h.lt
theorem AtC.new (w : World) (cs : Array Value) : AtC T (w.alloc (.cells cs T)) w.heap.size cs := heap_alloc_new w _
theorem AtC.alloc (h : AtC T w g cs) (o : Obj) : AtC T (w.alloc o) g cs := h.ext ((Ext.refl w).alloc o)
end

/-- slices.Contains on strings. -/
theorem contains_any (xs : List (List UInt8)) (s : List UInt8) (A : Option Addr) (n c : Nat) (w : World) (hA : Sl w A n (xs.map strv)) (hn : n ≤ 1048576) :
    Calls Tryd.prog 37 #[.slice A n c, strv s] w fun e w' => e = .returned (.bool (xs.contains s)) ∧ w = w' := by
  have hx : xs.length = n := by have := hA.1; rwa [List.length_map] at this
  by_cases h0 : n = 0
  · subst h0
    have hx0 : xs = [] := List.eq_nil_of_length_eq_zero hx
    subst hx0
    refine (Tryd.slices_Contains_string_empty A c ⟨s.toArray⟩ w).mono ?_
    rintro e w' ⟨rfl, rfl⟩
    exact ⟨rfl, rfl⟩
  · cases A with
    | none => exact absurd (none_nil hA) h0
    | some a =>
      obtain ⟨b, o, rfl, _⟩ := addr_flat hA (by omega)
      have h := Tryd.slices_Contains_string b o n c (xs.map fun x => ⟨x.toArray⟩) ⟨s.toArray⟩ w (by rw [List.length_map]; omega) (by omega) (fun j hj => by
        rw [List.length_map] at hj
        obtain ⟨ad, ha, _, hcell⟩ := hA.2 j (strv xs[j]) (by rw [List.getElem?_map, List.getElem?_eq_getElem hj]; rfl)
        injection ha with ha
        subst ha
        rw [add_flat] at hcell
        rw [hcell]
        simp [List.getD_eq_getElem?_getD, hj, strv])
      refine h.mono ?_
      rintro e w' ⟨rfl, rfl⟩
      refine ⟨ret_bool ?_, rfl⟩
      rw [List.take_of_length_le (by rw [List.length_map]; omega), Bool.eq_iff_iff, Lib.containsS_iff, List.mem_map, List.contains_iff_mem]
      constructor
      · rintro ⟨x, hx, he⟩
        have h2 := congrArg (fun b : ByteArray => b.data.toList) he
        simp at h2
        rwa [← h2]
      · intro h
        exact ⟨s, h, rfl⟩

def FitInv (w : World) (f t : TagP) (n : Nat) (i : Value) (wr : World) : Prop :=
  ∃ k : Nat, k ≤ n ∧ i = .int .i64 k ∧ Ext w wr ∧ (f.vars.take k).all (fun v => t.vars.contains v) = true
theorem all_false {f t : List (List UInt8)} {k : Nat} {x : List UInt8} (hx : f[k]? = some x) (h : t.contains x = false) : f.all (fun v => t.contains v) = false := by
  rw [List.all_eq_false]
  exact ⟨x, List.mem_of_getElem? hx, by rw [h]; simp⟩
theorem all_next {f t : List (List UInt8)} {k : Nat} {x : List UInt8} (hx : f[k]? = some x) (h : t.contains x = true) (hk : (f.take k).all (fun v => t.contains v) = true) : (f.take (k + 1)).all (fun v => t.contains v) = true := by
  rw [take_next hx, List.all_append, hk, Bool.true_and]
  show (t.contains x && true) = true
  rw [h]
  rfl

set_option maxHeartbeats 1000000 in
set_option maxRecDepth 100000 in
theorem fits_any (x : RV) (t : TagP) (A : Option Addr) (n c : Nat) (w : World) (hx : RvOk w x) (hA : Sl w A n (t.vars.map strv)) (hn : n ≤ 60000) (hxn : x.n ≤ 60000) :
    Calls Tryd.prog 19 #[.agg (rvC x).toArray, tagV t A n c] w fun e w' => e = .returned (.bool (fitsP x.r t)) ∧ Ext w w' := by
  obtain ⟨r, Af, nf, cf, Ao, no, co⟩ := x
  obtain ⟨f, o⟩ := r
  obtain ⟨hf, ho⟩ := hx
  simp only at hf hxn
  have hlf : f.vars.length = nf := by have := hf.1; rwa [List.length_map] at this
  obtain ⟨flb, hfl1, hfl2⟩ := strv_b f.lang
  obtain ⟨fsb, hfs1, hfs2⟩ := strv_b f.script
  obtain ⟨frb, hfr1, hfr2⟩ := strv_b f.region
  obtain ⟨tlb, htl1, htl2⟩ := strv_b t.lang
  obtain ⟨tsb, hts1, hts2⟩ := strv_b t.script
  obtain ⟨trb, htr1, htr2⟩ := strv_b t.region
  have hb : fitsP ⟨f, o⟩ t = (f.vars.all (fun v => t.vars.contains v) && ((flb.toList == [117, 110, 100]) || (flb.toList == tlb.toList)) && ((fsb.toList == []) || (fsb.toList == tsb.toList)) && ((frb.toList == []) || (frb.toList == trb.toList))) := by
    unfold fitsP
    rw [eq_b, eq_b, eq_b, ByteArray.toList_eq, ByteArray.toList_eq, ByteArray.toList_eq, hfl2, hfs2, hfr2, htl2, hts2, htr2]
    rfl
  rw [hb]
  unfold rvC tagV
  simp only
  rw [hfl1, hfs1, hfr1, htl1, hts1, htr1]
  have HF := Lib.hid hf
  have HA := Lib.hid hA
  have HLF := Lib.hid hlf
  clear hf ho hA hlf hb hfl1 hfs1 hfr1 htl1 hts1 htr1 hfl2 hfs2 hfr2 htl2 hts2 htr2
  go_enter Tryd.func19, Tryd.ntmps19
  go_wp2_with fail
  go_loopw [11] (FitInv ((w.alloc (.cells #[.string flb, .string fsb, .string frb, .slice Af nf cf, strv o.lang, strv o.script, strv o.region, .slice Ao no co] 47)).alloc (.cells #[.string tlb, .string tsb, .string trb, .slice A n c] 42)) f t nf) (fun i _ => nf - (intOf i).toNat)
  case atStart => exact ⟨0, Nat.zero_le _, rfl, Ext.refl _, by simp⟩
  case round =>
    obtain ⟨k, hk, rfl, hw, hall⟩ := hrel
    have HB1 := (((AtC.new w _ : AtC 47 _ _ #[.string flb, .string fsb, .string frb, .slice Af nf cf, strv o.lang, strv o.script, strv o.region, .slice Ao no co]).alloc (.cells #[.string tlb, .string tsb, .string trb, .slice A n c] 42))).ext hw
    have HB2 := (AtC.new (w.alloc (.cells #[.string flb, .string fsb, .string frb, .slice Af nf cf, strv o.lang, strv o.script, strv o.region, .slice Ao no co] 47)) _ : AtC 42 _ _ #[.string tlb, .string tsb, .string trb, .slice A n c]).ext hw
    rw [show (w.alloc (.cells #[.string flb, .string fsb, .string frb, .slice Af nf cf, strv o.lang, strv o.script, strv o.region, .slice Ao no co] 47)).heap.size = w.heap.size + 1 from by simp] at HB2
    have HX := Lib.hid ((((Ext.refl w).alloc _).alloc _).trans hw)
    have HALL := Lib.hid hall
    have a0 := HB1.cell 0 _ rfl
    have a1 := HB1.cell 1 _ rfl
    have a2 := HB1.cell 2 _ rfl
    have a3 := HB1.cell 3 _ rfl
    have b0 := HB2.cell 0 _ rfl
    have b1 := HB2.cell 1 _ rfl
    have b2 := HB2.cell 2 _ rfl
    have b3 := HB2.cell 3 _ rfl
    have HW := Lib.hid hw
    clear hw hall HB1 HB2
    by_cases hlt : k < nf
    · cases Af with
      | none => exact absurd (none_nil HF.out) (by omega)
      | some ad =>
        obtain ⟨b, o', rfl, hblt⟩ := addr_flat HF.out (by omega)
        obtain ⟨ad', xb, ha', hu, hc⟩ := (HF.out.ext HX.out).at_map hlt
        injection ha' with ha'
        subst ha'
        rw [add_flat] at hc
        have hcon := fun W' (h : Ext w W') => contains_any t.vars xb A n c W' (HA.out.ext h) (by omega)
        obtain ⟨xbb, hx1, hx2⟩ := strv_b xb
        rw [hx1] at hc hcon
        have HCON := Lib.hid hcon
        have HU := Lib.hid hu
        clear hcon hu hx1 hx2
        cases hcb : t.vars.contains xb with
        | false =>
          have HCB := Lib.hid hcb
          clear hcb
          go_wp2_with fail
          have h2 := HCON.out wr HX.out
          rw [HCB.out] at h2
          with_reducible refine h2.mono ?_
          clear h2
          rintro e w' ⟨rfl, rfl⟩
          go_wp2
          go_ret
          exact ⟨ret_bool (by rw [all_false HU.out HCB.out]; simp), HX.out⟩
        | true =>
          have HCB := Lib.hid hcb
          clear hcb
          go_wp2_with fail
          have h2 := HCON.out wr HX.out
          rw [HCB.out] at h2
          with_reducible refine h2.mono ?_
          clear h2
          rintro e w' ⟨rfl, rfl⟩
          go_wp2
          exact ⟨⟨k + 1, by omega, by go_num, HW.out, all_next HU.out HCB.out HALL.out⟩, by simp [intOf]; omega⟩
    · have hkk : k = nf := by omega
      subst hkk
      have HALL2 := Lib.hid (show f.vars.all (fun v => t.vars.contains v) = true from by
        have := HALL.out
        rwa [List.take_of_length_le (by have := HLF.out; omega)] at this)
      go_wp2
      all_goals go_ret
      all_goals refine ⟨ret_bool ?_, HX.out⟩
      all_goals rw [HALL2.out]
      all_goals simp [*]
end Go.Proofs.YtcfgphhhgemkdaaDoor
