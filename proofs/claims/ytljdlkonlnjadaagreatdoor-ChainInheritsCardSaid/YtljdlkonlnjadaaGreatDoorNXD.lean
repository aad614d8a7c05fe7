import Derived.Test.YtljdlkonlnjadaaGreatDoorNX6
import Derived.Test.YtljdlkonlnjadaaGreatDoorNX3
import Derived.Test.YtljdlkonlnjadaaGreatDoorShelf
import Derived.Test.YtljdlkonlnjadaaGreatDoorProg
import Derived.Test.YtljdlkonlnjadaaGreatDoorNX4
import Derived.Test.YtljdlkonlnjadaaGreatDoorNX2
import Derived.Test.YtljdlkonlnjadaaGreatDoorIter
set_option maxRecDepth 100000
set_option linter.unusedSimpArgs false
set_option linter.unusedVariables false
open Go.Lib (hid)
namespace Go.Proofs.YtljdlkonlnjadaaGreatDoor
open Go.RowKit
theorem contains_any (xs : List (List UInt8)) (s : List UInt8) (A : Option Addr) (n c : Nat) (w : World) (hA : Sl w A n (xs.map strv)) (hn : n ≤ 1048576) :
 Calls Tryz.prog 199 #[.slice A n c, strv s] w fun e w' => e = .returned (.bool (xs.contains s)) ∧ w = w' := by
 have hx : xs.length = n := by have := hA.1; rwa [List.length_map] at this
 by_cases h0 : n = 0
 ·subst h0
  have hx0 : xs = [] := List.eq_nil_of_length_eq_zero hx
  subst hx0
  refine (Tryz.slices_Contains_string_empty A c ⟨s.toArray⟩ w).mono ?_
  rintro e w' ⟨rfl, rfl⟩
  exact ⟨rfl, rfl⟩
 ·cases A with
  | none => exact absurd (none_nil hA) h0
  | some a =>
    obtain ⟨b, o, rfl, _⟩ := addr_flat hA (by omega)
    have h := Tryz.slices_Contains_string b o n c (xs.map fun x => ⟨x.toArray⟩) ⟨s.toArray⟩ w (by rw [List.length_map]; omega) (by omega) (fun j hj => by
     rw [List.length_map] at hj
     obtain ⟨ad, ha, _, hcell⟩ := hA.2 j (strv xs[j]) (by rw [List.getElem?_map, List.getElem?_eq_getElem hj]; rfl)
     injection ha with ha
     subst ha
     rw [add_flat] at hcell
     rw [hcell]
     simp [List.getD_eq_getElem?_getD, hj, strv])
    refine h.mono ?_
    rintro e w' ⟨rfl, rfl⟩
    refine ⟨ret_bool ?_, rfl⟩
    rw [List.take_of_length_le (by rw [List.length_map]; omega), Bool.eq_iff_iff, Lib.containsS_iff, List.mem_map, List.contains_iff_mem]
    constructor
    ·rintro ⟨x, hx, he⟩
     have h2 := congrArg (fun b : ByteArray => b.data.toList) he
     simp at h2
     rwa [← h2]
    ·intro h
     exact ⟨s, h, rfl⟩
def FitInv (w : World) (f t : TagP) (n : Nat) (i : Value) (wr : World) : Prop :=
 ∃ k : Nat, k ≤ n ∧ i = .int .i64 k ∧ Ext w wr ∧ (f.vars.take k).all (fun v => t.vars.contains v) = true
theorem all_false {f t : List (List UInt8)} {k : Nat} {x : List UInt8} (hx : f[k]? = some x) (h : t.contains x = false) : f.all (fun v => t.contains v) = false := by
 rw [List.all_eq_false]
 exact ⟨x, List.mem_of_getElem? hx, by rw [h]; simp⟩
theorem all_next {f t : List (List UInt8)} {k : Nat} {x : List UInt8} (hx : f[k]? = some x) (h : t.contains x = true) (hk : (f.take k).all (fun v => t.contains v) = true) : (f.take (k + 1)).all (fun v => t.contains v) = true := by
 rw [take_next hx, List.all_append, hk, Bool.true_and]
 show (t.contains x && true) = true
 rw [h]
 rfl
set_option maxHeartbeats 1000000 in
theorem fits_any (x : RV) (t : TagP) (A : Option Addr) (n c : Nat) (w : World) (hx : RvOk w x) (hA : Sl w A n (t.vars.map strv)) (hn : n ≤ 60000) (hxn : x.n ≤ 60000) :
 Calls Tryz.prog 168 #[.agg (rvC x).toArray, tagV t A n c] w fun e w' => e = .returned (.bool (fitsP x.r t)) ∧ Ext w w' := by
 obtain ⟨r, Af, nf, cf, Ao, no, co⟩ := x
 obtain ⟨f, o⟩ := r
 obtain ⟨hf, ho⟩ := hx
 simp only at hf hxn
 have hlf : f.vars.length = nf := by have := hf.1; rwa [List.length_map] at this
 obtain ⟨flb, hfl1, hfl2⟩ := strv_b f.lang
 obtain ⟨fsb, hfs1, hfs2⟩ := strv_b f.script
 obtain ⟨frb, hfr1, hfr2⟩ := strv_b f.region
 obtain ⟨tlb, htl1, htl2⟩ := strv_b t.lang
 obtain ⟨tsb, hts1, hts2⟩ := strv_b t.script
 obtain ⟨trb, htr1, htr2⟩ := strv_b t.region
 have hb : fitsP ⟨f, o⟩ t = (f.vars.all (fun v => t.vars.contains v) && ((flb.toList == [117, 110, 100]) || (flb.toList == tlb.toList)) && ((fsb.toList == []) || (fsb.toList == tsb.toList)) && ((frb.toList == []) || (frb.toList == trb.toList))) := by
  unfold fitsP
  rw [eq_b, eq_b, eq_b, ByteArray.toList_eq, ByteArray.toList_eq, ByteArray.toList_eq, hfl2, hfs2, hfr2, htl2, hts2, htr2]
  rfl
 rw [hb]
 unfold rvC tagV
 simp only
 rw [hfl1, hfs1, hfr1, htl1, hts1, htr1]
 have HF := hid hf
 have HA := hid hA
 have HLF := hid hlf
 clear hf ho hA hlf hb hfl1 hfs1 hfr1 htl1 hts1 htr1 hfl2 hfs2 hfr2 htl2 hts2 htr2
 go_enter Tryz.func168, Tryz.ntmps168
 go_wp2_with fail
 go_loopw [11] (FitInv ((w.alloc (.cells #[.string flb, .string fsb, .string frb, .slice Af nf cf, strv o.lang, strv o.script, strv o.region, .slice Ao no co] 210)).alloc (.cells #[.string tlb, .string tsb, .string trb, .slice A n c] 143)) f t nf) (fun i _ => nf - (intOf i).toNat)
 case atStart => exact ⟨0, Nat.zero_le _, rfl, Ext.refl _, by simp⟩
 case round =>
  obtain ⟨k, hk, rfl, hw, hall⟩ := hrel
  have HB1 := (((AtC.new w _ : AtC 210 _ _ #[.string flb, .string fsb, .string frb, .slice Af nf cf, strv o.lang, strv o.script, strv o.region, .slice Ao no co]).alloc (.cells #[.string tlb, .string tsb, .string trb, .slice A n c] 143))).ext hw
  have HB2 := (AtC.new (w.alloc (.cells #[.string flb, .string fsb, .string frb, .slice Af nf cf, strv o.lang, strv o.script, strv o.region, .slice Ao no co] 210)) _ : AtC 143 _ _ #[.string tlb, .string tsb, .string trb, .slice A n c]).ext hw
  rw [show (w.alloc (.cells #[.string flb, .string fsb, .string frb, .slice Af nf cf, strv o.lang, strv o.script, strv o.region, .slice Ao no co] 210)).heap.size = w.heap.size + 1 from by simp] at HB2
  have HX := hid ((((Ext.refl w).alloc _).alloc _).trans hw)
  have HALL := hid hall
  have a0 := HB1.cell 0 _ rfl
  have a1 := HB1.cell 1 _ rfl
  have a2 := HB1.cell 2 _ rfl
  have a3 := HB1.cell 3 _ rfl
  have b0 := HB2.cell 0 _ rfl
  have b1 := HB2.cell 1 _ rfl
  have b2 := HB2.cell 2 _ rfl
  have b3 := HB2.cell 3 _ rfl
  have HW := hid hw
  clear hw hall HB1 HB2
  by_cases hlt : k < nf
  ·cases Af with
   | none => exact absurd (none_nil HF.out) (by omega)
   | some ad =>
     obtain ⟨b, o', rfl, hblt⟩ := addr_flat HF.out (by omega)
     obtain ⟨ad', xb, ha', hu, hc⟩ := (HF.out.ext HX.out).at_map hlt
     injection ha' with ha'
     subst ha'
     rw [add_flat] at hc
     have hcon := fun W' (h : Ext w W') => contains_any t.vars xb A n c W' (HA.out.ext h) (by omega)
     obtain ⟨xbb, hx1, hx2⟩ := strv_b xb
     rw [hx1] at hc hcon
     have HCON := hid hcon
     have HU := hid hu
     clear hcon hu hx1 hx2
     cases hcb : t.vars.contains xb with
     | false =>
       have HCB := hid hcb
       clear hcb
       go_wp2_with fail
       have h2 := HCON.out wr HX.out
       rw [HCB.out] at h2
       with_reducible refine h2.mono ?_
       clear h2
       rintro e w' ⟨rfl, rfl⟩
       go_wp2
       go_ret
       exact ⟨ret_bool (by rw [all_false HU.out HCB.out]; simp), HX.out⟩
     | true =>
       have HCB := hid hcb
       clear hcb
       go_wp2_with fail
       have h2 := HCON.out wr HX.out
       rw [HCB.out] at h2
       with_reducible refine h2.mono ?_
       clear h2
       rintro e w' ⟨rfl, rfl⟩
       go_wp2
       exact ⟨⟨k + 1, by omega, by go_num, HW.out, all_next HU.out HCB.out HALL.out⟩, by simp [intOf]; omega⟩
  ·have hkk : k = nf := by omega
   subst hkk
   have HALL2 := hid (show f.vars.all (fun v => t.vars.contains v) = true from by
    have := HALL.out
    rwa [List.take_of_length_le (by have := HLF.out; omega)] at this)
   go_wp2
   all_goals go_ret
   all_goals refine ⟨ret_bool ?_, HX.out⟩
   all_goals rw [HALL2.out]
   all_goals simp [*]
end Go.Proofs.YtljdlkonlnjadaaGreatDoor
namespace Go.Proofs.YtljdlkonlnjadaaGreatDoor
open Go.RowKit
def HasInv (w : World) (xs : List ByteArray) (s : ByteArray) (n : Nat) (i : Value) (wr : World) : Prop :=
 ∃ k : Nat, k ≤ n ∧ i = .int .i64 k ∧ Ext w wr ∧ s ∉ xs.take k
theorem rhas_b (xs : List ByteArray) (s : ByteArray) (A : Option Addr) (n c : Nat) (w : World) (hA : Sl w A n (xs.map .string)) (hn : n ≤ maxLen) :
 Calls Tryz.prog 217 #[.slice A n c, .string s] w fun e w' => e = .returned (.bool (xs.any fun x => x.data.toList == s.data.toList)) ∧ Ext w w' := by
 unfold maxLen at hn
 have hla : xs.length = n := by have := hA.1; simpa using this
 have H1 := hid hA
 have L1 := hid hla
 clear hA hla
 go_enter Tryz.func217, Tryz.ntmps217
 go_wp2
 go_loopw [5] (HasInv w xs s n) (fun i _ => n - (intOf i).toNat)
 case atStart => exact ⟨0, Nat.zero_le _, rfl, Ext.refl _, by simp⟩
 case round =>
  obtain ⟨k, hk, rfl, hw, ht⟩ := hrel
  have HT := hid ht
  have HW := hid hw
  clear ht hw
  by_cases hlt : k < n
  ·obtain ⟨ad, x, rfl, hu, hc⟩ := (H1.out.ext HW.out).at_map hlt
   have HU := hid hu
   clear hu
   by_cases hxy : x = s
   ·subst hxy
    have hb : (x.toList == x.toList) = true := by simp
    go_wp2
    all_goals go_ret
    refine ⟨ret_bool ?_, HW.out⟩
    have h1 := List.mem_of_getElem? HU.out
    symm
    exact List.any_eq_true.2 ⟨x, h1, by simp⟩
   ·have hb : (x.toList == s.toList) = false := bytes_ne hxy
    have HXY := hid hxy
    clear hxy
    go_wp2
    refine ⟨⟨k + 1, by omega, by go_num, HW.out, ?_⟩, by simp [intOf]; omega⟩
    rw [take_next HU.out, List.mem_append]
    rintro (h | h)
    ·exact HT.out h
    ·exact HXY.out (List.mem_singleton.1 h).symm
  ·go_wp2
   go_ret
   refine ⟨ret_bool ?_, HW.out⟩
   have h1 := HT.out
   rw [List.take_of_length_le (by have := L1.out; omega)] at h1
   symm
   rw [List.any_eq_false]
   intro x hx h2
   apply h1
   have h3 : x = s := ByteArray.ext (Array.toList_inj.1 (by simpa using h2))
   rwa [← h3]
theorem strv_mapb (l : List (List UInt8)) : l.map strv = (l.map fun x => (⟨x.toArray⟩ : ByteArray)).map Value.string := by simp [strv]
theorem any_b (l : List (List UInt8)) (s : List UInt8) : ((l.map fun x => (⟨x.toArray⟩ : ByteArray)).any fun x => x.data.toList == (⟨s.toArray⟩ : ByteArray).data.toList) = l.contains s := by
 rw [List.any_map, Bool.eq_iff_iff, List.contains_iff_mem, List.any_eq_true]
 constructor
 ·rintro ⟨x, hx, he⟩
  have h2 : x = s := by simpa using he
  rwa [← h2]
 ·intro h
  exact ⟨s, h, by simp⟩
theorem rhas_any (xs : List (List UInt8)) (s : List UInt8) (A : Option Addr) (n c : Nat) (w : World) (hA : Sl w A n (xs.map strv)) (hn : n ≤ maxLen) :
 Calls Tryz.prog 217 #[.slice A n c, strv s] w fun e w' => e = .returned (.bool (xs.contains s)) ∧ Ext w w' := by
 rw [strv_mapb] at hA
 have h := rhas_b _ ⟨s.toArray⟩ A n c w hA hn
 rw [any_b] at h
 exact h
end Go.Proofs.YtljdlkonlnjadaaGreatDoor
namespace Go.Proofs.YtljdlkonlnjadaaGreatDoor
open Go.RowKit
set_option maxHeartbeats 1000000 in
theorem rfits_any (r : RuleP) (t : TagP) (Af A : Option Addr) (nf cf n c : Nat) (w : World) (hf : Sl w Af nf (r.f.vars.map strv)) (hA : Sl w A n (t.vars.map strv)) (hn : n ≤ 60000) (hxn : nf ≤ 60000) :
 Calls Tryz.prog 188 #[tagV r.f Af nf cf, tagV t A n c] w fun e w' => e = .returned (.bool (fitsP r t)) ∧ Ext w w' := by
 obtain ⟨f, o⟩ := r
 simp only at hf
 have hlf : f.vars.length = nf := by have := hf.1; rwa [List.length_map] at this
 obtain ⟨flb, hfl1, hfl2⟩ := strv_b f.lang
 obtain ⟨fsb, hfs1, hfs2⟩ := strv_b f.script
 obtain ⟨frb, hfr1, hfr2⟩ := strv_b f.region
 obtain ⟨tlb, htl1, htl2⟩ := strv_b t.lang
 obtain ⟨tsb, hts1, hts2⟩ := strv_b t.script
 obtain ⟨trb, htr1, htr2⟩ := strv_b t.region
 have hb : fitsP ⟨f, o⟩ t = (f.vars.all (fun v => t.vars.contains v) && ((flb.toList == [117, 110, 100]) || (flb.toList == tlb.toList)) && ((fsb.toList == []) || (fsb.toList == tsb.toList)) && ((frb.toList == []) || (frb.toList == trb.toList))) := by
  unfold fitsP
  rw [eq_b, eq_b, eq_b, ByteArray.toList_eq, ByteArray.toList_eq, ByteArray.toList_eq, hfl2, hfs2, hfr2, htl2, hts2, htr2]
  rfl
 rw [hb]
 unfold tagV
 simp only
 rw [hfl1, hfs1, hfr1, htl1, hts1, htr1]
 have HF := hid hf
 have HA := hid hA
 have HLF := hid hlf
 clear hf hA hlf hb hfl1 hfs1 hfr1 htl1 hts1 htr1 hfl2 hfs2 hfr2 htl2 hts2 htr2
 go_enter Tryz.func188, Tryz.ntmps188
 go_wp2_with fail
 go_loopw [5] (FitInv ((w.alloc (.cells #[.string flb, .string fsb, .string frb, .slice Af nf cf] 153)).alloc (.cells #[.string tlb, .string tsb, .string trb, .slice A n c] 153)) f t nf) (fun i _ => nf - (intOf i).toNat)
 case atStart => exact ⟨0, Nat.zero_le _, rfl, Ext.refl _, by simp⟩
 case round =>
  obtain ⟨k, hk, rfl, hw, hall⟩ := hrel
  have HB1 := (((AtC.new w _ : AtC 153 _ _ #[.string flb, .string fsb, .string frb, .slice Af nf cf]).alloc (.cells #[.string tlb, .string tsb, .string trb, .slice A n c] 153))).ext hw
  have HB2 := (AtC.new (w.alloc (.cells #[.string flb, .string fsb, .string frb, .slice Af nf cf] 153)) _ : AtC 153 _ _ #[.string tlb, .string tsb, .string trb, .slice A n c]).ext hw
  rw [show (w.alloc (.cells #[.string flb, .string fsb, .string frb, .slice Af nf cf] 153)).heap.size = w.heap.size + 1 from by simp] at HB2
  have HX := hid ((((Ext.refl w).alloc _).alloc _).trans hw)
  have HALL := hid hall
  have a0 := HB1.cell 0 _ rfl
  have a1 := HB1.cell 1 _ rfl
  have a2 := HB1.cell 2 _ rfl
  have a3 := HB1.cell 3 _ rfl
  have b0 := HB2.cell 0 _ rfl
  have b1 := HB2.cell 1 _ rfl
  have b2 := HB2.cell 2 _ rfl
  have b3 := HB2.cell 3 _ rfl
  have HW := hid hw
  by_cases hlt : k < nf
  ·cases Af with
   | none => exact absurd (none_nil HF.out) (by omega)
   | some ad =>
     obtain ⟨b, o', rfl, hblt⟩ := addr_flat HF.out (by omega)
     obtain ⟨ad', xb, ha', hu, hc0⟩ := (HF.out.ext HX.out).at_map hlt
     have hc : ∀ y : ExtW wr, y.v.cell? ⟨b, o' + k, none⟩ = some (strv xb) := fun y => by
      obtain ⟨ad'', xb', ha'', hu', hc⟩ := (HF.out.ext (HX.out.trans y.h)).at_map hlt
      rw [hu] at hu'
      injection hu' with hu'
      subst hu'
      injection ha'' with ha''
      subst ha''
      rwa [add_flat] at hc
     have hcon := fun y : ExtW wr => rhas_any t.vars xb A n c y.v (HA.out.ext (HX.out.trans y.h)) (by unfold maxLen; omega)
     have q2 : ∀ y : ExtW wr, y.v.cell? ⟨w.heap.size, 3, none⟩ = some (.slice (some ⟨b, o', none⟩) nf cf) := fun y => (HB1.ext y.h).cell 3 _ rfl
     have q3 : ∀ y : ExtW wr, y.v.cell? ⟨w.heap.size + 1, 3, none⟩ = some (.slice A n c) := fun y => (HB2.ext y.h).cell 3 _ rfl
     obtain ⟨xbb, hx1, hx2⟩ := strv_b xb
     rw [hx1] at hc hcon
     have HCON := hid hcon
     have HU := hid hu
     have hkI : (k : Int) < (nf : Int) := by omega
     clear hcon hu hx1 hx2 hw hall HB1 HB2 ha' hc0
     cases hcb : t.vars.contains xb with
     | false =>
       have HCB := hid hcb
       have h2 := HCON.out
       rw [HCB.out] at h2
       have HC2 := hid h2
       clear hcb h2
       go_wp2_with fail
       refine wp_region_ext (by kernel_rfl) (by kernel_rfl) ?_
       repeat (go_big_quiet_step ((go_at_call 217; with_reducible exact ExtW.call (HC2.out _))))
       refine wpQuiet_nil ?_
       intro wx hx
       have HX2 := hid (show Ext wr wx from by obtain ⟨y, hy⟩ := hx; rw [hy]; exact y.h)
       clear hx
       go_wp2
       go_ret
       exact ⟨ret_bool (by rw [all_false HU.out HCB.out]; simp), HX.out.trans HX2.out⟩
     | true =>
       have HCB := hid hcb
       have h2 := HCON.out
       rw [HCB.out] at h2
       have HC2 := hid h2
       clear hcb h2
       go_wp2_with fail
       refine wp_region_ext (by kernel_rfl) (by kernel_rfl) ?_
       repeat (go_big_quiet_step ((go_at_call 217; with_reducible exact ExtW.call (HC2.out _))))
       refine wpQuiet_nil ?_
       intro wx hx
       have HX2 := hid (show Ext wr wx from by obtain ⟨y, hy⟩ := hx; rw [hy]; exact y.h)
       clear hx
       go_wp2
       exact ⟨⟨k + 1, by omega, by go_num, HW.out.trans HX2.out, all_next HU.out HCB.out HALL.out⟩, by simp [intOf]; omega⟩
  ·have hkk : k = nf := by omega
   subst hkk
   clear hw hall HB1 HB2
   have HALL2 := hid (show f.vars.all (fun v => t.vars.contains v) = true from by
    have := HALL.out
    rwa [List.take_of_length_le (by have := HLF.out; omega)] at this)
   go_wp2
   all_goals go_ret
   all_goals refine ⟨ret_bool ?_, HX.out⟩
   all_goals rw [HALL2.out]
   all_goals simp [*]
end Go.Proofs.YtljdlkonlnjadaaGreatDoor
namespace Go.Proofs.YtljdlkonlnjadaaGreatDoor
open Go.RowKit Go.Maps Go.Sort Go.Shelf
theorem keys_any (mb : Nat) (W : World) : Calls Tryz.prog 201 #[.map (some mb)] W fun e w' =>
 e = .returned (.func (.func 233) #[] #[.pointer (some ⟨W.heap.size, 0, none⟩)]) ∧ W.alloc (.cells #[.map (some mb)] 121) = w' :=
 (callsIn_wide.1 (Tryz.maps_Keys_201 (some mb) W)).mono fun _ _ ⟨h1, h2⟩ => ⟨h1, h2.symm⟩
def SortedKeys (W : World) (ks : List (List UInt8)) (e : Ending) (w' : World) : Prop :=
 ∃ (ss : List (List UInt8)) (A : Option Addr) (c : Nat), e = .returned (.slice A ss.length c) ∧ ss.Nodup ∧ (∀ x, x ∈ ss ↔ x ∈ ks) ∧ Sl w' A ss.length ((sortS ss).map strv) ∧ ss.length ≤ c ∧ Ext W w' ∧ (∀ ad, A = some ad → W.heap.size ≤ ad.block)
theorem sorted_any (w : World) (b n : Nat) (ks : List (List UInt8)) (h : MapS Tryz.prog 9 4 w b n ks) (hn : n ≤ 1048576) :
 Calls Tryz.prog 200 #[.func (.func 233) #[] #[.pointer (some ⟨w.heap.size, 0, none⟩)]] (w.alloc (.cells #[.map (some b)] 121))
  (SortedKeys (w.alloc (.cells #[.map (some b)] 121)) ks) := by
 obtain ⟨D, hown, hsz, hnd, hmem⟩ := h.keys Tryz.underlying9
 refine (callsIn_wide.1 (Tryz.slices_Sorted_keys_200_201 b n D _ w hown (by unfold maxLen; omega) (by omega))).mono ?_
 rintro e w' ⟨v, ss, rfl, hp, hrow, _, hb⟩
 have hrow2 : w'.ownsRow (w.alloc (.cells #[.map (some b)] 121)).heap.size 9 1 v ss.length ((sortS ss).map strv) := hrow
 obtain ⟨A, c, rfl, hs, hc⟩ := own_sl hrow2
 refine ⟨ss, A, c, rfl, hp.nodup_iff.2 hnd, fun x => by rw [hp.mem_iff, hmem], hs, hc, hb, ?_⟩
 intro ad hA
 subst hA
 exact (hrow2.lt ad.block rfl).1
end Go.Proofs.YtljdlkonlnjadaaGreatDoor
