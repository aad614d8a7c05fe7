import Derived.Test.YtljdlkonlnjadaaGreatDoorNZ0
import Derived.Test.YtljdlkonlnjadaaGreatDoorNX2
import Derived.Lib.SliceRun
import Derived.Test.YtljdlkonlnjadaaGreatDoorNX4
import Derived.Test.YtljdlkonlnjadaaGreatDoorNX1
import Derived.Test.YtljdlkonlnjadaaGreatDoorNX3
set_option maxRecDepth 100000
set_option linter.unusedSimpArgs false
set_option linter.unusedVariables false
open Go.Lib (hid)
namespace Go.Proofs.YtljdlkonlnjadaaGreatDoor
open Go.RowKit Go.Sort
def isNil (x : List UInt8) : Bool := x == []
theorem nil_gives (x : List UInt8) (W : World) : FnGives Tryz.prog 175 #[] #[encStr x] (.bool (isNil x)) W := by
 obtain ⟨xb, hx1, rfl⟩ := strv_b x
 show Calls Tryz.prog 175 #[strv xb.data.toList] W _
 rw [hx1]
 have hb : isNil xb.data.toList = (xb.toList == []) := by unfold isNil; rw [ByteArray.toList_eq]
 have HB := hid hb
 clear hb
 go_enter Tryz.func175, Tryz.ntmps175
 go_wp2
 go_ret
 exact ⟨by rw [HB.out]; simp, 0, rfl⟩
theorem delete_any (l : List (List UInt8)) (A : Option Addr) (n c B : Nat) (w : World) (ho : w.ownsRow B 9 1 (.slice A n c) l.length (l.map strv)) (hl : l.length ≤ 1048576) (h0 : 0 < l.length) (hB : B ≤ w.heap.size) :
 Calls Tryz.prog 174 #[.slice A n c, .func (.func 175) #[] #[]] w fun e w' => ∃ g c', e = .returned (.slice (some ⟨g, 0, none⟩) (l.filter fun x => !isNil x).length c') ∧ Sl w' (some ⟨g, 0, none⟩) (l.filter fun x => !isNil x).length ((l.filter fun x => !isNil x).map strv) ∧ (l.filter fun x => !isNil x).length ≤ c' ∧ Below B w w' ∧ g < w'.heap.size := by
 have eg : ∀ args w, (callFunc 175 args).run Tryz.prog w = .ok (.enter 175 args) w := enters_of Tryz.func175 (by kernel_rfl) rfl
 rcases ho.2 with ⟨hv, hx⟩ | ⟨g, cap, cur, hv, hbase, hb, h1, h2, h3, h4⟩
 ·have hl0 : l = [] := by simpa using hx
  subst hl0
  simp at h0
 ·injection hv with hv1 hv2 hv3
  subst hv1; subst hv2; subst hv3
  have hH : Holds encStr w g 0 l.toArray := holds_of_block hb (by rw [Nat.mul_one] at h4; exact h4)
  have hc := Tryz.slices_DeleteFunc encStr (fun _ => rfl) isNil 175 #[] eg [] Tryz.zeroValue9 g 0 c l.toArray w
   (fun W x hb => nil_gives x W) (fun n os dk x _ => nil_gives x _) hH (by simp; omega) (by simpa using h1)
  simp only [List.size_toArray] at hc
  refine hc.mono ?_
  rintro e w' ⟨rfl, q, rfl⟩
  have hle : (l.filter fun x => !isNil x).length ≤ l.length := List.length_filter_le _ _
  have hts : ((l.filter fun x => !isNil x) ++ List.replicate (l.length - (l.filter fun x => !isNil x).length) []).length = l.length := by simp; omega
  have ho2 := ownsRow_sorted (w := w) (n := q) (os := #[]) (ss := l) (ts := (l.filter fun x => !isNil x) ++ List.replicate (l.length - (l.filter fun x => !isNil x).length) []) hts hbase hb h1 h2 h3
  rw [grow_empty] at ho2
  have hg2 := grownBy_sorted (w := w) (g := g) (n := q) (os := #[]) ((l.filter fun x => !isNil x) ++ List.replicate (l.length - (l.filter fun x => !isNil x).length) []).toArray
  rw [grow_empty] at hg2
  obtain ⟨_, hs⟩ := own_sl' ho2
  have hs2 := hs.take (l.filter fun x => !isNil x).length hle
  rw [← List.map_take, List.take_left] at hs2
  refine ⟨g, c, rfl, hs2, Nat.le_trans hle h1, Below.grown (Below.refl B w) hg2 hB (fun k hk => by injection hk with hk; omega), ?_⟩
  have := (ho2.lt g rfl).2
  exact this
theorem join_any (l : List (List UInt8)) (g n c : Nat) (w : World) (hs : Sl w (some ⟨g, 0, none⟩) n (l.map strv)) (hc : n ≤ c) (hg : g < w.heap.size) (hl : l.length ≤ 1048576) (hj : (Lib.join l [45]).length ≤ 140737488355328) :
 Calls Tryz.prog 173 #[.slice (some ⟨g, 0, none⟩) n c, .string ⟨#[45]⟩] w fun e w' => e = .returned (strv (Lib.join l [45])) ∧ Ext w w' := by
 have hn : l.length = n := by have := hs.1; rwa [List.length_map] at this
 have e1 : (l.map fun x => (⟨x.toArray⟩ : ByteArray)).map (·.data.toList) = l := by
  rw [List.map_map]
  conv => rhs; rw [← List.map_id l]
  apply List.map_congr_left
  intro x _
  rfl
 have h := Tryz.strings_Join g 0 c (l.map fun x => ⟨x.toArray⟩) ⟨#[45]⟩ w (fun j x hx => by
  rw [List.getElem?_map] at hx
  cases hy : l[j]? with
  | none => rw [hy] at hx; cases hx
  | some y =>
    rw [hy] at hx
    injection hx with hx
    subst hx
    obtain ⟨ad, ha, _, hcell⟩ := hs.2 j (strv y) (by rw [List.getElem?_map, hy]; rfl)
    injection ha with ha
    subst ha
    rw [add_at] at hcell
    rw [Nat.zero_add]
    exact hcell) hg (by rw [List.length_map]; omega) (by rw [List.length_map]; omega) (by rw [e1]; exact hj)
 rw [List.length_map, hn, e1] at h
 exact h
theorem ttext_any (t : TagP) (A : Option Addr) (n c : Nat) (w : World) (hA : Sl w A n (t.vars.map strv)) (hn : n ≤ 60000) (hj : (textP t).length ≤ 1048576) :
 Calls Tryz.prog 118 #[tagV t A n c] w fun e w' => e = .returned (strv (textP t)) ∧ Ext w w' := by
 obtain ⟨i0, hi, hz0, hz1, hz2⟩ := info_parts (show (Tryz.prog.info? 9).map (fun i => (i.zero, i.size, i.bytes)) = some (some (.string ⟨#[]⟩), 1, 16) from by kernel_rfl)
 have hl : t.vars.length = n := by have := hA.1; rwa [List.length_map] at this
 have HA := hid hA
 have HL := hid hl
 have HJ := hid hj
 have hlit := World.ownsRow_lit (base := w.heap.size) (e := 9) (size := 1) (w.alloc (.cells #[strv t.lang, strv t.script, strv t.region, .slice A n c] 143)) #[strv t.lang, strv t.script, strv t.region] 3 (by simp) (by unfold maxLen; omega) rfl
 rw [show (w.alloc (.cells #[strv t.lang, strv t.script, strv t.region, .slice A n c] 143)).heap.size = w.heap.size + 1 from by simp] at hlit
 have HLIT := hid hlit
 clear hA hl hj hlit
 unfold tagV
 unfold strv at HLIT ⊢
 go_enter Tryz.func118, Tryz.ntmps118
 go_wp2_with (at_builtin; refine wpList_app _ rfl _ _ 35 rfl w.heap.size 9 i0 _ 16 Tryz.underlying35 hi hz0 hz1 hz2 rfl _ 3 _ rfl HLIT.out _ n _ (t.vars.map strv) rfl (HA.out.ext (((Ext.refl w).alloc _).alloc _)) (strv_one _) (by unfold maxLen; omega) (by omega) (by simp; omega) ?_; intro v1 w1 hown1 hgrow1; have HX1 := hid (ext_grown (a := w) (B := w.heap.size) (((Ext.refl w).alloc _).alloc _) HLIT.out (Nat.le_refl _) hgrow1); have HO1 := hid hown1; clear hown1 hgrow1)
 have ho2 : w1.ownsRow w.heap.size 9 1 v1 (t.lang :: t.script :: t.region :: t.vars).length ((t.lang :: t.script :: t.region :: t.vars).map strv) := by
  have h := HO1.out
  rw [show 3 + n = (t.lang :: t.script :: t.region :: t.vars).length from by simp [HL.out]; omega] at h
  exact h
 have hlen : (t.lang :: t.script :: t.region :: t.vars).length ≤ 1048576 := by simp [HL.out]; omega
 obtain ⟨A1, c1, rfl, _, _⟩ := own_sl ho2
 refine (delete_any _ _ _ _ _ _ ho2 hlen (by simp) (Ext.size HX1.out)).mono ?_
 rintro e w2 ⟨g2, c2, rfl, hs2, hc2, hb2, hg2⟩
 have hp : ((t.lang :: t.script :: t.region :: t.vars).filter fun x => !isNil x) = partsP t := rfl
 rw [hp] at hs2 hc2 ⊢
 have HX2 := hid (HX1.out.trans' hb2 (Nat.le_refl _))
 have hlp : (partsP t).length ≤ 1048576 := Nat.le_trans (List.length_filter_le _ _) hlen
 clear ho2 hlen hb2 hp
 go_wp2_with fail
 refine (join_any (partsP t) g2 _ c2 w2 hs2 hc2 hg2 hlp (by have := HJ.out; unfold textP at this; omega)).mono ?_
 rintro e w3 ⟨rfl, hw3⟩
 have HX3 := hid (HX2.out.trans hw3)
 clear hw3 hs2
 go_wp2
 go_ret
 exact ⟨rfl, HX3.out⟩
end Go.Proofs.YtljdlkonlnjadaaGreatDoor
namespace Go.Proofs.YtljdlkonlnjadaaGreatDoor
open Go.RowKit
def txtOf (t : TagP) : List UInt8 := if validP t then textP t else []
theorem TL_of {t : TagP} (h : validP t = true) : TL t := by
 have h2 := h
 simp only [validP, Bool.and_eq_true, decide_eq_true_eq] at h
 obtain ⟨⟨⟨⟨⟨v1, v2⟩, v3⟩, v4⟩, v5⟩, v6⟩ := h
 refine ⟨?_, ?_, ?_, ?_, by omega⟩
 ·simp [langB] at v1; omega
 ·by_cases hs : t.script = []
  ·simp [hs]
  ·have : scriptB t.script = true := by simpa [hs] using v2
   simp [scriptB] at this; omega
 ·by_cases hs : t.region = []
  ·simp [hs]
  ·have : regionB t.region = true := by simpa [hs] using v3
   simp [regionB] at this; omega
 ·intro x hx
  have := List.all_eq_true.1 v4 x hx
  simp [variantB] at this
  omega
theorem TL_zero : TL TagP.zero := ⟨by simp [TagP.zero], by simp [TagP.zero], by simp [TagP.zero], by simp [TagP.zero], by simp [TagP.zero]⟩
theorem tText_any (t : TagP) (A : Option Addr) (n c : Nat) (w : World) (hA : Sl w A n (t.vars.map strv)) (ht : TL t) :
 Calls Tryz.prog 106 #[tagV t A n c] w fun e w' => e = .returned (strv (txtOf t)) ∧ Ext w w' := by
 have hl : t.vars.length = n := by have := hA.1; rwa [List.length_map] at this
 have hn : n ≤ 60000 := by rw [← hl]; exact ht.2.2.2.2
 have HA := hid hA
 have HT := hid ht
 clear hA ht hl
 cases hv : validP t with
 | false =>
   have HV := hid hv
   have ho : txtOf t = [] := by unfold txtOf; rw [hv]; rfl
   rw [ho]
   clear hv ho
   go_enter Tryz.func106, Tryz.ntmps106
   unfold tagV strv
   go_wp2_with fail
   have h2 := tvalid_any t A n c (w.alloc (.cells #[strv t.lang, strv t.script, strv t.region, .slice A n c] 143)) (HA.out.ext ((Ext.refl w).alloc _)) HT.out
   rw [HV.out] at h2
   unfold tagV strv at h2
   with_reducible refine h2.mono ?_
   clear h2
   rintro e w2 ⟨rfl, hw2⟩
   have HW2 := hid (((Ext.refl w).alloc _).trans hw2)
   clear hw2
   go_wp2
   go_ret
   exact ⟨rfl, HW2.out⟩
 | true =>
   have HV := hid hv
   have ho : txtOf t = textP t := by unfold txtOf; rw [hv]; rfl
   have HJ := hid (textP_len hv)
   rw [ho]
   clear hv ho
   go_enter Tryz.func106, Tryz.ntmps106
   unfold tagV strv
   go_wp2_with fail
   have h2 := tvalid_any t A n c (w.alloc (.cells #[strv t.lang, strv t.script, strv t.region, .slice A n c] 143)) (HA.out.ext ((Ext.refl w).alloc _)) HT.out
   rw [HV.out] at h2
   unfold tagV strv at h2
   with_reducible refine h2.mono ?_
   clear h2
   rintro e w2 ⟨rfl, hw2⟩
   have HW2 := hid (((Ext.refl w).alloc _).trans hw2)
   obtain ⟨⟨p0, p1, p2, p3⟩, _⟩ := (AtT.ext (AtT.new w : AtT 143 (w.alloc (.cells #[.string ⟨t.lang.toArray⟩, .string ⟨t.script.toArray⟩, .string ⟨t.region.toArray⟩, .slice A n c] 143)) w.heap.size _ _ _ _) hw2).cells
   clear hw2
   go_wp2_with fail
   have h3 := ttext_any t A n c w2 (HA.out.ext HW2.out) hn (by have := HJ.out; omega)
   unfold tagV strv at h3
   with_reducible refine h3.mono ?_
   clear h3
   rintro e w3 ⟨rfl, hw3⟩
   have HW3 := hid (HW2.out.trans hw3)
   clear hw3
   go_wp2
   go_ret
   exact ⟨rfl, HW3.out⟩
def canP (s : List UInt8) : List UInt8 × Int := (if (parseP EC s).2 = 0 then textP (parseP EC s).1 else [], (parseP EC s).2)
theorem EC_ne : EC.dup ≠ 0 ∧ EC.lim ≠ 0 ∧ EC.syn ≠ 0 := ⟨by decide, by decide, by decide⟩
theorem parse_ok {s : List UInt8} (h : (parseP EC s).2 = 0) : validP (parseP EC s).1 = true := parse_valid EC EC_ne s _ (by rw [← h])
end Go.Proofs.YtljdlkonlnjadaaGreatDoor
namespace Go.Proofs.YtljdlkonlnjadaaGreatDoor
open Go.RowKit
theorem n_le {w : World} {A : Option Addr} {n : Nat} {t : TagP} (h : Sl w A n (t.vars.map strv)) (ht : TL t) : n ≤ 60000 := by
 have h1 := h.1
 rw [List.length_map] at h1
 rw [← h1]
 exact ht.2.2.2.2
theorem set4 {T : TypeId} {w : World} {g : Nat} {v0 v1 v2 v3 : Value} (h : AtT T w g v0 v1 v2 v3) (u0 u1 u2 u3 : Value) :
 AtT T ((((w.setCell ⟨g, 0, none⟩ u0).setCell ⟨g, 1, none⟩ u1).setCell ⟨g, 2, none⟩ u2).setCell ⟨g, 3, none⟩ u3) g u0 u1 u2 u3 := (((h.set0 u0).set1 u1).set2 u2).set3 u3
theorem set4_kept (w : World) (g : Nat) (u0 u1 u2 u3 : Value) : w.heap.size ≤ ((((w.setCell ⟨g, 0, none⟩ u0).setCell ⟨g, 1, none⟩ u1).setCell ⟨g, 2, none⟩ u2).setCell ⟨g, 3, none⟩ u3).heap.size ∧ ∀ b, b ≠ g → ((((w.setCell ⟨g, 0, none⟩ u0).setCell ⟨g, 1, none⟩ u1).setCell ⟨g, 2, none⟩ u2).setCell ⟨g, 3, none⟩ u3).heap[b]? = w.heap[b]? := by
 refine ⟨by simp [World.setCell], fun b hb => ?_⟩
 rw [heap_setCell_other _ _ _ _ (by exact hb), heap_setCell_other _ _ _ _ (by exact hb), heap_setCell_other _ _ _ _ (by exact hb), heap_setCell_other _ _ _ _ (by exact hb)]
end Go.Proofs.YtljdlkonlnjadaaGreatDoor
namespace Go.Proofs.YtljdlkonlnjadaaGreatDoor
open Go.RowKit
def eqP (t u : TagP) : Bool := t.lang == u.lang && t.script == u.script && t.region == u.region && t.vars == u.vars
def isP (s : List UInt8) : Bool := (canP s).2 == 0 && (canP s).1 == s
end Go.Proofs.YtljdlkonlnjadaaGreatDoor
namespace Go.Proofs.YtljdlkonlnjadaaGreatDoor
open Go.RowKit
theorem sleq_any (xs ys : List (List UInt8)) (A B : Option Addr) (n m ca cb : Nat) (w : World) (hA : Sl w A n (xs.map strv)) (hB : Sl w B m (ys.map strv)) (hn : n ≤ 1048576) (hm : m ≤ 1048576) :
 Calls Tryz.prog 113 #[.slice A n ca, .slice B m cb] w fun e w' => e = .returned (.bool (xs == ys)) ∧ Ext w w' := by
 have hx : xs.length = n := by have := hA.1; rwa [List.length_map] at this
 have hy : ys.length = m := by have := hB.1; rwa [List.length_map] at this
 by_cases hnm : n = m
 ·by_cases h0 : n = 0
  ·subst h0
   have hm0 : m = 0 := hnm.symm
   subst hm0
   have hx0 : xs = [] := List.eq_nil_of_length_eq_zero hx
   have hy0 : ys = [] := List.eq_nil_of_length_eq_zero hy
   subst hx0; subst hy0
   refine (Tryz.slices_Equal_string_empty A B ca 0 cb w (by omega)).mono ?_
   rintro e w' ⟨rfl, rfl⟩
   exact ⟨rfl, Ext.refl _⟩
  ·cases A with
   | none => exact absurd (none_nil hA) h0
   | some a =>
     cases B with
     | none => exact absurd (none_nil hB) (by omega)
     | some b =>
       obtain ⟨b1, o1, rfl, _⟩ := addr_flat hA (by omega)
       obtain ⟨b2, o2, rfl, _⟩ := addr_flat hB (by omega)
       have cells : ∀ (zs : List (List UInt8)) (b o k : Nat), Sl w (some ⟨b, o, none⟩) k (zs.map strv) → ∀ j, j < (zs.map fun x => (⟨x.toArray⟩ : ByteArray)).length → w.cell? ⟨b, o + j, none⟩ = some (.string ((zs.map fun x => (⟨x.toArray⟩ : ByteArray)).getD j ByteArray.empty)) := by
        intro zs b o k hs j hj
        rw [List.length_map] at hj
        obtain ⟨ad, ha, _, hcell⟩ := hs.2 j (strv zs[j]) (by rw [List.getElem?_map, List.getElem?_eq_getElem hj]; rfl)
        injection ha with ha
        subst ha
        rw [add_flat] at hcell
        rw [hcell]
        simp [List.getD_eq_getElem?_getD, hj, strv]
       have h := Tryz.slices_Equal_string b1 o1 n ca b2 o2 m cb (xs.map fun x => ⟨x.toArray⟩) (ys.map fun x => ⟨x.toArray⟩) w (by rw [List.length_map]; omega) (by rw [List.length_map]; omega) (by omega) (by omega) (cells xs b1 o1 n hA) (cells ys b2 o2 m hB)
       refine h.mono ?_
       rintro e w' ⟨rfl, q, rfl⟩
       refine ⟨ret_bool ?_, (Ext.refl w).drewN q⟩
       rw [List.take_of_length_le (by rw [List.length_map]; omega), List.take_of_length_le (by rw [List.length_map]; omega), Bool.eq_iff_iff]
       simp only [decide_eq_true_eq, beq_iff_eq]
       constructor
       ·intro h
        have h2 := congrArg (List.map fun b : ByteArray => b.data.toList) h
        simpa [List.map_map, Function.comp_def] using h2
       ·rintro rfl; rfl
 ·refine (Tryz.slices_Equal_string_lens A B n ca m cb w hnm).mono ?_
  rintro e w' ⟨rfl, rfl⟩
  refine ⟨ret_bool ?_, Ext.refl _⟩
  symm
  rw [beq_eq_false_iff_ne]
  intro h
  subst h
  omega
end Go.Proofs.YtljdlkonlnjadaaGreatDoor
namespace Go.Proofs.YtljdlkonlnjadaaGreatDoor
open Go.RowKit
set_option maxHeartbeats 1000000 in
theorem tequal_any (t u : TagP) (A B : Option Addr) (n c m d : Nat) (w : World) (hA : Sl w A n (t.vars.map strv)) (hB : Sl w B m (u.vars.map strv)) (hn : n ≤ 60000) (hm : m ≤ 60000) :
 Calls Tryz.prog 170 #[tagV t A n c, tagV u B m d] w fun e w' => e = .returned (.bool (eqP t u)) ∧ Ext w w' := by
 obtain ⟨lb, hl1, hl2⟩ := strv_b t.lang
 obtain ⟨sb, hs1, hs2⟩ := strv_b t.script
 obtain ⟨rb, hr1, hr2⟩ := strv_b t.region
 obtain ⟨lc, hl3, hl4⟩ := strv_b u.lang
 obtain ⟨sc, hs3, hs4⟩ := strv_b u.script
 obtain ⟨rc, hr3, hr4⟩ := strv_b u.region
 have he : eqP t u = ((lb.toList == lc.toList) && (sb.toList == sc.toList) && (rb.toList == rc.toList) && (t.vars == u.vars)) := by
  unfold eqP
  rw [eq_b, eq_b, eq_b, hl2, hs2, hr2, hl4, hs4, hr4]
 unfold tagV
 rw [hl1, hs1, hr1, hl3, hs3, hr3, he]
 have HA := hid (hA.ext (((Ext.refl w).alloc (.cells #[.string lb, .string sb, .string rb, .slice A n c] 143)).alloc (.cells #[.string lc, .string sc, .string rc, .slice B m d] 143)))
 have HB := hid (hB.ext (((Ext.refl w).alloc (.cells #[.string lb, .string sb, .string rb, .slice A n c] 143)).alloc (.cells #[.string lc, .string sc, .string rc, .slice B m d] 143)))
 clear hl1 hs1 hr1 hl2 hs2 hr2 hl3 hs3 hr3 hl4 hs4 hr4 he hA hB
 have hcall := sleq_any _ _ _ _ _ _ c d _ HA.out HB.out (by omega) (by omega)
 generalize (t.vars == u.vars) = bv at hcall ⊢
 have HC := hid hcall
 clear hcall
 cases h1 : (lb.toList == lc.toList) <;> cases h2 : (sb.toList == sc.toList) <;> cases h3 : (rb.toList == rc.toList)
 all_goals
  go_enter Tryz.func170, Tryz.ntmps170
  go_wp2_with (go_at_call 113; with_reducible refine HC.out.mono ?_; rintro e w1 ⟨rfl, hw1⟩; have HW1 := hid hw1; clear hw1)
  go_ret
  first
   | exact ⟨rfl, ((Ext.refl w).alloc _).alloc _⟩
   | exact ⟨by simp, (((Ext.refl w).alloc _).alloc _).trans HW1.out⟩
end Go.Proofs.YtljdlkonlnjadaaGreatDoor
namespace Go.Proofs.YtljdlkonlnjadaaGreatDoor
open Go.RowKit
theorem isP_parse {s : List UInt8} (h : isP s = true) : (parseP EC s).2 = 0 ∧ validP (parseP EC s).1 = true ∧ textP (parseP EC s).1 = s := by
 unfold isP canP at h
 simp only [Bool.and_eq_true, beq_iff_eq] at h
 obtain ⟨h1, h2⟩ := h
 rw [if_pos h1] at h2
 exact ⟨h1, parse_ok h1, h2⟩
def ruleOf (a : ByteArray × ByteArray) : RuleP := ⟨(parseP EC a.1.data.toList).1, (parseP EC a.2.data.toList).1⟩
def aliB (a : ByteArray × ByteArray) : Bool := isP a.1.data.toList && isP a.2.data.toList && !(a.1.data.toList == undP)
theorem ali_ok {a : ByteArray × ByteArray} (h : aliB a = true) : okR (ruleOf a) := by
 unfold aliB at h
 simp only [Bool.and_eq_true] at h
 exact ⟨(isP_parse h.1.1).2.1, (isP_parse h.1.2).2.1⟩
theorem TL_parse (s : List UInt8) : TL (parseP EC s).1 := by
 by_cases h0 : (parseP EC s).2 = 0
 ·exact TL_of (parse_ok h0)
 ·rw [parse_zero EC s h0]
  exact TL_zero
structure RV where
 r : RuleP
 A : Option Addr
 n : Nat
 c : Nat
 B : Option Addr
 m : Nat
 d : Nat
def rvC (x : RV) : List Value := [strv x.r.f.lang, strv x.r.f.script, strv x.r.f.region, .slice x.A x.n x.c, strv x.r.o.lang, strv x.r.o.script, strv x.r.o.region, .slice x.B x.m x.d]
def RvOk (w : World) (x : RV) : Prop := Sl w x.A x.n (x.r.f.vars.map strv) ∧ Sl w x.B x.m (x.r.o.vars.map strv)
theorem RvOk.ext {w w' : World} {x : RV} (h : RvOk w x) (hw : Ext w w') : RvOk w' x := ⟨h.1.ext hw, h.2.ext hw⟩
def Rules (w : World) (A : Option Addr) (n : Nat) (xs : List RV) : Prop := SlN w A n 8 (xs.flatMap rvC) ∧ ∀ x ∈ xs, RvOk w x
theorem Rules.ext {w w' : World} {A : Option Addr} {n : Nat} {xs : List RV} (h : Rules w A n xs) (hw : Ext w w') : Rules w' A n xs := ⟨h.1.ext hw, fun x hx => (h.2 x hx).ext hw⟩
theorem Rules.len {w : World} {A : Option Addr} {n : Nat} {xs : List RV} (h : Rules w A n xs) : xs.length = n := by
 have h1 := h.1.1
 rw [flat_len rvC 8 (fun _ => rfl)] at h1
 omega
theorem Rules.at_ {w : World} {A : Option Addr} {n : Nat} {xs : List RV} (h : Rules w A n xs) {k : Nat} {x : RV} (hx : xs[k]? = some x) :
 ∃ b o, A = some ⟨b, o, none⟩ ∧ b < w.heap.size ∧ ∀ j u, (rvC x)[j]? = some u → w.cell? ⟨b, o + (k * 8 + j), none⟩ = some u := by
 have g0 := flat_get rvC 8 (fun _ => rfl) xs k 0 x hx (by omega)
 obtain ⟨b, o, rfl, hb, h0⟩ := h.1.2 _ _ g0
 refine ⟨b, o, rfl, hb, fun j u hu => ?_⟩
 have hj : j < 8 := (List.getElem?_eq_some_iff.1 hu).1
 have g1 := flat_get rvC 8 (fun _ => rfl) xs k j x hx hj
 rw [hu] at g1
 obtain ⟨b', o', e, _, h1⟩ := h.1.2 _ _ g1
 injection e with e
 injection e with e1 e2 _
 subst e1; subst e2
 exact h1
end Go.Proofs.YtljdlkonlnjadaaGreatDoor
namespace Go.Proofs.YtljdlkonlnjadaaGreatDoor
abbrev Ali := ByteArray × ByteArray
def stepsL (l : List Ali) (s : List UInt8) : List (List UInt8) × Int :=
 if l.all aliB = true then (if (parseP EC s).2 = 0 then ((stepsP 6 15 (l.map ruleOf) 20 (parseP EC s).1).1.map textP, (stepsP 6 15 (l.map ruleOf) 20 (parseP EC s).1).2) else ([], (parseP EC s).2)) else ([], 1)
def canL (l : List Ali) (s : List UInt8) : List UInt8 × Int := (if (stepsL l s).2 = 0 then (stepsL l s).1.getLastD [] else [], (stepsL l s).2)
theorem rules_ok {l : List Ali} (h : l.all aliB = true) : ∀ r ∈ l.map ruleOf, okR r := by
 intro r hr
 obtain ⟨a, ha, rfl⟩ := List.mem_map.1 hr
 exact ali_ok (List.all_eq_true.1 h a ha)
theorem steps_shape {l : List Ali} {s : List UInt8} (h : (stepsL l s).2 = 0) : ∃ xs e, stepsP 6 15 (l.map ruleOf) 20 (parseP EC s).1 = (xs ++ [e], 0) ∧ (stepsL l s).1 = (xs ++ [e]).map textP ∧ xs.length ≤ 20 ∧ validP e = true ∧ stepP (l.map ruleOf) e = none ∧
 l.all aliB = true ∧ (parseP EC s).2 = 0 := by
 unfold stepsL at h ⊢
 by_cases ha : l.all aliB = true
 ·rw [if_pos ha] at h ⊢
  by_cases hp : (parseP EC s).2 = 0
  ·rw [if_pos hp] at h ⊢
   simp only at h ⊢
   obtain ⟨xs, e, h1, h2, h3, h4, _, _⟩ := steps_end (by decide) (by decide) (rules_ok ha) 20 _ (parse_ok hp) h
   exact ⟨xs, e, Prod.ext h1 h, by rw [h1], h2, h3, h4, ha, hp⟩
  ·rw [if_neg hp] at h; exact absurd h hp
 ·rw [if_neg ha] at h; exact absurd h (by decide)
theorem last_map (xs : List TagP) (e : TagP) : ((xs ++ [e]).map textP).getLastD [] = textP e := by simp
theorem can_shape {l : List Ali} {s : List UInt8} (h : (canL l s).2 = 0) : ∃ e, (canL l s).1 = textP e ∧ validP e = true ∧ stepP (l.map ruleOf) e = none ∧ l.all aliB = true := by
 have h' : (stepsL l s).2 = 0 := h
 obtain ⟨xs, e, _, h2, _, h3, h4, h5, _⟩ := steps_shape h'
 refine ⟨e, ?_, h3, h4, h5⟩
 unfold canL
 rw [if_pos h', h2, last_map]
theorem can_bad {l : List Ali} {s : List UInt8} (h : (canL l s).2 ≠ 0) : (canL l s).1 = [] := by
 have h' : (stepsL l s).2 ≠ 0 := h
 unfold canL
 rw [if_neg h']
theorem canL_nil (s : List UInt8) : canL [] s = canP s := by
 unfold canL canP stepsL
 simp only [List.all_nil, if_true, List.map_nil]
 by_cases hp : (parseP EC s).2 = 0
 ·rw [if_pos hp, if_pos hp, steps_none (by rfl)]
  simp [hp]
 ·rw [if_neg hp, if_neg hp]
  simp [hp]
end Go.Proofs.YtljdlkonlnjadaaGreatDoor
