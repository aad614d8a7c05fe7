import Derived.Test.YtehcldnicefmeaaGreatDoorTagP
import Derived.Test.YtehcldnicefmeaaGreatDoorVal
import Derived.Test.YtehcldnicefmeaaGreatDoorNX2
import Derived.Lib.SliceRun
import Derived.Test.YtehcldnicefmeaaGreatDoorNX4
namespace Go.Proofs.YtehcldnicefmeaaGreatDoor
open Go.RowKit Go.Sort
set_option linter.unusedSimpArgs false
set_option linter.unusedVariables false

def isNil (x : List UInt8) : Bool := x == []
theorem nil_gives (x : List UInt8) (W : World) : FnGives Tryz.prog 196 #[] #[encStr x] (.bool (isNil x)) W := by
  obtain ⟨xb, hx1, rfl⟩ := strv_b x
  show Calls Tryz.prog 196 #[strv xb.data.toList] W _
  rw [hx1]
  have hb : isNil xb.data.toList = (xb.toList == []) := by unfold isNil; rw [ByteArray.toList_eq]
  have HB := Lib.hid hb
  clear hb
  go_enter Tryz.func196, Tryz.ntmps196
  go_wp2
  go_ret
  exact ⟨by rw [HB.out]; simp, 0, rfl⟩

theorem delete_any (l : List (List UInt8)) (A : Option Addr) (n c B : Nat) (w : World) (ho : w.ownsRow B 9 1 (.slice A n c) l.length (l.map strv)) (hl : l.length ≤ 1048576) (h0 : 0 < l.length) (hB : B ≤ w.heap.size) :
    Calls Tryz.prog 195 #[.slice A n c, .func (.func 196) #[] #[]] w fun e w' => ∃ g c', e = .returned (.slice (some ⟨g, 0, none⟩) (l.filter fun x => !isNil x).length c') ∧ Sl w' (some ⟨g, 0, none⟩) (l.filter fun x => !isNil x).length ((l.filter fun x => !isNil x).map strv) ∧ (l.filter fun x => !isNil x).length ≤ c' ∧ Below B w w' ∧ g < w'.heap.size := by
  have eg : ∀ args w, (callFunc 196 args).run Tryz.prog w = .ok (.enter 196 args) w := enters_of Tryz.func196 (by kernel_rfl) rfl
  rcases ho.2 with ⟨hv, hx⟩ | ⟨g, cap, cur, hv, hbase, hb, h1, h2, h3, h4⟩
  · have hl0 : l = [] := by simpa using hx
    subst hl0
    simp at h0
  · injection hv with hv1 hv2 hv3
    subst hv1; subst hv2; subst hv3
    have hH : Holds encStr w g 0 l.toArray := holds_of_block hb (by rw [Nat.mul_one] at h4; exact h4)
    have hc := Tryz.slices_DeleteFunc encStr (fun _ => rfl) isNil 196 #[] eg [] Tryz.zeroValue9 g 0 c l.toArray w
      (fun W x hb => nil_gives x W) (fun n os dk x _ => nil_gives x _) hH (by simp; omega) (by simpa using h1)
    simp only [List.size_toArray] at hc
    refine hc.mono ?_
    rintro e w' ⟨rfl, q, rfl⟩
    have hle : (l.filter fun x => !isNil x).length ≤ l.length := List.length_filter_le _ _
    have hts : ((l.filter fun x => !isNil x) ++ List.replicate (l.length - (l.filter fun x => !isNil x).length) []).length = l.length := by simp; omega
    have ho2 := ownsRow_sorted (w := w) (n := q) (os := #[]) (ss := l) (ts := (l.filter fun x => !isNil x) ++ List.replicate (l.length - (l.filter fun x => !isNil x).length) []) hts hbase hb h1 h2 h3
    rw [grow_empty] at ho2
    have hg2 := grownBy_sorted (w := w) (g := g) (n := q) (os := #[]) ((l.filter fun x => !isNil x) ++ List.replicate (l.length - (l.filter fun x => !isNil x).length) []).toArray
    rw [grow_empty] at hg2
    obtain ⟨_, hs⟩ := own_sl' ho2
    have hs2 := hs.take (l.filter fun x => !isNil x).length hle
    rw [← List.map_take, List.take_left] at hs2
    refine ⟨g, c, rfl, hs2, Nat.le_trans hle h1, Below.grown (Below.refl B w) hg2 hB (fun k hk => by injection hk with hk; omega), ?_⟩
    have := (ho2.lt g rfl).2
    exact this

theorem join_any (l : List (List UInt8)) (g n c : Nat) (w : World) (hs : Sl w (some ⟨g, 0, none⟩) n (l.map strv)) (hc : n ≤ c) (hg : g < w.heap.size) (hl : l.length ≤ 1048576) (hj : (Lib.join l [45]).length ≤ 140737488355328) :
    Calls Tryz.prog 194 #[.slice (some ⟨g, 0, none⟩) n c, .string ⟨#[45]⟩] w fun e w' => e = .returned (strv (Lib.join l [45])) ∧ Ext w w' := by
  have hn : l.length = n := by have := hs.1; rwa [List.length_map] at this
  have e1 : (l.map fun x => (⟨x.toArray⟩ : ByteArray)).map (·.data.toList) = l := by
    rw [List.map_map]
    conv => rhs; rw [← List.map_id l]
    apply List.map_congr_left
    intro x _
    rfl
  have h := Tryz.strings_Join g 0 c (l.map fun x => ⟨x.toArray⟩) ⟨#[45]⟩ w (fun j x hx => by
    rw [List.getElem?_map] at hx
    cases hy : l[j]? with
    | none => rw [hy] at hx; cases hx
    | some y =>
      rw [hy] at hx
      injection hx with hx
      subst hx
      obtain ⟨ad, ha, _, hcell⟩ := hs.2 j (strv y) (by rw [List.getElem?_map, hy]; rfl)
      injection ha with ha
      subst ha
      rw [add_at] at hcell
      rw [Nat.zero_add]
      exact hcell) hg (by rw [List.length_map]; omega) (by rw [List.length_map]; omega) (by rw [e1]; exact hj)
  rw [List.length_map, hn, e1] at h
  exact h

set_option maxRecDepth 100000 in
theorem ttext_any (t : TagP) (A : Option Addr) (n c : Nat) (w : World) (hA : Sl w A n (t.vars.map strv)) (hn : n ≤ 60000) (hj : (textP t).length ≤ 1048576) :
    Calls Tryz.prog 141 #[tagV t A n c] w fun e w' => e = .returned (strv (textP t)) ∧ Ext w w' := by
  obtain ⟨i0, hi, hz0, hz1, hz2⟩ := info_parts (show (Tryz.prog.info? 9).map (fun i => (i.zero, i.size, i.bytes)) = some (some (.string ⟨#[]⟩), 1, 16) from by kernel_rfl)
  have hl : t.vars.length = n := by have := hA.1; rwa [List.length_map] at this
  have HA := Lib.hid hA
  have HL := Lib.hid hl
  have HJ := Lib.hid hj
  have hlit := World.ownsRow_lit (base := w.heap.size) (e := 9) (size := 1) (w.alloc (.cells #[strv t.lang, strv t.script, strv t.region, .slice A n c] 159)) #[strv t.lang, strv t.script, strv t.region] 3 (by simp) (by unfold maxLen; omega) rfl
  rw [show (w.alloc (.cells #[strv t.lang, strv t.script, strv t.region, .slice A n c] 159)).heap.size = w.heap.size + 1 from by simp] at hlit
  have HLIT := Lib.hid hlit
  clear hA hl hj hlit
  unfold tagV
  unfold strv at HLIT ⊢
  go_enter Tryz.func141, Tryz.ntmps141
  go_wp2_with (at_builtin; refine wpList_app _ rfl _ _ 29 rfl w.heap.size 9 i0 _ 16 Tryz.underlying29 hi hz0 hz1 hz2 rfl _ 3 _ rfl HLIT.out _ n _ (t.vars.map strv) rfl (HA.out.ext (((Ext.refl w).alloc _).alloc _)) (strv_one _) (by unfold maxLen; omega) (by omega) (by simp; omega) ?_; intro v1 w1 hown1 hgrow1; have HX1 := Lib.hid (ext_grown (a := w) (B := w.heap.size) (((Ext.refl w).alloc _).alloc _) HLIT.out (Nat.le_refl _) hgrow1); have HO1 := Lib.hid hown1; clear hown1 hgrow1)
  have ho2 : w1.ownsRow w.heap.size 9 1 v1 (t.lang :: t.script :: t.region :: t.vars).length ((t.lang :: t.script :: t.region :: t.vars).map strv) := by
    have h := HO1.out
    rw [show 3 + n = (t.lang :: t.script :: t.region :: t.vars).length from by simp [HL.out]; omega] at h
    exact h
  have hlen : (t.lang :: t.script :: t.region :: t.vars).length ≤ 1048576 := by simp [HL.out]; omega
  obtain ⟨A1, c1, rfl, _, _⟩ := own_sl ho2
  refine (delete_any _ _ _ _ _ _ ho2 hlen (by simp) (Ext.size HX1.out)).mono ?_
  rintro e w2 ⟨g2, c2, rfl, hs2, hc2, hb2, hg2⟩
  have hp : ((t.lang :: t.script :: t.region :: t.vars).filter fun x => !isNil x) = partsP t := rfl
  rw [hp] at hs2 hc2 ⊢
  have HX2 := Lib.hid (HX1.out.trans' hb2 (Nat.le_refl _))
  have hlp : (partsP t).length ≤ 1048576 := Nat.le_trans (List.length_filter_le _ _) hlen
  clear ho2 hlen hb2 hp
  go_wp2_with fail
  refine (join_any (partsP t) g2 _ c2 w2 hs2 hc2 hg2 hlp (by have := HJ.out; unfold textP at this; omega)).mono ?_
  rintro e w3 ⟨rfl, hw3⟩
  have HX3 := Lib.hid (HX2.out.trans hw3)
  clear hw3 hs2
  go_wp2
  go_ret
  exact ⟨rfl, HX3.out⟩
end Go.Proofs.YtehcldnicefmeaaGreatDoor
namespace Go.Proofs.YtehcldnicefmeaaGreatDoor
open Go.RowKit
set_option linter.unusedSimpArgs false
set_option linter.unusedVariables false

/-- What is handed back in place of a text. -/
def txtOf (t : TagP) : List UInt8 := if validP t then textP t else []
theorem TL_of {t : TagP} (h : validP t = true) : TL t := by
  have h2 := h
  simp only [validP, Bool.and_eq_true, decide_eq_true_eq] at h
  obtain ⟨⟨⟨⟨⟨v1, v2⟩, v3⟩, v4⟩, v5⟩, v6⟩ := h
  refine ⟨?_, ?_, ?_, ?_, by omega⟩
  · simp [langB] at v1; omega
  · by_cases hs : t.script = []
    · simp [hs]
    · have : scriptB t.script = true := by simpa [hs] using v2
      simp [scriptB] at this; omega
  · by_cases hs : t.region = []
    · simp [hs]
    · have : regionB t.region = true := by simpa [hs] using v3
      simp [regionB] at this; omega
  · intro x hx
    have := List.all_eq_true.1 v4 x hx
    simp [variantB] at this
    omega
theorem TL_zero : TL TagP.zero := ⟨by simp [TagP.zero], by simp [TagP.zero], by simp [TagP.zero], by simp [TagP.zero], by simp [TagP.zero]⟩

set_option maxRecDepth 100000 in
theorem tText_any (t : TagP) (A : Option Addr) (n c : Nat) (w : World) (hA : Sl w A n (t.vars.map strv)) (ht : TL t) :
    Calls Tryz.prog 125 #[tagV t A n c] w fun e w' => e = .returned (strv (txtOf t)) ∧ Ext w w' := by
  have hl : t.vars.length = n := by have := hA.1; rwa [List.length_map] at this
  have hn : n ≤ 60000 := by rw [← hl]; exact ht.2.2.2.2
  have HA := Lib.hid hA
  have HT := Lib.hid ht
  clear hA ht hl
  cases hv : validP t with
  | false =>
    have HV := Lib.hid hv
    have ho : txtOf t = [] := by unfold txtOf; rw [hv]; rfl
    rw [ho]
    clear hv ho
    go_enter Tryz.func125, Tryz.ntmps125
    unfold tagV strv
    go_wp2_with fail
    have h2 := tvalid_any t A n c (w.alloc (.cells #[strv t.lang, strv t.script, strv t.region, .slice A n c] 159)) (HA.out.ext ((Ext.refl w).alloc _)) HT.out
    rw [HV.out] at h2
    unfold tagV strv at h2
    with_reducible refine h2.mono ?_
    clear h2
    rintro e w2 ⟨rfl, hw2⟩
    have HW2 := Lib.hid (((Ext.refl w).alloc _).trans hw2)
    clear hw2
    go_wp2
    go_ret
    exact ⟨rfl, HW2.out⟩
  | true =>
    have HV := Lib.hid hv
    have ho : txtOf t = textP t := by unfold txtOf; rw [hv]; rfl
    have HJ := Lib.hid (textP_len hv)
    rw [ho]
    clear hv ho
    go_enter Tryz.func125, Tryz.ntmps125
    unfold tagV strv
    go_wp2_with fail
    have h2 := tvalid_any t A n c (w.alloc (.cells #[strv t.lang, strv t.script, strv t.region, .slice A n c] 159)) (HA.out.ext ((Ext.refl w).alloc _)) HT.out
    rw [HV.out] at h2
    unfold tagV strv at h2
    with_reducible refine h2.mono ?_
    clear h2
    rintro e w2 ⟨rfl, hw2⟩
    have HW2 := Lib.hid (((Ext.refl w).alloc _).trans hw2)
    obtain ⟨⟨p0, p1, p2, p3⟩, _⟩ := (AtT.ext (AtT.new w : AtT 159 (w.alloc (.cells #[.string ⟨t.lang.toArray⟩, .string ⟨t.script.toArray⟩, .string ⟨t.region.toArray⟩, .slice A n c] 159)) w.heap.size _ _ _ _) hw2).cells
    clear hw2
    go_wp2_with fail
    have h3 := ttext_any t A n c w2 (HA.out.ext HW2.out) hn (by have := HJ.out; omega)
    unfold tagV strv at h3
    with_reducible refine h3.mono ?_
    clear h3
    rintro e w3 ⟨rfl, hw3⟩
    have HW3 := Lib.hid (HW2.out.trans hw3)
    clear hw3
    go_wp2
    go_ret
    exact ⟨rfl, HW3.out⟩

/-- The canonical text, and the code. -/
def canP (s : List UInt8) : List UInt8 × Int := (if (parseP EC s).2 = 0 then textP (parseP EC s).1 else [], (parseP EC s).2)
theorem EC_ne : EC.dup ≠ 0 ∧ EC.lim ≠ 0 ∧ EC.syn ≠ 0 := ⟨by decide, by decide, by decide⟩
theorem parse_ok {s : List UInt8} (h : (parseP EC s).2 = 0) : validP (parseP EC s).1 = true := parse_valid EC EC_ne s _ (by rw [← h])

end Go.Proofs.YtehcldnicefmeaaGreatDoor
namespace Go.Proofs.YtehcldnicefmeaaGreatDoor
open Go.RowKit
set_option linter.unusedSimpArgs false
set_option linter.unusedVariables false

theorem sortS_nil : sortS [] = [] := by simp [sortS]
theorem n_le {w : World} {A : Option Addr} {n : Nat} {t : TagP} (h : Sl w A n (t.vars.map strv)) (ht : TL t) : n ≤ 60000 := by
  have h1 := h.1
  rw [List.length_map] at h1
  rw [← h1]
  exact ht.2.2.2.2
/-- What stands at the head behind a step up: the tag's block has been written. -/
theorem set4 {T : TypeId} {w : World} {g : Nat} {v0 v1 v2 v3 : Value} (h : AtT T w g v0 v1 v2 v3) (u0 u1 u2 u3 : Value) :
    AtT T ((((w.setCell ⟨g, 0, none⟩ u0).setCell ⟨g, 1, none⟩ u1).setCell ⟨g, 2, none⟩ u2).setCell ⟨g, 3, none⟩ u3) g u0 u1 u2 u3 := (((h.set0 u0).set1 u1).set2 u2).set3 u3
theorem set4_kept (w : World) (g : Nat) (u0 u1 u2 u3 : Value) : w.heap.size ≤ ((((w.setCell ⟨g, 0, none⟩ u0).setCell ⟨g, 1, none⟩ u1).setCell ⟨g, 2, none⟩ u2).setCell ⟨g, 3, none⟩ u3).heap.size ∧ ∀ b, b ≠ g → ((((w.setCell ⟨g, 0, none⟩ u0).setCell ⟨g, 1, none⟩ u1).setCell ⟨g, 2, none⟩ u2).setCell ⟨g, 3, none⟩ u3).heap[b]? = w.heap[b]? := by
  refine ⟨by simp [World.setCell], fun b hb => ?_⟩
  rw [heap_setCell_other _ _ _ _ (by exact hb), heap_setCell_other _ _ _ _ (by exact hb), heap_setCell_other _ _ _ _ (by exact hb), heap_setCell_other _ _ _ _ (by exact hb)]

end Go.Proofs.YtehcldnicefmeaaGreatDoor
namespace Go.Proofs.YtehcldnicefmeaaGreatDoor
open Go.RowKit
set_option linter.unusedSimpArgs false
set_option linter.unusedVariables false

def eqP (t u : TagP) : Bool := t.lang == u.lang && t.script == u.script && t.region == u.region && t.vars == u.vars
theorem eqP_iff (t u : TagP) : eqP t u = true ↔ t = u := by
  obtain ⟨a, b, c, d⟩ := t
  obtain ⟨a', b', c', d'⟩ := u
  simp [eqP, and_assoc]
theorem eqP_self (t : TagP) : eqP t t = true := (eqP_iff t t).2 rfl

/-- Whether a text is a canonical one. -/
def isP (s : List UInt8) : Bool := (canP s).2 == 0 && (canP s).1 == s
end Go.Proofs.YtehcldnicefmeaaGreatDoor
