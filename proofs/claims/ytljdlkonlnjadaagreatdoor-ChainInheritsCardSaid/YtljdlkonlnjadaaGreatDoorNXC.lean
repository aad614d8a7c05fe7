import Derived.Test.YtljdlkonlnjadaaGreatDoorNX6
import Derived.Test.YtljdlkonlnjadaaGreatDoorNX4
import Derived.Test.YtljdlkonlnjadaaGreatDoorRVal
import Derived.Test.YtljdlkonlnjadaaGreatDoorNXK
import Derived.Test.YtljdlkonlnjadaaGreatDoorNX3
import Derived.Test.YtljdlkonlnjadaaGreatDoorNX2
import Derived.BigQuiet
set_option maxRecDepth 100000
set_option linter.unusedSimpArgs false
set_option linter.unusedVariables false
open Go.Lib (hid)
namespace Go.Proofs.YtljdlkonlnjadaaGreatDoor
open Go.RowKit
set_option maxHeartbeats 1000000 in
theorem requal_any (t u : TagP) (A B : Option Addr) (n c m d : Nat) (w : World) (hA : Sl w A n (t.vars.map strv)) (hB : Sl w B m (u.vars.map strv)) (hn : n ≤ 60000) (hm : m ≤ 60000) :
 Calls Tryz.prog 156 #[tagV t A n c, tagV u B m d] w fun e w' => e = .returned (.bool (eqP t u)) ∧ Ext w w' := by
 obtain ⟨lb, hl1, hl2⟩ := strv_b t.lang
 obtain ⟨sb, hs1, hs2⟩ := strv_b t.script
 obtain ⟨rb, hr1, hr2⟩ := strv_b t.region
 obtain ⟨lc, hl3, hl4⟩ := strv_b u.lang
 obtain ⟨sc, hs3, hs4⟩ := strv_b u.script
 obtain ⟨rc, hr3, hr4⟩ := strv_b u.region
 have he : eqP t u = ((lb.toList == lc.toList) && (sb.toList == sc.toList) && (rb.toList == rc.toList) && (t.vars == u.vars)) := by
  unfold eqP
  rw [eq_b, eq_b, eq_b, hl2, hs2, hr2, hl4, hs4, hr4]
 unfold tagV
 rw [hl1, hs1, hr1, hl3, hs3, hr3, he]
 have HA := hid (hA.ext (((Ext.refl w).alloc (.cells #[.string lb, .string sb, .string rb, .slice A n c] 153)).alloc (.cells #[.string lc, .string sc, .string rc, .slice B m d] 153)))
 have HB := hid (hB.ext (((Ext.refl w).alloc (.cells #[.string lb, .string sb, .string rb, .slice A n c] 153)).alloc (.cells #[.string lc, .string sc, .string rc, .slice B m d] 153)))
 clear hl1 hs1 hr1 hl2 hs2 hr2 hl3 hs3 hr3 hl4 hs4 hr4 he hA hB
 have hcall := samestr_any _ _ _ _ _ _ c d _ HA.out HB.out (by unfold maxLen; omega) (by unfold maxLen; omega)
 generalize (t.vars == u.vars) = bv at hcall ⊢
 have HC := hid hcall
 clear hcall
 cases h1 : (lb.toList == lc.toList) <;> cases h2 : (sb.toList == sc.toList) <;> cases h3 : (rb.toList == rc.toList)
 all_goals
  go_enter Tryz.func156, Tryz.ntmps156
  go_wp2_with (go_at_call 12; with_reducible refine HC.out.mono ?_; rintro e w1 ⟨rfl, hw1⟩; have HW1 := hid hw1; clear hw1)
  go_ret
  first
   | exact ⟨rfl, ((Ext.refl w).alloc _).alloc _⟩
   | exact ⟨by simp, (((Ext.refl w).alloc _).alloc _).trans HW1.out⟩
end Go.Proofs.YtljdlkonlnjadaaGreatDoor
namespace Go.Proofs.YtljdlkonlnjadaaGreatDoor
open Go.RowKit
theorem cat_val (l : List UInt8) (xb : ByteArray) : Value.string ((⟨l.toArray⟩ : ByteArray) ++ (⟨#[45]⟩ ++ xb)) = strv (l ++ 45 :: xb.data.toList) := by
 unfold strv
 congr 1
theorem cat_b (a xb : ByteArray) : Value.string (a ++ (⟨#[45]⟩ ++ xb)) = strv (a.data.toList ++ 45 :: xb.data.toList) := by
 unfold strv
 congr 1
theorem cat_b2 (a xb yb : ByteArray) : Value.string (a ++ (⟨#[45]⟩ ++ xb) ++ (⟨#[45]⟩ ++ yb)) = strv (a.data.toList ++ 45 :: xb.data.toList ++ 45 :: yb.data.toList) := by
 unfold strv
 congr 1
theorem optP_nil : optP [] = [] := rfl
theorem optP_ne {x : List UInt8} (h : ¬ x = []) : optP x = 45 :: x := by unfold optP; rw [if_neg (by simpa using h)]
def TxInv (w : World) (t : TagP) (A : Option Addr) (n c : Nat) (s i : Value) (wr : World) : Prop :=
 ∃ k : Nat, k ≤ n ∧ i = .int .i64 k ∧ s = strv (t.lang ++ optP t.script ++ optP t.region ++ ((t.vars.take k).map fun x => 45 :: x).flatten) ∧
   AtT 153 wr w.heap.size (strv t.lang) (strv t.script) (strv t.region) (.slice A n c) ∧ Sl wr A n (t.vars.map strv) ∧ Ext w wr
theorem tx_len {t : TagP} (h : validP t = true) (k : Nat) : (t.lang ++ optP t.script ++ optP t.region ++ ((t.vars.take k).map fun x => 45 :: x).flatten).length ≤ 60 := by
 have h1 := textP_len h
 rw [← text_eq t h] at h1
 unfold textR at h1
 have h2 : ((t.vars.take k).map fun x => (45 : UInt8) :: x).flatten.length ≤ ((t.vars).map fun x => (45 : UInt8) :: x).flatten.length := by
  conv => rhs; rw [← List.take_append_drop k t.vars]
  rw [List.map_append, List.flatten_append, List.length_append]
  omega
 simp only [List.length_append] at h1 ⊢
 omega
theorem TS_of {t : TagP} (h : validP t = true) : t.lang.length ≤ 60000 ∧ t.script.length ≤ 60000 ∧ t.region.length ≤ 60000 ∧ (∀ x ∈ t.vars, x.length ≤ 60000) ∧ t.vars.length ≤ 60000 := by
 have h2 := h
 simp only [validP, Bool.and_eq_true, decide_eq_true_eq] at h
 obtain ⟨⟨⟨⟨⟨v1, v2⟩, v3⟩, v4⟩, v5⟩, v6⟩ := h
 refine ⟨?_, ?_, ?_, ?_, by omega⟩
 ·simp [langB] at v1; omega
 ·by_cases hs : t.script = []
  ·simp [hs]
  ·have : scriptB t.script = true := by simpa [hs] using v2
   simp [scriptB] at this; omega
 ·by_cases hs : t.region = []
  ·simp [hs]
  ·have : regionB t.region = true := by simpa [hs] using v3
   simp [regionB] at this; omega
 ·intro x hx
  have := List.all_eq_true.1 v4 x hx
  simp [variantB] at this
  omega
set_option maxHeartbeats 4000000 in
theorem rText_any (t : TagP) (A : Option Addr) (n c : Nat) (w : World) (hA : Sl w A n (t.vars.map strv)) (ht : TL t) :
 Calls Tryz.prog 98 #[tagV t A n c] w fun e w' => e = .returned (strv (txtOf t)) ∧ Ext w w' := by
 have hl : t.vars.length = n := by have := hA.1; rwa [List.length_map] at this
 have hn : n ≤ 60000 := by rw [← hl]; exact ht.2.2.2.2
 have HA := hid hA
 have HT := hid ht
 have HL := hid hl
 clear hA ht hl
 cases hv : validP t with
 | false =>
   have HV := hid hv
   have ho : txtOf t = [] := by unfold txtOf; rw [hv]; rfl
   rw [ho]
   clear hv ho
   go_enter Tryz.func98, Tryz.ntmps98
   unfold tagV strv
   go_wp2_with fail
   have h2 := rvalid_any t A n c (w.alloc (.cells #[strv t.lang, strv t.script, strv t.region, .slice A n c] 153)) (HA.out.ext ((Ext.refl w).alloc _)) HT.out
   rw [HV.out] at h2
   unfold tagV strv at h2
   with_reducible refine h2.mono ?_
   clear h2
   rintro e w2 ⟨rfl, hw2⟩
   have HW2 := hid (((Ext.refl w).alloc _).trans hw2)
   clear hw2
   go_wp2
   go_ret
   exact ⟨rfl, HW2.out⟩
 | true =>
   have HV := hid hv
   have ho : txtOf t = textR t := by unfold txtOf; rw [hv, text_eq t hv]; rfl
   have HO := hid ho
   obtain ⟨lb, hl1, hl2⟩ := strv_b t.lang
   obtain ⟨sb, hs1, hs2⟩ := strv_b t.script
   obtain ⟨rb, hr1, hr2⟩ := strv_b t.region
   have HS := hid (And.intro hl1 (And.intro hs1 hr1))
   have HE := hid (And.intro hl2 (And.intro hs2 hr2))
   have b1 : lb.size ≤ 60000 := by rw [← size_list, hl2]; exact (TS_of HV.out).1
   have b2 : sb.size ≤ 60000 := by rw [← size_list, hs2]; exact (TS_of HV.out).2.1
   have b3 : rb.size ≤ 60000 := by rw [← size_list, hr2]; exact (TS_of HV.out).2.2.1
   rw [ho]
   unfold tagV
   rw [hl1, hs1, hr1]
   clear hv ho hl1 hs1 hr1 hl2 hs2 hr2
   go_enter Tryz.func98, Tryz.ntmps98
   go_wp2_with fail
   have h2 := rvalid_any t A n c (w.alloc (.cells #[strv t.lang, strv t.script, strv t.region, .slice A n c] 153)) (HA.out.ext ((Ext.refl w).alloc _)) HT.out
   rw [HV.out] at h2
   unfold tagV at h2
   rw [HS.out.1, HS.out.2.1, HS.out.2.2] at h2
   with_reducible refine h2.mono ?_
   clear h2
   rintro e w2 ⟨rfl, hw2⟩
   have HW2 := hid (((Ext.refl w).alloc _).trans hw2)
   have hat := AtT.ext (AtT.new w : AtT 153 (w.alloc (.cells #[.string lb, .string sb, .string rb, .slice A n c] 153)) w.heap.size _ _ _ _) hw2
   obtain ⟨⟨p0, p1, p2, p3⟩, _⟩ := hat.cells
   have HAT := hid (show AtT 153 w2 w.heap.size (strv t.lang) (strv t.script) (strv t.region) (.slice A n c) from by rw [HS.out.1, HS.out.2.1, HS.out.2.2]; exact hat)
   clear hw2 hat
   have start : ∀ v, v = strv (t.lang ++ optP t.script ++ optP t.region) → TxInv w t A n c v (.int .i64 0) w2 := by
    intro v hv
    refine ⟨0, Nat.zero_le _, rfl, ?_, HAT.out, HA.out.ext HW2.out, HW2.out⟩
    rw [hv]
    simp
   have ST := hid start
   clear start
   have round : ∀ (k : Nat) (x : List UInt8), t.vars[k]? = some x → t.lang ++ optP t.script ++ optP t.region ++ ((t.vars.take (k + 1)).map fun x => 45 :: x).flatten = (t.lang ++ optP t.script ++ optP t.region ++ ((t.vars.take k).map fun x => 45 :: x).flatten) ++ 45 :: x := by
    intro k x hx
    rw [take_next hx]
    simp
   have RD := hid round
   clear round
   by_cases hsn : sb.data.toList = [] <;> by_cases hrn : rb.data.toList = []
   ·have HB := hid (show Value.string lb = strv (t.lang ++ optP t.script ++ optP t.region) from by
     rw [show t.script = [] from by rw [← HE.out.2.1]; exact hsn, show t.region = [] from by rw [← HE.out.2.2]; exact hrn, ← HE.out.1]
     rw [optP_nil, List.append_nil, List.append_nil, strv_mk])
    have e1 : sb.toList = [] := by rw [ByteArray.toList_eq]; exact hsn
    have e2 : rb.toList = [] := by rw [ByteArray.toList_eq]; exact hrn
    clear hsn hrn
    go_wp2
    go_loopw [3, 4] (TxInv w t A n c) (fun _ i _ => n - (intOf i).toNat)
    case atStart => exact ST.out _ HB.out
    case round =>
     obtain ⟨k, hk, rfl, rfl, hat, hsl, hw⟩ := hrel
     have q3 := hat.cells.1.2.2.2
     have HAT2 := hid hat
     have HSL := hid hsl
     have HW := hid hw
     clear hat hsl hw p0 p1 p2 p3
     have hlen := tx_len HV.out k
     by_cases hlt : k < n
     ·obtain ⟨ad, x, rfl, hu, hc⟩ := HSL.out.at_map hlt
      obtain ⟨xb, hx1, rfl⟩ := strv_b x
      rw [hx1] at hc
      have hxs : xb.size ≤ 60000 := by rw [← size_list]; exact (TS_of HV.out).2.2.2.1 _ (List.mem_of_getElem? hu)
      have HU := hid (RD.out k _ hu)
      clear hx1 hu
      generalize (t.lang ++ optP t.script ++ optP t.region ++ ((t.vars.take k).map fun x => 45 :: x).flatten) = cur at hlen HU
      unfold strv
      go_wp2
      rw [cat_val, ← HU.out]
      exact ⟨⟨k + 1, by omega, by go_num, rfl, HAT2.out, HSL.out, HW.out⟩, by simp [intOf]; omega⟩
     ·have hkn : k = n := by omega
      subst hkn
      have HF := hid (show t.lang ++ optP t.script ++ optP t.region ++ ((t.vars.take k).map fun x => 45 :: x).flatten = textR t from by
       rw [List.take_of_length_le (by rw [HL.out]; exact Nat.le_refl _)]; rfl)
      generalize (t.lang ++ optP t.script ++ optP t.region ++ ((t.vars.take k).map fun x => 45 :: x).flatten) = cur at HF hlen
      unfold strv
      go_wp2
      go_ret
      exact ⟨by rw [HF.out]; rfl, HW.out⟩
   ·have HB := hid (show Value.string (lb ++ (⟨#[45]⟩ ++ rb)) = strv (t.lang ++ optP t.script ++ optP t.region) from by
     rw [cat_b, show t.script = [] from by rw [← HE.out.2.1]; exact hsn, ← HE.out.1, ← HE.out.2.2]
     rw [optP_nil, List.append_nil, optP_ne hrn])
    have e1 : sb.toList = [] := by rw [ByteArray.toList_eq]; exact hsn
    have e2 : ¬ rb.toList = [] := by rw [ByteArray.toList_eq]; exact hrn
    have e3 : rb.toList.isEmpty = false := by rw [ByteArray.toList_eq]; simpa using hrn
    clear hsn hrn
    go_wp2
    go_loopw [3, 4] (TxInv w t A n c) (fun _ i _ => n - (intOf i).toNat)
    case atStart => exact ST.out _ HB.out
    case round =>
     obtain ⟨k, hk, rfl, rfl, hat, hsl, hw⟩ := hrel
     have q3 := hat.cells.1.2.2.2
     have HAT2 := hid hat
     have HSL := hid hsl
     have HW := hid hw
     clear hat hsl hw p0 p1 p2 p3
     have hlen := tx_len HV.out k
     by_cases hlt : k < n
     ·obtain ⟨ad, x, rfl, hu, hc⟩ := HSL.out.at_map hlt
      obtain ⟨xb, hx1, rfl⟩ := strv_b x
      rw [hx1] at hc
      have hxs : xb.size ≤ 60000 := by rw [← size_list]; exact (TS_of HV.out).2.2.2.1 _ (List.mem_of_getElem? hu)
      have HU := hid (RD.out k _ hu)
      clear hx1 hu
      generalize (t.lang ++ optP t.script ++ optP t.region ++ ((t.vars.take k).map fun x => 45 :: x).flatten) = cur at hlen HU
      unfold strv
      go_wp2
      rw [cat_val, ← HU.out]
      exact ⟨⟨k + 1, by omega, by go_num, rfl, HAT2.out, HSL.out, HW.out⟩, by simp [intOf]; omega⟩
     ·have hkn : k = n := by omega
      subst hkn
      have HF := hid (show t.lang ++ optP t.script ++ optP t.region ++ ((t.vars.take k).map fun x => 45 :: x).flatten = textR t from by
       rw [List.take_of_length_le (by rw [HL.out]; exact Nat.le_refl _)]; rfl)
      generalize (t.lang ++ optP t.script ++ optP t.region ++ ((t.vars.take k).map fun x => 45 :: x).flatten) = cur at HF hlen
      unfold strv
      go_wp2
      go_ret
      exact ⟨by rw [HF.out]; rfl, HW.out⟩
   ·have HB := hid (show Value.string (lb ++ (⟨#[45]⟩ ++ sb)) = strv (t.lang ++ optP t.script ++ optP t.region) from by
     rw [cat_b, show t.region = [] from by rw [← HE.out.2.2]; exact hrn, ← HE.out.1, ← HE.out.2.1]
     rw [optP_nil, List.append_nil, optP_ne hsn])
    have e1 : ¬ sb.toList = [] := by rw [ByteArray.toList_eq]; exact hsn
    have e3 : sb.toList.isEmpty = false := by rw [ByteArray.toList_eq]; simpa using hsn
    have e2 : rb.toList = [] := by rw [ByteArray.toList_eq]; exact hrn
    clear hsn hrn
    go_wp2
    go_loopw [3, 4] (TxInv w t A n c) (fun _ i _ => n - (intOf i).toNat)
    case atStart => exact ST.out _ HB.out
    case round =>
     obtain ⟨k, hk, rfl, rfl, hat, hsl, hw⟩ := hrel
     have q3 := hat.cells.1.2.2.2
     have HAT2 := hid hat
     have HSL := hid hsl
     have HW := hid hw
     clear hat hsl hw p0 p1 p2 p3
     have hlen := tx_len HV.out k
     by_cases hlt : k < n
     ·obtain ⟨ad, x, rfl, hu, hc⟩ := HSL.out.at_map hlt
      obtain ⟨xb, hx1, rfl⟩ := strv_b x
      rw [hx1] at hc
      have hxs : xb.size ≤ 60000 := by rw [← size_list]; exact (TS_of HV.out).2.2.2.1 _ (List.mem_of_getElem? hu)
      have HU := hid (RD.out k _ hu)
      clear hx1 hu
      generalize (t.lang ++ optP t.script ++ optP t.region ++ ((t.vars.take k).map fun x => 45 :: x).flatten) = cur at hlen HU
      unfold strv
      go_wp2
      rw [cat_val, ← HU.out]
      exact ⟨⟨k + 1, by omega, by go_num, rfl, HAT2.out, HSL.out, HW.out⟩, by simp [intOf]; omega⟩
     ·have hkn : k = n := by omega
      subst hkn
      have HF := hid (show t.lang ++ optP t.script ++ optP t.region ++ ((t.vars.take k).map fun x => 45 :: x).flatten = textR t from by
       rw [List.take_of_length_le (by rw [HL.out]; exact Nat.le_refl _)]; rfl)
      generalize (t.lang ++ optP t.script ++ optP t.region ++ ((t.vars.take k).map fun x => 45 :: x).flatten) = cur at HF hlen
      unfold strv
      go_wp2
      go_ret
      exact ⟨by rw [HF.out]; rfl, HW.out⟩
   ·have HB := hid (show Value.string (lb ++ (⟨#[45]⟩ ++ sb) ++ (⟨#[45]⟩ ++ rb)) = strv (t.lang ++ optP t.script ++ optP t.region) from by
     rw [cat_b2, ← HE.out.1, ← HE.out.2.1, ← HE.out.2.2]
     rw [optP_ne hsn, optP_ne hrn])
    have e1 : ¬ sb.toList = [] := by rw [ByteArray.toList_eq]; exact hsn
    have e3 : sb.toList.isEmpty = false := by rw [ByteArray.toList_eq]; simpa using hsn
    have e2 : ¬ rb.toList = [] := by rw [ByteArray.toList_eq]; exact hrn
    have e4 : rb.toList.isEmpty = false := by rw [ByteArray.toList_eq]; simpa using hrn
    clear hsn hrn
    go_wp2
    go_loopw [3, 4] (TxInv w t A n c) (fun _ i _ => n - (intOf i).toNat)
    case atStart => exact ST.out _ HB.out
    case round =>
     obtain ⟨k, hk, rfl, rfl, hat, hsl, hw⟩ := hrel
     have q3 := hat.cells.1.2.2.2
     have HAT2 := hid hat
     have HSL := hid hsl
     have HW := hid hw
     clear hat hsl hw p0 p1 p2 p3
     have hlen := tx_len HV.out k
     by_cases hlt : k < n
     ·obtain ⟨ad, x, rfl, hu, hc⟩ := HSL.out.at_map hlt
      obtain ⟨xb, hx1, rfl⟩ := strv_b x
      rw [hx1] at hc
      have hxs : xb.size ≤ 60000 := by rw [← size_list]; exact (TS_of HV.out).2.2.2.1 _ (List.mem_of_getElem? hu)
      have HU := hid (RD.out k _ hu)
      clear hx1 hu
      generalize (t.lang ++ optP t.script ++ optP t.region ++ ((t.vars.take k).map fun x => 45 :: x).flatten) = cur at hlen HU
      unfold strv
      go_wp2
      rw [cat_val, ← HU.out]
      exact ⟨⟨k + 1, by omega, by go_num, rfl, HAT2.out, HSL.out, HW.out⟩, by simp [intOf]; omega⟩
     ·have hkn : k = n := by omega
      subst hkn
      have HF := hid (show t.lang ++ optP t.script ++ optP t.region ++ ((t.vars.take k).map fun x => 45 :: x).flatten = textR t from by
       rw [List.take_of_length_le (by rw [HL.out]; exact Nat.le_refl _)]; rfl)
      generalize (t.lang ++ optP t.script ++ optP t.region ++ ((t.vars.take k).map fun x => 45 :: x).flatten) = cur at HF hlen
      unfold strv
      go_wp2
      go_ret
      exact ⟨by rw [HF.out]; rfl, HW.out⟩
end Go.Proofs.YtljdlkonlnjadaaGreatDoor
namespace Go.Proofs.YtljdlkonlnjadaaGreatDoor
open Go.RowKit
def upR (t : TagP) : TagP × Bool := match upP t with
 | some u => (u, true)
 | none => (TagP.zero, false)
theorem clone_any (l : List (List UInt8)) (b o n c : Nat) (w : World) (hs : Sl w (some ⟨b, o, none⟩) n (l.map strv)) (hn : n ≤ 1048576) :
 Calls Tryz.prog 65 #[.slice (some ⟨b, o, none⟩) n c] w fun e w' => ∃ A' c', e = .returned (.slice A' n c') ∧ Sl w' A' n (l.map strv) ∧ n ≤ c' ∧ Ext w w' ∧ ∀ ad, A' = some ad → w.heap.size ≤ ad.block := by
 have hl : l.length = n := by have := hs.1; rwa [List.length_map] at this
 have h := Tryz.slices_Clone_string b o n c (l.map fun x => ⟨x.toArray⟩) w (by rw [List.length_map]; omega) (by omega) (fun j hj => by
  rw [List.length_map] at hj
  obtain ⟨ad, ha, _, hcell⟩ := hs.2 j (strv l[j]) (by rw [List.getElem?_map, List.getElem?_eq_getElem hj]; rfl)
  injection ha with ha
  subst ha
  rw [add_flat] at hcell
  rw [hcell]
  simp [List.getD_eq_getElem?_getD, hj, strv])
 refine h.mono ?_
 rintro e w' ⟨v', rfl, ho, hne, hb⟩
 have e1 : ((l.map fun x => (⟨x.toArray⟩ : ByteArray)).take n).map Value.string = l.map strv := by
  rw [List.take_of_length_le (by rw [List.length_map]; omega), List.map_map]
  rfl
 rw [e1] at ho
 obtain ⟨A', c', rfl, hs', hc'⟩ := own_sl ho
 refine ⟨A', c', rfl, hs', hc', hb, fun ad had => ?_⟩
 subst had
 exact (ho.lt ad.block rfl).1
set_option maxHeartbeats 1000000 in
theorem rup_any (t : TagP) (A : Option Addr) (n c : Nat) (w : World) (hA : Sl w A n (t.vars.map strv)) (hn : n ≤ 60000) (hnc : n ≤ c) (ht : TL t) :
 Calls Tryz.prog 100 #[tagV t A n c] w fun e w' => ∃ A' n' c', e = .returned (.tuple #[tagV (upR t).1 A' n' c', .bool (upR t).2]) ∧ (∀ W0, Sl W0 A n (t.vars.map strv) → Sl W0 A' n' ((upR t).1.vars.map strv)) ∧ n' ≤ c' ∧ Ext w w' := by
 have hl : t.vars.length = n := by have := hA.1; rwa [List.length_map] at this
 obtain ⟨lb, hl1, hl2⟩ := strv_b t.lang
 obtain ⟨sb, hs1, hs2⟩ := strv_b t.script
 obtain ⟨rb, hr1, hr2⟩ := strv_b t.region
 have HA := hid hA
 have HL := hid hl
 have HS := hid (And.intro hl1 (And.intro hs1 hr1))
 have HE := hid (And.intro hl2 (And.intro hs2 hr2))
 have H0 : Hid (tagV TagP.zero none 0 0 = .agg #[.string ⟨#[]⟩, .string ⟨#[]⟩, .string ⟨#[]⟩, .slice none 0 0]) := hid rfl
 have fin : ∀ (u : TagP) (A' : Option Addr) (n' c' : Nat) (b : Bool) (v0 v1 v2 : Value) (w' : World), upR t = (u, b) → v0 = strv u.lang → v1 = strv u.script → v2 = strv u.region → (∀ W0, Sl W0 A n (t.vars.map strv) → Sl W0 A' n' (u.vars.map strv)) → n' ≤ c' → Ext w w' →
  ∃ A2 n2 c2, Ending.returned (.tuple #[.agg #[v0, v1, v2, .slice A' n' c'], .bool b]) = Ending.returned (.tuple #[tagV (upR t).1 A2 n2 c2, .bool (upR t).2]) ∧ (∀ W0, Sl W0 A n (t.vars.map strv) → Sl W0 A2 n2 ((upR t).1.vars.map strv)) ∧ n2 ≤ c2 ∧ Ext w w' := by
  intro u A' n' c' b v0 v1 v2 w' h1 h2 h3 h4 h5 h6 h7
  rw [h1]
  subst h2 h3 h4
  exact ⟨A', n', c', rfl, h5, h6, h7⟩
 unfold tagV
 unfold tagV at fin
 rw [hl1, hs1, hr1]
 have FIN := hid fin
 clear fin hl1 hs1 hr1 hl2 hs2 hr2 hA hl
 by_cases h0 : 0 < n
 ·have hup : upR t = ({ t with vars := t.vars.take (n - 1) }, true) := by
   unfold upR upP
   rw [if_pos (by intro h; rw [h] at HL; have := HL.out; simp at this; omega), HL.out]
  have HU := hid hup
  have h1n : (1 : Int) ≤ (n : Int) := by omega
  have h0I : (0 : Int) < (n : Int) := by omega
  clear hup
  go_enter Tryz.func100, Tryz.ntmps100
  go_wp2
  refine bodyPost_ret (v := .tuple #[.agg #[.string lb, .string sb, .string rb, .slice A (n - 1) c], .bool true]) ?_ rfl (FIN.out _ A (n - 1) c true _ _ _ _ HU.out HS.out.1.symm HS.out.2.1.symm HS.out.2.2.symm ?_ (by omega) (((Ext.refl w).alloc _).alloc _))
  ·simp [results, Tryz.results100, go_sem]
  ·intro W0 h0
   have h := h0.take (n - 1) (by omega)
   rw [← List.map_take] at h
   exact h
 ·have hn0 : n = 0 := by omega
  subst hn0
  have hvn : t.vars = [] := List.eq_nil_of_length_eq_zero HL.out
  have hz : ∀ W, Ext w W → Sl W A 0 (t.vars.map strv) := fun W h => HA.out.ext h
  have HZ := hid hz
  have HV := hid hvn
  clear h0 hz hvn
  by_cases hr : rb.data.toList = []
  ·by_cases hsn : sb.data.toList = []
   ·by_cases hln : lb.data.toList = undP
    ·have HU := hid (show upR t = (TagP.zero, false) from by
      unfold upR upP
      rw [if_neg (by simp [HV.out]), if_neg (by simp [← HE.out.2.2, hr]), if_neg (by simp [← HE.out.2.1, hsn]), if_neg (by simp [← HE.out.1, hln])])
     have h1 : rb.toList = [] := by rw [ByteArray.toList_eq]; exact hr
     have h2 : sb.toList = [] := by rw [ByteArray.toList_eq]; exact hsn
     have h3 : (lb.toList == [117, 110, 100]) = true := by rw [ByteArray.toList_eq, hln]; rfl
     have h4 : lb.toList = [117, 110, 100] := by rw [ByteArray.toList_eq, hln]; rfl
     clear hr hsn hln
     go_enter Tryz.func100, Tryz.ntmps100
     go_wp2
     refine bodyPost_ret (v := .tuple #[.agg #[.string ⟨#[]⟩, .string ⟨#[]⟩, .string ⟨#[]⟩, .slice none 0 0], .bool false]) ?_ rfl (FIN.out TagP.zero none 0 0 false _ _ _ _ HU.out rfl rfl rfl (fun W0 _ => Sl.nil _ _) (Nat.le_refl _) (((Ext.refl w).alloc _).alloc _))
     simp [results, Tryz.results100, go_sem]
    ·have HU := hid (show upR t = ({ t with lang := undP }, true) from by
      unfold upR upP
      rw [if_neg (by simp [HV.out]), if_neg (by simp [← HE.out.2.2, hr]), if_neg (by simp [← HE.out.2.1, hsn]), if_pos (by rw [← HE.out.1]; exact hln)])
     have h1 : rb.toList = [] := by rw [ByteArray.toList_eq]; exact hr
     have h2 : sb.toList = [] := by rw [ByteArray.toList_eq]; exact hsn
     have h3 : (lb.toList == [117, 110, 100]) = false := by rw [ByteArray.toList_eq]; exact beq_eq_false_iff_ne.2 hln
     have h4 : ¬ lb.toList = [117, 110, 100] := by rw [ByteArray.toList_eq]; exact hln
     clear hr hsn hln
     go_enter Tryz.func100, Tryz.ntmps100
     go_wp2
     refine bodyPost_ret (v := .tuple #[.agg #[.string ⟨#[117, 110, 100]⟩, .string sb, .string rb, .slice A 0 c], .bool true]) ?_ rfl (FIN.out _ A 0 c true _ _ _ _ HU.out rfl HS.out.2.1.symm HS.out.2.2.symm (fun W0 h => h) hnc (((Ext.refl w).alloc _).alloc _))
     simp [results, Tryz.results100, go_sem]
   ·have HU := hid (show upR t = ({ t with script := [] }, true) from by
     unfold upR upP
     rw [if_neg (by simp [HV.out]), if_neg (by simp [← HE.out.2.2, hr]), if_pos (by rw [← HE.out.2.1]; exact hsn)])
    have h1 : rb.toList = [] := by rw [ByteArray.toList_eq]; exact hr
    have h2 : ¬ sb.toList = [] := by rw [ByteArray.toList_eq]; exact hsn
    have h3 : sb.toList.isEmpty = false := by rw [ByteArray.toList_eq]; simpa using hsn
    clear hr hsn
    go_enter Tryz.func100, Tryz.ntmps100
    go_wp2
    refine bodyPost_ret (v := .tuple #[.agg #[.string lb, .string ⟨#[]⟩, .string rb, .slice A 0 c], .bool true]) ?_ rfl (FIN.out _ A 0 c true _ _ _ _ HU.out HS.out.1.symm rfl HS.out.2.2.symm (fun W0 h => h) hnc (((Ext.refl w).alloc _).alloc _))
    simp [results, Tryz.results100, go_sem]
  ·have HU := hid (show upR t = ({ t with region := [] }, true) from by
    unfold upR upP
    rw [if_neg (by simp [HV.out]), if_pos (by rw [← HE.out.2.2]; exact hr)])
   have h2 : ¬ rb.toList = [] := by rw [ByteArray.toList_eq]; exact hr
   have h3 : rb.toList.isEmpty = false := by rw [ByteArray.toList_eq]; simpa using hr
   clear hr
   go_enter Tryz.func100, Tryz.ntmps100
   go_wp2
   refine bodyPost_ret (v := .tuple #[.agg #[.string lb, .string sb, .string ⟨#[]⟩, .slice A 0 c], .bool true]) ?_ rfl (FIN.out _ A 0 c true _ _ _ _ HU.out HS.out.1.symm HS.out.2.1.symm rfl (fun W0 h => h) hnc (((Ext.refl w).alloc _).alloc _))
   simp [results, Tryz.results100, go_sem]
set_option maxHeartbeats 1000000 in
theorem tparent_any (t : TagP) (A : Option Addr) (n c : Nat) (w : World) (hA : Sl w A n (t.vars.map strv)) (hn : n ≤ 60000) (hnc : n ≤ c) (ht : TL t) :
 Calls Tryz.prog 117 #[tagV t A n c] w fun e w' => ∃ A' n' c', e = .returned (.tuple #[tagV (upR t).1 A' n' c', .bool (upR t).2]) ∧ (∀ W0, Later w w' W0 → Sl W0 A n (t.vars.map strv) → Sl W0 A' n' ((upR t).1.vars.map strv)) ∧ n' ≤ c' ∧ Ext w w' := by
 have hl : t.vars.length = n := by have := hA.1; rwa [List.length_map] at this
 obtain ⟨lb, hl1, hl2⟩ := strv_b t.lang
 obtain ⟨sb, hs1, hs2⟩ := strv_b t.script
 obtain ⟨rb, hr1, hr2⟩ := strv_b t.region
 have HA := hid hA
 have HL := hid hl
 have HS := hid (And.intro hl1 (And.intro hs1 hr1))
 have HE := hid (And.intro hl2 (And.intro hs2 hr2))
 have H0 : Hid (tagV TagP.zero none 0 0 = .agg #[.string ⟨#[]⟩, .string ⟨#[]⟩, .string ⟨#[]⟩, .slice none 0 0]) := hid rfl
 have fin : ∀ (u : TagP) (A' : Option Addr) (n' c' : Nat) (b : Bool) (v0 v1 v2 : Value) (w' : World), upR t = (u, b) → v0 = strv u.lang → v1 = strv u.script → v2 = strv u.region → (∀ W0, Later w w' W0 → Sl W0 A n (t.vars.map strv) → Sl W0 A' n' (u.vars.map strv)) → n' ≤ c' → Ext w w' →
  ∃ A2 n2 c2, Ending.returned (.tuple #[.agg #[v0, v1, v2, .slice A' n' c'], .bool b]) = Ending.returned (.tuple #[tagV (upR t).1 A2 n2 c2, .bool (upR t).2]) ∧ (∀ W0, Later w w' W0 → Sl W0 A n (t.vars.map strv) → Sl W0 A2 n2 ((upR t).1.vars.map strv)) ∧ n2 ≤ c2 ∧ Ext w w' := by
  intro u A' n' c' b v0 v1 v2 w' h1 h2 h3 h4 h5 h6 h7
  rw [h1]
  subst h2 h3 h4
  exact ⟨A', n', c', rfl, h5, h6, h7⟩
 unfold tagV
 unfold tagV at fin
 rw [hl1, hs1, hr1]
 have FIN := hid fin
 clear fin hl1 hs1 hr1 hl2 hs2 hr2 hA hl
 by_cases h0 : 0 < n
 ·have hup : upR t = ({ t with vars := t.vars.take (n - 1) }, true) := by
   unfold upR upP
   rw [if_pos (by intro h; rw [h] at HL; have := HL.out; simp at this; omega), HL.out]
  have HU := hid hup
  have h1n : (1 : Int) ≤ (n : Int) := by omega
  have h0I : (0 : Int) < (n : Int) := by omega
  clear hup
  cases A with
  | none => exact absurd (none_nil HA.out) (by omega)
  | some ad =>
    obtain ⟨b, o, rfl, hb⟩ := addr_flat HA.out h0
    go_enter Tryz.func117, Tryz.ntmps117
    go_wp2_with fail
    have hs := (HA.out.take (n - 1) (by omega)).ext (((Ext.refl w).alloc (.cells #[.string lb, .string sb, .string rb, .slice (some ⟨b, o, none⟩) n c] 143)).alloc (.cells #[.string ⟨#[]⟩, .string ⟨#[]⟩, .string ⟨#[]⟩, .slice none 0 0] 143))
    rw [← List.map_take] at hs
    refine (clone_any (t.vars.take (n - 1)) b o (n - 1) c _ hs (by omega)).mono ?_
    rintro e w3 ⟨A3, c3, rfl, hs3, hc3, hw3, hne3⟩
    have HS3 := hid hs3
    have HW3 := hid ((((Ext.refl w).alloc (.cells #[.string lb, .string sb, .string rb, .slice (some ⟨b, o, none⟩) n c] 143)).alloc (.cells #[.string ⟨#[]⟩, .string ⟨#[]⟩, .string ⟨#[]⟩, .slice none 0 0] 143)).trans hw3)
    have HN3 := hid hne3
    obtain ⟨⟨p0, p1, p2, p3⟩, ⟨e0, e1, e2, e3⟩⟩ := ((AtT.new w : AtT 143 (w.alloc (.cells #[.string lb, .string sb, .string rb, .slice (some ⟨b, o, none⟩) n c] 143)) w.heap.size _ _ _ _).ext (Ext.trans ((Ext.refl _).alloc _) hw3)).cells
    have hA2 := ((AtT.new (w.alloc (.cells #[.string lb, .string sb, .string rb, .slice (some ⟨b, o, none⟩) n c] 143)) : AtT 143 ((w.alloc (.cells #[.string lb, .string sb, .string rb, .slice (some ⟨b, o, none⟩) n c] 143)).alloc (.cells #[.string ⟨#[]⟩, .string ⟨#[]⟩, .string ⟨#[]⟩, .slice none 0 0] 143)) _ _ _ _ _).ext hw3)
    rw [show (w.alloc (.cells #[.string lb, .string sb, .string rb, .slice (some ⟨b, o, none⟩) n c] 143)).heap.size = w.heap.size + 1 from by simp] at hA2
    obtain ⟨⟨q0, q1, q2, q3⟩, ⟨f0, f1, f2, f3⟩⟩ := hA2.cells
    clear hs3 hw3 hne3 hA2 hs
    go_wp2
    refine bodyPost_ret (v := .tuple #[.agg #[.string lb, .string sb, .string rb, .slice A3 (n - 1) c3], .bool true]) ?_ rfl (FIN.out _ A3 (n - 1) c3 true _ _ _ _ HU.out HS.out.1.symm HS.out.2.1.symm HS.out.2.2.symm ?_ hc3 ?_)
    ·simp [results, Tryz.results117, go_sem, q0, q1, q2, q3, f0, f1, f2, f3]
    ·intro W0 hl _
     have h5 := ((((HS3.out.other ⟨w.heap.size, 3, none⟩ (fun ad h => by have := HN3.out ad h; simp at this; show ad.block ≠ w.heap.size; omega) (.slice A3 (n - 1) c3)).other ⟨w.heap.size + 1, 0, none⟩ (fun ad h => by have := HN3.out ad h; simp at this; show ad.block ≠ w.heap.size + 1; omega) (.string lb)).other ⟨w.heap.size + 1, 1, none⟩ (fun ad h => by have := HN3.out ad h; simp at this; show ad.block ≠ w.heap.size + 1; omega) (.string sb)).other ⟨w.heap.size + 1, 2, none⟩ (fun ad h => by have := HN3.out ad h; simp at this; show ad.block ≠ w.heap.size + 1; omega) (.string rb)).other ⟨w.heap.size + 1, 3, none⟩ (fun ad h => by have := HN3.out ad h; simp at this; show ad.block ≠ w.heap.size + 1; omega) (.slice A3 (n - 1) c3)
     exact h5.later (fun ad h => by have := HN3.out ad h; simp at this; omega) hl
    ·exact ((((HW3.out.setCell (Nat.le_refl _) _).setCell (Nat.le_succ _) _).setCell (Nat.le_succ _) _).setCell (Nat.le_succ _) _).setCell (Nat.le_succ _) _
 ·have hn0 : n = 0 := by omega
  subst hn0
  have hvn : t.vars = [] := List.eq_nil_of_length_eq_zero HL.out
  have hz : ∀ W, Ext w W → Sl W A 0 (t.vars.map strv) := fun W h => HA.out.ext h
  have HZ := hid hz
  have HV := hid hvn
  clear h0 hz hvn
  by_cases hr : rb.data.toList = []
  ·by_cases hsn : sb.data.toList = []
   ·by_cases hln : lb.data.toList = undP
    ·have HU := hid (show upR t = (TagP.zero, false) from by
      unfold upR upP
      rw [if_neg (by simp [HV.out]), if_neg (by simp [← HE.out.2.2, hr]), if_neg (by simp [← HE.out.2.1, hsn]), if_neg (by simp [← HE.out.1, hln])])
     have h1 : rb.toList = [] := by rw [ByteArray.toList_eq]; exact hr
     have h2 : sb.toList = [] := by rw [ByteArray.toList_eq]; exact hsn
     have h3 : (lb.toList == [117, 110, 100]) = true := by rw [ByteArray.toList_eq, hln]; rfl
     have h4 : lb.toList = [117, 110, 100] := by rw [ByteArray.toList_eq, hln]; rfl
     clear hr hsn hln
     go_enter Tryz.func117, Tryz.ntmps117
     go_wp2
     refine bodyPost_ret (v := .tuple #[.agg #[.string ⟨#[]⟩, .string ⟨#[]⟩, .string ⟨#[]⟩, .slice none 0 0], .bool false]) ?_ rfl (FIN.out TagP.zero none 0 0 false _ _ _ _ HU.out rfl rfl rfl (fun W0 _ _ => Sl.nil _ _) (Nat.le_refl _) (((Ext.refl w).alloc _).alloc _))
     simp [results, Tryz.results117, go_sem]
    ·have HU := hid (show upR t = ({ t with lang := undP }, true) from by
      unfold upR upP
      rw [if_neg (by simp [HV.out]), if_neg (by simp [← HE.out.2.2, hr]), if_neg (by simp [← HE.out.2.1, hsn]), if_pos (by rw [← HE.out.1]; exact hln)])
     have h1 : rb.toList = [] := by rw [ByteArray.toList_eq]; exact hr
     have h2 : sb.toList = [] := by rw [ByteArray.toList_eq]; exact hsn
     have h3 : (lb.toList == [117, 110, 100]) = false := by rw [ByteArray.toList_eq]; exact beq_eq_false_iff_ne.2 hln
     have h4 : ¬ lb.toList = [117, 110, 100] := by rw [ByteArray.toList_eq]; exact hln
     clear hr hsn hln
     go_enter Tryz.func117, Tryz.ntmps117
     go_wp2
     refine bodyPost_ret (v := .tuple #[.agg #[.string ⟨#[117, 110, 100]⟩, .string sb, .string rb, .slice A 0 c], .bool true]) ?_ rfl (FIN.out _ A 0 c true _ _ _ _ HU.out rfl HS.out.2.1.symm HS.out.2.2.symm (fun W0 _ h => h) hnc (((Ext.refl w).alloc _).alloc _))
     simp [results, Tryz.results117, go_sem]
   ·have HU := hid (show upR t = ({ t with script := [] }, true) from by
     unfold upR upP
     rw [if_neg (by simp [HV.out]), if_neg (by simp [← HE.out.2.2, hr]), if_pos (by rw [← HE.out.2.1]; exact hsn)])
    have h1 : rb.toList = [] := by rw [ByteArray.toList_eq]; exact hr
    have h2 : ¬ sb.toList = [] := by rw [ByteArray.toList_eq]; exact hsn
    have h3 : sb.toList.isEmpty = false := by rw [ByteArray.toList_eq]; simpa using hsn
    clear hr hsn
    go_enter Tryz.func117, Tryz.ntmps117
    go_wp2
    refine bodyPost_ret (v := .tuple #[.agg #[.string lb, .string ⟨#[]⟩, .string rb, .slice A 0 c], .bool true]) ?_ rfl (FIN.out _ A 0 c true _ _ _ _ HU.out HS.out.1.symm rfl HS.out.2.2.symm (fun W0 _ h => h) hnc (((Ext.refl w).alloc _).alloc _))
    simp [results, Tryz.results117, go_sem]
  ·have HU := hid (show upR t = ({ t with region := [] }, true) from by
    unfold upR upP
    rw [if_neg (by simp [HV.out]), if_pos (by rw [← HE.out.2.2]; exact hr)])
   have h2 : ¬ rb.toList = [] := by rw [ByteArray.toList_eq]; exact hr
   have h3 : rb.toList.isEmpty = false := by rw [ByteArray.toList_eq]; simpa using hr
   clear hr
   go_enter Tryz.func117, Tryz.ntmps117
   go_wp2
   refine bodyPost_ret (v := .tuple #[.agg #[.string lb, .string sb, .string ⟨#[]⟩, .slice A 0 c], .bool true]) ?_ rfl (FIN.out _ A 0 c true _ _ _ _ HU.out HS.out.1.symm HS.out.2.1.symm rfl (fun W0 _ h => h) hnc (((Ext.refl w).alloc _).alloc _))
   simp [results, Tryz.results117, go_sem]
end Go.Proofs.YtljdlkonlnjadaaGreatDoor
namespace Go.Proofs.YtljdlkonlnjadaaGreatDoor
open Go.RowKit
theorem txt_valid {t : TagP} (h : validP t = true) : txtOf t = textP t := by unfold txtOf; rw [if_pos h]
theorem rcan_any (s : ByteArray) (w : World) (hs : s.size ≤ 2000000) :
 Calls Tryz.prog 78 #[.string s] w fun e w' => e = .returned (.tuple #[strv (canP s.data.toList).1, .int .i64 (canP s.data.toList).2]) ∧ Ext w w' := by
 unfold canP
 have hok := @parse_ok s.data.toList
 have hpa := fun W => rparse_any s W hs
 generalize parseP EC s.data.toList = R at hok hpa
 obtain ⟨t, code⟩ := R
 have HOK := hid hok
 have HPA := hid hpa
 clear hok hpa
 by_cases h0 : code = 0
 ·subst h0
  have hv := HOK.out rfl
  have HV := hid hv
  simp only [if_true]
  clear hv
  go_enter Tryz.func78, Tryz.ntmps78
  go_wp2_with fail
  refine (HPA.out _).mono ?_
  rintro e w1 ⟨A, n, c, rfl, hs1, hnc, hw1⟩
  have HS1 := hid hs1
  have HW1 := hid hw1
  clear hs1 hw1
  unfold tagV strv
  go_wp2_with fail
  have h3 := rText_any t A n c (w1.alloc (.cells #[strv t.lang, strv t.script, strv t.region, .slice A n c] 153)) (HS1.out.ext ((Ext.refl w1).alloc _)) (TL_of HV.out)
  rw [txt_valid HV.out] at h3
  unfold tagV strv at h3
  with_reducible refine h3.mono ?_
  clear h3
  rintro e w3 ⟨rfl, hw3⟩
  have HW3 := hid ((HW1.out.alloc _).trans hw3)
  clear hw3
  go_wp2
  go_ret2
  exact ⟨rfl, HW3.out⟩
 ·simp only [if_neg h0]
  have hb : (code == 0) = false := by simpa using h0
  have hb2 : (!code == 0) = true := by simpa using h0
  go_enter Tryz.func78, Tryz.ntmps78
  go_wp2_with fail
  refine (HPA.out _).mono ?_
  rintro e w1 ⟨A, n, c, rfl, hs1, hnc, hw1⟩
  have HW1 := hid hw1
  clear hs1 hw1
  unfold tagV strv
  go_wp2
  go_ret2
  exact ⟨rfl, HW1.out.alloc _⟩
end Go.Proofs.YtljdlkonlnjadaaGreatDoor
namespace Go.Proofs.YtljdlkonlnjadaaGreatDoor
open Go.RowKit
theorem tcan_any (s : ByteArray) (w : World) (hm : Mx w) (hs : s.size ≤ 60000) :
 Calls Tryz.prog 101 #[.string s] w fun e w' => e = .returned (.tuple #[strv (canP s.data.toList).1, .int .i64 (canP s.data.toList).2]) ∧ Ext w w' := by
 unfold canP
 have hok := @parse_ok s.data.toList
 have hpa := fun W hW => tparse_any s W hW hs
 generalize parseP EC s.data.toList = R at hok hpa
 obtain ⟨t, code⟩ := R
 have HOK := hid hok
 have HPA := hid hpa
 have HM := hid hm
 clear hok hpa hm
 by_cases h0 : code = 0
 ·subst h0
  have hv := HOK.out rfl
  have HV := hid hv
  simp only [if_true]
  clear hv
  go_enter Tryz.func101, Tryz.ntmps101
  go_wp2_with fail
  refine (HPA.out _ HM.out).mono ?_
  rintro e w1 ⟨A, n, c, rfl, hs1, hnc, hw1⟩
  have hn : n ≤ 60000 := by
   have h1 := hs1.1
   rw [List.length_map] at h1
   rw [← h1]
   exact (TL_of HV.out).2.2.2.2
  have HS1 := hid hs1
  have HW1 := hid hw1
  clear hs1 hw1
  unfold tagV strv
  go_wp2_with fail
  have h3 := ttext_any t A n c (w1.alloc (.cells #[strv t.lang, strv t.script, strv t.region, .slice A n c] 143)) (HS1.out.ext ((Ext.refl w1).alloc _)) hn (by have := textP_len HV.out; omega)
  unfold tagV strv at h3
  with_reducible refine h3.mono ?_
  clear h3
  rintro e w3 ⟨rfl, hw3⟩
  have HW3 := hid ((HW1.out.alloc _).trans hw3)
  clear hw3
  go_wp2
  go_ret2
  exact ⟨rfl, HW3.out⟩
 ·simp only [if_neg h0]
  have hb : (code == 0) = false := by simpa using h0
  have hb2 : (!code == 0) = true := by simpa using h0
  go_enter Tryz.func101, Tryz.ntmps101
  go_wp2_with fail
  refine (HPA.out _ HM.out).mono ?_
  rintro e w1 ⟨A, n, c, rfl, hs1, hnc, hw1⟩
  have HW1 := hid hw1
  clear hs1 hw1
  unfold tagV strv
  go_wp2
  go_ret2
  exact ⟨rfl, HW1.out.alloc _⟩
end Go.Proofs.YtljdlkonlnjadaaGreatDoor
namespace Go.Proofs.YtljdlkonlnjadaaGreatDoor
open Go.RowKit
def parentP (s : List UInt8) : List UInt8 × Int := if (parseP EC s).2 ≠ 0 then ([], (parseP EC s).2) else match upP (parseP EC s).1 with
 | none => ([], 8)
 | some u => (textP u, 0)
set_option maxHeartbeats 1000000 in
theorem tparent2_any (s : ByteArray) (w : World) (hm : Mx w) (hs : s.size ≤ 60000) :
 Calls Tryz.prog 91 #[.string s] w fun e w' => e = .returned (.tuple #[strv (parentP s.data.toList).1, .int .i64 (parentP s.data.toList).2]) ∧ Ext w w' := by
 generalize hP : parentP s.data.toList = PR
 have hpr : PR = parentP s.data.toList := hP.symm
 clear hP
 unfold parentP at hpr
 have hok := @parse_ok s.data.toList
 have hpa := fun W (hM : Mx W) => tparse_any s W hM hs
 generalize parseP EC s.data.toList = R at hok hpa hpr
 obtain ⟨t, code⟩ := R
 have HOK := hid hok
 have HPA := hid hpa
 clear hok hpa
 by_cases h0 : code = 0
 ·subst h0
  have hv := HOK.out rfl
  have HV := hid hv
  simp only [ne_eq, not_true_eq_false, if_false] at hpr
  have HPR0 := hid hpr
  clear hv hpr
  go_enter Tryz.func91, Tryz.ntmps91
  go_wp2_with fail
  refine (HPA.out _ hm).mono ?_
  rintro e w1 ⟨A, n, c, rfl, hs1, hnc, hw1⟩
  have hn : n ≤ 60000 := by
   have h1 := hs1.1
   rw [List.length_map] at h1
   rw [← h1]
   exact (TL_of HV.out).2.2.2.2
  have HS1 := hid hs1
  have HW1 := hid hw1
  clear hs1 hw1
  unfold tagV strv
  go_wp2_with fail
  have h4 := tparent_any t A n c (w1.alloc (.cells #[strv t.lang, strv t.script, strv t.region, .slice A n c] 143)) (HS1.out.ext ((Ext.refl w1).alloc _)) hn hnc (TL_of HV.out)
  cases hup : upP t with
  | none =>
    have hr : upR t = (TagP.zero, false) := by unfold upR; rw [hup]
    rw [hr] at h4
    unfold tagV strv at h4
    simp only at h4
    have hpr := HPR0.out
    rw [hup] at hpr
    simp only at hpr
    have HPR := hid hpr
    clear hup hr hpr HPR0
    with_reducible refine h4.mono ?_
    clear h4
    rintro e w3 ⟨A2, n2, c2, rfl, hs2, hc2, hw3⟩
    have HW3 := hid ((HW1.out.alloc _).trans hw3)
    obtain ⟨⟨p0, p1, p2, p3⟩, ⟨e0, e1, e2, e3⟩⟩ := ((AtT.new w1 : AtT 143 (w1.alloc (.cells #[.string ⟨t.lang.toArray⟩, .string ⟨t.script.toArray⟩, .string ⟨t.region.toArray⟩, .slice A n c] 143)) w1.heap.size _ _ _ _).ext hw3).cells
    have HLE := hid (Ext.size HW1.out)
    clear hw3 hs2
    go_wp2
    go_ret2
    exact ⟨by rw [HPR.out]; rfl, (HW3.out.alloc _)⟩
  | some u =>
    have hu := up_valid HV.out hup
    have hr : upR t = (u, true) := by unfold upR; rw [hup]
    rw [hr] at h4
    unfold tagV strv at h4
    simp only at h4
    have hpr := HPR0.out
    rw [hup] at hpr
    simp only at hpr
    have HPR := hid hpr
    clear hup hr hpr HPR0
    with_reducible refine h4.mono ?_
    clear h4
    rintro e w3 ⟨A2, n2, c2, rfl, hs2, hc2, hw3⟩
    have HS2 := hid hs2
    have HX3 := hid hw3
    have HU := hid hu
    have HW3 := hid ((HW1.out.alloc _).trans hw3)
    obtain ⟨⟨p0, p1, p2, p3⟩, ⟨e0, e1, e2, e3⟩⟩ := ((AtT.new w1 : AtT 143 (w1.alloc (.cells #[.string ⟨t.lang.toArray⟩, .string ⟨t.script.toArray⟩, .string ⟨t.region.toArray⟩, .slice A n c] 143)) w1.heap.size _ _ _ _).ext hw3).cells
    have HLE := hid (Ext.size HW1.out)
    clear hw3 hs2 hu
    go_wp2_with fail
    have hu := HU.out
    have h5 := ttext_any u A2 n2 c2 _ ((HS2.out w3 (Later.refl _ _) (HS1.out.ext (((Ext.refl w1).alloc (.cells #[strv t.lang, strv t.script, strv t.region, .slice A n c] 143)).trans HX3.out))).ext ((Ext.refl w3).alloc (.cells #[strv u.lang, strv u.script, strv u.region, .slice A2 n2 c2] 143))) (by have h1 := (HS2.out w3 (Later.refl _ _) (HS1.out.ext (((Ext.refl w1).alloc (.cells #[strv t.lang, strv t.script, strv t.region, .slice A n c] 143)).trans HX3.out))).1; rw [List.length_map] at h1; rw [← h1]; exact (TL_of hu.1).2.2.2.2) (by have := textP_len hu.1; omega)
    unfold tagV strv at h5
    with_reducible refine h5.mono ?_
    clear h5
    rintro e w5 ⟨rfl, hw5⟩
    have HW5 := hid ((HW3.out.alloc _).trans hw5)
    clear hw5
    go_wp2
    go_ret2
    exact ⟨by rw [HPR.out]; rfl, HW5.out⟩
 ·simp only [ne_eq, h0, not_false_eq_true, if_true] at hpr
  have HPR := hid hpr
  clear hpr
  have hb : (code == 0) = false := by simpa using h0
  have hb2 : (!code == 0) = true := by simpa using h0
  go_enter Tryz.func91, Tryz.ntmps91
  go_wp2_with fail
  refine (HPA.out _ hm).mono ?_
  rintro e w1 ⟨A, n, c, rfl, hs1, hnc, hw1⟩
  have HW1 := hid hw1
  clear hs1 hw1
  unfold tagV strv
  go_wp2
  go_ret2
  exact ⟨by rw [HPR.out]; rfl, HW1.out.alloc _⟩
set_option maxHeartbeats 1000000 in
theorem rparent2_any (s : ByteArray) (w : World) (hs : s.size ≤ 60000) :
 Calls Tryz.prog 77 #[.string s] w fun e w' => e = .returned (.tuple #[strv (parentP s.data.toList).1, .int .i64 (parentP s.data.toList).2]) ∧ Ext w w' := by
 generalize hP : parentP s.data.toList = PR
 have hpr : PR = parentP s.data.toList := hP.symm
 clear hP
 unfold parentP at hpr
 have hok := @parse_ok s.data.toList
 have hpa := fun W => rparse_any s W (by omega)
 generalize parseP EC s.data.toList = R at hok hpa hpr
 obtain ⟨t, code⟩ := R
 have HOK := hid hok
 have HPA := hid hpa
 clear hok hpa
 by_cases h0 : code = 0
 ·subst h0
  have hv := HOK.out rfl
  have HV := hid hv
  simp only [ne_eq, not_true_eq_false, if_false] at hpr
  have HPR0 := hid hpr
  clear hv hpr
  go_enter Tryz.func77, Tryz.ntmps77
  go_wp2_with fail
  refine (HPA.out _).mono ?_
  rintro e w1 ⟨A, n, c, rfl, hs1, hnc, hw1⟩
  have hn : n ≤ 60000 := by
   have h1 := hs1.1
   rw [List.length_map] at h1
   rw [← h1]
   exact (TL_of HV.out).2.2.2.2
  have HS1 := hid hs1
  have HW1 := hid hw1
  clear hs1 hw1
  unfold tagV strv
  go_wp2_with fail
  have h4 := rup_any t A n c (w1.alloc (.cells #[strv t.lang, strv t.script, strv t.region, .slice A n c] 153)) (HS1.out.ext ((Ext.refl w1).alloc _)) hn hnc (TL_of HV.out)
  cases hup : upP t with
  | none =>
    have hr : upR t = (TagP.zero, false) := by unfold upR; rw [hup]
    rw [hr] at h4
    unfold tagV strv at h4
    simp only at h4
    have hpr := HPR0.out
    rw [hup] at hpr
    simp only at hpr
    have HPR := hid hpr
    clear hup hr hpr HPR0
    with_reducible refine h4.mono ?_
    clear h4
    rintro e w3 ⟨A2, n2, c2, rfl, hs2, hc2, hw3⟩
    have HW3 := hid ((HW1.out.alloc _).trans hw3)
    obtain ⟨⟨p0, p1, p2, p3⟩, ⟨e0, e1, e2, e3⟩⟩ := ((AtT.new w1 : AtT 153 (w1.alloc (.cells #[.string ⟨t.lang.toArray⟩, .string ⟨t.script.toArray⟩, .string ⟨t.region.toArray⟩, .slice A n c] 153)) w1.heap.size _ _ _ _).ext hw3).cells
    have HLE := hid (Ext.size HW1.out)
    clear hw3 hs2
    go_wp2
    go_ret2
    exact ⟨by rw [HPR.out]; rfl, (((HW3.out.setCell (p := ⟨w1.heap.size, 0, none⟩) HLE.out _).setCell (p := ⟨w1.heap.size, 1, none⟩) HLE.out _).setCell (p := ⟨w1.heap.size, 2, none⟩) HLE.out _).setCell (p := ⟨w1.heap.size, 3, none⟩) HLE.out _⟩
  | some u =>
    have hu := up_valid HV.out hup
    have hr : upR t = (u, true) := by unfold upR; rw [hup]
    rw [hr] at h4
    unfold tagV strv at h4
    simp only at h4
    have hpr := HPR0.out
    rw [hup] at hpr
    simp only at hpr
    have HPR := hid hpr
    clear hup hr hpr HPR0
    with_reducible refine h4.mono ?_
    clear h4
    rintro e w3 ⟨A2, n2, c2, rfl, hs2, hc2, hw3⟩
    have HS2 := hid hs2
    have HX3 := hid hw3
    have HU := hid hu
    have HW3 := hid ((HW1.out.alloc _).trans hw3)
    obtain ⟨⟨p0, p1, p2, p3⟩, ⟨e0, e1, e2, e3⟩⟩ := ((AtT.new w1 : AtT 153 (w1.alloc (.cells #[.string ⟨t.lang.toArray⟩, .string ⟨t.script.toArray⟩, .string ⟨t.region.toArray⟩, .slice A n c] 153)) w1.heap.size _ _ _ _).ext hw3).cells
    have HLE := hid (Ext.size HW1.out)
    clear hw3 hs2 hu
    go_wp2_with fail
    have hu := HU.out
    have h5 := rText_any u A2 n2 c2 _ (HS2.out _ (HS1.out.ext (((((((Ext.refl w1).alloc (.cells #[strv t.lang, strv t.script, strv t.region, .slice A n c] 153)).trans HX3.out).setCell (p := ⟨w1.heap.size, 0, none⟩) (Nat.le_refl _) (strv u.lang)).setCell (p := ⟨w1.heap.size, 1, none⟩) (Nat.le_refl _) (strv u.script)).setCell (p := ⟨w1.heap.size, 2, none⟩) (Nat.le_refl _) (strv u.region)).setCell (p := ⟨w1.heap.size, 3, none⟩) (Nat.le_refl _) (.slice A2 n2 c2)))) (TL_of hu.1)
    rw [txt_valid hu.1] at h5
    unfold tagV strv at h5
    with_reducible refine h5.mono ?_
    clear h5
    rintro e w5 ⟨rfl, hw5⟩
    have HW5 := hid (((((HW3.out.setCell (p := ⟨w1.heap.size, 0, none⟩) HLE.out _).setCell (p := ⟨w1.heap.size, 1, none⟩) HLE.out _).setCell (p := ⟨w1.heap.size, 2, none⟩) HLE.out _).setCell (p := ⟨w1.heap.size, 3, none⟩) HLE.out _).trans hw5)
    clear hw5
    go_wp2
    go_ret2
    exact ⟨by rw [HPR.out]; rfl, HW5.out⟩
 ·simp only [ne_eq, h0, not_false_eq_true, if_true] at hpr
  have HPR := hid hpr
  clear hpr
  have hb : (code == 0) = false := by simpa using h0
  have hb2 : (!code == 0) = true := by simpa using h0
  go_enter Tryz.func77, Tryz.ntmps77
  go_wp2_with fail
  refine (HPA.out _).mono ?_
  rintro e w1 ⟨A, n, c, rfl, hs1, hnc, hw1⟩
  have HW1 := hid hw1
  clear hs1 hw1
  unfold tagV strv
  go_wp2
  go_ret2
  exact ⟨by rw [HPR.out]; rfl, HW1.out.alloc _⟩
end Go.Proofs.YtljdlkonlnjadaaGreatDoor
namespace Go.Proofs.YtljdlkonlnjadaaGreatDoor
open Go.RowKit
theorem ris_any (s : ByteArray) (w : World) (hs : s.size ≤ 2000000) :
 Calls Tryz.prog 52 #[.string s] w fun e w' => e = .returned (.bool (isP s.data.toList)) ∧ Ext w w' := by
 have hc := rcan_any s w hs
 generalize hI : isP s.data.toList = I
 unfold isP at hI
 generalize canP s.data.toList = C at hc hI
 obtain ⟨x, code⟩ := C
 obtain ⟨xb, hx1, rfl⟩ := strv_b x
 simp only at hc hI
 rw [hx1] at hc
 have HI := hid hI
 have HC := hid hc
 clear hx1 hI hc
 by_cases h0 : code = 0
 ·have hb : (code == 0) = true := by simpa using h0
  have HI2 := hid (show I = (xb.toList == s.toList) from by rw [← HI.out, hb, eq_b]; rfl)
  go_enter Tryz.func52, Tryz.ntmps52
  go_wp2_with (go_at_call 78; refine (HC.out).mono ?_; rintro e w1 ⟨rfl, hw1⟩; have HW1 := hid hw1; clear hw1)
  all_goals go_ret
  all_goals exact ⟨ret_bool (by rw [HI2.out]; try simp_all), HW1.out⟩
 ·have hb : (code == 0) = false := by simpa using h0
  have HI2 := hid (show I = false from by rw [← HI.out, hb]; rfl)
  go_enter Tryz.func52, Tryz.ntmps52
  go_wp2_with (go_at_call 78; refine (HC.out).mono ?_; rintro e w1 ⟨rfl, hw1⟩; have HW1 := hid hw1; clear hw1)
  go_ret
  exact ⟨ret_bool HI2.out.symm, HW1.out⟩
end Go.Proofs.YtljdlkonlnjadaaGreatDoor
namespace Go.Proofs.YtljdlkonlnjadaaGreatDoor
open Go.RowKit
theorem sub_same (l : List NearP) (a : List UInt8) (m : Int) : subtagP l a a m = 0 := by unfold subtagP; rw [if_pos rfl]
theorem sub_found {l : List NearP} {a b : List UInt8} {m : Int} {x : NearP} (h : a ≠ b) (hf : l.find? (fun x => pairB x a b) = some x) : subtagP l a b m = x.c := by unfold subtagP; rw [if_neg h, hf]
theorem sub_none {l : List NearP} {a b : List UInt8} {m : Int} (h : a ≠ b) (hf : l.find? (fun x => pairB x a b) = none) : subtagP l a b m = m := by unfold subtagP; rw [if_neg h, hf]
def SubInv (l : List Nr) (a b : List UInt8) (w : World) (n : Nat) (i : Value) (wr : World) : Prop :=
 ∃ k : Nat, k ≤ n ∧ i = .int .i64 k ∧ Ext w wr ∧ (l.take k).all (fun x => !pairB (nearOf x) a b) = true
theorem find_at {l : List Nr} {k : Nat} {x : Nr} {q : NearP → Bool} (hx : l[k]? = some x) (h1 : (l.take k).all (fun x => !q (nearOf x)) = true) (h2 : q (nearOf x) = true) : (l.map nearOf).find? q = some (nearOf x) := by
 obtain ⟨hk, rfl⟩ := List.getElem?_eq_some_iff.1 hx
 have hl : l = l.take k ++ l[k] :: l.drop (k + 1) := by rw [List.getElem_cons_drop, List.take_append_drop]
 generalize l[k] = x at hl h2 ⊢
 generalize l.take k = p at hl h1
 generalize l.drop (k + 1) = r at hl
 subst hl
 rw [List.map_append, List.find?_append]
 have : (p.map nearOf).find? q = none := by
  rw [List.find?_eq_none]
  intro y hy
  obtain ⟨z, hz, rfl⟩ := List.mem_map.1 hy
  have := List.all_eq_true.1 h1 z hz
  simpa using this
 rw [this]
 simp [h2]
theorem find_no {l : List Nr} {k : Nat} {q : NearP → Bool} (hk : l.length ≤ k) (h1 : (l.take k).all (fun x => !q (nearOf x)) = true) : (l.map nearOf).find? q = none := by
 rw [List.take_of_length_le hk] at h1
 rw [List.find?_eq_none]
 intro y hy
 obtain ⟨z, hz, rfl⟩ := List.mem_map.1 hy
 have := List.all_eq_true.1 h1 z hz
 simpa using this
theorem nall_step {l : List Nr} {k : Nat} {x : Nr} {q : Nr → Bool} (hx : l[k]? = some x) (h1 : (l.take k).all q = true) (h2 : q x = true) : (l.take (k + 1)).all q = true := by
 rw [take_next hx, List.all_append]
 simp [h1, h2]
end Go.Proofs.YtljdlkonlnjadaaGreatDoor
namespace Go.Proofs.YtljdlkonlnjadaaGreatDoor
open Go.RowKit
theorem ext_of {W wx : World} (hx : ∃ x : ExtW W, wx = x.v) : Ext W wx := by obtain ⟨y, hy⟩ := hx; rw [hy]; exact y.h
theorem dist_parts (l : List Nr) (hl : ∀ x ∈ l, 1 ≤ x.c ∧ x.c ≤ 99) (a b : List UInt8) (m : Int) (hm : 1 ≤ m) (hm2 : m ≤ 100) : 0 ≤ subtagP (l.map nearOf) a b m ∧ subtagP (l.map nearOf) a b m ≤ 100 := by
 have h : ∀ x ∈ l.map nearOf, 1 ≤ x.c ∧ x.c ≤ 99 := by
  intro x hx
  obtain ⟨y, hy, rfl⟩ := List.mem_map.1 hx
  exact hl y hy
 obtain ⟨h1, h2, _⟩ := subtag_bd h a b m hm
 exact ⟨h1, by omega⟩
end Go.Proofs.YtljdlkonlnjadaaGreatDoor
