import Derived.Test.YtcfgphhhgemkdaaGreatDoorTagY
import Derived.Test.YtcfgphhhgemkdaaGreatDoorRVal
namespace Go.Proofs.YtcfgphhhgemkdaaGreatDoor
open Go.RowKit
set_option linter.unusedSimpArgs false
set_option linter.unusedVariables false

theorem cat_val (l : List UInt8) (xb : ByteArray) : Value.string ((⟨l.toArray⟩ : ByteArray) ++ (⟨#[45]⟩ ++ xb)) = strv (l ++ 45 :: xb.data.toList) := by
  unfold strv
  congr 1
theorem cat_b (a xb : ByteArray) : Value.string (a ++ (⟨#[45]⟩ ++ xb)) = strv (a.data.toList ++ 45 :: xb.data.toList) := by
  unfold strv
  congr 1
theorem cat_b2 (a xb yb : ByteArray) : Value.string (a ++ (⟨#[45]⟩ ++ xb) ++ (⟨#[45]⟩ ++ yb)) = strv (a.data.toList ++ 45 :: xb.data.toList ++ 45 :: yb.data.toList) := by
  unfold strv
  congr 1

theorem optP_nil : optP [] = [] := rfl
theorem optP_ne {x : List UInt8} (h : ¬ x = []) : optP x = 45 :: x := by unfold optP; rw [if_neg (by simpa using h)]
def TxInv (w : World) (t : TagP) (A : Option Addr) (n c : Nat) (s i : Value) (wr : World) : Prop :=
  ∃ k : Nat, k ≤ n ∧ i = .int .i64 k ∧ s = strv (t.lang ++ optP t.script ++ optP t.region ++ ((t.vars.take k).map fun x => 45 :: x).flatten) ∧
    AtT 49 wr w.heap.size (strv t.lang) (strv t.script) (strv t.region) (.slice A n c) ∧ Sl wr A n (t.vars.map strv) ∧ Ext w wr
theorem tx_len {t : TagP} (h : validP t = true) (k : Nat) : (t.lang ++ optP t.script ++ optP t.region ++ ((t.vars.take k).map fun x => 45 :: x).flatten).length ≤ 60 := by
  have h1 := textP_len h
  rw [← text_eq t h] at h1
  unfold textR at h1
  have h2 : ((t.vars.take k).map fun x => (45 : UInt8) :: x).flatten.length ≤ ((t.vars).map fun x => (45 : UInt8) :: x).flatten.length := by
    conv => rhs; rw [← List.take_append_drop k t.vars]
    rw [List.map_append, List.flatten_append, List.length_append]
    omega
  simp only [List.length_append] at h1 ⊢
  omega

theorem TS_of {t : TagP} (h : validP t = true) : t.lang.length ≤ 60000 ∧ t.script.length ≤ 60000 ∧ t.region.length ≤ 60000 ∧ (∀ x ∈ t.vars, x.length ≤ 60000) ∧ t.vars.length ≤ 60000 := by
  have h2 := h
  simp only [validP, Bool.and_eq_true, decide_eq_true_eq] at h
  obtain ⟨⟨⟨⟨⟨v1, v2⟩, v3⟩, v4⟩, v5⟩, v6⟩ := h
  refine ⟨?_, ?_, ?_, ?_, by omega⟩
  · simp [langB] at v1; omega
  · by_cases hs : t.script = []
    · simp [hs]
    · have : scriptB t.script = true := by simpa [hs] using v2
      simp [scriptB] at this; omega
  · by_cases hs : t.region = []
    · simp [hs]
    · have : regionB t.region = true := by simpa [hs] using v3
      simp [regionB] at this; omega
  · intro x hx
    have := List.all_eq_true.1 v4 x hx
    simp [variantB] at this
    omega
set_option maxHeartbeats 4000000 in
set_option maxRecDepth 100000 in
theorem rText_any (t : TagP) (A : Option Addr) (n c : Nat) (w : World) (hA : Sl w A n (t.vars.map strv)) (ht : TL t) :
    Calls Tryz.prog 25 #[tagV t A n c] w fun e w' => e = .returned (strv (txtOf t)) ∧ Ext w w' := by
  have hl : t.vars.length = n := by have := hA.1; rwa [List.length_map] at this
  have hn : n ≤ 60000 := by rw [← hl]; exact ht.2.2.2.2
  have HA := Lib.hid hA
  have HT := Lib.hid ht
  have HL := Lib.hid hl
  clear hA ht hl
  cases hv : validP t with
  | false =>
    have HV := Lib.hid hv
    have ho : txtOf t = [] := by unfold txtOf; rw [hv]; rfl
    rw [ho]
    clear hv ho
    go_enter Tryz.func25, Tryz.ntmps25
    unfold tagV strv
    go_wp2_with fail
    have h2 := rvalid_any t A n c (w.alloc (.cells #[strv t.lang, strv t.script, strv t.region, .slice A n c] 49)) (HA.out.ext ((Ext.refl w).alloc _)) HT.out
    rw [HV.out] at h2
    unfold tagV strv at h2
    with_reducible refine h2.mono ?_
    clear h2
    rintro e w2 ⟨rfl, hw2⟩
    have HW2 := Lib.hid (((Ext.refl w).alloc _).trans hw2)
    clear hw2
    go_wp2
    go_ret
    exact ⟨rfl, HW2.out⟩
  | true =>
    have HV := Lib.hid hv
    have ho : txtOf t = textR t := by unfold txtOf; rw [hv, text_eq t hv]; rfl
    have HO := Lib.hid ho
    obtain ⟨lb, hl1, hl2⟩ := strv_b t.lang
    obtain ⟨sb, hs1, hs2⟩ := strv_b t.script
    obtain ⟨rb, hr1, hr2⟩ := strv_b t.region
    have HS := Lib.hid (And.intro hl1 (And.intro hs1 hr1))
    have HE := Lib.hid (And.intro hl2 (And.intro hs2 hr2))
    have b1 : lb.size ≤ 60000 := by rw [← size_list, hl2]; exact (TS_of HV.out).1
    have b2 : sb.size ≤ 60000 := by rw [← size_list, hs2]; exact (TS_of HV.out).2.1
    have b3 : rb.size ≤ 60000 := by rw [← size_list, hr2]; exact (TS_of HV.out).2.2.1
    rw [ho]
    unfold tagV
    rw [hl1, hs1, hr1]
    clear hv ho hl1 hs1 hr1 hl2 hs2 hr2
    go_enter Tryz.func25, Tryz.ntmps25
    go_wp2_with fail
    have h2 := rvalid_any t A n c (w.alloc (.cells #[strv t.lang, strv t.script, strv t.region, .slice A n c] 49)) (HA.out.ext ((Ext.refl w).alloc _)) HT.out
    rw [HV.out] at h2
    unfold tagV at h2
    rw [HS.out.1, HS.out.2.1, HS.out.2.2] at h2
    with_reducible refine h2.mono ?_
    clear h2
    rintro e w2 ⟨rfl, hw2⟩
    have HW2 := Lib.hid (((Ext.refl w).alloc _).trans hw2)
    have hat := AtT.ext (AtT.new w : AtT 49 (w.alloc (.cells #[.string lb, .string sb, .string rb, .slice A n c] 49)) w.heap.size _ _ _ _) hw2
    obtain ⟨⟨p0, p1, p2, p3⟩, _⟩ := hat.cells
    have HAT := Lib.hid (show AtT 49 w2 w.heap.size (strv t.lang) (strv t.script) (strv t.region) (.slice A n c) from by rw [HS.out.1, HS.out.2.1, HS.out.2.2]; exact hat)
    clear hw2 hat
    have start : ∀ v, v = strv (t.lang ++ optP t.script ++ optP t.region) → TxInv w t A n c v (.int .i64 0) w2 := by
      intro v hv
      refine ⟨0, Nat.zero_le _, rfl, ?_, HAT.out, HA.out.ext HW2.out, HW2.out⟩
      rw [hv]
      simp
    have ST := Lib.hid start
    clear start
    have round : ∀ (k : Nat) (x : List UInt8), t.vars[k]? = some x → t.lang ++ optP t.script ++ optP t.region ++ ((t.vars.take (k + 1)).map fun x => 45 :: x).flatten = (t.lang ++ optP t.script ++ optP t.region ++ ((t.vars.take k).map fun x => 45 :: x).flatten) ++ 45 :: x := by
      intro k x hx
      rw [take_next hx]
      simp
    have RD := Lib.hid round
    clear round
    by_cases hsn : sb.data.toList = [] <;> by_cases hrn : rb.data.toList = []
    · have HB := Lib.hid (show Value.string lb = strv (t.lang ++ optP t.script ++ optP t.region) from by
        rw [show t.script = [] from by rw [← HE.out.2.1]; exact hsn, show t.region = [] from by rw [← HE.out.2.2]; exact hrn, ← HE.out.1]
        rw [optP_nil, List.append_nil, List.append_nil, strv_mk])
      have e1 : sb.toList = [] := by rw [ByteArray.toList_eq]; exact hsn
      have e2 : rb.toList = [] := by rw [ByteArray.toList_eq]; exact hrn
      clear hsn hrn
      go_wp2
      go_loopw [3, 4] (TxInv w t A n c) (fun _ i _ => n - (intOf i).toNat)
      case atStart => exact ST.out _ HB.out
      case round =>
        obtain ⟨k, hk, rfl, rfl, hat, hsl, hw⟩ := hrel
        have q3 := hat.cells.1.2.2.2
        have HAT2 := Lib.hid hat
        have HSL := Lib.hid hsl
        have HW := Lib.hid hw
        clear hat hsl hw p0 p1 p2 p3
        have hlen := tx_len HV.out k
        by_cases hlt : k < n
        · obtain ⟨ad, x, rfl, hu, hc⟩ := HSL.out.at_map hlt
          obtain ⟨xb, hx1, rfl⟩ := strv_b x
          rw [hx1] at hc
          have hxs : xb.size ≤ 60000 := by rw [← size_list]; exact (TS_of HV.out).2.2.2.1 _ (List.mem_of_getElem? hu)
          have HU := Lib.hid (RD.out k _ hu)
          clear hx1 hu
          generalize (t.lang ++ optP t.script ++ optP t.region ++ ((t.vars.take k).map fun x => 45 :: x).flatten) = cur at hlen HU
          unfold strv
          go_wp2
          rw [cat_val, ← HU.out]
          exact ⟨⟨k + 1, by omega, by go_num, rfl, HAT2.out, HSL.out, HW.out⟩, by simp [intOf]; omega⟩
        · have hkn : k = n := by omega
          subst hkn
          have HF := Lib.hid (show t.lang ++ optP t.script ++ optP t.region ++ ((t.vars.take k).map fun x => 45 :: x).flatten = textR t from by
            rw [List.take_of_length_le (by rw [HL.out]; exact Nat.le_refl _)]; rfl)
          generalize (t.lang ++ optP t.script ++ optP t.region ++ ((t.vars.take k).map fun x => 45 :: x).flatten) = cur at HF hlen
          unfold strv
          go_wp2
          go_ret
          exact ⟨by rw [HF.out]; rfl, HW.out⟩
    · have HB := Lib.hid (show Value.string (lb ++ (⟨#[45]⟩ ++ rb)) = strv (t.lang ++ optP t.script ++ optP t.region) from by
        rw [cat_b, show t.script = [] from by rw [← HE.out.2.1]; exact hsn, ← HE.out.1, ← HE.out.2.2]
        rw [optP_nil, List.append_nil, optP_ne hrn])
      have e1 : sb.toList = [] := by rw [ByteArray.toList_eq]; exact hsn
      have e2 : ¬ rb.toList = [] := by rw [ByteArray.toList_eq]; exact hrn
      have e3 : rb.toList.isEmpty = false := by rw [ByteArray.toList_eq]; simpa using hrn
      clear hsn hrn
      go_wp2
      go_loopw [3, 4] (TxInv w t A n c) (fun _ i _ => n - (intOf i).toNat)
      case atStart => exact ST.out _ HB.out
      case round =>
        obtain ⟨k, hk, rfl, rfl, hat, hsl, hw⟩ := hrel
        have q3 := hat.cells.1.2.2.2
        have HAT2 := Lib.hid hat
        have HSL := Lib.hid hsl
        have HW := Lib.hid hw
        clear hat hsl hw p0 p1 p2 p3
        have hlen := tx_len HV.out k
        by_cases hlt : k < n
        · obtain ⟨ad, x, rfl, hu, hc⟩ := HSL.out.at_map hlt
          obtain ⟨xb, hx1, rfl⟩ := strv_b x
          rw [hx1] at hc
          have hxs : xb.size ≤ 60000 := by rw [← size_list]; exact (TS_of HV.out).2.2.2.1 _ (List.mem_of_getElem? hu)
          have HU := Lib.hid (RD.out k _ hu)
          clear hx1 hu
          generalize (t.lang ++ optP t.script ++ optP t.region ++ ((t.vars.take k).map fun x => 45 :: x).flatten) = cur at hlen HU
          unfold strv
          go_wp2
          rw [cat_val, ← HU.out]
          exact ⟨⟨k + 1, by omega, by go_num, rfl, HAT2.out, HSL.out, HW.out⟩, by simp [intOf]; omega⟩
        · have hkn : k = n := by omega
          subst hkn
          have HF := Lib.hid (show t.lang ++ optP t.script ++ optP t.region ++ ((t.vars.take k).map fun x => 45 :: x).flatten = textR t from by
            rw [List.take_of_length_le (by rw [HL.out]; exact Nat.le_refl _)]; rfl)
          generalize (t.lang ++ optP t.script ++ optP t.region ++ ((t.vars.take k).map fun x => 45 :: x).flatten) = cur at HF hlen
          unfold strv
          go_wp2
          go_ret
          exact ⟨by rw [HF.out]; rfl, HW.out⟩
    · have HB := Lib.hid (show Value.string (lb ++ (⟨#[45]⟩ ++ sb)) = strv (t.lang ++ optP t.script ++ optP t.region) from by
        rw [cat_b, show t.region = [] from by rw [← HE.out.2.2]; exact hrn, ← HE.out.1, ← HE.out.2.1]
        rw [optP_nil, List.append_nil, optP_ne hsn])
      have e1 : ¬ sb.toList = [] := by rw [ByteArray.toList_eq]; exact hsn
      have e3 : sb.toList.isEmpty = false := by rw [ByteArray.toList_eq]; simpa using hsn
      have e2 : rb.toList = [] := by rw [ByteArray.toList_eq]; exact hrn
      clear hsn hrn
      go_wp2
      go_loopw [3, 4] (TxInv w t A n c) (fun _ i _ => n - (intOf i).toNat)
      case atStart => exact ST.out _ HB.out
      case round =>
        obtain ⟨k, hk, rfl, rfl, hat, hsl, hw⟩ := hrel
        have q3 := hat.cells.1.2.2.2
        have HAT2 := Lib.hid hat
        have HSL := Lib.hid hsl
        have HW := Lib.hid hw
        clear hat hsl hw p0 p1 p2 p3
        have hlen := tx_len HV.out k
        by_cases hlt : k < n
        · obtain ⟨ad, x, rfl, hu, hc⟩ := HSL.out.at_map hlt
          obtain ⟨xb, hx1, rfl⟩ := strv_b x
          rw [hx1] at hc
          have hxs : xb.size ≤ 60000 := by rw [← size_list]; exact (TS_of HV.out).2.2.2.1 _ (List.mem_of_getElem? hu)
          have HU := Lib.hid (RD.out k _ hu)
          clear hx1 hu
          generalize (t.lang ++ optP t.script ++ optP t.region ++ ((t.vars.take k).map fun x => 45 :: x).flatten) = cur at hlen HU
          unfold strv
          go_wp2
          rw [cat_val, ← HU.out]
          exact ⟨⟨k + 1, by omega, by go_num, rfl, HAT2.out, HSL.out, HW.out⟩, by simp [intOf]; omega⟩
        · have hkn : k = n := by omega
          subst hkn
          have HF := Lib.hid (show t.lang ++ optP t.script ++ optP t.region ++ ((t.vars.take k).map fun x => 45 :: x).flatten = textR t from by
            rw [List.take_of_length_le (by rw [HL.out]; exact Nat.le_refl _)]; rfl)
          generalize (t.lang ++ optP t.script ++ optP t.region ++ ((t.vars.take k).map fun x => 45 :: x).flatten) = cur at HF hlen
          unfold strv
          go_wp2
          go_ret
          exact ⟨by rw [HF.out]; rfl, HW.out⟩
    · have HB := Lib.hid (show Value.string (lb ++ (⟨#[45]⟩ ++ sb) ++ (⟨#[45]⟩ ++ rb)) = strv (t.lang ++ optP t.script ++ optP t.region) from by
        rw [cat_b2, ← HE.out.1, ← HE.out.2.1, ← HE.out.2.2]
        rw [optP_ne hsn, optP_ne hrn])
      have e1 : ¬ sb.toList = [] := by rw [ByteArray.toList_eq]; exact hsn
      have e3 : sb.toList.isEmpty = false := by rw [ByteArray.toList_eq]; simpa using hsn
      have e2 : ¬ rb.toList = [] := by rw [ByteArray.toList_eq]; exact hrn
      have e4 : rb.toList.isEmpty = false := by rw [ByteArray.toList_eq]; simpa using hrn
      clear hsn hrn
      go_wp2
      go_loopw [3, 4] (TxInv w t A n c) (fun _ i _ => n - (intOf i).toNat)
      case atStart => exact ST.out _ HB.out
      case round =>
        obtain ⟨k, hk, rfl, rfl, hat, hsl, hw⟩ := hrel
        have q3 := hat.cells.1.2.2.2
        have HAT2 := Lib.hid hat
        have HSL := Lib.hid hsl
        have HW := Lib.hid hw
        clear hat hsl hw p0 p1 p2 p3
        have hlen := tx_len HV.out k
        by_cases hlt : k < n
        · obtain ⟨ad, x, rfl, hu, hc⟩ := HSL.out.at_map hlt
          obtain ⟨xb, hx1, rfl⟩ := strv_b x
          rw [hx1] at hc
          have hxs : xb.size ≤ 60000 := by rw [← size_list]; exact (TS_of HV.out).2.2.2.1 _ (List.mem_of_getElem? hu)
          have HU := Lib.hid (RD.out k _ hu)
          clear hx1 hu
          generalize (t.lang ++ optP t.script ++ optP t.region ++ ((t.vars.take k).map fun x => 45 :: x).flatten) = cur at hlen HU
          unfold strv
          go_wp2
          rw [cat_val, ← HU.out]
          exact ⟨⟨k + 1, by omega, by go_num, rfl, HAT2.out, HSL.out, HW.out⟩, by simp [intOf]; omega⟩
        · have hkn : k = n := by omega
          subst hkn
          have HF := Lib.hid (show t.lang ++ optP t.script ++ optP t.region ++ ((t.vars.take k).map fun x => 45 :: x).flatten = textR t from by
            rw [List.take_of_length_le (by rw [HL.out]; exact Nat.le_refl _)]; rfl)
          generalize (t.lang ++ optP t.script ++ optP t.region ++ ((t.vars.take k).map fun x => 45 :: x).flatten) = cur at HF hlen
          unfold strv
          go_wp2
          go_ret
          exact ⟨by rw [HF.out]; rfl, HW.out⟩
end Go.Proofs.YtcfgphhhgemkdaaGreatDoor
