import Derived.Test.YtcfgphhhgemkdaaDoorTagX
namespace Go.Proofs.YtcfgphhhgemkdaaDoor
open Go.RowKit
set_option linter.unusedSimpArgs false
set_option linter.unusedVariables false

/-- What is handed back in place of a text. -/
def txtOf (t : TagP) : List UInt8 := if validP t then textP t else []
theorem TL_of {t : TagP} (h : validP t = true) : TL t := by
  have h2 := h
  simp only [validP, Bool.and_eq_true, decide_eq_true_eq] at h
  obtain ⟨⟨⟨⟨⟨v1, v2⟩, v3⟩, v4⟩, v5⟩, v6⟩ := h
  refine ⟨?_, ?_, ?_, ?_, by omega⟩
  · simp [langB] at v1; omega
  · by_cases hs : t.script = []
    · simp [hs]
    · have : scriptB t.script = true := by simpa [hs] using v2
      simp [scriptB] at this; omega
  · by_cases hs : t.region = []
    · simp [hs]
    · have : regionB t.region = true := by simpa [hs] using v3
      simp [regionB] at this; omega
  · intro x hx
    have := List.all_eq_true.1 v4 x hx
    simp [variantB] at this
    omega
theorem TL_zero : TL TagP.zero := ⟨by simp [TagP.zero], by simp [TagP.zero], by simp [TagP.zero], by simp [TagP.zero], by simp [TagP.zero]⟩

set_option maxRecDepth 100000 in
theorem tText_any (t : TagP) (A : Option Addr) (n c : Nat) (w : World) (hA : Sl w A n (t.vars.map strv)) (ht : TL t) :
    Calls Tryd.prog 21 #[tagV t A n c] w fun e w' => e = .returned (strv (txtOf t)) ∧ Ext w w' := by
  have hl : t.vars.length = n := by have := hA.1; rwa [List.length_map] at this
  have hn : n ≤ 60000 := by rw [← hl]; exact ht.2.2.2.2
  have HA := Lib.hid hA
  have HT := Lib.hid ht
  clear hA ht hl
  cases hv : validP t with
  | false =>
    have HV := Lib.hid hv
    have ho : txtOf t = [] := by unfold txtOf; rw [hv]; rfl
    rw [ho]
    clear hv ho
    go_enter Tryd.func21, Tryd.ntmps21
    unfold tagV strv
    go_wp2_with fail
    have h2 := tvalid_any t A n c (w.alloc (.cells #[strv t.lang, strv t.script, strv t.region, .slice A n c] 42)) (HA.out.ext ((Ext.refl w).alloc _)) HT.out
    rw [HV.out] at h2
    unfold tagV strv at h2
    with_reducible refine h2.mono ?_
    clear h2
    rintro e w2 ⟨rfl, hw2⟩
    have HW2 := Lib.hid (((Ext.refl w).alloc _).trans hw2)
    clear hw2
    go_wp2
    go_ret
    exact ⟨rfl, HW2.out⟩
  | true =>
    have HV := Lib.hid hv
    have ho : txtOf t = textP t := by unfold txtOf; rw [hv]; rfl
    have HJ := Lib.hid (textP_len hv)
    rw [ho]
    clear hv ho
    go_enter Tryd.func21, Tryd.ntmps21
    unfold tagV strv
    go_wp2_with fail
    have h2 := tvalid_any t A n c (w.alloc (.cells #[strv t.lang, strv t.script, strv t.region, .slice A n c] 42)) (HA.out.ext ((Ext.refl w).alloc _)) HT.out
    rw [HV.out] at h2
    unfold tagV strv at h2
    with_reducible refine h2.mono ?_
    clear h2
    rintro e w2 ⟨rfl, hw2⟩
    have HW2 := Lib.hid (((Ext.refl w).alloc _).trans hw2)
    obtain ⟨⟨p0, p1, p2, p3⟩, _⟩ := (AtT.ext (AtT.new w : AtT 42 (w.alloc (.cells #[.string ⟨t.lang.toArray⟩, .string ⟨t.script.toArray⟩, .string ⟨t.region.toArray⟩, .slice A n c] 42)) w.heap.size _ _ _ _) hw2).cells
    clear hw2
    go_wp2_with fail
    have h3 := ttext_any t A n c w2 (HA.out.ext HW2.out) hn (by have := HJ.out; omega)
    unfold tagV strv at h3
    with_reducible refine h3.mono ?_
    clear h3
    rintro e w3 ⟨rfl, hw3⟩
    have HW3 := Lib.hid (HW2.out.trans hw3)
    clear hw3
    go_wp2
    go_ret
    exact ⟨rfl, HW3.out⟩

/-- The canonical text, and the code. -/
def canP (s : List UInt8) : List UInt8 × Int := (if (parseP EC s).2 = 0 then textP (parseP EC s).1 else [], (parseP EC s).2)
theorem EC_ne : EC.dup ≠ 0 ∧ EC.lim ≠ 0 ∧ EC.syn ≠ 0 := ⟨by decide, by decide, by decide⟩
theorem parse_ok {s : List UInt8} (h : (parseP EC s).2 = 0) : validP (parseP EC s).1 = true := parse_valid EC EC_ne s _ (by rw [← h])

end Go.Proofs.YtcfgphhhgemkdaaDoor
