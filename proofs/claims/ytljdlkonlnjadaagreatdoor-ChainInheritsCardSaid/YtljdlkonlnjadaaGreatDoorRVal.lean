import Derived.Test.YtljdlkonlnjadaaGreatDoorNZ0
import Derived.Test.YtljdlkonlnjadaaGreatDoorNXK
import Derived.Test.YtljdlkonlnjadaaGreatDoorNX2
set_option maxRecDepth 100000
set_option linter.unusedSimpArgs false
set_option linter.unusedVariables false
open Go.Lib (hid)
namespace Go.Proofs.YtljdlkonlnjadaaGreatDoor
open Go.RowKit
def hdP (t : TagP) : Bool := langB t.lang && (t.script == [] || scriptB t.script) && (t.region == [] || regionB t.region)
theorem valid_hd (t : TagP) : validP t = (hdP t && (t.vars.all variantB && incB t.vars && decide (t.vars.length ≤ 4))) := by
 unfold validP hdP
 simp only [Bool.and_assoc]
def HdSt (b : Bool) (w : World) (v : Value) (wx : World) : Prop := v = .bool (!b) ∧ Ext w wx
set_option maxHeartbeats 8000000 in
theorem rvalid_any (t : TagP) (A : Option Addr) (n c : Nat) (w : World) (hA : Sl w A n (t.vars.map strv)) (ht : TL t) :
 Calls Tryz.prog 154 #[tagV t A n c] w fun e w' => e = .returned (.bool (validP t)) ∧ Ext w w' := by
 have hl : t.vars.length = n := by have := hA.1; rwa [List.length_map] at this
 obtain ⟨t1, t2, t3, t4, t5⟩ := ht
 rw [hl] at t5
 have HL := hid hl
 have HA := hid hA
 have HT4 := hid t4
 generalize hv : validP t = V
 have HV := hid hv
 clear hl hA t4 hv
 obtain ⟨lb, hl1, hl2⟩ := strv_b t.lang
 obtain ⟨sb, hs1, hs2⟩ := strv_b t.script
 obtain ⟨rb, hr1, hr2⟩ := strv_b t.region
 rw [← hl2] at t1
 rw [← hs2] at t2
 rw [← hr2] at t3
 rw [size_list] at t1 t2 t3
 have hat := (AtT.new w : AtT 153 (w.alloc (.cells #[.string lb, .string sb, .string rb, .slice A n c] 153)) w.heap.size (.string lb) (.string sb) (.string rb) (.slice A n c))
 unfold tagV
 rw [hl1, hs1, hr1]
 have hhd : hdP t = (langB lb.data.toList && (sb.data.toList == [] || (scriptL (low sb.data.toList) && titleOf (low sb.data.toList) == sb.data.toList)) && (rb.data.toList == [] || (regionL (low rb.data.toList) && upOf rb.data.toList == rb.data.toList))) := by
  unfold hdP
  rw [hl2, hs2, hr2, script_iff t.script, region_iff t.region]
 have HHD := hid hhd
 have HAT := hid hat
 have HS := hid (And.intro hl1 (And.intro hs1 hr1))
 clear hl1 hs1 hr1 hl2 hs2 hr2 hhd hat
 go_enter Tryz.func154, Tryz.ntmps154
 go_upto_region 1 with (fail)
 go_cut [48] (HdSt (hdP t) (w.alloc (.cells #[.string lb, .string sb, .string rb, .slice A n c] 153)))
 case first =>
  generalize hW : w.alloc (.cells #[.string lb, .string sb, .string rb, .slice A n c] 153) = W at HAT
  have HW := hid hW
  clear hW
  have c0 : ∀ x : ExtW W, x.v.cell? ⟨w.heap.size, 0, none⟩ = some (.string lb) := fun x => (HAT.out.ext x.h).cells.1.1
  have c1 : ∀ x : ExtW W, x.v.cell? ⟨w.heap.size, 1, none⟩ = some (.string sb) := fun x => (HAT.out.ext x.h).cells.1.2.1
  have c2 : ∀ x : ExtW W, x.v.cell? ⟨w.heap.size, 2, none⟩ = some (.string rb) := fun x => (HAT.out.ext x.h).cells.1.2.2.1
  obtain ⟨lo, lo1, lo2⟩ := strv_b (low sb.data.toList)
  obtain ⟨lr, lr1, lr2⟩ := strv_b (low rb.data.toList)
  obtain ⟨ti, ti1, ti2⟩ := strv_b (titleOf (low sb.data.toList))
  obtain ⟨up, up1, up2⟩ := strv_b (upOf rb.data.toList)
  have los : lo.size = sb.size := by rw [← size_list, lo2]; simp [low, size_list]
  have lrs : lr.size = rb.size := by rw [← size_list, lr2]; simp [low, size_list]
  have o1 : ∀ W' : World, Calls Tryz.prog 146 #[.string sb] W' fun e w' => e = .returned (.string lo) ∧ Ext W' w' := fun W' => by
   rw [← lo1]; exact rlower_any sb W' (by omega)
  have o2 : ∀ W' : World, Calls Tryz.prog 146 #[.string rb] W' fun e w' => e = .returned (.string lr) ∧ Ext W' w' := fun W' => by
   rw [← lr1]; exact rlower_any rb W' (by omega)
  have u1 : ∀ W' : World, Calls Tryz.prog 151 #[.string rb] W' fun e w' => e = .returned (.string up) ∧ Ext W' w' := fun W' => by
   rw [← up1]; exact rupper_any rb W' (by omega)
  have l1 : ∀ b, langB lb.data.toList = b → ∀ W' : World, Calls Tryz.prog 147 #[.string lb] W' fun e w' => e = .returned (.bool b) ∧ W' = w' := fun b hb W' => by
   rw [← hb]; exact rlang_any lb W' (by omega)
  have s1 : ∀ b, scriptL (low sb.data.toList) = b → ∀ W' : World, Calls Tryz.prog 148 #[.string lo] W' fun e w' => e = .returned (.bool b) ∧ W' = w' := fun b hb W' => by
   rw [← hb, ← lo2]; exact rscript_any lo W' (by omega)
  have r1 : ∀ b, regionL (low rb.data.toList) = b → ∀ W' : World, Calls Tryz.prog 150 #[.string lr] W' fun e w' => e = .returned (.bool b) ∧ W' = w' := fun b hb W' => by
   rw [← hb, ← lr2]; exact rregion_any lr W' (by omega)
  have q1 : scriptL (low sb.data.toList) = true → ∀ W' : World, Calls Tryz.prog 149 #[.string lo] W' fun e w' => e = .returned (.string ti) ∧ Ext W' w' := fun hb W' => by
   have h4 : 1 ≤ lo.size := by
    rw [← lo2] at hb
    simp [scriptL, size_list] at hb
    omega
   rw [← ti1, ← lo2]
   exact rtitle_any lo W' (by omega) h4
  have O1 := hid o1
  have O2 := hid o2
  have U1 := hid u1
  have LL := hid l1
  have SS := hid s1
  have RR := hid r1
  have QQ := hid q1
  have TI := hid ti2
  have UP := hid up2
  clear o1 o2 u1 l1 s1 r1 q1 lo1 lo2 lr1 lr2 ti1 ti2 up1 up2 los lrs
  cases hA1 : langB lb.data.toList with
  | false =>
    have L1 := hid (LL.out _ hA1)
    have hb : (!hdP t) = true := by rw [HHD.out]; simp only [hA1, Bool.true_and, Bool.false_and, Bool.and_false, Bool.or_true, Bool.true_or, Bool.false_or, Bool.and_true, Bool.not_true, Bool.not_false]
    have HB := hid hb
    clear hb
    clear hA1
    refine wp_region_ext (by kernel_rfl) (by kernel_rfl) ?_
    repeat (go_big_quiet_step ((first | (go_at_call 147; with_reducible exact ExtW.same (L1.out _)) | (go_at_call 146; first | with_reducible exact ExtW.call (O1.out _) | with_reducible exact ExtW.call (O2.out _)) | (go_at_call 148; with_reducible exact ExtW.same (S1.out _)) | (go_at_call 149; with_reducible exact ExtW.call (T1.out _)) | (go_at_call 150; with_reducible exact ExtW.same (R1.out _)) | (go_at_call 151; with_reducible exact ExtW.call (U1.out _)))))
    refine wpQuiet_nil ?_
    intro wx hx
    have HX := hid (show Ext W wx from by obtain ⟨y, hy⟩ := hx; rw [hy]; exact y.h)
    clear hx
    go_wp2
    go_meet
    exact ⟨by rw [HB.out], by have h := HX.out; rw [← HW.out] at h; exact h⟩
  | true =>
    have L1 := hid (LL.out _ hA1)
    by_cases hs0 : sb.data.toList = []
    ·have sB0 : (sb.data.toList == []) = true := by simpa using hs0
     have hse : sb.toList = [] := by rw [ByteArray.toList_eq]; exact hs0
     by_cases hr0 : rb.data.toList = []
     ·have rB0 : (rb.data.toList == []) = true := by simpa using hr0
      have hb : (!hdP t) = false := by rw [HHD.out]; simp only [hA1, sB0, rB0, Bool.true_and, Bool.false_and, Bool.and_false, Bool.or_true, Bool.true_or, Bool.false_or, Bool.and_true, Bool.not_true, Bool.not_false]
      have HB := hid hb
      clear hb
      have hre : rb.toList = [] := by rw [ByteArray.toList_eq]; exact hr0
      clear hA1 hr0 rB0 hs0 sB0
      refine wp_region_ext (by kernel_rfl) (by kernel_rfl) ?_
      repeat (go_big_quiet_step ((first | (go_at_call 147; with_reducible exact ExtW.same (L1.out _)) | (go_at_call 146; first | with_reducible exact ExtW.call (O1.out _) | with_reducible exact ExtW.call (O2.out _)) | (go_at_call 148; with_reducible exact ExtW.same (S1.out _)) | (go_at_call 149; with_reducible exact ExtW.call (T1.out _)) | (go_at_call 150; with_reducible exact ExtW.same (R1.out _)) | (go_at_call 151; with_reducible exact ExtW.call (U1.out _)))))
      refine wpQuiet_nil ?_
      intro wx hx
      have HX := hid (show Ext W wx from by obtain ⟨y, hy⟩ := hx; rw [hy]; exact y.h)
      clear hx
      go_wp2
      go_meet
      exact ⟨by rw [HB.out], by have h := HX.out; rw [← HW.out] at h; exact h⟩
     ·have rB0 : (rb.data.toList == []) = false := by simpa using hr0
      have hre : ¬ rb.toList = [] := by rw [ByteArray.toList_eq]; exact hr0
      have hre2 : rb.toList.isEmpty = false := by rw [ByteArray.toList_eq]; simpa using hr0
      cases hrl : regionL (low rb.data.toList) with
      | false =>
        have R1 := hid (RR.out _ hrl)
        have hb : (!hdP t) = true := by rw [HHD.out]; simp only [hA1, sB0, rB0, hrl, Bool.true_and, Bool.false_and, Bool.and_false, Bool.or_true, Bool.true_or, Bool.false_or, Bool.and_true, Bool.not_true, Bool.not_false]
        have HB := hid hb
        clear hb
        clear hA1 hr0 hrl rB0 hs0 sB0
        refine wp_region_ext (by kernel_rfl) (by kernel_rfl) ?_
        repeat (go_big_quiet_step ((first | (go_at_call 147; with_reducible exact ExtW.same (L1.out _)) | (go_at_call 146; first | with_reducible exact ExtW.call (O1.out _) | with_reducible exact ExtW.call (O2.out _)) | (go_at_call 148; with_reducible exact ExtW.same (S1.out _)) | (go_at_call 149; with_reducible exact ExtW.call (T1.out _)) | (go_at_call 150; with_reducible exact ExtW.same (R1.out _)) | (go_at_call 151; with_reducible exact ExtW.call (U1.out _)))))
        refine wpQuiet_nil ?_
        intro wx hx
        have HX := hid (show Ext W wx from by obtain ⟨y, hy⟩ := hx; rw [hy]; exact y.h)
        clear hx
        go_wp2
        go_meet
        exact ⟨by rw [HB.out], by have h := HX.out; rw [← HW.out] at h; exact h⟩
      | true =>
        have R1 := hid (RR.out _ hrl)
        by_cases hup : upOf rb.data.toList = rb.data.toList
        ·have uB : (upOf rb.data.toList == rb.data.toList) = true := by simpa using hup
         have hub : (up.toList == rb.toList) = true := by rw [eq_b, UP.out]; simpa using hup
         have hb : (!hdP t) = false := by rw [HHD.out]; simp only [hA1, sB0, rB0, hrl, uB, Bool.true_and, Bool.false_and, Bool.and_false, Bool.or_true, Bool.true_or, Bool.false_or, Bool.and_true, Bool.not_true, Bool.not_false]
         have HB := hid hb
         clear hb
         clear hA1 hr0 hrl hup rB0 uB hs0 sB0
         refine wp_region_ext (by kernel_rfl) (by kernel_rfl) ?_
         repeat (go_big_quiet_step ((first | (go_at_call 147; with_reducible exact ExtW.same (L1.out _)) | (go_at_call 146; first | with_reducible exact ExtW.call (O1.out _) | with_reducible exact ExtW.call (O2.out _)) | (go_at_call 148; with_reducible exact ExtW.same (S1.out _)) | (go_at_call 149; with_reducible exact ExtW.call (T1.out _)) | (go_at_call 150; with_reducible exact ExtW.same (R1.out _)) | (go_at_call 151; with_reducible exact ExtW.call (U1.out _)))))
         refine wpQuiet_nil ?_
         intro wx hx
         have HX := hid (show Ext W wx from by obtain ⟨y, hy⟩ := hx; rw [hy]; exact y.h)
         clear hx
         go_wp2
         go_meet
         exact ⟨by rw [HB.out], by have h := HX.out; rw [← HW.out] at h; exact h⟩
        ·have uB : (upOf rb.data.toList == rb.data.toList) = false := by simpa using hup
         have hub : (up.toList == rb.toList) = false := by rw [eq_b, UP.out]; simpa using hup
         have hb : (!hdP t) = true := by rw [HHD.out]; simp only [hA1, sB0, rB0, hrl, uB, Bool.true_and, Bool.false_and, Bool.and_false, Bool.or_true, Bool.true_or, Bool.false_or, Bool.and_true, Bool.not_true, Bool.not_false]
         have HB := hid hb
         clear hb
         clear hA1 hr0 hrl hup rB0 uB hs0 sB0
         refine wp_region_ext (by kernel_rfl) (by kernel_rfl) ?_
         repeat (go_big_quiet_step ((first | (go_at_call 147; with_reducible exact ExtW.same (L1.out _)) | (go_at_call 146; first | with_reducible exact ExtW.call (O1.out _) | with_reducible exact ExtW.call (O2.out _)) | (go_at_call 148; with_reducible exact ExtW.same (S1.out _)) | (go_at_call 149; with_reducible exact ExtW.call (T1.out _)) | (go_at_call 150; with_reducible exact ExtW.same (R1.out _)) | (go_at_call 151; with_reducible exact ExtW.call (U1.out _)))))
         refine wpQuiet_nil ?_
         intro wx hx
         have HX := hid (show Ext W wx from by obtain ⟨y, hy⟩ := hx; rw [hy]; exact y.h)
         clear hx
         go_wp2
         go_meet
         exact ⟨by rw [HB.out], by have h := HX.out; rw [← HW.out] at h; exact h⟩
    ·have sB0 : (sb.data.toList == []) = false := by simpa using hs0
     have hse : ¬ sb.toList = [] := by rw [ByteArray.toList_eq]; exact hs0
     have hse2 : sb.toList.isEmpty = false := by rw [ByteArray.toList_eq]; simpa using hs0
     cases hsl : scriptL (low sb.data.toList) with
     | false =>
       have S1 := hid (SS.out _ hsl)
       have hb : (!hdP t) = true := by rw [HHD.out]; simp only [hA1, sB0, hsl, Bool.true_and, Bool.false_and, Bool.and_false, Bool.or_true, Bool.true_or, Bool.false_or, Bool.and_true, Bool.not_true, Bool.not_false]
       have HB := hid hb
       clear hb
       clear hA1 hs0 hsl sB0
       refine wp_region_ext (by kernel_rfl) (by kernel_rfl) ?_
       repeat (go_big_quiet_step ((first | (go_at_call 147; with_reducible exact ExtW.same (L1.out _)) | (go_at_call 146; first | with_reducible exact ExtW.call (O1.out _) | with_reducible exact ExtW.call (O2.out _)) | (go_at_call 148; with_reducible exact ExtW.same (S1.out _)) | (go_at_call 149; with_reducible exact ExtW.call (T1.out _)) | (go_at_call 150; with_reducible exact ExtW.same (R1.out _)) | (go_at_call 151; with_reducible exact ExtW.call (U1.out _)))))
       refine wpQuiet_nil ?_
       intro wx hx
       have HX := hid (show Ext W wx from by obtain ⟨y, hy⟩ := hx; rw [hy]; exact y.h)
       clear hx
       go_wp2
       go_meet
       exact ⟨by rw [HB.out], by have h := HX.out; rw [← HW.out] at h; exact h⟩
     | true =>
       have S1 := hid (SS.out _ hsl)
       have T1 := hid (QQ.out hsl)
       by_cases hti : titleOf (low sb.data.toList) = sb.data.toList
       ·have tB : (titleOf (low sb.data.toList) == sb.data.toList) = true := by simpa using hti
        have htb : (ti.toList == sb.toList) = true := by rw [eq_b, TI.out]; simpa using hti
        by_cases hr0 : rb.data.toList = []
        ·have rB0 : (rb.data.toList == []) = true := by simpa using hr0
         have hb : (!hdP t) = false := by rw [HHD.out]; simp only [hA1, sB0, hsl, tB, rB0, Bool.true_and, Bool.false_and, Bool.and_false, Bool.or_true, Bool.true_or, Bool.false_or, Bool.and_true, Bool.not_true, Bool.not_false]
         have HB := hid hb
         clear hb
         have hre : rb.toList = [] := by rw [ByteArray.toList_eq]; exact hr0
         clear hA1 hr0 rB0 hs0 hsl hti sB0 tB
         refine wp_region_ext (by kernel_rfl) (by kernel_rfl) ?_
         repeat (go_big_quiet_step ((first | (go_at_call 147; with_reducible exact ExtW.same (L1.out _)) | (go_at_call 146; first | with_reducible exact ExtW.call (O1.out _) | with_reducible exact ExtW.call (O2.out _)) | (go_at_call 148; with_reducible exact ExtW.same (S1.out _)) | (go_at_call 149; with_reducible exact ExtW.call (T1.out _)) | (go_at_call 150; with_reducible exact ExtW.same (R1.out _)) | (go_at_call 151; with_reducible exact ExtW.call (U1.out _)))))
         refine wpQuiet_nil ?_
         intro wx hx
         have HX := hid (show Ext W wx from by obtain ⟨y, hy⟩ := hx; rw [hy]; exact y.h)
         clear hx
         go_wp2
         go_meet
         exact ⟨by rw [HB.out], by have h := HX.out; rw [← HW.out] at h; exact h⟩
        ·have rB0 : (rb.data.toList == []) = false := by simpa using hr0
         have hre : ¬ rb.toList = [] := by rw [ByteArray.toList_eq]; exact hr0
         have hre2 : rb.toList.isEmpty = false := by rw [ByteArray.toList_eq]; simpa using hr0
         cases hrl : regionL (low rb.data.toList) with
         | false =>
           have R1 := hid (RR.out _ hrl)
           have hb : (!hdP t) = true := by rw [HHD.out]; simp only [hA1, sB0, hsl, tB, rB0, hrl, Bool.true_and, Bool.false_and, Bool.and_false, Bool.or_true, Bool.true_or, Bool.false_or, Bool.and_true, Bool.not_true, Bool.not_false]
           have HB := hid hb
           clear hb
           clear hA1 hr0 hrl rB0 hs0 hsl hti sB0 tB
           refine wp_region_ext (by kernel_rfl) (by kernel_rfl) ?_
           repeat (go_big_quiet_step ((first | (go_at_call 147; with_reducible exact ExtW.same (L1.out _)) | (go_at_call 146; first | with_reducible exact ExtW.call (O1.out _) | with_reducible exact ExtW.call (O2.out _)) | (go_at_call 148; with_reducible exact ExtW.same (S1.out _)) | (go_at_call 149; with_reducible exact ExtW.call (T1.out _)) | (go_at_call 150; with_reducible exact ExtW.same (R1.out _)) | (go_at_call 151; with_reducible exact ExtW.call (U1.out _)))))
           refine wpQuiet_nil ?_
           intro wx hx
           have HX := hid (show Ext W wx from by obtain ⟨y, hy⟩ := hx; rw [hy]; exact y.h)
           clear hx
           go_wp2
           go_meet
           exact ⟨by rw [HB.out], by have h := HX.out; rw [← HW.out] at h; exact h⟩
         | true =>
           have R1 := hid (RR.out _ hrl)
           by_cases hup : upOf rb.data.toList = rb.data.toList
           ·have uB : (upOf rb.data.toList == rb.data.toList) = true := by simpa using hup
            have hub : (up.toList == rb.toList) = true := by rw [eq_b, UP.out]; simpa using hup
            have hb : (!hdP t) = false := by rw [HHD.out]; simp only [hA1, sB0, hsl, tB, rB0, hrl, uB, Bool.true_and, Bool.false_and, Bool.and_false, Bool.or_true, Bool.true_or, Bool.false_or, Bool.and_true, Bool.not_true, Bool.not_false]
            have HB := hid hb
            clear hb
            clear hA1 hr0 hrl hup rB0 uB hs0 hsl hti sB0 tB
            refine wp_region_ext (by kernel_rfl) (by kernel_rfl) ?_
            repeat (go_big_quiet_step ((first | (go_at_call 147; with_reducible exact ExtW.same (L1.out _)) | (go_at_call 146; first | with_reducible exact ExtW.call (O1.out _) | with_reducible exact ExtW.call (O2.out _)) | (go_at_call 148; with_reducible exact ExtW.same (S1.out _)) | (go_at_call 149; with_reducible exact ExtW.call (T1.out _)) | (go_at_call 150; with_reducible exact ExtW.same (R1.out _)) | (go_at_call 151; with_reducible exact ExtW.call (U1.out _)))))
            refine wpQuiet_nil ?_
            intro wx hx
            have HX := hid (show Ext W wx from by obtain ⟨y, hy⟩ := hx; rw [hy]; exact y.h)
            clear hx
            go_wp2
            go_meet
            exact ⟨by rw [HB.out], by have h := HX.out; rw [← HW.out] at h; exact h⟩
           ·have uB : (upOf rb.data.toList == rb.data.toList) = false := by simpa using hup
            have hub : (up.toList == rb.toList) = false := by rw [eq_b, UP.out]; simpa using hup
            have hb : (!hdP t) = true := by rw [HHD.out]; simp only [hA1, sB0, hsl, tB, rB0, hrl, uB, Bool.true_and, Bool.false_and, Bool.and_false, Bool.or_true, Bool.true_or, Bool.false_or, Bool.and_true, Bool.not_true, Bool.not_false]
            have HB := hid hb
            clear hb
            clear hA1 hr0 hrl hup rB0 uB hs0 hsl hti sB0 tB
            refine wp_region_ext (by kernel_rfl) (by kernel_rfl) ?_
            repeat (go_big_quiet_step ((first | (go_at_call 147; with_reducible exact ExtW.same (L1.out _)) | (go_at_call 146; first | with_reducible exact ExtW.call (O1.out _) | with_reducible exact ExtW.call (O2.out _)) | (go_at_call 148; with_reducible exact ExtW.same (S1.out _)) | (go_at_call 149; with_reducible exact ExtW.call (T1.out _)) | (go_at_call 150; with_reducible exact ExtW.same (R1.out _)) | (go_at_call 151; with_reducible exact ExtW.call (U1.out _)))))
            refine wpQuiet_nil ?_
            intro wx hx
            have HX := hid (show Ext W wx from by obtain ⟨y, hy⟩ := hx; rw [hy]; exact y.h)
            clear hx
            go_wp2
            go_meet
            exact ⟨by rw [HB.out], by have h := HX.out; rw [← HW.out] at h; exact h⟩
       ·have tB : (titleOf (low sb.data.toList) == sb.data.toList) = false := by simpa using hti
        have htb : (ti.toList == sb.toList) = false := by rw [eq_b, TI.out]; simpa using hti
        have hb : (!hdP t) = true := by rw [HHD.out]; simp only [hA1, sB0, hsl, tB, Bool.true_and, Bool.false_and, Bool.and_false, Bool.or_true, Bool.true_or, Bool.false_or, Bool.and_true, Bool.not_true, Bool.not_false]
        have HB := hid hb
        clear hb
        clear hA1 hs0 hsl hti sB0 tB
        refine wp_region_ext (by kernel_rfl) (by kernel_rfl) ?_
        repeat (go_big_quiet_step ((first | (go_at_call 147; with_reducible exact ExtW.same (L1.out _)) | (go_at_call 146; first | with_reducible exact ExtW.call (O1.out _) | with_reducible exact ExtW.call (O2.out _)) | (go_at_call 148; with_reducible exact ExtW.same (S1.out _)) | (go_at_call 149; with_reducible exact ExtW.call (T1.out _)) | (go_at_call 150; with_reducible exact ExtW.same (R1.out _)) | (go_at_call 151; with_reducible exact ExtW.call (U1.out _)))))
        refine wpQuiet_nil ?_
        intro wx hx
        have HX := hid (show Ext W wx from by obtain ⟨y, hy⟩ := hx; rw [hy]; exact y.h)
        clear hx
        go_wp2
        go_meet
        exact ⟨by rw [HB.out], by have h := HX.out; rw [← HW.out] at h; exact h⟩
 case rest =>
  obtain ⟨rfl, hx⟩ := hcut
  have HAT2 := hid (HAT.out.ext hx)
  have HW2 := hid (((Ext.refl w).alloc (.cells #[.string lb, .string sb, .string rb, .slice A n c] 153)).trans hx)
  have hvh : V = (hdP t && (t.vars.all variantB && incB t.vars && decide (t.vars.length ≤ 4))) := by rw [← HV.out]; exact valid_hd t
  have HVH := hid hvh
  clear hx HAT hvh
  cases hh : hdP t with
  | false =>
    have HB := hid (show V = false from by rw [HVH.out, hh]; rfl)
    clear hh
    go_wp2
    go_ret
    exact ⟨ret_bool HB.out.symm, HW2.out⟩
  | true =>
    have HB := hid (show V = (t.vars.all variantB && incB t.vars && decide (t.vars.length ≤ 4)) from by rw [HVH.out, hh]; rfl)
    have HAT3 := hid (show AtT 153 wc w.heap.size (strv t.lang) (strv t.script) (strv t.region) (.slice A n c) from by rw [HS.out.1, HS.out.2.1, HS.out.2.2]; exact HAT2.out)
    clear hh
    go_wp2
    go_loopw [3] (VInv 153 w t A n c) (fun i _ => n - (intOf i).toNat)
    case atStart => exact ⟨0, Nat.zero_le _, rfl, HAT3.out, HA.out.ext HW2.out, HW2.out, rfl, rfl⟩
    case round =>
     obtain ⟨k, hk, rfl, hat, hsl, hw, hall, hinc⟩ := hrel
     have p3 : ∀ x : ExtW wr, x.v.cell? ⟨w.heap.size, 3, none⟩ = some (.slice A n c) := fun x => (hat.ext x.h).cells.1.2.2.2
     have p4 : wr.cell? ⟨w.heap.size, 3, none⟩ = some (.slice A n c) := hat.cells.1.2.2.2
     have HAT4 := hid hat
     have HSL := hid hsl
     have HW := hid hw
     have HALL := hid hall
     have HINC := hid hinc
     clear hat hsl hw hall hinc
     by_cases hlt : k < n
     ·obtain ⟨ad, x, rfl, hu, hc⟩ := HSL.out.at_map hlt
      have hblk : ad.block < wr.heap.size := by have := World.block_lt_of_cell? wr _ hc; rwa [addr_block] at this
      obtain ⟨xb, hx1, rfl⟩ := strv_b x
      rw [hx1] at hc
      have hxs : xb.size ≤ 9223372036854775807 := by rw [← size_list]; exact HT4.out _ (List.mem_of_getElem? hu)
      have HU := hid hu
      have hc' : ∀ y : ExtW wr, y.v.cell? (ad.add k) = some (.string xb) := fun y => (Ext.cell y.h (by rw [addr_block]; exact hblk)).trans hc
      have hkI : (k : Int) < (n : Int) := by omega
      have hlater : ∀ wx, Ext wr wx → AtT 153 wx w.heap.size (strv t.lang) (strv t.script) (strv t.region) (.slice (some ad) n c) ∧ Sl wx (some ad) n (t.vars.map strv) ∧ Ext w wx := fun wx h => ⟨HAT4.out.ext h, HSL.out.ext h, HW.out.trans h⟩
      have HLT := hid hlater
      clear hx1 hu hc hlater
      cases hvx : variantB xb.data.toList with
      | false =>
        have HB2 := hid (HV.out.symm.trans (valid_bad HU.out hvx))
        have v1 : ∀ W' : World, Calls Tryz.prog 152 #[.string xb] W' fun e w' => e = .returned (.bool false) ∧ W' = w' := fun W' => by
         rw [← hvx]; exact rvariant_any xb W' (by omega)
        have V1 := hid v1
        clear hvx v1
        go_upto_region 6 with (fail)
        refine wp_region_ext (by kernel_rfl) (by kernel_rfl) ?_
        repeat (go_big_quiet_step ((go_at_call 152; with_reducible exact ExtW.same (V1.out _))))
        refine wpQuiet_nil ?_
        intro wx hx
        have HX3 := hid (show Ext wr wx from by obtain ⟨y, hy⟩ := hx; rw [hy]; exact y.h)
        clear hx
        go_wp2
        go_ret
        exact ⟨ret_bool HB2.out.symm, HW.out.trans HX3.out⟩
      | true =>
        have HX := hid hvx
        have v1 : ∀ W' : World, Calls Tryz.prog 152 #[.string xb] W' fun e w' => e = .returned (.bool true) ∧ W' = w' := fun W' => by
         rw [← hvx]; exact rvariant_any xb W' (by omega)
        have V1 := hid v1
        clear hvx v1
        by_cases hk0 : k = 0
        ·have HN := hid (vinv_next HU.out HALL.out HINC.out HX.out (fun y j hj _ => by omega))
         have hkB : decide ((0 : Int) < (k : Int)) = false := by simp; omega
         have hkI0 : ¬ (0 : Int) < (k : Int) := by omega
         have hkN : decide (0 < k) = false := by simp; omega
         clear hk0
         go_upto_region 6 with (fail)
         refine wp_region_ext (by kernel_rfl) (by kernel_rfl) ?_
         repeat (go_big_quiet_step ((go_at_call 152; with_reducible exact ExtW.same (V1.out _))))
         refine wpQuiet_nil ?_
         intro wx hx
         have HX3 := hid (show Ext wr wx from by obtain ⟨y, hy⟩ := hx; rw [hy]; exact y.h)
         clear hx
         go_wp2
         obtain ⟨l1, l2, l3⟩ := HLT.out _ HX3.out
         exact ⟨⟨k + 1, by omega, by go_num, l1, l2, l3, HN.out.1, HN.out.2⟩, by simp [intOf]; omega⟩
        ·obtain ⟨ad', y, had, hu2, hc2⟩ := HSL.out.at_map (k := k - 1) (by omega)
         injection had with had
         subst had
         obtain ⟨yb, hy1, rfl⟩ := strv_b y
         rw [hy1] at hc2
         have hc2' : ∀ y : ExtW wr, y.v.cell? (ad.add (k - 1)) = some (.string yb) := fun y => (Ext.cell y.h (by rw [addr_block]; exact hblk)).trans hc2
         have HU2 := hid hu2
         have hu' : t.vars[k - 1 + 1]? = some xb.data.toList := by rw [show k - 1 + 1 = k from by omega]; exact HU.out
         have HU' := hid hu'
         have e1 : (1 : Int) ≤ (k : Int) := by omega
         have e2 : ((k : Int) - 1).toNat = k - 1 := by omega
         have e3 : (0 : Int) < (k : Int) := by omega
         have e4 : (k : Int) - 1 < (n : Int) := by omega
         have e6 : 0 < k := by omega
         have e7 : decide (0 < k) = true := by simp; omega
         have e5 : IntKind.i64.wrap ((k : Int) - 1) = (k : Int) - 1 := IntWalk.i64_in _ (by omega)
         clear hy1 hu2 hu' hk0 hc2
         rcases three xb yb with ⟨h1, h3⟩ | ⟨h1, h2, h3⟩ | ⟨h1, h2, h3⟩
         ·have HB2 := hid (HV.out.symm.trans (valid_desc HU2.out HU'.out h3))
          clear h3
          go_upto_region 6 with (fail)
          refine wp_region_ext (by kernel_rfl) (by kernel_rfl) ?_
          repeat (go_big_quiet_step ((go_at_call 152; with_reducible exact ExtW.same (V1.out _))))
          refine wpQuiet_nil ?_
          intro wx hx
          have HX3 := hid (show Ext wr wx from by obtain ⟨y, hy⟩ := hx; rw [hy]; exact y.h)
          clear hx
          go_wp2
          go_ret
          exact ⟨ret_bool HB2.out.symm, HW.out.trans HX3.out⟩
         ·have HB2 := hid (HV.out.symm.trans (valid_desc HU2.out HU'.out h3))
          clear h3
          go_upto_region 6 with (fail)
          refine wp_region_ext (by kernel_rfl) (by kernel_rfl) ?_
          repeat (go_big_quiet_step ((go_at_call 152; with_reducible exact ExtW.same (V1.out _))))
          refine wpQuiet_nil ?_
          intro wx hx
          have HX3 := hid (show Ext wr wx from by obtain ⟨y, hy⟩ := hx; rw [hy]; exact y.h)
          clear hx
          go_wp2
          go_ret
          exact ⟨ret_bool HB2.out.symm, HW.out.trans HX3.out⟩
         ·have HN := hid (vinv_next HU.out HALL.out HINC.out HX.out (fun y i hi hy => by
           have : i = k - 1 := by omega
           subst this
           rw [HU2.out] at hy
           injection hy with hy
           subst hy
           exact h3))
          clear h3
          go_upto_region 6 with (fail)
          refine wp_region_ext (by kernel_rfl) (by kernel_rfl) ?_
          repeat (go_big_quiet_step ((go_at_call 152; with_reducible exact ExtW.same (V1.out _))))
          refine wpQuiet_nil ?_
          intro wx hx
          have HX3 := hid (show Ext wr wx from by obtain ⟨y, hy⟩ := hx; rw [hy]; exact y.h)
          clear hx
          go_wp2
          obtain ⟨l1, l2, l3⟩ := HLT.out _ HX3.out
          exact ⟨⟨k + 1, by omega, by go_num, l1, l2, l3, HN.out.1, HN.out.2⟩, by simp [intOf]; omega⟩
     ·have hkn : k = n := by omega
      subst hkn
      have hall := HALL.out
      have hinc := HINC.out
      rw [List.take_of_length_le (by rw [HL.out]; exact Nat.le_refl _)] at hall hinc
      have hval : V = decide (k ≤ 4) := by
       rw [HB.out, hall, hinc, HL.out]
       rfl
      have HVAL := hid hval
      clear hall hinc hval HALL HINC
      go_wp2
      go_ret
      exact ⟨ret_bool (by rw [HVAL.out]; simp; omega), HW.out⟩
end Go.Proofs.YtljdlkonlnjadaaGreatDoor
