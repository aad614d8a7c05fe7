import Derived.Test.YtcfgphhhgemkdaaDoorSlEq
namespace Go.Proofs.YtcfgphhhgemkdaaDoor
open Go.RowKit
set_option linter.unusedSimpArgs false
set_option linter.unusedVariables false

set_option maxHeartbeats 1000000 in
set_option maxRecDepth 100000 in
theorem tequal_any (t u : TagP) (A B : Option Addr) (n c m d : Nat) (w : World) (hA : Sl w A n (t.vars.map strv)) (hB : Sl w B m (u.vars.map strv)) (hn : n ≤ 60000) (hm : m ≤ 60000) :
    Calls Tryd.prog 41 #[tagV t A n c, tagV u B m d] w fun e w' => e = .returned (.bool (eqP t u)) ∧ Ext w w' := by
  obtain ⟨lb, hl1, hl2⟩ := strv_b t.lang
  obtain ⟨sb, hs1, hs2⟩ := strv_b t.script
  obtain ⟨rb, hr1, hr2⟩ := strv_b t.region
  obtain ⟨lc, hl3, hl4⟩ := strv_b u.lang
  obtain ⟨sc, hs3, hs4⟩ := strv_b u.script
  obtain ⟨rc, hr3, hr4⟩ := strv_b u.region
  have he : eqP t u = ((lb.toList == lc.toList) && (sb.toList == sc.toList) && (rb.toList == rc.toList) && (t.vars == u.vars)) := by
    unfold eqP
    rw [eq_b, eq_b, eq_b, hl2, hs2, hr2, hl4, hs4, hr4]
  unfold tagV
  rw [hl1, hs1, hr1, hl3, hs3, hr3, he]
  have HA := Lib.hid (hA.ext (((Ext.refl w).alloc (.cells #[.string lb, .string sb, .string rb, .slice A n c] 42)).alloc (.cells #[.string lc, .string sc, .string rc, .slice B m d] 42)))
  have HB := Lib.hid (hB.ext (((Ext.refl w).alloc (.cells #[.string lb, .string sb, .string rb, .slice A n c] 42)).alloc (.cells #[.string lc, .string sc, .string rc, .slice B m d] 42)))
  clear hl1 hs1 hr1 hl2 hs2 hr2 hl3 hs3 hr3 hl4 hs4 hr4 he hA hB
  have hcall := sleq_any _ _ _ _ _ _ c d _ HA.out HB.out (by omega) (by omega)
  generalize (t.vars == u.vars) = bv at hcall ⊢
  have HC := Lib.hid hcall
  clear hcall
  cases h1 : (lb.toList == lc.toList) <;> cases h2 : (sb.toList == sc.toList) <;> cases h3 : (rb.toList == rc.toList)
  all_goals
    go_enter Tryd.func41, Tryd.ntmps41
    go_wp2_with (go_at_call 58; with_reducible refine HC.out.mono ?_; rintro e w1 ⟨rfl, hw1⟩; have HW1 := Lib.hid hw1; clear hw1)
    go_ret
    first
      | exact ⟨rfl, ((Ext.refl w).alloc _).alloc _⟩
      | exact ⟨by simp, (((Ext.refl w).alloc _).alloc _).trans HW1.out⟩

end Go.Proofs.YtcfgphhhgemkdaaDoor
