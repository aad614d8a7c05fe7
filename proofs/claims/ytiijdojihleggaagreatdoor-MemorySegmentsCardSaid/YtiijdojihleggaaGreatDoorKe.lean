import Derived.Test.YtiijdojihleggaaGreatDoorKd
import Derived.Test.YtiijdojihleggaaGreatDoorNPI
set_option maxRecDepth 100000
set_option linter.unusedSimpArgs false
set_option linter.unusedVariables false
open Go.Lib (hid)
namespace Go.Proofs.YtiijdojihleggaaGreatDoor
open Go.RowKit
theorem FwS.low {w : World} {ok : Nat → Prop} {f : F} {v : Value} (h : FwS w ok f v) : FwS w (lowB_ w.heap.size) f v := by
 obtain ⟨A, c, ps, e, h1, h2, h3⟩ := h
 exact ⟨A, c, ps, e, h1, fun h0 ad hA => h1.inside (by decide) h0 ad hA, (FCw_exc (Exc.refl (fun _ => False) w) (fun _ _ h => h) (fun k hk => hk.2) f).1 _ ((FCw_in w ok f).1 _ h3)⟩
def prtP (c : Bool) (f : F) : By × Int := if validF c f = true then (txtP [32] f, 0) else ([], 1)
def RetSE (w : World) (x : By × Int) (e : Ending) (w' : World) : Prop := e = .returned (.tuple #[.string ⟨x.1.toArray⟩, .int .i64 x.2]) ∧ Ext w w'
theorem pr_small {f : F} (hw : wt f ≤ 40000000) : (txtP [32] f).length ≤ 40000000 := Nat.le_trans (txt_wt f).1 hw
theorem nodes_wtk : ∀ f : F, f.nodes * 20 ≤ wt f := by
 intro f
 induction f with
 | nil => exact Nat.zero_le _
 | cons k t n s c p r i1 i2 i3 => rw [F.nodes, wt]; omega
set_option maxHeartbeats 2000000 in
theorem text27_any {f : F} {v : Value} {ok : Nat → Prop} {d : Nat} {c pt : Bool} {w : World} (hF : FwS w ok f v) (hform : formB d c pt f = true) (hcan : Can f) (hw : wt f ≤ 40000000) :
 Calls Tryz.prog 63 #[v] w fun e w' => e = .returned (.string ⟨(txtP [32] f).toArray⟩) ∧ Ext w w' := by
 obtain ⟨A, cc, rfl⟩ := hF.val
 have hn := nodes_wtk f
 have hl := pr_small hw
 obtain ⟨W0, hW0⟩ : ∃ W0, W0 = w.alloc (.cells #[.pointer none, .slice none 0 0] 149) := ⟨_, rfl⟩
 have hx0 : Ext w W0 := by rw [hW0]; exact (Ext.refl w).alloc _
 have hp0 : PrO w.heap.size none [] W0 := by rw [hW0]; exact PrO.new w
 have KP := hid (pts_all (f.nodes + 1) f (.slice A f.len cc) d c pt w.heap.size w.heap.size none [] W0 (Nat.lt_succ_self _) (by omega) (hF.low.ext hx0) hform hcan hw hp0 (Nat.le_refl _) (fun k h => by cases h) (by simpa using (by omega : (txtP [32] f).length ≤ 1000000000)))
 rw [List.nil_append] at KP
 have HX0 := hid hx0
 have HS0 := hid (show W0.heap.size = w.heap.size + 1 from by rw [hW0, World.size_alloc])
 have hw0' := hW0
 generalize txtP [32] f = T at KP ⊢
 clear hF hform hcan hw hn hl hx0 hp0
 go_enter Tryz.func63, Tryz.ntmps63
 go_wp2_with fail
 rw [← hW0]
 clear hW0
 refine KP.out.mono ?_
 rintro e w1 ⟨rfl, hp1⟩
 obtain ⟨e1, g1, o1, n1⟩ := hp1
 have hpr : IsPr w.heap.size w.heap.size T w1 := o1.isPr (Nat.le_refl _) (fun k hk => by
  rcases n1 with n1 | n1
  ·rw [n1] at hk; cases hk
  ·have := n1 k hk
   have := HS0.out
   omega)
 have hb1 : Below w.heap.size w w1 := Below.trans HX0.out (e1.below (fun k hk => by
  rcases hk with hk | hk
  ·exact Nat.le_of_eq hk.symm
  ·cases hk) (by rw [HS0.out]; omega))
 have HB1 := hid hb1
 have KE := hid (prq_end w.heap.size w.heap.size T w1 hpr (by have := o1.lt; omega))
 clear e1 o1 n1 hpr hb1 hw0' KP
 go_wp2_with fail
 refine KE.out.mono ?_
 rintro e w2 ⟨rfl, hb2⟩
 have HB2 := hid (show Ext w w2 from HB1.out.trans hb2)
 clear hb2
 go_wp2
 go_ret
 exact ⟨rfl, HB2.out⟩
set_option maxHeartbeats 1000000 in
theorem tprint_any {f : F} {v : Value} {ok : Nat → Prop} {w : World} (hF : FwS w ok f v) (hcan : Can f) (hwt : wt f ≤ 40000000) (hm : Mx w) :
 Calls Tryz.prog 46 #[v] w (RetSE w (prtP false f)) := by
 have hn := nodes_wtk f
 have K1 := hid (tValid_any hF hcan hwt (by omega) hm)
 have K2 := hid (fun (h : validF false f = true) W (hx : Ext w W) => text27_any (hF.ext hx) (validF_iff.1 h).1 hcan hwt)
 obtain ⟨A, cc, rfl⟩ := hF.val
 unfold prtP
 clear hF hcan hwt hm hn
 cases hv : validF false f
 ·rw [hv] at K1
  clear K2
  go_enter Tryz.func46, Tryz.ntmps46
  go_wp2_with fail
  refine K1.out.mono ?_
  rintro e w2 ⟨rfl, hx2⟩
  have HX2 := hid hx2
  clear hx2
  go_wp2
  go_ret2
  exact ⟨rfl, HX2.out⟩
 ·rw [hv] at K1
  have K3 := hid (fun W (hx : Ext w W) => K2.out hv W hx)
  clear hv K2
  go_enter Tryz.func46, Tryz.ntmps46
  go_wp2_with fail
  refine K1.out.mono ?_
  rintro e w2 ⟨rfl, hx2⟩
  have HX2 := hid hx2
  clear hx2
  go_wp2_with fail
  refine (K3.out _ HX2.out).mono ?_
  rintro e w3 ⟨rfl, hx3⟩
  have HX3 := hid (HX2.out.trans hx3)
  clear hx3
  go_wp2
  go_ret2
  exact ⟨rfl, HX3.out⟩
end Go.Proofs.YtiijdojihleggaaGreatDoor
