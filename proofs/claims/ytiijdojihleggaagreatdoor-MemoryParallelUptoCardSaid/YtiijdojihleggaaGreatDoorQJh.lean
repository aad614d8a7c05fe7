import Derived.Test.YtiijdojihleggaaGreatDoorQJd
import Derived.Test.YtiijdojihleggaaGreatDoorQJg
import Derived.Test.YtiijdojihleggaaGreatDoorQNPA
set_option maxRecDepth 100000
set_option linter.unusedSimpArgs false
set_option linter.unusedVariables false
open Go.Lib (hid)
namespace Go.Proofs.YtiijdojihleggaaGreatDoor
open Go.RowKit
theorem rtxt_any {f : F} {v : Value} {ok : Nat → Prop} (gap : By) {w : World} (hg : gap.length ≤ 24) (hF : FwS w ok f v) (hcan : Can f) (hw : wt f ≤ 40000000) :
 Calls Tryz.prog 62 #[v, .string ⟨gap.toArray⟩] w fun e w' => e = .returned (.string ⟨(txtP gap f).toArray⟩) ∧ Ext w w' :=
 text_all gap hg (f.nodes + 1) f v ok w (Nat.lt_succ_self _) (by have := nodes_wtg f; omega) hF hcan hw
theorem rnames_any {f : F} {v : Value} {ok : Nat → Prop} {w : World} (hF : FwS w ok f v) (hcan : Can f) (hw : wt f ≤ 40000000) :
 Calls Tryz.prog 61 #[v, .slice none 0 0] w (RetNs w (namesF f [])) :=
 names_all (f.nodes + 1) f v ok [] none 0 w (Nat.lt_succ_self _) (by have := nodes_wtg f; omega) hF hcan (SlN.nil _ _ _) (by have := nodes_wtg f; simp; omega)
set_option maxHeartbeats 2000000 in
theorem rvalid_any {f : F} {v : Value} {ok : Nat → Prop} {w : World} (hF : FwS w ok f v) (hcan : Can f) (hw : wt f ≤ 40000000) :
 Calls Tryz.prog 44 #[v] w fun e w' => e = .returned (.bool (validF false f)) ∧ Ext w w' := by
 obtain ⟨A, c, rfl⟩ := hF.val
 have hn : f.nodes < 1000000000 := by have := nodes_wtg f; omega
 have K1 := hid (fun W (hx : Ext w W) => formed_any false (hF.ext hx) hcan hn)
 have K2 := hid (fun W (hx : Ext w W) => rnames_any (hF.ext hx) hcan hw)
 have K3 := hid (fun W (hx : Ext w W) => (show Calls Tryz.prog 62 #[.slice A f.len c, .string ⟨#[32]⟩] W _ from rtxt_any [32] (by decide) (hF.ext hx) hcan hw))
 obtain ⟨b1, h1⟩ : ∃ b1, b1 = formB 0 false false f := ⟨_, rfl⟩
 obtain ⟨ns, h2⟩ : ∃ ns, ns = namesF f [] := ⟨_, rfl⟩
 obtain ⟨tx, h3⟩ : ∃ tx, tx = txtP [32] f := ⟨_, rfl⟩
 have hr : validF false f = (b1 && decide (ns.length ≤ 20) && decide (tx.length ≤ 4000)) := by unfold validF; rw [h1, h2, h3]
 rw [← h1] at K1
 rw [← h2] at K2
 rw [← h3] at K3
 rw [hr]
 have hnl : ns.length ≤ 1000000000 := by rw [h2]; have h := names_nodes f []; simp at h; omega
 have htl : tx.length ≤ 200000000 := by rw [h3]; exact txt_len (by decide) hw
 have HC := hid (show ∀ m : Nat, decide ((m : Int) ≤ 4000) = decide (m ≤ 4000) from fun m => by rw [Bool.eq_iff_iff, decide_eq_true_eq, decide_eq_true_eq]; omega)
 clear hF hcan hw hn h1 h2 h3 hr
 go_enter Tryz.func44, Tryz.ntmps44
 go_wp2_with (first
  | (go_at_call 60; ((with_reducible refine (K1.out _ (Ext.refl _)).mono ?_); rintro e w2 ⟨rfl, hx2⟩; have HX2 := hid hx2; clear hx2))
  | (go_at_call 61; ((with_reducible refine (K2.out _ HX2.out).mono ?_); rintro e w3 ⟨A3, c3, rfl, _, hx3⟩; have HX3 := hid (HX2.out.trans hx3); clear hx3))
  | (go_at_call 62; ((with_reducible refine (K3.out _ HX3.out).mono ?_); rintro e w4 ⟨rfl, hx4⟩; have HX4 := hid (HX3.out.trans hx4); clear hx4)))
 all_goals go_ret
 all_goals refine ⟨ret_bool ?_, ?_⟩
 all_goals first
  | exact HX4.out
  | exact HX3.out
  | exact HX2.out
  | (have q : ¬ ns.length ≤ 20 := by omega
     rw [decide_eq_false q]
     simp_all; done)
  | (have q : ns.length ≤ 20 := by omega
     rw [decide_eq_true q, HC.out]
     simp_all; done)
  | (simp_all; done)
end Go.Proofs.YtiijdojihleggaaGreatDoor
