import Derived.Test.YtpfmojeigjmlfaaGreatDoorKe
import Derived.Test.YtpfmojeigjmlfaaGreatDoorJh
set_option maxRecDepth 100000
set_option linter.unusedSimpArgs false
set_option linter.unusedVariables false
open Go.Lib (hid)
namespace Go.Proofs.YtpfmojeigjmlfaaGreatDoor
open Go.RowKit
set_option maxHeartbeats 1000000 in
theorem rprint_any {f : F} {v : Value} {ok : Nat → Prop} {w : World} (hF : FwS w ok f v) (hcan : Can f) (hwt : wt f ≤ 40000000) :
 Calls Tryz.prog 24 #[v] w (RetSE w (prtP false f)) := by
 have K1 := hid (rvalid_any hF hcan hwt)
 obtain ⟨A, cc, rfl⟩ := hF.val
 have K2 := hid (fun W (hx : Ext w W) => (show Calls Tryz.prog 13 #[.slice A f.len cc, .string ⟨#[32]⟩] W _ from rtxt_any [32] (by decide) (hF.ext hx) hcan hwt))
 unfold prtP
 clear hF hcan hwt
 cases hv : validF false f
 ·rw [hv] at K1
  clear K2
  go_enter Tryz.func24, Tryz.ntmps24
  go_wp2_with fail
  refine K1.out.mono ?_
  rintro e w2 ⟨rfl, hx2⟩
  have HX2 := hid hx2
  clear hx2
  go_wp2
  go_ret2
  exact ⟨rfl, HX2.out⟩
 ·rw [hv] at K1
  clear hv
  go_enter Tryz.func24, Tryz.ntmps24
  go_wp2_with fail
  refine K1.out.mono ?_
  rintro e w2 ⟨rfl, hx2⟩
  have HX2 := hid hx2
  clear hx2
  go_wp2_with fail
  refine (K2.out _ HX2.out).mono ?_
  rintro e w3 ⟨rfl, hx3⟩
  have HX3 := hid (HX2.out.trans hx3)
  clear hx3
  go_wp2
  go_ret2
  exact ⟨rfl, HX3.out⟩
end Go.Proofs.YtpfmojeigjmlfaaGreatDoor
