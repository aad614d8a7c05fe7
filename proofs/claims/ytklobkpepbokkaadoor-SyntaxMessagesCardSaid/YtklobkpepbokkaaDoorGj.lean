import Derived.Test.YtklobkpepbokkaaDoorNPI
namespace Go.Proofs.YtklobkpepbokkaaDoor
open Go.RowKit
set_option linter.unusedSimpArgs false
set_option linter.unusedVariables false

/-! The program's test of fragments. -/
set_option maxHeartbeats 1000000 in
theorem tValidF_any {f : F} {v : Value} {ok : Nat → Prop} {w : World} (hF : FwS w ok f v) (hcan : Can f) (hwt : wt f ≤ 40000000) (hnd : f.nodes ≤ 100000000) (hm : Mx w) :
    Calls Tryd.prog 15 #[v] w fun e w' => e = .returned (.bool (validF true f)) ∧ Ext w w' := by
  have K := Lib.hid (valid_any (c := true) hF hcan hwt hnd hm)
  obtain ⟨A, cc, rfl⟩ := hF.val
  generalize validF true f = V at K ⊢
  clear hF hcan hwt hnd hm
  go_enter Tryd.func15, Tryd.ntmps15
  go_wp2_with fail
  refine K.out.mono ?_
  rintro e w2 ⟨rfl, hx2⟩
  have HX2 := Lib.hid hx2
  clear hx2
  go_wp2
  go_ret
  exact ⟨rfl, HX2.out⟩
end Go.Proofs.YtklobkpepbokkaaDoor
