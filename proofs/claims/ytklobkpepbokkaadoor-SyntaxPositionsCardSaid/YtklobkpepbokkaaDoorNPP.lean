import Derived.Test.YtklobkpepbokkaaDoorNPK
import Derived.Test.YtklobkpepbokkaaDoorLift
import Derived.Test.YtklobkpepbokkaaDoorShelf
import Derived.Test.YtklobkpepbokkaaDoorRows
import Derived.Test.YtklobkpepbokkaaDoorCards
import Derived.Test.YtklobkpepbokkaaDoorTie
import Derived.Shelf.Vars
namespace Go.Proofs.YtklobkpepbokkaaDoor.lawSyntaxPositions
open Go.ChangeShapes Go.WideShapes Go.ChangeAt Go.RowKit
set_option linter.unusedSimpArgs false
set_option linter.unusedVariables false

set_option maxHeartbeats 4000000 in
set_option maxRecDepth 100000 in
theorem law (s : ByteArray) (w : World) (hm : Mx w) (hs : s.size ≤ maxLen) : Calls Tryd.prog 5 #[.string s] w (RetTrue w) := by
  unfold maxLen at hs
  by_cases hlt : 4000 < s.size
  · go_enter Tryd.func5, Tryd.ntmps5
    go_wp2_with fail
    refine (awake_any _ hm).mono ?_
    rintro e w1 ⟨rfl, hw1⟩
    have HW1 := Lib.hid hw1
    clear hw1
    go_wp2
    go_ret
    exact ⟨rfl, HW1.out⟩
  have hs4 : s.size ≤ 4000 := by omega
  have hsl : s.data.toList.length ≤ 4000 := by rw [size_list]; exact hs4
  obtain ⟨S, hS⟩ : ∃ S, S = s.data.toList := ⟨_, rfl⟩
  obtain ⟨Y, hY⟩ : ∃ Y, Y = parseR false S := ⟨_, rfl⟩
  have KP := fun W (hx : Ext w W) => tParse_any s W (hm.ext hx) (by omega)
  rw [← hS, ← hY] at KP
  rw [← hS] at hsl
  have HM := Lib.hid hm
  have geq : Tryd.prog.eqGuardType Tryd.prog.depth 25 = false := by kernel_rfl
  rcases Y with ⟨er, oa⟩ | f
  rotate_left
  · have K := Lib.hid (fun W (hx : Ext w W) => (KP W hx).mono fun e w' h => retZ_ok h rfl)
    have e0 : ∀ W : World, (Op.equalIn 10000 25 (.agg #[.int .i64 0, .int .i64 0, .int .i64 0]) (.agg #[.int .i64 0, .int .i64 0, .int .i64 0])).run Tryd.prog W = .ok true W := fun W => eq_pos_self 0 0 0 W
    clear KP hY hS hm
    go_enter Tryd.func5, Tryd.ntmps5
    go_wp2_with fail
    refine (awake_any _ HM.out).mono ?_
    rintro e w1 ⟨rfl, hw1⟩
    have HW1 := Lib.hid hw1
    clear hw1
    go_wp2_with fail
    refine (K.out _ HW1.out).mono ?_
    rintro e w2 ⟨hw2, A, cc, rfl, _⟩
    have HW2 := Lib.hid ((HW1.out.trans hw2).alloc (.cells #[.int .i64 0, .int .i64 0, .int .i64 0] 25))
    clear hw2 K
    go_wp2
    go_ret
    exact ⟨rfl, HW2.out⟩
  rcases oa with _ | a
  · have h6 := parse_none hY.symm
    subst h6
    have K := Lib.hid (fun W (hx : Ext w W) => (KP W hx).mono fun e w' h => retZ_err h rfl)
    rw [show posE S (.error (6, none)) = .agg #[.int .i64 0, .int .i64 0, .int .i64 0] from by unfold posE; rw [if_neg (by omega)]] at K
    have e0 : ∀ W : World, (Op.equalIn 10000 25 (.agg #[.int .i64 0, .int .i64 0, .int .i64 0]) (.agg #[.int .i64 0, .int .i64 0, .int .i64 0])).run Tryd.prog W = .ok true W := fun W => eq_pos_self 0 0 0 W
    clear KP hY hS hm
    go_enter Tryd.func5, Tryd.ntmps5
    go_wp2_with fail
    refine (awake_any _ HM.out).mono ?_
    rintro e w1 ⟨rfl, hw1⟩
    have HW1 := Lib.hid hw1
    clear hw1
    go_wp2_with fail
    refine (K.out _ HW1.out).mono ?_
    rintro e w2 ⟨hw2, A, cc, rfl⟩
    have HW2 := Lib.hid ((HW1.out.trans hw2).alloc (.cells #[.int .i64 0, .int .i64 0, .int .i64 0] 25))
    clear hw2 K
    go_wp2
    go_ret
    exact ⟨rfl, HW2.out⟩
  · obtain ⟨_, her, hal, hasc⟩ := parse_err hY.symm
    obtain ⟨l, c, hl1, hpl, hat⟩ := pl_asc hal hasc
    have K := Lib.hid (fun W (hx : Ext w W) => (KP W hx).mono fun e w' h => retZ_err h rfl)
    rw [show posE S (.error (er, some a)) = .agg #[.int .i64 a, .int .i64 l, .int .i64 c] from hpl] at K
    have KA := Lib.hid (fun W => uat_any s a W (by omega))
    rw [← hS, hat] at KA
    have e0 : ∀ W : World, (Op.equalIn 10000 25 (.agg #[.int .i64 a, .int .i64 l, .int .i64 c]) (.agg #[.int .i64 a, .int .i64 l, .int .i64 c])).run Tryd.prog W = .ok true W := fun W => eq_pos_self a l c W
    have hl0 : ((l : Int) == 0) = false := by rw [beq_eq_false_iff_ne]; omega
    clear KP hY hS hm hpl hat hal hasc
    rcases her with rfl | rfl | rfl | rfl
    all_goals
      go_enter Tryd.func5, Tryd.ntmps5
      go_wp2_with fail
      refine (awake_any _ HM.out).mono ?_
      rintro e w1 ⟨rfl, hw1⟩
      have HW1 := Lib.hid hw1
      clear hw1
      go_wp2_with fail
      refine (K.out _ HW1.out).mono ?_
      rintro e w2 ⟨hw2, A, cc, rfl⟩
      have HX2 := Lib.hid (HW1.out.trans hw2)
      have HB2 := Lib.hid (AtC.new w2 #[.int .i64 a, .int .i64 l, .int .i64 c] : AtC 25 _ _ _)
      clear hw2 K
      go_wp2_with fail
      refine (KA.out _).mono ?_
      rintro e w3 ⟨rfl, hw3⟩
      have hx3 := hw3.trans ((Ext.refl w3).alloc (.cells #[.int .i64 a, .int .i64 l, .int .i64 c] 25))
      have b0 := (HB2.out.ext hx3).cell 0 _ rfl
      have b1 := (HB2.out.ext hx3).cell 1 _ rfl
      have b2 := (HB2.out.ext hx3).cell 2 _ rfl
      have HW3 := Lib.hid ((HX2.out.alloc (.cells #[.int .i64 a, .int .i64 l, .int .i64 c] 25)).trans hx3)
      clear hw3 hx3 KA
      go_wp2
      go_ret
      exact ⟨rfl, HW3.out⟩
end Go.Proofs.YtklobkpepbokkaaDoor.lawSyntaxPositions
namespace Go.Proofs.YtklobkpepbokkaaDoor.lawSyntaxPositions
open Go.ChangeShapes Go.WideShapes Go.ChangeAt Go.RowKit
open Go.ChangeMaps (open_string shut_string)
set_option linter.unusedSimpArgs false
set_option linter.unusedVariables false

def laidL : List (String × DataW Unit) := Rows.syntaxPositionsRow.laid
theorem mx_of {W : World} (h : W.ShapedOpen Tryd.prog) : Mx W := Go.Proofs.cell_of_shapedOpen_int (zero := #[.int .i64 0]) (t := 3) h (of_decide_eq_true (by kernel_rfl)) (by kernel_rfl) rfl (by kernel_rfl) (by kernel_rfl) Tryd.underlying3

set_option maxRecDepth 100000 in
theorem lifted (os : Os) (started : os.Started) (H : Type) (enc : TypeId × Value → H) :
    ReturnsInHanded {} Tryd.checked os 5 .any (fun w args => (Rows.syntaxPositionsSpec.pre enc Tryd.prog Tryd.f5 [] false w args ∧ laidMetH Tryd.prog laidL w) ∧ sizedMet enc Tryd.prog Tryd.f5 (OpenSpec.ofChange Rows.syntaxPositionsSpec) false w args)
      (Rows.syntaxPositionsSpec.post enc Tryd.prog Tryd.f5 false true false false) := by
  refine lifted_and_sized (C := Tryd.checked) (X := fun w _ => laidMetH Tryd.prog laidL w) (fun _ _ _ hh h => h.of_heap hh) own started (by kernel_rfl) Tryd.func5
    (ChangeSpec.witness_shaped (enc := enc) (C := Tryd.checked) (os := os) (X := fun w _ => laidMetH Tryd.prog laidL w) false (World.laidAll Tryd.prog os laidL) #[.string ⟨#[]⟩] 8 (World.laidAll_os _ _ _)
      (World.shaped_of_ZipB (by kernel_rfl) (by kernel_rfl)) (by kernel_rfl) (by kernel_rfl) (by kernel_rfl)
      (by rw [MakeChecks.laidMetH_plain _ _ _ (by kernel_rfl)]; exact laidMet_laidAll _ (by kernel_rfl) (by kernel_rfl))) ?_
  intro W base args ds gs before hval0 hW hL hshape hsz0
  have hval : ∀ (j : Nat) t v, Tryd.f5.params[j]? = some t → args[j]? = some v → Value.okWide Tryd.prog W .any base t v := hval0
  have hW' := hW
  obtain ⟨p, q, hA0, hV, rfl, hfz, hnd⟩ := hW
  have hA : DataW.TrodAll enc Tryd.prog W 0 (fun _ => true) true Tryd.f5.params.toList args.toList ds p := hA0
  obtain ⟨rfl, rfl⟩ := trodVars_none hV
  have hsz : ∀ m ∈ DataW.weightsEach Tryd.prog Tryd.f5.params.toList ds, m ≤ reachBytes := fun m hm => hsz0 m (by
    rw [List.append_nil, show Rows.syntaxPositionsSpec.plain.varTypes Tryd.checked.prog = [] from rfl, List.append_nil]
    exact hm)
  rw [Tryd.params5] at hA hval hsz
  obtain ⟨v0, d0, rfl, rfl, h0⟩ := trodAll_one hA
  obtain ⟨s, rfl, rfl, rfl, hs⟩ := open_string Tryd.underlying9 (hval 0 9 v0 rfl rfl) h0
  refine (law s W (mx_of hshape) hs).mono fun e W' ⟨he, hw⟩ => ?_
  subst he
  exact ⟨_, rfl, law_post (t := 4) laidOut (by rw [Tryd.params5]; intro t ht; simp at ht; subst ht <;> exact ⟨by kernel_rfl, of_decide_eq_true (by kernel_rfl)⟩) rfl Tryd.underlying4 rfl ⟨rfl, rfl, rfl⟩ hW' hw⟩


end Go.Proofs.YtklobkpepbokkaaDoor.lawSyntaxPositions
