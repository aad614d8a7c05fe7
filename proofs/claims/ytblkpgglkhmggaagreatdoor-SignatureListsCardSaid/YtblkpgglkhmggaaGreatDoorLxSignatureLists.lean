import Derived.Test.YtblkpgglkhmggaaGreatDoorLwSignatureLists
import Derived.Test.YtblkpgglkhmggaaGreatDoorLift
import Derived.Test.YtblkpgglkhmggaaGreatDoorShelf
import Derived.Test.YtblkpgglkhmggaaGreatDoorRows
import Derived.Test.YtblkpgglkhmggaaGreatDoorCards
import Derived.Test.YtblkpgglkhmggaaGreatDoorTie
import Derived.Shelf.Vars
namespace Go.Proofs.YtblkpgglkhmggaaGreatDoor.lawSignatureLists
open Go.ChangeShapes Go.WideShapes Go.ChangeAt Go.RowKit
open Go.ChangeMaps (open_string shut_string)
set_option linter.unusedSimpArgs false
set_option linter.unusedVariables false

def laidL : List (String × DataW Unit) := Rows.signatureListsRow.laid

set_option maxRecDepth 100000 in
theorem lifted (os : Os) (started : os.Started) (H : Type) (enc : TypeId × Value → H) :
    ReturnsInHanded {} Tryz.checked os 8 .any (fun w args => (Rows.signatureListsSpec.pre enc Tryz.prog Tryz.f8 [] false w args ∧ laidMetH Tryz.prog laidL w) ∧ sizedMet enc Tryz.prog Tryz.f8 (OpenSpec.ofChange Rows.signatureListsSpec) false w args)
      (Rows.signatureListsSpec.post enc Tryz.prog Tryz.f8 false true false false) := by
  refine lifted_and_sized (C := Tryz.checked) (X := fun w _ => laidMetH Tryz.prog laidL w) (fun _ _ _ hh h => h.of_heap hh) own started (by kernel_rfl) Tryz.func8
    (ChangeSpec.witness_shaped (enc := enc) (C := Tryz.checked) (os := os) (X := fun w _ => laidMetH Tryz.prog laidL w) false (World.laidAll Tryz.prog os laidL) #[.slice none 0 0, .slice none 0 0, .agg #[.int .i64 0, .int .i64 0]] 8 (World.laidAll_os _ _ _)
      (World.shaped_of_ZipB (by kernel_rfl) (by kernel_rfl)) (by kernel_rfl) (by kernel_rfl) (by kernel_rfl)
      (by rw [MakeChecks.laidMetH_plain _ _ _ (by kernel_rfl)]; exact laidMet_laidAll _ (by kernel_rfl) (by kernel_rfl))) ?_
  intro W base args ds gs before hval0 hW hL hshape hsz0
  have hval : ∀ (j : Nat) t v, Tryz.f8.params[j]? = some t → args[j]? = some v → Value.okWide Tryz.prog W .any base t v := hval0
  have hW' := hW
  obtain ⟨p, q, hA0, hV, rfl, hfz, hnd⟩ := hW
  have hA : DataW.TrodAll enc Tryz.prog W 0 (fun _ => true) true Tryz.f8.params.toList args.toList ds p := hA0
  obtain ⟨rfl, rfl⟩ := trodVars_none hV
  have hsz : ∀ m ∈ DataW.weightsEach Tryz.prog Tryz.f8.params.toList ds, m ≤ reachBytes := fun m hm => hsz0 m (by
    rw [List.append_nil, show Rows.signatureListsSpec.plain.varTypes Tryz.checked.prog = [] from rfl, List.append_nil]
    exact hm)
  rw [Tryz.params8] at hA hval hsz
  obtain ⟨v0, v1, v2, d0, d1, d2, p0, p1, p2, rfl, rfl, rfl, h0, h1, h2⟩ := trodAll_three hA
  obtain ⟨A, n, na, a, rfl, hgA, hnA, hzA⟩ := open_ags (okWide_slice Tryz.underlying25 (hval 0 25 v0 rfl rfl)) h0 (fun m hm => hsz m (DataW.weights_mem_each (j := 0) rfl rfl m hm))
  have hzAm : ∀ x ∈ a, x.n.size ≤ maxLen ∧ (Lit.int .i64 x.t).wf = true := fun x hx => ⟨Nat.le_trans (hzA x hx).1 (by decide), (hzA x hx).2⟩
  obtain ⟨B, m, mb, b, rfl, hgB, hnB, hzB⟩ := open_ags (okWide_slice Tryz.underlying25 (hval 1 25 v1 rfl rfl)) h1 (fun m hm => hsz m (DataW.weights_mem_each (j := 1) rfl rfl m hm))
  have hzBm : ∀ x ∈ b, x.n.size ≤ maxLen ∧ (Lit.int .i64 x.t).wf = true := fun x hx => ⟨Nat.le_trans (hzB x hx).1 (by decide), (hzB x hx).2⟩
  obtain ⟨t0, t1, rfl, _, _⟩ := open_two Tryz.underlying53 Tryz.underlying3 (by kernel_rfl) (by kernel_rfl) (hval 2 53 v2 rfl rfl) h2
  refine (law a A n na b B m mb t0 t1 W hgA hnA hzAm hgB hnB hzBm).mono fun e W' ⟨he, hw⟩ => ?_
  subst he
  exact ⟨_, rfl, law_post (t := 4) laidOut (by rw [Tryz.params8]; intro t ht; simp at ht; rcases ht with rfl | rfl | rfl <;> exact ⟨by kernel_rfl, of_decide_eq_true (by kernel_rfl)⟩) rfl Tryz.underlying4 rfl ⟨rfl, rfl, rfl⟩ hW' hw⟩


end Go.Proofs.YtblkpgglkhmggaaGreatDoor.lawSignatureLists
