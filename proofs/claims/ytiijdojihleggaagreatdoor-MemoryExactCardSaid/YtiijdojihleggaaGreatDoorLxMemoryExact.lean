import Derived.Test.YtiijdojihleggaaGreatDoorLwMemoryExact
import Derived.Test.YtiijdojihleggaaGreatDoorRNB1
import Derived.Test.YtiijdojihleggaaGreatDoorShelf
import Derived.Test.YtiijdojihleggaaGreatDoorRows
import Derived.Test.YtiijdojihleggaaGreatDoorCards
import Derived.Test.YtiijdojihleggaaGreatDoorTie
import Derived.Shelf.Vars
set_option maxRecDepth 100000
set_option linter.unusedSimpArgs false
set_option linter.unusedVariables false
namespace Go.Proofs.YtiijdojihleggaaGreatDoor.lawMemoryExact
open Go.ChangeShapes Go.WideShapes Go.ChangeAt Go.RowKit
open Go.ChangeMaps (open_string shut_string)
def laidL : List (String × DataW Unit) := Rows.memoryExactRow.laid
theorem wf_u8 {x : Int} (h : (Lit.int .u8 x).wf = true) : ∃ a : Nat, x = a ∧ a < 256 := by
 have h2 : (decide (IntKind.u8.min ≤ x) && decide (x ≤ IntKind.u8.max)) = true := h
 rw [Bool.and_eq_true, decide_eq_true_eq, decide_eq_true_eq] at h2
 have h3 : (0 : Int) ≤ x := h2.1
 have h4 : x ≤ 255 := h2.2
 exact ⟨x.toNat, by omega, by omega⟩
theorem mx_of {W : World} (h : W.ShapedOpen Tryz.prog) : Mx W := Go.Proofs.cell_of_shapedOpen_int (zero := #[.int .i64 0]) (t := 3) h (of_decide_eq_true (by kernel_rfl)) (by kernel_rfl) rfl (by kernel_rfl) (by kernel_rfl) Tryz.underlying3
theorem lifted (os : Os) (started : os.Started) (H : Type) (enc : TypeId × Value → H) :
 ReturnsInHanded {} Tryz.checked os 5 .any (fun w args => (Rows.memoryExactSpec.pre enc Tryz.prog Tryz.f5 [] false w args ∧ laidMetH Tryz.prog laidL w) ∧ sizedMet enc Tryz.prog Tryz.f5 (OpenSpec.ofChange Rows.memoryExactSpec) false w args)
  (Rows.memoryExactSpec.post enc Tryz.prog Tryz.f5 false true false false) := by
 refine lifted_and_sized (C := Tryz.checked) (X := fun w _ => laidMetH Tryz.prog laidL w) (fun _ _ _ hh h => h.of_heap hh) own started (by kernel_rfl) Tryz.func5
  (ChangeSpec.witness_shaped (enc := enc) (C := Tryz.checked) (os := os) (X := fun w _ => laidMetH Tryz.prog laidL w) false (World.laidAll Tryz.prog os laidL) #[.slice none 0 0, .int .u8 0, .string ⟨#[]⟩] 8 (World.laidAll_os _ _ _)
   (World.shaped_of_ZipB (by kernel_rfl) (by kernel_rfl)) (by kernel_rfl) (by kernel_rfl) (by kernel_rfl)
   (by rw [MakeChecks.laidMetH_plain _ _ _ (by kernel_rfl)]; exact laidMet_laidAll _ (by kernel_rfl) (by kernel_rfl))) ?_
 intro W base args ds gs before hval0 hW hL hshape hsz0
 have hval : ∀ (j : Nat) t v, Tryz.f5.params[j]? = some t → args[j]? = some v → Value.okWide Tryz.prog W .any base t v := hval0
 have hW' := hW
 obtain ⟨p, q, hA0, hV, rfl, hfz, hnd⟩ := hW
 have hA : DataW.TrodAll enc Tryz.prog W 0 (fun _ => true) true Tryz.f5.params.toList args.toList ds p := hA0
 obtain ⟨rfl, rfl⟩ := trodVars_none hV
 have hsz : ∀ m ∈ DataW.weightsEach Tryz.prog Tryz.f5.params.toList ds, m ≤ reachBytes := fun m hm => hsz0 m (by
  rw [List.append_nil, show Rows.memoryExactSpec.plain.varTypes Tryz.checked.prog = [] from rfl, List.append_nil]
  exact hm)
 rw [Tryz.params5] at hA hval hsz
 obtain ⟨v0, v1, v2, d0, d1, d2, p0, p1, p2, rfl, rfl, rfl, h0, h1, h2⟩ := trodAll_three hA
 obtain ⟨Al, nl, cl, l, rfl, hals, hnl, hzl⟩ := open_als Tryz.underlying22 Tryz.underlying31 Tryz.underlying9 rfl rfl rfl rfl (by kernel_rfl) (by kernel_rfl) (okWide_slice Tryz.underlying22 (hval 0 22 v0 rfl rfl)) h0
 have hcap := open_cap Tryz.underlying22 h0
 obtain ⟨x, rfl, rfl, rfl, wx⟩ := open_int Tryz.underlying5 (hval 1 5 v1 rfl rfl) h1
 obtain ⟨a, rfl, ha⟩ := wf_u8 wx
 obtain ⟨s, rfl, rfl, rfl, hs⟩ := open_string Tryz.underlying9 (hval 2 9 v2 rfl rfl) h2
 refine (law l Al nl cl a s W (mx_of hshape) hals hzl hnl hcap ha hs).mono fun e W' ⟨he, hw⟩ => ?_
 subst he
 exact ⟨_, rfl, law_post (t := 4) laidOut (by rw [Tryz.params5]; intro t ht; simp at ht; rcases ht with rfl | rfl | rfl <;> exact ⟨by kernel_rfl, of_decide_eq_true (by kernel_rfl)⟩) rfl Tryz.underlying4 rfl ⟨rfl, rfl, rfl⟩ hW' hw⟩
end Go.Proofs.YtiijdojihleggaaGreatDoor.lawMemoryExact
