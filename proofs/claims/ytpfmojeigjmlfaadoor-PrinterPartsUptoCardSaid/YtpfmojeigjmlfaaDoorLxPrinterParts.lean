import Derived.Test.YtpfmojeigjmlfaaDoorLwPrinterParts
import Derived.Test.YtpfmojeigjmlfaaDoorNPX
import Derived.Test.YtpfmojeigjmlfaaDoorShelf
import Derived.Test.YtpfmojeigjmlfaaDoorRows
import Derived.Test.YtpfmojeigjmlfaaDoorCards
import Derived.Test.YtpfmojeigjmlfaaDoorTie
import Derived.Shelf.Vars
import Derived.Test.YtpfmojeigjmlfaaDoorNB1
/- PrinterParts: the law returns true and changes nothing of its arguments; condition: the arguments are together of bulk at most 1048576 (the second form). -/
namespace Go.Proofs.YtpfmojeigjmlfaaDoor.lawPrinterParts
open Go.ChangeShapes Go.WideShapes Go.ChangeAt Go.RowKit
open Go.ChangeMaps (open_string shut_string)
set_option linter.unusedSimpArgs false
set_option linter.unusedVariables false

def laidL : List (String × DataW Unit) := Rows.printerPartsUptoRow.laid
theorem wf_u8 {x : Int} (h : (Lit.int .u8 x).wf = true) : ∃ a : Nat, x = a ∧ a < 256 := by
  have h2 : (decide (IntKind.u8.min ≤ x) && decide (x ≤ IntKind.u8.max)) = true := h
  rw [Bool.and_eq_true, decide_eq_true_eq, decide_eq_true_eq] at h2
  have h3 : (0 : Int) ≤ x := h2.1
  have h4 : x ≤ 255 := h2.2
  exact ⟨x.toNat, by omega, by omega⟩
theorem mx_of {W : World} (h : W.ShapedOpen Tryd.prog) : Mx W := Go.Proofs.cell_of_shapedOpen_int (zero := #[.int .i64 0]) (t := 3) h (of_decide_eq_true (by kernel_rfl)) (by kernel_rfl) rfl (by kernel_rfl) (by kernel_rfl) Tryd.underlying3
set_option maxRecDepth 100000 in
theorem liftedU (os : Os) (started : os.Started) (H : Type) (enc : TypeId × Value → H) (F : Stop.Interp) :
    ReturnsInHanded {} Tryd.checked os 3 .any ((Rows.OpenSpec.upto Rows.printerPartsSpec).preRow enc Tryd.prog Tryd.f3 Rows.printerPartsUptoRow.domain false Rows.printerPartsUptoRow.laid)
      (((Rows.OpenSpec.upto Rows.printerPartsSpec).at F).post enc Tryd.prog Tryd.f3 false true false false) := by
  refine returnsInHanded_of_row (C := Tryd.checked) (s := Rows.OpenSpec.upto Rows.printerPartsSpec) own started (by kernel_rfl) Tryd.func3
    (witness_row_shaped (enc := enc) (C := Tryd.checked) (os := os) false (World.laidAll Tryd.prog os laidL) #[.slice none 0 0, .agg #[.int .u8 0, .int .u8 0]] (World.laidAll_os _ _ _) (World.shaped_of_ZipB (by kernel_rfl) (by kernel_rfl)) (by kernel_rfl)
      (OpenSpec.preRow_of_cond 8 (x := ([.nil, .agg [.lit (.int .u8 0), .lit (.int .u8 0)]], [], [])) (by kernel_rfl) (by kernel_rfl) (fun k hk => by cases hk; kernel_rfl) (by kernel_rfl)
        (by rw [MakeChecks.laidMetH_plain _ _ _ (by kernel_rfl)]; exact laidMet_laidAll _ (by kernel_rfl) (by kernel_rfl)))) ?_
  intro W base args ds gs before hval0 hW _ hcond _ hL hshape _
  have hval : ∀ (j : Nat) t v, Tryd.f3.params[j]? = some t → args[j]? = some v → Value.okWide Tryd.prog W .any base t v := hval0
  have hW' := hW
  obtain ⟨p, q, hA0, hV, rfl, hfz, hnd⟩ := hW
  have hA : DataW.TrodAll enc Tryd.prog W 0 (fun _ => true) true Tryd.f3.params.toList args.toList ds p := hA0
  rw [Tryd.params3] at hA hval
  obtain ⟨v0, v1, d0, d1, p0, p1, rfl, rfl, rfl, h0, h1⟩ := trodAll_two hA
  have hk : Rows.uptoSmall H ([d0, d1] ++ gs) = true := hcond _ rfl
  have hk2 := of_decide_eq_true hk
  have hb : Rows.uptoBulkAll ([d0, d1] ++ gs) = Rows.uptoBulk d0 + (Rows.uptoBulk d1 + (Rows.uptoBulkAll gs)) := by
    simp only [List.cons_append, List.nil_append, Rows.uptoBulkAll]
  rw [hb] at hk2
  obtain ⟨f, hF0, hC0, hw0, hcap0⟩ := open_parts (okWide_slice Tryd.underlying22 (hval 0 22 v0 rfl rfl)) h0 (by omega)
  obtain ⟨t0, t1, rfl, z0, z1⟩ := open_two Tryd.underlying23 Tryd.underlying5 (by kernel_rfl) (by kernel_rfl) (hval 1 23 v1 rfl rfl) h1
  obtain ⟨a, rfl, ha⟩ := wf_u8 z0
  obtain ⟨b, rfl, hb⟩ := wf_u8 z1
  refine (law a b W (mx_of hshape) hF0 hC0 (by omega) hcap0 ha hb).mono fun e W' ⟨he, hw⟩ => ?_
  subst he
  exact ⟨_, rfl, law_post (t := 4) laidOut (by rw [Tryd.params3]; intro t ht; simp at ht; rcases ht with rfl | rfl <;> exact ⟨by kernel_rfl, of_decide_eq_true (by kernel_rfl)⟩) rfl Tryd.underlying4 rfl ⟨rfl, rfl, rfl⟩ hW' hw⟩
end Go.Proofs.YtpfmojeigjmlfaaDoor.lawPrinterParts
