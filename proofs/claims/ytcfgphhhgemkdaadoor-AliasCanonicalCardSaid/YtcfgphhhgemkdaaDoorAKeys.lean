import Derived.Test.YtcfgphhhgemkdaaDoorIter
import Derived.Test.YtcfgphhhgemkdaaDoorMapS
import Derived.Test.YtcfgphhhgemkdaaDoorTagV
namespace Go.Proofs.YtcfgphhhgemkdaaDoor
open Go.RowKit Go.Maps Go.Sort Go.Shelf
set_option linter.unusedSimpArgs false
set_option linter.unusedVariables false

theorem keys_any (mb : Nat) (W : World) : Calls Tryd.prog 39 #[.map (some mb)] W fun e w' =>
    e = .returned (.func (.func 57) #[] #[.pointer (some ⟨W.heap.size, 0, none⟩)]) ∧ W.alloc (.cells #[.map (some mb)] 58) = w' :=
  (callsIn_wide.1 (Tryd.maps_Keys_39 (some mb) W)).mono fun _ _ ⟨h1, h2⟩ => ⟨h1, h2.symm⟩

/-- What the sorted keys of a set are: a new slice. -/
def SortedKeys (W : World) (ks : List (List UInt8)) (e : Ending) (w' : World) : Prop :=
  ∃ (ss : List (List UInt8)) (A : Option Addr) (c : Nat), e = .returned (.slice A ss.length c) ∧ ss.Nodup ∧ (∀ x, x ∈ ss ↔ x ∈ ks) ∧ Sl w' A ss.length ((sortS ss).map strv) ∧ ss.length ≤ c ∧ Ext W w' ∧ (∀ ad, A = some ad → W.heap.size ≤ ad.block)
theorem sorted_any (w : World) (b n : Nat) (ks : List (List UInt8)) (h : MapS Tryd.prog 9 4 w b n ks) (hn : n ≤ 1048576) :
    Calls Tryd.prog 38 #[.func (.func 57) #[] #[.pointer (some ⟨w.heap.size, 0, none⟩)]] (w.alloc (.cells #[.map (some b)] 58))
      (SortedKeys (w.alloc (.cells #[.map (some b)] 58)) ks) := by
  obtain ⟨D, hown, hsz, hnd, hmem⟩ := h.keys Tryd.underlying9
  refine (callsIn_wide.1 (Tryd.slices_Sorted_keys_38_39 b n D _ w hown (by unfold maxLen; omega) (by omega))).mono ?_
  rintro e w' ⟨v, ss, rfl, hp, hrow, _, hb⟩
  have hrow2 : w'.ownsRow (w.alloc (.cells #[.map (some b)] 58)).heap.size 9 1 v ss.length ((sortS ss).map strv) := hrow
  obtain ⟨A, c, rfl, hs, hc⟩ := own_sl hrow2
  refine ⟨ss, A, c, rfl, hp.nodup_iff.2 hnd, fun x => by rw [hp.mem_iff, hmem], hs, hc, hb, ?_⟩
  intro ad hA
  subst hA
  exact (hrow2.lt ad.block rfl).1
end Go.Proofs.YtcfgphhhgemkdaaDoor
