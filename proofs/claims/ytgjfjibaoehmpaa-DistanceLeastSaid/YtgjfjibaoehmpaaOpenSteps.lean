import Derived.Test.YtgjfjibaoehmpaaLawKit
import Derived.Test.YtgjfjibaoehmpaaAlignP
namespace Go.Proofs.Ytgjfjibaoehmpaa
open Go.ChangeShapes Go.WideShapes Go.ChangeAt Go.RowKit

def intAt (v : Option Value) : Int := match v with | some (.int _ n) => n | _ => 0

section
variable {H : Type} {enc : TypeId × Value → H} {P : Program}
/-- A slice of structs of two ints that came in. -/
theorem open_steps {t e ti : TypeId} {f0 f1 : Field} {W : World} {v : Value} {d : DataW H} {ps : List MemPlace} (ht : P.underlying t = some (.slice e)) (he : P.underlying e = some (.struct #[f0, f1]))
    (hi : P.underlying ti = some (.int .i64)) (ht0 : f0.type = ti) (ht1 : f1.type = ti) (ho0 : f0.offset = 0) (ho1 : f1.offset = 1) (hci : P.cellsOf ti = 1) (hc : P.cellsOf e = 2)
    (hv : ∃ A n c, v = .slice A n c) (h : DataW.Trod enc P W 0 (fun _ => true) true t v d ps) :
    ∃ (A : Option Addr) (c : Nat) (l : List (Int × Int)), v = .slice A l.length c ∧ StepsAt W A l ∧ l.length ≤ maxLen := by
  obtain ⟨A, n, c, rfl⟩ := hv
  obtain ⟨fuel, hf⟩ := h
  rcases DataW.trod_slice ht hf with ⟨hcs, _⟩ | ⟨a, len, cap, elems, rest, k, _, hcs, _, _, hl, hm, hlen, hel, _, _⟩
  · simp [Value.cells] at hcs
    obtain ⟨rfl, rfl, rfl⟩ := hcs
    exact ⟨none, 0, [], rfl, fun j hj => absurd hj (by simp), Nat.zero_le _⟩
  · simp [Value.cells] at hcs
    obtain ⟨rfl, rfl, rfl⟩ := hcs
    have each : ∀ i, i < n → ∃ x y : Int, W.cell? (a.add (i * 2)) = some (.int .i64 x) ∧ W.cell? ((a.add (i * 2)).add 1) = some (.int .i64 y) := by
      intro i hi'
      have h1 := hel i hi'
      rw [List.getElem?_eq_getElem (by omega), hc, Option.bind_eq_some_iff] at h1
      obtain ⟨cs', h2, h3⟩ := h1
      obtain ⟨y0, y1, m, _, hl2, h4, h5⟩ := trod_struct2 he h3
      rw [hc] at hl2
      rw [ht0, ho0, hci] at h4
      rw [ht1, ho1, hci] at h5
      obtain ⟨x, e4, _, _⟩ := DataW.trod_int hi h4
      obtain ⟨y, e5, _, _⟩ := DataW.trod_int hi h5
      obtain ⟨_, h7, h8⟩ := World.cells?_some h2
      match cs', hl2, e4, e5 with
      | [c0, c1], _, e4, e5 =>
        simp at e4 e5
        subst e4; subst e5
        exact ⟨x, y, by have h9 := h8 0 (by omega); exact h9, by have h9 := h8 1 (by omega); exact h9⟩
    let l : List (Int × Int) := (List.range n).map fun i => (intAt (W.cell? (a.add (i * 2))), intAt (W.cell? ((a.add (i * 2)).add 1)))
    have hll : l.length = n := by simp [l]
    refine ⟨some a, c, l, by rw [hll], ?_, by rw [hll]; exact Nat.le_trans hl hm⟩
    intro j hj
    have hjn : j < n := by omega
    obtain ⟨x0, y0, z1, z2⟩ := each 0 (by omega)
    obtain ⟨b, o, sp⟩ := a
    have hs : sp = none := by
      have z1' : W.cell? ⟨b, o, sp⟩ = some (.int .i64 x0) := by simpa [Addr.add] using z1
      exact World.cell?_spot z1'
    subst hs
    obtain ⟨x, y, e1, e2⟩ := each j hjn
    have hlj : l[j] = (x, y) := by simp [l, e1, e2, intAt]
    have ea : ∀ t, (⟨b, o, none⟩ : Addr).add t = ⟨b, o + t, none⟩ := by
      intro t
      unfold Addr.add
      split
      · subst_vars; rfl
      · rfl
    have e3 : ((⟨b, o, none⟩ : Addr).add (j * 2)).add 1 = ⟨b, o + (j * 2 + 1), none⟩ := by rw [ea]; rfl
    rw [e3] at e2
    rw [ea] at e1
    rw [hlj]
    exact ⟨b, o, rfl, World.block_lt_of_cell? W ⟨b, o + j * 2, none⟩ e1, e1, e2⟩
end
end Go.Proofs.Ytgjfjibaoehmpaa
