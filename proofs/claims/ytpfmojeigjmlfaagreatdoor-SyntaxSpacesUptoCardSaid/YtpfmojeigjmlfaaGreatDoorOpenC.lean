import Derived.Test.YtpfmojeigjmlfaaGreatDoorOpenA
import Derived.SizedLaws
namespace Go.Proofs.YtpfmojeigjmlfaaGreatDoor
open Go.ChangeShapes Go.WideShapes Go.ChangeAt Go.RowKit
set_option linter.unusedSimpArgs false
set_option linter.unusedVariables false

section
variable {H : Type} {enc : TypeId × Value → H} {P : Program}
theorem weightsAll_memC {e : TypeId} {l : List (DataW H)} {d : DataW H} (h : d ∈ l) : ∀ n ∈ d.weights P e, n ∈ DataW.weightsAll P e l := by
  induction l with
  | nil => cases h
  | cons x r ih =>
    intro n hn
    simp only [DataW.weightsAll, List.mem_append]
    rcases List.mem_cons.1 h with rfl | h
    · exact .inl hn
    · exact .inr (ih h n hn)
theorem add_none (b o t : Nat) : (⟨b, o, none⟩ : Addr).add t = ⟨b, o + t, none⟩ := by
  unfold Addr.add
  split
  · subst_vars; rfl
  · rfl
/-- A slice that came in, element by element: the cells of each, and what they read as. -/
theorem open_cells {t e : TypeId} {m : Nat} {W : World} {v : Value} {d : DataW H} {ps : List MemPlace} (ht : P.underlying t = some (.slice e)) (hm : P.cellsOf e = m) (hm0 : 0 < m)
    (hv : ∃ A n c, v = .slice A n c) (h : DataW.Trod enc P W 0 (fun _ => true) true t v d ps) :
    ∃ (A : Option Addr) (n c : Nat) (L : List (List Value)), v = .slice A n c ∧ n ≤ maxLen ∧ L.length = n ∧ SlN W A n m L.flatten ∧
      ∀ cs ∈ L, ∃ (k : Nat) (x : DataW H × List MemPlace), DataW.trod enc P W 0 (fun _ => true) true k e cs = some x ∧ ∀ q ∈ x.1.weights P e, q ∈ d.weights P t := by
  obtain ⟨A, n, c, rfl⟩ := hv
  obtain ⟨fuel, hf⟩ := h
  rcases DataW.trod_slice ht hf with ⟨hcs, _⟩ | ⟨a, len, cap, elems, rest, k, _, hcs, hd, _, hl, hmx, hlen, hel, _, _⟩
  · simp [Value.cells] at hcs
    obtain ⟨rfl, rfl, rfl⟩ := hcs
    exact ⟨none, 0, 0, [], rfl, Nat.zero_le _, rfl, SlN.nil _ _ _, by simp⟩
  · simp [Value.cells] at hcs
    obtain ⟨rfl, rfl, rfl⟩ := hcs
    injection hd with hd1 _
    let f : Nat → List Value := fun i => (List.range m).map fun r => (W.cell? ((a.add (i * m)).add r)).getD undef
    have hfl : ∀ i, (f i).length = m := fun i => by simp [f]
    have each : ∀ i, i < n → W.cells? 0 (a.add (i * m)) m = some (f i) ∧ (∀ r, r < m → W.cell? ((a.add (i * m)).add r) = (f i)[r]?) := by
      intro i hi
      have h1 := hel i hi
      rw [List.getElem?_eq_getElem (by omega), hm, Option.bind_eq_some_iff] at h1
      obtain ⟨cs', h2, _⟩ := h1
      obtain ⟨_, h7, h8⟩ := World.cells?_some h2
      have hcs : cs' = f i := by
        apply List.ext_getElem?
        intro r
        by_cases hr : r < m
        · have h9 := h8 r hr
          have hfr : (f i)[r]? = some ((W.cell? ((a.add (i * m)).add r)).getD undef) := by simp [f, hr]
          rw [hfr, h9]
          rw [List.getElem?_eq_getElem (by omega)]
          rfl
        · rw [List.getElem?_eq_none (by omega), List.getElem?_eq_none (by rw [hfl]; omega)]
      rw [← hcs]
      exact ⟨h2, fun r hr => h8 r hr⟩
    refine ⟨some a, n, c, (List.range n).map f, rfl, Nat.le_trans hl hmx, by simp, ⟨?_, ?_⟩, ?_⟩
    · rw [← List.flatMap_def, flat_len f m hfl, List.length_range]
    · intro j u hu
      rw [← List.flatMap_def] at hu
      have hjl : j < ((List.range n).flatMap f).length := (List.getElem?_eq_some_iff.1 hu).1
      rw [flat_len f m hfl, List.length_range] at hjl
      have hq : j / m < n := Nat.div_lt_of_lt_mul (by rw [Nat.mul_comm]; exact hjl)
      have hr : j % m < m := Nat.mod_lt _ hm0
      have hj : j / m * m + j % m = j := by rw [Nat.mul_comm]; exact Nat.div_add_mod j m
      have hg := flat_get f m hfl (List.range n) (j / m) (j % m) (j / m) (by rw [List.getElem?_range hq]) hr
      rw [hj, hu] at hg
      have hc := (each (j / m) hq).2 (j % m) hr
      rw [← hg] at hc
      obtain ⟨b, o, sp⟩ := a
      have hs : sp = none := by
        have hz := (each 0 (Nat.lt_of_le_of_lt (Nat.zero_le _) hq)).2 0 hm0
        rw [Nat.zero_mul] at hz
        have hz' : W.cell? ⟨b, o, sp⟩ = (f 0)[0]? := by simpa [Addr.add] using hz
        rw [List.getElem?_eq_getElem (by rw [hfl]; exact hm0)] at hz'
        exact World.cell?_spot hz'
      subst hs
      rw [add_none, add_none] at hc
      refine ⟨b, o, rfl, World.block_lt_of_cell? W _ hc, ?_⟩
      rw [show o + j = o + j / m * m + j % m from by rw [Nat.add_assoc, hj]]
      exact hc
    · intro cs hcs
      obtain ⟨i, hi, rfl⟩ := List.mem_map.1 hcs
      have hin : i < n := List.mem_range.1 hi
      have h1 := hel i hin
      rw [List.getElem?_eq_getElem (by omega), hm, (each i hin).1] at h1
      refine ⟨k, _, h1, fun q hq => ?_⟩
      subst hd1
      simp only [DataW.weights, ht, List.mem_cons, List.mem_append]
      exact .inr (.inl (weightsAll_memC (List.mem_map.2 ⟨_, List.getElem_mem _, rfl⟩) q hq))
/-- Lists of cells that are all of one make. -/
theorem decode_all {α : Type} (f : α → List Value) {L : List (List Value)} (h : ∀ cs ∈ L, ∃ x, cs = f x) : ∃ l : List α, L = l.map f ∧ l.length = L.length := by
  induction L with
  | nil => exact ⟨[], rfl, rfl⟩
  | cons cs r ih =>
    obtain ⟨l, h1, h2⟩ := ih (fun x hx => h x (by simp [hx]))
    obtain ⟨x, hx⟩ := h cs (by simp)
    exact ⟨x :: l, by rw [hx, h1]; rfl, by simp [h2]⟩
end
end Go.Proofs.YtpfmojeigjmlfaaGreatDoor
