import Derived.Test.YtpfmojeigjmlfaaGreatDoorOpenC
import Derived.Test.YtpfmojeigjmlfaaGreatDoorAtC
import Derived.Test.YtpfmojeigjmlfaaGreatDoorFlat
import Derived.IntWalk
namespace Go.Proofs.YtpfmojeigjmlfaaGreatDoor
open Go.ChangeShapes Go.WideShapes Go.ChangeAt Go.RowKit
set_option linter.unusedSimpArgs false
set_option linter.unusedVariables false

/-! Rows of structs in memory; what comes in as a slice. -/
theorem flat_at {α : Type} {f : α → List Value} {m : Nat} (hf : ∀ a, (f a).length = m) (hm : 0 < m) {w : World} {A : Option Addr} {n : Nat} {l : List α} (h : SlN w A n m (l.flatMap f)) {k : Nat} {x : α} (hx : l[k]? = some x) :
    ∃ b o, A = some ⟨b, o, none⟩ ∧ b < w.heap.size ∧ ∀ j u, (f x)[j]? = some u → w.cell? ⟨b, o + k * m + j, none⟩ = some u := by
  have g0 := flat_get f m hf l k 0 x hx hm
  obtain ⟨u0, hu0⟩ : ∃ u, (f x)[0]? = some u := ⟨_, List.getElem?_eq_getElem (by rw [hf]; exact hm)⟩
  rw [hu0] at g0
  obtain ⟨b, o, rfl, hb, _⟩ := h.2 _ _ g0
  refine ⟨b, o, rfl, hb, fun j u hu => ?_⟩
  have hj : j < m := by have := (List.getElem?_eq_some_iff.1 hu).1; rwa [hf] at this
  have g1 := flat_get f m hf l k j x hx hj
  rw [hu] at g1
  obtain ⟨b', o', e, _, h1⟩ := h.2 _ _ g1
  injection e with e
  injection e with e1 e2 _
  subst e1; subst e2
  rw [Nat.add_assoc]
  exact h1
section
variable {H : Type} {enc : TypeId × Value → H} {P : Program}
/-- A slice that came in, as one cell. -/
theorem open_sl {t e : TypeId} {W : World} {k : Nat} {cs : List Value} {x : DataW H × List MemPlace} (ht : P.underlying t = some (.slice e)) (h : DataW.trod enc P W 0 (fun _ => true) true k t cs = some x) :
    ∃ A n c, cs = [.slice A n c] ∧ n ≤ maxLen ∧ ((∀ m ∈ x.1.weights P t, m ≤ reachBytes) → n * P.bytesOf e ≤ reachBytes) := by
  rcases DataW.trod_slice ht h with ⟨rfl, rfl⟩ | ⟨a, len, cap, elems, rest, m, _, rfl, rfl, _, hl, hm, hlen, _⟩
  · exact ⟨none, 0, 0, rfl, Nat.zero_le _, fun _ => by simp⟩
  · refine ⟨some a, len, cap, rfl, Nat.le_trans hl hm, fun hw => ?_⟩
    have h1 := hw ((elems.length + rest.length) * P.bytesOf e) (by simp [DataW.weights, ht])
    rw [← hlen]
    exact Nat.le_trans (Nat.mul_le_mul_right _ (Nat.le_add_right _ _)) h1
end
theorem weightsEach_at {H : Type} {P : Program} : ∀ {ts : List TypeId} {ds : List (DataW H)} {i : Nat} {t : TypeId} {d : DataW H}, ts[i]? = some t → ds[i]? = some d → ∀ m ∈ d.weights P t, m ∈ DataW.weightsEach P ts ds
  | [], _, i, _, _, h, _ => by simp at h
  | _ :: _, [], i, _, _, _, h => by simp at h
  | t :: ts, d :: ds, 0, t', d', h1, h2 => by
    simp at h1 h2
    subst h1; subst h2
    intro m hm
    simp only [DataW.weightsEach, List.mem_append]
    exact .inl hm
  | t :: ts, d :: ds, i + 1, t', d', h1, h2 => by
    intro m hm
    simp only [DataW.weightsEach, List.mem_append]
    exact .inr (weightsEach_at (i := i) (by simpa using h1) (by simpa using h2) m hm)
end Go.Proofs.YtpfmojeigjmlfaaGreatDoor
