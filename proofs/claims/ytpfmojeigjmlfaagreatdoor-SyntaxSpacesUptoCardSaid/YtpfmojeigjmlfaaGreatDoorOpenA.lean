import Derived.Test.YtpfmojeigjmlfaaGreatDoorLawKit
import Derived.Test.YtpfmojeigjmlfaaGreatDoorStep
namespace Go.Proofs.YtpfmojeigjmlfaaGreatDoor
open Go.ChangeShapes Go.WideShapes Go.ChangeAt Go.RowKit
set_option linter.unusedSimpArgs false
set_option linter.unusedVariables false

/-- The slice value with address A and length n shows the cells xs, size cells an element. -/
def SlN (w : World) (A : Option Addr) (n size : Nat) (xs : List Value) : Prop :=
  xs.length = n * size ∧ ∀ j u, xs[j]? = some u → ∃ b o, A = some ⟨b, o, none⟩ ∧ b < w.heap.size ∧ w.cell? ⟨b, o + j, none⟩ = some u
theorem SlN.ext {w w' : World} {A : Option Addr} {n size : Nat} {xs : List Value} (h : SlN w A n size xs) (hw : Ext w w') : SlN w' A n size xs :=
  ⟨h.1, fun j u hu => by
    obtain ⟨b, o, ha, hb, hc⟩ := h.2 j u hu
    exact ⟨b, o, ha, Nat.lt_of_lt_of_le hb (Ext.size hw), (Ext.cell hw (p := ⟨b, o + j, none⟩) hb).trans hc⟩⟩
theorem SlN.nil (w : World) (A : Option Addr) (size : Nat) : SlN w A 0 size [] := ⟨by simp, fun j u h => by simp at h⟩

/-- Lists of lists of one length, one behind the other. -/
theorem flat_len {α β : Type} (f : α → List β) (m : Nat) (hf : ∀ a, (f a).length = m) (l : List α) : (l.flatMap f).length = l.length * m := by
  induction l with
  | nil => simp
  | cons a r ih => rw [List.flatMap_cons, List.length_append, ih, hf, List.length_cons, Nat.succ_mul, Nat.add_comm]
theorem flat_get {α β : Type} (f : α → List β) (m : Nat) (hf : ∀ a, (f a).length = m) : ∀ (l : List α) (k j : Nat) (x : α), l[k]? = some x → j < m → (l.flatMap f)[k * m + j]? = (f x)[j]?
  | [], k, j, x, h, _ => by simp at h
  | a :: r, 0, j, x, h, hj => by
    simp at h
    subst h
    rw [List.flatMap_cons, Nat.zero_mul, Nat.zero_add, List.getElem?_append_left (by rw [hf]; exact hj)]
  | a :: r, k + 1, j, x, h, hj => by
    rw [List.flatMap_cons, List.getElem?_append_right (by rw [hf, Nat.succ_mul]; omega), hf]
    have := flat_get f m hf r k j x (by simpa using h) hj
    rw [← this]
    congr 1
    rw [Nat.succ_mul]
    omega

/-- An alias's two cells. -/
def aliC (a : ByteArray × ByteArray) : List Value := [.string a.1, .string a.2]
def Als (w : World) (A : Option Addr) (n : Nat) (l : List (ByteArray × ByteArray)) : Prop := SlN w A n 2 (l.flatMap aliC)
theorem Als.ext {w w' : World} {A : Option Addr} {n : Nat} {l : List (ByteArray × ByteArray)} (h : Als w A n l) (hw : Ext w w') : Als w' A n l := SlN.ext h hw
theorem Als.len {w : World} {A : Option Addr} {n : Nat} {l : List (ByteArray × ByteArray)} (h : Als w A n l) : l.length = n := by
  have h1 := h.1
  rw [flat_len aliC 2 (fun _ => rfl)] at h1
  omega
theorem Als.at_ {w : World} {A : Option Addr} {n : Nat} {l : List (ByteArray × ByteArray)} (h : Als w A n l) {k : Nat} {x : ByteArray × ByteArray} (hx : l[k]? = some x) :
    ∃ b o, A = some ⟨b, o, none⟩ ∧ b < w.heap.size ∧ w.cell? ⟨b, o + k * 2, none⟩ = some (.string x.1) ∧ w.cell? ⟨b, o + (k * 2 + 1), none⟩ = some (.string x.2) := by
  have g0 := flat_get aliC 2 (fun _ => rfl) l k 0 x hx (by omega)
  have g1 := flat_get aliC 2 (fun _ => rfl) l k 1 x hx (by omega)
  obtain ⟨b, o, rfl, hb, h0⟩ := h.2 _ _ g0
  obtain ⟨b', o', e, _, h1⟩ := h.2 _ _ g1
  injection e with e
  injection e with e1 e2 _
  subst e1; subst e2
  exact ⟨b, o, rfl, hb, h0, h1⟩

section
variable {H : Type} {enc : TypeId × Value → H} {P : Program}
def strAt (v : Option Value) : ByteArray := match v with | some (.string s) => s | _ => ByteArray.empty
/-- A slice of structs of two strings that came in. -/
theorem open_als {t e ti : TypeId} {f0 f1 : Field} {W : World} {v : Value} {d : DataW H} {ps : List MemPlace} (ht : P.underlying t = some (.slice e)) (he : P.underlying e = some (.struct #[f0, f1]))
    (hi : P.underlying ti = some .string) (ht0 : f0.type = ti) (ht1 : f1.type = ti) (ho0 : f0.offset = 0) (ho1 : f1.offset = 1) (hci : P.cellsOf ti = 1) (hc : P.cellsOf e = 2)
    (hv : ∃ A n c, v = .slice A n c) (h : DataW.Trod enc P W 0 (fun _ => true) true t v d ps) :
    ∃ (A : Option Addr) (n c : Nat) (l : List (ByteArray × ByteArray)), v = .slice A n c ∧ Als W A n l ∧ n ≤ maxLen ∧ ∀ a ∈ l, a.1.size ≤ maxLen ∧ a.2.size ≤ maxLen := by
  obtain ⟨A, n, c, rfl⟩ := hv
  obtain ⟨fuel, hf⟩ := h
  rcases DataW.trod_slice ht hf with ⟨hcs, _⟩ | ⟨a, len, cap, elems, rest, k, _, hcs, _, _, hl, hm, hlen, hel, _, _⟩
  · simp [Value.cells] at hcs
    obtain ⟨rfl, rfl, rfl⟩ := hcs
    exact ⟨none, 0, 0, [], rfl, SlN.nil _ _ _, Nat.zero_le _, by simp⟩
  · simp [Value.cells] at hcs
    obtain ⟨rfl, rfl, rfl⟩ := hcs
    have each : ∀ i, i < n → ∃ x y : ByteArray, W.cell? (a.add (i * 2)) = some (.string x) ∧ W.cell? ((a.add (i * 2)).add 1) = some (.string y) ∧ x.size ≤ maxLen ∧ y.size ≤ maxLen := by
      intro i hi'
      have h1 := hel i hi'
      rw [List.getElem?_eq_getElem (by omega), hc, Option.bind_eq_some_iff] at h1
      obtain ⟨cs', h2, h3⟩ := h1
      obtain ⟨y0, y1, m, _, hl2, h4, h5⟩ := trod_struct2 he h3
      rw [hc] at hl2
      rw [ht0, ho0, hci] at h4
      rw [ht1, ho1, hci] at h5
      obtain ⟨x, e4, _, z4⟩ := DataW.trod_string hi h4
      obtain ⟨y, e5, _, z5⟩ := DataW.trod_string hi h5
      obtain ⟨_, h7, h8⟩ := World.cells?_some h2
      match cs', hl2, e4, e5 with
      | [c0, c1], _, e4, e5 =>
        simp at e4 e5
        subst e4; subst e5
        exact ⟨x, y, by have h9 := h8 0 (by omega); exact h9, by have h9 := h8 1 (by omega); exact h9, z4, z5⟩
    let l : List (ByteArray × ByteArray) := (List.range n).map fun i => (strAt (W.cell? (a.add (i * 2))), strAt (W.cell? ((a.add (i * 2)).add 1)))
    have hll : l.length = n := by simp [l]
    refine ⟨some a, n, c, l, rfl, ⟨by rw [flat_len aliC 2 (fun _ => rfl), hll], ?_⟩, Nat.le_trans hl hm, ?_⟩
    · intro j u hu
      have hjl : j < (l.flatMap aliC).length := (List.getElem?_eq_some_iff.1 hu).1
      rw [flat_len aliC 2 (fun _ => rfl), hll] at hjl
      have hn0 : 0 < n := by omega
      obtain ⟨x0, y0, z1, z2, _⟩ := each 0 (by omega)
      obtain ⟨b, o, sp⟩ := a
      have hs : sp = none := by
        have z1' : W.cell? ⟨b, o, sp⟩ = some (.string x0) := by simpa [Addr.add] using z1
        exact World.cell?_spot z1'
      subst hs
      have ea : ∀ t, (⟨b, o, none⟩ : Addr).add t = ⟨b, o + t, none⟩ := by
        intro t
        unfold Addr.add
        split
        · subst_vars; rfl
        · rfl
      obtain ⟨x, y, e1, e2, _⟩ := each (j / 2) (by omega)
      have e3 : ((⟨b, o, none⟩ : Addr).add (j / 2 * 2)).add 1 = ⟨b, o + (j / 2 * 2 + 1), none⟩ := by rw [ea]; rfl
      rw [e3] at e2
      rw [ea] at e1
      have hlj : l[j / 2]? = some (x, y) := by
        have hj2 : j / 2 < l.length := by omega
        have hg : l[j / 2] = (strAt (W.cell? ((⟨b, o, none⟩ : Addr).add (j / 2 * 2))), strAt (W.cell? (((⟨b, o, none⟩ : Addr).add (j / 2 * 2)).add 1))) := by simp [l]
        rw [List.getElem?_eq_getElem hj2, hg, e3, ea, e1, e2]
        rfl
      refine ⟨b, o, rfl, World.block_lt_of_cell? W ⟨b, o + j / 2 * 2, none⟩ e1, ?_⟩
      rcases Nat.mod_two_eq_zero_or_one j with hm2 | hm2
      · have hj : j / 2 * 2 + 0 = j := by omega
        have := flat_get aliC 2 (fun _ => rfl) l (j / 2) 0 _ hlj (by omega)
        rw [hj, hu] at this
        injection this with this
        have hj2 : j = j / 2 * 2 := by omega
        rw [hj2, e1, this]
      · have hj : j / 2 * 2 + 1 = j := by omega
        have := flat_get aliC 2 (fun _ => rfl) l (j / 2) 1 _ hlj (by omega)
        rw [hj, hu] at this
        injection this with this
        rw [← hj, e2, this]
    · intro p hp
      obtain ⟨i, hi', rfl⟩ := List.mem_map.1 hp
      obtain ⟨x, y, e1, e2, z1, z2⟩ := each i (by simpa using hi')
      rw [e1, e2]
      exact ⟨z1, z2⟩
end
end Go.Proofs.YtpfmojeigjmlfaaGreatDoor
