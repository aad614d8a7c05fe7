import Derived.Test.YtblkpgglkhmggaaGreatDoorSb
import Derived.Test.YtblkpgglkhmggaaGreatDoorOpenC
import Derived.Test.YtblkpgglkhmggaaGreatDoorAtC
import Derived.Test.YtblkpgglkhmggaaGreatDoorTagV
import Derived.IntWalk
namespace Go.Proofs.YtblkpgglkhmggaaGreatDoor
open Go.ChangeShapes Go.WideShapes Go.ChangeAt Go.RowKit
set_option linter.unusedSimpArgs false
set_option linter.unusedVariables false

/-! Arguments and values in memory. -/
theorem flat_at {α : Type} {f : α → List Value} {m : Nat} (hf : ∀ a, (f a).length = m) (hm : 0 < m) {w : World} {A : Option Addr} {n : Nat} {l : List α} (h : SlN w A n m (l.flatMap f)) {k : Nat} {x : α} (hx : l[k]? = some x) :
    ∃ b o, A = some ⟨b, o, none⟩ ∧ b < w.heap.size ∧ ∀ j u, (f x)[j]? = some u → w.cell? ⟨b, o + k * m + j, none⟩ = some u := by
  have g0 := flat_get f m hf l k 0 x hx hm
  obtain ⟨u0, hu0⟩ : ∃ u, (f x)[0]? = some u := ⟨_, List.getElem?_eq_getElem (by rw [hf]; exact hm)⟩
  rw [hu0] at g0
  obtain ⟨b, o, rfl, hb, _⟩ := h.2 _ _ g0
  refine ⟨b, o, rfl, hb, fun j u hu => ?_⟩
  have hj : j < m := by have := (List.getElem?_eq_some_iff.1 hu).1; rwa [hf] at this
  have g1 := flat_get f m hf l k j x hx hj
  rw [hu] at g1
  obtain ⟨b', o', e, _, h1⟩ := h.2 _ _ g1
  injection e with e
  injection e with e1 e2 _
  subst e1; subst e2
  rw [Nat.add_assoc]
  exact h1
section
variable {H : Type} {enc : TypeId × Value → H} {P : Program}
/-- A slice that came in, as one cell. -/
theorem open_sl {t e : TypeId} {W : World} {k : Nat} {cs : List Value} {x : DataW H × List MemPlace} (ht : P.underlying t = some (.slice e)) (h : DataW.trod enc P W 0 (fun _ => true) true k t cs = some x) :
    ∃ A n c, cs = [.slice A n c] ∧ n ≤ maxLen ∧ ((∀ m ∈ x.1.weights P t, m ≤ reachBytes) → n * P.bytesOf e ≤ reachBytes) := by
  rcases DataW.trod_slice ht h with ⟨rfl, rfl⟩ | ⟨a, len, cap, elems, rest, m, _, rfl, rfl, _, hl, hm, hlen, _⟩
  · exact ⟨none, 0, 0, rfl, Nat.zero_le _, fun _ => by simp⟩
  · refine ⟨some a, len, cap, rfl, Nat.le_trans hl hm, fun hw => ?_⟩
    have h1 := hw ((elems.length + rest.length) * P.bytesOf e) (by simp [DataW.weights, ht])
    rw [← hlen]
    exact Nat.le_trans (Nat.mul_le_mul_right _ (Nat.le_add_right _ _)) h1
end
theorem weightsEach_at {H : Type} {P : Program} : ∀ {ts : List TypeId} {ds : List (DataW H)} {i : Nat} {t : TypeId} {d : DataW H}, ts[i]? = some t → ds[i]? = some d → ∀ m ∈ d.weights P t, m ∈ DataW.weightsEach P ts ds
  | [], _, i, _, _, h, _ => by simp at h
  | _ :: _, [], i, _, _, _, h => by simp at h
  | t :: ts, d :: ds, 0, t', d', h1, h2 => by
    simp at h1 h2
    subst h1; subst h2
    intro m hm
    simp only [DataW.weightsEach, List.mem_append]
    exact .inl hm
  | t :: ts, d :: ds, i + 1, t', d', h1, h2 => by
    intro m hm
    simp only [DataW.weightsEach, List.mem_append]
    exact .inr (weightsEach_at (i := i) (by simpa using h1) (by simpa using h2) m hm)

structure Ag where
  n : ByteArray
  t : Int
def agC (x : Ag) : List Value := [.string x.n, .int .i64 x.t]
def agOf (x : Ag) : ArgP := (x.n.data.toList, x.t)
def Ags (w : World) (A : Option Addr) (n : Nat) (l : List Ag) : Prop := SlN w A n 2 (l.flatMap agC)
theorem Ags.ext {w w' : World} {A : Option Addr} {n : Nat} {l : List Ag} (h : Ags w A n l) (hw : Ext w w') : Ags w' A n l := SlN.ext h hw
theorem Ags.len {w : World} {A : Option Addr} {n : Nat} {l : List Ag} (h : Ags w A n l) : l.length = n := by
  have h1 := h.1
  rw [flat_len agC 2 (fun _ => rfl)] at h1
  omega
theorem Ags.at_ {w : World} {A : Option Addr} {n : Nat} {l : List Ag} (h : Ags w A n l) {k : Nat} {x : Ag} (hx : l[k]? = some x) :
    ∃ b o, A = some ⟨b, o, none⟩ ∧ b < w.heap.size ∧ w.cell? ⟨b, o + k * 2, none⟩ = some (.string x.n) ∧ w.cell? ⟨b, o + k * 2 + 1, none⟩ = some (.int .i64 x.t) := by
  obtain ⟨b, o, h1, h2, h3⟩ := flat_at (f := agC) (m := 2) (fun _ => rfl) (by decide) h hx
  exact ⟨b, o, h1, h2, h3 0 _ rfl, h3 1 _ rfl⟩
/-- A value: name, type, text, date, list. -/
structure Vl where
  n : ByteArray
  t : Int
  s : ByteArray
  d : Int
  A : Option Addr
  ln : Nat
  c : Nat
  l : List ByteArray
def vlC (x : Vl) : List Value := [.string x.n, .int .i64 x.t, .string x.s, .int .i64 x.d, .slice x.A x.ln x.c]
def Vls (w : World) (A : Option Addr) (n : Nat) (l : List Vl) : Prop := SlN w A n 5 (l.flatMap vlC) ∧ ∀ x ∈ l, Sl w x.A x.ln (x.l.map .string)
theorem Vls.ext {w w' : World} {A : Option Addr} {n : Nat} {l : List Vl} (h : Vls w A n l) (hw : Ext w w') : Vls w' A n l := ⟨SlN.ext h.1 hw, fun x hx => (h.2 x hx).ext hw⟩
theorem Vls.len {w : World} {A : Option Addr} {n : Nat} {l : List Vl} (h : Vls w A n l) : l.length = n := by
  have h1 := h.1.1
  rw [flat_len vlC 5 (fun _ => rfl)] at h1
  omega
theorem Vls.at_ {w : World} {A : Option Addr} {n : Nat} {l : List Vl} (h : Vls w A n l) {k : Nat} {x : Vl} (hx : l[k]? = some x) :
    ∃ b o, A = some ⟨b, o, none⟩ ∧ b < w.heap.size ∧ ∀ j u, (vlC x)[j]? = some u → w.cell? ⟨b, o + k * 5 + j, none⟩ = some u := flat_at (f := vlC) (m := 5) (fun _ => rfl) (by decide) h.1 hx

set_option maxRecDepth 100000 in
set_option maxHeartbeats 1000000 in
theorem open_ags {H : Type} {enc : TypeId × Value → H} {W : World} {v : Value} {d : DataW H} {ps : List MemPlace} (hv : ∃ A n c, v = .slice A n c) (h : DataW.Trod enc Tryz.prog W 0 (fun _ => true) true 25 v d ps) (hw : ∀ m ∈ d.weights Tryz.prog 25, m ≤ reachBytes) :
    ∃ (A : Option Addr) (n c : Nat) (l : List Ag), v = .slice A n c ∧ Ags W A n l ∧ n ≤ maxLen ∧ ∀ x ∈ l, x.n.size ≤ reachBytes ∧ (Lit.int .i64 x.t).wf = true := by
  obtain ⟨A, n, c, L, rfl, hn, hL, hsl, hall⟩ := open_cells (m := 2) Tryz.underlying25 (by kernel_rfl) (by decide) hv h
  have hc9 : Tryz.prog.cellsOf 9 = 1 := by kernel_rfl
  have hc3 : Tryz.prog.cellsOf 3 = 1 := by kernel_rfl
  have hcE : Tryz.prog.cellsOf 58 = 2 := by kernel_rfl
  have key : ∀ cs ∈ L, ∃ x : Ag, cs = agC x ∧ x.n.size ≤ reachBytes ∧ (Lit.int .i64 x.t).wf = true := by
    intro cs hcs
    obtain ⟨k, x, hx, hwx⟩ := hall cs hcs
    obtain ⟨xs, m, _, hxe, hl, hlen, hff⟩ := DataW.trod_struct Tryz.underlying58 hx
    have hl2 : cs.length = 2 := hl.trans hcE
    match cs, hl2 with
    | [c0, c1], _ =>
      match xs, hlen with
      | [x0, x1], _ =>
        have f0 := hff 0 _ rfl
        have f1 := hff 1 _ rfl
        simp [hc9, hc3] at f0 f1
        obtain ⟨b0, e0, z0, _⟩ := DataW.trod_string Tryz.underlying9 f0
        obtain ⟨i0, r0, z1, w1⟩ := DataW.trod_int Tryz.underlying3 f1
        simp at e0 r0
        subst e0 r0
        have hd : x.1 = .agg [x0.1, x1.1] := by rw [hxe]; rfl
        refine ⟨⟨b0, i0⟩, rfl, ?_, w1⟩
        have := hw b0.data.toList.length (hwx _ (by
          rw [hd]
          simp only [DataW.weights, Tryz.underlying58]
          exact weightsEach_at (ts := [9, 3]) (i := 0) rfl rfl _ (by rw [z0]; simp [DataW.weights])))
        exact this
  have dec : ∃ l : List Ag, L = l.map agC ∧ ∀ x ∈ l, x.n.size ≤ reachBytes ∧ (Lit.int .i64 x.t).wf = true := by
    clear hsl hL hall hn
    induction L with
    | nil => exact ⟨[], rfl, by simp⟩
    | cons cs r ih =>
      obtain ⟨l, h1, h2⟩ := ih (fun x hx => key x (by simp [hx]))
      obtain ⟨x, hx, hr⟩ := key cs (by simp)
      exact ⟨x :: l, by rw [hx, h1]; rfl, by intro y hy; rcases List.mem_cons.1 hy with rfl | hy; exact hr; exact h2 y hy⟩
  obtain ⟨l, hl1, hl2⟩ := dec
  refine ⟨A, n, c, l, rfl, ?_, hn, hl2⟩
  unfold Ags
  rw [List.flatMap_def, ← hl1]
  exact hsl

set_option maxRecDepth 100000 in
set_option maxHeartbeats 1000000 in
theorem open_vls {H : Type} {enc : TypeId × Value → H} {W : World} {v : Value} {d : DataW H} {ps : List MemPlace} (hv : ∃ A n c, v = .slice A n c) (h : DataW.Trod enc Tryz.prog W 0 (fun _ => true) true 40 v d ps) (hw : ∀ m ∈ d.weights Tryz.prog 40, m ≤ reachBytes) :
    ∃ (A : Option Addr) (n c : Nat) (l : List Vl), v = .slice A n c ∧ Vls W A n l ∧ n ≤ maxLen ∧ ∀ x ∈ l, x.n.size ≤ reachBytes ∧ x.s.size ≤ reachBytes ∧ x.ln ≤ maxLen ∧ (Lit.int .i64 x.t).wf = true ∧ (Lit.int .i64 x.d).wf = true := by
  obtain ⟨A, n, c, L, rfl, hn, hL, hsl, hall⟩ := open_cells (m := 5) Tryz.underlying40 (by kernel_rfl) (by decide) hv h
  have hc9 : Tryz.prog.cellsOf 9 = 1 := by kernel_rfl
  have hc3 : Tryz.prog.cellsOf 3 = 1 := by kernel_rfl
  have hcE : Tryz.prog.cellsOf 45 = 5 := by kernel_rfl
  have ha4 : Tryz.prog.cellsOf 43 = 1 := by kernel_rfl
  have key : ∀ cs ∈ L, ∃ x : Vl, cs = vlC x ∧ Sl W x.A x.ln (x.l.map .string) ∧ x.n.size ≤ reachBytes ∧ x.s.size ≤ reachBytes ∧ x.ln ≤ maxLen ∧ (Lit.int .i64 x.t).wf = true ∧ (Lit.int .i64 x.d).wf = true := by
    intro cs hcs
    obtain ⟨k, x, hx, hwx⟩ := hall cs hcs
    obtain ⟨xs, m, _, hxe, hl, hlen, hff⟩ := DataW.trod_struct Tryz.underlying45 hx
    have hl5 : cs.length = 5 := hl.trans hcE
    match cs, hl5 with
    | [c0, c1, c2, c3, c4], _ =>
      match xs, hlen with
      | [x0, x1, x2, x3, x4], _ =>
        have f0 := hff 0 _ rfl
        have f1 := hff 1 _ rfl
        have f2 := hff 2 _ rfl
        have f3 := hff 3 _ rfl
        have f4 := hff 4 _ rfl
        simp [hc9, hc3, ha4] at f0 f1 f2 f3 f4
        obtain ⟨b0, e0, z0, _⟩ := DataW.trod_string Tryz.underlying9 f0
        obtain ⟨i0, r0, _, w1⟩ := DataW.trod_int Tryz.underlying3 f1
        obtain ⟨b2, e2, z2, _⟩ := DataW.trod_string Tryz.underlying9 f2
        obtain ⟨i3, r3, _, w3⟩ := DataW.trod_int Tryz.underlying3 f3
        obtain ⟨A4, n4, d4, q4, _, _⟩ := open_sl Tryz.underlying43 f4
        simp at e0 r0 e2 r3 q4
        subst e0 r0 e2 r3 q4
        obtain ⟨A5, n5, d5, l5, e5, h5, m5⟩ := open_strs Tryz.underlying43 Tryz.underlying9 hc9 ⟨A4, n4, d4, rfl⟩ (⟨m, f4⟩ : DataW.Trod enc Tryz.prog W 0 (fun _ => true) true 43 (.slice A4 n4 d4) x4.1 x4.2)
        injection e5 with e5 e6 e7
        subst e5 e6 e7
        have hd : x.1 = .agg [x0.1, x1.1, x2.1, x3.1, x4.1] := by rw [hxe]; rfl
        have hwx2 : ∀ q, q ∈ DataW.weightsEach Tryz.prog [9, 3, 9, 3, 43] [x0.1, x1.1, x2.1, x3.1, x4.1] → q ≤ reachBytes := fun q hq => hw q (hwx q (by
          rw [hd]
          simp only [DataW.weights, Tryz.underlying45]
          exact hq))
        refine ⟨⟨b0, i0, b2, i3, A4, n4, d4, l5⟩, rfl, h5, ?_, ?_, m5, w1, w3⟩
        · exact hwx2 b0.data.toList.length (weightsEach_at (i := 0) rfl rfl _ (by rw [z0]; simp [DataW.weights]))
        · exact hwx2 b2.data.toList.length (weightsEach_at (i := 2) rfl rfl _ (by rw [z2]; simp [DataW.weights]))
  have dec : ∃ l : List Vl, L = l.map vlC ∧ ∀ x ∈ l, Sl W x.A x.ln (x.l.map .string) ∧ x.n.size ≤ reachBytes ∧ x.s.size ≤ reachBytes ∧ x.ln ≤ maxLen ∧ (Lit.int .i64 x.t).wf = true ∧ (Lit.int .i64 x.d).wf = true := by
    clear hsl hL hall hn
    induction L with
    | nil => exact ⟨[], rfl, by simp⟩
    | cons cs r ih =>
      obtain ⟨l, h1, h2⟩ := ih (fun x hx => key x (by simp [hx]))
      obtain ⟨x, hx, hr⟩ := key cs (by simp)
      exact ⟨x :: l, by rw [hx, h1]; rfl, by intro y hy; rcases List.mem_cons.1 hy with rfl | hy; exact hr; exact h2 y hy⟩
  obtain ⟨l, hl1, hl2⟩ := dec
  refine ⟨A, n, c, l, rfl, ⟨?_, fun x hx => (hl2 x hx).1⟩, hn, fun x hx => (hl2 x hx).2⟩
  rw [List.flatMap_def, ← hl1]
  exact hsl
end Go.Proofs.YtblkpgglkhmggaaGreatDoor
