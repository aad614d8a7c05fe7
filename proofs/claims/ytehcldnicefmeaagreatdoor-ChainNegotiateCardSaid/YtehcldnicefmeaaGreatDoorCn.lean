import Derived.Test.YtehcldnicefmeaaGreatDoorCq
import Derived.Test.YtehcldnicefmeaaGreatDoorNX3
namespace Go.Proofs.YtehcldnicefmeaaGreatDoor
open Go.ChangeShapes Go.WideShapes Go.ChangeAt Go.RowKit
set_option linter.unusedSimpArgs false
set_option linter.unusedVariables false

/-! A table that came in. -/
set_option maxRecDepth 100000 in
/-- A list of distances that came in. -/
theorem open_nrs2 {H : Type} {enc : TypeId × Value → H} {W : World} {v : Value} {d : DataW H} {ps : List MemPlace} (hv : ∃ A n c, v = .slice A n c) (h : DataW.Trod enc Tryz.prog W 0 (fun _ => true) true 24 v d ps) (hw : ∀ m ∈ d.weights Tryz.prog 24, m ≤ reachBytes) :
    ∃ (A : Option Addr) (n c : Nat) (l : List Nr), v = .slice A n c ∧ Nrs W A n l ∧ n ≤ maxLen ∧ ∀ x ∈ l, x.f.size ≤ reachBytes ∧ x.o.size ≤ reachBytes ∧ -9223372036854775808 ≤ x.c ∧ x.c ≤ 9223372036854775807 := by
  obtain ⟨A, n, c, L, rfl, hn, hL, hsl, hall⟩ := open_cells (m := 3) Tryz.underlying24 (by kernel_rfl) (by decide) hv h
  have hc9 : Tryz.prog.cellsOf 9 = 1 := by kernel_rfl
  have hc3 : Tryz.prog.cellsOf 3 = 1 := by kernel_rfl
  have hcN : Tryz.prog.cellsOf 122 = 3 := by kernel_rfl
  have key : ∀ cs ∈ L, ∃ x : Nr, cs = nrC x ∧ x.f.size ≤ reachBytes ∧ x.o.size ≤ reachBytes ∧ -9223372036854775808 ≤ x.c ∧ x.c ≤ 9223372036854775807 := by
    intro cs hcs
    obtain ⟨k, x, hx, hwx⟩ := hall cs hcs
    obtain ⟨xs, m, _, hxe, hl, hlen, hff⟩ := DataW.trod_struct Tryz.underlying122 hx
    have hl3 : cs.length = 3 := hl.trans hcN
    match cs, hl3 with
    | [c0, c1, c2], _ =>
      match xs, hlen with
      | [x0, x1, x2], _ =>
        have f0 := hff 0 _ rfl
        have f1 := hff 1 _ rfl
        have f2 := hff 2 _ rfl
        simp [hc9, hc3] at f0 f1 f2
        obtain ⟨fb, e0, z0, _⟩ := DataW.trod_string Tryz.underlying9 f0
        obtain ⟨ob, e1, z1, _⟩ := DataW.trod_string Tryz.underlying9 f1
        obtain ⟨y, e2, z2, wy⟩ := DataW.trod_int Tryz.underlying3 f2
        simp at e0 e1 e2
        subst e0; subst e1; subst e2
        have hd : x.1 = .agg [x0.1, x1.1, x2.1] := by rw [hxe]; rfl
        rw [hd, z0, z1, z2] at hwx
        simp only [DataW.weights, Tryz.underlying122] at hwx
        simp [DataW.weightsEach, DataW.weights] at hwx
        have hy : -9223372036854775808 ≤ y ∧ y ≤ 9223372036854775807 := by simpa [Lit.wf, IntKind.min, IntKind.max, IntKind.signed, IntKind.bits] using wy
        exact ⟨⟨fb, ob, y⟩, rfl, hw _ hwx.1, hw _ hwx.2, hy.1, hy.2⟩
  obtain ⟨l, hl1, hl2⟩ := decode_all nrC (L := L) (fun cs hcs => by obtain ⟨x, hx, _⟩ := key cs hcs; exact ⟨x, hx⟩)
  refine ⟨A, n, c, l, rfl, ?_, hn, fun x hx => ?_⟩
  · unfold Nrs
    rw [List.flatMap_def, ← hl1]
    exact hsl
  · obtain ⟨y, hy, hr⟩ := key (nrC x) (by rw [hl1]; exact List.mem_map.2 ⟨x, hx, rfl⟩)
    have : x = y := by
      cases x; cases y
      unfold nrC at hy
      simp at hy
      simp [hy.1, hy.2.1, hy.2.2]
    rw [this]
    exact hr

set_option maxRecDepth 100000 in
set_option maxHeartbeats 1000000 in
theorem open_table {H : Type} {enc : TypeId × Value → H} {W : World} {base : Nat} {v : Value} {d : DataW H} {ps : List MemPlace} (hv : Value.okWide Tryz.prog W .any base 26 v) (h : DataW.Trod enc Tryz.prog W 0 (fun _ => true) true 26 v d ps) (hw : ∀ m ∈ d.weights Tryz.prog 26, m ≤ reachBytes) :
    ∃ (L A N : Option Addr) (ln lc n c m k : Nat) (l : List Lc) (al : List Ali) (nl : List Nr), v = .agg #[.slice L ln lc, .slice A n c, .slice N m k] ∧ Lcs W L ln l ∧ ln ≤ maxLen ∧ (∀ x ∈ l, lcOK x) ∧
      Als W A n al ∧ n ≤ maxLen ∧ (∀ a ∈ al, a.1.size ≤ reachBytes ∧ a.2.size ≤ reachBytes) ∧ Nrs W N m nl ∧ m ≤ maxLen ∧ (∀ a ∈ nl, a.f.size ≤ reachBytes ∧ a.o.size ≤ reachBytes) := by
  obtain ⟨cs, rfl, hsz⟩ := okWide_struct Tryz.underlying26 hv
  obtain ⟨fuel, hf⟩ := h
  obtain ⟨xs, m, _, hxe, hl, hlen, hff⟩ := DataW.trod_struct Tryz.underlying26 hf
  have h0 : Tryz.prog.cellsOf 22 = 1 := by kernel_rfl
  have h1 : Tryz.prog.cellsOf 23 = 1 := by kernel_rfl
  have h2 : Tryz.prog.cellsOf 24 = 1 := by kernel_rfl
  have h3 : Tryz.prog.cellsOf 26 = 3 := by kernel_rfl
  have hc : cs.size = 3 := by rw [hsz]; exact h3
  injection hxe with hd _
  subst hd
  obtain ⟨l⟩ := cs
  match l, hc with
  | [c0, c1, c2], _ =>
    match xs, hlen with
    | [x0, x1, x2], _ =>
      have f0 := hff 0 _ rfl
      have f1 := hff 1 _ rfl
      have f2 := hff 2 _ rfl
      simp [Value.cells, h0, h1, h2] at f0 f1 f2
      have hw2 : ∀ q, q ∈ DataW.weightsEach Tryz.prog [22, 23, 24] [x0.1, x1.1, x2.1] → q ≤ reachBytes := fun q hq => hw q (by
        simp only [DataW.weights, Tryz.underlying26]
        exact hq)
      obtain ⟨A0, n0, d0, q0, _, _⟩ := open_sl Tryz.underlying22 f0
      obtain ⟨A1, n1, d1, q1, _, _⟩ := open_sl Tryz.underlying23 f1
      obtain ⟨A2, n2, d2, q2, _, _⟩ := open_sl Tryz.underlying24 f2
      simp at q0 q1 q2
      subst q0 q1 q2
      obtain ⟨L, ln, lc, l, e1, hL, hln, hok⟩ := open_lcs ⟨A0, n0, d0, rfl⟩ (⟨m, f0⟩ : DataW.Trod enc Tryz.prog W 0 (fun _ => true) true 22 (.slice A0 n0 d0) x0.1 x0.2) (fun q hq => hw2 q (weightsEach_at (i := 0) rfl rfl _ hq))
      injection e1 with e1 e2 e3
      subst e1 e2 e3
      have hT1 : DataW.Trod enc Tryz.prog W 0 (fun _ => true) true 23 (.slice A1 n1 d1) x1.1 x1.2 := ⟨m, f1⟩
      obtain ⟨A, n, c, al, e1, hA, hn, _⟩ := open_als Tryz.underlying23 Tryz.underlying120 Tryz.underlying9 rfl rfl rfl rfl (by kernel_rfl) (by kernel_rfl) ⟨A1, n1, d1, rfl⟩ hT1
      injection e1 with e1 e2 e3
      subst e1 e2 e3
      have hz := als_sized Tryz.underlying23 Tryz.underlying120 Tryz.underlying9 rfl rfl rfl rfl (by kernel_rfl) (by kernel_rfl) hT1 hA (fun q hq => hw2 q (weightsEach_at (i := 1) rfl rfl _ hq))
      obtain ⟨N, m2, k, nl, e1, hN, hm2, hzn⟩ := open_nrs2 ⟨A2, n2, d2, rfl⟩ (⟨m, f2⟩ : DataW.Trod enc Tryz.prog W 0 (fun _ => true) true 24 (.slice A2 n2 d2) x2.1 x2.2) (fun q hq => hw2 q (weightsEach_at (i := 2) rfl rfl _ hq))
      injection e1 with e1 e2 e3
      subst e1 e2 e3
      exact ⟨_, _, _, _, _, _, _, _, _, l, al, nl, rfl, hL, hln, hok, hA, hn, hz, hN, hm2, fun a ha => ⟨(hzn a ha).1, (hzn a ha).2.1⟩⟩
end Go.Proofs.YtehcldnicefmeaaGreatDoor
