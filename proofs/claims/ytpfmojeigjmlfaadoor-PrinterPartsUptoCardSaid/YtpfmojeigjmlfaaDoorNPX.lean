import Derived.Test.YtpfmojeigjmlfaaDoorNB1
import Derived.Test.YtpfmojeigjmlfaaDoorRows
import Derived.Deep.DeepHandedRow
import Derived.Stop.Joined
import Derived.JoinedCond
import Derived.Test.YtpfmojeigjmlfaaDoorNP2
namespace Go.Proofs.YtpfmojeigjmlfaaDoor
open Go.ChangeShapes Go.WideShapes Go.ChangeAt Go.RowKit
set_option linter.unusedSimpArgs false
set_option linter.unusedVariables false

theorem witness_row_shaped {H : Type} {enc : TypeId × Value → H} {C : Checked} {os : Os} {f : FuncId} {fn : Func} {s : OpenSpec} {conds : List PathCond} {apart : Bool} {laid : List (String × DataW Unit)} (modest : Bool) (w0 : World) (args : Array Value) (hos : w0.os = os)
    (hsh : (w0.forCall (fun _ _ => 0) ⟨#[], args, []⟩).Shaped C.prog)
    (hok : Input.okWideB C.prog (w0.forCall (fun _ _ => 0) ⟨#[], args, []⟩) f ⟨#[], args, []⟩ = true)
    (hrow : s.preRow enc C.prog fn conds apart laid (w0.forCall (fun _ _ => 0) ⟨#[], args, []⟩).memory args) :
    ∃ (w : World) (tape : Tape) (i : Input), w.os = os ∧ (w.forCall tape i).Shaped C.prog ∧ i.vars = [] ∧ Input.okWide C.prog (w.forCall tape i) .any w.heap.size f i ∧
      s.preRow enc C.prog fn conds apart laid (w.forCall tape i).memory i.args ∧ ({ modest := modest } : Assume).holds C.prog (lone (Frame.enter C.prog f i.args .normal) [] (w.forCall tape i)) :=
  ⟨w0, fun _ _ => 0, ⟨#[], args, []⟩, hos, hsh, (Input.okWide_of_okWideB (base := 0) hok).1, (Input.okWide_of_okWideB hok).2, hrow, by
    simp only [Assume.holds]
    exact ⟨by simp, by simp, fun _ => Modest.zero, by simp, by simp⟩⟩

/-! What the bound gives. -/
theorem one_le {H : Type} (d : DataW H) : 1 ≤ Rows.uptoBulk d := by
  cases d with
  | lit l => cases l <;> simp [Rows.uptoBulk]
  | nil => simp [Rows.uptoBulk]
  | ptr d => simp [Rows.uptoBulk]
  | slice elems spare => simp [Rows.uptoBulk]
  | agg parts => simp [Rows.uptoBulk]
  | iface t d => simp [Rows.uptoBulk]
  | map entries => simp [Rows.uptoBulk]
  | held h => simp [Rows.uptoBulk]
theorem part_le {H : Type} {d : DataW H} {l : List (DataW H)} (h : d ∈ l) : Rows.uptoBulk d ≤ Rows.uptoBulkAll l := by
  induction l with
  | nil => cases h
  | cons x r ih =>
    simp only [Rows.uptoBulkAll]
    cases List.mem_cons.1 h with
    | inl e => subst e; omega
    | inr e => have := ih e; omega
theorem length_le {H : Type} (l : List (DataW H)) : l.length ≤ Rows.uptoBulkAll l := by
  induction l with
  | nil => simp [Rows.uptoBulkAll]
  | cons x r ih => have := one_le x; simp only [Rows.uptoBulkAll, List.length_cons]; omega
section
variable {H : Type} {enc : TypeId × Value → H}
theorem open_strsU {P : Program} {t e : TypeId} {W : World} {v : Value} {d : DataW H} {ps : List MemPlace} (ht : P.underlying t = some (.slice e)) (he : P.underlying e = some .string) (hc : P.cellsOf e = 1)
    (hv : ∃ A n c, v = .slice A n c) (h : DataW.Trod enc P W 0 (fun _ => true) true t v d ps) :
    ∃ (A : Option Addr) (n c : Nat) (xs : List ByteArray), v = .slice A n c ∧ Sl W A n (xs.map .string) ∧ n ≤ Rows.uptoBulk d ∧ ∀ x ∈ xs, x.size ≤ Rows.uptoBulk d := by
  obtain ⟨A, n, c, rfl⟩ := hv
  obtain ⟨fuel, hf⟩ := h
  rcases open_strings ht he hc hf with ⟨hcs, _⟩ | ⟨a, len, cap, ss, hcs, _, hl, hm, hz, hx, hcell, _⟩
  · simp [Value.cells] at hcs
    obtain ⟨rfl, rfl, rfl⟩ := hcs
    exact ⟨none, 0, 0, [], rfl, Sl.nil _ _, Nat.zero_le _, by simp⟩
  · simp [Value.cells] at hcs
    obtain ⟨rfl, rfl, rfl⟩ := hcs
    simp only [if_true] at hz
    injection hx with hx _
    subst hx
    have hlen := length_le (strs (H := H) (ss.take n))
    have hbulk : Rows.uptoBulkAll (strs (H := H) (ss.take n)) ≤ Rows.uptoBulk (DataW.slice (strs (H := H) (ss.take n)) (strs (ss.drop n))) := by
      simp only [Rows.uptoBulk]
      omega
    refine ⟨some a, n, c, ss.take n, rfl, ⟨by simp; omega, fun j u hu => ?_⟩, ?_, fun x hx => ?_⟩
    · rw [List.getElem?_map] at hu
      have hj : j < n := by
        rcases Nat.lt_or_ge j n with h | h
        · exact h
        · rw [List.getElem?_eq_none (by simp; omega)] at hu; simp at hu
      have h1 := hcell j (by omega)
      refine ⟨a, rfl, ?_, ?_⟩
      · have := World.block_lt_of_cell? W (a.add j) h1
        rwa [addr_block] at this
      · rw [h1, ← hu, List.getElem?_take, if_pos hj, List.getD_eq_getElem?_getD, List.getElem?_eq_getElem (by omega)]
        simp
    · unfold strs at hlen
      rw [List.length_map, List.length_take, Nat.min_eq_left (by omega)] at hlen
      unfold strs at hbulk ⊢
      omega
    · have h1 := part_le (H := H) (d := .lit (.string x.data.toList)) (l := strs (ss.take n)) (List.mem_map.2 ⟨x, hx, rfl⟩)
      have h2 : Rows.uptoBulk (DataW.lit (H := H) (.string x.data.toList)) = x.size + 1 := by simp only [Rows.uptoBulk]; rfl
      omega
end

end Go.Proofs.YtpfmojeigjmlfaaDoor
namespace Go.Proofs.YtpfmojeigjmlfaaDoor
open Go.ChangeShapes Go.WideShapes Go.ChangeAt Go.RowKit
set_option linter.unusedSimpArgs false
set_option linter.unusedVariables false

/-! Parts that came in. -/
section
variable {H : Type} {enc : TypeId × Value → H} {P : Program}
/-- A slice that came in, element by element, with how much each holds. -/
theorem open_rowU {t e : TypeId} {m fuel : Nat} {W : World} {v : Value} {x : DataW H × List MemPlace} (ht : P.underlying t = some (.slice e)) (hm : P.cellsOf e = m) (hm0 : 0 < m)
    (hv : ∃ A n c, v = .slice A n c) (hf : DataW.trod enc P W 0 (fun _ => true) true fuel t v.cells.toList = some x) :
    ∃ (A : Option Addr) (n c : Nat) (L : List (List Value × DataW H)), v = .slice A n c ∧ n ≤ c ∧ c ≤ maxLen ∧ L.length = n ∧ SlN W A n m (L.flatMap (·.1)) ∧
      (∀ y ∈ L, ∃ (k : Nat) (z : DataW H × List MemPlace), k < fuel ∧ DataW.trod enc P W 0 (fun _ => true) true k e y.1 = some z ∧ z.1 = y.2) ∧ Rows.uptoBulkAll (L.map (·.2)) + 1 ≤ Rows.uptoBulk x.1 := by
  obtain ⟨A, n, c, rfl⟩ := hv
  rcases DataW.trod_slice ht hf with ⟨hcs, hx⟩ | ⟨a, len, cap, elems, rest, k, hk, hcs, hd, _, hl, hmx, hlen, hel, _, _⟩
  · simp [Value.cells] at hcs
    obtain ⟨rfl, rfl, rfl⟩ := hcs
    subst hx
    exact ⟨none, 0, 0, [], rfl, Nat.le_refl _, Nat.zero_le _, rfl, SlN.nil _ _ _, by simp, by simp [Rows.uptoBulkAll, Rows.uptoBulk]⟩
  · simp [Value.cells] at hcs
    obtain ⟨rfl, rfl, rfl⟩ := hcs
    subst hd
    let f : Nat → List Value := fun i => (List.range m).map fun r => (W.cell? ((a.add (i * m)).add r)).getD undef
    have hfl : ∀ i, (f i).length = m := fun i => by simp [f]
    have each : ∀ i, i < n → W.cells? 0 (a.add (i * m)) m = some (f i) ∧ (∀ r, r < m → W.cell? ((a.add (i * m)).add r) = (f i)[r]?) := by
      intro i hi
      have h1 := hel i hi
      rw [List.getElem?_eq_getElem (by omega), hm, Option.bind_eq_some_iff] at h1
      obtain ⟨cs', h2, _⟩ := h1
      obtain ⟨_, h7, h8⟩ := World.cells?_some h2
      have hcs : cs' = f i := by
        apply List.ext_getElem?
        intro r
        by_cases hr : r < m
        · have h9 := h8 r hr
          have hfr : (f i)[r]? = some ((W.cell? ((a.add (i * m)).add r)).getD undef) := by simp [f, hr]
          rw [hfr, h9]
          rw [List.getElem?_eq_getElem (by omega)]
          rfl
        · rw [List.getElem?_eq_none (by omega), List.getElem?_eq_none (by rw [hfl]; omega)]
      rw [← hcs]
      exact ⟨h2, fun r hr => h8 r hr⟩
    have hL1 : ((List.range n).map fun i => (f i, (elems.map (·.1)).getD i .nil)).flatMap (·.1) = (List.range n).flatMap f := by rw [List.flatMap_map]
    have hL2 : ((List.range n).map fun i => (f i, (elems.map (·.1)).getD i .nil)).map (·.2) = elems.map (·.1) := by
      rw [List.map_map]
      apply List.ext_getElem?
      intro i
      by_cases hi : i < n
      · rw [List.getElem?_map, List.getElem?_range hi]
        simp only [Option.map_some, Function.comp]
        rw [List.getElem?_eq_getElem (by rw [List.length_map]; omega), List.getD_eq_getElem?_getD, List.getElem?_eq_getElem (by rw [List.length_map]; omega)]
        rfl
      · rw [List.getElem?_eq_none (by simp; omega), List.getElem?_eq_none (by simp; omega)]
    refine ⟨some a, n, c, (List.range n).map fun i => (f i, (elems.map (·.1)).getD i .nil), rfl, hl, hmx, by simp, ?_, ?_, ?_⟩
    · rw [hL1]
      refine ⟨?_, ?_⟩
      · rw [flat_len f m hfl, List.length_range]
      · intro j u hu
        have hjl : j < ((List.range n).flatMap f).length := (List.getElem?_eq_some_iff.1 hu).1
        rw [flat_len f m hfl, List.length_range] at hjl
        have hq : j / m < n := Nat.div_lt_of_lt_mul (by rw [Nat.mul_comm]; exact hjl)
        have hr : j % m < m := Nat.mod_lt _ hm0
        have hj : j / m * m + j % m = j := by rw [Nat.mul_comm]; exact Nat.div_add_mod j m
        have hg := flat_get f m hfl (List.range n) (j / m) (j % m) (j / m) (by rw [List.getElem?_range hq]) hr
        rw [hj, hu] at hg
        have hc := (each (j / m) hq).2 (j % m) hr
        rw [← hg] at hc
        obtain ⟨b, o, sp⟩ := a
        have hs : sp = none := by
          have hz := (each 0 (Nat.lt_of_le_of_lt (Nat.zero_le _) hq)).2 0 hm0
          rw [Nat.zero_mul] at hz
          have hz' : W.cell? ⟨b, o, sp⟩ = (f 0)[0]? := by simpa [Addr.add] using hz
          rw [List.getElem?_eq_getElem (by rw [hfl]; exact hm0)] at hz'
          exact World.cell?_spot hz'
        subst hs
        rw [add_none, add_none] at hc
        refine ⟨b, o, rfl, World.block_lt_of_cell? W _ hc, ?_⟩
        rw [show o + j = o + j / m * m + j % m from by rw [Nat.add_assoc, hj]]
        exact hc
    · intro y hy
      obtain ⟨i, hi, rfl⟩ := List.mem_map.1 hy
      have hin : i < n := List.mem_range.1 hi
      have h1 := hel i hin
      rw [List.getElem?_eq_getElem (by omega), hm, (each i hin).1] at h1
      refine ⟨k, _, by omega, h1, ?_⟩
      show _ = (elems.map (·.1)).getD i .nil
      rw [List.getD_eq_getElem?_getD, List.getElem?_eq_getElem (by rw [List.length_map]; omega), List.getElem_map]
      rfl
    · rw [hL2]
      simp only [Rows.uptoBulk]
      omega
end
abbrev anyW : Nat → Prop := fun _ => True
def PartOK (W : World) (cs : List Value) (B : Nat) : Prop := ∃ (k : Int) (t n s : By) (fa pa : F) (Ac : Option Addr) (cc : Nat) (Ap : Option Addr) (cp : Nat) (ds ps : List Value),
  cs = [.int .i64 k, .string ⟨t.toArray⟩, .string ⟨n.toArray⟩, .string ⟨s.toArray⟩, .slice Ac fa.len cc, .slice Ap pa.len cp] ∧ (SlN W Ac fa.len 2 ds ∧ Cw W anyW fa ds) ∧ (SlN W Ap pa.len 6 ps ∧ Fw W anyW pa ps) ∧
  n.length ≤ 1048576 ∧ s.length ≤ 1048576 ∧ CanC fa ∧ Can pa ∧ 2 * t.length + 2 * n.length + s.length + 20 + wt fa + wt pa ≤ 20 * B
def CaseOK (W : World) (cs : List Value) (B : Nat) : Prop := ∃ (n : By) (pa : F) (Ap : Option Addr) (cp : Nat) (ps : List Value),
  cs = [.string ⟨n.toArray⟩, .slice Ap pa.len cp] ∧ (SlN W Ap pa.len 6 ps ∧ Fw W anyW pa ps) ∧ n.length ≤ 1048576 ∧ Can pa ∧ 2 * n.length + 20 + wt pa ≤ 20 * B
section
variable {H : Type} {enc : TypeId × Value → H}
theorem asm_parts {W : World} : ∀ L : List (List Value × DataW H), (∀ y ∈ L, PartOK W y.1 (Rows.uptoBulk y.2)) → ∃ f : F, f.len = L.length ∧ Fw W anyW f (L.flatMap (·.1)) ∧ Can f ∧ wt f ≤ 20 * Rows.uptoBulkAll (L.map (·.2))
  | [], _ => ⟨.nil, rfl, by rw [Fw]; rfl, by rw [Can]; trivial, by rw [wt]; exact Nat.zero_le _⟩
  | y :: L, h => by
    obtain ⟨f, h1, h2, h3, h4⟩ := asm_parts L (fun z hz => h z (List.mem_cons_of_mem _ hz))
    obtain ⟨k, t, n, s, fa, pa, Ac, cc, Ap, cp, ds, ps, e, ⟨a1, a2⟩, ⟨b1, b2⟩, hn, hs, hca, hpa, hw⟩ := h y List.mem_cons_self
    refine ⟨.cons k t n s fa pa f, by rw [F.len, h1]; rfl, ?_, ?_, ?_⟩
    · rw [Fw, List.flatMap_cons, e]
      exact ⟨Ac, cc, Ap, cp, ds, ps, _, rfl, ⟨a1, fun _ _ _ => trivial, a2⟩, ⟨b1, fun _ _ _ => trivial, b2⟩, h2⟩
    · rw [Can]
      exact ⟨hn, hs, hca, hpa, h3⟩
    · rw [wt, List.map_cons, Rows.uptoBulkAll]
      omega
theorem asm_cases {W : World} : ∀ L : List (List Value × DataW H), (∀ y ∈ L, CaseOK W y.1 (Rows.uptoBulk y.2)) → ∃ f : F, f.len = L.length ∧ Cw W anyW f (L.flatMap (·.1)) ∧ CanC f ∧ wt f ≤ 20 * Rows.uptoBulkAll (L.map (·.2))
  | [], _ => ⟨.nil, rfl, by rw [Cw]; rfl, by rw [CanC]; trivial, by rw [wt]; exact Nat.zero_le _⟩
  | y :: L, h => by
    obtain ⟨f, h1, h2, h3, h4⟩ := asm_cases L (fun z hz => h z (List.mem_cons_of_mem _ hz))
    obtain ⟨n, pa, Ap, cp, ps, e, ⟨b1, b2⟩, hn, hpa, hw⟩ := h y List.mem_cons_self
    refine ⟨.cons 0 [] n [] .nil pa f, by rw [F.len, h1]; rfl, ?_, ?_, ?_⟩
    · rw [Cw, List.flatMap_cons, e]
      exact ⟨Ap, cp, ps, _, rfl, ⟨b1, fun _ _ _ => trivial, b2⟩, h2⟩
    · rw [CanC]
      exact ⟨rfl, rfl, rfl, rfl, hn, hpa, h3⟩
    · rw [wt, List.map_cons, Rows.uptoBulkAll, wt]
      simp only [List.length_nil]
      omega
theorem ba_back (b : ByteArray) : b = ⟨b.data.toList.toArray⟩ := by simp
set_option maxRecDepth 100000 in
set_option maxHeartbeats 2000000 in
theorem open_all {W : World} : ∀ fuel : Nat,
    (∀ (v : Value) (x : DataW H × List MemPlace), (∃ A n c, v = .slice A n c) → DataW.trod enc Tryd.prog W 0 (fun _ => true) true fuel 22 v.cells.toList = some x → Rows.uptoBulk x.1 ≤ 1048576 →
      ∃ f, FwS W anyW f v ∧ Can f ∧ wt f + 20 ≤ 20 * Rows.uptoBulk x.1 ∧ ∀ A n c, v = .slice A n c → n ≤ c) ∧
    (∀ (v : Value) (x : DataW H × List MemPlace), (∃ A n c, v = .slice A n c) → DataW.trod enc Tryd.prog W 0 (fun _ => true) true fuel 29 v.cells.toList = some x → Rows.uptoBulk x.1 ≤ 1048576 →
      ∃ f, CwS W anyW f v ∧ CanC f ∧ wt f + 20 ≤ 20 * Rows.uptoBulk x.1) := by
  intro fuel
  induction fuel using Nat.strongRecOn with
  | _ fuel ih =>
  have hc9 : Tryd.prog.cellsOf 9 = 1 := by kernel_rfl
  have hc3 : Tryd.prog.cellsOf 3 = 1 := by kernel_rfl
  have hcP : Tryd.prog.cellsOf 31 = 6 := by kernel_rfl
  have hcC : Tryd.prog.cellsOf 33 = 2 := by kernel_rfl
  have hcs1 : Tryd.prog.cellsOf 22 = 1 := by kernel_rfl
  have hcs2 : Tryd.prog.cellsOf 29 = 1 := by kernel_rfl
  refine ⟨fun v x hv hf hb => ?_, fun v x hv hf hb => ?_⟩
  · obtain ⟨A, n, c, L, rfl, hnc, hcm, hL, hsl, hall, hbulk⟩ := open_rowU (m := 6) Tryd.underlying22 hcP (by decide) hv hf
    have key : ∀ y ∈ L, PartOK W y.1 (Rows.uptoBulk y.2) := by
      intro y hy
      obtain ⟨k, z, hk, hz, hzy⟩ := hall y hy
      have hyb : Rows.uptoBulk y.2 ≤ 1048576 := by
        have h1 := part_le (H := H) (d := y.2) (l := L.map (·.2)) (List.mem_map.2 ⟨y, hy, rfl⟩)
        omega
      obtain ⟨xs, m, hkm, hxe, hl, hlen, hff⟩ := DataW.trod_struct Tryd.underlying31 hz
      have hl6 : y.1.length = 6 := hl.trans hcP
      obtain ⟨cs, dy⟩ := y
      simp only at hl6 hzy hyb hff ⊢
      match cs, hl6 with
      | [c0, c1, c2, c3, c4, c5], _ =>
        match xs, hlen with
        | [x0, x1, x2, x3, x4, x5], _ =>
          have f0 := hff 0 _ rfl
          have f1 := hff 1 _ rfl
          have f2 := hff 2 _ rfl
          have f3 := hff 3 _ rfl
          have f4 := hff 4 _ rfl
          have f5 := hff 5 _ rfl
          simp [hc9, hc3, hcs1, hcs2] at f0 f1 f2 f3 f4 f5
          obtain ⟨i0, r0, _, w0⟩ := DataW.trod_int Tryd.underlying3 f0
          obtain ⟨b1, e1, z1, _⟩ := DataW.trod_string Tryd.underlying9 f1
          obtain ⟨b2, e2, z2, _⟩ := DataW.trod_string Tryd.underlying9 f2
          obtain ⟨b3, e3, z3, _⟩ := DataW.trod_string Tryd.underlying9 f3
          obtain ⟨A4, n4, d4, q4, _, _⟩ := open_sl Tryd.underlying29 f4
          obtain ⟨A5, n5, d5, q5, _, _⟩ := open_sl Tryd.underlying22 f5
          simp at r0 e1 e2 e3 q4 q5
          subst r0 e1 e2 e3 q4 q5
          have hd : dy = .agg [x0.1, x1.1, x2.1, x3.1, x4.1, x5.1] := by rw [← hzy, hxe]; rfl
          have hbd : Rows.uptoBulk dy = Rows.uptoBulk x0.1 + (b1.data.toList.length + 1) + (b2.data.toList.length + 1) + (b3.data.toList.length + 1) + Rows.uptoBulk x4.1 + Rows.uptoBulk x5.1 + 1 := by
            rw [hd, z1, z2, z3]
            simp only [Rows.uptoBulk, Rows.uptoBulkAll]
            omega
          obtain ⟨fa, ⟨A4', d4', ds, ev4, a1, _, a2⟩, hca, hwa⟩ := (ih m (by omega)).2 (.slice A4 n4 d4) x4 ⟨_, _, _, rfl⟩ f4 (by omega)
          obtain ⟨pa, ⟨A5', d5', ps, ev5, p1, _, p2⟩, hpa, hwp, _⟩ := (ih m (by omega)).1 (.slice A5 n5 d5) x5 ⟨_, _, _, rfl⟩ f5 (by omega)
          injection ev4 with g1 g2 g3
          injection ev5 with h1 h2 h3
          subst g1 g2 g3 h1 h2 h3
          refine ⟨i0, b1.data.toList, b2.data.toList, b3.data.toList, fa, pa, A4, d4, A5, d5, ds, ps, ?_, ⟨a1, a2⟩, ⟨p1, p2⟩, by omega, by omega, hca, hpa, by omega⟩
          rw [← ba_back, ← ba_back, ← ba_back]
    obtain ⟨f, h1, h2, h3, h4⟩ := asm_parts L key
    have hfl : f.len = n := h1.trans hL
    subst hfl
    refine ⟨f, ⟨A, c, _, rfl, hsl, fun _ _ _ => trivial, h2⟩, h3, by omega, fun A' n' c' e => ?_⟩
    injection e with _ e1 e2
    omega
  · obtain ⟨A, n, c, L, rfl, hnc, hcm, hL, hsl, hall, hbulk⟩ := open_rowU (m := 2) Tryd.underlying29 hcC (by decide) hv hf
    have key : ∀ y ∈ L, CaseOK W y.1 (Rows.uptoBulk y.2) := by
      intro y hy
      obtain ⟨k, z, hk, hz, hzy⟩ := hall y hy
      have hyb : Rows.uptoBulk y.2 ≤ 1048576 := by
        have h1 := part_le (H := H) (d := y.2) (l := L.map (·.2)) (List.mem_map.2 ⟨y, hy, rfl⟩)
        omega
      obtain ⟨xs, m, hkm, hxe, hl, hlen, hff⟩ := DataW.trod_struct Tryd.underlying33 hz
      have hl2 : y.1.length = 2 := hl.trans hcC
      obtain ⟨cs, dy⟩ := y
      simp only at hl2 hzy hyb hff ⊢
      match cs, hl2 with
      | [c0, c1], _ =>
        match xs, hlen with
        | [x0, x1], _ =>
          have f0 := hff 0 _ rfl
          have f1 := hff 1 _ rfl
          simp [hc9, hcs1] at f0 f1
          obtain ⟨b0, e0, z0, _⟩ := DataW.trod_string Tryd.underlying9 f0
          obtain ⟨A5, n5, d5, q5, _, _⟩ := open_sl Tryd.underlying22 f1
          simp at e0 q5
          subst e0 q5
          have hd : dy = .agg [x0.1, x1.1] := by rw [← hzy, hxe]; rfl
          have hbd : Rows.uptoBulk dy = (b0.data.toList.length + 1) + Rows.uptoBulk x1.1 + 1 := by
            rw [hd, z0]
            simp only [Rows.uptoBulk, Rows.uptoBulkAll]
            omega
          obtain ⟨pa, ⟨A5', d5', ps, ev5, p1, _, p2⟩, hpa, hwp, _⟩ := (ih m (by omega)).1 (.slice A5 n5 d5) x1 ⟨_, _, _, rfl⟩ f1 (by omega)
          injection ev5 with h1 h2 h3
          subst h1 h2 h3
          refine ⟨b0.data.toList, pa, A5, d5, ps, ?_, ⟨p1, p2⟩, by omega, hpa, by omega⟩
          rw [← ba_back]
    obtain ⟨f, h1, h2, h3, h4⟩ := asm_cases L key
    have hfl : f.len = n := h1.trans hL
    subst hfl
    exact ⟨f, ⟨A, c, _, rfl, hsl, fun _ _ _ => trivial, h2⟩, h3, by omega⟩
/-- Parts that came in. -/
theorem open_parts {W : World} {v : Value} {d : DataW H} {ps : List MemPlace} (hv : ∃ A n c, v = .slice A n c) (h : DataW.Trod enc Tryd.prog W 0 (fun _ => true) true 22 v d ps) (hb : Rows.uptoBulk d ≤ 1048576) :
    ∃ f, FwS W anyW f v ∧ Can f ∧ wt f ≤ 20971520 ∧ ∀ A n c, v = .slice A n c → n ≤ c := by
  obtain ⟨fuel, hf⟩ := h
  obtain ⟨f, h1, h2, h3, h4⟩ := (open_all fuel).1 v _ hv hf hb
  exact ⟨f, h1, h2, by have : Rows.uptoBulk d ≤ 1048576 := hb; simp only at h3; omega, h4⟩
end
end Go.Proofs.YtpfmojeigjmlfaaDoor
