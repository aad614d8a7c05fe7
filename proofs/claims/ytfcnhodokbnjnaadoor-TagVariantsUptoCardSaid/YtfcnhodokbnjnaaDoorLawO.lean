import Derived.Test.YtfcnhodokbnjnaaDoorLawS
import Derived.Test.YtfcnhodokbnjnaaDoorLawKit
namespace Go.Proofs.YtfcnhodokbnjnaaDoor
open Go.ChangeShapes Go.WideShapes Go.ChangeAt Go.RowKit
open Go.ChangeMaps (open_string shut_string)
set_option linter.unusedSimpArgs false
set_option linter.unusedVariables false

section
variable {H : Type} {enc : TypeId × Value → H}
/-- A slice of strings that came in. -/
theorem open_strs2 {P : Program} {t e : TypeId} {W : World} {v : Value} {d : DataW H} {ps : List MemPlace} (ht : P.underlying t = some (.slice e)) (he : P.underlying e = some .string) (hc : P.cellsOf e = 1)
    (hv : ∃ A n c, v = .slice A n c) (h : DataW.Trod enc P W 0 (fun _ => true) true t v d ps) :
    ∃ (A : Option Addr) (n c : Nat) (xs : List ByteArray), v = .slice A n c ∧ Sl W A n (xs.map .string) ∧ n ≤ maxLen ∧ ∀ x ∈ xs, x.size ≤ maxLen := by
  obtain ⟨A, n, c, rfl⟩ := hv
  obtain ⟨fuel, hf⟩ := h
  rcases open_strings ht he hc hf with ⟨hcs, _⟩ | ⟨a, len, cap, ss, hcs, _, hl, hm, hz, _, hcell, hsz⟩
  · simp [Value.cells] at hcs
    obtain ⟨rfl, rfl, rfl⟩ := hcs
    exact ⟨none, 0, 0, [], rfl, Sl.nil _ _, Nat.zero_le _, by simp⟩
  · simp [Value.cells] at hcs
    obtain ⟨rfl, rfl, rfl⟩ := hcs
    simp only [if_true] at hz
    refine ⟨some a, n, c, ss.take n, rfl, ⟨by simp; omega, fun j u hu => ?_⟩, Nat.le_trans hl hm, fun x hx => hsz x (List.mem_of_mem_take hx)⟩
    rw [List.getElem?_map] at hu
    have hj : j < n := by
      rcases Nat.lt_or_ge j n with h | h
      · exact h
      · rw [List.getElem?_eq_none (by simp; omega)] at hu; simp at hu
    have h1 := hcell j (by omega)
    refine ⟨a, rfl, ?_, ?_⟩
    · have := World.block_lt_of_cell? W (a.add j) h1
      rwa [addr_block] at this
    · rw [h1, ← hu, List.getElem?_take, if_pos hj, List.getD_eq_getElem?_getD, List.getElem?_eq_getElem (by omega)]
      simp

set_option maxRecDepth 100000 in
/-- A tag that came in. -/
theorem open_tag {W : World} {base : Nat} {v : Value} {d : DataW H} {ps : List MemPlace} (hv : Value.okWide Tryd.prog W .any base 29 v) (h : DataW.Trod enc Tryd.prog W 0 (fun _ => true) true 29 v d ps) :
    ∃ (lb sb rb : ByteArray) (A : Option Addr) (n c : Nat) (xs : List ByteArray), v = .agg #[.string lb, .string sb, .string rb, .slice A n c] ∧ Sl W A n (xs.map .string) ∧ n ≤ maxLen ∧ lb.size ≤ maxLen ∧ sb.size ≤ maxLen ∧ rb.size ≤ maxLen ∧ ∀ x ∈ xs, x.size ≤ maxLen := by
  obtain ⟨cs, rfl, hsz⟩ := okWide_struct Tryd.underlying29 hv
  obtain ⟨fuel, hf⟩ := h
  obtain ⟨xs, m, _, _, hl, hlen, hff⟩ := DataW.trod_struct Tryd.underlying29 hf
  have hc9 : Tryd.prog.cellsOf 9 = 1 := by kernel_rfl
  have hc23 : Tryd.prog.cellsOf 23 = 1 := by kernel_rfl
  have hc29 : Tryd.prog.cellsOf 29 = 4 := by kernel_rfl
  have hc : cs.size = 4 := by rw [hsz]; exact hc29
  obtain ⟨l⟩ := cs
  match l, hc with
  | [c0, c1, c2, c3], _ =>
    match xs, hlen with
    | [x0, x1, x2, x3], _ =>
      have f0 := hff 0 _ rfl
      have f1 := hff 1 _ rfl
      have f2 := hff 2 _ rfl
      have f3 := hff 3 _ rfl
      simp [Value.cells, hc9, hc23] at f0 f1 f2 f3
      obtain ⟨lb, e0, _, z0⟩ := DataW.trod_string Tryd.underlying9 f0
      obtain ⟨sb, e1, _, z1⟩ := DataW.trod_string Tryd.underlying9 f1
      obtain ⟨rb, e2, _, z2⟩ := DataW.trod_string Tryd.underlying9 f2
      simp at e0 e1 e2
      subst e0; subst e1; subst e2
      have hv3 : ∃ A n c, c3 = .slice A n c := by
        rcases open_strings Tryd.underlying23 Tryd.underlying9 hc9 f3 with ⟨hcs, _⟩ | ⟨a, len, cap, ss, hcs, _⟩
        · simp at hcs; exact ⟨none, 0, 0, hcs⟩
        · simp at hcs; exact ⟨some a, len, cap, hcs⟩
      obtain ⟨A, n, c, rfl⟩ := hv3
      obtain ⟨A2, n2, c2, ys, e4, hsl, hn, hys⟩ := open_strs2 Tryd.underlying23 Tryd.underlying9 hc9 ⟨A, n, c, rfl⟩ (⟨m, f3⟩ : DataW.Trod enc Tryd.prog W 0 (fun _ => true) true 23 (.slice A n c) x3.1 x3.2)
      injection e4 with e4 e5 e6
      subst e4; subst e5; subst e6
      exact ⟨lb, sb, rb, A, n, c, ys, rfl, hsl, hn, z0, z1, z2, hys⟩
end

/-! few: whatever the sum is, few variants. -/
def FewPost (n : Nat) (w : World) : Ending → World → Prop := fun e w' => ∃ b : Bool, e = .returned (.bool b) ∧ (b = true → n ≤ 8) ∧ Ext w w'
def FInv (v0 v1 v2 : Value) (A : Option Addr) (n c : Nat) (w : World) (a i : Value) (wr : World) : Prop :=
  ∃ (k : Nat) (x : Int), k ≤ n ∧ i = .int .i64 (k : Int) ∧ a = .int .i64 x ∧ AtT 29 wr w.heap.size v0 v1 v2 (.slice A n c) ∧ Ext w wr

set_option maxRecDepth 100000 in
theorem few_any (lb sb rb : ByteArray) (xs : List ByteArray) (A : Option Addr) (n c : Nat) (w : World) (hA : Sl w A n (xs.map .string)) (hn : n ≤ maxLen) (z0 : lb.size ≤ maxLen) (z1 : sb.size ≤ maxLen) (z2 : rb.size ≤ maxLen) (hz : ∀ x ∈ xs, x.size ≤ maxLen) :
    Calls Tryd.prog 25 #[.agg #[.string lb, .string sb, .string rb, .slice A n c]] w (FewPost n w) := by
  unfold maxLen at hn z0 z1 z2
  have hl : xs.length = n := by have := hA.1; rwa [List.length_map] at this
  have AT := Lib.hid (AtT.new (T := 29) (v0 := .string lb) (v1 := .string sb) (v2 := .string rb) (v3 := .slice A n c) w)
  have HA := Lib.hid hA
  have HL := Lib.hid hl
  clear hA hl
  obtain ⟨a1, a2, a3, a4⟩ := AT.out.cells
  go_enter Tryd.func25, Tryd.ntmps25
  go_wp2_with fail
  go_loopw [3, 4] (FInv (.string lb) (.string sb) (.string rb) A n c w) (fun _ i _ => n - (intOf i).toNat)
  case atStart => exact ⟨0, _, Nat.zero_le _, rfl, rfl, AT.out, (Ext.refl w).alloc _⟩
  case round =>
    obtain ⟨k, x, hk, rfl, rfl, hat, hw⟩ := hrel
    have HAT := Lib.hid hat
    have HW := Lib.hid hw
    clear hat hw
    obtain ⟨a1, a2, a3, a4⟩ := HAT.out.cells
    by_cases hkn : k < n
    · obtain ⟨u, hu⟩ : ∃ u, xs[k]? = some u := ⟨_, List.getElem?_eq_getElem (by rw [HL.out]; exact hkn)⟩
      obtain ⟨ad, had, _, hcell⟩ := (HA.out.ext HW.out).2 k (.string u) (by rw [List.getElem?_map, hu]; rfl)
      subst had
      have hul := hz u (List.mem_of_getElem? hu)
      unfold maxLen at hul
      have HU := Lib.hid hu
      clear hu
      go_wp2_with fail
      exact ⟨⟨k + 1, _, by omega, by go_num, rfl, HAT.out, HW.out⟩, by simp [intOf]; omega⟩
    · have hkk : k = n := by omega
      subst hkk
      by_cases h2 : x ≤ 200
      · by_cases h8 : k ≤ 8
        · go_wp2
          go_ret
          exact ⟨true, by simp; omega, fun _ => h8, HW.out⟩
        · go_wp2
          go_ret
          exact ⟨false, by simp; omega, fun h => Bool.noConfusion h, HW.out⟩
      · go_wp2
        go_ret
        exact ⟨false, rfl, fun h => Bool.noConfusion h, HW.out⟩
end Go.Proofs.YtfcnhodokbnjnaaDoor
