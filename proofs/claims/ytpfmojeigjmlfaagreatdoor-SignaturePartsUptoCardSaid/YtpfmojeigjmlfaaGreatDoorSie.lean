import Derived.Test.YtpfmojeigjmlfaaGreatDoorSh
import Derived.Laws.StructEq
namespace Go.Proofs.YtpfmojeigjmlfaaGreatDoor
open Go.RowKit
set_option linter.unusedSimpArgs false
set_option linter.unusedVariables false

/-! Equal, by the reference. -/
set_option maxRecDepth 100000 in
theorem eq_arg (a b : ByteArray) (s t : Int) (w : World) : (Op.equalIn 10000 66 (.agg #[.string a, .int .i64 s]) (.agg #[.string b, .int .i64 t])).run Tryz.prog w = .ok (a.toList == b.toList && s == t) w := by
  have u3 := Tryz.underlying9
  have u4 := Tryz.underlying3
  have u5 := Tryz.underlying66
  have a3 := Tryz.isAgg9
  have z3 := Tryz.sizeOf9
  have a4 := Tryz.isAgg3
  have z4 := Tryz.sizeOf3
  rw [show (10000 : Nat) = 9999 + 1 from rfl, run_equalIn_agg w 9999 _ _ _ (by kernel_rfl) (by kernel_rfl)]
  go_simp
  by_cases h1 : a.toList = b.toList <;> by_cases h2 : s = t <;> simp [h1, h2]
def EqAgI (w : World) (a b : List Ag) (n : Nat) (i : Value) (wr : World) : Prop := ∃ k : Nat, k ≤ n ∧ i = .int .i64 k ∧ (a.take k).map agOf = (b.take k).map agOf ∧ Ext w wr
set_option maxHeartbeats 2000000 in
set_option maxRecDepth 100000 in
theorem requal28_any (a b : List Ag) (A B : Option Addr) (n m c d : Nat) (w : World) (hA : Ags w A n a) (hB : Ags w B m b) (hn : n ≤ maxLen) (hm : m ≤ maxLen) :
    Calls Tryz.prog 31 #[.slice A n c, .slice B m d] w fun e w' => e = .returned (.bool (a.map agOf == b.map agOf)) ∧ Ext w w' := by
  unfold maxLen at hn hm
  have HA := Lib.hid hA
  have HB := Lib.hid hB
  have HL1 := Lib.hid hA.len
  have HL2 := Lib.hid hB.len
  obtain ⟨R, hR⟩ : ∃ R, R = (a.map agOf == b.map agOf) := ⟨_, rfl⟩
  rw [← hR]
  have HR := Lib.hid hR
  clear hA hB hR
  by_cases hnm : n = m
  rotate_left
  · have hI : ((n : Int) == (m : Int)) = false := by simp; omega
    have HF := Lib.hid (show R = false from by
      rw [HR.out, beq_eq_false_iff_ne]
      intro h
      have h2 := congrArg List.length h
      rw [List.length_map, List.length_map, HL1.out, HL2.out] at h2
      exact hnm h2)
    clear hnm
    go_enter Tryz.func31, Tryz.ntmps31
    go_wp2
    go_ret
    exact ⟨ret_bool HF.out.symm, Ext.refl _⟩
  subst hnm
  go_enter Tryz.func31, Tryz.ntmps31
  go_wp2_with fail
  go_loopw [5] (EqAgI w a b n) (fun i _ => n - (intOf i).toNat)
  case atStart => exact ⟨0, Nat.zero_le _, rfl, by simp, Ext.refl _⟩
  case round =>
    obtain ⟨k, hk, rfl, hall, hw⟩ := hrel
    have HALL := Lib.hid hall
    have HW := Lib.hid hw
    clear hall hw
    by_cases hkn : k < n
    · obtain ⟨x, hx⟩ : ∃ x, a[k]? = some x := ⟨_, List.getElem?_eq_getElem (by have := HL1.out; omega)⟩
      obtain ⟨y, hy⟩ : ∃ y, b[k]? = some y := ⟨_, List.getElem?_eq_getElem (by have := HL2.out; omega)⟩
      obtain ⟨b1, o1, rfl, _, c0, c1⟩ := (HA.out.ext HW.out).at_ hx
      obtain ⟨b2, o2, rfl, _, d0, d1⟩ := (HB.out.ext HW.out).at_ hy
      have hkI : (k : Int) < (n : Int) := by omega
      have HX := Lib.hid hx
      have HY := Lib.hid hy
      have p0 : ∀ v : ExtW wr, v.v.cell? ⟨b1, o1 + k * 2, none⟩ = some (.string x.n) := fun v => (Ext.cell v.h (World.block_lt_of_cell? wr _ c0)).trans c0
      have p1 : ∀ v : ExtW wr, v.v.cell? ⟨b1, o1 + k * 2 + 1, none⟩ = some (.int .i64 x.t) := fun v => (Ext.cell v.h (World.block_lt_of_cell? wr _ c1)).trans c1
      have p2 : ∀ v : ExtW wr, v.v.cell? ⟨b2, o2 + k * 2, none⟩ = some (.string y.n) := fun v => (Ext.cell v.h (World.block_lt_of_cell? wr _ d0)).trans d0
      have p3 : ∀ v : ExtW wr, v.v.cell? ⟨b2, o2 + k * 2 + 1, none⟩ = some (.int .i64 y.t) := fun v => (Ext.cell v.h (World.block_lt_of_cell? wr _ d1)).trans d1
      clear hx hy c0 c1 d0 d1
      have g58 : Tryz.prog.eqGuardType Tryz.prog.depth 66 = false := by kernel_rfl
      cases hq : (x.n.toList == y.n.toList && x.t == y.t)
      · have e58 : ∀ W : World, (Op.equalIn 10000 66 (.agg #[.string x.n, .int .i64 x.t]) (.agg #[.string y.n, .int .i64 y.t])).run Tryz.prog W = .ok false W := fun W => by rw [eq_arg, hq]
        have HF := Lib.hid (show R = false from by
          rw [HR.out, beq_eq_false_iff_ne]
          intro h
          have h2 : (a.map agOf)[k]? = (b.map agOf)[k]? := by rw [h]
          rw [List.getElem?_map, List.getElem?_map, HX.out, HY.out] at h2
          injection h2 with h2
          unfold agOf at h2
          injection h2 with h3 h4
          rw [eq_b, h3, h4] at hq
          simp at hq)
        clear hq
        go_wp2_with fail
        refine wp_region_ext (by kernel_rfl) (by kernel_rfl) ?_
        repeat (go_big_quiet_step (fail))
        refine wpQuiet_nil ?_
        intro wx hwx
        have HXX := Lib.hid (HW.out.trans (ext_of28 hwx))
        clear hwx p0 p1 p2 p3 e58 g58
        go_wp2
        go_ret
        exact ⟨ret_bool HF.out.symm, HXX.out⟩
      · have e58 : ∀ W : World, (Op.equalIn 10000 66 (.agg #[.string x.n, .int .i64 x.t]) (.agg #[.string y.n, .int .i64 y.t])).run Tryz.prog W = .ok true W := fun W => by rw [eq_arg, hq]
        have HN := Lib.hid (show (a.take (k + 1)).map agOf = (b.take (k + 1)).map agOf from by
          rw [take_next HX.out, take_next HY.out, List.map_append, List.map_append, HALL.out]
          rw [Bool.and_eq_true, eq_b, beq_iff_eq, beq_iff_eq] at hq
          congr 1
          unfold agOf
          simp [hq.1, hq.2])
        clear hq
        go_wp2_with fail
        refine wp_region_ext (by kernel_rfl) (by kernel_rfl) ?_
        repeat (go_big_quiet_step (fail))
        refine wpQuiet_nil ?_
        intro wx hwx
        have HXX := Lib.hid (HW.out.trans (ext_of28 hwx))
        clear hwx p0 p1 p2 p3 e58 g58
        go_wp2
        exact ⟨⟨k + 1, by omega, by go_num, HN.out, HXX.out⟩, by simp [intOf]; omega⟩
    · have hkk : k = n := by omega
      subst hkk
      have HF := Lib.hid (show R = true from by
        have h := HALL.out
        rw [List.take_of_length_le (by rw [HL1.out]; exact Nat.le_refl _), List.take_of_length_le (by rw [HL2.out]; exact Nat.le_refl _)] at h
        rw [HR.out, h]; simp)
      go_wp2
      go_ret
      exact ⟨ret_bool HF.out.symm, HW.out⟩
end Go.Proofs.YtpfmojeigjmlfaaGreatDoor
