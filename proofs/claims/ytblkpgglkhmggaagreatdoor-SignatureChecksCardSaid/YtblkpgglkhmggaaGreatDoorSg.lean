import Derived.Test.YtblkpgglkhmggaaGreatDoorSf
import Derived.Test.YtblkpgglkhmggaaGreatDoorSc
import Derived.Test.YtblkpgglkhmggaaGreatDoorQTail
namespace Go.Proofs.YtblkpgglkhmggaaGreatDoor
open Go.RowKit
set_option linter.unusedSimpArgs false
set_option linter.unusedVariables false

/-! Valid signatures, by both sides. -/
def PreV (l : List Ag) (k : Nat) : Prop := (∀ j x, j < k → l[j]? = some x → argB (agOf x) = true) ∧ (∀ j x y, j + 1 < k → l[j]? = some x → l[j + 1]? = some y → (agOf x).1 < (agOf y).1)
theorem preV_zero (l : List Ag) : PreV l 0 := ⟨fun j x h _ => absurd h (Nat.not_lt_zero j), fun j x y h _ _ => by omega⟩
theorem preV_next {l : List Ag} {k : Nat} {x : Ag} (h : PreV l k) (hx : l[k]? = some x) (ha : argB (agOf x) = true) (hp : ∀ p, 0 < k → l[k - 1]? = some p → (agOf p).1 < (agOf x).1) : PreV l (k + 1) := by
  refine ⟨fun j y hj hy => ?_, fun j y z hj hy hz => ?_⟩
  · by_cases e : j = k
    · subst e; rw [hx] at hy; injection hy with hy; subst hy; exact ha
    · exact h.1 j y (by omega) hy
  · by_cases e : j + 1 = k
    · have e2 : j = k - 1 := by omega
      subst e
      rw [hx] at hz; injection hz with hz; subst hz
      exact hp y (by omega) (by simpa using hy)
    · exact h.2 j y z (by omega) hy hz
theorem adj_asc : ∀ {l : List ArgP}, (∀ (j : Nat) (x y : ArgP), l[j]? = some x → l[j + 1]? = some y → x.1 < y.1) → ascA l = true
  | [], _ => rfl
  | [x], _ => rfl
  | x :: y :: r, h => by
    unfold ascA
    rw [Bool.and_eq_true, decide_eq_true_eq]
    exact ⟨h 0 x y rfl rfl, adj_asc fun j u v hu hv => h (j + 1) u v (by simpa using hu) (by simpa using hv)⟩
theorem asc_adj {l : List ArgP} (h : ascA l = true) {j : Nat} {x y : ArgP} (hx : l[j]? = some x) (hy : l[j + 1]? = some y) : x.1 < y.1 := by
  have hp := asc_pair.1 h
  obtain ⟨h1, e1⟩ := List.getElem?_eq_some_iff.1 hx
  obtain ⟨h2, e2⟩ := List.getElem?_eq_some_iff.1 hy
  have := List.pairwise_iff_getElem.1 hp j (j + 1) h1 h2 (by omega)
  rw [e1, e2] at this
  exact this
theorem preV_end {l : List Ag} (h : PreV l l.length) : validA (l.map agOf) = decide (l.length ≤ 20) := by
  unfold validA
  have h1 : (l.map agOf).all argB = true := by
    rw [List.all_eq_true]
    intro y hy
    obtain ⟨x, hx, rfl⟩ := List.mem_map.1 hy
    obtain ⟨j, hj, rfl⟩ := List.getElem_of_mem hx
    exact h.1 j _ hj (List.getElem?_eq_getElem hj)
  have h2 : ascA (l.map agOf) = true := adj_asc fun j x y hx hy => by
    rw [List.getElem?_map] at hx hy
    cases e1 : l[j]? with
    | none => rw [e1] at hx; cases hx
    | some a =>
      cases e2 : l[j + 1]? with
      | none => rw [e2] at hy; cases hy
      | some b =>
        rw [e1] at hx; rw [e2] at hy
        injection hx with hx; injection hy with hy
        subst hx; subst hy
        exact h.2 j a b (List.getElem?_eq_some_iff.1 e2).1 e1 e2
  rw [h1, h2, List.length_map]
  rfl
theorem validA_bad {l : List Ag} {k : Nat} {x : Ag} (hx : l[k]? = some x) (ha : argB (agOf x) = false) : validA (l.map agOf) = false := by
  cases hv : validA (l.map agOf) with
  | false => rfl
  | true =>
    unfold validA at hv
    simp only [Bool.and_eq_true] at hv
    have := List.all_eq_true.1 hv.1.1 (agOf x) (List.mem_map.2 ⟨x, List.mem_of_getElem? hx, rfl⟩)
    rw [this] at ha; cases ha
theorem validA_down {l : List Ag} {k : Nat} {x p : Ag} (hx : l[k]? = some x) (h0 : 0 < k) (hp : l[k - 1]? = some p) (hn : ¬ (agOf p).1 < (agOf x).1) : validA (l.map agOf) = false := by
  cases hv : validA (l.map agOf) with
  | false => rfl
  | true =>
    unfold validA at hv
    simp only [Bool.and_eq_true] at hv
    exact absurd (asc_adj hv.1.2 (j := k - 1) (by rw [List.getElem?_map, hp]; rfl) (by rw [show k - 1 + 1 = k by omega, List.getElem?_map, hx]; rfl)) hn
def VInv (w : World) (l : List Ag) (n : Nat) (i : Value) (wr : World) : Prop := ∃ k : Nat, k ≤ n ∧ i = .int .i64 k ∧ PreV l k ∧ Ext w wr
theorem ext_of28 {W wx : World} (hx : ∃ x : ExtW W, wx = x.v) : Ext W wx := by obtain ⟨y, hy⟩ := hx; rw [hy]; exact y.h

set_option maxHeartbeats 4000000 in
set_option maxRecDepth 100000 in
theorem tvalid28_any (l : List Ag) (A : Option Addr) (n c : Nat) (w : World) (hA : Ags w A n l) (hn : n ≤ maxLen) (hz : ∀ x ∈ l, x.n.size ≤ maxLen) :
    Calls Tryz.prog 14 #[.slice A n c] w fun e w' => e = .returned (.bool (validA (l.map agOf))) ∧ Ext w w' := by
  unfold maxLen at hn
  have HA := Lib.hid hA
  have HL := Lib.hid hA.len
  have HZ := Lib.hid hz
  obtain ⟨R, hR⟩ : ∃ R, R = validA (l.map agOf) := ⟨_, rfl⟩
  rw [← hR]
  have HR := Lib.hid hR
  clear hA hz hR
  go_enter Tryz.func14, Tryz.ntmps14
  go_wp2_with fail
  go_loopw [7] (VInv w l n) (fun i _ => n - (intOf i).toNat)
  case atStart => exact ⟨0, Nat.zero_le _, rfl, preV_zero _, Ext.refl _⟩
  case round =>
    obtain ⟨k, hk, rfl, hpre, hw⟩ := hrel
    have HP := Lib.hid hpre
    have HW := Lib.hid hw
    clear hpre hw
    by_cases hkn : k < n
    · obtain ⟨x, hx⟩ : ∃ x, l[k]? = some x := ⟨_, List.getElem?_eq_getElem (by have := HL.out; omega)⟩
      obtain ⟨b, o, rfl, hb, c0, c1⟩ := (HA.out.ext HW.out).at_ hx
      have hkI : (k : Int) < (n : Int) := by omega
      have HX := Lib.hid hx
      have hzx := HZ.out x (List.mem_of_getElem? hx)
      have HB0 := (AtC.new wr #[.string x.n, .int .i64 x.t] : AtC 58 _ _ _)
      have b0 : ∀ y : ExtW (wr.alloc (.cells #[.string x.n, .int .i64 x.t] 58)), y.v.cell? ⟨wr.heap.size, 0, none⟩ = some (.string x.n) := fun y => (HB0.ext y.h).cell 0 _ rfl
      have b1 : ∀ y : ExtW (wr.alloc (.cells #[.string x.n, .int .i64 x.t] 58)), y.v.cell? ⟨wr.heap.size, 1, none⟩ = some (.int .i64 x.t) := fun y => (HB0.ext y.h).cell 1 _ rfl
      have g1 := fun (y : ExtW (wr.alloc (.cells #[.string x.n, .int .i64 x.t] 58))) => tname_any x.n y.v hzx
      have g2 := fun (y : ExtW (wr.alloc (.cells #[.string x.n, .int .i64 x.t] 58))) => known_any x.t y.v
      have hab : argB (agOf x) = (nameB x.n.data.toList && knownB x.t) := rfl
      generalize nameB x.n.data.toList = v1 at g1 hab
      generalize knownB x.t = v2 at g2 hab
      have G1 := Lib.hid g1
      have G2 := Lib.hid g2
      have HAB := Lib.hid hab
      clear hx HB0 hzx g1 g2 hab
      cases v1
      · have HF := Lib.hid (show R = false from by rw [HR.out]; exact validA_bad HX.out (by rw [HAB.out]; rfl))
        go_wp2_with fail
        refine wp_region_ext (by kernel_rfl) (by kernel_rfl) ?_
        repeat (go_big_quiet_step (first | (go_at_call 42; with_reducible exact ExtW.same (G1.out _)) | (go_at_call 43; with_reducible exact ExtW.same (G2.out _))))
        refine wpQuiet_nil ?_
        intro wx hwx
        have HXX := Lib.hid ((HW.out.alloc _).trans (ext_of28 hwx))
        clear hwx b0 b1
        go_wp2
        go_ret
        exact ⟨ret_bool HF.out.symm, HXX.out⟩
      cases v2
      · have HF := Lib.hid (show R = false from by rw [HR.out]; exact validA_bad HX.out (by rw [HAB.out]; rfl))
        go_wp2_with fail
        refine wp_region_ext (by kernel_rfl) (by kernel_rfl) ?_
        repeat (go_big_quiet_step (first | (go_at_call 42; with_reducible exact ExtW.same (G1.out _)) | (go_at_call 43; with_reducible exact ExtW.same (G2.out _))))
        refine wpQuiet_nil ?_
        intro wx hwx
        have HXX := Lib.hid ((HW.out.alloc _).trans (ext_of28 hwx))
        clear hwx b0 b1
        go_wp2
        go_ret
        exact ⟨ret_bool HF.out.symm, HXX.out⟩
      rcases Nat.eq_zero_or_pos k with h0 | h0
      · have h0J : ¬ (0 : Int) < (k : Int) := by omega
        have h0I : decide ((0 : Int) < (k : Int)) = false := by simp; omega
        have HN := Lib.hid (preV_next HP.out HX.out (by rw [HAB.out]; rfl) (fun p h => absurd h (by omega)))
        have h0M : decide (0 < k) = false := by simp; omega
        have h0N : ¬ 0 < k := by omega
        clear h0
        go_wp2_with fail
        refine wp_region_ext (by kernel_rfl) (by kernel_rfl) ?_
        repeat (go_big_quiet_step (first | (go_at_call 42; with_reducible exact ExtW.same (G1.out _)) | (go_at_call 43; with_reducible exact ExtW.same (G2.out _))))
        refine wpQuiet_nil ?_
        intro wx hwx
        have HXX := Lib.hid ((HW.out.alloc _).trans (ext_of28 hwx))
        clear hwx b0 b1
        go_wp2
        exact ⟨⟨k + 1, by omega, by go_num, HN.out, HXX.out⟩, by simp [intOf]; omega⟩
      obtain ⟨p, hp⟩ : ∃ p, l[k - 1]? = some p := ⟨_, List.getElem?_eq_getElem (by have := HL.out; omega)⟩
      obtain ⟨b', o', e1, _, d0, d1⟩ := (HA.out.ext HW.out).at_ hp
      injection e1 with e1
      injection e1 with e1 e2 _
      subst e1; subst e2
      have b2 : ∀ y : ExtW (wr.alloc (.cells #[.string x.n, .int .i64 x.t] 58)), y.v.cell? ⟨b, o + (k - 1) * 2, none⟩ = some (.string p.n) := fun y => (Ext.cell (((Ext.refl wr).alloc _).trans y.h) (World.block_lt_of_cell? wr _ d0)).trans d0
      have h0I : decide ((0 : Int) < (k : Int)) = true := by simpa using h0
      have h0J : (0 : Int) < (k : Int) := by omega
      have hI : ((k : Int) - 1).toNat = k - 1 := by omega
      have h1I : (1 : Int) ≤ (k : Int) := by omega
      have hltI : (k : Int) - 1 < (n : Int) := by omega
      have hz1I : (0 : Int) ≤ (k : Int) - 1 := by omega
      have hwr : IntKind.i64.wrap ((k : Int) - 1) = (k : Int) - 1 := IntWalk.i64_in _ (by omega)
      have hwr2 : wrap64 ((k : Int) - 1) = (k : Int) - 1 := IntWalk.wrap64_in _ (by omega)
      have HPP := Lib.hid hp
      clear hp d0 d1
      cases u1 : Op.bytesLess x.n.toList p.n.toList
      rotate_left
      · have HF := Lib.hid (show R = false from by rw [HR.out]; exact validA_down HX.out h0 HPP.out (by_asymm (show (agOf x).1 < (agOf p).1 from by rw [less_b] at u1; exact of_decide_eq_true u1)))
        go_wp2_with fail
        refine wp_region_ext (by kernel_rfl) (by kernel_rfl) ?_
        repeat (go_big_quiet_step (first | (go_at_call 42; with_reducible exact ExtW.same (G1.out _)) | (go_at_call 43; with_reducible exact ExtW.same (G2.out _))))
        refine wpQuiet_nil ?_
        intro wx hwx
        have HXX := Lib.hid ((HW.out.alloc _).trans (ext_of28 hwx))
        clear hwx b0 b1 b2 hI h1I hltI hz1I hwr hwr2 h0I h0J
        go_wp2
        go_ret
        exact ⟨ret_bool HF.out.symm, HXX.out⟩
      cases u2 : (x.n.toList == p.n.toList)
      rotate_left
      · have HF := Lib.hid (show R = false from by
          rw [HR.out]
          refine validA_down HX.out h0 HPP.out ?_
          have e : (agOf x).1 = (agOf p).1 := by rw [eq_b] at u2; exact eq_of_beq u2
          rw [e]; exact by_irr _)
        go_wp2_with fail
        refine wp_region_ext (by kernel_rfl) (by kernel_rfl) ?_
        repeat (go_big_quiet_step (first | (go_at_call 42; with_reducible exact ExtW.same (G1.out _)) | (go_at_call 43; with_reducible exact ExtW.same (G2.out _))))
        refine wpQuiet_nil ?_
        intro wx hwx
        have HXX := Lib.hid ((HW.out.alloc _).trans (ext_of28 hwx))
        clear hwx b0 b1 b2 hI h1I hltI hz1I hwr hwr2 h0I h0J
        go_wp2
        go_ret
        exact ⟨ret_bool HF.out.symm, HXX.out⟩
      · have HN := Lib.hid (preV_next HP.out HX.out (by rw [HAB.out]; rfl) (fun q _ hq => by
          rw [HPP.out] at hq; injection hq with hq; subst hq
          rcases by_tri (agOf p).1 (agOf x).1 with h | h | h
          · exact h
          · rw [eq_b] at u2
            have h2 : (agOf x).1 ≠ (agOf p).1 := ne_of_beq_false u2
            exact absurd h.symm h2
          · rw [less_b] at u1
            exact absurd h (of_decide_eq_false u1)))
        go_wp2_with fail
        refine wp_region_ext (by kernel_rfl) (by kernel_rfl) ?_
        repeat (go_big_quiet_step (first | (go_at_call 42; with_reducible exact ExtW.same (G1.out _)) | (go_at_call 43; with_reducible exact ExtW.same (G2.out _))))
        refine wpQuiet_nil ?_
        intro wx hwx
        have HXX := Lib.hid ((HW.out.alloc _).trans (ext_of28 hwx))
        clear hwx b0 b1 b2 hI h1I hltI hz1I hwr hwr2 h0I h0J
        go_wp2
        exact ⟨⟨k + 1, by omega, by go_num, HN.out, HXX.out⟩, by simp [intOf]; omega⟩
    · have hkk : k = n := by omega
      subst hkk
      have HF := Lib.hid (show R = decide (k ≤ 20) from by
        have h := HP.out
        rw [← HL.out] at h ⊢
        rw [HR.out]; exact preV_end h)
      by_cases t1 : k ≤ 20
      · have u1 : (k : Int) ≤ 20 := by omega
        go_wp2
        go_ret
        exact ⟨ret_bool (by rw [HF.out]; simpa using t1), HW.out⟩
      · have u1 : ¬ (k : Int) ≤ 20 := by omega
        go_wp2
        go_ret
        exact ⟨ret_bool (by rw [HF.out]; simpa using t1), HW.out⟩
set_option maxHeartbeats 4000000 in
set_option maxRecDepth 100000 in
theorem rvalid28_any (l : List Ag) (A : Option Addr) (n c : Nat) (w : World) (hA : Ags w A n l) (hn : n ≤ maxLen) (hz : ∀ x ∈ l, x.n.size ≤ maxLen) :
    Calls Tryz.prog 15 #[.slice A n c] w fun e w' => e = .returned (.bool (validA (l.map agOf))) ∧ Ext w w' := by
  unfold maxLen at hn
  have HA := Lib.hid hA
  have HL := Lib.hid hA.len
  have HZ := Lib.hid hz
  obtain ⟨R, hR⟩ : ∃ R, R = validA (l.map agOf) := ⟨_, rfl⟩
  rw [← hR]
  have HR := Lib.hid hR
  clear hA hz hR
  go_enter Tryz.func15, Tryz.ntmps15
  go_wp2_with fail
  go_loopw [3] (VInv w l n) (fun i _ => n - (intOf i).toNat)
  case atStart => exact ⟨0, Nat.zero_le _, rfl, preV_zero _, Ext.refl _⟩
  case round =>
    obtain ⟨k, hk, rfl, hpre, hw⟩ := hrel
    have HP := Lib.hid hpre
    have HW := Lib.hid hw
    clear hpre hw
    by_cases hkn : k < n
    · obtain ⟨x, hx⟩ : ∃ x, l[k]? = some x := ⟨_, List.getElem?_eq_getElem (by have := HL.out; omega)⟩
      obtain ⟨b, o, rfl, hb, c0, c1⟩ := (HA.out.ext HW.out).at_ hx
      have hkI : (k : Int) < (n : Int) := by omega
      have HX := Lib.hid hx
      have hzx := HZ.out x (List.mem_of_getElem? hx)
      have b0 : ∀ y : ExtW wr, y.v.cell? ⟨b, o + k * 2, none⟩ = some (.string x.n) := fun y => (Ext.cell y.h (World.block_lt_of_cell? wr _ c0)).trans c0
      have b1 : ∀ y : ExtW wr, y.v.cell? ⟨b, o + k * 2 + 1, none⟩ = some (.int .i64 x.t) := fun y => (Ext.cell y.h (World.block_lt_of_cell? wr _ c1)).trans c1
      have g1 := fun (y : ExtW wr) => rname_any x.n y.v hzx
      have g2 := fun (y : ExtW wr) => rknown_any x.t y.v
      have hab : argB (agOf x) = (nameB x.n.data.toList && knownB x.t) := rfl
      generalize nameB x.n.data.toList = v1 at g1 hab
      generalize knownB x.t = v2 at g2 hab
      have G1 := Lib.hid g1
      have G2 := Lib.hid g2
      have HAB := Lib.hid hab
      clear hx hzx g1 g2 hab
      cases v1
      · have HF := Lib.hid (show R = false from by rw [HR.out]; exact validA_bad HX.out (by rw [HAB.out]; rfl))
        go_wp2_with fail
        refine wp_region_ext (by kernel_rfl) (by kernel_rfl) ?_
        repeat (go_big_quiet_step (first | (go_at_call 44; with_reducible exact ExtW.same (G1.out _)) | (go_at_call 45; with_reducible exact ExtW.same (G2.out _))))
        refine wpQuiet_nil ?_
        intro wx hwx
        have HXX := Lib.hid (HW.out.trans (ext_of28 hwx))
        clear hwx b0 b1
        go_wp2
        go_ret
        exact ⟨ret_bool HF.out.symm, HXX.out⟩
      cases v2
      · have HF := Lib.hid (show R = false from by rw [HR.out]; exact validA_bad HX.out (by rw [HAB.out]; rfl))
        go_wp2_with fail
        refine wp_region_ext (by kernel_rfl) (by kernel_rfl) ?_
        repeat (go_big_quiet_step (first | (go_at_call 44; with_reducible exact ExtW.same (G1.out _)) | (go_at_call 45; with_reducible exact ExtW.same (G2.out _))))
        refine wpQuiet_nil ?_
        intro wx hwx
        have HXX := Lib.hid (HW.out.trans (ext_of28 hwx))
        clear hwx b0 b1
        go_wp2
        go_ret
        exact ⟨ret_bool HF.out.symm, HXX.out⟩
      rcases Nat.eq_zero_or_pos k with h0 | h0
      · have h0J : ¬ (0 : Int) < (k : Int) := by omega
        have h0I : decide ((0 : Int) < (k : Int)) = false := by simp; omega
        have HN := Lib.hid (preV_next HP.out HX.out (by rw [HAB.out]; rfl) (fun p h => absurd h (by omega)))
        have h0M : decide (0 < k) = false := by simp; omega
        have h0N : ¬ 0 < k := by omega
        clear h0
        go_wp2_with fail
        refine wp_region_ext (by kernel_rfl) (by kernel_rfl) ?_
        repeat (go_big_quiet_step (first | (go_at_call 44; with_reducible exact ExtW.same (G1.out _)) | (go_at_call 45; with_reducible exact ExtW.same (G2.out _))))
        refine wpQuiet_nil ?_
        intro wx hwx
        have HXX := Lib.hid (HW.out.trans (ext_of28 hwx))
        clear hwx b0 b1
        go_wp2
        exact ⟨⟨k + 1, by omega, by go_num, HN.out, HXX.out⟩, by simp [intOf]; omega⟩
      obtain ⟨p, hp⟩ : ∃ p, l[k - 1]? = some p := ⟨_, List.getElem?_eq_getElem (by have := HL.out; omega)⟩
      obtain ⟨b', o', e1, _, d0, d1⟩ := (HA.out.ext HW.out).at_ hp
      injection e1 with e1
      injection e1 with e1 e2 _
      subst e1; subst e2
      have b2 : ∀ y : ExtW wr, y.v.cell? ⟨b, o + (k - 1) * 2, none⟩ = some (.string p.n) := fun y => (Ext.cell (y.h) (World.block_lt_of_cell? wr _ d0)).trans d0
      have h0I : decide ((0 : Int) < (k : Int)) = true := by simpa using h0
      have h0J : (0 : Int) < (k : Int) := by omega
      have hI : ((k : Int) - 1).toNat = k - 1 := by omega
      have h1I : (1 : Int) ≤ (k : Int) := by omega
      have hltI : (k : Int) - 1 < (n : Int) := by omega
      have hz1I : (0 : Int) ≤ (k : Int) - 1 := by omega
      have hwr : IntKind.i64.wrap ((k : Int) - 1) = (k : Int) - 1 := IntWalk.i64_in _ (by omega)
      have hwr2 : wrap64 ((k : Int) - 1) = (k : Int) - 1 := IntWalk.wrap64_in _ (by omega)
      have HPP := Lib.hid hp
      clear hp d0 d1
      cases u1 : Op.bytesLess x.n.toList p.n.toList
      rotate_left
      · have HF := Lib.hid (show R = false from by rw [HR.out]; exact validA_down HX.out h0 HPP.out (by_asymm (show (agOf x).1 < (agOf p).1 from by rw [less_b] at u1; exact of_decide_eq_true u1)))
        go_wp2_with fail
        refine wp_region_ext (by kernel_rfl) (by kernel_rfl) ?_
        repeat (go_big_quiet_step (first | (go_at_call 44; with_reducible exact ExtW.same (G1.out _)) | (go_at_call 45; with_reducible exact ExtW.same (G2.out _))))
        refine wpQuiet_nil ?_
        intro wx hwx
        have HXX := Lib.hid (HW.out.trans (ext_of28 hwx))
        clear hwx b0 b1 b2 hI h1I hltI hz1I hwr hwr2 h0I h0J
        go_wp2
        go_ret
        exact ⟨ret_bool HF.out.symm, HXX.out⟩
      cases u2 : (x.n.toList == p.n.toList)
      rotate_left
      · have HF := Lib.hid (show R = false from by
          rw [HR.out]
          refine validA_down HX.out h0 HPP.out ?_
          have e : (agOf x).1 = (agOf p).1 := by rw [eq_b] at u2; exact eq_of_beq u2
          rw [e]; exact by_irr _)
        go_wp2_with fail
        refine wp_region_ext (by kernel_rfl) (by kernel_rfl) ?_
        repeat (go_big_quiet_step (first | (go_at_call 44; with_reducible exact ExtW.same (G1.out _)) | (go_at_call 45; with_reducible exact ExtW.same (G2.out _))))
        refine wpQuiet_nil ?_
        intro wx hwx
        have HXX := Lib.hid (HW.out.trans (ext_of28 hwx))
        clear hwx b0 b1 b2 hI h1I hltI hz1I hwr hwr2 h0I h0J
        go_wp2
        go_ret
        exact ⟨ret_bool HF.out.symm, HXX.out⟩
      · have HN := Lib.hid (preV_next HP.out HX.out (by rw [HAB.out]; rfl) (fun q _ hq => by
          rw [HPP.out] at hq; injection hq with hq; subst hq
          rcases by_tri (agOf p).1 (agOf x).1 with h | h | h
          · exact h
          · rw [eq_b] at u2
            have h2 : (agOf x).1 ≠ (agOf p).1 := ne_of_beq_false u2
            exact absurd h.symm h2
          · rw [less_b] at u1
            exact absurd h (of_decide_eq_false u1)))
        go_wp2_with fail
        refine wp_region_ext (by kernel_rfl) (by kernel_rfl) ?_
        repeat (go_big_quiet_step (first | (go_at_call 44; with_reducible exact ExtW.same (G1.out _)) | (go_at_call 45; with_reducible exact ExtW.same (G2.out _))))
        refine wpQuiet_nil ?_
        intro wx hwx
        have HXX := Lib.hid (HW.out.trans (ext_of28 hwx))
        clear hwx b0 b1 b2 hI h1I hltI hz1I hwr hwr2 h0I h0J
        go_wp2
        exact ⟨⟨k + 1, by omega, by go_num, HN.out, HXX.out⟩, by simp [intOf]; omega⟩
    · have hkk : k = n := by omega
      subst hkk
      have HF := Lib.hid (show R = decide (k ≤ 20) from by
        have h := HP.out
        rw [← HL.out] at h ⊢
        rw [HR.out]; exact preV_end h)
      by_cases t1 : k ≤ 20
      · have u1 : (k : Int) ≤ 20 := by omega
        go_wp2
        go_ret
        exact ⟨ret_bool (by rw [HF.out]; simpa using t1), HW.out⟩
      · have u1 : ¬ (k : Int) ≤ 20 := by omega
        go_wp2
        go_ret
        exact ⟨ret_bool (by rw [HF.out]; simpa using t1), HW.out⟩
end Go.Proofs.YtblkpgglkhmggaaGreatDoor
