import Derived.Test.YtpfmojeigjmlfaaGreatDoorNP4
import Derived.Test.YtpfmojeigjmlfaaGreatDoorNB1
import Derived.Test.YtpfmojeigjmlfaaGreatDoorNP5
namespace Go.Proofs.YtpfmojeigjmlfaaGreatDoor
open Go.RowKit
set_option linter.unusedSimpArgs false
set_option linter.unusedVariables false

/-! Valid signatures, by both sides. -/
def PreV (l : List Ag) (k : Nat) : Prop := (∀ j x, j < k → l[j]? = some x → argB (agOf x) = true) ∧ (∀ j x y, j + 1 < k → l[j]? = some x → l[j + 1]? = some y → (agOf x).1 < (agOf y).1)
theorem preV_zero (l : List Ag) : PreV l 0 := ⟨fun j x h _ => absurd h (Nat.not_lt_zero j), fun j x y h _ _ => by omega⟩
theorem preV_next {l : List Ag} {k : Nat} {x : Ag} (h : PreV l k) (hx : l[k]? = some x) (ha : argB (agOf x) = true) (hp : ∀ p, 0 < k → l[k - 1]? = some p → (agOf p).1 < (agOf x).1) : PreV l (k + 1) := by
  refine ⟨fun j y hj hy => ?_, fun j y z hj hy hz => ?_⟩
  · by_cases e : j = k
    · subst e; rw [hx] at hy; injection hy with hy; subst hy; exact ha
    · exact h.1 j y (by omega) hy
  · by_cases e : j + 1 = k
    · have e2 : j = k - 1 := by omega
      subst e
      rw [hx] at hz; injection hz with hz; subst hz
      exact hp y (by omega) (by simpa using hy)
    · exact h.2 j y z (by omega) hy hz
theorem adj_asc : ∀ {l : List ArgP}, (∀ (j : Nat) (x y : ArgP), l[j]? = some x → l[j + 1]? = some y → x.1 < y.1) → ascA l = true
  | [], _ => rfl
  | [x], _ => rfl
  | x :: y :: r, h => by
    unfold ascA
    rw [Bool.and_eq_true, decide_eq_true_eq]
    exact ⟨h 0 x y rfl rfl, adj_asc fun j u v hu hv => h (j + 1) u v (by simpa using hu) (by simpa using hv)⟩
theorem asc_adj {l : List ArgP} (h : ascA l = true) {j : Nat} {x y : ArgP} (hx : l[j]? = some x) (hy : l[j + 1]? = some y) : x.1 < y.1 := by
  have hp := asc_pair.1 h
  obtain ⟨h1, e1⟩ := List.getElem?_eq_some_iff.1 hx
  obtain ⟨h2, e2⟩ := List.getElem?_eq_some_iff.1 hy
  have := List.pairwise_iff_getElem.1 hp j (j + 1) h1 h2 (by omega)
  rw [e1, e2] at this
  exact this
theorem preV_end {l : List Ag} (h : PreV l l.length) : validA (l.map agOf) = decide (l.length ≤ 20) := by
  unfold validA
  have h1 : (l.map agOf).all argB = true := by
    rw [List.all_eq_true]
    intro y hy
    obtain ⟨x, hx, rfl⟩ := List.mem_map.1 hy
    obtain ⟨j, hj, rfl⟩ := List.getElem_of_mem hx
    exact h.1 j _ hj (List.getElem?_eq_getElem hj)
  have h2 : ascA (l.map agOf) = true := adj_asc fun j x y hx hy => by
    rw [List.getElem?_map] at hx hy
    cases e1 : l[j]? with
    | none => rw [e1] at hx; cases hx
    | some a =>
      cases e2 : l[j + 1]? with
      | none => rw [e2] at hy; cases hy
      | some b =>
        rw [e1] at hx; rw [e2] at hy
        injection hx with hx; injection hy with hy
        subst hx; subst hy
        exact h.2 j a b (List.getElem?_eq_some_iff.1 e2).1 e1 e2
  rw [h1, h2, List.length_map]
  rfl
theorem validA_bad {l : List Ag} {k : Nat} {x : Ag} (hx : l[k]? = some x) (ha : argB (agOf x) = false) : validA (l.map agOf) = false := by
  cases hv : validA (l.map agOf) with
  | false => rfl
  | true =>
    unfold validA at hv
    simp only [Bool.and_eq_true] at hv
    have := List.all_eq_true.1 hv.1.1 (agOf x) (List.mem_map.2 ⟨x, List.mem_of_getElem? hx, rfl⟩)
    rw [this] at ha; cases ha
theorem validA_down {l : List Ag} {k : Nat} {x p : Ag} (hx : l[k]? = some x) (h0 : 0 < k) (hp : l[k - 1]? = some p) (hn : ¬ (agOf p).1 < (agOf x).1) : validA (l.map agOf) = false := by
  cases hv : validA (l.map agOf) with
  | false => rfl
  | true =>
    unfold validA at hv
    simp only [Bool.and_eq_true] at hv
    exact absurd (asc_adj hv.1.2 (j := k - 1) (by rw [List.getElem?_map, hp]; rfl) (by rw [show k - 1 + 1 = k by omega, List.getElem?_map, hx]; rfl)) hn
def VInv (w : World) (l : List Ag) (n : Nat) (i : Value) (wr : World) : Prop := ∃ k : Nat, k ≤ n ∧ i = .int .i64 k ∧ PreV l k ∧ Ext w wr
theorem ext_of28 {W wx : World} (hx : ∃ x : ExtW W, wx = x.v) : Ext W wx := by obtain ⟨y, hy⟩ := hx; rw [hy]; exact y.h

set_option maxHeartbeats 4000000 in
set_option maxRecDepth 100000 in
theorem tvalid28_any (l : List Ag) (A : Option Addr) (n c : Nat) (w : World) (hA : Ags w A n l) (hn : n ≤ maxLen) (hz : ∀ x ∈ l, x.n.size ≤ maxLen) :
    Calls Tryz.prog 32 #[.slice A n c] w fun e w' => e = .returned (.bool (validA (l.map agOf))) ∧ Ext w w' := by
  unfold maxLen at hn
  have HA := Lib.hid hA
  have HL := Lib.hid hA.len
  have HZ := Lib.hid hz
  obtain ⟨R, hR⟩ : ∃ R, R = validA (l.map agOf) := ⟨_, rfl⟩
  rw [← hR]
  have HR := Lib.hid hR
  clear hA hz hR
  go_enter Tryz.func32, Tryz.ntmps32
  go_wp2_with fail
  go_loopw [7] (VInv w l n) (fun i _ => n - (intOf i).toNat)
  case atStart => exact ⟨0, Nat.zero_le _, rfl, preV_zero _, Ext.refl _⟩
  case round =>
    obtain ⟨k, hk, rfl, hpre, hw⟩ := hrel
    have HP := Lib.hid hpre
    have HW := Lib.hid hw
    clear hpre hw
    by_cases hkn : k < n
    · obtain ⟨x, hx⟩ : ∃ x, l[k]? = some x := ⟨_, List.getElem?_eq_getElem (by have := HL.out; omega)⟩
      obtain ⟨b, o, rfl, hb, c0, c1⟩ := (HA.out.ext HW.out).at_ hx
      have hkI : (k : Int) < (n : Int) := by omega
      have HX := Lib.hid hx
      have hzx := HZ.out x (List.mem_of_getElem? hx)
      have HB0 := (AtC.new wr #[.string x.n, .int .i64 x.t] : AtC 66 _ _ _)
      have b0 : ∀ y : ExtW (wr.alloc (.cells #[.string x.n, .int .i64 x.t] 66)), y.v.cell? ⟨wr.heap.size, 0, none⟩ = some (.string x.n) := fun y => (HB0.ext y.h).cell 0 _ rfl
      have b1 : ∀ y : ExtW (wr.alloc (.cells #[.string x.n, .int .i64 x.t] 66)), y.v.cell? ⟨wr.heap.size, 1, none⟩ = some (.int .i64 x.t) := fun y => (HB0.ext y.h).cell 1 _ rfl
      have g1 := fun (y : ExtW (wr.alloc (.cells #[.string x.n, .int .i64 x.t] 66))) => tname_any x.n y.v hzx
      have g2 := fun (y : ExtW (wr.alloc (.cells #[.string x.n, .int .i64 x.t] 66))) => known28_any x.t y.v
      have hab : argB (agOf x) = (nameB x.n.data.toList && knownB x.t) := rfl
      generalize nameB x.n.data.toList = v1 at g1 hab
      generalize knownB x.t = v2 at g2 hab
      have G1 := Lib.hid g1
      have G2 := Lib.hid g2
      have HAB := Lib.hid hab
      clear hx HB0 hzx g1 g2 hab
      cases v1
      · have HF := Lib.hid (show R = false from by rw [HR.out]; exact validA_bad HX.out (by rw [HAB.out]; rfl))
        go_wp2_with fail
        refine wp_region_ext (by kernel_rfl) (by kernel_rfl) ?_
        repeat (go_big_quiet_step (first | (go_at_call 57; with_reducible exact ExtW.same (G1.out _)) | (go_at_call 58; with_reducible exact ExtW.same (G2.out _))))
        refine wpQuiet_nil ?_
        intro wx hwx
        have HXX := Lib.hid ((HW.out.alloc _).trans (ext_of28 hwx))
        clear hwx b0 b1
        go_wp2
        go_ret
        exact ⟨ret_bool HF.out.symm, HXX.out⟩
      cases v2
      · have HF := Lib.hid (show R = false from by rw [HR.out]; exact validA_bad HX.out (by rw [HAB.out]; rfl))
        go_wp2_with fail
        refine wp_region_ext (by kernel_rfl) (by kernel_rfl) ?_
        repeat (go_big_quiet_step (first | (go_at_call 57; with_reducible exact ExtW.same (G1.out _)) | (go_at_call 58; with_reducible exact ExtW.same (G2.out _))))
        refine wpQuiet_nil ?_
        intro wx hwx
        have HXX := Lib.hid ((HW.out.alloc _).trans (ext_of28 hwx))
        clear hwx b0 b1
        go_wp2
        go_ret
        exact ⟨ret_bool HF.out.symm, HXX.out⟩
      rcases Nat.eq_zero_or_pos k with h0 | h0
      · have h0J : ¬ (0 : Int) < (k : Int) := by omega
        have h0I : decide ((0 : Int) < (k : Int)) = false := by simp; omega
        have HN := Lib.hid (preV_next HP.out HX.out (by rw [HAB.out]; rfl) (fun p h => absurd h (by omega)))
        have h0M : decide (0 < k) = false := by simp; omega
        have h0N : ¬ 0 < k := by omega
        clear h0
        go_wp2_with fail
        refine wp_region_ext (by kernel_rfl) (by kernel_rfl) ?_
        repeat (go_big_quiet_step (first | (go_at_call 57; with_reducible exact ExtW.same (G1.out _)) | (go_at_call 58; with_reducible exact ExtW.same (G2.out _))))
        refine wpQuiet_nil ?_
        intro wx hwx
        have HXX := Lib.hid ((HW.out.alloc _).trans (ext_of28 hwx))
        clear hwx b0 b1
        go_wp2
        exact ⟨⟨k + 1, by omega, by go_num, HN.out, HXX.out⟩, by simp [intOf]; omega⟩
      obtain ⟨p, hp⟩ : ∃ p, l[k - 1]? = some p := ⟨_, List.getElem?_eq_getElem (by have := HL.out; omega)⟩
      obtain ⟨b', o', e1, _, d0, d1⟩ := (HA.out.ext HW.out).at_ hp
      injection e1 with e1
      injection e1 with e1 e2 _
      subst e1; subst e2
      have b2 : ∀ y : ExtW (wr.alloc (.cells #[.string x.n, .int .i64 x.t] 66)), y.v.cell? ⟨b, o + (k - 1) * 2, none⟩ = some (.string p.n) := fun y => (Ext.cell (((Ext.refl wr).alloc _).trans y.h) (World.block_lt_of_cell? wr _ d0)).trans d0
      have h0I : decide ((0 : Int) < (k : Int)) = true := by simpa using h0
      have h0J : (0 : Int) < (k : Int) := by omega
      have hI : ((k : Int) - 1).toNat = k - 1 := by omega
      have h1I : (1 : Int) ≤ (k : Int) := by omega
      have hltI : (k : Int) - 1 < (n : Int) := by omega
      have hz1I : (0 : Int) ≤ (k : Int) - 1 := by omega
      have hwr : IntKind.i64.wrap ((k : Int) - 1) = (k : Int) - 1 := IntWalk.i64_in _ (by omega)
      have hwr2 : wrap64 ((k : Int) - 1) = (k : Int) - 1 := IntWalk.wrap64_in _ (by omega)
      have HPP := Lib.hid hp
      clear hp d0 d1
      cases u1 : Op.bytesLess x.n.toList p.n.toList
      rotate_left
      · have HF := Lib.hid (show R = false from by rw [HR.out]; exact validA_down HX.out h0 HPP.out (by_asymm (show (agOf x).1 < (agOf p).1 from by rw [less_b] at u1; exact of_decide_eq_true u1)))
        go_wp2_with fail
        refine wp_region_ext (by kernel_rfl) (by kernel_rfl) ?_
        repeat (go_big_quiet_step (first | (go_at_call 57; with_reducible exact ExtW.same (G1.out _)) | (go_at_call 58; with_reducible exact ExtW.same (G2.out _))))
        refine wpQuiet_nil ?_
        intro wx hwx
        have HXX := Lib.hid ((HW.out.alloc _).trans (ext_of28 hwx))
        clear hwx b0 b1 b2 hI h1I hltI hz1I hwr hwr2 h0I h0J
        go_wp2
        go_ret
        exact ⟨ret_bool HF.out.symm, HXX.out⟩
      cases u2 : (x.n.toList == p.n.toList)
      rotate_left
      · have HF := Lib.hid (show R = false from by
          rw [HR.out]
          refine validA_down HX.out h0 HPP.out ?_
          have e : (agOf x).1 = (agOf p).1 := by rw [eq_b] at u2; exact eq_of_beq u2
          rw [e]; exact by_irr _)
        go_wp2_with fail
        refine wp_region_ext (by kernel_rfl) (by kernel_rfl) ?_
        repeat (go_big_quiet_step (first | (go_at_call 57; with_reducible exact ExtW.same (G1.out _)) | (go_at_call 58; with_reducible exact ExtW.same (G2.out _))))
        refine wpQuiet_nil ?_
        intro wx hwx
        have HXX := Lib.hid ((HW.out.alloc _).trans (ext_of28 hwx))
        clear hwx b0 b1 b2 hI h1I hltI hz1I hwr hwr2 h0I h0J
        go_wp2
        go_ret
        exact ⟨ret_bool HF.out.symm, HXX.out⟩
      · have HN := Lib.hid (preV_next HP.out HX.out (by rw [HAB.out]; rfl) (fun q _ hq => by
          rw [HPP.out] at hq; injection hq with hq; subst hq
          rcases by_tri (agOf p).1 (agOf x).1 with h | h | h
          · exact h
          · rw [eq_b] at u2
            have h2 : (agOf x).1 ≠ (agOf p).1 := ne_of_beq_false u2
            exact absurd h.symm h2
          · rw [less_b] at u1
            exact absurd h (of_decide_eq_false u1)))
        go_wp2_with fail
        refine wp_region_ext (by kernel_rfl) (by kernel_rfl) ?_
        repeat (go_big_quiet_step (first | (go_at_call 57; with_reducible exact ExtW.same (G1.out _)) | (go_at_call 58; with_reducible exact ExtW.same (G2.out _))))
        refine wpQuiet_nil ?_
        intro wx hwx
        have HXX := Lib.hid ((HW.out.alloc _).trans (ext_of28 hwx))
        clear hwx b0 b1 b2 hI h1I hltI hz1I hwr hwr2 h0I h0J
        go_wp2
        exact ⟨⟨k + 1, by omega, by go_num, HN.out, HXX.out⟩, by simp [intOf]; omega⟩
    · have hkk : k = n := by omega
      subst hkk
      have HF := Lib.hid (show R = decide (k ≤ 20) from by
        have h := HP.out
        rw [← HL.out] at h ⊢
        rw [HR.out]; exact preV_end h)
      by_cases t1 : k ≤ 20
      · have u1 : (k : Int) ≤ 20 := by omega
        go_wp2
        go_ret
        exact ⟨ret_bool (by rw [HF.out]; simpa using t1), HW.out⟩
      · have u1 : ¬ (k : Int) ≤ 20 := by omega
        go_wp2
        go_ret
        exact ⟨ret_bool (by rw [HF.out]; simpa using t1), HW.out⟩
end Go.Proofs.YtpfmojeigjmlfaaGreatDoor
namespace Go.Proofs.YtpfmojeigjmlfaaGreatDoor
open Go.RowKit Go.Maps Go.Sort
set_option linter.unusedSimpArgs false
set_option linter.unusedVariables false

/-! Merge, by the program. -/
theorem TabW.ext {w w' : World} {g mb n : Nat} {T : TabP} (h : TabW w g mb n T) (hw : Ext w w') : TabW w' g mb n T := ⟨h.at_.ext hw, h.map.ext hw, h.ne⟩
theorem wpList_lenI {P : Program} {w : World} {ops : Array Oper} {rest : List Oper} {o : Oper} {a : Act} {Q : Exit → Act → World → Prop} (hg : o.guard = none) (m : Operand) (t : TypeId) (hop : o.op = Op.call { callee := Callee.builtin Builtin.len, args := #[m], argTypes := #[t] })
    (k e : TypeId) (hk : P.underlying k = some .string) (ht : P.underlying t = some (.map k e)) (b n : Nat) (l L : List ArgP) (hm : a.eval m = .map (some b)) (h : MapI P k e w b n l) (ha : L.Pairwise fun x y => x.1 < y.1) (hl : ∀ x, getA l x = getA L x)
    (hK : wpList P ops Q rest (a.put o.dst (.int .i64 (L.length : Int))) w) : wpList P ops Q (o :: rest) a w := by
  obtain ⟨D, hown, _, hnd, hlen, hmem⟩ := h.keys hk
  have e1 := names_len ha hnd (fun x => by rw [hmem, hl])
  rw [hlen] at e1
  refine wpList_len_own w hg m t hop k e ht _ b n D hm hown ?_
  rw [e1]
  exact hK
theorem ext_exc {S : Nat → Prop} {w w5 wr : World} (h : Ext w w5) (k : Exc S w5 wr) (hS : ∀ j, S j → w.heap.size ≤ j) : Ext w wr := Below.trans h (k.below hS (Ext.size h))
theorem name_len {s : By} (h : nameB s = true) : s.length ≤ 40 := by
  unfold nameB at h
  simp only [Bool.and_eq_true, decide_eq_true_eq] at h
  exact h.1.1.2
def MgI (w5 : World) (g mb N : Nat) (L : List ArgP) (i : Value) (wr : World) : Prop := ∃ k : Nat, k ≤ N ∧ i = .int .i64 k ∧ TabW wr g mb k ((L.take k).foldl addT ⟨[], false⟩) ∧ Exc (two g mb) w5 wr
def RetMg (w : World) (M : List ArgP × Int) (e : Ending) (w' : World) : Prop := ∃ A n c, e = .returned (.tuple #[.slice A n c, .int .i64 M.2]) ∧ Ags w' A n (M.1.map agP) ∧ Ext w w'
theorem retMg_nil {w w' : World} {M : List ArgP × Int} {c : Int} (h : M = ([], c)) (hw : Ext w w') : RetMg w M (.returned (.tuple #[.slice none 0 0, .int .i64 c])) w' := by
  subst h
  exact ⟨none, 0, 0, rfl, SlN.nil _ _ _, hw⟩
set_option maxHeartbeats 4000000 in
set_option maxRecDepth 100000 in
theorem tmerge_any (a b : List Ag) (A B : Option Addr) (n m c d : Nat) (w : World) (hA : Ags w A n a) (hB : Ags w B m b) (hn : n ≤ maxLen) (hm : m ≤ maxLen) (hza : ∀ x ∈ a, x.n.size ≤ maxLen ∧ (Lit.int .i64 x.t).wf = true) (hzb : ∀ x ∈ b, x.n.size ≤ maxLen ∧ (Lit.int .i64 x.t).wf = true) :
    Calls Tryz.prog 33 #[.slice A n c, .slice B m d] w (RetMg w (mergeA (a.map agOf) (b.map agOf))) := by
  have HA := Lib.hid hA
  have HB := Lib.hid hB
  have HL1 := Lib.hid hA.len
  have HL2 := Lib.hid hB.len
  have K1 := fun W (h : Ext w W) => tvalid28_any a A n c W (HA.out.ext h) hn (fun x hx => (hza x hx).1)
  have K2 := fun W (h : Ext w W) => tvalid28_any b B m d W (HB.out.ext h) hm (fun x hx => (hzb x hx).1)
  have HZ := Lib.hid (show ∀ x ∈ a ++ b, x.n.size ≤ maxLen ∧ (Lit.int .i64 x.t).wf = true from fun x hx => by rcases List.mem_append.1 hx with h | h; exact hza x h; exact hzb x h)
  obtain ⟨M, hM⟩ : ∃ M, M = mergeA (a.map agOf) (b.map agOf) := ⟨_, rfl⟩
  rw [← hM]
  have HM := Lib.hid hM
  clear hA hB hza hzb hM
  go_enter Tryz.func33, Tryz.ntmps33
  cases v1 : validA (a.map agOf)
  · rw [v1] at K1
    have HK1 := Lib.hid K1
    have HF := Lib.hid (show M = ([], 1) from by rw [HM.out]; unfold mergeA; rw [if_neg (by rw [v1, Bool.false_and]; decide)])
    clear K1 K2 v1
    go_wp2_with fail
    refine (HK1.out _ (Ext.refl _)).mono ?_
    rintro e w2 ⟨rfl, hw2⟩
    have HW2 := Lib.hid hw2
    clear hw2
    go_wp2
    go_ret2
    exact retMg_nil HF.out HW2.out
  rw [v1] at K1
  have HK1 := Lib.hid K1
  have HV1 := Lib.hid v1
  clear K1 v1
  go_wp2_with fail
  refine (HK1.out _ (Ext.refl _)).mono ?_
  rintro e w2 ⟨rfl, hw2⟩
  have HW2 := Lib.hid hw2
  clear hw2
  cases v2 : validA (b.map agOf)
  · rw [v2] at K2
    have HK2 := Lib.hid K2
    have HF := Lib.hid (show M = ([], 1) from by rw [HM.out]; unfold mergeA; rw [if_neg (by rw [v2, Bool.and_false]; decide)])
    clear K2 v2
    go_wp2_with fail
    refine (HK2.out _ HW2.out).mono ?_
    rintro e w3 ⟨rfl, hw3⟩
    have HW3 := Lib.hid (HW2.out.trans hw3)
    clear hw3
    go_wp2
    go_ret2
    exact retMg_nil HF.out HW3.out
  rw [v2] at K2
  have HK2 := Lib.hid K2
  have HV2 := Lib.hid v2
  clear K2 v2
  have hn20 : n ≤ 20 := by have h := (sig_ok HV1.out).2.2; rw [List.length_map, HL1.out] at h; exact h
  have hm20 : m ≤ 20 := by have h := (sig_ok HV2.out).2.2; rw [List.length_map, HL2.out] at h; exact h
  go_wp2_with fail
  refine (HK2.out _ HW2.out).mono ?_
  rintro e w3 ⟨rfl, hw3⟩
  have HW3 := Lib.hid (HW2.out.trans hw3)
  clear hw3
  have hmm := @run_makeMap Tryz.prog
  have HWC := Lib.hid (show Ext w3 (((w3.alloc (.map #[] 0)).alloc (.cells #[.map (some w3.heap.size), .bool false] 70)).alloc (.cells #[.slice A n c, .slice B m d] 41)) from (((Ext.refl w3).alloc _).alloc _).alloc _)
  have HQ := Lib.hid (show AtC 41 (((w3.alloc (.map #[] 0)).alloc (.cells #[.map (some w3.heap.size), .bool false] 70)).alloc (.cells #[.slice A n c, .slice B m d] 41)) (w3.heap.size + 2) #[.slice A n c, .slice B m d] from by
    have h := (AtC.new ((w3.alloc (.map #[] 0)).alloc (.cells #[.map (some w3.heap.size), .bool false] 70)) #[.slice A n c, .slice B m d] : AtC 41 _ _ _)
    simpa using h)
  have HT0 := Lib.hid (show TabW (((w3.alloc (.map #[] 0)).alloc (.cells #[.map (some w3.heap.size), .bool false] 70)).alloc (.cells #[.slice A n c, .slice B m d] 41)) (w3.heap.size + 1) w3.heap.size 0 ⟨[], false⟩ from by
    have h := (AtC.new (w3.alloc (.map #[] 0)) #[.map (some w3.heap.size), .bool false] : AtC 70 _ _ _)
    rw [World.size_alloc] at h
    exact ⟨h.alloc _, ((MapI.made Tryz.prog 9 3 w3).alloc _).alloc _, by omega⟩)
  have HS := Lib.hid (show ∀ j, two (w3.heap.size + 1) w3.heap.size j → w.heap.size ≤ j from fun j hj => by
    have h := Ext.size HW3.out
    rcases hj with rfl | rfl <;> omega)
  have HC := Lib.hid (concat_any a b A B n m c d _ _ HQ.out (HA.out.ext (HW3.out.trans HWC.out)) (HB.out.ext (HW3.out.trans HWC.out)) (by omega) (by omega))
  go_wp2_with fail
  refine HC.out.mono ?_
  rintro e w5 ⟨A5, c5, rfl, hs5, hw5, hfr⟩
  have HS5 := Lib.hid hs5
  have HT5 := Lib.hid (HT0.out.ext hw5)
  have HW5 := Lib.hid ((HW3.out.trans HWC.out).trans hw5)
  have HFR := Lib.hid (show ∀ ad, A5 = some ad → ¬ two (w3.heap.size + 1) w3.heap.size ad.block from fun ad had hj => by
    have h := hfr ad had
    simp at h
    rcases hj with h2 | h2 <;> omega)
  obtain ⟨mb, hmb⟩ : ∃ mb, mb = w3.heap.size := ⟨_, rfl⟩
  have HMT := Lib.hid (merge_tab HV1.out HV2.out)
  obtain ⟨N, hN⟩ : ∃ N, N = n + m := ⟨_, rfl⟩
  rw [← hmb] at HT5 HS HFR
  have HLL := Lib.hid (show (a ++ b).length = N from by rw [List.length_append, HL1.out, HL2.out, hN])
  have hN40 : N ≤ 40 := by omega
  rw [← hN] at HS5
  clear hs5 hw5 hfr HQ HT0 HC hmm
  simp only [← hmb, ← hN]
  clear hmb hN
  go_wp2_with fail
  go_loopw [25] (MgI w5 (mb + 1) mb N ((a ++ b).map agOf)) (fun i _ => N - (intOf i).toNat)
  case atStart => exact ⟨0, Nat.zero_le _, rfl, HT5.out, Exc.refl _ _⟩
  case round =>
    obtain ⟨k, hk, rfl, htw, hx⟩ := hrel
    have HTW := Lib.hid htw
    have HX := Lib.hid hx
    clear htw hx
    by_cases hkn : k < N
    · obtain ⟨x, hx⟩ : ∃ x, (a ++ b)[k]? = some x := ⟨_, List.getElem?_eq_getElem (by have := HLL.out; omega)⟩
      have hags : Ags wr A5 N (a ++ b) := SlN.exc HS5.out HX.out HFR.out
      obtain ⟨b5, o5, rfl, hb, c0, c1⟩ := hags.at_ hx
      obtain ⟨z1, z2⟩ := HZ.out x (List.mem_of_getElem? hx)
      have hkI : (k : Int) < (N : Int) := by omega
      have HXX := Lib.hid (show ((a ++ b).map agOf)[k]? = some (x.n.data.toList, x.t) from by rw [List.getElem?_map, hx]; rfl)
      have HAD := Lib.hid (tadd_any (mb + 1) mb k _ x.n x.t _ (HTW.out.ext ((Ext.refl wr).alloc (.cells #[.string x.n, .int .i64 x.t] 66))) z1 z2 (by unfold maxLen; omega))
      clear hx hags z1 z2
      go_wp2_with fail
      with_reducible refine HAD.out.mono ?_
      rintro e w9 ⟨rfl, ht9, hx9⟩
      have HT9 := Lib.hid ht9
      have HX9 := Lib.hid ((HX.out.trans (Exc.of_ext ((Ext.refl wr).alloc _))).trans hx9)
      clear ht9 hx9 c0 c1 hb
      go_wp2
      refine ⟨⟨k + 1, by omega, by go_num, ?_, HX9.out⟩, by simp [intOf]; omega⟩
      rw [take_next HXX.out, List.foldl_append]
      exact HT9.out
    · have hkk : k = N := by omega
      subst hkk
      have htk : ((a ++ b).map agOf).take k = (a ++ b).map agOf := List.take_of_length_le (by rw [List.length_map, HLL.out]; exact Nat.le_refl _)
      have HTW2 := Lib.hid (show TabW wr (mb + 1) mb k (((a ++ b).map agOf).foldl addT ⟨[], false⟩) from by have h := HTW.out; rwa [htk] at h)
      have HWR := Lib.hid (ext_exc HW5.out HX.out HS.out)
      have hmt := HMT.out
      rw [← List.map_append] at hmt
      obtain ⟨T, hT⟩ : ∃ T, T = ((a ++ b).map agOf).foldl addT ⟨[], false⟩ := ⟨_, rfl⟩
      rw [← hT] at hmt HTW2
      rw [← HM.out] at hmt
      have HMT2 := Lib.hid hmt
      have g1 := HTW2.out.at_.cell 1 _ rfl
      clear hmt htk hT HMT HTW
      cases hwr : T.wrong
      rotate_left
      · have HF := Lib.hid (HMT2.out.1 hwr)
        have g1b : wr.cell? ⟨mb + 1, 1, none⟩ = some (.bool true) := by rw [← hwr]; exact g1
        clear g1 hwr
        go_wp2
        go_ret2
        exact retMg_nil HF.out HWR.out
      · obtain ⟨o, hto, hmo⟩ := HMT2.out.2 hwr
        have HTO := Lib.hid hto
        have HMO := Lib.hid hmo
        have g1b : wr.cell? ⟨mb + 1, 1, none⟩ = some (.bool false) := by rw [← hwr]; exact g1
        have g0 := HTW2.out.at_.cell 0 _ rfl
        clear g1 hwr hto hmo
        by_cases h20 : o.length ≤ 20
        · have h20I : ¬ (20 : Int) < (o.length : Int) := by omega
          have hM : M = (o, 0) := by rw [HMO.out, if_pos h20]
          have HMQ := Lib.hid hM
          have hzo : ∀ x ∈ o, x.1.length ≤ maxLen := fun x hx => by
            have hq := HM.out
            rw [hM] at hq
            have hv := (merge_ok (a := a.map agOf) (b := b.map agOf) (by rw [← hq])).2.2.2.2.2
            rw [← hq] at hv
            have := name_len ((sig_ok hv).1 x hx).1
            unfold maxLen
            omega
          have HAR := Lib.hid (targs_any (mb + 1) mb k T o wr HTW2.out HTO.out (by omega) (by omega) hzo)
          clear hM hzo
          go_wp2_with (at_len; refine wpList_lenI rfl _ 68 rfl 9 3 Tryz.underlying9 Tryz.underlying68 mb k T.m o rfl HTW2.out.map HTO.out.1 HTO.out.2.1 ?_)
          with_reducible refine HAR.out.mono ?_
          rintro e w8 ⟨A8, c8, rfl, hs8, hw8⟩
          have HS8 := Lib.hid hs8
          have HW8 := Lib.hid (HWR.out.trans hw8)
          clear hs8 hw8 g0 g1b
          go_wp2
          go_ret2
          exact ⟨A8, o.length, c8, by rw [HMQ.out]; first | done | rfl, by rw [HMQ.out]; exact HS8.out, HW8.out⟩
        · have h20I : (20 : Int) < (o.length : Int) := by omega
          have HMQ := Lib.hid (show M = ([], 6) from by rw [HMO.out, if_neg h20])
          go_wp2_with (at_len; refine wpList_lenI rfl _ 68 rfl 9 3 Tryz.underlying9 Tryz.underlying68 mb k T.m o rfl HTW2.out.map HTO.out.1 HTO.out.2.1 ?_)
          go_ret2
          exact retMg_nil HMQ.out HWR.out
end Go.Proofs.YtpfmojeigjmlfaaGreatDoor
