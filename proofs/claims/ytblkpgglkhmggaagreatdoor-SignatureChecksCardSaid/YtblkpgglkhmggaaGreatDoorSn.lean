import Derived.Test.YtblkpgglkhmggaaGreatDoorSm
import Derived.Test.YtblkpgglkhmggaaGreatDoorSg
namespace Go.Proofs.YtblkpgglkhmggaaGreatDoor
open Go.RowKit Go.Maps Go.Sort
set_option linter.unusedSimpArgs false
set_option linter.unusedVariables false

/-! Merge, by the program. -/
theorem SlN.exc {S : Nat → Prop} {w w' : World} {A : Option Addr} {n size : Nat} {xs : List Value} (h : SlN w A n size xs) (hw : Exc S w w') (hs : ∀ ad, A = some ad → ¬ S ad.block) : SlN w' A n size xs :=
  ⟨h.1, fun j u hu => by
    obtain ⟨b, o, ha, hb, hc⟩ := h.2 j u hu
    exact ⟨b, o, ha, Nat.lt_of_lt_of_le hb hw.size, (Exc.cell (p := ⟨b, o + j, none⟩) hw hb (show ¬ S b from hs ⟨b, o, none⟩ ha)).trans hc⟩⟩
theorem TabW.ext {w w' : World} {g mb n : Nat} {T : TabP} (h : TabW w g mb n T) (hw : Ext w w') : TabW w' g mb n T := ⟨h.at_.ext hw, h.map.ext hw, h.ne⟩
theorem wpList_lenI {P : Program} {w : World} {ops : Array Oper} {rest : List Oper} {o : Oper} {a : Act} {Q : Exit → Act → World → Prop} (hg : o.guard = none) (m : Operand) (t : TypeId) (hop : o.op = Op.call { callee := Callee.builtin Builtin.len, args := #[m], argTypes := #[t] })
    (k e : TypeId) (hk : P.underlying k = some .string) (ht : P.underlying t = some (.map k e)) (b n : Nat) (l L : List ArgP) (hm : a.eval m = .map (some b)) (h : MapI P k e w b n l) (ha : L.Pairwise fun x y => x.1 < y.1) (hl : ∀ x, getA l x = getA L x)
    (hK : wpList P ops Q rest (a.put o.dst (.int .i64 (L.length : Int))) w) : wpList P ops Q (o :: rest) a w := by
  obtain ⟨D, hown, _, hnd, hlen, hmem⟩ := h.keys hk
  have e1 := names_len ha hnd (fun x => by rw [hmem, hl])
  rw [hlen] at e1
  refine wpList_len_own w hg m t hop k e ht _ b n D hm hown ?_
  rw [e1]
  exact hK
theorem ext_exc {S : Nat → Prop} {w w5 wr : World} (h : Ext w w5) (k : Exc S w5 wr) (hS : ∀ j, S j → w.heap.size ≤ j) : Ext w wr := Below.trans h (k.below hS (Ext.size h))
theorem name_len {s : By} (h : nameB s = true) : s.length ≤ 40 := by
  unfold nameB at h
  simp only [Bool.and_eq_true, decide_eq_true_eq] at h
  exact h.1.1.2
def MgI (w5 : World) (g mb N : Nat) (L : List ArgP) (i : Value) (wr : World) : Prop := ∃ k : Nat, k ≤ N ∧ i = .int .i64 k ∧ TabW wr g mb k ((L.take k).foldl addT ⟨[], false⟩) ∧ Exc (two g mb) w5 wr
def RetMg (w : World) (M : List ArgP × Int) (e : Ending) (w' : World) : Prop := ∃ A n c, e = .returned (.tuple #[.slice A n c, .int .i64 M.2]) ∧ Ags w' A n (M.1.map agP) ∧ Ext w w'
theorem retMg_nil {w w' : World} {M : List ArgP × Int} {c : Int} (h : M = ([], c)) (hw : Ext w w') : RetMg w M (.returned (.tuple #[.slice none 0 0, .int .i64 c])) w' := by
  subst h
  exact ⟨none, 0, 0, rfl, SlN.nil _ _ _, hw⟩
set_option maxHeartbeats 4000000 in
set_option maxRecDepth 100000 in
theorem tmerge_any (a b : List Ag) (A B : Option Addr) (n m c d : Nat) (w : World) (hA : Ags w A n a) (hB : Ags w B m b) (hn : n ≤ maxLen) (hm : m ≤ maxLen) (hza : ∀ x ∈ a, x.n.size ≤ maxLen ∧ (Lit.int .i64 x.t).wf = true) (hzb : ∀ x ∈ b, x.n.size ≤ maxLen ∧ (Lit.int .i64 x.t).wf = true) :
    Calls Tryz.prog 16 #[.slice A n c, .slice B m d] w (RetMg w (mergeA (a.map agOf) (b.map agOf))) := by
  have HA := Lib.hid hA
  have HB := Lib.hid hB
  have HL1 := Lib.hid hA.len
  have HL2 := Lib.hid hB.len
  have K1 := fun W (h : Ext w W) => tvalid28_any a A n c W (HA.out.ext h) hn (fun x hx => (hza x hx).1)
  have K2 := fun W (h : Ext w W) => tvalid28_any b B m d W (HB.out.ext h) hm (fun x hx => (hzb x hx).1)
  have HZ := Lib.hid (show ∀ x ∈ a ++ b, x.n.size ≤ maxLen ∧ (Lit.int .i64 x.t).wf = true from fun x hx => by rcases List.mem_append.1 hx with h | h; exact hza x h; exact hzb x h)
  obtain ⟨M, hM⟩ : ∃ M, M = mergeA (a.map agOf) (b.map agOf) := ⟨_, rfl⟩
  rw [← hM]
  have HM := Lib.hid hM
  clear hA hB hza hzb hM
  go_enter Tryz.func16, Tryz.ntmps16
  cases v1 : validA (a.map agOf)
  · rw [v1] at K1
    have HK1 := Lib.hid K1
    have HF := Lib.hid (show M = ([], 1) from by rw [HM.out]; unfold mergeA; rw [if_neg (by rw [v1, Bool.false_and]; decide)])
    clear K1 K2 v1
    go_wp2_with fail
    refine (HK1.out _ (Ext.refl _)).mono ?_
    rintro e w2 ⟨rfl, hw2⟩
    have HW2 := Lib.hid hw2
    clear hw2
    go_wp2
    go_ret2
    exact retMg_nil HF.out HW2.out
  rw [v1] at K1
  have HK1 := Lib.hid K1
  have HV1 := Lib.hid v1
  clear K1 v1
  go_wp2_with fail
  refine (HK1.out _ (Ext.refl _)).mono ?_
  rintro e w2 ⟨rfl, hw2⟩
  have HW2 := Lib.hid hw2
  clear hw2
  cases v2 : validA (b.map agOf)
  · rw [v2] at K2
    have HK2 := Lib.hid K2
    have HF := Lib.hid (show M = ([], 1) from by rw [HM.out]; unfold mergeA; rw [if_neg (by rw [v2, Bool.and_false]; decide)])
    clear K2 v2
    go_wp2_with fail
    refine (HK2.out _ HW2.out).mono ?_
    rintro e w3 ⟨rfl, hw3⟩
    have HW3 := Lib.hid (HW2.out.trans hw3)
    clear hw3
    go_wp2
    go_ret2
    exact retMg_nil HF.out HW3.out
  rw [v2] at K2
  have HK2 := Lib.hid K2
  have HV2 := Lib.hid v2
  clear K2 v2
  have hn20 : n ≤ 20 := by have h := (sig_ok HV1.out).2.2; rw [List.length_map, HL1.out] at h; exact h
  have hm20 : m ≤ 20 := by have h := (sig_ok HV2.out).2.2; rw [List.length_map, HL2.out] at h; exact h
  go_wp2_with fail
  refine (HK2.out _ HW2.out).mono ?_
  rintro e w3 ⟨rfl, hw3⟩
  have HW3 := Lib.hid (HW2.out.trans hw3)
  clear hw3
  have hmm := @run_makeMap Tryz.prog
  have HWC := Lib.hid (show Ext w3 (((w3.alloc (.map #[] 0)).alloc (.cells #[.map (some w3.heap.size), .bool false] 63)).alloc (.cells #[.slice A n c, .slice B m d] 25)) from (((Ext.refl w3).alloc _).alloc _).alloc _)
  have HQ := Lib.hid (show AtC 25 (((w3.alloc (.map #[] 0)).alloc (.cells #[.map (some w3.heap.size), .bool false] 63)).alloc (.cells #[.slice A n c, .slice B m d] 25)) (w3.heap.size + 2) #[.slice A n c, .slice B m d] from by
    have h := (AtC.new ((w3.alloc (.map #[] 0)).alloc (.cells #[.map (some w3.heap.size), .bool false] 63)) #[.slice A n c, .slice B m d] : AtC 25 _ _ _)
    simpa using h)
  have HT0 := Lib.hid (show TabW (((w3.alloc (.map #[] 0)).alloc (.cells #[.map (some w3.heap.size), .bool false] 63)).alloc (.cells #[.slice A n c, .slice B m d] 25)) (w3.heap.size + 1) w3.heap.size 0 ⟨[], false⟩ from by
    have h := (AtC.new (w3.alloc (.map #[] 0)) #[.map (some w3.heap.size), .bool false] : AtC 63 _ _ _)
    rw [World.size_alloc] at h
    exact ⟨h.alloc _, ((MapI.made Tryz.prog 9 3 w3).alloc _).alloc _, by omega⟩)
  have HS := Lib.hid (show ∀ j, two (w3.heap.size + 1) w3.heap.size j → w.heap.size ≤ j from fun j hj => by
    have h := Ext.size HW3.out
    rcases hj with rfl | rfl <;> omega)
  have HC := Lib.hid (concat_any a b A B n m c d _ _ HQ.out (HA.out.ext (HW3.out.trans HWC.out)) (HB.out.ext (HW3.out.trans HWC.out)) (by omega) (by omega))
  go_wp2_with fail
  refine HC.out.mono ?_
  rintro e w5 ⟨A5, c5, rfl, hs5, hw5, hfr⟩
  have HS5 := Lib.hid hs5
  have HT5 := Lib.hid (HT0.out.ext hw5)
  have HW5 := Lib.hid ((HW3.out.trans HWC.out).trans hw5)
  have HFR := Lib.hid (show ∀ ad, A5 = some ad → ¬ two (w3.heap.size + 1) w3.heap.size ad.block from fun ad had hj => by
    have h := hfr ad had
    simp at h
    rcases hj with h2 | h2 <;> omega)
  obtain ⟨mb, hmb⟩ : ∃ mb, mb = w3.heap.size := ⟨_, rfl⟩
  have HMT := Lib.hid (merge_tab HV1.out HV2.out)
  obtain ⟨N, hN⟩ : ∃ N, N = n + m := ⟨_, rfl⟩
  rw [← hmb] at HT5 HS HFR
  have HLL := Lib.hid (show (a ++ b).length = N from by rw [List.length_append, HL1.out, HL2.out, hN])
  have hN40 : N ≤ 40 := by omega
  rw [← hN] at HS5
  clear hs5 hw5 hfr HQ HT0 HC hmm
  simp only [← hmb, ← hN]
  clear hmb hN
  go_wp2_with fail
  go_loopw [25] (MgI w5 (mb + 1) mb N ((a ++ b).map agOf)) (fun i _ => N - (intOf i).toNat)
  case atStart => exact ⟨0, Nat.zero_le _, rfl, HT5.out, Exc.refl _ _⟩
  case round =>
    obtain ⟨k, hk, rfl, htw, hx⟩ := hrel
    have HTW := Lib.hid htw
    have HX := Lib.hid hx
    clear htw hx
    by_cases hkn : k < N
    · obtain ⟨x, hx⟩ : ∃ x, (a ++ b)[k]? = some x := ⟨_, List.getElem?_eq_getElem (by have := HLL.out; omega)⟩
      have hags : Ags wr A5 N (a ++ b) := SlN.exc HS5.out HX.out HFR.out
      obtain ⟨b5, o5, rfl, hb, c0, c1⟩ := hags.at_ hx
      obtain ⟨z1, z2⟩ := HZ.out x (List.mem_of_getElem? hx)
      have hkI : (k : Int) < (N : Int) := by omega
      have HXX := Lib.hid (show ((a ++ b).map agOf)[k]? = some (x.n.data.toList, x.t) from by rw [List.getElem?_map, hx]; rfl)
      have HAD := Lib.hid (tadd_any (mb + 1) mb k _ x.n x.t _ (HTW.out.ext ((Ext.refl wr).alloc (.cells #[.string x.n, .int .i64 x.t] 58))) z1 z2 (by unfold maxLen; omega))
      clear hx hags z1 z2
      go_wp2_with fail
      with_reducible refine HAD.out.mono ?_
      rintro e w9 ⟨rfl, ht9, hx9⟩
      have HT9 := Lib.hid ht9
      have HX9 := Lib.hid ((HX.out.trans (Exc.of_ext ((Ext.refl wr).alloc _))).trans hx9)
      clear ht9 hx9 c0 c1 hb
      go_wp2
      refine ⟨⟨k + 1, by omega, by go_num, ?_, HX9.out⟩, by simp [intOf]; omega⟩
      rw [take_next HXX.out, List.foldl_append]
      exact HT9.out
    · have hkk : k = N := by omega
      subst hkk
      have htk : ((a ++ b).map agOf).take k = (a ++ b).map agOf := List.take_of_length_le (by rw [List.length_map, HLL.out]; exact Nat.le_refl _)
      have HTW2 := Lib.hid (show TabW wr (mb + 1) mb k (((a ++ b).map agOf).foldl addT ⟨[], false⟩) from by have h := HTW.out; rwa [htk] at h)
      have HWR := Lib.hid (ext_exc HW5.out HX.out HS.out)
      have hmt := HMT.out
      rw [← List.map_append] at hmt
      obtain ⟨T, hT⟩ : ∃ T, T = ((a ++ b).map agOf).foldl addT ⟨[], false⟩ := ⟨_, rfl⟩
      rw [← hT] at hmt HTW2
      rw [← HM.out] at hmt
      have HMT2 := Lib.hid hmt
      have g1 := HTW2.out.at_.cell 1 _ rfl
      clear hmt htk hT HMT HTW
      cases hwr : T.wrong
      rotate_left
      · have HF := Lib.hid (HMT2.out.1 hwr)
        have g1b : wr.cell? ⟨mb + 1, 1, none⟩ = some (.bool true) := by rw [← hwr]; exact g1
        clear g1 hwr
        go_wp2
        go_ret2
        exact retMg_nil HF.out HWR.out
      · obtain ⟨o, hto, hmo⟩ := HMT2.out.2 hwr
        have HTO := Lib.hid hto
        have HMO := Lib.hid hmo
        have g1b : wr.cell? ⟨mb + 1, 1, none⟩ = some (.bool false) := by rw [← hwr]; exact g1
        have g0 := HTW2.out.at_.cell 0 _ rfl
        clear g1 hwr hto hmo
        by_cases h20 : o.length ≤ 20
        · have h20I : ¬ (20 : Int) < (o.length : Int) := by omega
          have hM : M = (o, 0) := by rw [HMO.out, if_pos h20]
          have HMQ := Lib.hid hM
          have hzo : ∀ x ∈ o, x.1.length ≤ maxLen := fun x hx => by
            have hq := HM.out
            rw [hM] at hq
            have hv := (merge_ok (a := a.map agOf) (b := b.map agOf) (by rw [← hq])).2.2.2.2.2
            rw [← hq] at hv
            have := name_len ((sig_ok hv).1 x hx).1
            unfold maxLen
            omega
          have HAR := Lib.hid (targs_any (mb + 1) mb k T o wr HTW2.out HTO.out (by omega) (by omega) hzo)
          clear hM hzo
          go_wp2_with (at_len; refine wpList_lenI rfl _ 61 rfl 9 3 Tryz.underlying9 Tryz.underlying61 mb k T.m o rfl HTW2.out.map HTO.out.1 HTO.out.2.1 ?_)
          with_reducible refine HAR.out.mono ?_
          rintro e w8 ⟨A8, c8, rfl, hs8, hw8⟩
          have HS8 := Lib.hid hs8
          have HW8 := Lib.hid (HWR.out.trans hw8)
          clear hs8 hw8 g0 g1b
          go_wp2
          go_ret2
          exact ⟨A8, o.length, c8, by rw [HMQ.out]; first | done | rfl, by rw [HMQ.out]; exact HS8.out, HW8.out⟩
        · have h20I : (20 : Int) < (o.length : Int) := by omega
          have HMQ := Lib.hid (show M = ([], 6) from by rw [HMO.out, if_neg h20])
          go_wp2_with (at_len; refine wpList_lenI rfl _ 61 rfl 9 3 Tryz.underlying9 Tryz.underlying61 mb k T.m o rfl HTW2.out.map HTO.out.1 HTO.out.2.1 ?_)
          go_ret2
          exact retMg_nil HMQ.out HWR.out
end Go.Proofs.YtblkpgglkhmggaaGreatDoor
