import Derived.Test.YtcfgphhhgemkdaaDoorAStp
namespace Go.Proofs.YtcfgphhhgemkdaaDoor
open Go.RowKit
set_option linter.unusedSimpArgs false
set_option linter.unusedVariables false

def fromL (l : List Ali) : List (List UInt8) := l.map fun a => a.1.data.toList
def noneB (l : List Ali) (a : Ali) : Bool := (stepP (l.map ruleOf) (ruleOf a).o).isNone
theorem validL_eq (l : List Ali) : validL l = (l.all aliB && decide (fromL l).Nodup && l.all (noneB l)) := rfl
def VaInv (W1 : World) (l : List Ali) (n : Nat) (i : Value) (wr : World) : Prop :=
  ∃ k m : Nat, k ≤ n ∧ i = .int .i64 k ∧ m ≤ k ∧ MapS Tryd.prog 9 4 wr W1.heap.size m (fromL (l.take k)) ∧ (fromL (l.take k)).Nodup ∧ (l.take k).all (noneB l) = true ∧ Ext W1 wr
theorem not_apart {l : List Ali} {k : Nat} {a : Ali} (ha : l[k]? = some a) (h : a.1.data.toList ∈ fromL (l.take k)) : ¬ (fromL l).Nodup := by
  intro hn
  have e : l = l.take k ++ (a :: l.drop (k + 1)) := by
    obtain ⟨hk, hx'⟩ := List.getElem?_eq_some_iff.1 ha
    rw [← hx', ← List.drop_eq_getElem_cons hk, List.take_append_drop]
  rw [e] at hn
  unfold fromL at hn h
  rw [List.map_append, List.nodup_append] at hn
  exact hn.2.2 _ h _ (by simp) rfl
theorem apart_next {l : List Ali} {k : Nat} {a : Ali} (ha : l[k]? = some a) (h : ¬ a.1.data.toList ∈ fromL (l.take k)) (hn : (fromL (l.take k)).Nodup) : (fromL (l.take (k + 1))).Nodup := by
  rw [take_next ha]
  unfold fromL at hn h ⊢
  rw [List.map_append, List.nodup_append]
  refine ⟨hn, by simp, ?_⟩
  intro x hx y hy e
  subst e
  simp at hy
  subst hy
  exact h hx
theorem none_next {l : List Ali} {k : Nat} {a : Ali} (ha : l[k]? = some a) (h : noneB l a = true) (hn : (l.take k).all (noneB l) = true) : (l.take (k + 1)).all (noneB l) = true := by
  rw [take_next ha, List.all_append, hn]
  simp [h]
theorem none_bad {l : List Ali} {k : Nat} {a : Ali} (ha : l[k]? = some a) (h : noneB l a = false) : l.all (noneB l) = false := by
  rw [List.all_eq_false]
  exact ⟨a, List.mem_of_getElem? ha, by rw [h]; simp⟩

set_option maxHeartbeats 4000000 in
set_option maxRecDepth 100000 in
theorem taval_any (l : List Ali) (A : Option Addr) (n c : Nat) (w : World) (hm : Mx w) (hA : Als w A n l) (hn : n ≤ 100000) (hz : ∀ a ∈ l, a.1.size ≤ 60000 ∧ a.2.size ≤ 60000) :
    Calls Tryd.prog 13 #[.slice A n c] w fun e w' => e = .returned (.bool (validL l && decide (l.length ≤ 200))) ∧ Ext w w' := by
  have hrd := readAll_any l A n c w hm hA hn hz
  have hll := hA.len
  cases hall : l.all aliB with
  | false =>
    have hv : (validL l && decide (l.length ≤ 200)) = false := by rw [validL_eq, hall]; simp
    rw [hv]
    unfold RetRules at hrd
    rw [hall] at hrd
    have HRD := Lib.hid hrd
    clear hrd hv hall hll
    go_enter Tryd.func13, Tryd.ntmps13
    go_wp2_with fail
    refine HRD.out.mono ?_
    rintro e w1 ⟨A1, n1, c1, xs, rfl, _, _, hw1⟩
    have HW1 := Lib.hid hw1
    clear hw1
    go_wp2
    go_ret
    exact ⟨rfl, HW1.out⟩
  | true =>
    unfold RetRules at hrd
    rw [hall] at hrd
    have hok := rules_ok hall
    by_cases h200 : n ≤ 200
    · have hV : (validL l && decide (l.length ≤ 200)) = (decide (fromL l).Nodup && l.all (noneB l)) := by
        rw [validL_eq, hall]
        have : l.length ≤ 200 := by omega
        simp [this]
      rw [hV]
      have HRD := Lib.hid hrd
      have HOK := Lib.hid hok
      have HA := Lib.hid hA
      have HLL := Lib.hid hll
      have HZ := Lib.hid hz
      have h200I : ¬ (200 : Int) < (n : Int) := by omega
      clear hrd hok hV hall hll hA hz
      have hmm := @run_makeMap Tryd.prog
      go_enter Tryd.func13, Tryd.ntmps13
      go_wp2_with fail
      refine HRD.out.mono ?_
      rintro e w1 ⟨A1, n1, c1, xs, rfl, hru, hmp, hw1⟩
      have HRU := Lib.hid hru
      have HMP := Lib.hid (hmp trivial)
      have HW1 := Lib.hid hw1
      clear hru hmp hw1
      go_wp2_with fail
      go_loopw [25] (VaInv w1 l n) (fun i _ => n - (intOf i).toNat)
      case atStart => exact ⟨0, 0, Nat.zero_le _, rfl, Nat.le_refl _, MapS.made _ _ _ _, by simp [fromL], by simp, (Ext.refl w1).alloc _⟩
      case round =>
        obtain ⟨k, m, hk, rfl, hmk, hms, hnd, hnn, hw⟩ := hrel
        have HMS := Lib.hid hms
        have HND := Lib.hid hnd
        have HNN := Lib.hid hnn
        have HW := Lib.hid hw
        clear hms hnd hnn hw
        by_cases hkn : k < n
        · obtain ⟨a, ha⟩ : ∃ a, l[k]? = some a := ⟨_, List.getElem?_eq_getElem (by have := HLL.out; omega)⟩
          obtain ⟨b, o, rfl, hb, c0, c1'⟩ := (HA.out.ext (HW1.out.trans HW.out)).at2 ha
          obtain ⟨z1, z2⟩ := HZ.out a (List.mem_of_getElem? ha)
          have hxl : xs.length = n1 := HRU.out.len
          have hn1 : n1 = n := by
            have h1 := congrArg List.length HMP.out
            rw [List.length_map, List.length_map] at h1
            have h2 := HLL.out
            omega
          obtain ⟨x, hx⟩ : ∃ x, xs[k]? = some x := ⟨_, List.getElem?_eq_getElem (by omega)⟩
          have hxr : x.r = ruleOf a := by
            have h1 := congrArg (fun l : List RuleP => l[k]?) HMP.out
            simp only [List.getElem?_map, hx, ha, Option.map_some] at h1
            injection h1
          have hxm := List.mem_of_getElem? hx
          have hv : validP x.r.o = true := (HOK.out x.r (by rw [← HMP.out]; exact List.mem_map.2 ⟨x, hxm, rfl⟩)).2
          have hstc := fun W (h : Ext w1 W) => tstep_any xs x.r.o A1 x.B n1 c1 x.m x.d W (HRU.out.ext h) ((HRU.out.ext h).2 x hxm).2 (fun y hy => HOK.out y.r (by rw [← HMP.out]; exact List.mem_map.2 ⟨y, hy, rfl⟩)) hv (by omega)
          rw [HMP.out] at hstc
          obtain ⟨b2, o2, hA1, hb2, hcs⟩ := (HRU.out.ext HW.out).at2 hx
          subst hA1
          obtain ⟨y0, y1, y2, y3, y4, y5, hrc⟩ := rvC_b x
          obtain ⟨q3, q4, q5⟩ : strv x.r.o.lang = .string y3 ∧ strv x.r.o.script = .string y4 ∧ strv x.r.o.region = .string y5 := by
            unfold rvC at hrc
            simp only [List.cons.injEq] at hrc
            exact ⟨hrc.2.2.2.2.1, hrc.2.2.2.2.2.1, hrc.2.2.2.2.2.2.1⟩
          rw [hrc] at hcs
          unfold tagV at hstc
          rw [q3, q4, q5] at hstc
          have d4 := hcs 4 _ rfl
          have d5 := hcs 5 _ rfl
          have d6 := hcs 6 _ rfl
          have d7 := hcs 7 _ rfl
          subst hn1
          obtain ⟨fb, ob⟩ := a
          simp only at c0 c1' z1 z2
          have hso : (stepR (stepP (l.map ruleOf) x.r.o)).2 = !noneB l (fb, ob) := by
            unfold noneB
            rw [hxr]
            cases stepP (l.map ruleOf) (ruleOf (fb, ob)).o <;> rfl
          unfold RetStep tagV at hstc
          generalize stepR (stepP (l.map ruleOf) x.r.o) = S at hstc hso
          obtain ⟨u, bo⟩ := S
          simp only at hstc hso
          obtain ⟨ul, hul, _⟩ := strv_b u.lang
          obtain ⟨us, hus, _⟩ := strv_b u.script
          obtain ⟨ur, hur, _⟩ := strv_b u.region
          rw [hul, hus, hur] at hstc
          have HSO := Lib.hid hso
          have HAK := Lib.hid ha
          have HST := Lib.hid hstc
          clear ha hx hxr hxm hv hstc hcs hrc q3 q4 q5 hxl hso hul hus hur
          have hfs : fb.size ≤ maxLen := by unfold maxLen; omega
          cases bo with
          | true =>
            have HNB := Lib.hid (show noneB l (fb, ob) = false from by have h := HSO.out; cases hq : noneB l (fb, ob) with
              | false => rfl
              | true => rw [hq] at h; cases h)
            go_wp2_with fail
            refine (HST.out _ (HW.out.alloc _)).mono ?_
            rintro e w2 ⟨A5, n5, c5, rfl, _, _, hw2, _⟩
            have HW2 := Lib.hid (((HW1.out.trans HW.out).alloc _).trans hw2)
            clear hw2
            go_wp2
            go_ret
            exact ⟨ret_bool (by rw [none_bad HAK.out HNB.out]; simp), HW2.out.alloc _⟩
          | false =>
            have HNB := Lib.hid (show noneB l (fb, ob) = true from by have h := HSO.out; cases hq : noneB l (fb, ob) with
              | false => rw [hq] at h; cases h
              | true => rfl)
            by_cases hmem : fb.data.toList ∈ fromL (l.take k)
            · have HMEM := Lib.hid (not_apart HAK.out hmem)
              have hdec : decide (fb.data.toList ∈ fromL (l.take k)) = true := by simpa using hmem
              have HDEC := Lib.hid hdec
              clear hdec hmem
              go_wp2_with fail
              refine (HST.out _ (HW.out.alloc _)).mono ?_
              rintro e w2 ⟨A5, n5, c5, rfl, _, _, hw2, _⟩
              have HW2 := Lib.hid (((HW1.out.trans HW.out).alloc _).trans hw2)
              have hb0 := (((AtC.new wr #[.string fb, .string ob] : AtC 34 _ _ _).ext hw2).alloc (.cells #[.string ul, .string us, .string ur, .slice A5 n5 c5] 42)).cell 0 _ rfl
              have hlk := MapS.lookup ((HMS.out.ext (((Ext.refl wr).alloc (.cells #[.string fb, .string ob] 34)).trans hw2)).alloc (.cells #[.string ul, .string us, .string ur, .slice A5 n5 c5] 42)) Tryd.underlying9 Tryd.underlying4 Tryd.underlying58 (by kernel_rfl) fb hfs
              rw [HDEC.out] at hlk
              clear hw2
              go_wp2
              go_ret
              exact ⟨ret_bool (by simp [HMEM.out]), HW2.out.alloc _⟩
            · have HMEM := Lib.hid hmem
              have hdec : decide (fb.data.toList ∈ fromL (l.take k)) = false := by simpa using hmem
              have HDEC := Lib.hid hdec
              clear hdec hmem
              go_wp2_with fail
              refine (HST.out _ (HW.out.alloc _)).mono ?_
              rintro e w2 ⟨A5, n5, c5, rfl, _, _, hw2, _⟩
              have HW2 := Lib.hid (((HW.out.alloc (.cells #[.string fb, .string ob] 34)).trans hw2).alloc (.cells #[.string ul, .string us, .string ur, .slice A5 n5 c5] 42))
              have hb0 := (((AtC.new wr #[.string fb, .string ob] : AtC 34 _ _ _).ext hw2).alloc (.cells #[.string ul, .string us, .string ur, .slice A5 n5 c5] 42)).cell 0 _ rfl
              have hms2 := (HMS.out.ext (((Ext.refl wr).alloc (.cells #[.string fb, .string ob] 34)).trans hw2)).alloc (.cells #[.string ul, .string us, .string ur, .slice A5 n5 c5] 42)
              have hlk := MapS.lookup hms2 Tryd.underlying9 Tryd.underlying4 Tryd.underlying58 (by kernel_rfl) fb hfs
              rw [HDEC.out] at hlk
              have HMS2 := Lib.hid hms2
              clear hw2 hms2
              go_wp2_with (at_mapUpdate; refine wpList_mapUpdateS rfl _ _ _ 58 9 4 rfl Tryd.underlying9 Tryd.underlying4 Tryd.underlying58 w1.heap.size m _ rfl HMS2.out (by unfold maxLen; omega) fb rfl rfl hfs ?_; intro w3 hm3 hg3; have HM3 := Lib.hid hm3; have HG3 := Lib.hid hg3; clear hm3 hg3)
              refine ⟨⟨k + 1, m + 1, by omega, by go_num, by omega, ?_, apart_next HAK.out HMEM.out HND.out, none_next HAK.out HNB.out HNN.out, HW2.out.grown HG3.out (fun q hq => by injection hq with hq; omega)⟩, by simp [intOf]; omega⟩
              have h := HM3.out
              rw [take_next HAK.out]
              unfold fromL at h ⊢
              rw [List.map_append]
              exact h
        · have hkk : k = n := by omega
          subst hkk
          go_wp2
          go_ret
          refine ⟨ret_bool ?_, HW1.out.trans HW.out⟩
          have h1 := HND.out
          have h2 := HNN.out
          have hlk : l.take k = l := List.take_of_length_le (by have := HLL.out; omega)
          rw [hlk] at h1 h2
          rw [h2]
          simp [h1]
    · have hV : (validL l && decide (l.length ≤ 200)) = false := by
        have : ¬ l.length ≤ 200 := by omega
        simp [this]
      rw [hV]
      have HRD := Lib.hid hrd
      have h200I : (200 : Int) < (n : Int) := by omega
      clear hrd hok hV hall hll
      go_enter Tryd.func13, Tryd.ntmps13
      go_wp2_with fail
      refine HRD.out.mono ?_
      rintro e w1 ⟨A1, n1, c1, xs, rfl, hru, hmp, hw1⟩
      have HW1 := Lib.hid hw1
      clear hru hmp hw1
      go_wp2
      go_ret
      exact ⟨rfl, HW1.out⟩
end Go.Proofs.YtcfgphhhgemkdaaDoor
