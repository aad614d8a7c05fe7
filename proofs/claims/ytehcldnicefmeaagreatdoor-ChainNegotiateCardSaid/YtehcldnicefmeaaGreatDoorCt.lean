import Derived.Test.YtehcldnicefmeaaGreatDoorCs
import Derived.Test.YtehcldnicefmeaaGreatDoorNX4
namespace Go.Proofs.YtehcldnicefmeaaGreatDoor
open Go.RowKit
set_option linter.unusedSimpArgs false
set_option linter.unusedVariables false

/-! The chain, by the reference. -/
theorem can_size {al : List Ali} {s : BytesC} : (canL al s).1.length ≤ 60 := by
  by_cases h : (canL al s).2 = 0
  · obtain ⟨e, h1, h2, _⟩ := can_shape h
    rw [h1]
    exact textP_len h2
  · rw [can_bad h]; simp
theorem locs_arg {T : List LocP} {al : List Ali} {s : BytesC} (h : usableC T al = false) : locsC T al s = ([], 1) := by unfold locsC; rw [if_neg (by rw [h]; decide)]
theorem locs_can {T : List LocP} {al : List Ali} {s : BytesC} (h : usableC T al = true) (hc : ¬ (canL al s).2 = 0) : locsC T al s = ([], (canL al s).2) := by unfold locsC; rw [if_pos h, if_neg hc]
theorem locs_go {T : List LocP} {al : List Ali} {s : BytesC} (h : usableC T al = true) (hc : (canL al s).2 = 0) : locsC T al s = goC T T.length [nearC T (canL al s).1] (nearC T (canL al s).1) := by unfold locsC; rw [if_pos h, if_pos hc]
theorem own_oneV (w : World) (v : Value) (T : TypeId) : (w.alloc (.cells #[v] T)).ownsRow w.heap.size T 1 (.slice (some ⟨w.heap.size, 0, none⟩) 1 1) 1 [v] :=
  ⟨rfl, .inr ⟨w.heap.size, 1, #[v], rfl, Nat.le_refl _, heap_alloc_new w _, Nat.le_refl _, by decide, rfl, rfl⟩⟩
def CLoc (w4 : World) (B : Nat) (T : List LocP) (R : List Nat × Int) (gg : Nat) (i out : Value) (wr : World) : Prop :=
  ∃ (q : Nat) (o : List Nat), i = .int .i64 q ∧ GoK T gg o q ∧ goC T gg o q = R ∧ wr.ownsRow B 3 1 out o.length (o.map natV) ∧ Ext w4 wr
def CIn (wr : World) (o : List Nat) (k : Nat) (n : Nat) (i : Value) (wj : World) : Prop := ∃ j : Nat, j ≤ n ∧ i = .int .i64 j ∧ k ∉ o.take j ∧ Ext wr wj
theorem go_len {T : List LocP} {n : Nat} {o : List Nat} {i : Nat} (h : GoK T n o i) : o.length ≤ T.length := nodup_le h.2.1 h.2.2.1

set_option maxHeartbeats 4000000 in
set_option maxRecDepth 100000 in
theorem rlocs_any (l : List Lc) (al : List Ali) (L A N : Option Addr) (ln lc n c m d : Nat) (s : ByteArray) (w : World) (hL : Lcs w L ln l) (hln : ln ≤ 100000) (hA : Als w A n al) (hn : n ≤ 100000) (hz : ∀ a ∈ al, a.1.size ≤ 60000 ∧ a.2.size ≤ 60000) (hs : ∀ x ∈ l, x.t.size ≤ 60000) (hss : s.size ≤ 60000) :
    Calls Tryz.prog 23 #[.agg #[.slice L ln lc, .slice A n c, .slice N m d], .string s] w (RetOrd w (locsC (l.map locOf) al s.data.toList)) := by
  obtain ⟨i0, hi, hz0, hz1, hz2⟩ := info_parts (show (Tryz.prog.info? 3).map (fun i => (i.zero, i.size, i.bytes)) = some (some (.int .i64 0), 1, 8) from by kernel_rfl)
  have KB := Lib.hid (AtC.new w #[.slice L ln lc, .slice A n c, .slice N m d] : AtC 26 _ _ _)
  have HW0 := Lib.hid ((Ext.refl w).alloc (.cells #[.slice L ln lc, .slice A n c, .slice N m d] 26))
  have h0 := KB.out.cell 0 _ rfl
  have h1 := KB.out.cell 1 _ rfl
  have h2 := KB.out.cell 2 _ rfl
  have KU := rusable_any l al L A N ln lc n c m d _ (hL.ext HW0.out) hln (hA.ext HW0.out) hn hz hs
  have KC := fun W (h : Ext w W) => rcan20_any al s A n c W (hA.ext h) hn hz hss
  have KN := Lib.hid (fun (b : ByteArray) (hb : b.size ≤ 60000) W (h : Ext w W) => rnear_any l L A N ln lc n c m d b W (hL.ext h) (by unfold maxLen; omega) hb)
  have KP := Lib.hid (fun (i : Nat) (hi : i < ln) W (h : Ext w W) => rpar22_any l L A N ln lc n c m d i W (hL.ext h) (by unfold maxLen; omega) hi hs)
  have HLN := Lib.hid (show (l.map locOf).length = ln from by rw [List.length_map]; exact hL.len)
  obtain ⟨R, hR⟩ : ∃ R, R = locsC (l.map locOf) al s.data.toList := ⟨_, rfl⟩
  rw [← hR]
  have HR := Lib.hid hR
  clear hL hA hz hs hR
  cases hu : usableC (l.map locOf) al with
  | false =>
    rw [hu] at KU
    have HU := Lib.hid KU
    have HF := Lib.hid (HR.out.trans (locs_arg hu))
    clear KU hu KC
    go_enter Tryz.func23, Tryz.ntmps23
    go_wp2_with fail
    refine HU.out.mono ?_
    rintro e w2 ⟨rfl, hw2⟩
    have HW2 := Lib.hid (HW0.out.trans hw2)
    clear hw2
    go_wp2
    go_ret2
    exact ⟨none, 0, 0, by rw [HF.out]; first | done | rfl, by rw [HF.out]; exact Sl.nil _ _, Nat.le_refl _, HW2.out⟩
  | true =>
    rw [hu] at KU
    have HU := Lib.hid KU
    have HUS := Lib.hid hu
    clear KU hu
    have hcs := can_size (al := al) (s := s.data.toList)
    have hgo := fun hc => HR.out.trans (locs_go (s := s.data.toList) HUS.out hc)
    have hbad := fun hc => HR.out.trans (locs_can (s := s.data.toList) HUS.out hc)
    generalize canL al s.data.toList = C at KC hcs hgo hbad
    obtain ⟨cx, ce⟩ := C
    obtain ⟨cb, hcb, rfl⟩ := strv_b cx
    simp only at KC hcs hgo hbad
    rw [hcb] at KC
    have HC := Lib.hid KC
    have hcb60 : cb.size ≤ 60000 := by have h2 : cb.data.toList.length = cb.size := by simp
                                       omega
    clear KC hcb hcs
    go_enter Tryz.func23, Tryz.ntmps23
    go_wp2_with fail
    refine HU.out.mono ?_
    rintro e w2 ⟨rfl, hw2⟩
    have HW2 := Lib.hid (HW0.out.trans hw2)
    have KB2 := Lib.hid (KB.out.ext hw2)
    have g1 := KB2.out.cell 1 _ rfl
    clear hw2 h0 h1 h2
    go_wp2_with fail
    refine (HC.out _ HW2.out).mono ?_
    rintro e w3 ⟨rfl, hw3⟩
    have HW3 := Lib.hid (HW2.out.trans hw3)
    have KB3 := Lib.hid (KB2.out.ext hw3)
    clear hw3 g1
    by_cases hce : ce = 0
    rotate_left
    · have hnz : (ce == 0) = false := by simpa using hce
      have HF := Lib.hid (hbad hce)
      clear hgo hbad
      go_wp2
      go_ret2
      exact ⟨none, 0, 0, by rw [HF.out]; first | done | rfl, by rw [HF.out]; exact Sl.nil _ _, Nat.le_refl _, HW3.out⟩
    subst hce
    have HGO := Lib.hid (hgo rfl)
    clear hgo hbad
    have hTn := (usable_ok HUS.out).1
    have hnl := near_lt hTn cb.data.toList
    have KNN := KN.out cb hcb60 _ HW3.out
    generalize nearC (l.map locOf) cb.data.toList = i at KNN HGO hnl
    have HKN := Lib.hid KNN
    have g0 := KB3.out.cell 0 _ rfl
    have g1 := KB3.out.cell 1 _ rfl
    have g2 := KB3.out.cell 2 _ rfl
    have HNL := Lib.hid hnl
    have HTN := Lib.hid hTn
    clear KNN hnl hTn
    go_wp2_with fail
    refine HKN.out.mono ?_
    rintro e w4 ⟨rfl, hw4⟩
    have HW4 := Lib.hid (HW3.out.trans hw4)
    have KB4 := Lib.hid (KB3.out.ext hw4)
    clear hw4 g0 g1 g2
    go_wp2_with fail
    go_loopg [8, 9] (l.map locOf).length (fun gg i out wr => CLoc w4 w4.heap.size (l.map locOf) R gg i out wr)
    case atStart =>
      exact ⟨i, [i], rfl, GoK.start HNL.out, HGO.out.symm, own_oneV w4 (natV i) 3, (Ext.refl w4).alloc _⟩
    case round =>
      obtain ⟨q, o, rfl, hgk, hgo, how, hw⟩ := hrel
      have HGK := Lib.hid hgk
      have HGO2 := Lib.hid hgo
      have HOW := Lib.hid how
      have HW := Lib.hid (HW4.out.trans hw)
      have HWF := Lib.hid hw
      have KBR := Lib.hid (KB4.out.ext hw)
      clear hgk hgo how hw
      by_cases hq0 : q = 0
      · subst hq0
        have HF := Lib.hid (HGO2.out.symm.trans (go_zero HGK.out rfl))
        obtain ⟨A5, c5, rfl, hs5, hc5⟩ := own_sl HOW.out
        have HS5 := Lib.hid hs5
        clear hs5
        go_wp2
        go_ret2
        exact ⟨A5, o.length, c5, by rw [HF.out]; first | done | rfl, by rw [HF.out]; exact HS5.out, hc5, HW.out⟩
      · have hq0' : ((q : Int) == 0) = false := by simpa using hq0
        have hq0'' : ((q : Int) != 0) = true := by simpa using hq0
        have hqln : q < ln := by have h := HGK.out.lt.1; have := HLN.out; omega
        have g0 := KBR.out.cell 0 _ rfl
        have g1 := KBR.out.cell 1 _ rfl
        have g2 := KBR.out.cell 2 _ rfl
        have K1 := KP.out q hqln _ HW.out
        have hup : upR2 (l.map locOf) q = match upC2 (l.map locOf) q with | some k => ((k : Int), 0) | none => (0, 10) := rfl
        cases hu : upC2 (l.map locOf) q with
        | none =>
          rw [hu] at hup
          simp only at hup
          rw [hup] at K1
          have HK1 := Lib.hid K1
          have HF := Lib.hid (HGO2.out.symm.trans (go_none HGK.out hq0 hu))
          clear K1 hup hu
          go_wp2_with fail
          refine HK1.out.mono ?_
          rintro e w5 ⟨rfl, hw5⟩
          have HW5 := Lib.hid (HW.out.trans hw5)
          clear hw5
          go_wp2
          all_goals go_ret2
          all_goals exact ⟨none, 0, 0, by rw [HF.out]; first | done | rfl, by rw [HF.out]; exact Sl.nil _ _, Nat.le_refl _, HW5.out⟩
        | some k =>
          rw [hu] at hup
          simp only at hup
          rw [hup] at K1
          have HK1 := Lib.hid K1
          have HU2 := Lib.hid hu
          have hol := go_len HGK.out
          have HLN2 := HLN.out
          clear K1 hup hu
          go_wp2_with fail
          refine HK1.out.mono ?_
          rintro e w5 ⟨rfl, hw5⟩
          have HW5 := Lib.hid (HW.out.trans hw5)
          have HWF5 := Lib.hid (HWF.out.trans hw5)
          have KB5 := Lib.hid (KBR.out.ext hw5)
          have HO5 := Lib.hid (own_ext HOW.out hw5)
          obtain ⟨A5, c5, rfl, hs5, hc5⟩ := own_sl (own_ext HOW.out hw5)
          have HS5 := Lib.hid hs5
          clear hw5 hs5 g0 g1 g2
          go_wp2_with fail
          go_loopw [12] (CIn w5 o k o.length) (fun i _ => o.length - (intOf i).toNat)
          case atStart => exact ⟨0, Nat.zero_le _, rfl, by simp, Ext.refl _⟩
          case round =>
            obtain ⟨j, hj, rfl, hnot, hwj⟩ := hrel
            have HNOT := Lib.hid hnot
            have HWJ := Lib.hid hwj
            clear hnot hwj
            by_cases hjn : j < o.length
            · obtain ⟨ad, y, rfl, hy, hcy⟩ := (HS5.out.ext HWJ.out).at_map hjn
              unfold natV at hcy
              have hjI : (j : Int) < (o.length : Int) := by omega
              have HY := Lib.hid hy
              clear hy
              by_cases hyk : y = k
              · subst hyk
                have HF := Lib.hid (HGO2.out.symm.trans (go_cycle HGK.out hq0 HU2.out (List.mem_of_getElem? HY.out)))
                have heq : ((y : Int) == (y : Int)) = true := by simp
                go_wp2
                all_goals go_ret2
                all_goals exact ⟨none, 0, 0, by rw [HF.out]; first | done | rfl, by rw [HF.out]; exact Sl.nil _ _, Nat.le_refl _, HW5.out.trans HWJ.out⟩
              · have heq : ((y : Int) == (k : Int)) = false := by simp; omega
                have HN2 := Lib.hid (show k ∉ o.take (j + 1) from by
                  rw [take_next HY.out]
                  intro h
                  rcases List.mem_append.1 h with h | h
                  · exact HNOT.out h
                  · exact hyk (List.mem_singleton.1 h).symm)
                go_wp2
                exact ⟨⟨j + 1, by omega, by go_num, HN2.out, HWJ.out⟩, by simp [intOf]; omega⟩
            · have hjj : j = o.length := by omega
              subst hjj
              have HKO := Lib.hid (show k ∉ o from by have h := HNOT.out; rwa [List.take_length] at h)
              obtain ⟨e1, hg1⟩ := go_on HGK.out hq0 HU2.out HKO.out HTN.out
              have HE1 := Lib.hid (e1.symm.trans HGO2.out)
              have HG1 := Lib.hid hg1
              obtain ⟨gg1, hgg1⟩ := HGK.out.pos
              have hb8 : o.length + 1 ≤ 100001 := by omega
              clear e1 hg1
              go_wp2_with (at_builtin; refine wpList_app2 _ rfl _ _ 60 rfl w4.heap.size 3 i0 _ 8 Tryz.underlying60 hi hz0 hz1 hz2 rfl _ o.length _ rfl ((own_ext HO5.out HWJ.out).alloc _) _ 1 _ _ rfl (Sl.one _ _ _) (by simp [Value.oneCell']) (by unfold maxLen; omega) (by omega) (by have := Ext.size (HWF5.out.trans HWJ.out); simp; omega) ?_; intro v6 w6 hown6 hgrow6 hwh6; have HO6 := Lib.hid hown6; have HG6 := Lib.hid hgrow6; clear hown6 hgrow6 hwh6)
              have HX6 := Lib.hid (ext_grown (a := w4) (B := w4.heap.size) ((HWF5.out.trans HWJ.out).alloc (.cells #[.int .i64 (k : Int)] 3)) ((own_ext HO5.out HWJ.out).alloc _) (Nat.le_refl _) HG6.out)
              go_roundg gg1
              case measure => omega
              case rel =>
                refine ⟨k, o ++ [k], rfl, ?_, ?_, ?_, HX6.out⟩
                · have h := HG1.out; rw [hgg1] at h; exact h
                · have h := HE1.out; rw [hgg1] at h; exact h
                · rw [List.length_append, List.map_append]
                  exact HO6.out
end Go.Proofs.YtehcldnicefmeaaGreatDoor
