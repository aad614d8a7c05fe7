import Derived.Test.YtblkpgglkhmggaaGreatDoorUb
import Derived.Test.YtblkpgglkhmggaaGreatDoorMgK
namespace Go.Proofs.YtblkpgglkhmggaaGreatDoor
open Go.RowKit
set_option linter.unusedSimpArgs false
set_option linter.unusedVariables false

/-! Merge, by the reference. -/
theorem fold_step {a l : List ArgP} {x : ArgP} {p : List ArgP} (h : foldA a l = some p) : foldA a (l ++ [x]) = if (putA p x).2 = true then some (putA p x).1 else none := by
  rw [fold_app, h]
  simp [foldA]
theorem fold_stop {a l r : List ArgP} {x : ArgP} {p : List ArgP} (h : foldA a l = some p) (hp : (putA p x).2 = false) : foldA a (l ++ x :: r) = none := by
  rw [fold_app, h]
  simp [foldA, hp]
theorem put_len (l : List ArgP) (x : ArgP) : (putA l x).1.length ≤ l.length + 1 := by
  induction l with
  | nil => simp [putA]
  | cons y r ih =>
    rw [putA]
    split
    · simp
    · split
      · simp
      · simpa using ih
theorem merge_val {a b : List ArgP} (h1 : validA a = true) (h2 : validA b = true) : (∀ o, foldA a b = some o → mergeA a b = if o.length ≤ 20 then (o, 0) else ([], 6)) ∧ (foldA a b = none → mergeA a b = ([], 11)) := by
  unfold mergeA
  rw [if_pos (by rw [h1, h2]; rfl)]
  exact ⟨fun o h => by rw [h], fun h => by rw [h]⟩
def RmI (w3 : World) (a b : List ArgP) (n m : Nat) (out i : Value) (wr : World) : Prop := ∃ (k : Nat) (p : List ArgP) (A' : Option Addr) (n' c' : Nat), k ≤ m ∧ i = .int .i64 k ∧ out = .slice A' n' c' ∧ foldA a (b.take k) = some p ∧ Ags wr A' n' (p.map agP) ∧ n' ≤ c' ∧ p.length ≤ n + k ∧ Ext w3 wr
set_option maxHeartbeats 8000000 in
set_option maxRecDepth 100000 in
theorem rmerge28_any (a b : List Ag) (A B : Option Addr) (n m c d : Nat) (w : World) (hA : Ags w A n a) (hB : Ags w B m b) (hn : n ≤ maxLen) (hm : m ≤ maxLen) (hza : ∀ x ∈ a, x.n.size ≤ maxLen) (hzb : ∀ x ∈ b, x.n.size ≤ maxLen) :
    Calls Tryz.prog 28 #[.slice A n c, .slice B m d] w (RetMg w (mergeA (a.map agOf) (b.map agOf))) := by
  obtain ⟨i0, hi, hz0, hz1, hz2⟩ := info_parts (show (Tryz.prog.info? 58).map (fun i => (i.zero, i.size, i.bytes)) = some (some (.agg #[.string ⟨#[]⟩, .int .i64 0]), 2, 24) from by kernel_rfl)
  have HA := Lib.hid hA
  have HB := Lib.hid hB
  have HL1 := Lib.hid hA.len
  have HL2 := Lib.hid hB.len
  have K1 := fun W (h : Ext w W) => rvalid28_any a A n c W (HA.out.ext h) hn hza
  have K2 := fun W (h : Ext w W) => rvalid28_any b B m d W (HB.out.ext h) hm hzb
  obtain ⟨M, hM⟩ : ∃ M, M = mergeA (a.map agOf) (b.map agOf) := ⟨_, rfl⟩
  rw [← hM]
  have HM := Lib.hid hM
  clear hA hB hza hzb hM
  go_enter Tryz.func28, Tryz.ntmps28
  cases v1 : validA (a.map agOf)
  · rw [v1] at K1
    have HK1 := Lib.hid K1
    have HF := Lib.hid (show M = ([], 1) from by rw [HM.out]; unfold mergeA; rw [if_neg (by rw [v1, Bool.false_and]; decide)])
    clear K1 K2 v1
    go_wp2_with fail
    refine (HK1.out _ (Ext.refl _)).mono ?_
    rintro e w2 ⟨rfl, hw2⟩
    have HW2 := Lib.hid hw2
    clear hw2
    go_wp2
    go_ret2
    exact retMg_nil HF.out HW2.out
  rw [v1] at K1
  have HK1 := Lib.hid K1
  have HV1 := Lib.hid v1
  clear K1 v1
  go_wp2_with fail
  refine (HK1.out _ (Ext.refl _)).mono ?_
  rintro e w2 ⟨rfl, hw2⟩
  have HW2 := Lib.hid hw2
  clear hw2
  cases v2 : validA (b.map agOf)
  · rw [v2] at K2
    have HK2 := Lib.hid K2
    have HF := Lib.hid (show M = ([], 1) from by rw [HM.out]; unfold mergeA; rw [if_neg (by rw [v2, Bool.and_false]; decide)])
    clear K2 v2
    go_wp2_with fail
    refine (HK2.out _ HW2.out).mono ?_
    rintro e w3 ⟨rfl, hw3⟩
    have HW3 := Lib.hid (HW2.out.trans hw3)
    clear hw3
    go_wp2
    go_ret2
    exact retMg_nil HF.out HW3.out
  rw [v2] at K2
  have HK2 := Lib.hid K2
  have HV2 := Lib.hid v2
  have HMM := Lib.hid (merge_val HV1.out v2)
  rw [← HM.out] at HMM
  clear K2 v2
  have hn20 : n ≤ 20 := by have h := (sig_ok HV1.out).2.2; rw [List.length_map, HL1.out] at h; exact h
  have hm20 : m ≤ 20 := by have h := (sig_ok HV2.out).2.2; rw [List.length_map, HL2.out] at h; exact h
  go_wp2_with fail
  refine (HK2.out _ HW2.out).mono ?_
  rintro e w3 ⟨rfl, hw3⟩
  have HW3 := Lib.hid (HW2.out.trans hw3)
  have HEM := Lib.hid (own_emptyN w3 58 2)
  have HX0 := Lib.hid (show Ext w (w3.alloc (.cells #[] 58)) from HW3.out.alloc _)
  have HA0 := Lib.hid (HA.out.ext HX0.out)
  clear hw3
  have tok := True.intro
  go_wp2_with (first
    | (have _t := tok; at_builtin; refine wpList_appSl _ rfl _ _ 25 rfl w3.heap.size 58 i0 _ 2 24 Tryz.underlying25 hi hz0 hz1 hz2 rfl (by decide) _ 0 [] rfl HEM.out A n c _ rfl HA0.out (agC_one a) (by unfold maxLen; omega) (by omega) (by simp) ?_; intro v4 w4 hown hgr; rw [Nat.zero_add, List.nil_append] at hown; have HO4 := Lib.hid hown; have HW4 := Lib.hid (ext_grown (a := w) (B := w3.heap.size) HX0.out HEM.out (Ext.size HW3.out) hgr); clear hown hgr tok))
  obtain ⟨A4, c4, rfl, hn4, hs4, _⟩ := own_form HO4.out
  have HS4 := Lib.hid (show Ags w4 A4 n a from hs4)
  clear hs4
  go_wp2_with fail
  go_loopw [6, 7] (RmI w4 (a.map agOf) (b.map agOf) n m) (fun _ i _ => m - (intOf i).toNat)
  case atStart => exact ⟨0, a.map agOf, A4, n, c4, Nat.zero_le _, rfl, rfl, by simp [foldA], by rw [← agP_back rfl]; exact HS4.out, hn4, by rw [List.length_map, HL1.out]; omega, Ext.refl _⟩
  case round =>
    obtain ⟨k, p, A5, n5, c5, hk, rfl, rfl, hf, hs5, hc5, hpl, hw⟩ := hrel
    obtain ⟨wo, rfl⟩ : ∃ wo : World, wo = wr := ⟨_, rfl⟩
    have HF := Lib.hid hf
    have HS5 := Lib.hid hs5
    have HW := Lib.hid hw
    have HN5 := Lib.hid (ags_len hs5)
    have HPL := Lib.hid hpl
    have HC5 := Lib.hid hc5
    clear hf hs5 hw hpl hc5
    by_cases hkm : k < m
    · have hkI : (k : Int) < (m : Int) := by omega
      obtain ⟨y, hy⟩ : ∃ y, b[k]? = some y := ⟨_, List.getElem?_eq_getElem (by rw [HL2.out]; exact hkm)⟩
      obtain ⟨bB, oB, rfl, hb, a0, a1⟩ := (HB.out.ext (HW4.out.trans HW.out)).at_ hy
      have HY := Lib.hid (show (b.map agOf)[k]? = some (agOf y) from by rw [List.getElem?_map, hy]; rfl)
      have HK := Lib.hid (rput_any (p.map agP) y A5 n5 c5 wo HS5.out (by have := HN5.out; have := HPL.out; omega) HC5.out)
      rw [agP_list] at HK
      clear hy
      go_wp2_with fail
      refine HK.out.mono ?_
      rintro e w6 ⟨A6, n6, c6, rfl, hs6, hc6, hw6⟩
      have HS6 := Lib.hid hs6
      have HC6 := Lib.hid hc6
      have HW6 := Lib.hid (HW.out.trans hw6)
      clear hs6 hc6 hw6
      have HPL2 := Lib.hid (put_len p (agOf y))
      have HF2 := Lib.hid (fold_step (x := agOf y) HF.out)
      cases hok : (putA p (agOf y)).2
      · have HF3 := Lib.hid (show M = ([], 11) from by
          refine HMM.out.2 ?_
          have e1 : b.map agOf = (b.map agOf).take k ++ agOf y :: (b.map agOf).drop (k + 1) := by
            have hk2 : k < (b.map agOf).length := (List.getElem?_eq_some_iff.1 HY.out).1
            have h := List.take_append_drop k (b.map agOf)
            rw [List.drop_eq_getElem_cons hk2, (List.getElem?_eq_some_iff.1 HY.out).2] at h
            exact h.symm
          rw [e1, fold_stop HF.out hok])
        clear hok
        go_wp2
        go_ret2
        exact retMg_nil HF3.out (HW4.out.trans HW6.out)
      · have HF3 := Lib.hid (show foldA (a.map agOf) ((b.map agOf).take (k + 1)) = some (putA p (agOf y)).1 from by
          rw [take_next HY.out, HF2.out, if_pos hok])
        clear hok
        go_wp2
        exact ⟨⟨k + 1, _, A6, n6, c6, by omega, by go_num, rfl, HF3.out, HS6.out, HC6.out, by have := HPL.out; have := HPL2.out; omega, HW6.out⟩, by simp [intOf]; omega⟩
    · have hkk : k = m := by omega
      subst hkk
      have HF2 := Lib.hid (show foldA (a.map agOf) (b.map agOf) = some p from by
        have h := HF.out
        rwa [List.take_of_length_le (by rw [List.length_map, HL2.out]; exact Nat.le_refl _)] at h)
      by_cases h20 : p.length ≤ 20
      · have HF3 := Lib.hid (show M = (p, 0) from by rw [HMM.out.1 p HF2.out, if_pos h20])
        have h20I : ¬ (20 : Int) < (n5 : Int) := by have := HN5.out; omega
        go_wp2
        go_ret2
        rw [HF3.out]
        exact ⟨A5, n5, c5, rfl, HS5.out, HW4.out.trans HW.out⟩
      · have HF3 := Lib.hid (show M = ([], 6) from by rw [HMM.out.1 p HF2.out, if_neg h20])
        have h20I : (20 : Int) < (n5 : Int) := by have := HN5.out; omega
        go_wp2
        go_ret2
        exact retMg_nil HF3.out (HW4.out.trans HW.out)
end Go.Proofs.YtblkpgglkhmggaaGreatDoor
