import Derived.Test.YtcfgphhhgemkdaaGreatDoorAX6
import Derived.Test.YtcfgphhhgemkdaaGreatDoorAppS
import Derived.Test.YtcfgphhhgemkdaaGreatDoorAX4
import Derived.Test.YtcfgphhhgemkdaaGreatDoorAX5
import Derived.Test.YtcfgphhhgemkdaaGreatDoorShelf
import Derived.Test.YtcfgphhhgemkdaaGreatDoorRows
import Derived.Test.YtcfgphhhgemkdaaGreatDoorCards
import Derived.Test.YtcfgphhhgemkdaaGreatDoorTie
import Derived.Shelf.Vars
namespace Go.Proofs.YtcfgphhhgemkdaaGreatDoor.lawAliasFirst
open Go.ChangeShapes Go.WideShapes Go.ChangeAt Go.RowKit
open Go.ChangeMaps (open_string shut_string)
set_option linter.unusedSimpArgs false
set_option linter.unusedVariables false

def laidL : List (String × DataW Unit) := Rows.aliasFirstRow.laid
theorem mx_of {W : World} (h : W.ShapedOpen Tryz.prog) : Mx W := Tryz.laysM146.s1_3 W h

def R8 (w13 : World) (ys : List (List UInt8)) (f : Int) (v9 v10 : Value) (wx : World) : Prop := ∃ A n c, v9 = .slice A n c ∧ v10 = .int .i64 f ∧ Sl wx A n (ys.map strv) ∧ n ≤ c ∧ Ext w13 wx
theorem stepsL_len (l : List Ali) (s : List UInt8) : (stepsL l s).1.length ≤ 21 := by
  by_cases h : (stepsL l s).2 = 0
  · obtain ⟨xs, e, _, h2, h3, _⟩ := steps_shape h
    rw [h2]
    simp
    omega
  · rw [steps_bad h]
    simp
theorem als_more {w : World} {A : Option Addr} {n : Nat} {l : List Ali} {fb ob : ByteArray} (h : SlN w A (n + 1) 2 ([] ++ l.flatMap aliC ++ (#[.string fb, .string ob] : Array Value).toList)) : Als w A (n + 1) (l ++ [(fb, ob)]) := by
  unfold Als
  rw [List.flatMap_append]
  exact h
set_option maxRecDepth 100000 in
set_option maxHeartbeats 8000000 in
theorem law (l : List Ali) (A : Option Addr) (n c : Nat) (fb ob s : ByteArray) (w : World) (hm : Mx w) (hA : Als w A n l) (hn : n ≤ maxLen) (hz : ∀ a ∈ l, a.1.size ≤ reachBytes ∧ a.2.size ≤ reachBytes) (z1 : fb.size ≤ reachBytes) (z2 : ob.size ≤ reachBytes) (hs : s.size ≤ maxLen) :
    Calls Tryz.prog 6 #[.slice A n c, .agg #[.string fb, .string ob], .string s] w (RetTrue w) := by
  have hz1 : ∀ a ∈ [((fb, ob) : Ali)], a.1.size ≤ reachBytes ∧ a.2.size ≤ reachBytes := by intro a ha; simp at ha; subst ha; exact ⟨z1, z2⟩
  have hf1 := fun W h => few20_any l A n c W h hn hz
  have hf2 := fun (W : World) => few20_any [(fb, ob)] (some ⟨W.heap.size, 0, none⟩) 1 1 (W.alloc (.cells #[.string fb, .string ob] 34)) (SlN.lit W [.string fb, .string ob] 34 1 2 rfl) (by unfold maxLen; omega) hz1
  have hlen := hA.len
  unfold maxLen at hs
  have K1 := Lib.hid (AtC.new w #[.string fb, .string ob] : AtC 34 _ _ _)
  have HX0 := Lib.hid ((Ext.refl w).alloc (.cells #[.string fb, .string ob] 34))
  have HA := Lib.hid hA
  clear hA hz1
  cases hfa : fewL l with
  | false =>
    rw [hfa] at hf1
    have HF1 := Lib.hid hf1
    clear hf1 hf2 hfa hlen
    go_enter Tryz.func6, Tryz.ntmps6
    go_wp2_with fail
    refine (awake_any _ (hm.ext HX0.out)).mono ?_
    rintro e w1 ⟨rfl, hw1⟩
    have HW1 := Lib.hid (HX0.out.trans hw1)
    have HX1 := Lib.hid hw1
    clear hw1
    go_wp2_with fail
    refine (HF1.out _ (HA.out.ext HW1.out)).mono ?_
    rintro e w2 ⟨rfl, hw2⟩
    have HW2 := Lib.hid (HW1.out.trans hw2)
    have HX2 := Lib.hid (HX1.out.trans hw2)
    have c0 := (K1.out.ext (HX1.out.trans hw2)).cell 0 _ rfl
    have c1 := (K1.out.ext (HX1.out.trans hw2)).cell 1 _ rfl
    clear hw2
    go_wp2_with fail
    refine (awake_any _ (hm.ext HW2.out)).mono ?_
    rintro e w9 ⟨rfl, hw9⟩
    have HW9 := Lib.hid (HW2.out.trans hw9)
    clear hw9
    go_wp2
    go_ret
    exact ⟨rfl, HW9.out⟩
  | true =>
   obtain ⟨h12, h60⟩ := fewL_len hfa
   rw [hfa] at hf1
   have HF1 := Lib.hid hf1
   clear hf1 hfa
   cases hfb : fewL [(fb, ob)] with
   | false =>
    rw [hfb] at hf2
    have HF2 := Lib.hid hf2
    clear hf2 hfb hlen h60
    go_enter Tryz.func6, Tryz.ntmps6
    go_wp2_with fail
    refine (awake_any _ (hm.ext HX0.out)).mono ?_
    rintro e w1 ⟨rfl, hw1⟩
    have HW1 := Lib.hid (HX0.out.trans hw1)
    have HX1 := Lib.hid hw1
    clear hw1
    go_wp2_with fail
    refine (HF1.out _ (HA.out.ext HW1.out)).mono ?_
    rintro e w2 ⟨rfl, hw2⟩
    have HW2 := Lib.hid (HW1.out.trans hw2)
    have HX2 := Lib.hid (HX1.out.trans hw2)
    have c0 := (K1.out.ext (HX1.out.trans hw2)).cell 0 _ rfl
    have c1 := (K1.out.ext (HX1.out.trans hw2)).cell 1 _ rfl
    clear hw2
    go_wp2_with fail
    refine (HF2.out _).mono ?_
    rintro e w3 ⟨rfl, hw3⟩
    have HW3 := Lib.hid ((HW2.out.alloc (.cells #[.string fb, .string ob] 34)).trans hw3)
    have HX3 := Lib.hid ((HX2.out.alloc (.cells #[.string fb, .string ob] 34)).trans hw3)
    clear c0 c1
    have c0 := (K1.out.ext ((HX2.out.alloc _).trans hw3)).cell 0 _ rfl
    have c1 := (K1.out.ext ((HX2.out.alloc _).trans hw3)).cell 1 _ rfl
    clear hw3
    go_wp2_with fail
    refine (awake_any _ (hm.ext HW3.out)).mono ?_
    rintro e w9 ⟨rfl, hw9⟩
    have HW9 := Lib.hid (HW3.out.trans hw9)
    clear hw9
    go_wp2
    go_ret
    exact ⟨rfl, HW9.out⟩
   | true =>
    obtain ⟨_, hy⟩ := fewL_len hfb
    obtain ⟨y1, y2⟩ := hy (fb, ob) (by simp)
    simp only at y1 y2
    rw [hfb] at hf2
    have HF2 := Lib.hid hf2
    clear hf2 hfb hy
    by_cases hs60 : 60 < s.size
    · clear hlen h60 y1 y2
      go_enter Tryz.func6, Tryz.ntmps6
      go_wp2_with fail
      refine (awake_any _ (hm.ext HX0.out)).mono ?_
      rintro e w1 ⟨rfl, hw1⟩
      have HW1 := Lib.hid (HX0.out.trans hw1)
      have HX1 := Lib.hid hw1
      clear hw1
      go_wp2_with fail
      refine (HF1.out _ (HA.out.ext HW1.out)).mono ?_
      rintro e w2 ⟨rfl, hw2⟩
      have HW2 := Lib.hid (HW1.out.trans hw2)
      have HX2 := Lib.hid (HX1.out.trans hw2)
      have c0 := (K1.out.ext (HX1.out.trans hw2)).cell 0 _ rfl
      have c1 := (K1.out.ext (HX1.out.trans hw2)).cell 1 _ rfl
      clear hw2
      go_wp2_with fail
      refine (HF2.out _).mono ?_
      rintro e w3 ⟨rfl, hw3⟩
      have HW3 := Lib.hid ((HW2.out.alloc (.cells #[.string fb, .string ob] 34)).trans hw3)
      have HX3 := Lib.hid ((HX2.out.alloc (.cells #[.string fb, .string ob] 34)).trans hw3)
      clear c0 c1
      have c0 := (K1.out.ext ((HX2.out.alloc _).trans hw3)).cell 0 _ rfl
      have c1 := (K1.out.ext ((HX2.out.alloc _).trans hw3)).cell 1 _ rfl
      clear hw3
      go_wp2_with fail
      refine (awake_any _ (hm.ext HW3.out)).mono ?_
      rintro e w9 ⟨rfl, hw9⟩
      have HW9 := Lib.hid (HW3.out.trans hw9)
      clear hw9
      go_wp2
      go_ret
      exact ⟨rfl, HW9.out⟩
    · have hpr := fun W => rproper_any fb ob W (by omega) (by omega)
      cases hal : aliB (fb, ob) with
      | false =>
        rw [hal] at hpr
        have HPR := Lib.hid hpr
        clear hpr hal hlen h60 y1 y2
        go_enter Tryz.func6, Tryz.ntmps6
        go_wp2_with fail
        refine (awake_any _ (hm.ext HX0.out)).mono ?_
        rintro e w1 ⟨rfl, hw1⟩
        have HW1 := Lib.hid (HX0.out.trans hw1)
        have HX1 := Lib.hid hw1
        clear hw1
        go_wp2_with fail
        refine (HF1.out _ (HA.out.ext HW1.out)).mono ?_
        rintro e w2 ⟨rfl, hw2⟩
        have HW2 := Lib.hid (HW1.out.trans hw2)
        have HX2 := Lib.hid (HX1.out.trans hw2)
        have c0 := (K1.out.ext (HX1.out.trans hw2)).cell 0 _ rfl
        have c1 := (K1.out.ext (HX1.out.trans hw2)).cell 1 _ rfl
        clear hw2
        go_wp2_with fail
        refine (HF2.out _).mono ?_
        rintro e w3 ⟨rfl, hw3⟩
        have HW3 := Lib.hid ((HW2.out.alloc (.cells #[.string fb, .string ob] 34)).trans hw3)
        have HX3 := Lib.hid ((HX2.out.alloc (.cells #[.string fb, .string ob] 34)).trans hw3)
        clear c0 c1
        have c0 := (K1.out.ext ((HX2.out.alloc _).trans hw3)).cell 0 _ rfl
        have c1 := (K1.out.ext ((HX2.out.alloc _).trans hw3)).cell 1 _ rfl
        clear hw3
        go_wp2_with fail
        refine (HPR.out _).mono ?_
        rintro e w4 ⟨rfl, hw4⟩
        have HW4 := Lib.hid (HW3.out.trans hw4)
        have HX4 := Lib.hid (HX3.out.trans hw4)
        clear c0 c1 hw4
        go_wp2_with fail
        refine (awake_any _ (hm.ext HW4.out)).mono ?_
        rintro e w9 ⟨rfl, hw9⟩
        have HW9 := Lib.hid (HW4.out.trans hw9)
        clear hw9
        go_wp2
        go_ret
        exact ⟨rfl, HW9.out⟩
      | true =>
        rw [hal] at hpr
        have HPR := Lib.hid hpr
        have h60' : ∀ a ∈ l ++ [((fb, ob) : Ali)], a.1.size ≤ 60000 ∧ a.2.size ≤ 60000 := by
          intro a ha
          rcases List.mem_append.1 ha with h | h
          · exact h60 a h
          · simp at h; subst h; exact ⟨y1, y2⟩
        have hs1 := fun W hW h => tsteps_any l s A n c W hW h (by omega) h60 (by omega)
        have hs2 := fun A' c' W hW h => tsteps_any (l ++ [(fb, ob)]) s A' (n + 1) c' W hW h (by omega) h60' (by omega)
        have hmore := fun h => steps_more (l := l) (a := (fb, ob)) (s := s.data.toList) hal h
        have hne : (stepsL l s.data.toList).2 = 0 → (stepsL l s.data.toList).1 ≠ [] := fun h => by
          obtain ⟨xs, e, _, h2, _⟩ := steps_shape h
          rw [h2]
          simp
        have hll := stepsL_len l s.data.toList
        have hll2 := stepsL_len (l ++ [(fb, ob)]) s.data.toList
        have hlt : ∀ x ∈ (stepsL l s.data.toList).1, x.length ≤ 60000 := fun x hx => by
          by_cases h : (stepsL l s.data.toList).2 = 0
          · obtain ⟨xs, e, h1, h2, _, _, _, h5, h6⟩ := steps_shape h
            rw [h2] at hx
            obtain ⟨t, ht, rfl⟩ := List.mem_map.1 hx
            have hv : validP t = true := by
              obtain ⟨xs', e', g1, _, g3, _, g5, _⟩ := steps_end (lim := 6) (cyc := 15) (by decide) (by decide) (rules_ok h5) 20 (parseP EC s.data.toList).1 (parse_ok h6) (by rw [h1])
              rw [h1] at g1
              simp only at g1
              rw [g1] at ht
              rcases List.mem_append.1 ht with h | h
              · exact g5 t h
              · simp at h; subst h; exact g3
            have := textP_len hv
            omega
          · rw [steps_bad h] at hx
            cases hx
        generalize stepsL l s.data.toList = R1 at hs1 hmore hne hll hlt
        generalize stepsL (l ++ [(fb, ob)]) s.data.toList = R2 at hs2 hmore hll2
        obtain ⟨xs, e1⟩ := R1
        obtain ⟨ys, e2⟩ := R2
        simp only at hmore hne hll hlt hll2
        have HS1 := Lib.hid hs1
        have HS2 := Lib.hid hs2
        have HMO := Lib.hid hmore
        have HLL := Lib.hid hll
        have HLL2 := Lib.hid hll2
        have HLEN := Lib.hid hlen
        clear hpr hal h60 h60' hs1 hs2 hmore hll hll2 hlen
        by_cases he1 : e1 = 0
        · subst he1
          have hne1 := hne rfl
          obtain ⟨lb, hlb, hlb2⟩ := strv_b (xs.getLastD [])
          have hlast : xs.getLastD [] ∈ xs := by
            rcases List.eq_nil_or_concat xs with h | ⟨ys', y', h⟩
            · exact absurd h hne1
            · rw [h]; simp
          have hls : lb.size ≤ 60000 := by
            have h := hlt _ hlast
            rw [← hlb2, size_list] at h
            exact h
          have hrp := fun W hW => tarepl_any fb ob lb W hW y1 y2 hls
          have hmo := HMO.out
          rw [← hlb2] at hmo
          obtain ⟨RR, hRR⟩ : ∃ RR, RR = replL (fb, ob) lb.data.toList := ⟨_, rfl⟩
          rw [← hRR] at hrp hmo
          obtain ⟨rt, g⟩ := RR
          simp only at hrp hmo
          obtain ⟨rb, hrb, hrb2⟩ := strv_b rt
          rw [hrb] at hrp
          have hmo2 := hmo trivial
          have hpos : 0 < xs.length := List.length_pos_iff.2 hne1
          have hget : xs[xs.length - 1]? = some (xs.getLastD []) := by
            rw [List.getLastD_eq_getLast?, List.getLast?_eq_getElem?]
            rw [List.getElem?_eq_getElem (by omega)]
            rfl
          have HRP := Lib.hid hrp
          have HMO2 := Lib.hid hmo2
          have HGET := Lib.hid hget
          have HB := Lib.hid (And.intro hlb (And.intro hlb2 hrb2))
          have HPOS := Lib.hid hpos
          obtain ⟨i0, hi, hz0, hz1, hz2⟩ := info_parts (show (Tryz.prog.info? 34).map (fun i => (i.zero, i.size, i.bytes)) = some (some (.agg #[.string ⟨#[]⟩, .string ⟨#[]⟩]), 2, 32) from by kernel_rfl)
          clear hrp hmo hRR hrb hmo2 hget hlb hlb2 hrb2 hne hne1 hlast hls hlt y1 y2 hpos
          go_enter Tryz.func6, Tryz.ntmps6
          go_wp2_with fail
          refine (awake_any _ (hm.ext HX0.out)).mono ?_
          rintro e w1 ⟨rfl, hw1⟩
          have HW1 := Lib.hid (HX0.out.trans hw1)
          have HX1 := Lib.hid hw1
          clear hw1
          go_wp2_with fail
          refine (HF1.out _ (HA.out.ext HW1.out)).mono ?_
          rintro e w2 ⟨rfl, hw2⟩
          have HW2 := Lib.hid (HW1.out.trans hw2)
          have HX2 := Lib.hid (HX1.out.trans hw2)
          have c0 := (K1.out.ext (HX1.out.trans hw2)).cell 0 _ rfl
          have c1 := (K1.out.ext (HX1.out.trans hw2)).cell 1 _ rfl
          clear hw2
          go_wp2_with fail
          refine (HF2.out _).mono ?_
          rintro e w3 ⟨rfl, hw3⟩
          have HW3 := Lib.hid ((HW2.out.alloc (.cells #[.string fb, .string ob] 34)).trans hw3)
          have HX3 := Lib.hid ((HX2.out.alloc (.cells #[.string fb, .string ob] 34)).trans hw3)
          clear c0 c1
          have c0 := (K1.out.ext ((HX2.out.alloc _).trans hw3)).cell 0 _ rfl
          have c1 := (K1.out.ext ((HX2.out.alloc _).trans hw3)).cell 1 _ rfl
          clear hw3
          go_wp2_with fail
          refine (HPR.out _).mono ?_
          rintro e w4 ⟨rfl, hw4⟩
          have HW4 := Lib.hid (HW3.out.trans hw4)
          have HX4 := Lib.hid (HX3.out.trans hw4)
          clear c0 c1 hw4
          go_wp2_with fail
          refine (HS1.out _ (hm.ext HW4.out) (HA.out.ext HW4.out)).mono ?_
          rintro e w5 ⟨A5, n5, c5, rfl, hs5, hnc5, hw5⟩
          have HW5 := Lib.hid (HW4.out.trans hw5)
          have hn5 : xs.length = n5 := by have h := hs5.1; rwa [List.length_map] at h
          have h21 : n5 ≤ 21 := by have := HLL.out; omega
          have h1n : 1 ≤ n5 := by have := HPOS.out; omega
          have hn50 : ((n5 : Int) == 0) = false := by simp; omega
          have HN5 := Lib.hid hn5
          have HS5 := Lib.hid hs5
          have HA5 := Lib.hid (HA.out.ext (HW4.out.trans hw5))
          have HN12 := Lib.hid (And.intro h12 HLEN.out)
          have KB5 := Lib.hid (K1.out.ext (HX4.out.trans hw5))
          have c0 := (K1.out.ext (HX4.out.trans hw5)).cell 0 _ rfl
          have c1 := (K1.out.ext (HX4.out.trans hw5)).cell 1 _ rfl
          have hn12 : n ≤ 12 := by have := HN12.out; omega
          clear hw5 hs5 hn5 h12 hn
          go_upto_region 8 with (fail)
          go_cut [9, 10] (R8 w5 ys e2)
          case first =>
            have cA1 := (KB5.out.ext ((Ext.refl w5).alloc (.cells #[] 34))).cell 0 _ rfl
            have cB1 := (KB5.out.ext ((Ext.refl w5).alloc (.cells #[] 34))).cell 1 _ rfl
            have tok14 : True := trivial
            have tok15 : True := trivial
            go_region_law (first | (have _t := tok14; refine step_appN _ rfl _ _ 22 rfl w5.heap.size 34 i0 _ 2 32 Tryz.underlying22 hi hz0 hz1 hz2 rfl (by decide) _ 0 [] rfl ((own_emptyN w5 34 2).drew) _ n _ _ rfl (HA5.out.ext (((Ext.refl w5).alloc _).drew)) (ali_one l) (by unfold maxLen; omega) (by omega) (by simp; try omega) ?_; intro v14 w14 hown14 hgrow14; have HX14 := Lib.hid (ext_grown (a := w5) (((Ext.refl w5).alloc _).drew) ((own_emptyN w5 34 2).drew) (Nat.le_refl _) hgrow14); have hcA : w14.cell? ⟨w.heap.size, 0, none⟩ = some (.string fb) := (KB5.out.ext HX14.out).cell 0 _ rfl; have hcB : w14.cell? ⟨w.heap.size, 1, none⟩ = some (.string ob) := (KB5.out.ext HX14.out).cell 1 _ rfl; have HO14 := Lib.hid hown14; clear hown14 hgrow14 tok14) | (have _t := tok14; refine step_appN _ rfl _ _ 22 rfl w5.heap.size 34 i0 _ 2 32 Tryz.underlying22 hi hz0 hz1 hz2 rfl (by decide) _ 0 [] rfl (((own_emptyN w5 34 2).alloc _).drew) _ n _ _ rfl (HA5.out.ext ((((Ext.refl w5).alloc (.cells #[] 34)).alloc (.cells #[.string fb, .string ob] 34)).drew)) (ali_one l) (by unfold maxLen; omega) (by omega) (by simp; try omega) ?_; intro v14 w14 hown14 hgrow14; have HX14 := Lib.hid (ext_grown (a := w5) ((((Ext.refl w5).alloc (.cells #[] 34)).alloc (.cells #[.string fb, .string ob] 34)).drew) (((own_emptyN w5 34 2).alloc _).drew) (Nat.le_refl _) hgrow14); have hcA : w14.cell? ⟨w.heap.size, 0, none⟩ = some (.string fb) := (KB5.out.ext HX14.out).cell 0 _ rfl; have hcB : w14.cell? ⟨w.heap.size, 1, none⟩ = some (.string ob) := (KB5.out.ext HX14.out).cell 1 _ rfl; have HZ2 := Lib.hid (AtC.kept (T := 34) (cs := #[.string fb, .string ob]) (row := some w5.heap.size) (two_new w5 _ _) (Kept.grown hgrow14) (by simp)); have HO14 := Lib.hid hown14; clear hown14 hgrow14 tok14) | (have _t := tok14; refine step_appN _ rfl _ _ 22 rfl w5.heap.size 34 i0 _ 2 32 Tryz.underlying22 hi hz0 hz1 hz2 rfl (by decide) _ 0 [] rfl (own_empty2 w5 _ 34 2) _ n _ _ rfl (HA5.out.ext ((((Ext.refl w5).alloc (.cells #[.string fb, .string ob] 34)).alloc (.cells #[] 34)).drew)) (ali_one l) (by unfold maxLen; omega) (by omega) (by simp; try omega) ?_; intro v14 w14 hown14 hgrow14; have HX14 := Lib.hid (ext_grown (a := w5) ((((Ext.refl w5).alloc (.cells #[.string fb, .string ob] 34)).alloc (.cells #[] 34)).drew) (own_empty2 w5 _ 34 2) (Nat.le_refl _) hgrow14); have hcA : w14.cell? ⟨w.heap.size, 0, none⟩ = some (.string fb) := (KB5.out.ext HX14.out).cell 0 _ rfl; have hcB : w14.cell? ⟨w.heap.size, 1, none⟩ = some (.string ob) := (KB5.out.ext HX14.out).cell 1 _ rfl; have HZ3 := Lib.hid (AtC.kept (T := 34) (cs := #[.string fb, .string ob]) (row := some (w5.heap.size + 1)) (two_old w5 _ _) (Kept.grown hgrow14) (by simp)); have HO14 := Lib.hid hown14; clear hown14 hgrow14 tok14) | (have _t := tok15; refine step_appN _ rfl _ _ 22 rfl w5.heap.size 34 i0 _ 2 32 Tryz.underlying22 hi hz0 hz1 hz2 rfl (by decide) _ (0 + n) _ rfl (HO14.out) _ 1 _ _ rfl (slN_at (HZ2.out) rfl) (by simp [Value.oneCell']) (by unfold maxLen; omega) (by omega) (by have := Ext.size HX14.out; simp; omega) ?_; intro v15 w15 hown15 hgrow15; have HX15 := Lib.hid (ext_grown (a := w5) (HX14.out) (HO14.out) (Nat.le_refl _) hgrow15); obtain ⟨A15, c15, hv15, hs15⟩ := own_slN hown15; rw [hv15]; rw [Nat.zero_add] at hs15 ⊢; have HS15 := Lib.hid (als_more hs15); clear hown15 hgrow15 hs15 hv15 tok15) | (have _t := tok15; refine step_appN _ rfl _ _ 22 rfl w5.heap.size 34 i0 _ 2 32 Tryz.underlying22 hi hz0 hz1 hz2 rfl (by decide) _ (0 + n) _ rfl (HO14.out) _ 1 _ _ rfl (slN_at (HZ3.out) rfl) (by simp [Value.oneCell']) (by unfold maxLen; omega) (by omega) (by have := Ext.size HX14.out; simp; omega) ?_; intro v15 w15 hown15 hgrow15; have HX15 := Lib.hid (ext_grown (a := w5) (HX14.out) (HO14.out) (Nat.le_refl _) hgrow15); obtain ⟨A15, c15, hv15, hs15⟩ := own_slN hown15; rw [hv15]; rw [Nat.zero_add] at hs15 ⊢; have HS15 := Lib.hid (als_more hs15); clear hown15 hgrow15 hs15 hv15 tok15) | (have _t := tok15; refine step_appN _ rfl _ _ 22 rfl w5.heap.size 34 i0 _ 2 32 Tryz.underlying22 hi hz0 hz1 hz2 rfl (by decide) _ (0 + n) _ rfl (HO14.out.alloc _) _ 1 _ _ rfl (slN_at ((AtC.new w14 #[.string fb, .string ob] : AtC 34 _ _ _)) rfl) (by simp [Value.oneCell']) (by unfold maxLen; omega) (by omega) (by have := Ext.size HX14.out; simp; omega) ?_; intro v15 w15 hown15 hgrow15; have HX15 := Lib.hid (ext_grown (a := w5) (HX14.out.alloc _) (HO14.out.alloc _) (Nat.le_refl _) hgrow15); obtain ⟨A15, c15, hv15, hs15⟩ := own_slN hown15; rw [hv15]; rw [Nat.zero_add] at hs15 ⊢; have HS15 := Lib.hid (als_more hs15); clear hown15 hgrow15 hs15 hv15 tok15) | (go_simp; go_at_call 11; have hZ := HS2.out A15 c15 w15 (hm.ext (HW5.out.trans HX15.out)) HS15.out; refine hZ.mono ?_; rintro e w16 hq; obtain ⟨A16, n16, c16, hq1, hs16, hnc16, hw16⟩ := hq; subst hq1; have HX16 := Lib.hid (HX15.out.trans hw16); have HS16 := Lib.hid hs16; clear hw16 hs16 hZ))
            all_goals go_wp2
            all_goals go_meet
            all_goals exact ⟨A16, n16, c16, rfl, rfl, HS16.out, hnc16, HX16.out⟩
          case rest =>
            obtain ⟨A16, n16, c16, rfl, rfl, hs16, hnc16, hw16⟩ := hcut
            have HW16 := Lib.hid (HW5.out.trans hw16)
            have HX16 := Lib.hid hw16
            have HS16 := Lib.hid hs16
            have HN16 := Lib.hid hnc16
            clear c0 c1
            have c0 := (KB5.out.ext hw16).cell 0 _ rfl
            have c1 := (KB5.out.ext hw16).cell 1 _ rfl
            cases A5 with
            | none => exact absurd (none_nil HS5.out) (by omega)
            | some ad =>
              obtain ⟨b, o, rfl, _⟩ := addr_flat HS5.out (by omega)
              have hlc : ∀ W, Ext w5 W → W.cell? ⟨b, o + (n5 - 1), none⟩ = some (.string lb) := fun W h => by
                obtain ⟨ad, ha, _, hc⟩ := (HS5.out.ext h).2 (n5 - 1) (.string lb) (by rw [List.getElem?_map, ← HN5.out, HGET.out]; simp only [Option.map_some]; rw [HB.out.1])
                injection ha with ha
                subst ha
                rwa [add_flat] at hc
              have HLC := Lib.hid hlc
              have hcl := hlc _ hw16
              have hI : ((n5 : Int) - 1).toNat = n5 - 1 := by omega
              have h1I : (1 : Int) ≤ (n5 : Int) := by omega
              have hltI : (n5 : Int) - 1 < (n5 : Int) := by omega
              have hz1I : (0 : Int) ≤ (n5 : Int) - 1 := by omega
              have hwr : IntKind.i64.wrap ((n5 : Int) - 1) = (n5 : Int) - 1 := by rw [IntKind.wrap_i64]; omega
              clear c0 c1
              have c0 : ∀ x : ExtW wc, x.v.cell? ⟨w.heap.size, 0, none⟩ = some (.string fb) := fun x => (KB5.out.ext (hw16.trans x.h)).cell 0 _ rfl
              have c1 : ∀ x : ExtW wc, x.v.cell? ⟨w.heap.size, 1, none⟩ = some (.string ob) := fun x => (KB5.out.ext (hw16.trans x.h)).cell 1 _ rfl
              have c2 : ∀ x : ExtW wc, x.v.cell? ⟨b, o + (n5 - 1), none⟩ = some (.string lb) := fun x => hlc _ (hw16.trans x.h)
              clear hlc hw16 hs16 hnc16
              go_wp2
              refine wp_region_ext (by kernel_rfl) (by kernel_rfl) ?_
              repeat (go_big_quiet_step ((go_at_call 16; with_reducible exact ExtW.call (HRP.out _ (hm.ext (HW16.out.trans (ExtW.h _)))))))
              refine wpQuiet_nil ?_
              intro wx hx
              have HWX := Lib.hid (show Ext wc wx from by obtain ⟨y, hy⟩ := hx; rw [hy]; exact y.h)
              clear hx hcl c0 c1 c2
              have hcl := HLC.out _ (HX16.out.trans HWX.out)
              by_cases hg8 : g = 8
              · subst hg8
                have hcond : (8 : Int) = 8 ∨ (rt, (8 : Int)) = (lb.data.toList, 0) := .inl rfl
                have heq := HMO2.out.1 hcond
                injection heq with hy0 he2
                have hy := hy0.symm
                subst hy; subst he2
                have hn16 : n16 ≤ maxLen := by have h := HS16.out.1; rw [List.length_map] at h; have := HLL2.out; unfold maxLen; omega
                clear hcond
                have hq := samestr_any xs xs (some ⟨b, o, none⟩) A16 n5 n16 c5 c16 wx (HS5.out.ext (HX16.out.trans HWX.out)) (HS16.out.ext HWX.out) (by unfold maxLen; omega) hn16
                rw [show (xs == xs) = true from by simp] at hq
                have HQ := Lib.hid hq
                clear hq
                go_wp2_with (go_at_call 15; with_reducible refine HQ.out.mono ?_; rintro e w19 ⟨rfl, hw19⟩; have HW19 := Lib.hid hw19; clear hw19)
                go_ret
                exact ⟨rfl, (HW16.out.trans HWX.out).trans HW19.out⟩
              · have hg8b : (g == 8) = false := by simpa using hg8
                by_cases hg0 : g = 0
                · subst hg0
                  cases hrl : (rb.toList == lb.toList) with
                  | true =>
                    have hcond : (0 : Int) = 8 ∨ (rt, (0 : Int)) = (lb.data.toList, 0) := .inr (by
                      rw [eq_b, HB.out.2.2] at hrl
                      rw [show rt = lb.data.toList from by simpa using hrl])
                    have heq := HMO2.out.1 hcond
                    injection heq with hy0 he2
                    have hy := hy0.symm
                    subst hy; subst he2
                    have hn16 : n16 ≤ maxLen := by have h := HS16.out.1; rw [List.length_map] at h; have := HLL2.out; unfold maxLen; omega
                    clear hcond
                    have hq := samestr_any xs xs (some ⟨b, o, none⟩) A16 n5 n16 c5 c16 wx (HS5.out.ext (HX16.out.trans HWX.out)) (HS16.out.ext HWX.out) (by unfold maxLen; omega) hn16
                    rw [show (xs == xs) = true from by simp] at hq
                    have HQ := Lib.hid hq
                    clear hq
                    go_wp2_with (go_at_call 15; with_reducible refine HQ.out.mono ?_; rintro e w19 ⟨rfl, hw19⟩; have HW19 := Lib.hid hw19; clear hw19)
                    go_ret
                    exact ⟨rfl, (HW16.out.trans HWX.out).trans HW19.out⟩
                  | false =>
                    have hcond : ¬ ((0 : Int) = 8 ∨ (rt, (0 : Int)) = (lb.data.toList, 0)) := by
                      rintro (h | h)
                      · exact absurd h (by decide)
                      · injection h with h _
                        rw [eq_b, HB.out.2.2, h] at hrl
                        simp at hrl
                    by_cases he2 : e2 = 0
                    · subst he2
                      obtain ⟨hlt2, htk⟩ := HMO2.out.2 hcond rfl
                      have hn16e : ys.length = n16 := by have h := HS16.out.1; rwa [List.length_map] at h
                      have hlI : (n5 : Int) < (n16 : Int) := by have := HN5.out; omega
                      have hln : n5 ≤ n16 := by have := HN5.out; omega
                      have hlc : n5 ≤ c16 := Nat.le_trans hln HN16.out
                      have HTK := Lib.hid htk
                      have hys := (HS16.out.ext HWX.out).take n5 hln
                      rw [← List.map_take, ← HN5.out, HTK.out, HN5.out] at hys
                      have hq := samestr_any xs xs (some ⟨b, o, none⟩) A16 n5 n5 c5 c16 wx (HS5.out.ext (HX16.out.trans HWX.out)) hys (by unfold maxLen; omega) (by unfold maxLen; omega)
                      rw [show (xs == xs) = true from by simp] at hq
                      have HQ := Lib.hid hq
                      clear hq hys htk hlt2 hn16e hcond
                      go_wp2_with (go_at_call 15; with_reducible refine HQ.out.mono ?_; rintro e w19 ⟨rfl, hw19⟩; have HW19 := Lib.hid hw19; clear hw19)
                      go_ret
                      exact ⟨rfl, (HW16.out.trans HWX.out).trans HW19.out⟩
                    · have hb2 : (e2 == 0) = false := by simpa using he2
                      clear hcond
                      go_wp2
                      go_ret
                      exact ⟨rfl, HW16.out.trans HWX.out⟩
                · have hg0b : (g == 0) = false := by simpa using hg0
                  have hcond : ¬ (g = 8 ∨ (rt, g) = (lb.data.toList, 0)) := by
                    rintro (h | h)
                    · exact hg8 h
                    · injection h with _ h
                      exact hg0 h
                  by_cases he2 : e2 = 0
                  · subst he2
                    obtain ⟨hlt2, htk⟩ := HMO2.out.2 hcond rfl
                    have hn16e : ys.length = n16 := by have h := HS16.out.1; rwa [List.length_map] at h
                    have hlI : (n5 : Int) < (n16 : Int) := by have := HN5.out; omega
                    have hln : n5 ≤ n16 := by have := HN5.out; omega
                    have hlc : n5 ≤ c16 := Nat.le_trans hln HN16.out
                    have HTK := Lib.hid htk
                    have hys := (HS16.out.ext HWX.out).take n5 hln
                    rw [← List.map_take, ← HN5.out, HTK.out, HN5.out] at hys
                    have hq := samestr_any xs xs (some ⟨b, o, none⟩) A16 n5 n5 c5 c16 wx (HS5.out.ext (HX16.out.trans HWX.out)) hys (by unfold maxLen; omega) (by unfold maxLen; omega)
                    rw [show (xs == xs) = true from by simp] at hq
                    have HQ := Lib.hid hq
                    clear hq hys htk hlt2 hn16e hcond
                    go_wp2_with (go_at_call 15; with_reducible refine HQ.out.mono ?_; rintro e w19 ⟨rfl, hw19⟩; have HW19 := Lib.hid hw19; clear hw19)
                    go_ret
                    exact ⟨rfl, (HW16.out.trans HWX.out).trans HW19.out⟩
                  · have hb2 : (e2 == 0) = false := by simpa using he2
                    clear hcond
                    go_wp2
                    go_ret
                    exact ⟨rfl, HW16.out.trans HWX.out⟩
        · have hb1 : (e1 == 0) = false := by simpa using he1
          clear hne hlt y1 y2
          go_enter Tryz.func6, Tryz.ntmps6
          go_wp2_with fail
          refine (awake_any _ (hm.ext HX0.out)).mono ?_
          rintro e w1 ⟨rfl, hw1⟩
          have HW1 := Lib.hid (HX0.out.trans hw1)
          have HX1 := Lib.hid hw1
          clear hw1
          go_wp2_with fail
          refine (HF1.out _ (HA.out.ext HW1.out)).mono ?_
          rintro e w2 ⟨rfl, hw2⟩
          have HW2 := Lib.hid (HW1.out.trans hw2)
          have HX2 := Lib.hid (HX1.out.trans hw2)
          have c0 := (K1.out.ext (HX1.out.trans hw2)).cell 0 _ rfl
          have c1 := (K1.out.ext (HX1.out.trans hw2)).cell 1 _ rfl
          clear hw2
          go_wp2_with fail
          refine (HF2.out _).mono ?_
          rintro e w3 ⟨rfl, hw3⟩
          have HW3 := Lib.hid ((HW2.out.alloc (.cells #[.string fb, .string ob] 34)).trans hw3)
          have HX3 := Lib.hid ((HX2.out.alloc (.cells #[.string fb, .string ob] 34)).trans hw3)
          clear c0 c1
          have c0 := (K1.out.ext ((HX2.out.alloc _).trans hw3)).cell 0 _ rfl
          have c1 := (K1.out.ext ((HX2.out.alloc _).trans hw3)).cell 1 _ rfl
          clear hw3
          go_wp2_with fail
          refine (HPR.out _).mono ?_
          rintro e w4 ⟨rfl, hw4⟩
          have HW4 := Lib.hid (HW3.out.trans hw4)
          have HX4 := Lib.hid (HX3.out.trans hw4)
          clear c0 c1 hw4
          go_wp2_with fail
          refine (HS1.out _ (hm.ext HW4.out) (HA.out.ext HW4.out)).mono ?_
          rintro e w5 ⟨A5, n5, c5, rfl, hs5, _, hw5⟩
          have HW5 := Lib.hid (HW4.out.trans hw5)
          clear hw5 hs5
          go_wp2
          go_ret
          exact ⟨ret_bool (by simp [he1]), HW5.out⟩

set_option maxRecDepth 100000 in
theorem lifted (os : Os) (started : os.Started) (H : Type) (enc : TypeId × Value → H) :
    ReturnsInHanded {} Tryz.checked os 6 .any (fun w args => (Rows.aliasFirstSpec.pre enc Tryz.prog Tryz.f6 [] false w args ∧ laidMetH Tryz.prog laidL w) ∧ sizedMet enc Tryz.prog Tryz.f6 (OpenSpec.ofChange Rows.aliasFirstSpec) false w args)
      (Rows.aliasFirstSpec.post enc Tryz.prog Tryz.f6 false true false false) := by
  refine lifted_and_sized (C := Tryz.checked) (X := fun w _ => laidMetH Tryz.prog laidL w) (fun _ _ _ hh h => h.of_heap hh) own started (by kernel_rfl) Tryz.func6
    (ChangeSpec.witness_shaped (enc := enc) (C := Tryz.checked) (os := os) (X := fun w _ => laidMetH Tryz.prog laidL w) false (World.laidAll Tryz.prog os laidL) #[.slice none 0 0, .agg #[.string ⟨#[]⟩, .string ⟨#[]⟩], .string ⟨#[]⟩] 8 (World.laidAll_os _ _ _)
      (World.shaped_of_ZipB (by kernel_rfl) (by kernel_rfl)) (by kernel_rfl) (by kernel_rfl) (by kernel_rfl)
      (by rw [MakeChecks.laidMetH_plain _ _ _ (by kernel_rfl)]; exact laidMet_laidAll _ (by kernel_rfl) (by kernel_rfl))) ?_
  intro W base args ds gs before hval0 hW hL hshape hsz0
  have hval : ∀ (j : Nat) t v, Tryz.f6.params[j]? = some t → args[j]? = some v → Value.okWide Tryz.prog W .any base t v := hval0
  have hW' := hW
  obtain ⟨p, q, hA0, hV, rfl, hfz, hnd⟩ := hW
  have hA : DataW.TrodAll enc Tryz.prog W 0 (fun _ => true) true Tryz.f6.params.toList args.toList ds p := hA0
  obtain ⟨rfl, rfl⟩ := trodVars_none hV
  have hsz : ∀ m ∈ DataW.weightsEach Tryz.prog Tryz.f6.params.toList ds, m ≤ reachBytes := fun m hm => hsz0 m (by
    rw [List.append_nil, show Rows.aliasFirstSpec.plain.varTypes Tryz.checked.prog = [] from rfl, List.append_nil]
    exact hm)
  rw [Tryz.params6] at hA hval hsz
  obtain ⟨v0, v1, v2, d0, d1, d2, p0, p1, p2, rfl, rfl, rfl, h0, h1, h2⟩ := trodAll_three hA
  obtain ⟨Al, nl, cl, l, rfl, hals, hnl, _⟩ := open_als Tryz.underlying22 Tryz.underlying34 Tryz.underlying9 rfl rfl rfl rfl (by kernel_rfl) (by kernel_rfl) (okWide_slice Tryz.underlying22 (hval 0 22 v0 rfl rfl)) h0
  have hzl := als_sized Tryz.underlying22 Tryz.underlying34 Tryz.underlying9 rfl rfl rfl rfl (by kernel_rfl) (by kernel_rfl) h0 hals (fun m hm => hsz m (DataW.weights_mem_each (j := 0) rfl rfl m hm))
  obtain ⟨fb, ob, rfl, z1, z2⟩ := open_ali (hval 1 34 v1 rfl rfl) h1 (fun m hm => hsz m (DataW.weights_mem_each (j := 1) rfl rfl m hm))
  obtain ⟨s, rfl, rfl, rfl, hs⟩ := open_string Tryz.underlying9 (hval 2 9 v2 rfl rfl) h2
  refine (law l Al nl cl fb ob s W (mx_of hshape) hals hnl hzl z1 z2 hs).mono fun e W' ⟨he, hw⟩ => ?_
  subst he
  exact ⟨_, rfl, law_post (t := 4) laidOut (by rw [Tryz.params6]; intro t ht; simp at ht; rcases ht with rfl | rfl | rfl <;> exact ⟨by kernel_rfl, of_decide_eq_true (by kernel_rfl)⟩) rfl Tryz.underlying4 rfl ⟨rfl, rfl, rfl⟩ hW' hw⟩

theorem row : Rows.aliasFirstRow.holds Tryz.pinned (OpenSpec.ofChange Rows.aliasFirstSpec) :=
  OpenClaim.holds_of_wide 6 Tryz.f6 rfl rfl rfl rfl rfl rfl rfl ⟨rfl, rfl, rfl, rfl, rfl⟩ rfl rfl rfl rfl rfl (by kernel_rfl) Tryz.func6 (by kernel_rfl)
    (of_decide_eq_true (by kernel_rfl)) (by unfold Func.isWrapper; first | (rw [if_pos (by decide +kernel)]; kernel_rfl) | (rw [if_neg (by decide +kernel)]; exact ⟨rfl, rfl⟩))
    (fun os started H enc _ => lifted os started H enc)
theorem card : Rows.AliasFirstCardSaid :=
  Claim7.holds_tied_plain_at .later [] [.data, .pinned] true (true, "10b73e96291ef8f659d5be2d34b9c139528e584818198712dae8f18561ae9280") false row (fun _ h => by cases h) (by kernel_rfl) (fun _ h => by cases h) aliasFirst_row_tie rfl ⟨rfl, rfl⟩ (by kernel_rfl) rfl
    (fun f fn hf hfn => by
      obtain rfl : f = 6 := Option.some.inj ((show Tryz.prog.funcNamed "calque/calquelaw20.AliasFirst" = some 6 by kernel_rfl).symm.trans hf) |>.symm
      obtain rfl : fn = Tryz.f6 := (Option.some.inj (Tryz.func6.symm.trans hfn)).symm
      exact ⟨by kernel_rfl, fun j t ht => by
        rw [Tryz.params6] at ht
        have hm : t ∈ [22, 34, 9] := by simpa using Array.mem_of_getElem? ht
        have hall : ([22, 34, 9].all fun u => !Tryz.prog.wantsStandIn u) = true := by kernel_rfl
        exact (show Tryz.prog.wantsStandIn t = false by simpa using List.all_eq_true.1 hall t hm)⟩)
    (by kernel_rfl)
#print axioms card
end Go.Proofs.YtcfgphhhgemkdaaGreatDoor.lawAliasFirst
