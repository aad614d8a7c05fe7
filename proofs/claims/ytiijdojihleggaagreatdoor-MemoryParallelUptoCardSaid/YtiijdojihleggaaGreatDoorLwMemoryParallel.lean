import Derived.Test.YtiijdojihleggaaGreatDoorQNZK
import Derived.Test.YtiijdojihleggaaGreatDoorQZrag
import Derived.Test.YtiijdojihleggaaGreatDoorQJag
set_option maxRecDepth 100000
set_option linter.unusedSimpArgs false
set_option linter.unusedVariables false
open Go.Lib (hid)
namespace Go.Proofs.YtiijdojihleggaaGreatDoor.lawMemoryParallel
open Go.ChangeShapes Go.WideShapes Go.ChangeAt Go.RowKit
def LpI (w6 : World) (n : Nat) (i : Value) (wr : World) : Prop := ∃ m : Nat, i = .int .i64 m ∧ m ≤ n ∧ Ext w6 wr
theorem parL_len : ∀ (xs ys : List PlP) (out o : List NmP), parL xs ys out = some o → o.length ≤ out.length + xs.length
 | [], ys, out, o, h => by
   have e : parL [] ys out = some out := by cases ys <;> rfl
   rw [e] at h
   injection h with h
   subst h
   simp
 | x :: xs, [], out, o, h => by
   injection h with h
   subst h
   simp
 | x :: xs, y :: ys, out, o, h => by
   rw [parL] at h
   cases hs : parStep out x y with
   | none => rw [hs] at h; cases h
   | some o1 =>
     rw [hs] at h
     have h1 := parL_len xs ys o1 o h
     have h2 : o1.length ≤ out.length + 1 := by
      unfold parStep at hs
      repeat' split at hs
      all_goals cases hs
      all_goals simp
     simp only [List.length_cons]
     omega
theorem parV_len {f g : F} {l : List NmP} (h : parV f g = some l) : l.length ≤ f.nodes := by
 unfold parV at h
 split at h
 ·have h1 := parL_len _ _ _ _ h
  have h2 := places_len f
  simp at h1
  omega
 ·cases h
set_option maxHeartbeats 8000000 in
theorem law {f g : F} {v u : Value} (w : World) (hm : Mx w) (hF : FwS w (fun _ => True) f v) (hcf : Can f) (hwf : wt f ≤ 40000000) (hG : FwS w (fun _ => True) g u) (hcg : Can g) (hwg : wt g ≤ 40000000) :
 Calls Tryz.prog 6 #[v, u] w (RetTrue w) := by
 obtain ⟨Af, cf, rfl⟩ := hF.val
 obtain ⟨Ag, cg, rfl⟩ := hG.val
 have hnf : f.nodes < 100000000 := by have := nodes_wt f; omega
 have hng : g.nodes < 100000000 := by have := nodes_wt g; omega
 have HM := hid hm
 have KF := hid (fun W (hx : Ext w W) => rfew_any (hF.ext hx) hcf hwf hnf)
 have KG := hid (fun W (hx : Ext w W) => rfew_any (hG.ext hx) hcg hwg hng)
 have K1 := hid (fun W (hx : Ext w W) => tPar_any (hF.ext hx) (hG.ext hx) hcf hcg hwf hwg (by omega) (by omega) (hm.ext hx))
 have K2 := hid (fun W (hx : Ext w W) => tPar_any (hG.ext hx) (hF.ext hx) hcg hcf hwg hwf (by omega) (by omega) (hm.ext hx))
 have K3 := hid (fun W (hx : Ext w W) => rPar_any (hF.ext hx) (hG.ext hx) hcf hcg hwf hwg (by omega) (by omega))
 rw [parV_swp f g] at K2
 have HRL := hid (show ∀ l, parV f g = some l → l.length < 100000000 from fun l h => by have := parV_len h; omega)
 obtain ⟨R, hR⟩ : ∃ R, R = parV f g := ⟨_, rfl⟩
 rw [← hR] at K1 K2 K3 HRL
 clear hm hF hG hcf hcg hwf hwg hnf hng hR
 go_enter Tryz.func6, Tryz.ntmps6
 go_wp2_with fail
 refine (awake_any _ HM.out).mono ?_
 rintro e w1 ⟨rfl, hw1⟩
 have HW1 := hid hw1
 clear hw1
 go_upto_region 3 with (fail)
 obtain ⟨nb, hnb⟩ : ∃ nb : Bool, nb = nb := ⟨true, rfl⟩
 clear hnb
 go_cut [21] (fun v W => ∃ b : Bool, v = .bool b ∧ Ext w W)
 case first =>
  as_aux_lemma =>
  go_wp2_with fail
  refine (KF.out _ HW1.out).mono ?_
  rintro e w2 ⟨b1, rfl, hx2⟩
  have HW2 := hid (HW1.out.trans hx2)
  clear hx2
  cases b1
  ·go_wp2_with fail
   go_meet
   exact ⟨_, rfl, HW2.out⟩
  ·go_wp2_with fail
   refine (KG.out _ HW2.out).mono ?_
   rintro e w3 ⟨b2, rfl, hx3⟩
   have HW3 := hid (HW2.out.trans hx3)
   clear hx3
   cases b2
   ·go_wp2
    go_meet
    exact ⟨_, rfl, HW3.out⟩
   ·go_wp2
    go_meet
    exact ⟨_, rfl, HW3.out⟩
 case rest =>
 obtain ⟨b, rfl, hx3⟩ := hcut
 have HW3 := hid hx3
 clear hx3
 cases b
 rotate_left
 ·as_aux_lemma =>
  go_wp2
  go_ret
  exact ⟨rfl, HW3.out⟩
 as_aux_lemma =>
 go_wp2_with fail
 refine (K1.out _ HW3.out).mono ?_
 rintro e w4 ⟨h4, hx4⟩
 have HW4 := hid (HW3.out.trans hx4)
 rcases h4 with ⟨rfl, rfl⟩ | ⟨l, A4, c4, rfl, rfl, hs4, hl4⟩
 ·as_aux_lemma =>
  clear hx4 K1
  go_wp2_with fail
  refine (K2.out _ HW4.out).mono ?_
  rintro e w5 ⟨h5, hx5⟩
  have HW5 := hid (HW4.out.trans hx5)
  rcases h5 with ⟨_, rfl⟩ | ⟨l, A4, c4, h, _⟩
  rotate_left
  ·cases h
  clear hx5 K2
  go_wp2_with fail
  refine (K3.out _ HW5.out).mono ?_
  rintro e w6 ⟨h6, hx6⟩
  have HW6 := hid (HW5.out.trans hx6)
  rcases h6 with ⟨_, rfl⟩ | ⟨l, A4, c4, h, _⟩
  rotate_left
  ·cases h
  clear hx6 K3
  have HL0 := hid (show LpI w6 0 (.int .i64 0) w6 from ⟨0, rfl, Nat.le_refl _, Ext.refl _⟩)
  go_wp2_with fail
  go_loopw [11] (LpI w6 0) (fun i _ => 0 - (intOf i).toNat)
  case atStart => exact HL0.out
  case round =>
   obtain ⟨m, rfl, hm, hx⟩ := hrel
   obtain rfl : m = 0 := by omega
   have HX := hid (HW6.out.trans hx)
   clear hx
   go_wp2
   go_ret
   exact ⟨rfl, HX.out⟩
 have HS4 := hid hs4
 have HL4 := hid hl4
 have hlb := HRL.out l rfl
 clear hs4 hl4 hx4 K1
 as_aux_lemma =>
 go_wp2_with fail
 refine (K2.out _ HW4.out).mono ?_
 rintro e w5 ⟨h5, hx5⟩
 have HW5 := hid (HW4.out.trans hx5)
 rcases h5 with ⟨h, _⟩ | ⟨l2, A5, c5, h2, rfl, hs5, _⟩
 ·cases h
 obtain rfl : l.map swpN = l2 := by injection h2
 have HS5 := hid hs5
 have HS4b := hid (HS4.out.ext hx5)
 clear hs5 hx5 h2 K2 HS4
 as_aux_lemma =>
 go_wp2_with fail
 refine (K3.out _ HW5.out).mono ?_
 rintro e w6 ⟨h6, hx6⟩
 have HW6 := hid (HW5.out.trans hx6)
 rcases h6 with ⟨h, _⟩ | ⟨l2, A6, c6, h2, rfl, hs6, _⟩
 ·cases h
 obtain rfl : l = l2 := by injection h2
 have HS6 := hid hs6
 have HS4 := hid (HS4b.out.ext hx6)
 have HS5b := hid (HS5.out.ext hx6)
 clear hs6 hx6 h2 K3 HS4b HS5
 have hll : (l.map swpN).length = l.length := List.length_map _
 have HLB := hid (show l.length = (l.map swpN).length from (List.length_map _).symm)
 obtain ⟨l2, hl2⟩ : ∃ l2, l2 = l.map swpN := ⟨_, rfl⟩
 rw [← hl2] at HS5b hll
 rw [hll] at HS5b
 (try rw [← hl2]); (try rw [hll])
 have HL2 := hid hl2
 have HLL := hid hll
 have HL0 := hid (show LpI w6 l.length (.int .i64 0) w6 from ⟨0, rfl, Nat.zero_le _, Ext.refl _⟩)
 clear hl2 hll
 as_aux_lemma =>
 go_wp2_with fail
 go_loopw [11] (LpI w6 l.length) (fun i _ => l.length - (intOf i).toNat)
 case atStart => exact HL0.out
 case round =>
  obtain ⟨m, rfl, hm, hx⟩ := hrel
  obtain ⟨wo, rfl⟩ : ∃ wo : World, wo = wr := ⟨_, rfl⟩
  have HX := hid hx
  clear hx
  by_cases hml : m < l.length
  rotate_left
  ·as_aux_lemma =>
   have hmI : ¬ (m : Int) < (l.length : Int) := by omega
   go_wp2
   go_ret
   exact ⟨rfl, HW6.out.trans HX.out⟩
  have hmI : (m : Int) < (l.length : Int) := by omega
  obtain ⟨p, hp⟩ : ∃ p, l[m]? = some p := ⟨_, List.getElem?_eq_getElem hml⟩
  have hp2 : l2[m]? = some (swpN p) := by rw [HL2.out, List.getElem?_map, hp]; rfl
  obtain ⟨b4, o4, hA4, _, x0, x1⟩ := nm_atz (HS4.out.ext HX.out) hp
  obtain ⟨b5, o5, hA5, _, y0, y1⟩ := nm_atz (show SlN wo A5 l2.length 2 _ from by rw [HLL.out]; exact HS5b.out.ext HX.out) hp2
  obtain ⟨b6, o6, hA6, _, z0, z1⟩ := nm_atz (HS6.out.ext HX.out) hp
  subst hA4
  subst hA5
  subst hA6
  obtain ⟨n1, n2⟩ := p
  unfold swpN at y0 y1
  simp only at x0 x1 y0 y1 z0 z1
  clear hp hp2
  have e1 : (n1 == n1) = true := by simp
  have e2 : (n2 == n2) = true := by simp
  as_aux_lemma =>
  go_upto_region 13 with (fail)
  go_quiet (fail)
  go_wp2_with fail
  exact ⟨⟨m + 1, by go_num, hml, HX.out.drewN _⟩, by simp [intOf]; omega⟩
end Go.Proofs.YtiijdojihleggaaGreatDoor.lawMemoryParallel
