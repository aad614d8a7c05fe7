import Derived.Test.YtiijdojihleggaaGreatDoorRNZK
import Derived.Test.YtiijdojihleggaaGreatDoorRNZM
import Derived.Test.YtiijdojihleggaaGreatDoorRZsog
import Derived.Test.YtiijdojihleggaaGreatDoorRZrjg
set_option maxRecDepth 100000
set_option linter.unusedSimpArgs false
set_option linter.unusedVariables false
open Go.Lib (hid)
namespace Go.Proofs.YtiijdojihleggaaGreatDoor.lawMemoryMatches
open Go.ChangeShapes Go.WideShapes Go.ChangeAt Go.RowKit
theorem add_sub {m : List SgP} {s t : ByteArray} {p : SgP} (h : p ∈ (addM m s t).1) : p ∈ m ∨ p = (s, t) := by
 unfold addM at h
 split at h
 ·exact .inl h
 ·split at h
  ·exact .inl h
  ·rcases List.mem_append.1 h with h | h
   ·exact .inl h
   ·exact .inr (List.mem_singleton.1 h)
theorem build_sub : ∀ (l m : List SgP) (p : SgP), p ∈ l.foldl (fun m x => (addM m x.1 x.2).1) m → p ∈ m ∨ p ∈ l
 | [], m, p, h => .inl h
 | x :: l, m, p, h => by
   rw [List.foldl_cons] at h
   rcases build_sub l _ p h with h | h
   ·rcases add_sub h with h | h
    ·exact .inl h
    ·exact .inr (by rw [h]; exact List.mem_cons_self ..)
   ·exact .inr (List.mem_cons_of_mem _ h)
theorem mt_atK {w : World} {A : Option Addr} {R : List Mt} (h : SlN w A R.length 4 (R.flatMap mtC)) {k : Nat} {x : Mt} (hx : R[k]? = some x) : ∃ b o, A = some ⟨b, o, none⟩ ∧ b < w.heap.size ∧ w.cell? ⟨b, o + k * 4, none⟩ = some (.int .i64 x.i) ∧ w.cell? ⟨b, o + k * 4 + 1, none⟩ = some (.int .i64 x.n) ∧ w.cell? ⟨b, o + k * 4 + 2, none⟩ = some (.string x.s) ∧ w.cell? ⟨b, o + k * 4 + 3, none⟩ = some (.string x.t) := by
 have key : ∀ j v, j < 4 → (mtC x)[j]? = some v → (R.flatMap mtC)[k * 4 + j]? = some v := fun j v hj hv => by rw [flat_get mtC 4 (fun _ => rfl) R k j x hx hj]; exact hv
 obtain ⟨b, o, rfl, hb, h0⟩ := h.2 _ _ (key 0 (.int .i64 x.i) (by decide) rfl)
 obtain ⟨b1, o1, e1, _, h1⟩ := h.2 _ _ (key 1 (.int .i64 x.n) (by decide) rfl)
 obtain ⟨b2, o2, e2, _, h2⟩ := h.2 _ _ (key 2 (.string x.s) (by decide) rfl)
 obtain ⟨b3, o3, e3, _, h3⟩ := h.2 _ _ (key 3 (.string x.t) (by decide) rfl)
 injection e1 with e1; injection e1 with p1 q1 _
 injection e2 with e2; injection e2 with p2 q2 _
 injection e3 with e3; injection e3 with p3 q3 _
 subst p1 q1 p2 q2 p3 q3
 exact ⟨b, o, rfl, hb, by simpa using h0, by rw [Nat.add_assoc]; exact h1, by rw [Nat.add_assoc]; exact h2, by rw [Nat.add_assoc]; exact h3⟩
def MtI (w6 : World) (n : Nat) (i : Value) (wr : World) : Prop := ∃ m : Nat, i = .int .i64 m ∧ m ≤ n ∧ Ext w6 wr
set_option maxHeartbeats 8000000 in
theorem law (l : List SgP) (A : Option Addr) (n c : Nat) (text : ByteArray) (least : Int) (w : World) (hm : Mx w) (hA : Als w A n l) (hl : ∀ x ∈ l, x.1.size ≤ maxLen ∧ x.2.size ≤ maxLen) (hn : n ≤ maxLen) (ht : text.size ≤ maxLen) :
 Calls Tryz.prog 4 #[.slice A n c, .string text, .int .i64 least] w (RetTrue w) := by
 have HM := hid hm
 have HA := hid hA
 have KF := hid (fun W (hW : Ext w W) => rFew_any l A n c W (hA.ext hW) hl hn)
 obtain ⟨fw, hfw⟩ : ∃ b, b = fewM l := ⟨_, rfl⟩
 rw [← hfw] at KF
 have HFW := hid hfw
 unfold maxLen at ht
 clear hm hA hl hn hfw
 go_enter Tryz.func4, Tryz.ntmps4
 go_wp2_with fail
 refine (awake_any _ HM.out).mono ?_
 rintro e w1 ⟨rfl, hw1⟩
 have HW1 := hid hw1
 clear hw1
 go_wp2_with fail
 refine (KF.out _ HW1.out).mono ?_
 rintro e w2 ⟨rfl, rfl⟩
 cases fw
 ·as_aux_lemma =>
  go_wp2
  go_ret
  exact ⟨rfl, HW1.out⟩
 have HFS := hid (few_spec HFW.out.symm)
 by_cases h2 : 200 < text.size
 ·as_aux_lemma =>
  have h2z : (200 : Int) < text.size := by omega
  go_wp2
  go_ret
  exact ⟨rfl, HW1.out⟩
 have h2z : ¬ (200 : Int) < text.size := by omega
 as_aux_lemma =>
 go_wp2_with fail
 refine (build_any l A n c w2 (HA.out.ext HW1.out) HFS.out).mono ?_
 rintro e w3 ⟨gm, A3, c3, rfl, T, hmt, _, _, hal, hx3⟩
 obtain ⟨M, hM⟩ : ∃ M, M = buildM l := ⟨_, rfl⟩
 rw [← hM] at hmt hal ⊢
 have hMl : M.length ≤ 30 := by rw [hM, ← bld_all]; have := bld_len l l.length; have := HFS.out.1; omega
 have HSH := hid (show ShortM M from by rw [hM, ← bld_all]; exact bld_short l _)
 have HMS := hid (show ∀ x ∈ M, x.1.size ≤ 400 from fun x hx => by
  rw [hM] at hx
  rcases build_sub l [] x hx with h | h
  ·cases h
  ·have := (HFS.out.2 x h).1; omega)
 have HMT := hid hmt
 have HAL := hid hal
 have HX3 := hid (HW1.out.trans hx3)
 clear hmt hal hx3 hM
 go_wp2_with fail
 have KA := tAll_any HMT.out HSH.out stab_30 hMl (by omega) text (by omega) least
 have KB := fun W (hW : Ext w3 W) => tBest_any (HMT.out.ext hW) HSH.out stab_30 hMl (by omega) text (by omega) least
 have KR := fun W (hW : Ext w3 W) => rAll_any M A3 M.length c3 text least W (HAL.out.ext hW) HMS.out (by omega) (by omega)
 obtain ⟨R, hR⟩ : ∃ R, R = allM M text least := ⟨_, rfl⟩
 rw [← hR] at KA KB KR
 have HRL := hid (show R.length ≤ 30 from by rw [hR, ← rall_all least (short_not (s := text) (by omega))]; have := rall_len M text least M.length; omega)
 have HKB := hid KB
 have HKR := hid KR
 clear hR KB KR
 refine KA.mono ?_
 rintro e w4 ⟨A4, c4, rfl, hs4, hx4⟩
 have HX4 := hid hx4
 have HS4a := hid hs4
 clear hs4 hx4 KA
 go_wp2_with fail
 refine (HKR.out _ HX4.out).mono ?_
 rintro e w5 ⟨A5, c5, rfl, hs5, hx5⟩
 have HX5 := hid (HX4.out.trans hx5)
 have HS4 := hid (HS4a.out.ext hx5)
 have HS5 := hid hs5
 have hRL := HRL.out
 clear hs5 hx5 HKR HS4a
 have HI0 := hid (show MtI w5 R.length (.int .i64 0) w5 from ⟨0, rfl, Nat.zero_le _, Ext.refl _⟩)
 as_aux_lemma =>
 go_wp2_with fail
 go_loopw [12] (MtI w5 R.length) (fun i _ => R.length - (intOf i).toNat)
 case atStart => exact HI0.out
 case round =>
  obtain ⟨k, rfl, hk, hx⟩ := hrel
  obtain ⟨wo, hwo⟩ : ∃ wo : World, wo = wr := ⟨_, rfl⟩
  rw [← hwo] at hx ⊢
  clear hwo
  have HX := hid hx
  clear hx
  by_cases hkl : k < R.length
  ·have hkI : (k : Int) < (R.length : Int) := by omega
   obtain ⟨x, hx⟩ : ∃ x, R[k]? = some x := ⟨_, List.getElem?_eq_getElem hkl⟩
   obtain ⟨b4, o4, hA4, _, x0, x1, x2, x3⟩ := mt_atK (HS4.out.ext HX.out) hx
   obtain ⟨b5, o5, hA5, _, y0, y1, y2, y3⟩ := mt_atK (HS5.out.ext HX.out) hx
   subst hA4
   subst hA5
   have e1 : (x.s.toList == x.s.toList) = true := by simp
   have e2 : (x.t.toList == x.t.toList) = true := by simp
   clear hx
   as_aux_lemma =>
   go_upto_region 14 with (fail)
   go_quiet (fail)
   go_wp2_with fail
   exact ⟨⟨k + 1, by go_num, hkl, HX.out.drewN _⟩, by simp [intOf]; omega⟩
  ·have hkI : ¬ (k : Int) < (R.length : Int) := by omega
   have hke : k = R.length := by omega
   as_aux_lemma =>
   go_wp2_with fail
   refine (HKB.out _ (HX5.out.trans HX.out)).mono ?_
   rintro e w6 ⟨h6, hx6⟩
   have HX6 := hid (HX3.out.trans (HX5.out.trans (HX.out.trans hx6)))
   have HS6 := hid (HS5.out.ext (HX.out.trans hx6))
   clear hx6
   rcases h6 with ⟨hr, rfl⟩ | ⟨x, r, hr, rfl⟩
   ·subst hr
    go_wp2
    go_ret
    exact ⟨by first | rfl | simp, HX6.out.alloc _⟩
   ·have hRx : R[0]? = some x := by rw [hr]; rfl
    obtain ⟨b5, o5, hA5, hb5, y0, y1, y2, y3⟩ := mt_atK HS6.out hRx
    subst hA5
    have hRl : R.length = r.length + 1 := by rw [hr]; rfl
    obtain ⟨RL, hRL2⟩ : ∃ RL, RL = R.length := ⟨_, rfl⟩
    clear y0 y1 y2 y3
    have HRX := hid hRx
    clear hRx
    go_wp2_with fail
    have HX7 := hid (HX6.out.alloc (.cells #[.int .i64 x.i, .int .i64 x.n, .string x.s, .string x.t] 39))
    have HB7 := hid (AtC.new (T := 39) w6 #[.int .i64 x.i, .int .i64 x.n, .string x.s, .string x.t])
    have HS7 := hid (HS6.out.ext ((Ext.refl w6).alloc (.cells #[.int .i64 x.i, .int .i64 x.n, .string x.s, .string x.t] 39)))
    generalize w6.alloc (.cells #[.int .i64 x.i, .int .i64 x.n, .string x.s, .string x.t] 39) = w7 at HX7 HB7 HS7 ⊢
    obtain ⟨b6, o6, hA6, _, y0, y1, y2, y3⟩ := mt_atK HS7.out HRX.out
    injection hA6 with hA6
    injection hA6 with e3 e4 _
    subst e3 e4
    have z0 : w7.cell? ⟨w6.heap.size, 0, none⟩ = some (.int .i64 x.i) := HB7.out.cell 0 _ rfl
    have z1 : w7.cell? ⟨w6.heap.size, 1, none⟩ = some (.int .i64 x.n) := HB7.out.cell 1 _ rfl
    have z2 : w7.cell? ⟨w6.heap.size, 2, none⟩ = some (.string x.s) := HB7.out.cell 2 _ rfl
    have z3 : w7.cell? ⟨w6.heap.size, 3, none⟩ = some (.string x.t) := HB7.out.cell 3 _ rfl
    have e1 : (x.s.toList == x.s.toList) = true := by simp
    have e2 : (x.t.toList == x.t.toList) = true := by simp
    simp only [Nat.zero_mul, Nat.add_zero] at y0 y1 y2 y3
    as_aux_lemma =>
    go_quiet (fail)
    go_wp2_with fail
    go_ret
    exact ⟨by first | rfl | simp, HX7.out.drewN _⟩
end Go.Proofs.YtiijdojihleggaaGreatDoor.lawMemoryMatches
