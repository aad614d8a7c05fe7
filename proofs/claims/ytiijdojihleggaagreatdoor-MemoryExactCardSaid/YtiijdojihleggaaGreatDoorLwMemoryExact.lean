import Derived.Test.YtiijdojihleggaaGreatDoorRNZK
import Derived.Test.YtiijdojihleggaaGreatDoorRNZM
import Derived.Test.YtiijdojihleggaaGreatDoorRZsog
import Derived.Test.YtiijdojihleggaaGreatDoorRZsb
set_option maxRecDepth 100000
set_option linter.unusedSimpArgs false
set_option linter.unusedVariables false
open Go.Lib (hid)
namespace Go.Proofs.YtiijdojihleggaaGreatDoor.lawMemoryExact
open Go.ChangeShapes Go.WideShapes Go.ChangeAt Go.RowKit
theorem add_sub {m : List SgP} {s t : ByteArray} {p : SgP} (h : p ∈ (addM m s t).1) : p ∈ m ∨ p = (s, t) := by
 unfold addM at h
 split at h
 ·exact .inl h
 ·split at h
  ·exact .inl h
  ·rcases List.mem_append.1 h with h | h
   ·exact .inl h
   ·exact .inr (List.mem_singleton.1 h)
theorem build_sub : ∀ (l m : List SgP) (p : SgP), p ∈ l.foldl (fun m x => (addM m x.1 x.2).1) m → p ∈ m ∨ p ∈ l
 | [], m, p, h => .inl h
 | x :: l, m, p, h => by
   rw [List.foldl_cons] at h
   rcases build_sub l _ p h with h | h
   ·rcases add_sub h with h | h
    ·exact .inl h
    ·exact .inr (by rw [h]; exact List.mem_cons_self ..)
   ·exact .inr (List.mem_cons_of_mem _ h)
theorem all_src {m : List SgP} {text : ByteArray} {least : Int} {z : Mt} (h : z ∈ allM m text least) : ∃ p ∈ m, z.s = p.1 := by
 unfold allM at h
 split at h
 ·cases h
 ·rw [isoS_mem, List.mem_filter, zip_range] at h
  obtain ⟨h2, _⟩ := h
  obtain ⟨j, hj, rfl⟩ := List.mem_map.1 h2
  have hj2 := List.mem_range.1 hj
  refine ⟨m[j], List.getElem_mem hj2, ?_⟩
  show (m.getD j (⟨#[]⟩, ⟨#[]⟩)).1 = _
  rw [List.getD_eq_getElem?_getD, List.getElem?_eq_getElem hj2]
  rfl
def BstO (R R2 : List Mt) : Prop := R = [] ∨ ∃ y ys z zs, R = y :: ys ∧ R2 = z :: zs ∧ y.n ≤ z.n ∧ (y.n < z.n ∨ z.i = y.i)
set_option maxHeartbeats 8000000 in
theorem law (l : List SgP) (A : Option Addr) (n c a : Nat) (text : ByteArray) (w : World) (hm : Mx w) (hA : Als w A n l) (hl : ∀ x ∈ l, x.1.size ≤ maxLen ∧ x.2.size ≤ maxLen) (hn : n ≤ maxLen) (hnc : n ≤ c) (ha : a < 256) (ht : text.size ≤ maxLen) :
 Calls Tryz.prog 5 #[.slice A n c, .int .u8 a, .string text] w (RetTrue w) := by
 have hln := hA.len
 subst hln
 have HM := hid hm
 have HA := hid hA
 have KF := hid (fun W (hW : Ext w W) => rFew_any l A l.length c W (hA.ext hW) hl hn)
 obtain ⟨fw, hfw⟩ : ∃ b, b = fewM l := ⟨_, rfl⟩
 rw [← hfw] at KF
 have HFW := hid hfw
 unfold maxLen at ht
 clear hm hA hl hn hfw
 go_enter Tryz.func5, Tryz.ntmps5
 go_wp2_with fail
 refine (awake_any _ HM.out).mono ?_
 rintro e w1 ⟨rfl, hw1⟩
 have HW1 := hid hw1
 clear hw1
 go_wp2_with fail
 refine (KF.out _ HW1.out).mono ?_
 rintro e w2 ⟨rfl, rfl⟩
 cases fw
 ·as_aux_lemma =>
  go_wp2
  go_ret
  exact ⟨rfl, HW1.out⟩
 have HFS := hid (few_spec HFW.out.symm)
 by_cases h2 : 200 < text.size
 ·as_aux_lemma =>
  have h2z : (200 : Int) < text.size := by omega
  go_wp2
  go_ret
  exact ⟨rfl, HW1.out⟩
 have h2z : ¬ (200 : Int) < text.size := by omega
 by_cases h0 : l.length = 0
 ·as_aux_lemma =>
  have h0z : ((l.length : Int) == 0) = true := by rw [beq_iff_eq]; omega
  go_wp2
  go_ret
  exact ⟨by first | rfl | simp, HW1.out⟩
 have h0z : ((l.length : Int) == 0) = false := by rw [beq_eq_false_iff_ne]; omega
 obtain ⟨q, hq⟩ : ∃ q, q = a % l.length := ⟨_, rfl⟩
 have hql : q < l.length := by rw [hq]; exact Nat.mod_lt _ (by omega)
 obtain ⟨x, hx⟩ : ∃ x, l[q]? = some x := ⟨_, List.getElem?_eq_getElem hql⟩
 have hll := HFS.out.1
 have hxz := HFS.out.2 x (List.mem_of_getElem? hx)
 have HX0 := hid hx
 obtain ⟨b, o, rfl, hb, d0, _⟩ := (HA.out.ext HW1.out).at_ hx
 have HSX := hid (show ∀ W, Ext w2 W → W.cell? ⟨b, o + q * 2, none⟩ = some (.string x.1) from fun W hW => (Ext.cell hW hb).trans d0)
 have hqi : ((a : Int)).tmod (l.length : Int) = (q : Int) := by rw [hq]; exact (Int.ofNat_tmod a l.length).symm
 have hqe : (a : Int) % (l.length : Int) = (q : Int) := by rw [hq]; rfl
 have hqN : (q : Int) < (l.length : Int) := by omega
 have hqN2 : (q : Int) ≤ (l.length : Int) := by omega
 have hqc : (q : Int) ≤ (c : Int) := by omega
 have hlc : (l.length : Int) ≤ (c : Int) := by omega
 have p3 : IntKind.i64.wrap (a : Int) = (a : Int) := by rw [IntKind.wrap_i64]; omega
 have p4 : IntKind.i64.wrap (q : Int) = (q : Int) := by rw [IntKind.wrap_i64]; omega
 have hNm : ((l.length : Int) == -1) = false := by rw [beq_eq_false_iff_ne]; omega
 have HQ := hid hq
 obtain ⟨M, hM⟩ : ∃ M, M = buildM l := ⟨_, rfl⟩
 obtain ⟨M2, hM2⟩ : ∃ M2, M2 = buildM (l.take q) := ⟨_, rfl⟩
 have hMl : M.length ≤ 30 := by rw [hM, ← bld_all]; have := bld_len l l.length; omega
 have hM2l : M2.length ≤ 30 := by rw [hM2, ← bld_all]; have h := bld_len (l.take q) (l.take q).length; rw [List.length_take] at h ⊢; omega
 have HSH := hid (show ShortM M from by rw [hM, ← bld_all]; exact bld_short l _)
 have HSH2 := hid (show ShortM M2 from by rw [hM2, ← bld_all]; exact bld_short (l.take q) _)
 obtain ⟨z, r, hz, hzn, hzw⟩ := exact_top (m := M) (x := x) (by rw [hM]; exact build_mem HFS.out hx) (short_not (by omega))
 have hzs : z.s.size ≤ 400 := by
  obtain ⟨p, hp, e⟩ := all_src (show z ∈ allM M x.1 1000 from by rw [hz]; exact List.mem_cons_self ..)
  rw [e]
  rw [hM] at hp
  rcases build_sub l [] p hp with h | h
  ·cases h
  ·have := (HFS.out.2 p h).1; omega
 have HBO := hid (show BstO (allM M2 text 1) (allM M text 1) from by
  obtain ⟨r2, hr2⟩ := build_take l q
  cases hy : allM M2 text 1 with
  | nil => exact .inl rfl
  | cons y ys =>
    obtain ⟨z, zs, h1, h2, h3⟩ := best_more (r := r2) hy
    exact .inr ⟨y, ys, z, zs, rfl, by rw [hM, hr2, ← hM2]; exact h1, h2, h3⟩)
 have HZW := hid hzw
 have HZ := hid hz
 have HFS2 := hid (show FewS (l.take q) from ⟨by rw [List.length_take]; omega, fun p hp => HFS.out.2 p (List.mem_of_mem_take hp)⟩)
 have HMM := hid hM
 have HMM2 := hid hM2
 clear hx d0 hq hz hzw hM hM2
 as_aux_lemma =>
 go_wp2_with fail
 refine (build_any l (some ⟨b, o, none⟩) l.length c w2 (HA.out.ext HW1.out) HFS.out).mono ?_
 rintro e w3 ⟨gm, A3, c3, rfl, T, hmt, _, _, hal, hx3⟩
 have HMT := hid (show MemT T w3 gm M from by rw [HMM.out]; exact hmt)
 have HX3 := hid hx3
 obtain ⟨k3, hk3⟩ : ∃ k, k = (buildM l).length := ⟨_, rfl⟩
 rw [← hk3]
 clear hmt hal hx3 hk3
 go_wp2_with fail
 refine (build_any (l.take q) (some ⟨b, o, none⟩) q c w3 (als_take (HA.out.ext (HW1.out.trans HX3.out)) (by omega)) HFS2.out).mono ?_
 rintro e w4 ⟨gm2, A4, c4, rfl, T2, hmt2, _, _, hal2, hx4⟩
 have HMT2 := hid (show MemT T2 w4 gm2 M2 from by rw [HMM2.out]; exact hmt2)
 have HMT1 := hid (HMT.out.ext hx4)
 have HX4 := hid (HX3.out.trans hx4)
 obtain ⟨k4, hk4⟩ : ∃ k, k = (buildM (l.take q)).length := ⟨_, rfl⟩
 rw [← hk4]
 clear hmt2 hal2 hx4 hk4 HMT
 have KA := fun W (hW : Ext w4 W) => tBest_any (HMT1.out.ext hW) HSH.out stab_30 hMl (by omega) x.1 (by omega) 1000
 have KB := hid (fun W (hW : Ext w4 W) => tBest_any (HMT2.out.ext hW) HSH2.out stab_30 hM2l (by omega) text (by omega) 1)
 have KC := hid (fun W (hW : Ext w4 W) => tBest_any (HMT1.out.ext hW) HSH.out stab_30 hMl (by omega) text (by omega) 1)
 rw [HZ.out] at KA
 have HKA := hid KA
 have d0 := HSX.out _ HX4.out
 clear KA
 obtain ⟨R, hR⟩ : ∃ R, R = allM M text 1 := ⟨_, rfl⟩
 obtain ⟨R2, hR2⟩ : ∃ R, R = allM M2 text 1 := ⟨_, rfl⟩
 rw [← hR] at HBO KC
 rw [← hR2] at HBO KB
 clear hR hR2
 as_aux_lemma =>
 go_wp2_with fail
 refine (HKA.out _ (Ext.refl _)).mono ?_
 rintro e w5 ⟨h5, hx5⟩
 have HX5 := hid hx5
 clear hx5
 rcases h5 with ⟨h, _⟩ | ⟨z0, r0, h, rfl⟩
 ·cases h
 injection h with e1 e2
 subst e1
 clear e2 d0 HKA
 go_upto_region 8 with (fail)
 have HX6 := hid (HX5.out.alloc (.cells #[.int .i64 z.i, .int .i64 1000, .string z.s, .string z.t] 39))
 have HB6 := hid (AtC.new (T := 39) w5 #[.int .i64 z.i, .int .i64 1000, .string z.s, .string z.t])
 obtain ⟨w6, hw6⟩ : ∃ w6, w6 = w5.alloc (.cells #[.int .i64 z.i, .int .i64 1000, .string z.s, .string z.t] 39) := ⟨_, rfl⟩
 rw [← hw6] at HX6 HB6 ⊢
 clear hw6
 refine re8 (by kernel_rfl) (HSX.out _ (HX4.out.trans HX6.out)) (HB6.out.cell 1 _ rfl) (HB6.out.cell 2 _ rfl) (Nat.lt_of_lt_of_le hb (Ext.size (HX4.out.trans HX6.out))) HB6.out.lt HQ.out (by omega) (by omega) ha HZW.out hzs (by omega) ?_
 intros
 rename_i w7 hx7
 have HX7 := hid (HX6.out.trans hx7)
 clear hx7 HX5 HX6 HB6 HSX
 clear hqi hqe hqN hqN2 hqc hlc p3 p4 hNm hzn hzs
 as_aux_lemma =>
 go_wp2_with fail
 refine (KB.out _ HX7.out).mono ?_
 rintro e w8 ⟨h8, hx8⟩
 have HX8 := hid (HX7.out.trans hx8)
 clear hx8 KB HX7
 rcases h8 with ⟨hr, rfl⟩ | ⟨y, ys, hr, rfl⟩
 ·as_aux_lemma =>
  have HX9 := hid (HX8.out.alloc (.cells #[.int .i64 0, .int .i64 0, .string ⟨#[]⟩, .string ⟨#[]⟩] 39))
  go_wp2_with fail
  refine (KC.out _ HX9.out).mono ?_
  rintro e w9 ⟨h9, hx9⟩
  have HX10 := hid (HW1.out.trans (HX4.out.trans (HX9.out.trans hx9)))
  rcases h9 with ⟨hr9, rfl⟩ | ⟨z9, zs9, hr9, rfl⟩
  ·as_aux_lemma =>
   go_wp2
   go_ret
   exact ⟨by first | rfl | simp, HX10.out.alloc _⟩
  ·as_aux_lemma =>
   go_wp2
   go_ret
   exact ⟨by first | rfl | simp, HX10.out.alloc _⟩
 ·rcases HBO.out with h | ⟨y2, ys2, z2, zs2, h1, h2, h3, h4⟩
  ·rw [hr] at h; cases h
  have e1 : y = y2 := by rw [hr] at h1; injection h1
  subst e1
  have HX9 := hid (HX8.out.alloc (.cells #[.int .i64 y.i, .int .i64 y.n, .string y.s, .string y.t] 39))
  have HB9 := hid (AtC.new (T := 39) w8 #[.int .i64 y.i, .int .i64 y.n, .string y.s, .string y.t])
  have H34 := hid (And.intro h3 h4)
  rw [h2] at KC
  clear h1 hr h3 h4 h2 HBO
  as_aux_lemma =>
  go_wp2_with fail
  refine (KC.out _ HX9.out).mono ?_
  rintro e w9 ⟨h9, hx9⟩
  rcases h9 with ⟨h, _⟩ | ⟨z9, zs9, hr9, rfl⟩
  ·cases h
  have e2 : z2 = z9 := by injection hr9
  subst e2
  obtain ⟨h3, h4⟩ := H34.out
  have HB10 := hid (HB9.out.ext hx9)
  have HX10 := hid (HW1.out.trans (HX4.out.trans (HX9.out.trans hx9)))
  clear hr9 hx9
  go_upto_region 12 with (fail)
  have HX11 := hid (HX10.out.alloc (.cells #[.int .i64 z2.i, .int .i64 z2.n, .string z2.s, .string z2.t] 39))
  have HB11 := hid (AtC.new (T := 39) w9 #[.int .i64 z2.i, .int .i64 z2.n, .string z2.s, .string z2.t])
  have HB12 := hid (HB10.out.ext ((Ext.refl w9).alloc (.cells #[.int .i64 z2.i, .int .i64 z2.n, .string z2.s, .string z2.t] 39)))
  obtain ⟨w10, hw10⟩ : ∃ w10, w10 = w9.alloc (.cells #[.int .i64 z2.i, .int .i64 z2.n, .string z2.s, .string z2.t] 39) := ⟨_, rfl⟩
  rw [← hw10] at HX11 HB11 HB12 ⊢
  clear hw10
  have y0 : w10.cell? ⟨w8.heap.size, 0, none⟩ = some (.int .i64 y.i) := HB12.out.cell 0 _ rfl
  have y1 : w10.cell? ⟨w8.heap.size, 1, none⟩ = some (.int .i64 y.n) := HB12.out.cell 1 _ rfl
  have z0 : w10.cell? ⟨w9.heap.size, 0, none⟩ = some (.int .i64 z2.i) := HB11.out.cell 0 _ rfl
  have z1 : w10.cell? ⟨w9.heap.size, 1, none⟩ = some (.int .i64 z2.n) := HB11.out.cell 1 _ rfl
  have g1 : (decide (z2.n ≥ y.n)) = true := decide_eq_true h3
  by_cases hgt : y.n < z2.n
  ·as_aux_lemma =>
   go_wp2_with fail
   go_ret
   exact ⟨by first | rfl | simp, HX11.out⟩
  ·have hi : z2.i = y.i := by rcases h4 with h | h; exact absurd h hgt; exact h
   have hi2 : ((z2.i : Int) == (y.i : Int)) = true := by rw [hi]; simp
   clear h4
   as_aux_lemma =>
   go_wp2_with fail
   go_ret
   exact ⟨by first | rfl | simp, HX11.out⟩
end Go.Proofs.YtiijdojihleggaaGreatDoor.lawMemoryExact
