import Derived.Test.YtljdlkonlnjadaaGreatDoorYga
set_option maxRecDepth 100000
set_option linter.unusedSimpArgs false
set_option linter.unusedVariables false
open Go.Lib (hid)
namespace Go.Proofs.YtljdlkonlnjadaaGreatDoor
open Go.RowKit
theorem fe5_any (x : Lc) (w : World) : Calls Tryz.prog 31 #[.agg #[.string x.t, .string x.p, .string x.d, .slice (x.A 0) (x.n 0) (x.c 0), .slice (x.A 1) (x.n 1) (x.c 1), .string (x.s 0), .string (x.s 1), .string (x.s 2), .string (x.s 3), .int .i64 (x.i 0), .int .i64 (x.i 1), .slice (x.A 2) (x.n 2) (x.c 2), .slice (x.A 3) (x.n 3) (x.c 3), .slice (x.A 4) (x.n 4) (x.c 4), .slice (x.A 5) (x.n 5) (x.c 5), .slice (x.A 6) (x.n 6) (x.c 6)]] w fun e w' => e = .returned (.slice (x.A 2) (x.n 2) (x.c 2)) ∧ Ext w w' := by
 have h0 := (AtC.new w #[.string x.t, .string x.p, .string x.d, .slice (x.A 0) (x.n 0) (x.c 0), .slice (x.A 1) (x.n 1) (x.c 1), .string (x.s 0), .string (x.s 1), .string (x.s 2), .string (x.s 3), .int .i64 (x.i 0), .int .i64 (x.i 1), .slice (x.A 2) (x.n 2) (x.c 2), .slice (x.A 3) (x.n 3) (x.c 3), .slice (x.A 4) (x.n 4) (x.c 4), .slice (x.A 5) (x.n 5) (x.c 5), .slice (x.A 6) (x.n 6) (x.c 6)] : AtC 37 _ _ _).cell 11 _ rfl
 go_enter Tryz.func31, Tryz.ntmps31
 go_wp2
 go_ret
 exact ⟨rfl, (Ext.refl w).alloc _⟩
set_option maxHeartbeats 2000000 in
theorem each5_any (l : List Lc) (L : Option Addr) (n c : Nat) (w : World) (hL : Lcs w L n l) (hn : n ≤ 1048576) :
 Calls Tryz.prog 30 #[.slice L n c, .func (.func 31) #[] #[]] w fun e w' => ∃ v, e = .returned v ∧ w'.ownsRow w.heap.size 32 1 v n (l.map (fldV 2)) ∧ Ext w w' := by
 obtain ⟨i0, hi, hz0, hz1, hz2⟩ := info_parts (show (Tryz.prog.info? 32).map (fun i => (i.zero, i.size, i.bytes)) = some (some (.slice none 0 0), 1, 24) from by kernel_rfl)
 have hl := hL.len
 have HL := hid hL
 have HLN := hid hl
 clear hL hl
 go_enter Tryz.func30, Tryz.ntmps30
 go_wp2_with fail
 go_loopw [5, 10] (EachI w 32 l 2 n) (fun _ i _ => n - (intOf i).toNat)
 case atStart => exact ⟨0, Nat.zero_le _, rfl, World.ownsRow_nil _ _ _ _, Ext.refl _⟩
 case round =>
  obtain ⟨k, hk, rfl, hown, hw⟩ := hrel
  have HO := hid hown
  have HW := hid hw
  clear hown hw
  by_cases hkn : k < n
  ·obtain ⟨x, hx⟩ : ∃ x, l[k]? = some x := ⟨_, List.getElem?_eq_getElem (by have := HLN.out; omega)⟩
   obtain ⟨b, o, rfl, hb, hc⟩ := (HL.out.ext HW.out).at_ hx
   have a0 := hc 0 _ rfl
   have a1 := hc 1 _ rfl
   have a2 := hc 2 _ rfl
   have a3 := hc 3 _ rfl
   have a4 := hc 4 _ rfl
   have a5 := hc 5 _ rfl
   have a6 := hc 6 _ rfl
   have a7 := hc 7 _ rfl
   have a8 := hc 8 _ rfl
   have a9 := hc 9 _ rfl
   have a10 := hc 10 _ rfl
   have a11 := hc 11 _ rfl
   have a12 := hc 12 _ rfl
   have a13 := hc 13 _ rfl
   have a14 := hc 14 _ rfl
   have a15 := hc 15 _ rfl
   rw [Nat.add_zero] at a0
   have hkI : (k : Int) < (n : Int) := by omega
   have HX := hid hx
   have hat := (AtC.new wr #[.string x.t, .string x.p, .string x.d, .slice (x.A 0) (x.n 0) (x.c 0), .slice (x.A 1) (x.n 1) (x.c 1), .string (x.s 0), .string (x.s 1), .string (x.s 2), .string (x.s 3), .int .i64 (x.i 0), .int .i64 (x.i 1), .slice (x.A 2) (x.n 2) (x.c 2), .slice (x.A 3) (x.n 3) (x.c 3), .slice (x.A 4) (x.n 4) (x.c 4), .slice (x.A 5) (x.n 5) (x.c 5), .slice (x.A 6) (x.n 6) (x.c 6)] : AtC 37 _ _ _)
   have q0 := hat.cell 0 _ rfl
   have q1 := hat.cell 1 _ rfl
   have q2 := hat.cell 2 _ rfl
   have q3 := hat.cell 3 _ rfl
   have q4 := hat.cell 4 _ rfl
   have q5 := hat.cell 5 _ rfl
   have q6 := hat.cell 6 _ rfl
   have q7 := hat.cell 7 _ rfl
   have q8 := hat.cell 8 _ rfl
   have q9 := hat.cell 9 _ rfl
   have q10 := hat.cell 10 _ rfl
   have q11 := hat.cell 11 _ rfl
   have q12 := hat.cell 12 _ rfl
   have q13 := hat.cell 13 _ rfl
   have q14 := hat.cell 14 _ rfl
   have q15 := hat.cell 15 _ rfl
   have HK := hid (fe5_any x (wr.alloc (.cells #[.string x.t, .string x.p, .string x.d, .slice (x.A 0) (x.n 0) (x.c 0), .slice (x.A 1) (x.n 1) (x.c 1), .string (x.s 0), .string (x.s 1), .string (x.s 2), .string (x.s 3), .int .i64 (x.i 0), .int .i64 (x.i 1), .slice (x.A 2) (x.n 2) (x.c 2), .slice (x.A 3) (x.n 3) (x.c 3), .slice (x.A 4) (x.n 4) (x.c 4), .slice (x.A 5) (x.n 5) (x.c 5), .slice (x.A 6) (x.n 6) (x.c 6)] 37)))
   have HAL := hid ((Ext.refl wr).alloc (.cells #[.string x.t, .string x.p, .string x.d, .slice (x.A 0) (x.n 0) (x.c 0), .slice (x.A 1) (x.n 1) (x.c 1), .string (x.s 0), .string (x.s 1), .string (x.s 2), .string (x.s 3), .int .i64 (x.i 0), .int .i64 (x.i 1), .slice (x.A 2) (x.n 2) (x.c 2), .slice (x.A 3) (x.n 3) (x.c 3), .slice (x.A 4) (x.n 4) (x.c 4), .slice (x.A 5) (x.n 5) (x.c 5), .slice (x.A 6) (x.n 6) (x.c 6)] 37))
   clear hx hc hat
   go_wp2_with fail
   refine HK.out.mono ?_
   rintro e w2 ⟨rfl, hw2⟩
   have HW2 := hid (HAL.out.trans hw2)
   have HOX := hid ((own_ext HO.out HW2.out).alloc (.cells #[.slice (x.A 2) (x.n 2) (x.c 2)] 32))
   have HLIT := hid (Sl.lit w2 #[.slice (x.A 2) (x.n 2) (x.c 2)] 32 1 rfl)
   have HB := hid (show w.heap.size ≤ (w2.alloc (.cells #[.slice (x.A 2) (x.n 2) (x.c 2)] 32)).heap.size from by rw [World.size_alloc]; exact Nat.le_succ_of_le (Nat.le_trans (Ext.size HW.out) (Ext.size HW2.out)))
   clear hw2 HK
   go_wp2_with (at_builtin; refine wpList_app2 _ rfl _ _ 72 rfl w.heap.size 32 i0 _ 24 Tryz.underlying72 hi hz0 hz1 hz2 rfl _ k _ rfl HOX.out ⟨w2.heap.size, 0, none⟩ 1 1 _ rfl HLIT.out (by intro u hu; simp at hu; subst hu; rfl) (by unfold maxLen; omega) (by omega) HB.out ?_; intro v3 w3 hown3 hgrow3 hwh3; have HO3 := hid hown3; have HW3 := hid ((((HW.out.trans HW2.out).alloc (.cells #[.slice (x.A 2) (x.n 2) (x.c 2)] 32)).grown hgrow3 (fun q hq => (HOX.out.lt q hq).1))); clear hown3 hgrow3 hwh3)
   obtain ⟨A3, c3, hv3, _⟩ := own_slN HO3.out
   subst hv3
   go_wp2
   refine ⟨⟨k + 1, by omega, by go_num, ?_, HW3.out⟩, by simp [intOf]; omega⟩
   rw [take_next HX.out, List.map_append, List.map_singleton]
   exact HO3.out
  ·have hkk : k = n := by omega
   subst hkk
   have hT : l.take k = l := List.take_of_length_le (by rw [HLN.out]; exact Nat.le_refl _)
   have HO2 := hid HO.out
   rw [hT] at HO2
   go_wp2
   go_ret
   exact ⟨_, rfl, HO2.out, HW.out⟩
theorem fe7_any (x : Lc) (w : World) : Calls Tryz.prog 36 #[.agg #[.string x.t, .string x.p, .string x.d, .slice (x.A 0) (x.n 0) (x.c 0), .slice (x.A 1) (x.n 1) (x.c 1), .string (x.s 0), .string (x.s 1), .string (x.s 2), .string (x.s 3), .int .i64 (x.i 0), .int .i64 (x.i 1), .slice (x.A 2) (x.n 2) (x.c 2), .slice (x.A 3) (x.n 3) (x.c 3), .slice (x.A 4) (x.n 4) (x.c 4), .slice (x.A 5) (x.n 5) (x.c 5), .slice (x.A 6) (x.n 6) (x.c 6)]] w fun e w' => e = .returned (.slice (x.A 3) (x.n 3) (x.c 3)) ∧ Ext w w' := by
 have h0 := (AtC.new w #[.string x.t, .string x.p, .string x.d, .slice (x.A 0) (x.n 0) (x.c 0), .slice (x.A 1) (x.n 1) (x.c 1), .string (x.s 0), .string (x.s 1), .string (x.s 2), .string (x.s 3), .int .i64 (x.i 0), .int .i64 (x.i 1), .slice (x.A 2) (x.n 2) (x.c 2), .slice (x.A 3) (x.n 3) (x.c 3), .slice (x.A 4) (x.n 4) (x.c 4), .slice (x.A 5) (x.n 5) (x.c 5), .slice (x.A 6) (x.n 6) (x.c 6)] : AtC 37 _ _ _).cell 12 _ rfl
 go_enter Tryz.func36, Tryz.ntmps36
 go_wp2
 go_ret
 exact ⟨rfl, (Ext.refl w).alloc _⟩
set_option maxHeartbeats 2000000 in
theorem each7_any (l : List Lc) (L : Option Addr) (n c : Nat) (w : World) (hL : Lcs w L n l) (hn : n ≤ 1048576) :
 Calls Tryz.prog 35 #[.slice L n c, .func (.func 36) #[] #[]] w fun e w' => ∃ v, e = .returned v ∧ w'.ownsRow w.heap.size 33 1 v n (l.map (fldV 3)) ∧ Ext w w' := by
 obtain ⟨i0, hi, hz0, hz1, hz2⟩ := info_parts (show (Tryz.prog.info? 33).map (fun i => (i.zero, i.size, i.bytes)) = some (some (.slice none 0 0), 1, 24) from by kernel_rfl)
 have hl := hL.len
 have HL := hid hL
 have HLN := hid hl
 clear hL hl
 go_enter Tryz.func35, Tryz.ntmps35
 go_wp2_with fail
 go_loopw [5, 10] (EachI w 33 l 3 n) (fun _ i _ => n - (intOf i).toNat)
 case atStart => exact ⟨0, Nat.zero_le _, rfl, World.ownsRow_nil _ _ _ _, Ext.refl _⟩
 case round =>
  obtain ⟨k, hk, rfl, hown, hw⟩ := hrel
  have HO := hid hown
  have HW := hid hw
  clear hown hw
  by_cases hkn : k < n
  ·obtain ⟨x, hx⟩ : ∃ x, l[k]? = some x := ⟨_, List.getElem?_eq_getElem (by have := HLN.out; omega)⟩
   obtain ⟨b, o, rfl, hb, hc⟩ := (HL.out.ext HW.out).at_ hx
   have a0 := hc 0 _ rfl
   have a1 := hc 1 _ rfl
   have a2 := hc 2 _ rfl
   have a3 := hc 3 _ rfl
   have a4 := hc 4 _ rfl
   have a5 := hc 5 _ rfl
   have a6 := hc 6 _ rfl
   have a7 := hc 7 _ rfl
   have a8 := hc 8 _ rfl
   have a9 := hc 9 _ rfl
   have a10 := hc 10 _ rfl
   have a11 := hc 11 _ rfl
   have a12 := hc 12 _ rfl
   have a13 := hc 13 _ rfl
   have a14 := hc 14 _ rfl
   have a15 := hc 15 _ rfl
   rw [Nat.add_zero] at a0
   have hkI : (k : Int) < (n : Int) := by omega
   have HX := hid hx
   have hat := (AtC.new wr #[.string x.t, .string x.p, .string x.d, .slice (x.A 0) (x.n 0) (x.c 0), .slice (x.A 1) (x.n 1) (x.c 1), .string (x.s 0), .string (x.s 1), .string (x.s 2), .string (x.s 3), .int .i64 (x.i 0), .int .i64 (x.i 1), .slice (x.A 2) (x.n 2) (x.c 2), .slice (x.A 3) (x.n 3) (x.c 3), .slice (x.A 4) (x.n 4) (x.c 4), .slice (x.A 5) (x.n 5) (x.c 5), .slice (x.A 6) (x.n 6) (x.c 6)] : AtC 37 _ _ _)
   have q0 := hat.cell 0 _ rfl
   have q1 := hat.cell 1 _ rfl
   have q2 := hat.cell 2 _ rfl
   have q3 := hat.cell 3 _ rfl
   have q4 := hat.cell 4 _ rfl
   have q5 := hat.cell 5 _ rfl
   have q6 := hat.cell 6 _ rfl
   have q7 := hat.cell 7 _ rfl
   have q8 := hat.cell 8 _ rfl
   have q9 := hat.cell 9 _ rfl
   have q10 := hat.cell 10 _ rfl
   have q11 := hat.cell 11 _ rfl
   have q12 := hat.cell 12 _ rfl
   have q13 := hat.cell 13 _ rfl
   have q14 := hat.cell 14 _ rfl
   have q15 := hat.cell 15 _ rfl
   have HK := hid (fe7_any x (wr.alloc (.cells #[.string x.t, .string x.p, .string x.d, .slice (x.A 0) (x.n 0) (x.c 0), .slice (x.A 1) (x.n 1) (x.c 1), .string (x.s 0), .string (x.s 1), .string (x.s 2), .string (x.s 3), .int .i64 (x.i 0), .int .i64 (x.i 1), .slice (x.A 2) (x.n 2) (x.c 2), .slice (x.A 3) (x.n 3) (x.c 3), .slice (x.A 4) (x.n 4) (x.c 4), .slice (x.A 5) (x.n 5) (x.c 5), .slice (x.A 6) (x.n 6) (x.c 6)] 37)))
   have HAL := hid ((Ext.refl wr).alloc (.cells #[.string x.t, .string x.p, .string x.d, .slice (x.A 0) (x.n 0) (x.c 0), .slice (x.A 1) (x.n 1) (x.c 1), .string (x.s 0), .string (x.s 1), .string (x.s 2), .string (x.s 3), .int .i64 (x.i 0), .int .i64 (x.i 1), .slice (x.A 2) (x.n 2) (x.c 2), .slice (x.A 3) (x.n 3) (x.c 3), .slice (x.A 4) (x.n 4) (x.c 4), .slice (x.A 5) (x.n 5) (x.c 5), .slice (x.A 6) (x.n 6) (x.c 6)] 37))
   clear hx hc hat
   go_wp2_with fail
   refine HK.out.mono ?_
   rintro e w2 ⟨rfl, hw2⟩
   have HW2 := hid (HAL.out.trans hw2)
   have HOX := hid ((own_ext HO.out HW2.out).alloc (.cells #[.slice (x.A 3) (x.n 3) (x.c 3)] 33))
   have HLIT := hid (Sl.lit w2 #[.slice (x.A 3) (x.n 3) (x.c 3)] 33 1 rfl)
   have HB := hid (show w.heap.size ≤ (w2.alloc (.cells #[.slice (x.A 3) (x.n 3) (x.c 3)] 33)).heap.size from by rw [World.size_alloc]; exact Nat.le_succ_of_le (Nat.le_trans (Ext.size HW.out) (Ext.size HW2.out)))
   clear hw2 HK
   go_wp2_with (at_builtin; refine wpList_app2 _ rfl _ _ 79 rfl w.heap.size 33 i0 _ 24 Tryz.underlying79 hi hz0 hz1 hz2 rfl _ k _ rfl HOX.out ⟨w2.heap.size, 0, none⟩ 1 1 _ rfl HLIT.out (by intro u hu; simp at hu; subst hu; rfl) (by unfold maxLen; omega) (by omega) HB.out ?_; intro v3 w3 hown3 hgrow3 hwh3; have HO3 := hid hown3; have HW3 := hid ((((HW.out.trans HW2.out).alloc (.cells #[.slice (x.A 3) (x.n 3) (x.c 3)] 33)).grown hgrow3 (fun q hq => (HOX.out.lt q hq).1))); clear hown3 hgrow3 hwh3)
   obtain ⟨A3, c3, hv3, _⟩ := own_slN HO3.out
   subst hv3
   go_wp2
   refine ⟨⟨k + 1, by omega, by go_num, ?_, HW3.out⟩, by simp [intOf]; omega⟩
   rw [take_next HX.out, List.map_append, List.map_singleton]
   exact HO3.out
  ·have hkk : k = n := by omega
   subst hkk
   have hT : l.take k = l := List.take_of_length_le (by rw [HLN.out]; exact Nat.le_refl _)
   have HO2 := hid HO.out
   rw [hT] at HO2
   go_wp2
   go_ret
   exact ⟨_, rfl, HO2.out, HW.out⟩
theorem fe10_any (x : Lc) (w : World) : Calls Tryz.prog 42 #[.agg #[.string x.t, .string x.p, .string x.d, .slice (x.A 0) (x.n 0) (x.c 0), .slice (x.A 1) (x.n 1) (x.c 1), .string (x.s 0), .string (x.s 1), .string (x.s 2), .string (x.s 3), .int .i64 (x.i 0), .int .i64 (x.i 1), .slice (x.A 2) (x.n 2) (x.c 2), .slice (x.A 3) (x.n 3) (x.c 3), .slice (x.A 4) (x.n 4) (x.c 4), .slice (x.A 5) (x.n 5) (x.c 5), .slice (x.A 6) (x.n 6) (x.c 6)]] w fun e w' => e = .returned (.slice (x.A 4) (x.n 4) (x.c 4)) ∧ Ext w w' := by
 have h0 := (AtC.new w #[.string x.t, .string x.p, .string x.d, .slice (x.A 0) (x.n 0) (x.c 0), .slice (x.A 1) (x.n 1) (x.c 1), .string (x.s 0), .string (x.s 1), .string (x.s 2), .string (x.s 3), .int .i64 (x.i 0), .int .i64 (x.i 1), .slice (x.A 2) (x.n 2) (x.c 2), .slice (x.A 3) (x.n 3) (x.c 3), .slice (x.A 4) (x.n 4) (x.c 4), .slice (x.A 5) (x.n 5) (x.c 5), .slice (x.A 6) (x.n 6) (x.c 6)] : AtC 37 _ _ _).cell 13 _ rfl
 go_enter Tryz.func42, Tryz.ntmps42
 go_wp2
 go_ret
 exact ⟨rfl, (Ext.refl w).alloc _⟩
set_option maxHeartbeats 2000000 in
theorem each10_any (l : List Lc) (L : Option Addr) (n c : Nat) (w : World) (hL : Lcs w L n l) (hn : n ≤ 1048576) :
 Calls Tryz.prog 41 #[.slice L n c, .func (.func 42) #[] #[]] w fun e w' => ∃ v, e = .returned v ∧ w'.ownsRow w.heap.size 34 1 v n (l.map (fldV 4)) ∧ Ext w w' := by
 obtain ⟨i0, hi, hz0, hz1, hz2⟩ := info_parts (show (Tryz.prog.info? 34).map (fun i => (i.zero, i.size, i.bytes)) = some (some (.slice none 0 0), 1, 24) from by kernel_rfl)
 have hl := hL.len
 have HL := hid hL
 have HLN := hid hl
 clear hL hl
 go_enter Tryz.func41, Tryz.ntmps41
 go_wp2_with fail
 go_loopw [5, 10] (EachI w 34 l 4 n) (fun _ i _ => n - (intOf i).toNat)
 case atStart => exact ⟨0, Nat.zero_le _, rfl, World.ownsRow_nil _ _ _ _, Ext.refl _⟩
 case round =>
  obtain ⟨k, hk, rfl, hown, hw⟩ := hrel
  have HO := hid hown
  have HW := hid hw
  clear hown hw
  by_cases hkn : k < n
  ·obtain ⟨x, hx⟩ : ∃ x, l[k]? = some x := ⟨_, List.getElem?_eq_getElem (by have := HLN.out; omega)⟩
   obtain ⟨b, o, rfl, hb, hc⟩ := (HL.out.ext HW.out).at_ hx
   have a0 := hc 0 _ rfl
   have a1 := hc 1 _ rfl
   have a2 := hc 2 _ rfl
   have a3 := hc 3 _ rfl
   have a4 := hc 4 _ rfl
   have a5 := hc 5 _ rfl
   have a6 := hc 6 _ rfl
   have a7 := hc 7 _ rfl
   have a8 := hc 8 _ rfl
   have a9 := hc 9 _ rfl
   have a10 := hc 10 _ rfl
   have a11 := hc 11 _ rfl
   have a12 := hc 12 _ rfl
   have a13 := hc 13 _ rfl
   have a14 := hc 14 _ rfl
   have a15 := hc 15 _ rfl
   rw [Nat.add_zero] at a0
   have hkI : (k : Int) < (n : Int) := by omega
   have HX := hid hx
   have hat := (AtC.new wr #[.string x.t, .string x.p, .string x.d, .slice (x.A 0) (x.n 0) (x.c 0), .slice (x.A 1) (x.n 1) (x.c 1), .string (x.s 0), .string (x.s 1), .string (x.s 2), .string (x.s 3), .int .i64 (x.i 0), .int .i64 (x.i 1), .slice (x.A 2) (x.n 2) (x.c 2), .slice (x.A 3) (x.n 3) (x.c 3), .slice (x.A 4) (x.n 4) (x.c 4), .slice (x.A 5) (x.n 5) (x.c 5), .slice (x.A 6) (x.n 6) (x.c 6)] : AtC 37 _ _ _)
   have q0 := hat.cell 0 _ rfl
   have q1 := hat.cell 1 _ rfl
   have q2 := hat.cell 2 _ rfl
   have q3 := hat.cell 3 _ rfl
   have q4 := hat.cell 4 _ rfl
   have q5 := hat.cell 5 _ rfl
   have q6 := hat.cell 6 _ rfl
   have q7 := hat.cell 7 _ rfl
   have q8 := hat.cell 8 _ rfl
   have q9 := hat.cell 9 _ rfl
   have q10 := hat.cell 10 _ rfl
   have q11 := hat.cell 11 _ rfl
   have q12 := hat.cell 12 _ rfl
   have q13 := hat.cell 13 _ rfl
   have q14 := hat.cell 14 _ rfl
   have q15 := hat.cell 15 _ rfl
   have HK := hid (fe10_any x (wr.alloc (.cells #[.string x.t, .string x.p, .string x.d, .slice (x.A 0) (x.n 0) (x.c 0), .slice (x.A 1) (x.n 1) (x.c 1), .string (x.s 0), .string (x.s 1), .string (x.s 2), .string (x.s 3), .int .i64 (x.i 0), .int .i64 (x.i 1), .slice (x.A 2) (x.n 2) (x.c 2), .slice (x.A 3) (x.n 3) (x.c 3), .slice (x.A 4) (x.n 4) (x.c 4), .slice (x.A 5) (x.n 5) (x.c 5), .slice (x.A 6) (x.n 6) (x.c 6)] 37)))
   have HAL := hid ((Ext.refl wr).alloc (.cells #[.string x.t, .string x.p, .string x.d, .slice (x.A 0) (x.n 0) (x.c 0), .slice (x.A 1) (x.n 1) (x.c 1), .string (x.s 0), .string (x.s 1), .string (x.s 2), .string (x.s 3), .int .i64 (x.i 0), .int .i64 (x.i 1), .slice (x.A 2) (x.n 2) (x.c 2), .slice (x.A 3) (x.n 3) (x.c 3), .slice (x.A 4) (x.n 4) (x.c 4), .slice (x.A 5) (x.n 5) (x.c 5), .slice (x.A 6) (x.n 6) (x.c 6)] 37))
   clear hx hc hat
   go_wp2_with fail
   refine HK.out.mono ?_
   rintro e w2 ⟨rfl, hw2⟩
   have HW2 := hid (HAL.out.trans hw2)
   have HOX := hid ((own_ext HO.out HW2.out).alloc (.cells #[.slice (x.A 4) (x.n 4) (x.c 4)] 34))
   have HLIT := hid (Sl.lit w2 #[.slice (x.A 4) (x.n 4) (x.c 4)] 34 1 rfl)
   have HB := hid (show w.heap.size ≤ (w2.alloc (.cells #[.slice (x.A 4) (x.n 4) (x.c 4)] 34)).heap.size from by rw [World.size_alloc]; exact Nat.le_succ_of_le (Nat.le_trans (Ext.size HW.out) (Ext.size HW2.out)))
   clear hw2 HK
   go_wp2_with (at_builtin; refine wpList_app2 _ rfl _ _ 88 rfl w.heap.size 34 i0 _ 24 Tryz.underlying88 hi hz0 hz1 hz2 rfl _ k _ rfl HOX.out ⟨w2.heap.size, 0, none⟩ 1 1 _ rfl HLIT.out (by intro u hu; simp at hu; subst hu; rfl) (by unfold maxLen; omega) (by omega) HB.out ?_; intro v3 w3 hown3 hgrow3 hwh3; have HO3 := hid hown3; have HW3 := hid ((((HW.out.trans HW2.out).alloc (.cells #[.slice (x.A 4) (x.n 4) (x.c 4)] 34)).grown hgrow3 (fun q hq => (HOX.out.lt q hq).1))); clear hown3 hgrow3 hwh3)
   obtain ⟨A3, c3, hv3, _⟩ := own_slN HO3.out
   subst hv3
   go_wp2
   refine ⟨⟨k + 1, by omega, by go_num, ?_, HW3.out⟩, by simp [intOf]; omega⟩
   rw [take_next HX.out, List.map_append, List.map_singleton]
   exact HO3.out
  ·have hkk : k = n := by omega
   subst hkk
   have hT : l.take k = l := List.take_of_length_le (by rw [HLN.out]; exact Nat.le_refl _)
   have HO2 := hid HO.out
   rw [hT] at HO2
   go_wp2
   go_ret
   exact ⟨_, rfl, HO2.out, HW.out⟩
end Go.Proofs.YtljdlkonlnjadaaGreatDoor
