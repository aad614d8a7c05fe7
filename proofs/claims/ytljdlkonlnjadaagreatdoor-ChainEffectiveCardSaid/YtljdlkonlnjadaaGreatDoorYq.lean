import Derived.Test.YtljdlkonlnjadaaGreatDoorYn
import Derived.Test.YtljdlkonlnjadaaGreatDoorNZC
import Derived.Test.YtljdlkonlnjadaaGreatDoorNZD
import Derived.Test.YtljdlkonlnjadaaGreatDoorNZ3
import Derived.Test.YtljdlkonlnjadaaGreatDoorYpL
import Derived.Test.YtljdlkonlnjadaaGreatDoorYpU
import Derived.Test.YtljdlkonlnjadaaGreatDoorYpD
set_option maxRecDepth 100000
set_option linter.unusedSimpArgs false
set_option linter.unusedVariables false
open Go.Lib (hid)
namespace Go.Proofs.YtljdlkonlnjadaaGreatDoor
open Go.RowKit
def EfR (w4 : World) (rb g : Nat) (t : ByteArray) (YL : List Lk) (n : Nat) (i : Value) (wr : World) : Prop :=
 ∃ (k : Nat) (a0 a1 a2 a3 a4 a5 a6 : Option Addr) (m0 m1 m2 m3 m4 m5 m6 c0 c1 c2 c3 c4 c5 c6 : Nat), k ≤ n ∧ i = .int .i64 k ∧
   AtC 37 wr g (boxG t (dirF ((YL.take k).map (·.x.d))) (symF ((YL.take k).map fun y => syL y.x)) (.slice a0 m0 c0) (.slice a1 m1 c1) (.slice a2 m2 c2) (.slice a3 m3 c3) (.slice a4 m4 c4) (.slice a5 m5 c5) (.slice a6 m6 c6)) ∧
   (RusM (fun j => ¬ GB rb g j) wr a0 m0 (orF ((YL.take k).map (·.r 0))) ∧ RusM (fun j => ¬ GB rb g j) wr a1 m1 (orF ((YL.take k).map (·.r 1)))) ∧
   ((ElM 5 wr a2 m2 (mrgE 1 ((YL.take k).map (·.e 0))) ∧ ∀ ad, a2 = some ad → ¬ GB rb g ad.block) ∧ m2 ≤ c2 ∧ m2 ≤ 120 * k) ∧
   ((ElM 3 wr a3 m3 (mrgE 2 ((YL.take k).map (·.e 1))) ∧ ∀ ad, a3 = some ad → ¬ GB rb g ad.block) ∧ m3 ≤ c3 ∧ m3 ≤ 120 * k) ∧
   ((ElM 2 wr a4 m4 (mrgE 1 ((YL.take k).map (·.e 2))) ∧ ∀ ad, a4 = some ad → ¬ GB rb g ad.block) ∧ m4 ≤ c4 ∧ m4 ≤ 120 * k) ∧
   ElO rb g 1 wr a5 m5 (orF ((YL.take k).map (·.e 3))) ∧ ElO rb g 1 wr a6 m6 (orF ((YL.take k).map (·.e 4))) ∧
   Exc (fun j => j = g) w4 wr
def BWy (b : Bool) (W : World) (v : Value) (wx : World) : Prop := v = .bool b ∧ W = wx
theorem stF_bb {x : Lc} {s0 s1 s2 s3 r0 r1 r2 r3 : ByteArray} {i0 i1 v0 v1 : Int} {bb : Bool} (h : stF ([s0, s1, s2, s3], [i0, i1]) (syL x) = ([r0, r1, r2, r3], [v0, v1])) (hb : bb = (s0.toList.isEmpty && !(x.s 0).toList.isEmpty)) :
 (bb = false → r0 = s0 ∧ r1 = s1 ∧ r2 = s2 ∧ r3 = s3 ∧ v0 = i0 ∧ v1 = i1) ∧ (bb = true → r0 = x.s 0 ∧ r1 = x.s 1 ∧ r2 = x.s 2 ∧ r3 = x.s 3 ∧ v0 = x.i 0 ∧ v1 = x.i 1) := by
 have e1 : symE ([s0, s1, s2, s3], [i0, i1]) = s0.toList.isEmpty := by rw [sym_isE]; rfl
 have e2 : symE (syL x) = (x.s 0).toList.isEmpty := by rw [sym_isE]; rfl
 unfold stF at h
 rw [e1, e2] at h
 refine ⟨fun hf => ?_, fun ht => ?_⟩
 ·rw [if_neg (by rintro ⟨h1, h2⟩; rw [hb, h1, h2] at hf; cases hf)] at h
  injection h with h1 h2
  injection h1 with a0 h1
  injection h1 with a1 h1
  injection h1 with a2 h1
  injection h1 with a3 _
  injection h2 with b0 h2
  injection h2 with b1 _
  exact ⟨a0.symm, a1.symm, a2.symm, a3.symm, b0.symm, b1.symm⟩
 ·rw [if_pos (by rw [hb, Bool.and_eq_true, Bool.not_eq_true'] at ht; exact ht)] at h
  unfold syL at h
  injection h with h1 h2
  injection h1 with a0 h1
  injection h1 with a1 h1
  injection h1 with a2 h1
  injection h1 with a3 _
  injection h2 with b0 h2
  injection h2 with b1 _
  exact ⟨a0.symm, a1.symm, a2.symm, a3.symm, b0.symm, b1.symm⟩
set_option maxHeartbeats 8000000 in
theorem reff_any (l : List Lk) (al : List Ali) (L A N : Option Addr) (ln lc n c m d : Nat) (s : ByteArray) (w : World) (hL : Lcs w L ln (l.map (·.x))) (hln : ln ≤ 12) (hlk : ∀ y ∈ l, LkM (fun _ => True) w y) (hsec : ∀ y ∈ l, ∀ j, j < 7 → y.x.n j ≤ 120)
 (hA : Als w A n al) (hn : n ≤ 100000) (hz : ∀ a ∈ al, a.1.size ≤ 60000 ∧ a.2.size ≤ 60000) (hs : ∀ y ∈ l, y.x.t.size ≤ 60000) (hss : s.size ≤ 60000) :
 Calls Tryz.prog 9 #[.agg #[.slice L ln lc, .slice A n c, .slice N m d], .string s] w (RetEf w (effX l ((l.map (·.x)).map locOf) al s.data.toList) (locsC ((l.map (·.x)).map locOf) al s.data.toList).2) := by
 obtain ⟨i0, hi, hz0, hz1, hz2⟩ := info_parts (show (Tryz.prog.info? 37).map (fun i => (i.zero, i.size, i.bytes)) = some (some (.agg #[.string ⟨#[]⟩, .string ⟨#[]⟩, .string ⟨#[]⟩, .slice none 0 0, .slice none 0 0, .string ⟨#[]⟩, .string ⟨#[]⟩, .string ⟨#[]⟩, .string ⟨#[]⟩, .int .i64 0, .int .i64 0, .slice none 0 0, .slice none 0 0, .slice none 0 0, .slice none 0 0, .slice none 0 0]), 16, 296) from by kernel_rfl)
 have hw0 : Ext w ((w.alloc (.cells #[.slice L ln lc, .slice A n c, .slice N m d] 26)).alloc (.cells #[.string ⟨#[]⟩, .string ⟨#[]⟩, .string ⟨#[]⟩, .slice none 0 0, .slice none 0 0, .string ⟨#[]⟩, .string ⟨#[]⟩, .string ⟨#[]⟩, .string ⟨#[]⟩, .int .i64 0, .int .i64 0, .slice none 0 0, .slice none 0 0, .slice none 0 0, .slice none 0 0, .slice none 0 0] 37)) := ((Ext.refl w).alloc _).alloc _
 have HW0 := hid hw0
 have KB := hid ((AtC.new w #[.slice L ln lc, .slice A n c, .slice N m d] : AtC 26 _ _ _).alloc (.cells #[.string ⟨#[]⟩, .string ⟨#[]⟩, .string ⟨#[]⟩, .slice none 0 0, .slice none 0 0, .string ⟨#[]⟩, .string ⟨#[]⟩, .string ⟨#[]⟩, .string ⟨#[]⟩, .int .i64 0, .int .i64 0, .slice none 0 0, .slice none 0 0, .slice none 0 0, .slice none 0 0, .slice none 0 0] 37))
 have hrb := (AtC.new (w.alloc (.cells #[.slice L ln lc, .slice A n c, .slice N m d] 26)) #[.string ⟨#[]⟩, .string ⟨#[]⟩, .string ⟨#[]⟩, .slice none 0 0, .slice none 0 0, .string ⟨#[]⟩, .string ⟨#[]⟩, .string ⟨#[]⟩, .string ⟨#[]⟩, .int .i64 0, .int .i64 0, .slice none 0 0, .slice none 0 0, .slice none 0 0, .slice none 0 0, .slice none 0 0] : AtC 37 _ _ _)
 rw [World.size_alloc] at hrb
 have HRB := hid hrb
 have h0 := KB.out.cell 0 _ rfl
 have h1 := KB.out.cell 1 _ rfl
 have h2 := KB.out.cell 2 _ rfl
 have K := rlocs_any (l.map (·.x)) al L A N ln lc n c m d s _ (hL.ext hw0) (by omega) (hA.ext hw0) hn hz (fun x hx => by obtain ⟨y, hy, rfl⟩ := List.mem_map.1 hx; exact hs y hy) hss
 have hlt := locs_lt (T := (l.map (·.x)).map locOf) (al := al) (s := s.data.toList)
 have hle := locs_len (T := (l.map (·.x)).map locOf) (al := al) (s := s.data.toList)
 have hbd := fun h => locs_bad (T := (l.map (·.x)).map locOf) (al := al) (s := s.data.toList) h
 have hok := fun h => (locs_ok (T := (l.map (·.x)).map locOf) (al := al) (s := s.data.toList) h).2.2
 unfold effX
 obtain ⟨R, hR⟩ : ∃ R, R = locsC ((l.map (·.x)).map locOf) al s.data.toList := ⟨_, rfl⟩
 rw [← hR] at K hlt hle hbd hok ⊢
 obtain ⟨r, e⟩ := R
 simp only at hlt hle hbd hok ⊢
 have hll := hL.len
 rw [List.length_map] at hll
 rw [List.length_map, List.length_map] at hle
 have HBD := hid hbd
 have HK := hid K
 have HL := hid (hL.ext hw0)
 have HLK := hid (fun y hy => (hlk y hy).ext hw0)
 have HLKW := hid hlk
 have HSEC := hid hsec
 have HLT := hid (show ∀ i ∈ r, i < ln from fun i hi => by have := hlt i hi; rw [List.length_map, List.length_map] at this; omega)
 have HLL := hid hll
 have HNE := hid (show e = 0 → r ≠ [] from fun he => by obtain ⟨q, hq, _⟩ := hok he; rw [hq]; exact List.cons_ne_nil _ _)
 clear hL hlk hsec hA hz hs K hR hlt hbd hok hll hw0 hrb
 go_enter Tryz.func9, Tryz.ntmps9
 go_wp2_with fail
 refine HK.out.mono ?_
 rintro e2 w2 ⟨A2, n2, c2, rfl, hs2, hc2, hw2⟩
 have HS2 := hid hs2
 have hn2 : n2 = r.length := by have h := hs2.1; rw [List.length_map] at h; exact h.symm
 have HW2 := hid (HW0.out.trans hw2)
 have KB2 := hid (KB.out.ext hw2)
 have HRB2 := hid (HRB.out.ext hw2)
 have HL2 := hid (HL.out.ext hw2)
 have HLK2 := hid (fun y hy => (HLK.out y hy).ext hw2)
 clear hw2 hs2 h0 h1 h2 HK HL HLK HRB
 simp only
 by_cases he : e = 0
 rotate_left
 ·have hnz : (e == 0) = false := by simpa using he
  go_upto_region 3 with fail
  refine rfin3 (by kernel_rfl) HRB2.out ?_
  intro wf hat hex
  have z0 := hat.cell 0 _ rfl
  have z1 := hat.cell 1 _ rfl
  have z2 := hat.cell 2 _ rfl
  have z3 := hat.cell 3 _ rfl
  have z4 := hat.cell 4 _ rfl
  have z5 := hat.cell 5 _ rfl
  have z6 := hat.cell 6 _ rfl
  have z7 := hat.cell 7 _ rfl
  have z8 := hat.cell 8 _ rfl
  have z9 := hat.cell 9 _ rfl
  have z10 := hat.cell 10 _ rfl
  have z11 := hat.cell 11 _ rfl
  have z12 := hat.cell 12 _ rfl
  have z13 := hat.cell 13 _ rfl
  have z14 := hat.cell 14 _ rfl
  have z15 := hat.cell 15 _ rfl
  have HXF := hid (show Ext w wf from HW2.out.trans' (hex.below (B := w.heap.size) (fun q hq => by rw [hq]; exact Nat.le_succ _) HW2.out.size) (Nat.le_refl _))
  clear hat hex
  go_wp2
  refine bodyPost_ret (v := .tuple #[.agg #[.string ⟨#[]⟩, .string ⟨#[]⟩, .string ⟨#[]⟩, .slice none 0 0, .slice none 0 0, .string ⟨#[]⟩, .string ⟨#[]⟩, .string ⟨#[]⟩, .string ⟨#[]⟩, .int .i64 0, .int .i64 0, .slice none 0 0, .slice none 0 0, .slice none 0 0, .slice none 0 0, .slice none 0 0], .int .i64 e]) (by rw [results_cell_tmp rfl]; go_simp) rfl ?_
  refine ⟨lk0, rfl, ⟨⟨⟨SlO.nil _ _ _ _, by decide⟩, fun x h => by cases h⟩, ⟨⟨SlO.nil _ _ _ _, by decide⟩, fun x h => by cases h⟩, fun j hj => ElM.nil _ _ _⟩, HXF.out, fun _ => rfl, fun h => absurd h he⟩
 subst he
 obtain ⟨q0, hq0⟩ : ∃ q0, r[0]? = some q0 := by
  obtain ⟨a, b⟩ : ∃ a b, r = a :: b := by
   cases r with
   | nil => exact absurd rfl (HNE.out rfl)
   | cons a b => exact ⟨a, b, rfl⟩
  obtain ⟨b, rfl⟩ := b
  exact ⟨a, rfl⟩
 have hr0 : 0 < n2 := by rw [hn2]; exact (List.getElem?_eq_some_iff.1 hq0).1
 obtain ⟨ad, q, had, hq, hcq⟩ := HS2.out.at_map hr0
 subst had
 have hqr : q = q0 := by rw [hq0] at hq; injection hq with h; exact h.symm
 subst hqr
 unfold natV at hcq
 have hcq1 : w2.cell? ad = some (.int .i64 q) := hcq
 have hqln : q < ln := HLT.out q (List.mem_of_getElem? hq0)
 obtain ⟨y0, hy0⟩ : ∃ y, l[q]? = some y := ⟨_, List.getElem?_eq_getElem (by have := HLL.out; omega)⟩
 obtain ⟨b, o, rfl, hb, hc⟩ := HL2.out.at_ (show (l.map (·.x))[q]? = some y0.x from by rw [List.getElem?_map, hy0]; rfl)
 have c0 : w2.cell? ⟨b, o + q * 16, none⟩ = some (.string y0.x.t) := hc 0 _ rfl
 have k0 : w2.cell? ⟨w.heap.size, 0, none⟩ = some (.slice (some ⟨b, o, none⟩) ln lc) := KB2.out.cell 0 _ rfl
 have HY0 := hid hy0
 have HQ0 := hid hq0
 have HN2 := hid hn2
 have HLE := hid hle
 clear hc hcq hq hq0 hy0 hn2 hle
 go_upto_region 4 with fail
 refine rreg4 (by kernel_rfl) hr0 hqln k0 hcq1 c0 ?_
 intro v21 v22 v23 v24 v25 v26 v27 v28 v29 g w4 hat hxw hgg
 have hb4 : AtC 37 w4 g (boxG y0.x.t (dirF []) (symF []) (.slice none 0 0) (.slice none 0 0) (.slice none 0 0) (.slice none 0 0) (.slice none 0 0) (.slice none 0 0) (.slice none 0 0)) := hat
 have HB4 := hid hb4
 have HX4 := hid hxw
 have HG := hid hgg
 obtain ⟨YL, hYL⟩ : ∃ YL, YL = r.map fun q => l.getD q lk0 := ⟨_, rfl⟩
 have hyl : ∀ y ∈ YL, y ∈ l := fun y hy => by
  rw [hYL] at hy
  obtain ⟨q, hq, rfl⟩ := List.mem_map.1 hy
  have h1 := HLT.out q hq
  have h2 := HLL.out
  rw [List.getD_eq_getElem?_getD, List.getElem?_eq_getElem (by omega)]
  exact List.getElem_mem _
 have HYM := hid (fun y hy => (HLK2.out y (hyl y hy)).ext hxw)
 have HYN := hid (fun y hy => HSEC.out y (hyl y hy))
 have HYM2 := hid (fun y hy => HLKW.out y (hyl y hy))
 have HYL := hid hYL
 clear hat hxw hgg hb4 hYL hyl k0 hcq1 c0
 go_wp2_with fail
 go_loopw [9] (EfR w4 (w.heap.size + 1) g y0.x.t YL n2) (fun i _ => n2 - (intOf i).toNat)
 case atStart => exact ⟨0, none, none, none, none, none, none, none, 0, 0, 0, 0, 0, 0, 0, 0, 0, 0, 0, 0, 0, 0, Nat.zero_le _, rfl, HB4.out, ⟨⟨⟨SlO.nil _ _ _ _, by decide⟩, fun x h => by cases h⟩, ⟨⟨SlO.nil _ _ _ _, by decide⟩, fun x h => by cases h⟩⟩, ⟨⟨ElM.nil _ _ _, fun _ h => by cases h⟩, Nat.le_refl _, Nat.le_refl _⟩, ⟨⟨ElM.nil _ _ _, fun _ h => by cases h⟩, Nat.le_refl _, Nat.le_refl _⟩, ⟨⟨ElM.nil _ _ _, fun _ h => by cases h⟩, Nat.le_refl _, Nat.le_refl _⟩, ⟨ElM.nil _ _ _, fun h => absurd h (Nat.lt_irrefl 0)⟩, ⟨ElM.nil _ _ _, fun h => absurd h (Nat.lt_irrefl 0)⟩, Exc.refl _ _⟩
 case round =>
  obtain ⟨k, a0, a1, a2, a3, a4, a5, a6, m0, m1, m2, m3, m4, m5, m6, d0, d1, d2, d3, d4, d5, d6, hk, rfl, hbox, ⟨hr0', hr1'⟩, ⟨he2, hd2, hb2⟩, ⟨he3, hd3, hb3⟩, ⟨he4, hd4, hb4⟩, he5, he6, hexc⟩ := hrel
  obtain ⟨wo, rfl⟩ : ∃ wo : World, wo = wr := ⟨_, rfl⟩
  have HBOX := hid hbox
  have HR0 := hid hr0'
  have HR1 := hid hr1'
  have HE2 := hid he2
  have HE3 := hid he3
  have HE4 := hid he4
  have HE5 := hid he5
  have HE6 := hid he6
  have HEXC := hid hexc
  have HXO := hid (show Ext w2 wo from HX4.out.trans' (hexc.below (B := w2.heap.size) (fun q hq => by rw [hq, HG.out]; exact Nat.le_refl _) HX4.out.size) (Nat.le_refl _))
  clear hbox hr0' hr1' he2 he3 he4 he5 he6 hexc
  have hk12 : n2 ≤ 12 := by have h1 := HLL.out; have h2 := HLE.out; have h3 := HN2.out; omega
  by_cases hkn : k < n2
  ·obtain ⟨ad', q', had, hq, hcq⟩ := (HS2.out.ext HXO.out).at_map hkn
   injection had with had
   subst had
   have HRQ := hid (show r[k]? = some q' from hq)
   unfold natV at hcq
   have hqln' : q' < ln := HLT.out q' (List.mem_of_getElem? hq)
   obtain ⟨y, hy⟩ : ∃ y, l[q']? = some y := ⟨_, List.getElem?_eq_getElem (by have := HLL.out; omega)⟩
   obtain ⟨x, hx⟩ : ∃ x, x = y.x := ⟨_, rfl⟩
   obtain ⟨b', o', hL', hb', hc'⟩ := (HL2.out.ext HXO.out).at_ (show (l.map (·.x))[q']? = some x from by rw [List.getElem?_map, hy, hx]; rfl)
   injection hL' with hL'
   injection hL' with h1 h2 _
   subst h1; subst h2
   have HC := hid hc'
   have HCQ := hid hcq
   have HYK := hid (show YL[k]? = some y from by rw [HYL.out, List.getElem?_map, hq, Option.map_some, List.getD_eq_getElem?_getD, hy]; rfl)
   have k0 := (KB2.out.ext HXO.out).cell 0 _ rfl
   have HK0 := hid (show wo.cell? ⟨w.heap.size, 0, none⟩ = some (.slice (some ⟨b, o, none⟩) ln lc) from k0)
   have hkI : (k : Int) < (n2 : Int) := by omega
   have HX := hid hx
   clear hq hcq hy hc' k0 hx
   go_upto_region 8 with fail
   refine rreg8 (by kernel_rfl) hkn hqln' HK0.out HCQ.out HC.out ?_
   intro v36 v37 v38 v39 v40 v41 v42 p wx hat hxx hpp
   have hpg : p ≠ g := fun h => by have := HBOX.out.lt; omega
   obtain ⟨D, hD⟩ : ∃ D, D = dirF ((YL.take k).map (·.x.d)) := ⟨_, rfl⟩
   obtain ⟨s0, s1, s2, s3, i0, i1, hS⟩ := sym_shape ((YL.take k).map fun y => syL y.x) (fun z hz => by obtain ⟨q, _, rfl⟩ := List.mem_map.1 hz; exact ⟨_, _, _, _, _, _, rfl⟩)
   have hbx := HBOX.out.ext hxx
   rw [← hD, hS] at hbx
   have HU0 := hid (show Ef2 wo g p #[.string y0.x.t, .string ⟨#[]⟩, .string D, .slice a0 m0 d0, .slice a1 m1 d1, .string s0, .string s1, .string s2, .string s3, .int .i64 i0, .int .i64 i1, .slice a2 m2 d2, .slice a3 m3 d3, .slice a4 m4 d4, .slice a5 m5 d5, .slice a6 m6 d6] #[.string x.t, .string x.p, .string x.d, .slice (x.A 0) (x.n 0) (x.c 0), .slice (x.A 1) (x.n 1) (x.c 1), .string (x.s 0), .string (x.s 1), .string (x.s 2), .string (x.s 3), .int .i64 (x.i 0), .int .i64 (x.i 1), .slice (x.A 2) (x.n 2) (x.c 2), .slice (x.A 3) (x.n 3) (x.c 3), .slice (x.A 4) (x.n 4) (x.c 4), .slice (x.A 5) (x.n 5) (x.c 5), .slice (x.A 6) (x.n 6) (x.c 6)] wx from ⟨hbx, hat, Exc.of_ext hxx, hpg⟩)
   have HDD := hid hD
   have HSS := hid hS
   have HYP := hid (HYM2.out y (List.mem_of_getElem? HYK.out))
   have HYS := hid (HYN.out y (List.mem_of_getElem? HYK.out))
   clear hat hxx hpp hpg hD hS hbx
   obtain ⟨D1, hD1⟩ : ∃ D1, D1 = if D = eB then x.d else D := ⟨_, rfl⟩
   have HD1 := hid hD1
   clear hD1
   have q2 := HU0.out.1.cell 2 _ rfl
   have f2 := frz_of HU0.out.1 2
   have t2 := HU0.out.2.1.cell 2 _ rfl
   go_upto_if 46 with fail
   go_cut [] (Ef2 wo g p #[.string y0.x.t, .string ⟨#[]⟩, .string D1, .slice a0 m0 d0, .slice a1 m1 d1, .string s0, .string s1, .string s2, .string s3, .int .i64 i0, .int .i64 i1, .slice a2 m2 d2, .slice a3 m3 d3, .slice a4 m4 d4, .slice a5 m5 d5, .slice a6 m6 d6] #[.string x.t, .string x.p, .string x.d, .slice (x.A 0) (x.n 0) (x.c 0), .slice (x.A 1) (x.n 1) (x.c 1), .string (x.s 0), .string (x.s 1), .string (x.s 2), .string (x.s 3), .int .i64 (x.i 0), .int .i64 (x.i 1), .slice (x.A 2) (x.n 2) (x.c 2), .slice (x.A 3) (x.n 3) (x.c 3), .slice (x.A 4) (x.n 4) (x.c 4), .slice (x.A 5) (x.n 5) (x.c 5), .slice (x.A 6) (x.n 6) (x.c 6)])
   case first =>
    have HT := isE_dec D
    generalize D.toList.isEmpty = bb at HT ⊢
    cases bb
    ·have HNO := hid (of_decide_eq_false HT.symm)
     clear HT
     go_wp2_with fail
     go_meet
     have hno := HNO.out
     rw [HD1.out, if_neg hno]
     exact HU0.out
    ·have HYES := hid (of_decide_eq_true HT.symm)
     clear HT
     go_wp2_with fail
     go_meet
     have hyes := HYES.out
     rw [HD1.out, if_pos hyes]
     exact HU0.out.set 2 _
   case rest =>
    have HU1 := hid hcut
    clear hcut q2 f2 t2
    obtain ⟨w1_, hw_⟩ : ∃ W : World, W = wc := ⟨_, rfl⟩
    rw [← hw_] at HU1 ⊢
    clear hw_
    obtain ⟨b0, l0, e0, hy0, hn0⟩ := sel3 m0 a0 (x.A 0) m0 d0 (x.n 0) (x.c 0)
    have HY0 := hid hy0
    have HN0 := hid hn0
    clear hy0 hn0
    have q3 := HU1.out.1.cell 3 _ rfl
    have f3 := frz_of HU1.out.1 3
    have t3 := HU1.out.2.1.cell 3 _ rfl
    go_upto_if 53 with fail
    go_cut [] (Ef2 wo g p #[.string y0.x.t, .string ⟨#[]⟩, .string D1, .slice b0 l0 e0, .slice a1 m1 d1, .string s0, .string s1, .string s2, .string s3, .int .i64 i0, .int .i64 i1, .slice a2 m2 d2, .slice a3 m3 d3, .slice a4 m4 d4, .slice a5 m5 d5, .slice a6 m6 d6] #[.string x.t, .string x.p, .string x.d, .slice (x.A 0) (x.n 0) (x.c 0), .slice (x.A 1) (x.n 1) (x.c 1), .string (x.s 0), .string (x.s 1), .string (x.s 2), .string (x.s 3), .int .i64 (x.i 0), .int .i64 (x.i 1), .slice (x.A 2) (x.n 2) (x.c 2), .slice (x.A 3) (x.n 3) (x.c 3), .slice (x.A 4) (x.n 4) (x.c 4), .slice (x.A 5) (x.n 5) (x.c 5), .slice (x.A 6) (x.n 6) (x.c 6)])
    case first =>
     have HT := zero_dec m0
     generalize ((m0 : Int) == 0) = bb at HT ⊢
     cases bb
     ·have HNO := hid (of_decide_eq_false HT.symm)
      clear HT
      go_wp2_with fail
      go_meet
      have hno := HNO.out
      obtain ⟨r1, r2, r3⟩ := HN0.out hno
      rw [r1, r2, r3]
      exact HU1.out
     ·have HYES := hid (of_decide_eq_true HT.symm)
      clear HT
      go_wp2_with fail
      go_meet
      have hyes := HYES.out
      obtain ⟨r1, r2, r3⟩ := HY0.out hyes
      rw [r1, r2, r3]
      exact HU1.out.set 3 _
    case rest =>
     have HU2 := hid hcut
     clear hcut q3 f3 t3
     obtain ⟨w2_, hw_⟩ : ∃ W : World, W = wc := ⟨_, rfl⟩
     rw [← hw_] at HU2 ⊢
     clear hw_
     obtain ⟨b1, l1, e1, hy1, hn1⟩ := sel3 m1 a1 (x.A 1) m1 d1 (x.n 1) (x.c 1)
     have HY1 := hid hy1
     have HN1 := hid hn1
     clear hy1 hn1
     have q4 := HU2.out.1.cell 4 _ rfl
     have f4 := frz_of HU2.out.1 4
     have t4 := HU2.out.2.1.cell 4 _ rfl
     go_upto_if 60 with fail
     go_cut [] (Ef2 wo g p #[.string y0.x.t, .string ⟨#[]⟩, .string D1, .slice b0 l0 e0, .slice b1 l1 e1, .string s0, .string s1, .string s2, .string s3, .int .i64 i0, .int .i64 i1, .slice a2 m2 d2, .slice a3 m3 d3, .slice a4 m4 d4, .slice a5 m5 d5, .slice a6 m6 d6] #[.string x.t, .string x.p, .string x.d, .slice (x.A 0) (x.n 0) (x.c 0), .slice (x.A 1) (x.n 1) (x.c 1), .string (x.s 0), .string (x.s 1), .string (x.s 2), .string (x.s 3), .int .i64 (x.i 0), .int .i64 (x.i 1), .slice (x.A 2) (x.n 2) (x.c 2), .slice (x.A 3) (x.n 3) (x.c 3), .slice (x.A 4) (x.n 4) (x.c 4), .slice (x.A 5) (x.n 5) (x.c 5), .slice (x.A 6) (x.n 6) (x.c 6)])
     case first =>
      have HT := zero_dec m1
      generalize ((m1 : Int) == 0) = bb at HT ⊢
      cases bb
      ·have HNO := hid (of_decide_eq_false HT.symm)
       clear HT
       go_wp2_with fail
       go_meet
       have hno := HNO.out
       obtain ⟨r1, r2, r3⟩ := HN1.out hno
       rw [r1, r2, r3]
       exact HU2.out
      ·have HYES := hid (of_decide_eq_true HT.symm)
       clear HT
       go_wp2_with fail
       go_meet
       have hyes := HYES.out
       obtain ⟨r1, r2, r3⟩ := HY1.out hyes
       rw [r1, r2, r3]
       exact HU2.out.set 4 _
     case rest =>
      have HU3 := hid hcut
      clear hcut q4 f4 t4
      obtain ⟨w3_, hw_⟩ : ∃ W : World, W = wc := ⟨_, rfl⟩
      rw [← hw_] at HU3 ⊢
      clear hw_
      obtain ⟨r0, r1, r2, r3, v0, v1, hsy⟩ : ∃ r0 r1 r2 r3 v0 v1, stF ([s0, s1, s2, s3], [i0, i1]) (syL x) = ([r0, r1, r2, r3], [v0, v1]) := by
       unfold stF
       split
       ·exact ⟨_, _, _, _, _, _, rfl⟩
       ·exact ⟨_, _, _, _, _, _, rfl⟩
      have HSY := hid hsy
      clear hsy
      obtain ⟨bb, hbb⟩ : ∃ bb, bb = (s0.toList.isEmpty && !(x.s 0).toList.isEmpty) := ⟨_, rfl⟩
      have HBB := hid hbb
      clear hbb
      have q5 := HU3.out.1.cell 5 _ rfl
      have f5 := frz_of HU3.out.1 5
      have q6 := HU3.out.1.cell 6 _ rfl
      have f6 := frz_of HU3.out.1 6
      have q7 := HU3.out.1.cell 7 _ rfl
      have f7 := frz_of HU3.out.1 7
      have q8 := HU3.out.1.cell 8 _ rfl
      have f8 := frz_of HU3.out.1 8
      have q9 := HU3.out.1.cell 9 _ rfl
      have f9 := frz_of HU3.out.1 9
      have q10 := HU3.out.1.cell 10 _ rfl
      have f10 := frz_of HU3.out.1 10
      have t5 := HU3.out.2.1.cell 5 _ rfl
      have t6 := HU3.out.2.1.cell 6 _ rfl
      have t7 := HU3.out.2.1.cell 7 _ rfl
      have t8 := HU3.out.2.1.cell 8 _ rfl
      have t9 := HU3.out.2.1.cell 9 _ rfl
      have t10 := HU3.out.2.1.cell 10 _ rfl
      go_upto_region 15 with fail
      go_cut [73] (BWy bb w3_)
      case first =>
       cases hA : s0.toList.isEmpty <;> cases hB : (x.s 0).toList.isEmpty
       all_goals go_wp2_with fail
       all_goals go_meet
       all_goals exact ⟨by rw [HBB.out, hA, hB]; rfl, rfl⟩
      case rest =>
       obtain ⟨rfl, rfl⟩ := hcut
       go_upto_if 73 with fail
       go_cut [] (Ef2 wo g p #[.string y0.x.t, .string ⟨#[]⟩, .string D1, .slice b0 l0 e0, .slice b1 l1 e1, .string r0, .string r1, .string r2, .string r3, .int .i64 v0, .int .i64 v1, .slice a2 m2 d2, .slice a3 m3 d3, .slice a4 m4 d4, .slice a5 m5 d5, .slice a6 m6 d6] #[.string x.t, .string x.p, .string x.d, .slice (x.A 0) (x.n 0) (x.c 0), .slice (x.A 1) (x.n 1) (x.c 1), .string (x.s 0), .string (x.s 1), .string (x.s 2), .string (x.s 3), .int .i64 (x.i 0), .int .i64 (x.i 1), .slice (x.A 2) (x.n 2) (x.c 2), .slice (x.A 3) (x.n 3) (x.c 3), .slice (x.A 4) (x.n 4) (x.c 4), .slice (x.A 5) (x.n 5) (x.c 5), .slice (x.A 6) (x.n 6) (x.c 6)])
       case first =>
        obtain ⟨hs1, hs2⟩ := stF_bb HSY.out HBB.out
        have HS1 := hid hs1
        have HS2_ := hid hs2
        clear hs1 hs2 HBB
        cases bb
        ·go_wp2_with fail
         go_meet
         obtain ⟨k0, k1, k2, k3, k4, k5⟩ := HS1.out (by first | exact rfl | trivial)
         rw [k0, k1, k2, k3, k4, k5]
         exact HU3.out
        ·go_wp2_with fail
         go_meet
         obtain ⟨k0, k1, k2, k3, k4, k5⟩ := HS2_.out (by first | exact rfl | trivial)
         rw [k0, k1, k2, k3, k4, k5]
         exact (((((HU3.out.set 5 _).set 6 _).set 7 _).set 8 _).set 9 _).set 10 _
       case rest =>
        have HU4 := hid hcut
        clear hcut q5 f5 t5 q6 f6 t6 q7 f7 t7 q8 f8 t8 q9 f9 t9 q10 f10 t10
        obtain ⟨w4_, hw_⟩ : ∃ W : World, W = wc := ⟨_, rfl⟩
        rw [← hw_] at HU4 ⊢
        clear hw_
        obtain ⟨b5, l5, e5, hy5, hn5⟩ := sel3 m5 a5 (x.A 5) m5 d5 (x.n 5) (x.c 5)
        have HY5 := hid hy5
        have HN5 := hid hn5
        clear hy5 hn5
        have q14 := HU4.out.1.cell 14 _ rfl
        have f14 := frz_of HU4.out.1 14
        have t14 := HU4.out.2.1.cell 14 _ rfl
        go_upto_if 80 with fail
        go_cut [] (Ef2 wo g p #[.string y0.x.t, .string ⟨#[]⟩, .string D1, .slice b0 l0 e0, .slice b1 l1 e1, .string r0, .string r1, .string r2, .string r3, .int .i64 v0, .int .i64 v1, .slice a2 m2 d2, .slice a3 m3 d3, .slice a4 m4 d4, .slice b5 l5 e5, .slice a6 m6 d6] #[.string x.t, .string x.p, .string x.d, .slice (x.A 0) (x.n 0) (x.c 0), .slice (x.A 1) (x.n 1) (x.c 1), .string (x.s 0), .string (x.s 1), .string (x.s 2), .string (x.s 3), .int .i64 (x.i 0), .int .i64 (x.i 1), .slice (x.A 2) (x.n 2) (x.c 2), .slice (x.A 3) (x.n 3) (x.c 3), .slice (x.A 4) (x.n 4) (x.c 4), .slice (x.A 5) (x.n 5) (x.c 5), .slice (x.A 6) (x.n 6) (x.c 6)])
        case first =>
         have HT := zero_dec m5
         generalize ((m5 : Int) == 0) = bb at HT ⊢
         cases bb
         ·have HNO := hid (of_decide_eq_false HT.symm)
          clear HT
          go_wp2_with fail
          go_meet
          have hno := HNO.out
          obtain ⟨r1_, r2_, r3_⟩ := HN5.out hno
          rw [r1_, r2_, r3_]
          exact HU4.out
         ·have HYES := hid (of_decide_eq_true HT.symm)
          clear HT
          go_wp2_with fail
          go_meet
          have hyes := HYES.out
          obtain ⟨r1_, r2_, r3_⟩ := HY5.out hyes
          rw [r1_, r2_, r3_]
          exact HU4.out.set 14 _
        case rest =>
         have HU5 := hid hcut
         clear hcut q14 f14 t14
         obtain ⟨w5_, hw_⟩ : ∃ W : World, W = wc := ⟨_, rfl⟩
         rw [← hw_] at HU5 ⊢
         clear hw_
         obtain ⟨b6, l6, e6, hy6, hn6⟩ := sel3 m6 a6 (x.A 6) m6 d6 (x.n 6) (x.c 6)
         have HY6 := hid hy6
         have HN6 := hid hn6
         clear hy6 hn6
         have q15 := HU5.out.1.cell 15 _ rfl
         have f15 := frz_of HU5.out.1 15
         have t15 := HU5.out.2.1.cell 15 _ rfl
         go_upto_if 87 with fail
         go_cut [] (Ef2 wo g p #[.string y0.x.t, .string ⟨#[]⟩, .string D1, .slice b0 l0 e0, .slice b1 l1 e1, .string r0, .string r1, .string r2, .string r3, .int .i64 v0, .int .i64 v1, .slice a2 m2 d2, .slice a3 m3 d3, .slice a4 m4 d4, .slice b5 l5 e5, .slice b6 l6 e6] #[.string x.t, .string x.p, .string x.d, .slice (x.A 0) (x.n 0) (x.c 0), .slice (x.A 1) (x.n 1) (x.c 1), .string (x.s 0), .string (x.s 1), .string (x.s 2), .string (x.s 3), .int .i64 (x.i 0), .int .i64 (x.i 1), .slice (x.A 2) (x.n 2) (x.c 2), .slice (x.A 3) (x.n 3) (x.c 3), .slice (x.A 4) (x.n 4) (x.c 4), .slice (x.A 5) (x.n 5) (x.c 5), .slice (x.A 6) (x.n 6) (x.c 6)])
         case first =>
          have HT := zero_dec m6
          generalize ((m6 : Int) == 0) = bb at HT ⊢
          cases bb
          ·have HNO := hid (of_decide_eq_false HT.symm)
           clear HT
           go_wp2_with fail
           go_meet
           have hno := HNO.out
           obtain ⟨r1_, r2_, r3_⟩ := HN6.out hno
           rw [r1_, r2_, r3_]
           exact HU5.out
          ·have HYES := hid (of_decide_eq_true HT.symm)
           clear HT
           go_wp2_with fail
           go_meet
           have hyes := HYES.out
           obtain ⟨r1_, r2_, r3_⟩ := HY6.out hyes
           rw [r1_, r2_, r3_]
           exact HU5.out.set 15 _
         case rest =>
          have HU6 := hid hcut
          clear hcut q15 f15 t15
          obtain ⟨w6_, hw_⟩ : ∃ W : World, W = wc := ⟨_, rfl⟩
          rw [← hw_] at HU6 ⊢
          clear hw_
          have HGB := hid (show Exc (GB (w.heap.size + 1) g) wo w6_ from HU6.out.2.2.1.gb)
          have HOLD := hid (HYP.out.old (rb := w.heap.size + 1) (g := g) (Nat.le_succ _) (by rw [HG.out]; exact HW2.out.size) (((Exc.of_ext (HW2.out.trans HX4.out)).trans HEXC.out.gb).trans HGB.out))
          have HX2_ := hid (show ElM 5 w6_ (x.A 2) (x.n 2) (y.e 0) from by rw [HX.out]; exact (HOLD.out.2 0 (by decide)).1)
          have hx2l : x.n 2 ≤ 120 := by rw [HX.out]; exact HYS.out 2 (by decide)
          have HX3_ := hid (show ElM 3 w6_ (x.A 3) (x.n 3) (y.e 1) from by rw [HX.out]; exact (HOLD.out.2 1 (by decide)).1)
          have hx3l : x.n 3 ≤ 120 := by rw [HX.out]; exact HYS.out 3 (by decide)
          have HX4_ := hid (show ElM 2 w6_ (x.A 4) (x.n 4) (y.e 2) from by rw [HX.out]; exact (HOLD.out.2 2 (by decide)).1)
          have hx4l : x.n 4 ≤ 120 := by rw [HX.out]; exact HYS.out 4 (by decide)
          go_upto_region 21 with fail
          refine rreg21 (by kernel_rfl) HU6.out.1 HU6.out.2.1 (HE2.out.1.exc HGB.out HE2.out.2) HX2_.out hd2 (by omega) (HE3.out.1.exc HGB.out HE3.out.2) HX3_.out hd3 (by omega) (HE4.out.1.exc HGB.out HE4.out.2) HX4_.out hd4 (by omega) ?_
          intro z2 z3 z4 p2 p3 p4 c2_ c3_ c4_ wz hres hwz
          obtain ⟨⟨⟨g2, k2⟩, g2', g2''⟩, ⟨⟨g3, k3⟩, g3', g3''⟩, ⟨⟨g4, k4⟩, g4', g4''⟩⟩ := hres
          have hlt6 : g < w6_.heap.size := HU6.out.1.lt
          have hrb6 : w.heap.size + 1 < w6_.heap.size := Nat.lt_of_lt_of_le HRB2.out.lt (Nat.le_trans HX4.out.size (Nat.le_trans HEXC.out.size HGB.out.size))
          have hnb : ∀ {a z : Option Addr}, (∀ ad, z = some ad → a = some ad ∨ w6_.heap.size ≤ ad.block) → (∀ ad, a = some ad → ¬ GB (w.heap.size + 1) g ad.block) → ∀ ad, z = some ad → ¬ GB (w.heap.size + 1) g ad.block := fun h1 h2 ad had => by
           rcases h1 ad had with h | h
           ·exact h2 ad h
           ·intro h3; rcases h3 with h3 | h3 <;> omega
          have HK2 := hid (hnb k2 HE2.out.2)
          have HK3 := hid (hnb k3 HE3.out.2)
          have HK4 := hid (hnb k4 HE4.out.2)
          have HS3 := hid (show Exc (fun q => q = g) wz (((wz.setCell ⟨g, 11, none⟩ (.slice z2 p2 c2_)).setCell ⟨g, 12, none⟩ (.slice z3 p3 c3_)).setCell ⟨g, 13, none⟩ (.slice z4 p4 c4_)) from ((Exc.setCell (S := fun q => q = g) (p := ⟨g, 11, none⟩) rfl _).trans (Exc.setCell (S := fun q => q = g) (p := ⟨g, 12, none⟩) rfl _)).trans (Exc.setCell (S := fun q => q = g) (p := ⟨g, 13, none⟩) rfl _))
          have HBF := hid ((((HU6.out.1.ext hwz).setAt 11 (.slice z2 p2 c2_)).setAt 12 (.slice z3 p3 c3_)).setAt 13 (.slice z4 p4 c4_))
          have HWF := hid ((HU6.out.2.2.1.trans (Exc.of_ext hwz)).trans HS3.out)
          obtain ⟨wf, hwf⟩ : ∃ wf, wf = (((wz.setCell ⟨g, 11, none⟩ (.slice z2 p2 c2_)).setCell ⟨g, 12, none⟩ (.slice z3 p3 c3_)).setCell ⟨g, 13, none⟩ (.slice z4 p4 c4_)) := ⟨_, rfl⟩
          rw [← hwf] at HS3 HBF HWF ⊢
          have HG2 := hid (g2.exc HS3.out.gb HK2.out)
          have HG3 := hid (g3.exc HS3.out.gb HK3.out)
          have HG4 := hid (g4.exc HS3.out.gb HK4.out)
          have HR0F := hid (or_stepR (i := 0) HYK.out (HR0.out.exc HWF.out.gb) (HOLD.out.1.1.exc ((Exc.of_ext hwz).trans HS3.out.gb)) (fun h => by obtain ⟨h1, h2, _⟩ := HY0.out h; rw [HX.out] at h1 h2; exact ⟨h1, h2⟩) (fun h => by obtain ⟨h1, h2, _⟩ := HN0.out h; exact ⟨h1, h2⟩))
          have HR1F := hid (or_stepR (i := 1) HYK.out (HR1.out.exc HWF.out.gb) (HOLD.out.1.2.exc ((Exc.of_ext hwz).trans HS3.out.gb)) (fun h => by obtain ⟨h1, h2, _⟩ := HY1.out h; rw [HX.out] at h1 h2; exact ⟨h1, h2⟩) (fun h => by obtain ⟨h1, h2, _⟩ := HN1.out h; exact ⟨h1, h2⟩))
          have HE5F := hid (or_stepE (i := 3) HYK.out (HE5.out.exc (by decide) HWF.out.gb) ((HOLD.out.2 3 (by decide)).exc (by decide) ((Exc.of_ext hwz).trans HS3.out.gb)) (fun h => by obtain ⟨h1, h2, _⟩ := HY5.out h; rw [HX.out] at h1 h2; exact ⟨h1, h2⟩) (fun h => by obtain ⟨h1, h2, _⟩ := HN5.out h; exact ⟨h1, h2⟩))
          have HE6F := hid (or_stepE (i := 4) HYK.out (HE6.out.exc (by decide) HWF.out.gb) ((HOLD.out.2 4 (by decide)).exc (by decide) ((Exc.of_ext hwz).trans HS3.out.gb)) (fun h => by obtain ⟨h1, h2, _⟩ := HY6.out h; rw [HX.out] at h1 h2; exact ⟨h1, h2⟩) (fun h => by obtain ⟨h1, h2, _⟩ := HN6.out h; exact ⟨h1, h2⟩))
          have HP2 := hid (show p2 ≤ c2_ ∧ p2 ≤ 120 * (k + 1) from ⟨g2', by omega⟩)
          have HP3 := hid (show p3 ≤ c3_ ∧ p3 ≤ 120 * (k + 1) from ⟨g3', by omega⟩)
          have HP4 := hid (show p4 ≤ c4_ ∧ p4 ≤ 120 * (k + 1) from ⟨g4', by omega⟩)
          clear hwf g2 g3 g4 k2 k3 k4 hwz hnb
          go_wp2
          refine ⟨⟨k + 1, b0, b1, z2, z3, z4, b5, b6, l0, l1, p2, p3, p4, l5, l6, e0, e1, c2_, c3_, c4_, e5, e6, by omega, by go_num, ?_, ⟨HR0F.out, HR1F.out⟩, ⟨⟨?_, HK2.out⟩, HP2.out⟩, ⟨⟨?_, HK3.out⟩, HP3.out⟩, ⟨⟨?_, HK4.out⟩, HP4.out⟩, HE5F.out, HE6F.out, HEXC.out.trans HWF.out⟩, by simp [intOf]; omega⟩
          ·rw [dirF_snoc (·.x.d) HYK.out, symF_snoc (fun y => syL y.x) HYK.out, HSS.out, ← HDD.out, ← HX.out, HSY.out, ← HD1.out]
           exact HBF.out
          ·rw [mrg_snoc 1 (·.e 0) HYK.out]; exact HG2.out
          ·rw [mrg_snoc 2 (·.e 1) HYK.out]; exact HG3.out
          ·rw [mrg_snoc 1 (·.e 2) HYK.out]; exact HG4.out
  ·have hkk : k = n2 := by omega
   subst hkk
   have HYLN := hid (show YL.length = k from by rw [HYL.out, List.length_map]; exact HN2.out.symm)
   have htk : YL.take k = YL := List.take_of_length_le (by rw [HYLN.out]; exact Nat.le_refl _)
   have HR0Z := hid HR0.out
   have HR1Z := hid HR1.out
   have HE2Z := hid HE2.out
   have HE3Z := hid HE3.out
   have HE4Z := hid HE4.out
   have HE5Z := hid HE5.out
   have HE6Z := hid HE6.out
   have hbx := HBOX.out
   rw [htk] at HR0Z HR1Z HE2Z HE3Z HE4Z HE5Z HE6Z hbx
   obtain ⟨D, hD⟩ : ∃ D, D = dirF (YL.map (·.x.d)) := ⟨_, rfl⟩
   obtain ⟨s0, s1, s2, s3, t0, t1, hS⟩ := sym_shape (YL.map fun y => syL y.x) (fun z hz => by obtain ⟨q, _, rfl⟩ := List.mem_map.1 hz; exact ⟨_, _, _, _, _, _, rfl⟩)
   rw [← hD, hS] at hbx
   have HBX := hid hbx
   have HDD := hid hD
   have HSS := hid hS
   have HRB3 := hid (HRB2.out.ext HXO.out)
   clear htk hbx hD hS HR0 HR1 HE2 HE3 HE4 HE5 HE6 HBOX
   go_upto_region 22 with fail
   refine rfin22 (by kernel_rfl) HBX.out HRB3.out ?_
   intro wf hat hex
   have HEX := hid hex
   obtain ⟨z0, z1, z2, z3, z4, z5, z6, z7, z8, z9, z10, z11, z12, z13, z14, z15⟩ := bg16 hat
   have HXF := hid (show Ext w wf from (HW2.out.trans HXO.out).trans' (hex.below (B := w.heap.size) (fun q hq => by rw [hq]; exact Nat.le_succ _) (Nat.le_trans HW2.out.size HXO.out.size)) (Nat.le_refl _))
   clear hat hex
   go_wp2
   refine bodyPost_ret (v := .tuple #[.agg #[.string y0.x.t, .string ⟨#[]⟩, .string D, .slice a0 m0 d0, .slice a1 m1 d1, .string s0, .string s1, .string s2, .string s3, .int .i64 t0, .int .i64 t1, .slice a2 m2 d2, .slice a3 m3 d3, .slice a4 m4 d4, .slice a5 m5 d5, .slice a6 m6 d6], .int .i64 0]) (by rw [results_cell_tmp rfl]; go_simp) rfl ?_
   clear z0 z1 z2 z3 z4 z5 z6 z7 z8 z9 z10 z11 z12 z13 z14 z15
   refine ⟨⟨⟨y0.x.t, eB, D, fun j => [a0, a1, a2, a3, a4, a5, a6].getD j none, fun j => [m0, m1, m2, m3, m4, m5, m6].getD j 0, fun j => [d0, d1, d2, d3, d4, d5, d6].getD j 0, fun j => [s0, s1, s2, s3].getD j eB, fun j => [t0, t1].getD j 0⟩, fun j => if j = 0 then orF (YL.map (·.r 0)) else orF (YL.map (·.r 1)), fun j => if j = 0 then mrgE 1 (YL.map (·.e 0)) else if j = 1 then mrgE 2 (YL.map (·.e 1)) else if j = 2 then mrgE 1 (YL.map (·.e 2)) else orF (YL.map (·.e j))⟩, rfl, ⟨?_, ?_, fun j hj => ?_⟩, HXF.out, fun h => absurd rfl h, fun _ => ?_⟩
   ·exact (HR0Z.out.exc HEX.out.rb).mono fun _ _ _ => trivial
   ·exact (HR1Z.out.exc HEX.out.rb).mono fun _ _ _ => trivial
   ·rcases j with _ | _ | _ | _ | _ | j
    ·exact HE2Z.out.1.exc HEX.out.rb HE2Z.out.2
    ·exact HE3Z.out.1.exc HEX.out.rb HE3Z.out.2
    ·exact HE4Z.out.1.exc HEX.out.rb HE4Z.out.2
    ·exact (HE5Z.out.exc (by decide) HEX.out.rb).1
    ·exact (HE6Z.out.exc (by decide) HEX.out.rb).1
    ·exact absurd hj (by omega)
   ·rw [show r.map (fun i => lkP (l.getD i lk0)) = YL.map lkP from by rw [HYL.out, List.map_map]; rfl]
    refine eff_eq (x0 := y0.x) (by rw [HYL.out, List.getElem?_map, List.getElem?_map, HQ0.out, Option.map_some, Option.map_some, List.getD_eq_getElem?_getD, HY0.out]; rfl) rfl rfl (by rw [List.map_map]; exact HDD.out) (by rw [List.map_map]; exact HSS.out.symm) rfl rfl rfl
end Go.Proofs.YtljdlkonlnjadaaGreatDoor
