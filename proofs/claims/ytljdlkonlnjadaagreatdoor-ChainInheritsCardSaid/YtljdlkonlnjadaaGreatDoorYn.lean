import Derived.Test.YtljdlkonlnjadaaGreatDoorYs
set_option maxRecDepth 100000
set_option linter.unusedSimpArgs false
set_option linter.unusedVariables false
open Go.Lib (hid)
namespace Go.Proofs.YtljdlkonlnjadaaGreatDoor
open Go.RowKit
def lc0 : Lc := ⟨eB, eB, eB, fun _ => none, fun _ => 0, fun _ => 0, fun _ => eB, fun _ => 0⟩
def lk0 : Lk := ⟨lc0, fun _ => [], fun _ => []⟩
def effX (l : List Lk) (T : List LocP) (al : List Ali) (s : BytesC) : List Ef := (locsC T al s).1.map fun i => lkP (l.getD i lk0)
def lcV (x : Lc) : Value := .agg #[.string x.t, .string x.p, .string x.d, .slice (x.A 0) (x.n 0) (x.c 0), .slice (x.A 1) (x.n 1) (x.c 1), .string (x.s 0), .string (x.s 1), .string (x.s 2), .string (x.s 3), .int .i64 (x.i 0), .int .i64 (x.i 1), .slice (x.A 2) (x.n 2) (x.c 2), .slice (x.A 3) (x.n 3) (x.c 3), .slice (x.A 4) (x.n 4) (x.c 4), .slice (x.A 5) (x.n 5) (x.c 5), .slice (x.A 6) (x.n 6) (x.c 6)]
def RetEf (w : World) (X : List Ef) (err : Int) (e : Ending) (w' : World) : Prop :=
 ∃ z : Lk, e = .returned (.tuple #[lcV z.x, .int .i64 err]) ∧ LkM (fun _ => True) w' z ∧ Ext w w' ∧ (err ≠ 0 → z = lk0) ∧ (err = 0 → lkP z = effP X)
theorem lc_oneY (x : Lc) : ∀ u ∈ lcC x, u.oneCell' = true := fun u hu => by
 simp [lcC] at hu
 rcases hu with rfl | rfl | rfl | rfl | rfl | rfl | rfl | rfl | rfl | rfl | rfl | rfl | rfl | rfl | rfl | rfl <;> rfl
def EfL (w2 : World) (l : List Lk) (r : List Nat) (n2 : Nat) (v i : Value) (wr : World) : Prop := ∃ k : Nat, k ≤ n2 ∧ i = .int .i64 k ∧ wr.ownsRow w2.heap.size 37 16 v k (((r.take k).map fun q => (l.getD q lk0).x).flatMap lcC) ∧ Ext w2 wr
def boxC (t d : ByteArray) (sy : List ByteArray × List Int) : Array Value :=
 #[.string t, .string ⟨#[]⟩, .string d, .slice none 0 0, .slice none 0 0, .string (sy.1.getD 0 eB), .string (sy.1.getD 1 eB), .string (sy.1.getD 2 eB), .string (sy.1.getD 3 eB), .int .i64 (sy.2.getD 0 0), .int .i64 (sy.2.getD 1 0), .slice none 0 0, .slice none 0 0, .slice none 0 0, .slice none 0 0, .slice none 0 0]
def syL (x : Lc) : List ByteArray × List Int := ([x.s 0, x.s 1, x.s 2, x.s 3], [x.i 0, x.i 1])
theorem bx2 {T : TypeId} {w : World} {g : Nat} {t D : ByteArray} {sy : List ByteArray × List Int} (h : AtC T w g (boxC t D sy)) : w.cell? ⟨g, 2, none⟩ = some (.string D) := h.cell 2 _ rfl
theorem bx5 {T : TypeId} {w : World} {g : Nat} {t D : ByteArray} {sy : List ByteArray × List Int} (h : AtC T w g (boxC t D sy)) : w.cell? ⟨g, 5, none⟩ = some (.string (sy.1.getD 0 eB)) ∧ w.cell? ⟨g, 6, none⟩ = some (.string (sy.1.getD 1 eB)) ∧ w.cell? ⟨g, 7, none⟩ = some (.string (sy.1.getD 2 eB)) ∧ w.cell? ⟨g, 8, none⟩ = some (.string (sy.1.getD 3 eB)) ∧ w.cell? ⟨g, 9, none⟩ = some (.int .i64 (sy.2.getD 0 0)) ∧ w.cell? ⟨g, 10, none⟩ = some (.int .i64 (sy.2.getD 1 0)) := ⟨h.cell 5 _ rfl, h.cell 6 _ rfl, h.cell 7 _ rfl, h.cell 8 _ rfl, h.cell 9 _ rfl, h.cell 10 _ rfl⟩
theorem bx_set2 {T : TypeId} {w : World} {g : Nat} {t D : ByteArray} {sy : List ByteArray × List Int} (h : AtC T w g (boxC t D sy)) (D' : ByteArray) : AtC T (w.setCell ⟨g, 2, none⟩ (.string D')) g (boxC t D' sy) := h.setAt 2 _
theorem bx_set6 {T : TypeId} {w : World} {g : Nat} {t D : ByteArray} {sy : List ByteArray × List Int} (h : AtC T w g (boxC t D sy)) (s0 s1 s2 s3 : ByteArray) (i0 i1 : Int) : AtC T ((((((w.setCell ⟨g, 5, none⟩ (.string s0)).setCell ⟨g, 6, none⟩ (.string s1)).setCell ⟨g, 7, none⟩ (.string s2)).setCell ⟨g, 8, none⟩ (.string s3)).setCell ⟨g, 9, none⟩ (.int .i64 i0)).setCell ⟨g, 10, none⟩ (.int .i64 i1)) g (boxC t D ([s0, s1, s2, s3], [i0, i1])) := by
 have h1 := h.setAt 5 (.string s0)
 have h2 := h1.setAt 6 (.string s1)
 have h3 := h2.setAt 7 (.string s2)
 have h4 := h3.setAt 8 (.string s3)
 have h5 := h4.setAt 9 (.int .i64 i0)
 have h6 := h5.setAt 10 (.int .i64 i1)
 exact h6
theorem exc_set6 {w w' : World} {g : Nat} {S : Nat → Prop} (h : Exc S w w') (hg : S g) (v0 v1 v2 v3 v4 v5 : Value) : Exc S w ((((((w'.setCell ⟨g, 5, none⟩ v0).setCell ⟨g, 6, none⟩ v1).setCell ⟨g, 7, none⟩ v2).setCell ⟨g, 8, none⟩ v3).setCell ⟨g, 9, none⟩ v4).setCell ⟨g, 10, none⟩ v5) :=
 (((((h.trans (Exc.setCell (p := ⟨g, 5, none⟩) hg _)).trans (Exc.setCell (p := ⟨g, 6, none⟩) hg _)).trans (Exc.setCell (p := ⟨g, 7, none⟩) hg _)).trans (Exc.setCell (p := ⟨g, 8, none⟩) hg _)).trans (Exc.setCell (p := ⟨g, 9, none⟩) hg _)).trans (Exc.setCell (p := ⟨g, 10, none⟩) hg _)
def EfD (w4 : World) (g : Nat) (t : ByteArray) (X : List Lc) (n : Nat) (i : Value) (wr : World) : Prop := ∃ k : Nat, k ≤ n ∧ i = .int .i64 k ∧ AtC 37 wr g (boxC t (dirF ((X.take k).map (·.d))) (symT ((X.take k).map syL))) ∧ Exc (fun j => j = g) w4 wr
def Ef3 (w4 : World) (g : Nat) (t D : ByteArray) (S : List ByteArray × List Int) (wr : World) : Prop := AtC 37 wr g (boxC t D S) ∧ Exc (fun q => q = g) w4 wr
set_option maxHeartbeats 8000000 in
theorem teff_any (l : List Lk) (al : List Ali) (L A N : Option Addr) (ln lc n c m d : Nat) (s : ByteArray) (w : World) (hm : Mx w) (hL : Lcs w L ln (l.map (·.x))) (hln : ln ≤ 12) (hlk : ∀ y ∈ l, LkM (fun _ => True) w y) (hsec : ∀ y ∈ l, ∀ j, j < 7 → y.x.n j ≤ 120)
 (hA : Als w A n al) (hn : n ≤ 100000) (hz : ∀ a ∈ al, a.1.size ≤ 60000 ∧ a.2.size ≤ 60000) (hs : ∀ y ∈ l, y.x.t.size ≤ 60000) (hss : s.size ≤ 60000) :
 Calls Tryz.prog 8 #[.agg #[.slice L ln lc, .slice A n c, .slice N m d], .string s] w (RetEf w (effX l ((l.map (·.x)).map locOf) al s.data.toList) (locsC ((l.map (·.x)).map locOf) al s.data.toList).2) := by
 obtain ⟨i0, hi, hz0, hz1, hz2⟩ := info_parts (show (Tryz.prog.info? 37).map (fun i => (i.zero, i.size, i.bytes)) = some (some (.agg #[.string ⟨#[]⟩, .string ⟨#[]⟩, .string ⟨#[]⟩, .slice none 0 0, .slice none 0 0, .string ⟨#[]⟩, .string ⟨#[]⟩, .string ⟨#[]⟩, .string ⟨#[]⟩, .int .i64 0, .int .i64 0, .slice none 0 0, .slice none 0 0, .slice none 0 0, .slice none 0 0, .slice none 0 0]), 16, 296) from by kernel_rfl)
 have hw0 : Ext w ((w.alloc (.cells #[.slice L ln lc, .slice A n c, .slice N m d] 26)).alloc (.cells #[.string ⟨#[]⟩, .string ⟨#[]⟩, .string ⟨#[]⟩, .slice none 0 0, .slice none 0 0, .string ⟨#[]⟩, .string ⟨#[]⟩, .string ⟨#[]⟩, .string ⟨#[]⟩, .int .i64 0, .int .i64 0, .slice none 0 0, .slice none 0 0, .slice none 0 0, .slice none 0 0, .slice none 0 0] 37)) := ((Ext.refl w).alloc _).alloc _
 have HW0 := hid hw0
 have KB := hid ((AtC.new w #[.slice L ln lc, .slice A n c, .slice N m d] : AtC 26 _ _ _).alloc (.cells #[.string ⟨#[]⟩, .string ⟨#[]⟩, .string ⟨#[]⟩, .slice none 0 0, .slice none 0 0, .string ⟨#[]⟩, .string ⟨#[]⟩, .string ⟨#[]⟩, .string ⟨#[]⟩, .int .i64 0, .int .i64 0, .slice none 0 0, .slice none 0 0, .slice none 0 0, .slice none 0 0, .slice none 0 0] 37))
 have hrb := (AtC.new (w.alloc (.cells #[.slice L ln lc, .slice A n c, .slice N m d] 26)) #[.string ⟨#[]⟩, .string ⟨#[]⟩, .string ⟨#[]⟩, .slice none 0 0, .slice none 0 0, .string ⟨#[]⟩, .string ⟨#[]⟩, .string ⟨#[]⟩, .string ⟨#[]⟩, .int .i64 0, .int .i64 0, .slice none 0 0, .slice none 0 0, .slice none 0 0, .slice none 0 0, .slice none 0 0] : AtC 37 _ _ _)
 rw [World.size_alloc] at hrb
 have HRB := hid hrb
 have h0 := KB.out.cell 0 _ rfl
 have h1 := KB.out.cell 1 _ rfl
 have h2 := KB.out.cell 2 _ rfl
 have K := tchain_any (l.map (·.x)) al L A N ln lc n c m d s _ (hm.ext hw0) (hL.ext hw0) (by omega) (hA.ext hw0) hn hz (fun x hx => by obtain ⟨y, hy, rfl⟩ := List.mem_map.1 hx; exact hs y hy) hss
 have hlt := locs_lt (T := (l.map (·.x)).map locOf) (al := al) (s := s.data.toList)
 have hle := locs_len (T := (l.map (·.x)).map locOf) (al := al) (s := s.data.toList)
 have hbd := fun h => locs_bad (T := (l.map (·.x)).map locOf) (al := al) (s := s.data.toList) h
 have hok := fun h => (locs_ok (T := (l.map (·.x)).map locOf) (al := al) (s := s.data.toList) h).2.2
 unfold effX
 obtain ⟨R, hR⟩ : ∃ R, R = locsC ((l.map (·.x)).map locOf) al s.data.toList := ⟨_, rfl⟩
 rw [← hR] at K hlt hle hbd hok ⊢
 obtain ⟨r, e⟩ := R
 simp only at hlt hle hbd hok ⊢
 have hll := hL.len
 rw [List.length_map] at hll
 rw [List.length_map, List.length_map] at hle
 have HBD := hid hbd
 have HK := hid K
 have HL := hid (hL.ext hw0)
 have HLK := hid (fun y hy => (hlk y hy).ext hw0)
 have HSEC := hid hsec
 have HLT := hid (show ∀ i ∈ r, i < ln from fun i hi => by have := hlt i hi; rw [List.length_map, List.length_map] at this; omega)
 have HLL := hid hll
 have HNE := hid (show e = 0 → r ≠ [] from fun he => by obtain ⟨q, hq, _⟩ := hok he; rw [hq]; exact List.cons_ne_nil _ _)
 clear hm hL hlk hsec hA hz hs K hR hlt hbd hok hll hw0 hrb
 go_enter Tryz.func8, Tryz.ntmps8
 go_wp2_with fail
 refine HK.out.mono ?_
 rintro e2 w2 ⟨A2, n2, c2, rfl, hs2, hc2, hw2⟩
 have HS2 := hid hs2
 have hn2 : n2 = r.length := by have h := hs2.1; rw [List.length_map] at h; exact h.symm
 have HW2 := hid (HW0.out.trans hw2)
 have KB2 := hid (KB.out.ext hw2)
 have HRB2 := hid (HRB.out.ext hw2)
 have HL2 := hid (HL.out.ext hw2)
 have HLK2 := hid (fun y hy => (HLK.out y hy).ext hw2)
 clear hw2 hs2 h0 h1 h2 HK HL HLK HRB
 simp only
 by_cases he : e = 0
 rotate_left
 ·have hnz : (e == 0) = false := by simpa using he
  go_upto_region 3 with fail
  refine fin3 (by kernel_rfl) HRB2.out ?_
  intro wf hat hex
  have z0 := hat.cell 0 _ rfl
  have z1 := hat.cell 1 _ rfl
  have z2 := hat.cell 2 _ rfl
  have z3 := hat.cell 3 _ rfl
  have z4 := hat.cell 4 _ rfl
  have z5 := hat.cell 5 _ rfl
  have z6 := hat.cell 6 _ rfl
  have z7 := hat.cell 7 _ rfl
  have z8 := hat.cell 8 _ rfl
  have z9 := hat.cell 9 _ rfl
  have z10 := hat.cell 10 _ rfl
  have z11 := hat.cell 11 _ rfl
  have z12 := hat.cell 12 _ rfl
  have z13 := hat.cell 13 _ rfl
  have z14 := hat.cell 14 _ rfl
  have z15 := hat.cell 15 _ rfl
  have HXF := hid (show Ext w wf from HW2.out.trans' (hex.below (B := w.heap.size) (fun q hq => by rw [hq]; exact Nat.le_succ _) HW2.out.size) (Nat.le_refl _))
  clear hat hex
  go_wp2
  refine bodyPost_ret (v := .tuple #[.agg #[.string ⟨#[]⟩, .string ⟨#[]⟩, .string ⟨#[]⟩, .slice none 0 0, .slice none 0 0, .string ⟨#[]⟩, .string ⟨#[]⟩, .string ⟨#[]⟩, .string ⟨#[]⟩, .int .i64 0, .int .i64 0, .slice none 0 0, .slice none 0 0, .slice none 0 0, .slice none 0 0, .slice none 0 0], .int .i64 e]) (by rw [results_cell_tmp rfl]; go_simp) rfl ?_
  refine ⟨lk0, rfl, ⟨⟨⟨SlO.nil _ _ _ _, by decide⟩, fun x h => by cases h⟩, ⟨⟨SlO.nil _ _ _ _, by decide⟩, fun x h => by cases h⟩, fun j hj => ElM.nil _ _ _⟩, HXF.out, fun _ => rfl, fun h => absurd h he⟩
 subst he
 go_wp2_with fail
 go_loopw [8, 26] (EfL w2 l r n2) (fun _ i _ => n2 - (intOf i).toNat)
 case atStart => exact ⟨0, Nat.zero_le _, rfl, World.ownsRow_nil _ _ _ _, Ext.refl _⟩
 case round =>
  obtain ⟨k, hk, rfl, how, hw⟩ := hrel
  have HOW := hid how
  have HW := hid hw
  clear how hw
  by_cases hkn : k < n2
  ·obtain ⟨ad, q, rfl, hq, hcq⟩ := (HS2.out.ext HW.out).at_map hkn
   unfold natV at hcq
   have hqln := HLT.out q (List.mem_of_getElem? hq)
   obtain ⟨y, hy⟩ : ∃ y, l[q]? = some y := ⟨_, List.getElem?_eq_getElem (by have := HLL.out; omega)⟩
   obtain ⟨x, hx⟩ : ∃ x, x = y.x := ⟨_, rfl⟩
   obtain ⟨b, o, rfl, hb, hc⟩ := (HL2.out.ext HW.out).at_ (show (l.map (·.x))[q]? = some x from by rw [List.getElem?_map, hy, hx]; rfl)
   have a0 := hc 0 _ rfl
   have a1 := hc 1 _ rfl
   have a2 := hc 2 _ rfl
   have a3 := hc 3 _ rfl
   have a4 := hc 4 _ rfl
   have a5 := hc 5 _ rfl
   have a6 := hc 6 _ rfl
   have a7 := hc 7 _ rfl
   have a8 := hc 8 _ rfl
   have a9 := hc 9 _ rfl
   have a10 := hc 10 _ rfl
   have a11 := hc 11 _ rfl
   have a12 := hc 12 _ rfl
   have a13 := hc 13 _ rfl
   have a14 := hc 14 _ rfl
   have a15 := hc 15 _ rfl
   rw [Nat.add_zero] at a0
   have g0 := (KB2.out.ext HW.out).cell 0 _ rfl
   have hkI : (k : Int) < (n2 : Int) := by omega
   have hk12 : k ≤ 12 := by have := HLL.out; omega
   have hqI : (q : Int) < (ln : Int) := by omega
   have HX := hid (show (l.getD q lk0).x = x from by rw [List.getD_eq_getElem?_getD, hy, hx]; rfl)
   have HRQ := hid hq
   have HNC := hid (new_cells wr #[.string x.t, .string x.p, .string x.d, .slice (x.A 0) (x.n 0) (x.c 0), .slice (x.A 1) (x.n 1) (x.c 1), .string (x.s 0), .string (x.s 1), .string (x.s 2), .string (x.s 3), .int .i64 (x.i 0), .int .i64 (x.i 1), .slice (x.A 2) (x.n 2) (x.c 2), .slice (x.A 3) (x.n 3) (x.c 3), .slice (x.A 4) (x.n 4) (x.c 4), .slice (x.A 5) (x.n 5) (x.c 5), .slice (x.A 6) (x.n 6) (x.c 6)] 37)
   have HOX := hid (HOW.out.alloc (.cells #[.string x.t, .string x.p, .string x.d, .slice (x.A 0) (x.n 0) (x.c 0), .slice (x.A 1) (x.n 1) (x.c 1), .string (x.s 0), .string (x.s 1), .string (x.s 2), .string (x.s 3), .int .i64 (x.i 0), .int .i64 (x.i 1), .slice (x.A 2) (x.n 2) (x.c 2), .slice (x.A 3) (x.n 3) (x.c 3), .slice (x.A 4) (x.n 4) (x.c 4), .slice (x.A 5) (x.n 5) (x.c 5), .slice (x.A 6) (x.n 6) (x.c 6)] 37))
   have HONE := hid (lc_oneY x)
   clear hx hy hc hq hb
   go_wp2_with (at_builtin; refine wpList_appN _ rfl _ _ 22 rfl w2.heap.size 37 i0 _ 16 296 Tryz.underlying22 hi hz0 hz1 hz2 rfl (by decide) _ k _ rfl HOX.out ⟨wr.heap.size, 0, none⟩ 1 1 _ rfl rfl HNC.out HONE.out (by unfold maxLen; omega) (by omega) (by have := Ext.size HW.out; simp; omega) ?_; intro v6 w6 hown6 hgrow6 hwh6; have HO6 := hid hown6; have HX6 := hid ((HW.out.alloc (.cells #[.string x.t, .string x.p, .string x.d, .slice (x.A 0) (x.n 0) (x.c 0), .slice (x.A 1) (x.n 1) (x.c 1), .string (x.s 0), .string (x.s 1), .string (x.s 2), .string (x.s 3), .int .i64 (x.i 0), .int .i64 (x.i 1), .slice (x.A 2) (x.n 2) (x.c 2), .slice (x.A 3) (x.n 3) (x.c 3), .slice (x.A 4) (x.n 4) (x.c 4), .slice (x.A 5) (x.n 5) (x.c 5), .slice (x.A 6) (x.n 6) (x.c 6)] 37)).grown hgrow6 (fun q hq => (HOX.out.lt q hq).1)); clear hown6 hgrow6 hwh6)
   refine ⟨⟨k + 1, by omega, by go_num, ?_, HX6.out⟩, by simp [intOf]; omega⟩
   rw [take_next HRQ.out, List.map_append, List.map_singleton, List.flatMap_append, HX.out]
   have h := HO6.out
   exact h
  ·have hkk : k = n2 := by omega
   subst hkk
   have HOW2 := hid HOW.out
   rw [List.take_of_length_le (by omega)] at HOW2
   obtain ⟨XL, hXL⟩ : ∃ XL, XL = r.map fun q => (l.getD q lk0).x := ⟨_, rfl⟩
   rw [← hXL] at HOW2
   have hxl : XL.length = r.length := by rw [hXL, List.length_map]
   have HXL := hid hXL
   have hrp : 0 < r.length := List.length_pos_iff.2 (HNE.out trivial)
   obtain ⟨x0, hx0⟩ : ∃ x0, XL[0]? = some x0 := ⟨_, List.getElem?_eq_getElem (by omega)⟩
   obtain ⟨A5, c5, hv5, hs5⟩ := own_slN HOW2.out
   subst hv5
   have HLX := hid (show Lcs wr A5 k XL from hs5)
   obtain ⟨b5, o5, rfl, _, hc⟩ := HLX.out.at_ hx0
   have a0 := hc 0 _ rfl
   simp only [Nat.add_zero, Nat.zero_mul] at a0
   have HX0 := hid hx0
   have hk0 : (0 : Int) < (k : Int) := by omega
   have HXN := hid (show XL.length = k from by omega)
   have HKR := hid hn2
   have hkr2 : ¬ k < r.length := by omega
   have hk12 : k ≤ 12 := by have := HLL.out; omega
   clear hs5 hc hx0 hXL hn2 hxl hrp hle
   go_wp2_with fail
   obtain ⟨w4, hw4⟩ : ∃ w4, w4 = wr.alloc (.cells #[.string x0.t, .string ⟨#[]⟩, .string ⟨#[]⟩, .slice none 0 0, .slice none 0 0, .string ⟨#[]⟩, .string ⟨#[]⟩, .string ⟨#[]⟩, .string ⟨#[]⟩, .int .i64 0, .int .i64 0, .slice none 0 0, .slice none 0 0, .slice none 0 0, .slice none 0 0, .slice none 0 0] 37) := ⟨_, rfl⟩
   have hb4 : AtC 37 w4 wr.heap.size (boxC x0.t eB symZ) := by rw [hw4]; exact AtC.new wr _
   have HX4 := hid (show Ext wr w4 from by rw [hw4]; exact (Ext.refl wr).alloc _)
   have HS4 := hid (show w4.heap.size = wr.heap.size + 1 from by rw [hw4]; simp)
   have HB4 := hid hb4
   obtain ⟨g, hg⟩ : ∃ g, g = wr.heap.size := ⟨_, rfl⟩
   rw [← hw4, ← hg]
   rw [← hg] at HB4 HS4
   have HG := hid hg
   clear hw4 hb4 hg a0
   obtain ⟨w3, hw3⟩ : ∃ w3 : World, w3 = wr := ⟨_, rfl⟩
   rw [← hw3] at HX4 HG HLX HOW2 HW
   have HW3 := hid (show Ext w2 w3 from HW.out)
   clear hw3 HW HOW
   go_loopw [46] (EfD w4 g x0.t XL k) (fun i _ => k - (intOf i).toNat)
   case atStart => exact ⟨0, Nat.zero_le _, rfl, HB4.out, Exc.refl _ _⟩
   case round =>
    obtain ⟨j, hj, rfl, hbox, hexc⟩ := hrel
    obtain ⟨wo, rfl⟩ : ∃ wo : World, wo = wr := ⟨_, rfl⟩
    obtain ⟨Dd, hD⟩ : ∃ Dd, Dd = dirF ((XL.take j).map (·.d)) := ⟨_, rfl⟩
    obtain ⟨Sy, hSy⟩ : ∃ Sy, Sy = symT ((XL.take j).map syL) := ⟨_, rfl⟩
    rw [← hD, ← hSy] at hbox
    have HDD := hid hD
    have HSY := hid hSy
    have HBOX := hid hbox
    have HEXC := hid hexc
    have HXO := hid (show Ext w3 wo from HX4.out.trans' (hexc.below (B := w3.heap.size) (fun q hq => by rw [hq, HG.out]; exact Nat.le_refl _) (by have h1 := HS4.out; have h2 := HG.out; omega)) (Nat.le_refl _))
    clear hbox hexc hD hSy
    by_cases hjk : j < k
    ·obtain ⟨x, hx⟩ : ∃ x, XL[j]? = some x := ⟨_, List.getElem?_eq_getElem (by rw [HXN.out]; exact hjk)⟩
     obtain ⟨b, o, hAd, hb, hc⟩ := (HLX.out.ext HXO.out).at_ hx
     injection hAd with hAd
     injection hAd with hA1 hA2 _
     subst hA1; subst hA2
     have HC := hid hc
     have HX := hid hx
     have hjI : (j : Int) < (k : Int) := by omega
     have hat := (AtC.new wo #[.string x.t, .string x.p, .string x.d, .slice (x.A 0) (x.n 0) (x.c 0), .slice (x.A 1) (x.n 1) (x.c 1), .string (x.s 0), .string (x.s 1), .string (x.s 2), .string (x.s 3), .int .i64 (x.i 0), .int .i64 (x.i 1), .slice (x.A 2) (x.n 2) (x.c 2), .slice (x.A 3) (x.n 3) (x.c 3), .slice (x.A 4) (x.n 4) (x.c 4), .slice (x.A 5) (x.n 5) (x.c 5), .slice (x.A 6) (x.n 6) (x.c 6)] : AtC 37 _ _ _)
     have HAT := hid hat
     have p2 : (wo.alloc (.cells #[.string x.t, .string x.p, .string x.d, .slice (x.A 0) (x.n 0) (x.c 0), .slice (x.A 1) (x.n 1) (x.c 1), .string (x.s 0), .string (x.s 1), .string (x.s 2), .string (x.s 3), .int .i64 (x.i 0), .int .i64 (x.i 1), .slice (x.A 2) (x.n 2) (x.c 2), .slice (x.A 3) (x.n 3) (x.c 3), .slice (x.A 4) (x.n 4) (x.c 4), .slice (x.A 5) (x.n 5) (x.c 5), .slice (x.A 6) (x.n 6) (x.c 6)] 37)).cell? ⟨wo.heap.size, 2, none⟩ = some (.string x.d) := hat.cell 2 _ rfl
     have HBA := hid (HBOX.out.alloc (.cells #[.string x.t, .string x.p, .string x.d, .slice (x.A 0) (x.n 0) (x.c 0), .slice (x.A 1) (x.n 1) (x.c 1), .string (x.s 0), .string (x.s 1), .string (x.s 2), .string (x.s 3), .int .i64 (x.i 0), .int .i64 (x.i 1), .slice (x.A 2) (x.n 2) (x.c 2), .slice (x.A 3) (x.n 3) (x.c 3), .slice (x.A 4) (x.n 4) (x.c 4), .slice (x.A 5) (x.n 5) (x.c 5), .slice (x.A 6) (x.n 6) (x.c 6)] 37))
     have y2 := bx2 HBA.out
     have HBB := hid (HBA.out.alloc (.cells #[.string Dd, .string x.d] 9))
     have f2 := frz_of HBB.out 2
     have z2 := bx2 HBB.out
     have hnb := (AtC.new (wo.alloc (.cells #[.string x.t, .string x.p, .string x.d, .slice (x.A 0) (x.n 0) (x.c 0), .slice (x.A 1) (x.n 1) (x.c 1), .string (x.s 0), .string (x.s 1), .string (x.s 2), .string (x.s 3), .int .i64 (x.i 0), .int .i64 (x.i 1), .slice (x.A 2) (x.n 2) (x.c 2), .slice (x.A 3) (x.n 3) (x.c 3), .slice (x.A 4) (x.n 4) (x.c 4), .slice (x.A 5) (x.n 5) (x.c 5), .slice (x.A 6) (x.n 6) (x.c 6)] 37)) #[.string Dd, .string x.d] : AtC 9 _ _ _)
     rw [World.size_alloc] at hnb
     have KO := hid (orS2_any Dd x.d _ 2 _ (hnb.cell 0 _ rfl) (hnb.cell 1 _ rfl))
     clear hnb
     have HBC := hid (bx_set2 HBB.out (orS Dd x.d))
     have HGW := hid (show wo.heap.size ≠ g from fun h => by have := HBOX.out.lt; omega)
     have HAC := hid ((hat.alloc (.cells #[.string Dd, .string x.d] 9)).exc (Exc.setCell (S := fun q => q = g) (p := ⟨g, 2, none⟩) rfl (.string (orS Dd x.d))) HGW.out)
     have HEC := hid ((HEXC.out.trans (Exc.of_ext (((Ext.refl wo).alloc (.cells #[.string x.t, .string x.p, .string x.d, .slice (x.A 0) (x.n 0) (x.c 0), .slice (x.A 1) (x.n 1) (x.c 1), .string (x.s 0), .string (x.s 1), .string (x.s 2), .string (x.s 3), .int .i64 (x.i 0), .int .i64 (x.i 1), .slice (x.A 2) (x.n 2) (x.c 2), .slice (x.A 3) (x.n 3) (x.c 3), .slice (x.A 4) (x.n 4) (x.c 4), .slice (x.A 5) (x.n 5) (x.c 5), .slice (x.A 6) (x.n 6) (x.c 6)] 37)).alloc (.cells #[.string Dd, .string x.d] 9)))).trans (Exc.setCell (S := fun q => q = g) (p := ⟨g, 2, none⟩) rfl (.string (orS Dd x.d))))
     obtain ⟨e0, he0⟩ : ∃ e0, e0 = Sy.1.getD 0 eB := ⟨_, rfl⟩
     have s5 := (bx5 HBC.out).1
     rw [← he0] at s5
     clear hc hx hat
     go_upto_region 13 with fail
     refine reg13 (by kernel_rfl) hjk hk12 HC.out ?_
     intro v48
     go_upto_region 15 with (go_at_call 19; refine KO.out.mono ?_; rintro e w' ⟨rfl, rfl⟩)
     obtain ⟨wv, hwv⟩ : ∃ wv, wv = World.setCell ((wo.alloc (.cells #[.string x.t, .string x.p, .string x.d, .slice (x.A 0) (x.n 0) (x.c 0), .slice (x.A 1) (x.n 1) (x.c 1), .string (x.s 0), .string (x.s 1), .string (x.s 2), .string (x.s 3), .int .i64 (x.i 0), .int .i64 (x.i 1), .slice (x.A 2) (x.n 2) (x.c 2), .slice (x.A 3) (x.n 3) (x.c 3), .slice (x.A 4) (x.n 4) (x.c 4), .slice (x.A 5) (x.n 5) (x.c 5), .slice (x.A 6) (x.n 6) (x.c 6)] 37)).alloc (.cells #[.string Dd, .string x.d] 9)) ⟨g, 2, none⟩ (.string (orS Dd x.d)) := ⟨_, rfl⟩
     rw [← hwv] at s5 HBC HAC HEC ⊢
     clear hwv y2 f2 z2 p2 KO HBA HBB HC
     have HE := sym_isE Sy
     rw [← he0] at HE
     clear he0
     have HOR := hid (show ∀ b, symE Sy = b → symT ((XL.take (j + 1)).map syL) = if b = true then syL x else Sy from fun b hb => by rw [sym_snoc syL HX.out, ← HSY.out]; unfold stT; rw [hb])
     cases hE : symE Sy
     ·rw [hE] at HE
      have HE1 : e0.toList.isEmpty = false := HE.symm
      have HOR2 := hid (HOR.out _ hE)
      clear HE hE HOR
      go_wp2
      refine ⟨⟨j + 1, by omega, by go_num, ?_, HEC.out⟩, by simp [intOf]; omega⟩
      rw [dir_snoc HX.out, HOR2.out, ← HDD.out]
      exact HBC.out
     ·rw [hE] at HE
      have HE1 : e0.toList.isEmpty = true := HE.symm
      have HOR2 := hid (HOR.out _ hE)
      clear HE hE HOR
      have t5 : wv.cell? ⟨wo.heap.size, 5, none⟩ = some (.string (x.s 0)) := HAC.out.cell 5 _ rfl
      have t6 : wv.cell? ⟨wo.heap.size, 6, none⟩ = some (.string (x.s 1)) := HAC.out.cell 6 _ rfl
      have t7 : wv.cell? ⟨wo.heap.size, 7, none⟩ = some (.string (x.s 2)) := HAC.out.cell 7 _ rfl
      have t8 : wv.cell? ⟨wo.heap.size, 8, none⟩ = some (.string (x.s 3)) := HAC.out.cell 8 _ rfl
      have t9 : wv.cell? ⟨wo.heap.size, 9, none⟩ = some (.int .i64 (x.i 0)) := HAC.out.cell 9 _ rfl
      have t10 : wv.cell? ⟨wo.heap.size, 10, none⟩ = some (.int .i64 (x.i 1)) := HAC.out.cell 10 _ rfl
      have f5 := frz_of HBC.out 5
      have f6 := frz_of HBC.out 6
      have f7 := frz_of HBC.out 7
      have f8 := frz_of HBC.out 8
      have f9 := frz_of HBC.out 9
      have f10 := frz_of HBC.out 10
      obtain ⟨_, s6, s7, s8, s9, s10⟩ := bx5 HBC.out
      go_wp2
      refine ⟨⟨j + 1, by omega, by go_num, ?_, exc_set6 HEC.out rfl _ _ _ _ _ _⟩, by simp [intOf]; omega⟩
      rw [dir_snoc HX.out, HOR2.out, ← HDD.out]
      exact bx_set6 HBC.out _ _ _ _ _ _
    ·have hkj : k = j := by omega
     subst hkj
     have hDD := HDD.out
     rw [List.take_of_length_le (by rw [HXN.out]; exact Nat.le_refl _)] at hDD
     have hSY := HSY.out
     rw [List.take_of_length_le (by rw [HXN.out]; exact Nat.le_refl _)] at hSY
     have HDD2 := hid hDD
     have HSY2 := hid hSY
     obtain ⟨e0, he0⟩ : ∃ e0, e0 = Sy.1.getD 0 eB := ⟨_, rfl⟩
     obtain ⟨s5, s6, s7, s8, s9, s10⟩ := bx5 HBOX.out
     rw [← he0] at s5
     have HE := sym_isE Sy
     rw [← he0] at HE
     have f5 := frz_of HBOX.out 5
     have f6 := frz_of HBOX.out 6
     have f7 := frz_of HBOX.out 7
     have f8 := frz_of HBOX.out 8
     have f9 := frz_of HBOX.out 9
     have f10 := frz_of HBOX.out 10
     have HSF := hid (show symF (XL.map syL) = if symE Sy = true then symZ else Sy from by rw [symT_F, ← hSY])
     clear he0 hDD hSY HDD HSY
     go_upto_if 68 with fail
     go_cut [] (Ef3 w4 g x0.t Dd (symF (XL.map syL)))
     case first =>
      generalize e0.toList.isEmpty = bb at HE ⊢
      cases bb
      ·have HS2 := hid (HSF.out.trans (if_neg (by rw [HE]; decide)))
       clear HE
       go_wp2_with fail
       go_meet
       exact ⟨by rw [HS2.out]; exact HBOX.out, HEXC.out⟩
      ·have HS2 := hid (HSF.out.trans (if_pos HE))
       clear HE
       go_wp2_with fail
       go_meet
       exact ⟨by rw [HS2.out]; exact bx_set6 HBOX.out _ _ _ _ _ _, exc_set6 HEXC.out rfl _ _ _ _ _ _⟩
     case rest =>
      obtain ⟨hb, hex⟩ := hcut
      obtain ⟨S, hS⟩ : ∃ S, S = symF (XL.map syL) := ⟨_, rfl⟩
      rw [← hS] at hb
      have HS := hid hS
      have HB := hid (show AtC 37 wc g (boxG x0.t Dd S (.slice none 0 0) (.slice none 0 0) (.slice none 0 0) (.slice none 0 0) (.slice none 0 0) (.slice none 0 0) (.slice none 0 0)) from hb)
      have HG3 := hid (show w3.heap.size ≤ g from by rw [HG.out]; exact Nat.le_refl _)
      have HWC := hid (show Ext w3 wc from HX4.out.trans' (hex.below (B := w3.heap.size) (fun q hq => by rw [hq]; exact HG3.out) (by have h1 := HS4.out; have h2 := HG.out; omega)) (Nat.le_refl _))
      obtain ⟨YL, hYL⟩ : ∃ YL, YL = r.map fun q => l.getD q lk0 := ⟨_, rfl⟩
      have HYL := hid (show XL = YL.map (·.x) from by rw [HXL.out, hYL, List.map_map]; rfl)
      have hyl : ∀ y ∈ YL, y ∈ l := fun y hy => by
       rw [hYL] at hy
       obtain ⟨q, hq, rfl⟩ := List.mem_map.1 hy
       have h1 := HLT.out q hq
       have h2 := HLL.out
       rw [List.getD_eq_getElem?_getD, List.getElem?_eq_getElem (by omega)]
       exact List.getElem_mem _
      have HYM := hid (fun y hy => (HLK2.out y (hyl y hy)).ext HW3.out)
      have HYN := hid (fun y hy => HSEC.out y (hyl y hy))
      have HTOT := hid (show ∀ j, j < 5 → (YL.map (·.e j)).flatten.length ≤ 1000000 from fun j hj => by
       have h1 := flat_bound (m := 120) (YL.map (·.e j)) (fun x hx => by
        obtain ⟨y, hy, rfl⟩ := List.mem_map.1 hx
        have h3 := HYN.out y hy (j + 2) (by omega)
        have h4 := ((HYM.out y hy).2.2 j hj).1.1
        rw [flat_len2 ((HYM.out y hy).2.2 j hj).2.1] at h4
        have hw5 : 0 < wdE j := by unfold wdE; split <;> (try split) <;> (try split) <;> omega
        have := Nat.eq_of_mul_eq_mul_right hw5 h4
        omega)
       have h2 : (YL.map (·.e j)).length = k := by rw [List.length_map, ← HXN.out, HYL.out, List.length_map]
       rw [h2] at h1
       omega)
      have HXX := hid (show r.map (fun i => lkP (l.getD i lk0)) = YL.map lkP from by rw [hYL, List.map_map]; rfl)
      clear hb hex hS hYL hyl s5 s6 s7 s8 s9 s10 f5 f6 f7 f8 f9 f10 HE HSF HBOX HEXC HXO HSY2 HSEC HLK2 HS4 HB4 HX4
      clear wo
      have K1 := hid (each1_any XL (some ⟨b5, o5, none⟩) k c5 wc (HLX.out.ext HWC.out) (by omega))
      go_wp2_with fail
      refine K1.out.mono ?_
      rintro e wa ⟨v, rfl, hov, hxa⟩
      obtain ⟨A6, c6, rfl, hs6, hc6⟩ := own_sl hov
      rw [HYL.out, rows_hdR] at hs6
      have HXA := hid (HWC.out.trans hxa)
      have K2 := hid (fstRu_any (YL.map (hdR 0)) A6 k c6 wa hs6 (by omega) (hdR_ok fun y hy => (HYM.out y hy).1.ext HXA.out))
      clear hov hs6 hc6 K1
      go_wp2_with fail
      refine K2.out.mono ?_
      rintro e wb ⟨v, rfl, hov, hxb⟩
      obtain ⟨hp1, hp2, hp3⟩ := pickR (i := 0) (fun y hy => (HYM.out y hy).1.ext HXA.out)
      rw [hp1] at hov
      obtain ⟨Rp0, hRp0⟩ : ∃ R, R = orF (YL.map (·.r 0)) := ⟨_, rfl⟩
      rw [← hRp0] at hov hp2 hp3
      have HRp0 := hid hRp0
      obtain ⟨A7, c7, rfl, hm7⟩ := rus_own hov hxb hp2 hp3
      have K3 := hid (rules_any Rp0 _ A7 _ c7 wb hm7)
      have HXB := hid (hxa.trans hxb)
      clear hov hp1 hp2 hp3 hm7 hxa hxb K2 hRp0
      go_wp2_with fail
      refine K3.out.mono ?_
      rintro e wd ⟨Ap0, cp0, lp0, rfl, hm, hp, hxd⟩
      have HPp0 := hid hp
      have HXD := hid (HXB.out.trans hxd)
      have HMp0 := hid (rus_new (g := g) 3 (.slice Ap0 Rp0.length cp0) hm (Nat.lt_of_lt_of_le HB.out.lt HXB.out.size))
      have HBN := hid ((HB.out.ext HXD.out).setAt 3 (.slice Ap0 Rp0.length cp0))
      have fr := frz_of (HB.out.ext HXD.out) 3
      have yr := (HB.out.ext HXD.out).cell 3 _ rfl
      clear hm hp hxd K3
      go_upto_region 21 with fail
      obtain ⟨wn, hwn⟩ : ∃ wn, wn = World.setCell wd ⟨g, 3, none⟩ (.slice Ap0 Rp0.length cp0) := ⟨_, rfl⟩
      have HWN := hid (show Ext w3 wn from by rw [hwn]; exact (HWC.out.trans HXD.out).setCell (p := ⟨g, 3, none⟩) HG3.out _)
      have HBW := hid (show AtC 37 wn g (boxG x0.t Dd S (.slice Ap0 Rp0.length cp0) (.slice none 0 0) (.slice none 0 0) (.slice none 0 0) (.slice none 0 0) (.slice none 0 0) (.slice none 0 0)) from by rw [hwn]; exact HBN.out)
      rw [← hwn] at HMp0  ⊢
      clear hwn fr yr HBN HB HWC HXA HXD HXB 
      clear wc wa wb wd
      obtain ⟨wc, hwc⟩ : ∃ wc : World, wc = wn := ⟨_, rfl⟩
      subst hwc
      have HWC := HWN
      have HB := HBW
      clear HWN HBW
      have K1 := hid (each2_any XL (some ⟨b5, o5, none⟩) k c5 wc (HLX.out.ext HWC.out) (by omega))
      go_wp2_with fail
      refine K1.out.mono ?_
      rintro e wa ⟨v, rfl, hov, hxa⟩
      obtain ⟨A6, c6, rfl, hs6, hc6⟩ := own_sl hov
      rw [HYL.out, rows_hdR] at hs6
      have HXA := hid (HWC.out.trans hxa)
      have K2 := hid (fstRu_any (YL.map (hdR 1)) A6 k c6 wa hs6 (by omega) (hdR_ok fun y hy => (HYM.out y hy).2.1.ext HXA.out))
      clear hov hs6 hc6 K1
      go_wp2_with fail
      refine K2.out.mono ?_
      rintro e wb ⟨v, rfl, hov, hxb⟩
      obtain ⟨hp1, hp2, hp3⟩ := pickR (i := 1) (fun y hy => (HYM.out y hy).2.1.ext HXA.out)
      rw [hp1] at hov
      obtain ⟨Rp1, hRp1⟩ : ∃ R, R = orF (YL.map (·.r 1)) := ⟨_, rfl⟩
      rw [← hRp1] at hov hp2 hp3
      have HRp1 := hid hRp1
      obtain ⟨A7, c7, rfl, hm7⟩ := rus_own hov hxb hp2 hp3
      have K3 := hid (rules_any Rp1 _ A7 _ c7 wb hm7)
      have HXB := hid (hxa.trans hxb)
      clear hov hp1 hp2 hp3 hm7 hxa hxb K2 hRp1
      go_wp2_with fail
      refine K3.out.mono ?_
      rintro e wd ⟨Ap1, cp1, lp1, rfl, hm, hp, hxd⟩
      have HPp1 := hid hp
      have HXD := hid (HXB.out.trans hxd)
      have HMp1 := hid (rus_new (g := g) 4 (.slice Ap1 Rp1.length cp1) hm (Nat.lt_of_lt_of_le HB.out.lt HXB.out.size))
      have HBN := hid ((HB.out.ext HXD.out).setAt 4 (.slice Ap1 Rp1.length cp1))
      have fr := frz_of (HB.out.ext HXD.out) 4
      have yr := (HB.out.ext HXD.out).cell 4 _ rfl
      clear hm hp hxd K3
      have HNp0 := hid (rus_keep 4 (.slice Ap1 Rp1.length cp1) HMp0.out HXD.out)
      go_upto_region 22 with fail
      obtain ⟨wn, hwn⟩ : ∃ wn, wn = World.setCell wd ⟨g, 4, none⟩ (.slice Ap1 Rp1.length cp1) := ⟨_, rfl⟩
      have HWN := hid (show Ext w3 wn from by rw [hwn]; exact (HWC.out.trans HXD.out).setCell (p := ⟨g, 4, none⟩) HG3.out _)
      have HBW := hid (show AtC 37 wn g (boxG x0.t Dd S (.slice Ap0 Rp0.length cp0) (.slice Ap1 Rp1.length cp1) (.slice none 0 0) (.slice none 0 0) (.slice none 0 0) (.slice none 0 0) (.slice none 0 0)) from by rw [hwn]; exact HBN.out)
      rw [← hwn] at HMp1 HNp0 ⊢
      clear hwn fr yr HBN HB HWC HXA HXD HXB HMp0
      clear wc wa wb wd
      have HMp0 := HNp0
      clear HNp0
      obtain ⟨wc, hwc⟩ : ∃ wc : World, wc = wn := ⟨_, rfl⟩
      subst hwc
      have HWC := HWN
      have HB := HBW
      clear HWN HBW
      have K1 := hid (each3_any XL (some ⟨b5, o5, none⟩) k c5 wc (HLX.out.ext HWC.out) (by omega))
      go_wp2_with fail
      refine K1.out.mono ?_
      rintro e wa ⟨v, rfl, hov, hxa⟩
      obtain ⟨A6, c6, rfl, hs6, hc6⟩ := own_sl hov
      rw [HYL.out, rows_hdS 3] at hs6
      have HXA := hid (HWC.out.trans hxa)
      have K2 := hid (fstSt_any (YL.map (hdS 3)) A6 k c6 wa hs6 (by omega) (hdS_ok (fun y hy => ((HYM.out y hy).2.2 3 (by decide)).ext HXA.out) (fun y hy => HYN.out y hy 5 (by decide))))
      clear hov hs6 hc6 K1
      go_wp2_with fail
      refine K2.out.mono ?_
      rintro e wd ⟨v, rfl, hov, hxb⟩
      obtain ⟨hp1, hp2, hp3⟩ := pickS (j := 3) (fun y hy => ((HYM.out y hy).2.2 3 (by decide)).ext HXA.out)
      rw [hp1] at hov
      obtain ⟨Rp5, hRp5⟩ : ∃ R, R = orF (YL.map (·.e 3)) := ⟨_, rfl⟩
      rw [← hRp5] at hov hp2 hp3
      have HRp5 := hid hRp5
      obtain ⟨Ap5, cp5, rfl, hm⟩ := el_own (g := g) hov (Nat.lt_of_lt_of_le HB.out.lt hxa.size) hp2 hp3
      have HXD := hid (hxa.trans hxb)
      have HMp5 := hid (el_keep 14 (.slice Ap5 Rp5.length cp5) hm (Ext.refl _))
      have HBN := hid ((HB.out.ext HXD.out).setAt 14 (.slice Ap5 Rp5.length cp5))
      have fr := frz_of (HB.out.ext HXD.out) 14
      have yr := (HB.out.ext HXD.out).cell 14 _ rfl
      clear hm hov hp1 hp2 hp3 hxa hxb K2 hRp5
      have HNp0 := hid (rus_keep 14 (.slice Ap5 Rp5.length cp5) HMp0.out HXD.out)
      have HNp1 := hid (rus_keep 14 (.slice Ap5 Rp5.length cp5) HMp1.out HXD.out)
      go_upto_region 23 with fail
      obtain ⟨wn, hwn⟩ : ∃ wn, wn = World.setCell wd ⟨g, 14, none⟩ (.slice Ap5 Rp5.length cp5) := ⟨_, rfl⟩
      have HWN := hid (show Ext w3 wn from by rw [hwn]; exact (HWC.out.trans HXD.out).setCell (p := ⟨g, 14, none⟩) HG3.out _)
      have HBW := hid (show AtC 37 wn g (boxG x0.t Dd S (.slice Ap0 Rp0.length cp0) (.slice Ap1 Rp1.length cp1) (.slice none 0 0) (.slice none 0 0) (.slice none 0 0) (.slice Ap5 Rp5.length cp5) (.slice none 0 0)) from by rw [hwn]; exact HBN.out)
      rw [← hwn] at HMp5 HNp0 HNp1 ⊢
      clear hwn fr yr HBN HB HWC HXA HXD  HMp0 HMp1
      clear wc wa wd
      have HMp0 := HNp0
      clear HNp0
      have HMp1 := HNp1
      clear HNp1
      obtain ⟨wc, hwc⟩ : ∃ wc : World, wc = wn := ⟨_, rfl⟩
      subst hwc
      have HWC := HWN
      have HB := HBW
      clear HWN HBW
      have K1 := hid (each4_any XL (some ⟨b5, o5, none⟩) k c5 wc (HLX.out.ext HWC.out) (by omega))
      go_wp2_with fail
      refine K1.out.mono ?_
      rintro e wa ⟨v, rfl, hov, hxa⟩
      obtain ⟨A6, c6, rfl, hs6, hc6⟩ := own_sl hov
      rw [HYL.out, rows_hdS 4] at hs6
      have HXA := hid (HWC.out.trans hxa)
      have K2 := hid (fstSt_any (YL.map (hdS 4)) A6 k c6 wa hs6 (by omega) (hdS_ok (fun y hy => ((HYM.out y hy).2.2 4 (by decide)).ext HXA.out) (fun y hy => HYN.out y hy 6 (by decide))))
      clear hov hs6 hc6 K1
      go_wp2_with fail
      refine K2.out.mono ?_
      rintro e wd ⟨v, rfl, hov, hxb⟩
      obtain ⟨hp1, hp2, hp3⟩ := pickS (j := 4) (fun y hy => ((HYM.out y hy).2.2 4 (by decide)).ext HXA.out)
      rw [hp1] at hov
      obtain ⟨Rp6, hRp6⟩ : ∃ R, R = orF (YL.map (·.e 4)) := ⟨_, rfl⟩
      rw [← hRp6] at hov hp2 hp3
      have HRp6 := hid hRp6
      obtain ⟨Ap6, cp6, rfl, hm⟩ := el_own (g := g) hov (Nat.lt_of_lt_of_le HB.out.lt hxa.size) hp2 hp3
      have HXD := hid (hxa.trans hxb)
      have HMp6 := hid (el_keep 15 (.slice Ap6 Rp6.length cp6) hm (Ext.refl _))
      have HBN := hid ((HB.out.ext HXD.out).setAt 15 (.slice Ap6 Rp6.length cp6))
      have fr := frz_of (HB.out.ext HXD.out) 15
      have yr := (HB.out.ext HXD.out).cell 15 _ rfl
      clear hm hov hp1 hp2 hp3 hxa hxb K2 hRp6
      have HNp0 := hid (rus_keep 15 (.slice Ap6 Rp6.length cp6) HMp0.out HXD.out)
      have HNp1 := hid (rus_keep 15 (.slice Ap6 Rp6.length cp6) HMp1.out HXD.out)
      have HNp5 := hid (el_keep 15 (.slice Ap6 Rp6.length cp6) HMp5.out HXD.out)
      go_upto_region 24 with fail
      obtain ⟨wn, hwn⟩ : ∃ wn, wn = World.setCell wd ⟨g, 15, none⟩ (.slice Ap6 Rp6.length cp6) := ⟨_, rfl⟩
      have HWN := hid (show Ext w3 wn from by rw [hwn]; exact (HWC.out.trans HXD.out).setCell (p := ⟨g, 15, none⟩) HG3.out _)
      have HBW := hid (show AtC 37 wn g (boxG x0.t Dd S (.slice Ap0 Rp0.length cp0) (.slice Ap1 Rp1.length cp1) (.slice none 0 0) (.slice none 0 0) (.slice none 0 0) (.slice Ap5 Rp5.length cp5) (.slice Ap6 Rp6.length cp6)) from by rw [hwn]; exact HBN.out)
      rw [← hwn] at HMp6 HNp0 HNp1 HNp5 ⊢
      clear hwn fr yr HBN HB HWC HXA HXD  HMp0 HMp1 HMp5
      clear wc wa wd
      have HMp0 := HNp0
      clear HNp0
      have HMp1 := HNp1
      clear HNp1
      have HMp5 := HNp5
      clear HNp5
      obtain ⟨wc, hwc⟩ : ∃ wc : World, wc = wn := ⟨_, rfl⟩
      subst hwc
      have HWC := HWN
      have HB := HBW
      clear HWN HBW
      have K1 := hid (each5_any XL (some ⟨b5, o5, none⟩) k c5 wc (HLX.out.ext HWC.out) (by omega))
      go_wp2_with fail
      refine K1.out.mono ?_
      rintro e wa ⟨v, rfl, hov, hxa⟩
      obtain ⟨A6, c6, rfl, hs6, hc6⟩ := own_sl hov
      rw [HYL.out, rows_fld] at hs6
      have HXA := hid (HWC.out.trans hxa)
      have K2 := hid (mrgL_any YL A6 k c6 wa hs6 (by omega) (fun y hy => ((HYM.out y hy).2.2 0 (by decide)).ext HXA.out) (HTOT.out 0 (by decide)))
      clear hov hs6 hc6 K1
      go_wp2_with fail
      refine K2.out.mono ?_
      rintro e wd ⟨Ap2, cp2, Rp2, rfl, hRp2, hm, hbk, hxb⟩
      have HRp2 := hid hRp2
      have HXD := hid (hxa.trans hxb)
      have HMp2 := hid (el_keep (g := g) 11 (.slice Ap2 Rp2.length cp2) ⟨hm, fun ad had => Nat.lt_of_lt_of_le (Nat.lt_of_lt_of_le HB.out.lt hxa.size) (hbk ad had)⟩ (Ext.refl _))
      have HBN := hid ((HB.out.ext HXD.out).setAt 11 (.slice Ap2 Rp2.length cp2))
      have fr := frz_of (HB.out.ext HXD.out) 11
      have yr := (HB.out.ext HXD.out).cell 11 _ rfl
      clear hm hbk hxa hxb K2 hRp2
      have HNp0 := hid (rus_keep 11 (.slice Ap2 Rp2.length cp2) HMp0.out HXD.out)
      have HNp1 := hid (rus_keep 11 (.slice Ap2 Rp2.length cp2) HMp1.out HXD.out)
      have HNp5 := hid (el_keep 11 (.slice Ap2 Rp2.length cp2) HMp5.out HXD.out)
      have HNp6 := hid (el_keep 11 (.slice Ap2 Rp2.length cp2) HMp6.out HXD.out)
      go_upto_region 25 with fail
      obtain ⟨wn, hwn⟩ : ∃ wn, wn = World.setCell wd ⟨g, 11, none⟩ (.slice Ap2 Rp2.length cp2) := ⟨_, rfl⟩
      have HWN := hid (show Ext w3 wn from by rw [hwn]; exact (HWC.out.trans HXD.out).setCell (p := ⟨g, 11, none⟩) HG3.out _)
      have HBW := hid (show AtC 37 wn g (boxG x0.t Dd S (.slice Ap0 Rp0.length cp0) (.slice Ap1 Rp1.length cp1) (.slice Ap2 Rp2.length cp2) (.slice none 0 0) (.slice none 0 0) (.slice Ap5 Rp5.length cp5) (.slice Ap6 Rp6.length cp6)) from by rw [hwn]; exact HBN.out)
      rw [← hwn] at HMp2 HNp0 HNp1 HNp5 HNp6 ⊢
      clear hwn fr yr HBN HB HWC HXA HXD  HMp0 HMp1 HMp5 HMp6
      clear wc wa wd
      have HMp0 := HNp0
      clear HNp0
      have HMp1 := HNp1
      clear HNp1
      have HMp5 := HNp5
      clear HNp5
      have HMp6 := HNp6
      clear HNp6
      obtain ⟨wc, hwc⟩ : ∃ wc : World, wc = wn := ⟨_, rfl⟩
      subst hwc
      have HWC := HWN
      have HB := HBW
      clear HWN HBW
      have K1 := hid (each7_any XL (some ⟨b5, o5, none⟩) k c5 wc (HLX.out.ext HWC.out) (by omega))
      go_wp2_with fail
      refine K1.out.mono ?_
      rintro e wa ⟨v, rfl, hov, hxa⟩
      obtain ⟨A6, c6, rfl, hs6, hc6⟩ := own_sl hov
      rw [HYL.out, rows_fld] at hs6
      have HXA := hid (HWC.out.trans hxa)
      have K2 := hid (mrgU_any YL A6 k c6 wa hs6 (by omega) (fun y hy => ((HYM.out y hy).2.2 1 (by decide)).ext HXA.out) (HTOT.out 1 (by decide)))
      clear hov hs6 hc6 K1
      go_wp2_with fail
      refine K2.out.mono ?_
      rintro e wd ⟨Ap3, cp3, Rp3, rfl, hRp3, hm, hbk, hxb⟩
      have HRp3 := hid hRp3
      have HXD := hid (hxa.trans hxb)
      have HMp3 := hid (el_keep (g := g) 12 (.slice Ap3 Rp3.length cp3) ⟨hm, fun ad had => Nat.lt_of_lt_of_le (Nat.lt_of_lt_of_le HB.out.lt hxa.size) (hbk ad had)⟩ (Ext.refl _))
      have HBN := hid ((HB.out.ext HXD.out).setAt 12 (.slice Ap3 Rp3.length cp3))
      have fr := frz_of (HB.out.ext HXD.out) 12
      have yr := (HB.out.ext HXD.out).cell 12 _ rfl
      clear hm hbk hxa hxb K2 hRp3
      have HNp0 := hid (rus_keep 12 (.slice Ap3 Rp3.length cp3) HMp0.out HXD.out)
      have HNp1 := hid (rus_keep 12 (.slice Ap3 Rp3.length cp3) HMp1.out HXD.out)
      have HNp5 := hid (el_keep 12 (.slice Ap3 Rp3.length cp3) HMp5.out HXD.out)
      have HNp6 := hid (el_keep 12 (.slice Ap3 Rp3.length cp3) HMp6.out HXD.out)
      have HNp2 := hid (el_keep 12 (.slice Ap3 Rp3.length cp3) HMp2.out HXD.out)
      go_upto_region 26 with fail
      obtain ⟨wn, hwn⟩ : ∃ wn, wn = World.setCell wd ⟨g, 12, none⟩ (.slice Ap3 Rp3.length cp3) := ⟨_, rfl⟩
      have HWN := hid (show Ext w3 wn from by rw [hwn]; exact (HWC.out.trans HXD.out).setCell (p := ⟨g, 12, none⟩) HG3.out _)
      have HBW := hid (show AtC 37 wn g (boxG x0.t Dd S (.slice Ap0 Rp0.length cp0) (.slice Ap1 Rp1.length cp1) (.slice Ap2 Rp2.length cp2) (.slice Ap3 Rp3.length cp3) (.slice none 0 0) (.slice Ap5 Rp5.length cp5) (.slice Ap6 Rp6.length cp6)) from by rw [hwn]; exact HBN.out)
      rw [← hwn] at HMp3 HNp0 HNp1 HNp5 HNp6 HNp2 ⊢
      clear hwn fr yr HBN HB HWC HXA HXD  HMp0 HMp1 HMp5 HMp6 HMp2
      clear wc wa wd
      have HMp0 := HNp0
      clear HNp0
      have HMp1 := HNp1
      clear HNp1
      have HMp5 := HNp5
      clear HNp5
      have HMp6 := HNp6
      clear HNp6
      have HMp2 := HNp2
      clear HNp2
      obtain ⟨wc, hwc⟩ : ∃ wc : World, wc = wn := ⟨_, rfl⟩
      subst hwc
      have HWC := HWN
      have HB := HBW
      clear HWN HBW
      have K1 := hid (each10_any XL (some ⟨b5, o5, none⟩) k c5 wc (HLX.out.ext HWC.out) (by omega))
      go_wp2_with fail
      refine K1.out.mono ?_
      rintro e wa ⟨v, rfl, hov, hxa⟩
      obtain ⟨A6, c6, rfl, hs6, hc6⟩ := own_sl hov
      rw [HYL.out, rows_fld] at hs6
      have HXA := hid (HWC.out.trans hxa)
      have K2 := hid (mrgD_any YL A6 k c6 wa hs6 (by omega) (fun y hy => ((HYM.out y hy).2.2 2 (by decide)).ext HXA.out) (HTOT.out 2 (by decide)))
      clear hov hs6 hc6 K1
      go_wp2_with fail
      refine K2.out.mono ?_
      rintro e wd ⟨Ap4, cp4, Rp4, rfl, hRp4, hm, hbk, hxb⟩
      have HRp4 := hid hRp4
      have HXD := hid (hxa.trans hxb)
      have HMp4 := hid (el_keep (g := g) 13 (.slice Ap4 Rp4.length cp4) ⟨hm, fun ad had => Nat.lt_of_lt_of_le (Nat.lt_of_lt_of_le HB.out.lt hxa.size) (hbk ad had)⟩ (Ext.refl _))
      have HBN := hid ((HB.out.ext HXD.out).setAt 13 (.slice Ap4 Rp4.length cp4))
      have fr := frz_of (HB.out.ext HXD.out) 13
      have yr := (HB.out.ext HXD.out).cell 13 _ rfl
      clear hm hbk hxa hxb K2 hRp4
      have HNp0 := hid (rus_keep 13 (.slice Ap4 Rp4.length cp4) HMp0.out HXD.out)
      have HNp1 := hid (rus_keep 13 (.slice Ap4 Rp4.length cp4) HMp1.out HXD.out)
      have HNp5 := hid (el_keep 13 (.slice Ap4 Rp4.length cp4) HMp5.out HXD.out)
      have HNp6 := hid (el_keep 13 (.slice Ap4 Rp4.length cp4) HMp6.out HXD.out)
      have HNp2 := hid (el_keep 13 (.slice Ap4 Rp4.length cp4) HMp2.out HXD.out)
      have HNp3 := hid (el_keep 13 (.slice Ap4 Rp4.length cp4) HMp3.out HXD.out)
      go_upto_region 27 with fail
      obtain ⟨wn, hwn⟩ : ∃ wn, wn = World.setCell wd ⟨g, 13, none⟩ (.slice Ap4 Rp4.length cp4) := ⟨_, rfl⟩
      have HWN := hid (show Ext w3 wn from by rw [hwn]; exact (HWC.out.trans HXD.out).setCell (p := ⟨g, 13, none⟩) HG3.out _)
      have HBW := hid (show AtC 37 wn g (boxG x0.t Dd S (.slice Ap0 Rp0.length cp0) (.slice Ap1 Rp1.length cp1) (.slice Ap2 Rp2.length cp2) (.slice Ap3 Rp3.length cp3) (.slice Ap4 Rp4.length cp4) (.slice Ap5 Rp5.length cp5) (.slice Ap6 Rp6.length cp6)) from by rw [hwn]; exact HBN.out)
      rw [← hwn] at HMp4 HNp0 HNp1 HNp5 HNp6 HNp2 HNp3 ⊢
      clear hwn fr yr HBN HB HWC HXA HXD  HMp0 HMp1 HMp5 HMp6 HMp2 HMp3
      clear wc wa wd
      have HMp0 := HNp0
      clear HNp0
      have HMp1 := HNp1
      clear HNp1
      have HMp5 := HNp5
      clear HNp5
      have HMp6 := HNp6
      clear HNp6
      have HMp2 := HNp2
      clear HNp2
      have HMp3 := HNp3
      clear HNp3
      obtain ⟨wc, hwc⟩ : ∃ wc : World, wc = wn := ⟨_, rfl⟩
      subst hwc
      have HWC := HWN
      have HB := HBW
      clear HWN HBW
      obtain ⟨s0, s1, s2, s3, t0, t1, hS⟩ := sym_shape (XL.map syL) (fun x hx => by obtain ⟨y, _, rfl⟩ := List.mem_map.1 hx; exact ⟨_, _, _, _, _, _, rfl⟩)
      have hS2 := HS.out.trans hS
      subst hS2
      have HSS := hid hS
      have HRBc := hid (HRB2.out.ext (HW3.out.trans HWC.out))
      have HRG := hid (show w.heap.size + 1 < g from Nat.lt_of_lt_of_le HRB2.out.lt (Nat.le_trans HW3.out.size HG3.out))
      clear hS
      refine fin27 (by kernel_rfl) HB.out HRBc.out ?_
      intro wf hat hex
      have HEX := hid hex
      obtain ⟨z0, z1, z2, z3, z4, z5, z6, z7, z8, z9, z10, z11, z12, z13, z14, z15⟩ := bg16 hat
      have HXF := hid (show Ext w wf from (HW2.out.trans (HW3.out.trans HWC.out)).trans' (hex.below (B := w.heap.size) (fun q hq => by rw [hq]; exact Nat.le_succ _) (Nat.le_trans HW2.out.size (Nat.le_trans HW3.out.size HWC.out.size))) (Nat.le_refl _))
      clear hat hex
      go_wp2
      refine bodyPost_ret (v := .tuple #[.agg #[.string x0.t, .string ⟨#[]⟩, .string Dd, .slice Ap0 Rp0.length cp0, .slice Ap1 Rp1.length cp1, .string s0, .string s1, .string s2, .string s3, .int .i64 t0, .int .i64 t1, .slice Ap2 Rp2.length cp2, .slice Ap3 Rp3.length cp3, .slice Ap4 Rp4.length cp4, .slice Ap5 Rp5.length cp5, .slice Ap6 Rp6.length cp6], .int .i64 0]) (by rw [results_cell_tmp rfl]; go_simp) rfl ?_
      clear z0 z1 z2 z3 z4 z5 z6 z7 z8 z9 z10 z11 z12 z13 z14 z15
      refine ⟨⟨⟨x0.t, eB, Dd, fun j => [Ap0, Ap1, Ap2, Ap3, Ap4, Ap5, Ap6].getD j none, fun j => [Rp0.length, Rp1.length, Rp2.length, Rp3.length, Rp4.length, Rp5.length, Rp6.length].getD j 0, fun j => [cp0, cp1, cp2, cp3, cp4, cp5, cp6].getD j 0, fun j => [s0, s1, s2, s3].getD j eB, fun j => [t0, t1].getD j 0⟩, fun j => [lp0, lp1].getD j [], fun j => if j = 0 then mrgE 1 (YL.map (·.e 0)) else if j = 1 then mrgE 2 (YL.map (·.e 1)) else if j = 2 then mrgE 1 (YL.map (·.e 2)) else orF (YL.map (·.e j))⟩, rfl, ⟨rus_fin HMp0.out HEX.out HRG.out, rus_fin HMp1.out HEX.out HRG.out, fun j hj => ?_⟩, HXF.out, fun h => absurd rfl h, fun _ => ?_⟩
      ·rcases j with _ | _ | _ | _ | _ | j
       ·show ElM 5 _ Ap2 Rp2.length (mrgE 1 (YL.map (·.e 0)))
        rw [← HRp2.out]
        exact el_fin HMp2.out HEX.out HRG.out
       ·show ElM 3 _ Ap3 Rp3.length (mrgE 2 (YL.map (·.e 1)))
        rw [← HRp3.out]
        exact el_fin HMp3.out HEX.out HRG.out
       ·show ElM 2 _ Ap4 Rp4.length (mrgE 1 (YL.map (·.e 2)))
        rw [← HRp4.out]
        exact el_fin HMp4.out HEX.out HRG.out
       ·show ElM 1 _ Ap5 Rp5.length (orF (YL.map (·.e 3)))
        rw [← HRp5.out]
        exact el_fin HMp5.out HEX.out HRG.out
       ·show ElM 1 _ Ap6 Rp6.length (orF (YL.map (·.e 4)))
        rw [← HRp6.out]
        exact el_fin HMp6.out HEX.out HRG.out
       ·exact absurd hj (by omega)
      ·rw [HXX.out]
       refine eff_eq (x0 := x0) (by rw [← HYL.out]; exact HX0.out) rfl rfl (by rw [← HYL.out]; exact HDD2.out) (by rw [← HYL.out]; exact HSS.out.symm) (by rw [← HRp0.out]; exact HPp0.out) (by rw [← HRp1.out]; exact HPp1.out) rfl
end Go.Proofs.YtljdlkonlnjadaaGreatDoor
