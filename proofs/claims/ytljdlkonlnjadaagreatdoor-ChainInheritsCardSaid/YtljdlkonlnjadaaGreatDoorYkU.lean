import Derived.Test.YtljdlkonlnjadaaGreatDoorYg
import Derived.Test.YtljdlkonlnjadaaGreatDoorNZ7
import Derived.Test.YtljdlkonlnjadaaGreatDoorNZ8
import Derived.Test.YtljdlkonlnjadaaGreatDoorNZ9
import Derived.Test.YtljdlkonlnjadaaGreatDoorNX4
import Derived.Test.YtljdlkonlnjadaaGreatDoorNX2
import Derived.Test.YtljdlkonlnjadaaGreatDoorNXC
import Derived.Test.YtljdlkonlnjadaaGreatDoorSrtK
set_option maxRecDepth 100000
set_option linter.unusedSimpArgs false
set_option linter.unusedVariables false
open Go.Lib (hid)
namespace Go.Proofs.YtljdlkonlnjadaaGreatDoor
open Go.RowKit Go.Sort Go.Shelf Go.WideMaps
theorem kyU_any (s0 s1 s2 : ByteArray) (w : World) : Calls Tryz.prog 37 #[.agg #[.string s0, .string s1, .string s2]] w fun e w' => e = .returned (.agg #[.string s0, .string s1]) ∧ Ext w w' := by
 have hat := (AtC.new w #[.string s0, .string s1, .string s2] : AtC 48 _ _ _)
 have h0 := (hat.alloc (.cells #[.string ⟨#[]⟩, .string ⟨#[]⟩] 78)).cell 0 _ rfl
 have h1 := (hat.alloc (.cells #[.string ⟨#[]⟩, .string ⟨#[]⟩] 78)).cell 1 _ rfl
 clear hat
 go_enter Tryz.func37, Tryz.ntmps37
 go_wp2
 have hh := (AtC.new (w.alloc (.cells #[.string s0, .string s1, .string s2] 48)) #[.string s0, .string s1] : AtC 78 _ _ _)
 rw [World.size_alloc] at hh
 exact bodyPost_ret (v := .agg #[.string s0, .string s1]) (results_cell_row rfl _ _ (w.heap.size + 1) 78 _ (0, 0) _ rfl hh Tryz.underlying78 rfl (by kernel_rfl)) rfl ⟨rfl, ((Ext.refl w).alloc _).alloc _⟩
theorem arrS : ArrKey Tryz.prog 78 9 2 := ⟨Tryz.underlying78, by kernel_rfl, by kernel_rfl, by kernel_rfl⟩
theorem MapA.kept {P : Program} {k e : TypeId} {w w' : World} {b n : Nat} {ks : List (List UInt8 × List UInt8)} {row : Option Nat} (h : MapA P k e w b n ks) (hg : w.grownBy w' row) (hne : some b ≠ row) : MapA P k e w' b n ks := by
 obtain ⟨D, h, r⟩ := h
 exact ⟨D, h.kept hg hne, r⟩
theorem cm9_any (x0 x1 y0 y1 : ByteArray) (w : World) : Calls Tryz.prog 38 #[.agg #[.string x0, .string x1], .agg #[.string y0, .string y1]] w fun e w' => e = .returned (.int .i64 (if cmpS x0.data.toList y0.data.toList = 0 then cmpS x1.data.toList y1.data.toList else cmpS x0.data.toList y0.data.toList)) ∧ Ext w w' := by
 have K1 := hid (fun (v : ExtW ((w.alloc (.cells #[.string x0, .string x1] 78)).alloc (.cells #[.string y0, .string y1] 78))) => cmpS_any x0 y0 v.v)
 have K2 := hid (fun (v : ExtW ((w.alloc (.cells #[.string x0, .string x1] 78)).alloc (.cells #[.string y0, .string y1] 78))) => cmpS_any x1 y1 v.v)
 have a0 := fun (v : ExtW ((w.alloc (.cells #[.string x0, .string x1] 78)).alloc (.cells #[.string y0, .string y1] 78))) => (((AtC.new w #[.string x0, .string x1] : AtC 78 _ _ _).alloc (.cells #[.string y0, .string y1] 78)).ext v.h).cell 0 _ rfl
 have a1 := fun (v : ExtW ((w.alloc (.cells #[.string x0, .string x1] 78)).alloc (.cells #[.string y0, .string y1] 78))) => (((AtC.new w #[.string x0, .string x1] : AtC 78 _ _ _).alloc (.cells #[.string y0, .string y1] 78)).ext v.h).cell 1 _ rfl
 have b0 := fun (v : ExtW ((w.alloc (.cells #[.string x0, .string x1] 78)).alloc (.cells #[.string y0, .string y1] 78))) => ((AtC.new (w.alloc (.cells #[.string x0, .string x1] 78)) #[.string y0, .string y1] : AtC 78 _ _ _).ext v.h).cell 0 _ rfl
 have b1 := fun (v : ExtW ((w.alloc (.cells #[.string x0, .string x1] 78)).alloc (.cells #[.string y0, .string y1] 78))) => ((AtC.new (w.alloc (.cells #[.string x0, .string x1] 78)) #[.string y0, .string y1] : AtC 78 _ _ _).ext v.h).cell 1 _ rfl
 rw [World.size_alloc] at b0 b1
 generalize cmpS x0.data.toList y0.data.toList = r1 at *
 generalize cmpS x1.data.toList y1.data.toList = r2 at *
 have KR := fun (g c : Nat) (W : World) => or2_any r1 r2 g c W
 generalize (if r1 = 0 then r2 else r1) = R at *
 go_enter Tryz.func38, Tryz.ntmps38
 go_wp2_with fail
 refine wp_ext_tail 10 (by kernel_rfl) (by kernel_rfl) ?_
 simp only [List.take_succ_cons, List.take_zero, List.drop_succ_cons, List.drop_zero]
 repeat (go_big_quiet_step ((go_at_call 33; with_reducible first | exact ExtW.same (K1.out _) | exact ExtW.same (K2.out _))))
 refine wpQuiet_nil ?_
 intro wx hx
 have HX := hid (ext_of hx)
 clear hx a0 a1 b0 b1
 have c0 := (AtC.new wx #[.int .i64 r1, .int .i64 r2] : AtC 3 _ _ _).cell 0 _ rfl
 have c1 := (AtC.new wx #[.int .i64 r1, .int .i64 r2] : AtC 3 _ _ _).cell 1 _ rfl
 have KO := hid (KR wx.heap.size 2 _ c0 c1)
 go_wp2_with (go_at_call 39; refine KO.out.mono ?_; rintro e w2 ⟨rfl, rfl⟩)
 go_ret
 exact ⟨rfl, ((((Ext.refl w).alloc _).alloc _).trans HX.out).alloc _⟩
theorem cloU_any (x0 x1 x2 y0 y1 y2 : ByteArray) (gc gk : Nat) (T1 T2 : TypeId) (w : World) (hc : AtC T1 w gc #[.func (.func 38) #[] #[]]) (hk : AtC T2 w gk #[.func (.func 37) #[] #[]]) :
 Calls Tryz.prog 70 #[.agg #[.string x0, .string x1, .string x2], .agg #[.string y0, .string y1, .string y2], .pointer (some ⟨gc, 0, none⟩), .pointer (some ⟨gk, 0, none⟩)] w fun e w' => e = .returned (.int .i64 (if cmpS x0.data.toList y0.data.toList = 0 then cmpS x1.data.toList y1.data.toList else cmpS x0.data.toList y0.data.toList)) ∧ Ext w w' := by
 have hw0 : Ext w ((w.alloc (.cells #[.string x0, .string x1, .string x2] 48)).alloc (.cells #[.string y0, .string y1, .string y2] 48)) := ((Ext.refl w).alloc _).alloc _
 have hax := ((AtC.new w #[.string x0, .string x1, .string x2] : AtC 48 _ _ _).alloc (.cells #[.string y0, .string y1, .string y2] 48))
 have hay := (AtC.new (w.alloc (.cells #[.string x0, .string x1, .string x2] 48)) #[.string y0, .string y1, .string y2] : AtC 48 _ _ _)
 rw [World.size_alloc] at hay
 have HW0 := hid hw0
 have c0 := fun (v : ExtW ((w.alloc (.cells #[.string x0, .string x1, .string x2] 48)).alloc (.cells #[.string y0, .string y1, .string y2] 48))) => (hc.ext (hw0.trans v.h)).cell 0 _ rfl
 have k0 := fun (v : ExtW ((w.alloc (.cells #[.string x0, .string x1, .string x2] 48)).alloc (.cells #[.string y0, .string y1, .string y2] 48))) => (hk.ext (hw0.trans v.h)).cell 0 _ rfl
 have a0 := fun (v : ExtW ((w.alloc (.cells #[.string x0, .string x1, .string x2] 48)).alloc (.cells #[.string y0, .string y1, .string y2] 48))) => (hax.ext v.h).cell 0 _ rfl
 have a1 := fun (v : ExtW ((w.alloc (.cells #[.string x0, .string x1, .string x2] 48)).alloc (.cells #[.string y0, .string y1, .string y2] 48))) => (hax.ext v.h).cell 1 _ rfl
 have a2 := fun (v : ExtW ((w.alloc (.cells #[.string x0, .string x1, .string x2] 48)).alloc (.cells #[.string y0, .string y1, .string y2] 48))) => (hax.ext v.h).cell 2 _ rfl
 have b0 := fun (v : ExtW ((w.alloc (.cells #[.string x0, .string x1, .string x2] 48)).alloc (.cells #[.string y0, .string y1, .string y2] 48))) => (hay.ext v.h).cell 0 _ rfl
 have b1 := fun (v : ExtW ((w.alloc (.cells #[.string x0, .string x1, .string x2] 48)).alloc (.cells #[.string y0, .string y1, .string y2] 48))) => (hay.ext v.h).cell 1 _ rfl
 have b2 := fun (v : ExtW ((w.alloc (.cells #[.string x0, .string x1, .string x2] 48)).alloc (.cells #[.string y0, .string y1, .string y2] 48))) => (hay.ext v.h).cell 2 _ rfl
 have KX := hid (fun (v : ExtW ((w.alloc (.cells #[.string x0, .string x1, .string x2] 48)).alloc (.cells #[.string y0, .string y1, .string y2] 48))) => kyU_any x0 x1 x2 v.v)
 have KY := hid (fun (v : ExtW ((w.alloc (.cells #[.string x0, .string x1, .string x2] 48)).alloc (.cells #[.string y0, .string y1, .string y2] 48))) => kyU_any y0 y1 y2 v.v)
 have KC := hid (fun (v : ExtW ((w.alloc (.cells #[.string x0, .string x1, .string x2] 48)).alloc (.cells #[.string y0, .string y1, .string y2] 48))) => cm9_any x0 x1 y0 y1 v.v)
 clear hc hk hw0 hax hay
 generalize (if cmpS x0.data.toList y0.data.toList = 0 then cmpS x1.data.toList y1.data.toList else cmpS x0.data.toList y0.data.toList) = R at *
 go_enter Tryz.func70, Tryz.ntmps70
 go_wp2_with fail
 refine wp_region_ext (by kernel_rfl) (by kernel_rfl) ?_
 repeat (go_big_quiet_step (first
  | (go_at_call 37; with_reducible first | exact ExtW.call (KX.out _) | exact ExtW.call (KY.out _))
  | (go_at_call 38; with_reducible exact ExtW.call (KC.out _))))
 refine wpQuiet_nil ?_
 intro wx hx
 have HX := hid (ext_of hx)
 clear hx
 go_wp2
 go_ret
 exact ⟨rfl, HW0.out.trans HX.out⟩
set_option maxHeartbeats 4000000 in
theorem srtU_any (O : List El) (hOl : ∀ x ∈ O, x.length = 3) (n : Nat) (hn : O.length = n) (hn2 : n ≤ 1048576) (gc gk : Nat) (T1 T2 : TypeId) (W0 w : World) (hc : AtC T1 W0 gc #[.func (.func 38) #[] #[]])
 (hk : AtC T2 W0 gk #[.func (.func 37) #[] #[]]) (hw : Ext W0 w) (v : Value) (hown : w.ownsRow W0.heap.size 48 3 v n (O.flatMap elC)) :
 Calls Tryz.prog 69 #[v, .func (.func 70) #[] #[.pointer (some ⟨gc, 0, none⟩), .pointer (some ⟨gk, 0, none⟩)]] w fun e w' => e = .returned (.tuple #[]) ∧
  (∃ O' : List El, w'.ownsRow W0.heap.size 48 3 v n (O'.flatMap elC) ∧ (∀ x ∈ O', x.length = 3) ∧ O'.Perm O ∧ O'.Pairwise (fun x y => yLe (kyE 2) ltK x y = true)) ∧ Ext W0 w' := by
 by_cases hm0 : n = 0
 ·subst hm0
  obtain ⟨A, c, rfl, _⟩ := own_slN hown
  have hO : O = [] := List.eq_nil_of_length_eq_zero hn
  have hS := AnyF.slices_SortFunc_none (P := Tryz.prog) (ρ := Tryz.sfU_ren) Tryz.sfU A c (.func (.func 70) #[] #[.pointer (some ⟨gc, 0, none⟩), .pointer (some ⟨gk, 0, none⟩)]) w
  change Calls Tryz.prog 69 _ _ _ at hS
  refine hS.mono ?_
  rintro e w' ⟨rfl, rfl⟩
  exact ⟨rfl, ⟨O, hown, hOl, .refl _, by rw [hO]; exact List.Pairwise.nil⟩, hw⟩
 ·obtain ⟨A, c, rfl, _⟩ := own_slN hown
  obtain ⟨g, rfl, hg1, hg2⟩ := own_addrY hown (by omega)
  have hL : (liftY O hOl).length = n := by unfold liftY; rw [List.length_pmap]; exact hn
  have hown2 : w.ownsRow W0.heap.size 48 3 (.slice (some ⟨g, 0, none⟩) n c) n ((liftY O hOl).flatMap encY) := by rw [encY_flat, liftY_val]; exact hown
  have hH := holdsK_own encY_len (by decide) hown2
  have hsz : (liftY O hOl).toArray.size = n := by simpa using hL
  have hcmp : CmpLays (α := Ey 3) Tryz.prog 70 #[.pointer (some ⟨gc, 0, none⟩), .pointer (some ⟨gk, 0, none⟩)] encY 3 (cfY 2) g 0 (liftY O hOl).toArray.size w := by
   intro mm os dk hs x y
   have hE : Ext W0 (sortWorldK (α := Ey 3) encY 3 w g 0 mm dk os) := ext_sortK hw hg1 mm dk os
   obtain ⟨x, hx⟩ := x
   obtain ⟨y, hy⟩ := y
   match x, hx, y, hy with
   | [x0, x1, x2], _, [y0, y1, y2], _ =>
     exact calls_grow (cloU_any x0 x1 x2 y0 y1 y2 gc gk T1 T2 _ (hc.ext hE) (hk.ext hE))
  have eg : ∀ args w, (callFunc 70 args).run Tryz.prog w = .ok (.enter 70 args) w := enters_of Tryz.func70 (by kernel_rfl) rfl
  have hS := AnyQ.slices_SortFunc (α := Ey 3) Tryz.sfU 3 Tryz.isAgg48 Tryz.sizeOf48 encY encY_len encY_one (cfY 2) (swoY (by decide) (by decide)) 70 _ g 0 c (liftY O hOl).toArray w eg hcmp hH hg2 (by omega)
  rw [hsz] at hS
  change Calls Tryz.prog 69 _ _ _ at hS
  refine hS.mono ?_
  rintro e w' ⟨rfl, d', q, os, hp, hso, rfl⟩
  have hds : d'.size = n := by rw [hp.1]; exact hsz
  have hpm : d'.toList.Perm (liftY O hOl) := by
   obtain ⟨h1, _, h3⟩ := hp
   have e1 : d'.extract 0 n = d' := by rw [← hds]; exact Array.extract_size
   have e2 : (liftY O hOl).toArray.extract 0 n = (liftY O hOl).toArray := by rw [← hsz]; exact Array.extract_size
   rw [e1, e2] at h3
   simpa using h3
  refine ⟨rfl, ⟨d'.toList.map (·.val), ?_, ?_, ?_, srt_pair (by decide) (by decide) hds hso⟩, ext_sortK hw hg1 _ _ _⟩
  ·have h := own_sortK (q := q) (ys := d'.toList) encY_len (by decide) hown2 (by simpa using hds) os
   rw [← encY_flat]
   exact h
  ·intro x hx
   obtain ⟨y, _, rfl⟩ := List.mem_map.1 hx
   exact y.2
  ·have h := hpm.map (·.val)
   rwa [liftY_val] at h
def kbU (x : El) := (fun x : El => ((kyE 2 x).headD [], (kyE 2 x).getD 1 [])) x
theorem kbU_iff {x : El} {O : List El} (hx : 2 ≤ x.length) (hO : ∀ y ∈ O, y.length = 3) : kbU x ∈ O.map kbU ↔ kyE 2 x ∈ O.map (kyE 2) := by
 simp only [List.mem_map]
 constructor
 ·rintro ⟨y, hy, e⟩
  refine ⟨y, hy, ?_⟩
  unfold kbU at e
  simp only at e
  rw [ky_two hx, ky_two (by rw [hO y hy]; decide)] at e ⊢
  simpa using e
 ·rintro ⟨y, hy, e⟩
  exact ⟨y, hy, by unfold kbU; simp only [e]⟩
def MgOU (wb : World) (l : List El) (v : Value) (wr : World) : Prop := ∃ (n : Nat) (O : List El), O = l.foldl (yAdd (kyE 2)) [] ∧ O.length = n ∧ (∀ x ∈ O, x.length = 3) ∧ wr.ownsRow (wb.heap.size + 1) 48 3 v n (O.flatMap elC) ∧ MapA Tryz.prog 78 4 wr wb.heap.size n (O.map kbU) ∧ Ext wb wr
def MgIU (wb : World) (l : List (List El)) (n : Nat) (v i : Value) (wr : World) : Prop := ∃ k : Nat, k ≤ n ∧ i = .int .i64 k ∧ MgOU wb (l.take k).flatten v wr
def MgJU (wb : World) (L0 E : List El) (n : Nat) (v i : Value) (wr : World) : Prop := ∃ p : Nat, p ≤ n ∧ i = .int .i64 p ∧ MgOU wb (L0 ++ E.take p) v wr
theorem yAdd_oldU {O : List El} {x : El} (h : kyE 2 x ∈ O.map (kyE 2)) : yAdd (kyE 2) O x = O := by unfold yAdd; rw [if_pos h]
theorem yAdd_newU {O : List El} {x : El} (h : ¬ kyE 2 x ∈ O.map (kyE 2)) : yAdd (kyE 2) O x = O ++ [x] := by unfold yAdd; rw [if_neg h]
theorem el_litU (s0 s1 s2 : ByteArray) : ∀ u ∈ elC [s0, s1, s2], u.oneCell' = true := fun u hu => by
 obtain ⟨s, _, rfl⟩ := List.mem_map.1 hu
 rfl
set_option maxHeartbeats 8000000 in
theorem mrgU_any (l : List Lk) (A : Option Addr) (n c : Nat) (w : World) (hA : Sl w A n (l.map fun y => fldV 3 y.x)) (hn : n ≤ 1000) (hl : ∀ y ∈ l, ElM 3 w (y.x.A 3) (y.x.n 3) (y.e 1)) (htot : (l.map (·.e 1)).flatten.length ≤ 1000000) :
 Calls Tryz.prog 34 #[.slice A n c, .func (.func 37) #[] #[], .func (.func 38) #[] #[]] w fun e w' => ∃ A' c' O, e = .returned (.slice A' O.length c') ∧ O = mrgE 2 (l.map (·.e 1)) ∧ ElM 3 w' A' O.length O ∧ (∀ ad, A' = some ad → w.heap.size ≤ ad.block) ∧ Ext w w' := by
 obtain ⟨i0, hi, hz0, hz1, hz2⟩ := info_parts (show (Tryz.prog.info? 48).map (fun i => (i.zero, i.size, i.bytes)) = some (some (.agg #[.string ⟨#[]⟩, .string ⟨#[]⟩, .string ⟨#[]⟩]), 3, 48) from by kernel_rfl)
 have hlen : l.length = n := by have := hA.1; rwa [List.length_map] at this
 obtain ⟨wb, hwb⟩ : ∃ wb, wb = (w.alloc (.cells #[.func (.func 37) #[] #[]] 82)).alloc (.cells #[.func (.func 38) #[] #[]] 84) := ⟨_, rfl⟩
 have hxb : Ext w wb := by rw [hwb]; exact ((Ext.refl w).alloc _).alloc _
 have hbk : AtC 82 wb w.heap.size #[.func (.func 37) #[] #[]] := by rw [hwb]; exact (AtC.new w _).alloc _
 have hbc : AtC 84 wb (w.heap.size + 1) #[.func (.func 38) #[] #[]] := by
  have h := (AtC.new (w.alloc (.cells #[.func (.func 37) #[] #[]] 82)) #[.func (.func 38) #[] #[]] : AtC 84 _ _ _)
  rw [World.size_alloc] at h
  rw [hwb]
  exact h
 have hszb : wb.heap.size = w.heap.size + 1 + 1 := by rw [hwb]; simp
 have hm0 := MapA.made Tryz.prog 78 4 wb
 have HLN := hid hlen
 have HXB := hid hxb
 have HBK := hid hbk
 have HBC := hid hbc
 have HSB := hid hszb
 have HSZ := hid (show ∃ m, Tryz.prog.types.size = m + 1 from ⟨Tryz.prog.types.size - 1, by kernel_rfl⟩)
 have HM0 := hid hm0
 have HA := hid (hA.ext hxb)
 have HL := hid (fun y hy => (hl y hy).ext hxb)
 have HTOT := hid htot
 obtain ⟨R, hR⟩ : ∃ R, R = mrgE 2 (l.map (·.e 1)) := ⟨_, rfl⟩
 rw [← hR]
 have HR := hid hR
 have hz0b : (wb.alloc (.map #[] 0)).heap.size = wb.heap.size + 1 := by simp
 clear hA hl htot hlen hxb hbk hbc hm0 hR
 have hmm := @run_makeMap Tryz.prog
 go_enter Tryz.func34, Tryz.ntmps34
 go_upto_region 3 with (fail)
 rw [← hwb]
 clear hmm hwb
 go_wp2_with fail
 go_loopw [7, 16] (MgIU wb (l.map (·.e 1)) n) (fun _ i _ => n - (intOf i).toNat)
 case atStart => exact ⟨0, Nat.zero_le _, rfl, 0, [], rfl, rfl, fun x h => (by cases h), World.ownsRow_nil _ _ _ _, HM0.out, (Ext.refl wb).alloc _⟩
 case round =>
  obtain ⟨k, hk, rfl, N, O, hO, hN, hOl, hown, hmap, hw⟩ := hrel
  obtain ⟨wo, rfl⟩ : ∃ wo : World, wo = wr := ⟨_, rfl⟩
  have HO := hid hO
  have HN := hid hN
  have HOL := hid hOl
  have HOW := hid hown
  have HMP := hid hmap
  have HW := hid hw
  clear hO hN hOl hown hmap hw
  by_cases hkn : k < n
  ·obtain ⟨y, hy⟩ : ∃ y, l[k]? = some y := ⟨_, List.getElem?_eq_getElem (by have := HLN.out; omega)⟩
   obtain ⟨ad, hAd, hb, hc⟩ := (HA.out.ext HW.out).2 k (fldV 3 y.x) (by rw [List.getElem?_map, hy]; rfl)
   obtain ⟨bA, oA, rfl, _⟩ := addr_flat (by rw [← hAd]; exact HA.out) (by omega)
   rw [add_flat] at hc
   subst hAd
   unfold fldV at hc
   have hem := HL.out y (List.mem_of_getElem? hy)
   have hLk : (l.map (·.e 1))[k]? = some (y.e 1) := by rw [List.getElem?_map, hy]; rfl
   obtain ⟨EA, hEA⟩ : ∃ q, q = y.x.A 3 := ⟨_, rfl⟩
   obtain ⟨en, hen⟩ : ∃ q, q = y.x.n 3 := ⟨_, rfl⟩
   obtain ⟨ec, hec⟩ : ∃ q, q = y.x.c 3 := ⟨_, rfl⟩
   obtain ⟨E, hE⟩ : ∃ q, q = y.e 1 := ⟨_, rfl⟩
   rw [← hEA, ← hen, ← hec] at hc
   rw [← hEA, ← hen, ← hE] at hem
   rw [← hE] at hLk
   have hkI : (k : Int) < (n : Int) := by omega
   have HEM := hid hem
   have HLK := hid hLk
   have HEN := hid (hem.len (by decide))
   have hel : en ≤ 1000000 := by
    have h1 := flat_leY (p := E.length) hLk
    rw [List.take_length, List.length_append] at h1
    have h2 := HTOT.out
    have h3 := HEN.out
    omega
   clear hem hLk hEA hen hec hE hy
   go_wp2_with fail
   clear hc
   go_loopw [7, 22] (MgJU wb ((l.map (·.e 1)).take k).flatten E en) (fun _ i _ => en - (intOf i).toNat)
   case atStart => exact ⟨0, Nat.zero_le _, rfl, N, O, by rw [List.take_zero, List.append_nil]; exact HO.out, HN.out, HOL.out, HOW.out, HMP.out, HW.out⟩
   case round =>
    clear HO HN HOL HOW HMP HW
    obtain ⟨p, hp, rfl, N, O, hO, hN, hOl, hown, hmap, hw⟩ := hrel
    obtain ⟨wi, rfl⟩ : ∃ wi : World, wi = wr := ⟨_, rfl⟩
    have hNle : N ≤ 1000000 := by
     have h1 := flat_leY (p := p) HLK.out
     have h2 := yfold_len (key := kyE 2) (((l.map (·.e 1)).take k).flatten ++ E.take p) []
     rw [← hO, hN] at h2
     have h3 := HTOT.out
     simp only [List.length_nil] at h2
     omega
    have HO := hid hO
    have HN := hid hN
    have HOL := hid hOl
    have HOW := hid hown
    have HMP := hid hmap
    have HW := hid hw
    clear hO hN hOl hown hmap hw
    by_cases hpn : p < en
    ·obtain ⟨x, hx⟩ : ∃ x, E[p]? = some x := ⟨_, List.getElem?_eq_getElem (by have := HEN.out; omega)⟩
     obtain ⟨hxl, b, o, rfl, hb2, hc2⟩ := (HEM.out.ext HW.out).at_ (by decide) hx
     have hxz := HEM.out.2.2 x (List.mem_of_getElem? hx)
     obtain ⟨s0, s1, s2, rfl⟩ : ∃ s0 s1 s2 : ByteArray, x = [s0, s1, s2] := by
      match x, hxl with
      | [s0, s1, s2], _ => exact ⟨s0, s1, s2, rfl⟩
     have a0 := hc2 0 s0 rfl
     have a1 := hc2 1 s1 rfl
     have a2 := hc2 2 s2 rfl
     rw [Nat.add_zero] at a0
     have hat := (AtC.new wi #[.string s0, .string s1, .string s2] : AtC 48 _ _ _)
     have k0 := ((HBK.out.ext HW.out).alloc (.cells #[.string s0, .string s1, .string s2] 48)).cell 0 _ rfl
     have q0 := hat.cell 0 _ rfl
     have q1 := hat.cell 1 _ rfl
     have q2 := hat.cell 2 _ rfl
     have hpI : (p : Int) < (en : Int) := by omega
     have HX := hid hx
     have HAT := hid hat
     have HXZ := hid hxz
     have KK := hid (kyU_any s0 s1 s2 (wi.alloc (.cells #[.string s0, .string s1, .string s2] 48)))
     have HAL := hid ((Ext.refl wi).alloc (.cells #[.string s0, .string s1, .string s2] 48))
     clear hx hat hxz hc2 hxl
     go_wp2_with fail
     refine KK.out.mono ?_
     rintro e w2 ⟨rfl, hw2⟩
     have HW2 := hid (HAL.out.trans hw2)
     have HAT2 := hid (HAT.out.ext hw2)
     have k2 := (HBK.out.ext (HW.out.trans HW2.out)).cell 0 _ rfl
     have r0 := HAT2.out.cell 0 _ rfl
     have r1 := HAT2.out.cell 1 _ rfl
     have r2 := HAT2.out.cell 2 _ rfl
     have HM2 := hid (HMP.out.ext HW2.out)
     have HOK := hid (show okP (s0, s1) from ⟨HXZ.out s0 (by simp), HXZ.out s1 (by simp)⟩)
     have hlk := MapA.lookup HM2.out arrS Tryz.underlying9 HSZ.out Tryz.underlying4 Tryz.underlying124 (by kernel_rfl) (s0, s1) HOK.out
     unfold kvP bp at hlk
     simp only at hlk
     rw [HSB.out] at hlk
     clear hw2 HAL KK k0 a0 a1 a2 q0 q1 q2
     cases hd : decide (kbU [s0, s1, s2] ∈ O.map kbU)
     ·have hd2 : decide ((s0.data.toList, s1.data.toList) ∈ O.map kbU) = false := hd
      rw [hd2] at hlk
      have HNEW := hid (show ¬ kyE 2 [s0, s1, s2] ∈ O.map (kyE 2) from fun h => (of_decide_eq_false hd) ((kbU_iff (by simp) HOL.out).2 h))
      have KK2 := hid (kyU_any s0 s1 s2 w2)
      clear hd hd2
      go_wp2_with fail
      refine KK2.out.mono ?_
      rintro e w3 ⟨rfl, hw3⟩
      have HW3 := hid (HW2.out.trans hw3)
      have HAT3 := hid (HAT2.out.ext hw3)
      have hm3 := HM2.out.ext hw3
      have HLT := hid (show wb.heap.size < wi.heap.size from HMP.out.lt)
      rw [HSB.out] at hm3
      have HM3 := hid hm3
      have HZ0 := hid (HXZ.out s0 (by simp))
      clear hw3 hm3 hlk k2 r0 r1 r2 KK2
      go_upto_region 11 with (at_mapUpdate; refine wpList_mapUpdateA rfl _ _ _ 124 78 4 rfl arrS Tryz.underlying9 HSZ.out Tryz.underlying4 Tryz.underlying124 (w.heap.size + 1 + 1) N _ rfl HM3.out (by unfold maxLen; omega) (s0, s1) rfl rfl HOK.out ?_; intro w4 hm4 hg4; have HM4 := hid hm4; have HG4 := hid hg4; clear hm4 hg4)
      have hne : wi.heap.size ≠ w.heap.size + 1 + 1 := by have h1 := HLT.out; have h2 := HSB.out; omega
      have hat4 : AtC 48 w4 wi.heap.size #[.string s0, .string s1, .string s2] := (HG4.out.block _ HAT3.out.lt (fun e => hne (by injection e))).trans HAT3.out
      have r0 := hat4.cell 0 _ rfl
      have r1 := hat4.cell 1 _ rfl
      have r2 := hat4.cell 2 _ rfl
      have HNC := hid (new_cells w4 #[.string s0, .string s1, .string s2] 48)
      have HOX := hid ((own_keptY (own_ext HOW.out HW3.out) (fun g hg => HG4.out.block g ((own_ext HOW.out HW3.out).lt g hg).2 (fun e => by have h1 := (HOW.out.lt g hg).1; have h2 := HSB.out; injection e with e; omega))).alloc (.cells #[.string s0, .string s1, .string s2] 48))
      have HX4 := hid (show Ext wb (w4.alloc (.cells #[.string s0, .string s1, .string s2] 48)) from ((HW.out.trans HW3.out).grown HG4.out (fun q hq => by injection hq with hq; have h2 := HSB.out; omega)).alloc _)
      have HZ := hid (show wb.heap.size + 1 ≤ (w4.alloc (.cells #[.string s0, .string s1, .string s2] 48)).heap.size from by
       have h1 := HLT.out
       have h2 := Ext.size HW3.out
       have h3 := HG4.out.size
       rw [World.size_alloc]
       omega)
      clear hat4
      go_wp2_with (at_builtin; refine wpList_appN _ rfl _ _ 33 rfl (wb.heap.size + 1) 48 i0 _ 3 48 Tryz.underlying33 hi hz0 hz1 hz2 rfl (by decide) _ N _ rfl HOX.out ⟨w4.heap.size, 0, none⟩ 1 1 _ rfl rfl HNC.out (el_litU s0 s1 s2) (by unfold maxLen; omega) (by omega) HZ.out ?_; intro v5 w5 hown5 hgrow5 hwh5; obtain ⟨B5, c5, hv5, _⟩ := own_slN hown5; subst hv5; have HO5 := hid hown5; have HG5 := hid hgrow5; clear hown5 hgrow5 hwh5)
      refine ⟨⟨p + 1, by omega, by go_num, N + 1, O ++ [[s0, s1, s2]], ?_, ?_, ?_, ?_, ?_, HX4.out.grown HG5.out (fun q hq => Nat.le_trans (Nat.le_succ _) (HOX.out.lt q hq).1)⟩, by simp [intOf]; omega⟩
      ·rw [take_nextY HX.out, foldl_snocY, ← HO.out, yAdd_newU HNEW.out]
      ·rw [List.length_append, HN.out]; rfl
      ·intro z hz
       rcases list_mem_snoc hz with hz | rfl
       ·exact HOL.out z hz
       ·rfl
      ·rw [List.flatMap_append]
       exact HO5.out
      ·rw [List.map_append]
       have h5 := (HM4.out.alloc (.cells #[.string s0, .string s1, .string s2] 48)).kept HG5.out (fun e => by
        have h1 := (HOX.out.lt _ e.symm).1
        have h2 := HSB.out
        omega)
       rw [← HSB.out] at h5
       exact h5
     ·have hd2 : decide ((s0.data.toList, s1.data.toList) ∈ O.map kbU) = true := hd
      rw [hd2] at hlk
      have HOLD := hid (show kyE 2 [s0, s1, s2] ∈ O.map (kyE 2) from (kbU_iff (by simp) HOL.out).1 (of_decide_eq_true hd))
      clear hd hd2
      go_wp2
      refine ⟨⟨p + 1, by omega, by go_num, N, O, ?_, HN.out, HOL.out, own_ext HOW.out HW2.out, HM2.out, HW.out.trans HW2.out⟩, by simp [intOf]; omega⟩
      rw [take_nextY HX.out, foldl_snocY, ← HO.out, yAdd_oldU HOLD.out]
    ·have hpp : p = en := by omega
     have HO2 := hid HO.out
     rw [show E.take p = E from List.take_of_length_le (by have := HEN.out; omega), ← flat_nextY HLK.out] at HO2
     subst hpp
     go_wp2
     exact ⟨⟨k + 1, by omega, by go_num, N, O, HO2.out, HN.out, HOL.out, HOW.out, HMP.out, HW.out⟩, by simp [intOf]; omega⟩
  ·have hkk : k = n := by omega
   subst hkk
   have HO2 := hid HO.out
   rw [List.take_of_length_le (by rw [List.length_map, HLN.out]; exact Nat.le_refl _)] at HO2
   obtain ⟨A7, c7, hv7, _⟩ := own_slN HOW.out
   subst hv7
   have hNle : N ≤ 1048576 := by
    have h2 := yfold_len (key := kyE 2) (l.map (·.e 1)).flatten []
    rw [← HO2.out, HN.out] at h2
    have h3 := HTOT.out
    simp only [List.length_nil] at h2
    omega
   have KS := hid (srtU_any O HOL.out N HN.out hNle (w.heap.size + 1) w.heap.size _ _ wb wo HBC.out HBK.out HW.out _ (own_baseY HOW.out (Nat.le_succ _)))
   go_wp2_with fail
   refine KS.out.mono ?_
   rintro e w2 ⟨rfl, ⟨O', hown', hl', hp', hs'⟩, hw2⟩
   have HOW' := hid hown'
   have HW2 := hid (HXB.out.trans hw2)
   have HL' := hid hl'
   have HE' := hid (srt_res HO2.out hp' hs')
   have HN' := hid (show O'.length = N from hp'.length_eq.trans HN.out)
   clear hown' hw2 hl' hp' hs'
   go_wp2
   go_ret
   have hER := HE'.out.trans HR.out.symm
   refine ⟨A7, c7, O', by rw [HN'.out]; first | done | rfl, hER, ?_, fun ad had => Nat.le_trans (Ext.size HXB.out) (own_notY HOW'.out ad had), HW2.out⟩
   obtain ⟨A8, c8, hv8, hs8⟩ := own_slN HOW'.out
   injection hv8 with h1 h2 h3
   rw [h1, HN'.out]
   refine ⟨hs8, HL'.out, fun x hx s hs => ?_⟩
   rw [HE'.out] at hx
   obtain ⟨E, hE, hxE⟩ := mrg_memY hx
   obtain ⟨y, hy, rfl⟩ := List.mem_map.1 hE
   exact (HL.out y hy).2.2 x hxE s hs
end Go.Proofs.YtljdlkonlnjadaaGreatDoor
