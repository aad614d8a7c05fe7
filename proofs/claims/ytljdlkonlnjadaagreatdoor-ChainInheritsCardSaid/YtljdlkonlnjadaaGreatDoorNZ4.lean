import Derived.Test.YtljdlkonlnjadaaGreatDoorNZ3
import Derived.Test.YtljdlkonlnjadaaGreatDoorNX2
import Derived.RangeFuncNested
import Derived.RangeFuncBound
import Derived.RangeFuncCalls
import Derived.RangeFuncLeaves
import Derived.Shelf.Abstract
import Derived.Shelf.RegionOpen
import Derived.WalkKit
import Derived.OwnWalkIn
import Derived.TacticsInMore
import Derived.LoopNIn
import Derived.LoopIn
import Derived.Maps.AppendAt
import Derived.Test.YtljdlkonlnjadaaGreatDoorNXF
set_option maxRecDepth 100000
set_option linter.unusedSimpArgs false
set_option linter.unusedVariables false
open Go.Lib (hid)
namespace Go.Proofs.YtljdlkonlnjadaaGreatDoor
open Go.RowKit
def RetTgs (w : World) (r : List BytesC × Int) (e : Ending) (w' : World) : Prop :=
 ∃ A n c, e = .returned (.tuple #[.slice A n c, .int .i64 r.2]) ∧ Sl w' A n (r.1.map strv) ∧ n ≤ c ∧ Ext w w'
theorem of_loc {T : List LocP} {al : List Ali} {s : BytesC} {R : List Nat × Int} (h : R = locsC T al s) : ofC T al s = (R.1.map fun i => (tgC T i).1, R.2) := by rw [h]; rfl
def COf (w4 : World) (T : List LocP) (r : List Nat) (n : Nat) (out i : Value) (wr : World) : Prop :=
 ∃ k : Nat, k ≤ n ∧ i = .int .i64 k ∧ wr.ownsRow w4.heap.size 9 1 out k (((r.take k).map fun i => (tgC T i).1).map strv) ∧ Ext w4 wr
theorem locs_lt {T : List LocP} {al : List Ali} {s : BytesC} : ∀ i ∈ (locsC T al s).1, i < T.length := by
 by_cases h : (locsC T al s).2 = 0
 ·obtain ⟨_, _, r, h1, _, h3, _⟩ := locs_ok h
  rw [h1]; exact h3
 ·rw [locs_bad h]; simp
theorem locs_len {T : List LocP} {al : List Ali} {s : BytesC} : (locsC T al s).1.length ≤ T.length := by
 by_cases h : (locsC T al s).2 = 0
 ·obtain ⟨_, _, r, h1, h2, h3, _⟩ := locs_ok h
  rw [h1]; exact nodup_le h2 h3
 ·rw [locs_bad h]; simp
end Go.Proofs.YtljdlkonlnjadaaGreatDoor
namespace Go.Proofs.YtljdlkonlnjadaaGreatDoor
open Go.RowKit Go.Shelf
attribute [local go_sem] Oper.semAt_some
theorem least_of {p : Nat → Prop} (h : ∃ n, p n) : ∃ n, p n ∧ ∀ m, p m → n ≤ m := by
 obtain ⟨n, hn⟩ := h
 induction n using Nat.strongRecOn with
 | _ n ih =>
   by_cases hm : ∃ m, m < n ∧ p m
   ·obtain ⟨m, h1, h2⟩ := hm
    exact ih m h1 h2
   ·exact ⟨n, hn, fun m hpm => Nat.le_of_not_lt fun hlt => hm ⟨m, hlt, hpm⟩⟩
theorem loop_ghost {F : Fence} {n : Nat} {P : Program} {c : Code} {Q : Exit → Act → World → Prop} {a : Act} {w : World} (I : Nat → Act → World → Prop) (N : Nat) (h0 : I N a w)
 (round : ∀ g a w, I g a w → c.wpIn F n P (Exit.then (fun a' w' => ∃ g', g' < g ∧ I g' a' w') Q) a w) : (Code.loop c).wpIn F n P Q a w := by
 classical
 let J : Act → World → Prop := fun a w => ∃ g, I g a w
 let mu : Act → World → Nat := fun a w => if h : ∃ g, I g a w then Classical.choose (least_of h) else 0
 have hmu : ∀ (a : Act) (w : World) (h : ∃ g, I g a w), I (mu a w) a w ∧ ∀ m, I m a w → mu a w ≤ m := by
  intro a w h
  have e : mu a w = Classical.choose (least_of h) := dif_pos h
  rw [e]
  exact Classical.choose_spec (least_of h)
 refine wpIn_loop J mu ⟨N, h0⟩ ?_
 intro a w hJ
 refine Code.wpIn_mono ?_ (round _ a w (hmu a w hJ).1)
 intro e a' w' q
 cases e with
 | normal =>
   obtain ⟨g', hlt, hi⟩ := q
   exact ⟨⟨g', hi⟩, Nat.lt_of_le_of_lt ((hmu a' w' ⟨g', hi⟩).2 g' hi) hlt⟩
 | _ => exact q
theorem parent_size (s : BytesC) : (parentP s).1.length ≤ 60 := by
 unfold parentP
 split
 ·simp
 ·split
  ·simp
  ·rename_i u hu
   have hv := parse_ok (s := s) (by rename_i h _; simpa using h)
   exact textP_len (up_valid hv hu).1
def HeadP (T : List LocP) (R : List Nat × Int) (g : Nat) (o : List Nat) (k : Nat) : Prop :=
 k < T.length ∧ o.length ≤ T.length ∧ (k ∉ o → GoK T g (o ++ [k]) k ∧ goC T g (o ++ [k]) k = R) ∧ (k ∈ o → R = ([], 15))
theorem head_start {T : List LocP} {i : Nat} (h : i < T.length) : HeadP T (goC T T.length [i] i) T.length [] i := ⟨h, Nat.zero_le _, fun _ => ⟨GoK.start h, rfl⟩, fun h => by cases h⟩
theorem head_next {T : List LocP} {R : List Nat × Int} {g k k2 : Nat} {o : List Nat} (h : HeadP T R g o k) (hT : T ≠ []) (hn : k ∉ o) (h0 : k ≠ 0) (hu : upC2 T k = some k2) : ∃ g', g' < g ∧ HeadP T R g' (o ++ [k]) k2 := by
 obtain ⟨h1, h2⟩ := h.2.2.1 hn
 obtain ⟨m, hm⟩ := h1.pos
 refine ⟨g - 1, by omega, up_lt hT hu, go_len h1, fun h3 => ?_, fun h3 => ?_⟩
 ·obtain ⟨e, hg⟩ := go_on h1 h0 hu h3 hT
  exact ⟨hg, by rw [← e]; exact h2⟩
 ·rw [← h2]; exact go_cycle h1 h0 hu h3
theorem head_none {T : List LocP} {R : List Nat × Int} {g k : Nat} {o : List Nat} (h : HeadP T R g o k) (hn : k ∉ o) (h0 : k ≠ 0) (hu : upC2 T k = none) : R = ([], 10) ∧ 0 < g := by
 obtain ⟨h1, h2⟩ := h.2.2.1 hn
 obtain ⟨m, hm⟩ := h1.pos
 exact ⟨by rw [← h2]; exact go_none h1 h0 hu, by omega⟩
theorem head_zero {T : List LocP} {R : List Nat × Int} {g k : Nat} {o : List Nat} (h : HeadP T R g o k) (hn : k ∉ o) (h0 : k = 0) : R = (o ++ [k], 0) := by
 obtain ⟨h1, h2⟩ := h.2.2.1 hn
 rw [← h2]; exact go_zero h1 h0
def GoodW (l : List Lc) (L : Option Addr) (ln g1 g2 : Nat) (tb : Array Value) (s : ByteArray) (W : World) : Prop := Mx W ∧ Lcs W L ln l ∧ AtC 26 W g1 tb ∧ AtC 9 W g2 #[.string s]
theorem GoodW.ext {l : List Lc} {L : Option Addr} {ln g1 g2 : Nat} {tb : Array Value} {s : ByteArray} {W W' : World} (h : GoodW l L ln g1 g2 tb s W) (hw : Ext W W') : GoodW l L ln g1 g2 tb s W' := ⟨h.1.ext hw, h.2.1.ext hw, h.2.2.1.ext hw, h.2.2.2.ext hw⟩
def WFrame (lp g1 g2 : Nat) (i : Value) (u : Nat → Value) : Act := { tmps := #[.func (.yield lp) #[] #[], .pointer (some ⟨g1, 0, none⟩), .pointer (some ⟨g2, 0, none⟩), u 3, i, u 5, u 6, u 7, u 8, u 9, u 10, u 11, u 12, u 13, u 14, u 15, u 16, u 17, u 18, u 19, u 20, u 21, u 22, u 23, u 24, u 25, u 26, u 27, u 28, u 29, u 30, u 31, u 32, u 33, u 34, u 35, u 36, u 37, u 38], defers := [] }
def WInv (lp g1 g2 : Nat) (T : List LocP) (R : List Nat × Int) (J : List Nat → World → Prop) (g : Nat) (a : Act) (w : World) : Prop :=
 ∃ (u : Nat → Value) (i : Int) (o : List Nat), a = WFrame lp g1 g2 (.int .i64 i) u ∧ J o w ∧ ((∃ k : Nat, i = (k : Int) ∧ HeadP T R g o k) ∨ (i = -1 ∧ R = ([], 10) ∧ o.length ≤ T.length))
theorem winv_mk {lp g1 g2 : Nat} {T : List LocP} {R : List Nat × Int} {J : List Nat → World → Prop} {g : Nat} {a : Act} {w : World} (i : Int) (o : List Nat) (ha : a = WFrame lp g1 g2 (.int .i64 i) (fun j => a.tmps.getD j undef)) (hj : J o w)
 (h : (∃ k : Nat, i = (k : Int) ∧ HeadP T R g o k) ∨ (i = -1 ∧ R = ([], 10) ∧ o.length ≤ T.length)) : WInv lp g1 g2 T R J g a w := ⟨_, i, o, ha, hj, h⟩
set_option maxHeartbeats 4000000 in
theorem walk1_in (lp m : Nat) (l : List Lc) (L A N : Option Addr) (ln lc n c m_ d : Nat) (s : ByteArray) (g1 g2 : Nat) (hlen : l.length = ln) (hln : ln ≤ 100000) (hs : ∀ x ∈ l, x.t.size ≤ 60000) (hss : s.size ≤ 60000) (hT : l.map locOf ≠ [])
 (J : List Nat → World → Prop) (Jc Ju : World → Prop) (hJ : ∀ o W W', J o W → Ext W W' → J o W') (hJ0 : ∀ o W, J o W → GoodW l L ln g1 g2 #[.slice L ln lc, .slice A n c, .slice N m_ d] s W)
 (hY : ∀ o k W, J o W → k < (l.map locOf).length → o.length ≤ (l.map locOf).length → YieldAt Fence.wide (m - 1) Tryz.prog lp #[.int .i64 (k : Int)] W fun e W' => (e = .returned (.bool true) ∧ k ∉ o ∧ J (o ++ [k]) W') ∨ (e = .returned (.bool false) ∧ k ∈ o ∧ Jc W'))
 (hN : ∀ o W, J o W → o.length ≤ (l.map locOf).length → YieldAt Fence.wide (m - 1) Tryz.prog lp #[.int .i64 (-1)] W fun e W' => e = .returned (.bool false) ∧ Ju W')
 (W : World) (h0 : J [] W) (R : List Nat × Int) (hR : R = goC (l.map locOf) (l.map locOf).length [nearC (l.map locOf) s.data.toList] (nearC (l.map locOf) s.data.toList)) :
 CallsIn Fence.wide m Tryz.prog 88 #[.func (.yield lp) #[] #[], .pointer (some ⟨g1, 0, none⟩), .pointer (some ⟨g2, 0, none⟩)] W fun e W' => (∃ v, e = .returned v) ∧ ((∃ o, R = (o, 0) ∧ J o W') ∨ (R = ([], 15) ∧ Jc W') ∨ (R = ([], 10) ∧ Ju W')) := by
 have HJ := hid hJ
 have HJ0 := hid hJ0
 have HY := hid hY
 have HN := hid hN
 have hll := hlen
 have KN := hid (fun (b : ByteArray) (hb : b.size ≤ 60000) W (h : GoodW l L ln g1 g2 #[.slice L ln lc, .slice A n c, .slice N m_ d] s W) => cnear_any l L A N ln lc n c m_ d b W h.1 h.2.1 (by unfold maxLen; omega) hb)
 have KF := hid (fun (b : ByteArray) W (h : GoodW l L ln g1 g2 #[.slice L ln lc, .slice A n c, .slice N m_ d] s W) => cfind_any l L A N ln lc n c m_ d b W h.2.1 (by unfold maxLen; omega))
 have KP := hid (fun (b : ByteArray) (hb : b.size ≤ 60000) W (h : GoodW l L ln g1 g2 #[.slice L ln lc, .slice A n c, .slice N m_ d] s W) => tparent2_any b W h.1 hb)
 have HSX := hid hs
 have HTX := hid hT
 have hW := hJ0 _ _ h0
 have p0 := hW.2.2.1.cell 0 _ rfl
 have p1 := hW.2.2.1.cell 1 _ rfl
 have p2 := hW.2.2.1.cell 2 _ rfl
 have p3 := hW.2.2.2.cell 0 _ rfl
 have KN0 := KN.out s hss W hW
 have hnl := near_lt hT s.data.toList
 generalize nearC (l.map locOf) s.data.toList = i0 at KN0 hnl hR
 have HKN := hid KN0
 have HHD := hid (show HeadP (l.map locOf) R (l.map locOf).length [] i0 from by rw [hR]; exact head_start hnl)
 have HJW := hid h0
 clear hJ hJ0 hY hN hs hT hW KN0 hR hnl h0 hlen
 refine callsIn_of_wp Tryz.func88 rfl trivial ?_ rfl
 simp only [Tryz.ntmps88, List.size_toArray, List.length_cons, List.length_nil, Nat.reduceAdd, Nat.reduceSub, Array.replicate_succ, Array.replicate_zero, List.push_toArray, List.append_toArray, List.nil_append, List.cons_append]
 gi_wp2_with (refine ⟨trivial, (fun h => by cases h), ?_⟩; refine (callsIn_wide.2 HKN.out).mono ?_; rintro e w2 ⟨rfl, hw2⟩; have HJ2 := hid (HJ.out _ _ _ HJW.out hw2); clear hw2)
 refine loop_ghost (WInv lp g1 g2 (l.map locOf) R J) (l.map locOf).length ?_ ?_
 ·exact winv_mk (i0 : Int) [] rfl HJ2.out (.inl ⟨i0, rfl, HHD.out⟩)
 ·clear HJ2 HJW HHD HKN p0 p1 p2 p3
  rintro gg a w ⟨u, i, o, rfl, hj, hcase⟩
  have HJW := hid hj
  clear hj
  rcases hcase with ⟨k, rfl, hhd⟩ | ⟨rfl, hr10, hol⟩
  rotate_left
  ·obtain ⟨fn, tmps, assign, body, hy, hR⟩ := HN.out o w HJW.out hol
   have HR10 := hid hr10
   clear hr10
   unfold WFrame
   gi_wp2
   refine ⟨(fun h => by cases h), ?_⟩
   refine hR.mono ?_
   rintro e w3 ⟨rfl, hju⟩
   have HJU := hid hju
   clear hju
   gi_wp2
   go_end0
   exact ⟨⟨_, rfl⟩, .inr (.inr ⟨HR10.out, HJU.out⟩)⟩
  ·obtain ⟨fn, tmps, assign, body, hy, hR⟩ := HY.out o k w HJW.out hhd.1 hhd.2.1
   have HHD := hid hhd
   clear hhd
   unfold WFrame
   gi_wp2
   refine ⟨(fun h => by cases h), ?_⟩
   refine hR.mono ?_
   rintro e w3 (⟨rfl, hnk, hj3⟩ | ⟨rfl, hk, hjc⟩)
   rotate_left
   ·have HR15 := hid (HHD.out.2.2.2 hk)
    have HJC := hid hjc
    clear hk hjc
    gi_wp2
    go_end0
    exact ⟨⟨_, rfl⟩, .inr (.inl ⟨HR15.out, HJC.out⟩)⟩
   ·have HNK := hid hnk
    have HJ3 := hid hj3
    have HW3 := hid (HJ0.out _ _ hj3)
    clear hnk hj3 hy hR
    by_cases hk0 : k = 0
    ·have HR0 := hid (head_zero HHD.out HNK.out hk0)
     subst hk0
     gi_wp2
     go_end0
     exact ⟨⟨_, rfl⟩, .inl ⟨_, HR0.out, HJ3.out⟩⟩
    ·have hkI : (0 : Int) < (k : Int) := by omega
     have hkln : k < ln := by have := HHD.out.1; rw [List.length_map] at this; omega
     have hkI2 : (k : Int) < (ln : Int) := by omega
     obtain ⟨x, hx⟩ : ∃ x, l[k]? = some x := ⟨_, List.getElem?_eq_getElem (by omega)⟩
     obtain ⟨b, ob, rfl, hb, hc⟩ := HW3.out.2.1.at_ hx
     have a0 := hc 0 _ rfl
     have a1 := hc 1 _ rfl
     have a2 := hc 2 _ rfl
     have a3 := hc 3 _ rfl
     have a4 := hc 4 _ rfl
     have a5 := hc 5 _ rfl
     have a6 := hc 6 _ rfl
     have a7 := hc 7 _ rfl
     have a8 := hc 8 _ rfl
     have a9 := hc 9 _ rfl
     have a10 := hc 10 _ rfl
     have a11 := hc 11 _ rfl
     have a12 := hc 12 _ rfl
     have a13 := hc 13 _ rfl
     have a14 := hc 14 _ rfl
     have a15 := hc 15 _ rfl
     rw [Nat.add_zero] at a0
     have hx60 := HSX.out x (List.mem_of_getElem? hx)
     have htx : tgC (l.map locOf) k = locOf x := tg_get (by rw [List.getElem?_map, hx]; rfl)
     have g0 := HW3.out.2.2.1.cell 0 _ rfl
     have HWA := hid (HW3.out.ext ((Ext.refl w3).alloc (.cells #[.string x.t, .string x.p, .string x.d, .slice (x.A 0) (x.n 0) (x.c 0), .slice (x.A 1) (x.n 1) (x.c 1), .string (x.s 0), .string (x.s 1), .string (x.s 2), .string (x.s 3), .int .i64 (x.i 0), .int .i64 (x.i 1), .slice (x.A 2) (x.n 2) (x.c 2), .slice (x.A 3) (x.n 3) (x.c 3), .slice (x.A 4) (x.n 4) (x.c 4), .slice (x.A 5) (x.n 5) (x.c 5), .slice (x.A 6) (x.n 6) (x.c 6)] 37)))
     have hat := (AtC.new w3 #[.string x.t, .string x.p, .string x.d, .slice (x.A 0) (x.n 0) (x.c 0), .slice (x.A 1) (x.n 1) (x.c 1), .string (x.s 0), .string (x.s 1), .string (x.s 2), .string (x.s 3), .int .i64 (x.i 0), .int .i64 (x.i 1), .slice (x.A 2) (x.n 2) (x.c 2), .slice (x.A 3) (x.n 3) (x.c 3), .slice (x.A 4) (x.n 4) (x.c 4), .slice (x.A 5) (x.n 5) (x.c 5), .slice (x.A 6) (x.n 6) (x.c 6)] : AtC 37 _ _ _)
     have q0 := hat.cell 0 _ rfl
     have q1 := hat.cell 1 _ rfl
     have r0 := HWA.out.2.2.1.cell 0 _ rfl
     have r1 := HWA.out.2.2.1.cell 1 _ rfl
     have r2 := HWA.out.2.2.1.cell 2 _ rfl
     have HAT := hid hat
     have HJA := hid (HJ.out _ _ _ HJ3.out ((Ext.refl w3).alloc (.cells #[.string x.t, .string x.p, .string x.d, .slice (x.A 0) (x.n 0) (x.c 0), .slice (x.A 1) (x.n 1) (x.c 1), .string (x.s 0), .string (x.s 1), .string (x.s 2), .string (x.s 3), .int .i64 (x.i 0), .int .i64 (x.i 1), .slice (x.A 2) (x.n 2) (x.c 2), .slice (x.A 3) (x.n 3) (x.c 3), .slice (x.A 4) (x.n 4) (x.c 4), .slice (x.A 5) (x.n 5) (x.c 5), .slice (x.A 6) (x.n 6) (x.c 6)] 37)))
     clear hc hx hat
     cases hp : (x.p.toList == [])
     ·have hpe : x.p.data.toList ≠ [] := by rw [← ByteArray.toList_eq]; simpa using hp
      have hup : upC2 (l.map locOf) k = idxC (l.map locOf) x.p.data.toList := by unfold upC2; rw [htx, if_neg (show (locOf x).2 ≠ [] from hpe)]; rfl
      have hp2 : x.p.toList ≠ [] := by simpa using hp
      have hp3 : (!x.p.toList.isEmpty) = true := by simpa using hp2
      have hp4 : x.p.toList.isEmpty = false := by simpa using hp2
      have K1 := KF.out x.p _ HWA.out
      cases hi2 : idxC (l.map locOf) x.p.data.toList with
      | none =>
        have HR := hid (head_none HHD.out HNK.out hk0 (hup.trans hi2))
        have HLN3 := hid (go_len (HHD.out.2.2.1 HNK.out).1)
        rw [idxI_none hi2] at K1
        have HK := hid K1
        clear K1 hup hi2 htx hpe
        gi_wp2_with (refine ⟨trivial, (fun h => by cases h), ?_⟩; refine (callsIn_wide.2 HK.out).mono ?_; rintro e w5 ⟨rfl, hw5⟩; have HJ5 := hid (HJ.out _ _ _ HJA.out hw5); clear hw5)
        exact ⟨gg - 1, by have := HR.out.2; omega, winv_mk (-1) (o ++ [k]) rfl HJ5.out (.inr ⟨rfl, HR.out.1, HLN3.out⟩)⟩
      | some k2 =>
        have HR := hid (head_next HHD.out HTX.out HNK.out hk0 (hup.trans hi2))
        rw [idxI_some hi2] at K1
        have HK := hid K1
        clear K1 hup hi2 htx hpe
        gi_wp2_with (refine ⟨trivial, (fun h => by cases h), ?_⟩; refine (callsIn_wide.2 HK.out).mono ?_; rintro e w5 ⟨rfl, hw5⟩; have HJ5 := hid (HJ.out _ _ _ HJA.out hw5); clear hw5)
        obtain ⟨g', hg', hh⟩ := HR.out
        exact ⟨g', hg', winv_mk (k2 : Int) (o ++ [k]) rfl HJ5.out (.inl ⟨k2, rfl, hh⟩)⟩
     ·have hpe : x.p.data.toList = [] := by rw [← ByteArray.toList_eq]; simpa using hp
      have hup : upC2 (l.map locOf) k = some (nearC (l.map locOf) (parentP x.t.data.toList).1) := by unfold upC2; rw [htx, if_pos (show (locOf x).2 = [] from hpe)]; rfl
      have hp2 : x.p.toList = [] := by simpa using hp
      have hp4 : x.p.toList.isEmpty = true := by simpa using hp2
      have hp3 : (!x.p.toList.isEmpty) = false := by rw [hp4]; rfl
      have HR := hid (head_next HHD.out HTX.out HNK.out hk0 hup)
      have K1 := KP.out x.t hx60 _ HWA.out
      obtain ⟨pb, hpb, hpb2⟩ := strv_b (parentP x.t.data.toList).1
      rw [hpb] at K1
      have hp60 : pb.size ≤ 60000 := by
       have h1 := parent_size x.t.data.toList
       rw [← hpb2] at h1
       have h2 : pb.data.toList.length = pb.size := by simp
       omega
      rw [← hpb2] at HR
      have KN2 := KN.out pb hp60
      generalize (parentP x.t.data.toList).2 = pe at K1
      generalize nearC (l.map locOf) pb.data.toList = q at KN2 HR
      have HKP := hid K1
      have HKN := hid KN2
      clear K1 KN2 hup htx hpe hpb hpb2 hp60
      gi_wp2_with (refine ⟨trivial, (fun h => by cases h), ?_⟩; refine (callsIn_wide.2 HKP.out).mono ?_; clear HKP; rintro e w5 ⟨rfl, hw5⟩; have HJ5 := hid (HJ.out _ _ _ HJA.out hw5); have HW5 := hid (HWA.out.ext hw5); clear hw5 r0 r1 r2; have r0 := HW5.out.2.2.1.cell 0 _ rfl; have r1 := HW5.out.2.2.1.cell 1 _ rfl; have r2 := HW5.out.2.2.1.cell 2 _ rfl)
      gi_wp2_with (refine ⟨trivial, (fun h => by cases h), ?_⟩; refine (callsIn_wide.2 (HKN.out _ HW5.out)).mono ?_; rintro e w6 ⟨rfl, hw6⟩; have HJ6 := hid (HJ.out _ _ _ HJ5.out hw6); clear hw6)
      obtain ⟨g', hg', hh⟩ := HR.out
      exact ⟨g', hg', winv_mk (q : Int) (o ++ [k]) rfl HJ6.out (.inl ⟨q, rfl, hh⟩)⟩
end Go.Proofs.YtljdlkonlnjadaaGreatDoor
namespace Go.Proofs.YtljdlkonlnjadaaGreatDoor
open Go.RowKit Go.Shelf
def bodyK (I : List Nat → World → Prop) (Ic : World → Prop) (o : List Nat) (k : Nat) (W : World) : Exit → Act → World → Prop
 | .normal, _, W' => KeepsOthers W W' ∧ k ∉ o ∧ I (o ++ [k]) W'
 | .ret, _, W' => KeepsOthers W W' ∧ k ∈ o ∧ Ic W'
 | _, _, _ => False
def bodyU (Iu : World → Prop) (W : World) : Exit → Act → World → Prop
 | .ret, _, W' => KeepsOthers W W' ∧ Iu W'
 | _, _, _ => False
def AtLoop (B : Nat) (r : Loop) (W : World) : Prop := W.heap[B + 1]? = some (.loop r) ∧ W.heap[B]? = some (.deferred (some []))
theorem AtLoop.ext {B : Nat} {r : Loop} {W W' : World} (h : AtLoop B r W) (hw : Ext W W') : AtLoop B r W' :=
 ⟨(Below.block hw _ (Array.getElem?_eq_some_iff.1 h.1).1).trans h.1, (Below.block hw _ (Array.getElem?_eq_some_iff.1 h.2).1).trans h.2⟩
theorem AtLoop.keeps {B : Nat} {r : Loop} {W W' : World} (h : AtLoop B r W) (hw : KeepsOthers W W') : AtLoop B r W' := ⟨hw.same _ _ h.1 rfl, hw.same _ _ h.2 rfl⟩
theorem AtLoop.turn {B : Nat} {r : Loop} {W : World} (h : AtLoop B r W) (r' : Loop) : AtLoop B r' (W.putObj (B + 1) (.loop r')) :=
 ⟨World.putObj_heap_same (Array.getElem?_eq_some_iff.1 h.1).1, (World.putObj_heap_other (by omega)).trans h.2⟩
def Turns (B : Nat) (I : World → Prop) : Prop := ∀ W r r', I W → AtLoop B r W → I (W.putObj (B + 1) (.loop r'))
def IterK (n : Nat) (P : Program) (gf : Nat) (lb : Array Value) (N : Nat) (R : List Nat × Int) (I : List Nat → World → Prop) : Prop :=
 ∀ (l : Nat) (J : List Nat → World → Prop) (Jc Ju : World → Prop), (∀ o W W', J o W → Ext W W' → J o W') → (∀ o W, J o W → I o W) →
   (∀ o k W, J o W → k < N → o.length ≤ N → YieldAt Fence.wide (n - 1) P l #[.int .i64 ((k : Nat) : Int)] W fun e W' => (e = .returned (.bool true) ∧ k ∉ o ∧ J (o ++ [k]) W') ∨ (e = .returned (.bool false) ∧ k ∈ o ∧ Jc W')) →
   (∀ o W, J o W → o.length ≤ N → YieldAt Fence.wide (n - 1) P l #[.int .i64 (-1)] W fun e W' => e = .returned (.bool false) ∧ Ju W') →
   ∀ W, J [] W → CallsIn Fence.wide n P gf (#[.func (.yield l) #[] #[]] ++ lb) W fun e W' => (∃ v, e = .returned v) ∧ ((∃ o, R = (o, 0) ∧ J o W') ∨ (R = ([], 15) ∧ Jc W') ∨ (R = ([], 10) ∧ Ju W'))
theorem range_ints {n : Nat} {P : Program} {g : Operand} {p : Tmp} {assign body : Code} {Q : Exit → Act → World → Prop} {a : Act} {w : World} {gf : Nat} {lb : Array Value}
 (hg : a.eval g = .func (.func gf) #[] lb) (eg : ∀ args w, (callFunc gf args).run P w = .ok (.enter gf args) w) (N : Nat) (R : List Nat × Int)
 (I : List Nat → World → Prop) (Ic Iu : World → Prop) (sI : ∀ o W W', I o W → Ext W W' → I o W') (tI : ∀ o, Turns w.heap.size (I o)) (tc : Turns w.heap.size Ic) (tu : Turns w.heap.size Iu)
 (h0 : I [] w) (iter : IterK (n - 1) P gf lb N R I) (a₁ : Int → Act)
 (hassign : ∀ (l : Nat) (x : Int) (W : World) (K : Act → World → Prop), K (a₁ x) W → assign.wpIn (Fence.wide.inRound l) (n - 1 - 1) P (Exit.then K (fun _ _ _ => False)) { tmps := ((#[p] : Array Tmp).zip #[.int .i64 x]).foldl (fun t (q, v) => t.setIfInBounds q v) a.tmps, defers := [] } W)
 (hbody : ∀ (l : Nat) o k W, I o W → k < N → o.length ≤ N → body.wpIn (Fence.wide.inRound l) (n - 1 - 1) P (bodyK I Ic o k W) (a₁ ((k : Nat) : Int)) W)
 (hbodyU : ∀ (l : Nat) o W, I o W → o.length ≤ N → body.wpIn (Fence.wide.inRound l) (n - 1 - 1) P (bodyU Iu W) (a₁ (-1)) W)
 (hdone : ∀ o W, R = (o, 0) → I o W → W.heap[w.heap.size]? = some (.deferred (some [])) → Q .normal { a with defers := { target := .collected w.heap.size, args := #[] } :: a.defers } W)
 (hret : ∀ W, (R = ([], 15) ∧ Ic W) ∨ (R = ([], 10) ∧ Iu W) → W.heap[w.heap.size]? = some (.deferred (some [])) → Code.ret.wpIn Fence.wide n P Q { a with defers := { target := .collected w.heap.size, args := #[] } :: a.defers } W) :
 (Code.rangeFunc g #[p] assign body).wpIn Fence.wide n P Q a w := by
 refine wpIn_rangeFunc ?_
 intro fn hfn
 obtain ⟨rc, hrc⟩ : ∃ rc : LoopState → Option Code → Loop, rc = fun st pe => { state := st, pending := pe, fn, tmps := a.tmps, params := #[p], assign, body, defers := w.heap.size } := ⟨_, rfl⟩
 obtain ⟨W1, hW1⟩ : ∃ W1, W1 = (w.alloc (.deferred (some []))).alloc (.loop (rc .ready none)) := ⟨_, rfl⟩
 have hA1 : AtLoop w.heap.size (rc .ready none) W1 := by
  rw [hW1]
  refine ⟨?_, ?_⟩
  ·have := World.alloc_heap_new (w.alloc (.deferred (some []))) (.loop (rc .ready none)); rwa [World.size_alloc] at this
  ·exact (Below.heap_alloc _ _ _ (by simp)).trans (World.alloc_heap_new w _)
 have hI1 : I [] W1 := sI _ _ _ h0 (by rw [hW1]; exact ((Ext.refl w).alloc _).alloc _)
 have hend : ∀ (W : World) (jump : Option Code), AtLoop w.heap.size (rc .busy none) W →
  (Instr.endRound (w.heap.size + 1) jump).run P W = .ok (.bool jump.isNone) (W.putObj (w.heap.size + 1) (.loop (rc (if jump.isNone then .ready else .done) jump))) := by
  intro W jump h
  have h2 := run_endRound (P := P) jump h.1
  rw [hrc] at h2 ⊢
  exact h2
 have hround : ∀ (x : Int) (W : World) (R' : Ending → World → Prop), AtLoop w.heap.size (rc .ready none) W →
  (body.wpIn (Fence.wide.inRound (w.heap.size + 1)) (n - 1 - 1) P (roundPost P (w.heap.size + 1) R') (a₁ x) (W.putObj (w.heap.size + 1) (.loop (rc .busy none)))) →
  YieldAt Fence.wide (n - 1 - 1) P (w.heap.size + 1) #[.int .i64 x] W R' := by
  intro x W R' hL hb
  have hy := run_yield (P := P) (args := #[.int .i64 x]) hL.1 (by rw [hrc]; rfl)
  refine ⟨_, _, _, _, hy, roundIn_of_wpIn (by rw [hrc]; exact hfn) ?_⟩
  have hbr := run_beginRound (P := P) hL.1 (by rw [hrc])
  rw [hrc] at hb hbr ⊢
  refine hassign _ x W _ ?_
  exact ⟨_, hbr, hb⟩
 refine ⟨w.heap.size + 1, [{ target := .collected w.heap.size, args := #[] }], W1, { target := .fn (.func gf) lb, args := #[.func (.yield (w.heap.size + 1)) #[] #[]] }, W1, gf,
  #[.func (.yield (w.heap.size + 1)) #[] #[]] ++ lb, W1, ?_, ?_, fun f' _ => trivial, ?_, fun h => (by cases h), ?_⟩
 ·rw [hW1, hrc]; exact run_enterLoop_outer _ _ _ _ _
 ·simp only [resolve, hg]
  simp [go_sem]
 ·simp [invoke, go_sem, eg]
 ·refine (iter (w.heap.size + 1) (fun o W => I o W ∧ AtLoop w.heap.size (rc .ready none) W) (fun W => Ic W ∧ AtLoop w.heap.size (rc .done (some .ret)) W) (fun W => Iu W ∧ AtLoop w.heap.size (rc .done (some .ret)) W)
   (fun o W W' h hw => ⟨sI _ _ _ h.1 hw, h.2.ext hw⟩) (fun o W h => h.1) ?_ ?_ W1 ⟨hI1, hA1⟩).mono ?_
  ·rintro o k W ⟨hi, hl⟩ hk ho
   refine hround _ W _ hl (Code.wpIn_mono ?_ (hbody _ o k _ (tI o _ _ _ hi hl) hk ho))
   rintro e a3 W3 hp
   cases e with
   | normal =>
     obtain ⟨hk3, hno, hi3⟩ := hp
     have hl3 := (hl.turn (rc .busy none)).keeps hk3
     exact ⟨_, _, hend W3 none hl3, .inl ⟨rfl, hno, tI _ _ _ _ hi3 hl3, hl3.turn _⟩⟩
   | ret =>
     obtain ⟨hk3, hyes, hi3⟩ := hp
     have hl3 := (hl.turn (rc .busy none)).keeps hk3
     exact ⟨_, _, hend W3 (some .ret) hl3, .inr ⟨rfl, hyes, tc _ _ _ hi3 hl3, hl3.turn _⟩⟩
   | _ => exact hp.elim
  ·rintro o W ⟨hi, hl⟩ ho
   refine hround _ W _ hl (Code.wpIn_mono ?_ (hbodyU _ o _ (tI o _ _ _ hi hl) ho))
   rintro e a3 W3 hp
   cases e with
   | ret =>
     obtain ⟨hk3, hi3⟩ := hp
     have hl3 := (hl.turn (rc .busy none)).keeps hk3
     exact ⟨_, _, hend W3 (some .ret) hl3, rfl, tu _ _ _ hi3 hl3, hl3.turn _⟩
   | _ => exact hp.elim
  ·rintro e W2 ⟨⟨v, rfl⟩, (⟨o, hR, hi, hl⟩ | ⟨hR, hi, hl⟩ | ⟨hR, hi, hl⟩)⟩
   ·have h2 := run_endLoop (P := P) hl.1 (by rw [hrc]; simp)
    rw [hrc] at h2
    exact ⟨none, _, h2, hdone o _ hR (tI _ _ _ _ hi hl) (hl.turn _).2⟩
   ·have h2 := run_endLoop (P := P) hl.1 (by rw [hrc]; simp)
    rw [hrc] at h2
    exact ⟨some .ret, _, h2, hret _ (.inl ⟨hR, tc _ _ _ hi hl⟩) (hl.turn _).2⟩
   ·have h2 := run_endLoop (P := P) hl.1 (by rw [hrc]; simp)
    rw [hrc] at h2
    exact ⟨some .ret, _, h2, hret _ (.inr ⟨hR, tu _ _ _ hi hl⟩) (hl.turn _).2⟩
end Go.Proofs.YtljdlkonlnjadaaGreatDoor
namespace Go.Proofs.YtljdlkonlnjadaaGreatDoor
open Go.RowKit Go.Shelf
attribute [local go_sem] Oper.semAt_some
theorem hasI_any (o : List Nat) (k : Nat) (A : Option Addr) (n c : Nat) (w : World) (hA : Sl w A n (o.map natV)) (hn : n ≤ 1048576) :
 Calls Tryz.prog 60 #[.slice A n c, .int .i64 (k : Int)] w fun e w' => e = .returned (.bool (decide (k ∈ o))) ∧ w = w' := by
 have hx : o.length = n := by have := hA.1; rwa [List.length_map] at this
 by_cases h0 : n = 0
 ·subst h0
  have hx0 : o = [] := List.eq_nil_of_length_eq_zero hx
  subst hx0
  refine (Tryz.slices_Contains_int_empty A c k w).mono ?_
  rintro e w' ⟨rfl, rfl⟩
  exact ⟨ret_bool (by simp), rfl⟩
 ·cases A with
  | none => exact absurd (none_nil hA) h0
  | some a =>
    obtain ⟨b, ob, rfl, _⟩ := addr_flat hA (by omega)
    have h := Tryz.slices_Contains_int b ob n c (o.map fun x : Nat => (x : Int)) (k : Int) w (by rw [List.length_map]; omega) (by omega) (fun j hj => by
     rw [List.length_map] at hj
     obtain ⟨ad, ha, _, hcell⟩ := hA.2 j (natV o[j]) (by rw [List.getElem?_map, List.getElem?_eq_getElem hj]; rfl)
     injection ha with ha
     subst ha
     rw [add_flat] at hcell
     rw [hcell]
     simp [List.getD_eq_getElem?_getD, hj, natV])
    refine h.mono ?_
    rintro e w' ⟨rfl, rfl⟩
    refine ⟨ret_bool ?_, rfl⟩
    rw [List.take_of_length_le (by rw [List.length_map]; omega), Bool.eq_iff_iff, List.contains_iff_mem, List.mem_map, decide_eq_true_iff]
    constructor
    ·rintro ⟨x, hx, he⟩
     have : x = k := by omega
     exact this ▸ hx
    ·intro h; exact ⟨k, h, rfl⟩
theorem cwalk_any (L A N : Option Addr) (ln lc n c m d : Nat) (s : ByteArray) (w : World) :
 Calls Tryz.prog 59 #[.agg #[.slice L ln lc, .slice A n c, .slice N m d], .string s] w fun e w' => e = .returned (.func (.func 88) #[] #[.pointer (some ⟨w.heap.size, 0, none⟩), .pointer (some ⟨w.heap.size + 1, 0, none⟩)]) ∧ w' = (w.alloc (.cells #[.slice L ln lc, .slice A n c, .slice N m d] 26)).alloc (.cells #[.string s] 9) := by
 go_enter Tryz.func59, Tryz.ntmps59
 go_wp2
 go_ret
 exact ⟨rfl, rfl⟩
theorem AtC.frozen {T : TypeId} {w : World} {g : Nat} {cs : Array Value} (h : AtC T w g cs) (j : Nat) : w.frozen? ⟨g, j, none⟩ = false := by
 unfold AtC at h
 simp [World.frozen?, h]
theorem AtC.set {T : TypeId} {w : World} {g : Nat} {u : Value} (h : AtC T w g #[u]) (v : Value) : AtC T (w.setCell ⟨g, 0, none⟩ v) g #[v] := one_setCell h
theorem AtC.other {T : TypeId} {w : World} {g : Nat} {cs : Array Value} (h : AtC T w g cs) (a : Addr) (hn : g ≠ a.block) (v : Value) : AtC T (w.setCell a v) g cs := (Below.heap_setCell _ _ _ _ hn).trans h
def CX (w : World) (e : Int) (W : World) : Prop := Ext w W ∧ AtC 43 W (w.heap.size + 1) #[.slice none 0 0] ∧ AtC 38 W (w.heap.size + 1 + 1) #[.int .i64 e]
theorem CX.stores {w W : World} (h : Ext w W) {u4 u5 : Value} (h4 : AtC 43 W (w.heap.size + 1) #[u4]) (h5 : AtC 38 W (w.heap.size + 1 + 1) #[u5]) (e : Int) :
 CX w e ((W.setCell ⟨w.heap.size + 1, 0, none⟩ (.slice none 0 0)).setCell ⟨w.heap.size + 1 + 1, 0, none⟩ (.int .i64 e)) :=
 ⟨(h.setCell (p := ⟨w.heap.size + 1, 0, none⟩) (by simp) _).setCell (p := ⟨w.heap.size + 1 + 1, 0, none⟩) (by simp; omega) _, (h4.set _).other _ (by simp) _, (h5.other _ (by simp) _).set _⟩
theorem Sl.put {W : World} {A : Option Addr} {n D : Nat} {xs : List Value} {ob : Obj} (h : Sl W A n xs) (hD : W.heap[D]? = some ob) (hn : ob.isCells = false) (ob' : Obj) : Sl (W.putObj D ob') A n xs :=
 ⟨h.1, fun j u hu => by
  obtain ⟨ad, ha, hb, hc⟩ := h.2 j u hu
  exact ⟨ad, ha, by rw [World.putObj_size]; exact hb, cell_kept hc (grownBy_putObj' _ D ob') (fun r e => by cases e; exact ⟨_, hD, hn⟩)⟩⟩
theorem AtC.put {T : TypeId} {W : World} {g D : Nat} {cs : Array Value} {ob : Obj} (h : AtC T W g cs) (hD : W.heap[D]? = some ob) (hn : ob.isCells = false) (ob' : Obj) : AtC T (W.putObj D ob') g cs := by
 refine (World.putObj_heap_other fun e => ?_).trans h
 unfold AtC at h
 rw [e, hD] at h
 injection h with h
 rw [h] at hn
 cases hn
theorem own_cells {w : World} {B : Nat} {e : TypeId} {size : Nat} {v : Value} {n : Nat} {xs : List Value} (h : w.ownsRow B e size v n xs) {j : Nat} {ob : Obj} (hj : v.ownBlock = some j) (ho : w.heap[j]? = some ob) : ob.isCells = true := by
 obtain ⟨h1, h2⟩ := h
 rcases h2 with ⟨h2, _⟩ | ⟨g, cap, cur, hv, hb, hg, _⟩
 ·rw [h2] at hj; cases hj
 ·rw [hv] at hj
  simp [Value.ownBlock] at hj
  subst hj
  rw [hg] at ho
  injection ho with ho
  rw [← ho]
  rfl
def CI (w : World) (g1 g2 : Nat) (tb : Array Value) (cb : ByteArray) (B8 base : Nat) (o : List Nat) (W : World) : Prop :=
 base ≤ W.heap.size ∧ Ext w W ∧ AtC 26 W g1 tb ∧ AtC 9 W g2 #[.string cb] ∧ AtC 43 W (w.heap.size + 1) #[.slice none 0 0] ∧ AtC 38 W (w.heap.size + 1 + 1) #[.int .i64 0] ∧
  ∃ v, AtC 43 W B8 #[v] ∧ W.ownsRow base 3 1 v o.length (o.map natV)
theorem CI.ext {w : World} {g1 g2 : Nat} {tb : Array Value} {cb : ByteArray} {B8 base : Nat} {o : List Nat} {W W' : World} (h : CI w g1 g2 tb cb B8 base o W) (hw : Ext W W') : CI w g1 g2 tb cb B8 base o W' := by
 obtain ⟨h0, h1, h2, h3, h4, h5, v, h6, h7⟩ := h
 exact ⟨Nat.le_trans h0 (Ext.size hw), h1.trans hw, h2.ext hw, h3.ext hw, h4.ext hw, h5.ext hw, v, h6.ext hw, own_ext h7 hw⟩
theorem AtC.turn {T : TypeId} {W : World} {g B : Nat} {cs : Array Value} {r : Loop} (h : AtC T W g cs) (hl : AtLoop B r W) (ob : Obj) : AtC T (W.putObj (B + 1) ob) g cs := by
 refine (World.putObj_heap_other fun e => ?_).trans h
 unfold AtC at h
 rw [e, hl.1] at h
 cases h
theorem ext_turn {w W : World} {B : Nat} {r : Loop} (h : Ext w W) (hl : AtLoop B r W) (hB : w.heap.size ≤ B + 1) (ob : Obj) : Ext w (W.putObj (B + 1) ob) :=
 Below.grown h (grownBy_putObj' W (B + 1) ob) (Ext.size h) (fun k e => by cases e; exact hB)
theorem CI.turn {w : World} {g1 g2 : Nat} {tb : Array Value} {cb : ByteArray} {B8 base : Nat} {o : List Nat} {W : World} {B : Nat} {r r' : Loop} (h : CI w g1 g2 tb cb B8 base o W) (hl : AtLoop B r W) (hB : w.heap.size ≤ B + 1) : CI w g1 g2 tb cb B8 base o (W.putObj (B + 1) (.loop r')) := by
 obtain ⟨h0, h1, h2, h3, h4, h5, v, h6, h7⟩ := h
 exact ⟨by rw [World.putObj_size]; exact h0, ext_turn h1 hl hB _, h2.turn hl _, h3.turn hl _, h4.turn hl _, h5.turn hl _, v, h6.turn hl _, ownsRow_putObj h7 _ hl.1 rfl⟩
theorem CX.turn {w : World} {e : Int} {W : World} {B : Nat} {r r' : Loop} (h : CX w e W) (hl : AtLoop B r W) (hB : w.heap.size ≤ B + 1) : CX w e (W.putObj (B + 1) (.loop r')) :=
 ⟨ext_turn h.1 hl hB _, h.2.1.turn hl _, h.2.2.turn hl _⟩
set_option maxHeartbeats 4000000 in
theorem tchain_any (l : List Lc) (al : List Ali) (L A N : Option Addr) (ln lc n c m d : Nat) (s : ByteArray) (w : World) (hm : Mx w) (hL : Lcs w L ln l) (hln : ln ≤ 100000) (hA : Als w A n al) (hn : n ≤ 100000) (hz : ∀ a ∈ al, a.1.size ≤ 60000 ∧ a.2.size ≤ 60000) (hs : ∀ x ∈ l, x.t.size ≤ 60000) (hss : s.size ≤ 60000) :
 Calls Tryz.prog 18 #[.agg #[.slice L ln lc, .slice A n c, .slice N m d], .string s] w (RetOrd w (locsC (l.map locOf) al s.data.toList)) := by
 obtain ⟨i0, hi, hz0, hz1, hz2⟩ := info_parts (show (Tryz.prog.info? 3).map (fun i => (i.zero, i.size, i.bytes)) = some (some (.int .i64 0), 1, 8) from by kernel_rfl)
 obtain ⟨W2, hW2⟩ : ∃ W2, W2 = ((w.alloc (.cells #[.slice L ln lc, .slice A n c, .slice N m d] 26)).alloc (.cells #[.slice none 0 0] 43)).alloc (.cells #[.int .i64 0] 38) := ⟨_, rfl⟩
 have HE2 := hid (show Ext w W2 from by rw [hW2]; exact (((Ext.refl w).alloc _).alloc _).alloc _)
 have KB := hid (show AtC 26 W2 w.heap.size #[.slice L ln lc, .slice A n c, .slice N m d] from by rw [hW2]; exact ((AtC.new w _).alloc _).alloc _)
 have K4 := hid (show AtC 43 W2 (w.heap.size + 1) #[.slice none 0 0] from by
  rw [hW2]
  have := (AtC.new (w.alloc (.cells #[.slice L ln lc, .slice A n c, .slice N m d] 26)) #[.slice none 0 0] : AtC 43 _ _ _)
  rw [World.size_alloc] at this
  exact this.alloc _)
 have K5 := hid (show AtC 38 W2 (w.heap.size + 1 + 1) #[.int .i64 0] from by
  rw [hW2]
  have := (AtC.new ((w.alloc (.cells #[.slice L ln lc, .slice A n c, .slice N m d] 26)).alloc (.cells #[.slice none 0 0] 43)) #[.int .i64 0] : AtC 38 _ _ _)
  rw [World.size_alloc, World.size_alloc] at this
  exact this)
 have KU := fun W (h : Ext w W) => cusable_any l al L A N ln lc n c m d W (hm.ext h) (hL.ext h) hln (hA.ext h) hn hz hs
 have KC := fun W (h : Ext w W) => tacan_any al s A n c W (hm.ext h) (hA.ext h) hn hz hss
 have HLN := hid (show (l.map locOf).length = ln from by rw [List.length_map]; exact hL.len)
 obtain ⟨R, hR⟩ : ∃ R, R = locsC (l.map locOf) al s.data.toList := ⟨_, rfl⟩
 rw [← hR]
 have HR := hid hR
 have HMX := hid hm
 have HL := hid hL
 have HS := hid hs
 clear hL hA hz hs hR hm
 have h0 := KB.out.cell 0 _ rfl
 have h1 := KB.out.cell 1 _ rfl
 have h2 := KB.out.cell 2 _ rfl
 have h4 := K4.out.cell 0 _ rfl
 have h5 := K5.out.cell 0 _ rfl
 cases hu : usableC (l.map locOf) al with
 | false =>
   rw [hu] at KU
   have HU := hid KU
   have HF := hid (HR.out.trans (locs_arg hu))
   clear KU hu KC
   refine (callsIn_wide (n := 5)).1 (callsIn_of_wp_marks Tryz.func18 rfl trivial ?_ rfl)
   simp only [Tryz.ntmps18, List.size_toArray, List.length_cons, List.length_nil, Nat.reduceAdd, Nat.reduceSub, Array.replicate_succ, Array.replicate_zero, List.push_toArray, List.append_toArray, List.nil_append, List.cons_append]
   rw [hW2] at h0 h1 h2 h4 h5
   gi_wp2_with fail
   rw [← hW2]
   clear hW2
   refine ⟨trivial, ?_⟩
   refine (callsIn_wide.2 (HU.out _ HE2.out)).mono ?_
   rintro e w3 ⟨rfl, hw3⟩
   have HE3 := hid (HE2.out.trans hw3)
   have K43 := hid (K4.out.ext hw3)
   have K53 := hid (K5.out.ext hw3)
   clear hw3 h0 h1 h2 h4 h5 HU KB K4 K5
   have p4 := K43.out.cell 0 _ rfl
   have p5 := K53.out.cell 0 _ rfl
   have q4 := K43.out.frozen 0
   have q5 := K53.out.frozen 0
   gi_wp2
   have k4 := (K43.out.set (.slice none 0 0)).other ⟨w.heap.size + 1 + 1, 0, none⟩ (by simp) (.int .i64 1)
   have k5 := (K53.out.other ⟨w.heap.size + 1, 0, none⟩ (by simp) (.slice none 0 0)).set (.int .i64 1)
   have r4 := k4.cell 0 _ rfl
   have r5 := k5.cell 0 _ rfl
   refine ⟨.tuple #[.slice none 0 0, .int .i64 1], by simp [results, Tryz.results18, go_sem, r4, r5], none, 0, 0, by rw [HF.out], by rw [HF.out]; exact Sl.nil _ _, Nat.le_refl _, ?_⟩
   exact (HE3.out.setCell (p := ⟨w.heap.size + 1, 0, none⟩) (by simp) _).setCell (p := ⟨w.heap.size + 1 + 1, 0, none⟩) (by simp; omega) _
 | true =>
   rw [hu] at KU
   have HU := hid KU
   have HUS := hid hu
   clear KU hu
   have hcs := can_size (al := al) (s := s.data.toList)
   have hgo := fun hc => HR.out.trans (locs_go (s := s.data.toList) HUS.out hc)
   have hbad := fun hc => HR.out.trans (locs_can (s := s.data.toList) HUS.out hc)
   generalize canL al s.data.toList = C at KC hcs hgo hbad
   obtain ⟨cx, ce⟩ := C
   obtain ⟨cb, hcb, rfl⟩ := strv_b cx
   simp only at KC hcs hgo hbad
   rw [hcb] at KC
   have HC := hid KC
   have hcb60 : cb.size ≤ 60000 := by have h2 : cb.data.toList.length = cb.size := by simp
                                      omega
   clear KC hcb hcs
   refine (callsIn_wide (n := 5)).1 (callsIn_of_wp_marks Tryz.func18 rfl trivial ?_ rfl)
   simp only [Tryz.ntmps18, List.size_toArray, List.length_cons, List.length_nil, Nat.reduceAdd, Nat.reduceSub, Array.replicate_succ, Array.replicate_zero, List.push_toArray, List.append_toArray, List.nil_append, List.cons_append]
   rw [hW2] at h0 h1 h2 h4 h5
   gi_wp2_with fail
   rw [← hW2]
   clear hW2
   refine ⟨trivial, ?_⟩
   refine (callsIn_wide.2 (HU.out _ HE2.out)).mono ?_
   rintro e w3 ⟨rfl, hw3⟩
   have HE3 := hid (HE2.out.trans hw3)
   have KB3 := hid (KB.out.ext hw3)
   have K43 := hid (K4.out.ext hw3)
   have K53 := hid (K5.out.ext hw3)
   clear hw3 h0 h1 h2 h4 h5 HU KB K4 K5
   have h1 := KB3.out.cell 1 _ rfl
   gi_wp2_with fail
   refine ⟨trivial, ?_⟩
   refine (callsIn_wide.2 (HC.out _ HE3.out)).mono ?_
   rintro e w4 ⟨rfl, hw4⟩
   have HE4 := hid (HE3.out.trans hw4)
   have KB4 := hid (KB3.out.ext hw4)
   have K44 := hid (K43.out.ext hw4)
   have K54 := hid (K53.out.ext hw4)
   clear hw4 h1 HC
   by_cases hce : ce = 0
   rotate_left
   ·have hnz : (ce == 0) = false := by simpa using hce
    have HF := hid (hbad hce)
    clear hgo hbad
    have p4 := K44.out.cell 0 _ rfl
    have p5 := K54.out.cell 0 _ rfl
    have q4 := K44.out.frozen 0
    have q5 := K54.out.frozen 0
    gi_wp2
    have k4 := (K44.out.set (.slice none 0 0)).other ⟨w.heap.size + 1 + 1, 0, none⟩ (by simp) (.int .i64 ce)
    have k5 := (K54.out.other ⟨w.heap.size + 1, 0, none⟩ (by simp) (.slice none 0 0)).set (.int .i64 ce)
    have r4 := k4.cell 0 _ rfl
    have r5 := k5.cell 0 _ rfl
    refine ⟨.tuple #[.slice none 0 0, .int .i64 ce], by simp [results, Tryz.results18, go_sem, r4, r5], none, 0, 0, by rw [HF.out], by rw [HF.out]; exact Sl.nil _ _, Nat.le_refl _, ?_⟩
    exact (HE4.out.setCell (p := ⟨w.heap.size + 1, 0, none⟩) (by simp) _).setCell (p := ⟨w.heap.size + 1 + 1, 0, none⟩) (by simp; omega) _
   subst hce
   have HGO := hid (hgo rfl)
   clear hgo hbad
   obtain ⟨W5, hW5⟩ : ∃ W5, W5 = w4.alloc (.cells #[.slice none 0 0] 43) := ⟨_, rfl⟩
   have HE45 := hid (show Ext w4 W5 from by rw [hW5]; exact (Ext.refl _).alloc _)
   have hs5 : W5.heap.size = w4.heap.size + 1 := by rw [hW5, World.size_alloc]
   have K85 := hid (show AtC 43 W5 w4.heap.size #[.slice none 0 0] from by rw [hW5]; exact AtC.new _ _)
   have KB5 := hid (KB4.out.ext HE45.out)
   have KW := cwalk_any L A N ln lc n c m d cb W5
   rw [hs5] at KW
   have h0 := KB5.out.cell 0 _ rfl
   have h1 := KB5.out.cell 1 _ rfl
   have h2 := KB5.out.cell 2 _ rfl
   rw [hW5] at h0 h1 h2
   gi_wp2_with fail
   rw [← hW5]
   refine ⟨trivial, ?_⟩
   refine (callsIn_wide.2 KW).mono ?_
   rintro e W6 ⟨rfl, hW6⟩
   have hs6 : W6.heap.size = w4.heap.size + 3 := by rw [hW6, World.size_alloc, World.size_alloc, hs5]
   have HE6 := hid (show Ext w W6 from by rw [hW6]; exact ((HE4.out.trans HE45.out).alloc _).alloc _)
   have KG1 := hid (show AtC 26 W6 (w4.heap.size + 1) #[.slice L ln lc, .slice A n c, .slice N m d] from by
    rw [hW6]
    have h := (AtC.new W5 #[.slice L ln lc, .slice A n c, .slice N m d] : AtC 26 _ _ _)
    rw [hs5] at h
    exact h.alloc _)
   have KG2 := hid (show AtC 9 W6 (w4.heap.size + 1 + 1) #[.string cb] from by
    rw [hW6]
    have h := (AtC.new (W5.alloc (.cells #[.slice L ln lc, .slice A n c, .slice N m d] 26)) #[.string cb] : AtC 9 _ _ _)
    rw [World.size_alloc, hs5] at h
    exact h)
   have HCI := hid (show CI w (w4.heap.size + 1) (w4.heap.size + 1 + 1) #[.slice L ln lc, .slice A n c, .slice N m d] cb w4.heap.size W6.heap.size [] W6 from by
    refine ⟨Nat.le_refl _, HE6.out, KG1.out, KG2.out, ?_, ?_, _, ?_, World.ownsRow_nil _ _ _ _⟩
    ·rw [hW6]; exact ((K44.out.ext HE45.out).alloc _).alloc _
    ·rw [hW6]; exact ((K54.out.ext HE45.out).alloc _).alloc _
    ·rw [hW6]; exact (K85.out.alloc _).alloc _)
   have hsz := Ext.size HE4.out
   have hsz3 : w.heap.size + 3 ≤ w4.heap.size := by have := K54.out.lt; omega
   clear h0 h1 h2 KW hW5 hW6 KG1 KG2 K85 K44 K54 KB5 HE45 KB4
   gi_wp2
   refine range_ints (gf := 88) (lb := #[.pointer (some ⟨w4.heap.size + 1, 0, none⟩), .pointer (some ⟨w4.heap.size + 1 + 1, 0, none⟩)]) rfl (enters_of Tryz.func88 (by kernel_rfl) rfl) (l.map locOf).length R
    (CI w (w4.heap.size + 1) (w4.heap.size + 1 + 1) #[.slice L ln lc, .slice A n c, .slice N m d] cb w4.heap.size W6.heap.size) (CX w 15) (CX w 10) (fun _ _ _ h hw => h.ext hw) (fun _ _ _ _ h hl => h.turn hl (by omega)) (fun _ _ _ h hl => h.turn hl (by omega)) (fun _ _ _ h hl => h.turn hl (by omega))
    HCI.out ?iter ?a1 ?asg ?bdy ?bdyU ?dne ?rt
   case asg =>
    intro l x W K hK
    gi_wp2
    exact hK
   case iter =>
    intro lp J Jc Ju hJ hJI hY hN W h0
    exact walk1_in lp 4 l L A N ln lc n c m d cb (w4.heap.size + 1) (w4.heap.size + 1 + 1) (by have h := HLN.out; rwa [List.length_map] at h) hln HS.out hcb60 (usable_ok HUS.out).1 J Jc Ju hJ
     (fun o W h => ⟨HMX.out.ext (hJI o W h).2.1, HL.out.ext (hJI o W h).2.1, (hJI o W h).2.2.1, (hJI o W h).2.2.2.1⟩) hY hN W h0 R HGO.out
   case bdyU =>
    rintro lp o W ⟨_, h1, h2, h3, h4, h5, v, h6, h7⟩ ho
    have H1 := hid h1
    have p4 := h4.cell 0 _ rfl
    have p5 := h5.cell 0 _ rfl
    have H4 := hid h4
    have H5 := hid h5
    clear h1 h2 h3 h4 h5 h6 h7
    have hneg : decide ((-1 : Int) < 0) = true := by decide
    have q4 := H4.out.frozen 0
    have q5 := H5.out.frozen 0
    gi_wp2
    exact ⟨(KeepsOthers.setCell _ _ _).trans (KeepsOthers.setCell _ _ _), CX.stores H1.out H4.out H5.out 10⟩
   case bdy =>
    rintro lp o k W ⟨hbase, h1, h2, h3, h4, h5, v, h6, h7⟩ hkN ho
    have H1 := hid h1
    have H2 := hid h2
    have H3 := hid h3
    have H4 := hid h4
    have H5 := hid h5
    have H6 := hid h6
    have H7 := hid h7
    obtain ⟨A8, c8, rfl, hs8, hc8⟩ := own_sl h7
    have hol : o.length ≤ 100000 := by have := HLN.out; omega
    have hsW := Ext.size h1
    have KH := hasI_any o k A8 o.length c8 W hs8 (by omega)
    have p8 := h6.cell 0 _ rfl
    have q8 := h6.frozen 0
    have hneg : decide ((k : Int) < 0) = false := by simp
    clear h1 h2 h3 hs8
    by_cases hk : k ∈ o
    ·have p4 := h4.cell 0 _ rfl
     have p5 := h5.cell 0 _ rfl
     have q4 := h4.frozen 0
     have q5 := h5.frozen 0
     rw [decide_eq_true hk] at KH
     have HK := hid KH
     have HKO := hid hk
     clear h4 h5 h6 h7 KH hk
     gi_wp2_with (refine ⟨trivial, ?_⟩; refine (CallsIn.inRound lp (callsIn_wide.2 HK.out)).mono ?_; rintro e w7 ⟨rfl, rfl⟩)
     exact ⟨(KeepsOthers.setCell _ _ _).trans (KeepsOthers.setCell _ _ _), HKO.out, CX.stores H1.out H4.out H5.out 15⟩
    ·rw [decide_eq_false hk] at KH
     have HK := hid KH
     have HKO := hid hk
     clear h4 h5 h6 h7 KH hk
     gi_wp2_with (first
      | (refine ⟨trivial, ?_⟩; refine (CallsIn.inRound lp (callsIn_wide.2 HK.out)).mono ?_; rintro e w7 ⟨rfl, rfl⟩)
      | (gi_at_builtin; refine wpListIn_append_own _ rfl _ _ 43 rfl W6.heap.size 3 i0 (.int .i64 0) 1 8 Tryz.underlying43 hi hz0 hz1 hz2 rfl (by decide) _ _ _ rfl (H7.out.alloc _) ⟨W.heap.size, 0, none⟩ 1 1 [natV k] rfl rfl (cell_one_new _ _ _) (by simp [Value.oneCell', natV]) (by unfold maxLen; omega) (by omega) (by simp; omega) ?_; intro v' w8 hown' hgrow _; obtain ⟨g', cap', rfl, hg', _⟩ := own_some hown' (by omega); have HO8 := hid hown'; have HG8 := hid hgrow; clear hown' hgrow; have HK8 := hid (show AtC 43 w8 w4.heap.size #[.slice A8 o.length c8] from (HG8.out.block _ (by simp; omega) (fun e => by have := own_lt H7.out _ e.symm; omega)).trans (H6.out.alloc _)); have p9 := HK8.out.cell 0 _ rfl; have q9 := HK8.out.frozen 0))
     have HR8 := hid (Below.grown ((Below.refl W6.heap.size W).alloc (by omega) (.cells #[natV k] 3)) HG8.out (by simp; omega) (own_lt H7.out))
     have hne : ∀ g, g < W6.heap.size → g ≠ g' := fun g h e => by omega
     have hw8 : w.heap.size + 3 ≤ W6.heap.size := by omega
     refine ⟨((KeepsOthers.alloc W (.cells #[natV k] 3)).trans (KeepsOthers.of_grownBy HG8.out (fun j ob hj ho => own_cells (H7.out.alloc _) hj ho))).trans (KeepsOthers.setCell _ _ _), HKO.out, ?_, ?_, ?_, ?_, ?_, ?_, _, HK8.out.set _, ?_⟩
     ·have := HR8.out.size; simp; omega
     ·exact Ext.setCell (Below.trans H1.out (HR8.out.mono (by omega))) (p := ⟨w4.heap.size, 0, none⟩) (by simp; omega) _
     ·exact (H2.out.below HR8.out (by omega)).other _ (show w4.heap.size + 1 ≠ w4.heap.size from by omega) _
     ·exact (H3.out.below HR8.out (by omega)).other _ (show w4.heap.size + 1 + 1 ≠ w4.heap.size from by omega) _
     ·exact (H4.out.below HR8.out (by omega)).other _ (by simp; omega) _
     ·exact (H5.out.below HR8.out (by omega)).other _ (by simp; omega) _
     ·rw [List.length_append, List.map_append]
      exact ownsRow_setCell_other HO8.out (by simp [Value.ownBlock]; omega) _
   case dne =>
    rintro o W hRo ⟨_, h1, h2, h3, h4, h5, v, h6, h7⟩ hD
    obtain ⟨A8, c8, rfl, hs8, hc8⟩ := own_sl h7
    have H1 := hid h1
    have H4 := hid h4
    have H5 := hid h5
    have HS8 := hid hs8
    have HD := hid hD
    have HRO := hid hRo
    have p8 := h6.cell 0 _ rfl
    have p4 := h4.cell 0 _ rfl
    have p5 := h5.cell 0 _ rfl
    have q4 := h4.frozen 0
    have q5 := h5.frozen 0
    have hb8 : ∀ ad, A8 = some ad → W6.heap.size ≤ ad.block := fun ad h => own_lt h7 _ (by rw [h]; rfl)
    clear h1 h2 h3 h4 h5 h6 h7 hs8 hD hRo
    gi_wp2
    have hD2 := ((KeepsOthers.setCell W ⟨w.heap.size + 1, 0, none⟩ (.slice A8 o.length c8)).trans (KeepsOthers.setCell _ ⟨w.heap.size + 1 + 1, 0, none⟩ (.int .i64 0))).same _ _ HD.out rfl
    have k4 := ((H4.out.set (.slice A8 o.length c8)).other ⟨w.heap.size + 1 + 1, 0, none⟩ (by simp) (.int .i64 0)).put hD2 rfl (.deferred none)
    have k5 := ((H5.out.other ⟨w.heap.size + 1, 0, none⟩ (by simp) (.slice A8 o.length c8)).set (.int .i64 0)).put hD2 rfl (.deferred none)
    have r4 := k4.cell 0 _ rfl
    have r5 := k5.cell 0 _ rfl
    refine ⟨by simp, .inl ⟨_, _, rfl, run_takeDeferred hD2, ?_⟩⟩
    refine ⟨.tuple #[.slice A8 o.length c8, .int .i64 0], by simp [results, Tryz.results18, go_sem, r4, r5], A8, o.length, c8, by rw [HRO.out], ?_, hc8, ?_⟩
    ·rw [HRO.out]
     exact Sl.put ((HS8.out.othr _ (fun ad h => by have := hb8 ad h; simp; omega) _).othr _ (fun ad h => by have := hb8 ad h; simp; omega) _) hD2 rfl _
    ·exact Below.grown ((H1.out.setCell (p := ⟨w.heap.size + 1, 0, none⟩) (by simp) _).setCell (p := ⟨w.heap.size + 1 + 1, 0, none⟩) (by simp; omega) _) (grownBy_putObj' _ _ _) (by have := Ext.size H1.out; simp; omega) (fun k e => by cases e; omega)
   case rt =>
    intro W hcase hD
    obtain ⟨e, hRe, hcx⟩ : ∃ e, R = ([], e) ∧ CX w e W := by
     rcases hcase with ⟨h1, h2⟩ | ⟨h1, h2⟩
     ·exact ⟨_, h1, h2⟩
     ·exact ⟨_, h1, h2⟩
    have k4 := hcx.2.1.put hD rfl (.deferred none)
    have k5 := hcx.2.2.put hD rfl (.deferred none)
    have r4 := k4.cell 0 _ rfl
    have r5 := k5.cell 0 _ rfl
    gi_wp2
    refine ⟨by simp, .inl ⟨_, _, rfl, run_takeDeferred hD, ?_⟩⟩
    refine ⟨.tuple #[.slice none 0 0, .int .i64 e], by simp [results, Tryz.results18, go_sem, r4, r5], none, 0, 0, by rw [hRe], by rw [hRe]; exact Sl.nil _ _, Nat.le_refl _, ?_⟩
    exact Below.grown hcx.1 (grownBy_putObj' _ _ _) (Ext.size hcx.1) (fun k e => by cases e; omega)
end Go.Proofs.YtljdlkonlnjadaaGreatDoor
namespace Go.Proofs.YtljdlkonlnjadaaGreatDoor
open Go.RowKit
set_option maxHeartbeats 2000000 in
theorem tof_any (l : List Lc) (al : List Ali) (L A N : Option Addr) (ln lc n c m d : Nat) (s : ByteArray) (w : World) (hm : Mx w) (hL : Lcs w L ln l) (hln : ln ≤ 100000) (hA : Als w A n al) (hn : n ≤ 100000) (hz : ∀ a ∈ al, a.1.size ≤ 60000 ∧ a.2.size ≤ 60000) (hs : ∀ x ∈ l, x.t.size ≤ 60000) (hss : s.size ≤ 60000) :
 Calls Tryz.prog 14 #[.agg #[.slice L ln lc, .slice A n c, .slice N m d], .string s] w (RetTgs w (ofC (l.map locOf) al s.data.toList)) := by
 obtain ⟨i0, hi, hz0, hz1, hz2⟩ := info_parts (show (Tryz.prog.info? 9).map (fun i => (i.zero, i.size, i.bytes)) = some (some (.string ⟨#[]⟩), 1, 16) from by kernel_rfl)
 have KB := hid (AtC.new w #[.slice L ln lc, .slice A n c, .slice N m d] : AtC 26 _ _ _)
 have HW0 := hid ((Ext.refl w).alloc (.cells #[.slice L ln lc, .slice A n c, .slice N m d] 26))
 have h0 := KB.out.cell 0 _ rfl
 have h1 := KB.out.cell 1 _ rfl
 have h2 := KB.out.cell 2 _ rfl
 have K := tchain_any l al L A N ln lc n c m d s _ (hm.ext HW0.out) (hL.ext HW0.out) hln (hA.ext HW0.out) hn hz hs hss
 have hlt := locs_lt (T := l.map locOf) (al := al) (s := s.data.toList)
 have hle := locs_len (T := l.map locOf) (al := al) (s := s.data.toList)
 obtain ⟨R, hR⟩ : ∃ R, R = locsC (l.map locOf) al s.data.toList := ⟨_, rfl⟩
 rw [of_loc hR]
 have hbd := fun h => locs_bad (T := l.map locOf) (al := al) (s := s.data.toList) h
 rw [← hR] at K hlt hle hbd
 obtain ⟨r, e⟩ := R
 simp only at hlt hle hbd
 have HBD := hid hbd
 have HK := hid K
 have HL := hid hL
 have hll := hL.len
 rw [List.length_map] at hle
 have HLT := hid (show ∀ i ∈ r, i < ln from fun i hi => by have := hlt i hi; rw [List.length_map] at this; omega)
 clear hL hA hz hs K hR hlt hbd
 go_enter Tryz.func14, Tryz.ntmps14
 go_wp2_with fail
 refine HK.out.mono ?_
 rintro e2 w2 ⟨A2, n2, c2, rfl, hs2, hc2, hw2⟩
 have HS2 := hid hs2
 have hn2 : n2 = r.length := by have h := hs2.1; rw [List.length_map] at h; exact h.symm
 have HW2 := hid (HW0.out.trans hw2)
 have KB2 := hid (KB.out.ext hw2)
 clear hw2 hs2 h0 h1 h2
 simp only
 by_cases he : e = 0
 rotate_left
 ·have hnz : (e == 0) = false := by simpa using he
  go_wp2
  go_ret2
  exact ⟨none, 0, 0, rfl, by rw [HBD.out he]; exact Sl.nil _ _, Nat.le_refl _, HW2.out⟩
 subst he
 go_wp2_with fail
 go_loopw [8, 22] (COf w2 (l.map locOf) r n2) (fun _ i _ => n2 - (intOf i).toNat)
 case atStart => exact ⟨0, Nat.zero_le _, rfl, World.ownsRow_nil _ _ _ _, Ext.refl _⟩
 case round =>
  obtain ⟨k, hk, rfl, how, hw⟩ := hrel
  have HOW := hid how
  have HW := hid hw
  clear how hw
  by_cases hkn : k < n2
  ·obtain ⟨ad, q, rfl, hq, hcq⟩ := (HS2.out.ext HW.out).at_map hkn
   unfold natV at hcq
   have hqln := HLT.out q (List.mem_of_getElem? hq)
   obtain ⟨x, hx⟩ : ∃ x, l[q]? = some x := ⟨_, List.getElem?_eq_getElem (by omega)⟩
   obtain ⟨b, o, rfl, hb, hc⟩ := (HL.out.ext (HW2.out.trans HW.out)).at_ hx
   have a0 := hc 0 _ rfl
   rw [Nat.add_zero] at a0
   have g0 := (KB2.out.ext HW.out).cell 0 _ rfl
   have hkI : (k : Int) < (n2 : Int) := by omega
   have hqI : (q : Int) < (ln : Int) := by omega
   have HX := hid (show strv (tgC (l.map locOf) q).1 = .string x.t from by
    rw [tg_get (show (l.map locOf)[q]? = some (locOf x) from by rw [List.getElem?_map, hx]; rfl)]
    show strv x.t.data.toList = .string x.t
    unfold strv
    simp)
   have HRQ := hid hq
   clear hx hc hq hb
   go_wp2_with (at_builtin; refine wpList_app2 _ rfl _ _ 35 rfl w2.heap.size 9 i0 _ 16 Tryz.underlying35 hi hz0 hz1 hz2 rfl _ k _ rfl (HOW.out.alloc _) _ 1 _ _ rfl (Sl.one _ _ _) (by simp [Value.oneCell']) (by unfold maxLen; omega) (by omega) (by have := Ext.size HW.out; simp; omega) ?_; intro v6 w6 hown6 hgrow6 hwh6; have HO6 := hid hown6; have HX6 := hid (ext_grown (a := w2) (B := w2.heap.size) (HW.out.alloc _) (HOW.out.alloc _) (Nat.le_refl _) hgrow6); clear hown6 hgrow6 hwh6)
   all_goals refine ⟨⟨k + 1, by omega, by go_num, ?_, HX6.out⟩, by simp [intOf]; omega⟩
   all_goals rw [take_next HRQ.out, List.map_append, List.map_append]
   all_goals (have h := HO6.out; rw [← HX.out] at h; exact h)
  ·have hkk : k = n2 := by omega
   subst hkk
   obtain ⟨A5, c5, rfl, hs5, hc5⟩ := own_sl HOW.out
   have HS5 := hid hs5
   clear hs5
   go_wp2
   go_ret2
   refine ⟨A5, k, c5, rfl, ?_, hc5, HW2.out.trans HW.out⟩
   have h := HS5.out
   rw [hn2, List.take_length] at h
   rw [hn2]
   exact h
end Go.Proofs.YtljdlkonlnjadaaGreatDoor
