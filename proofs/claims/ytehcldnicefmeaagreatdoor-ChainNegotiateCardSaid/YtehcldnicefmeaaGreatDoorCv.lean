import Derived.RangeFuncNested
import Derived.RangeFuncBound
import Derived.RangeFuncCalls
import Derived.RangeFuncLeaves
import Derived.Shelf.Abstract
import Derived.Shelf.RegionOpen
import Derived.WalkKit
import Derived.OwnWalkIn
import Derived.TacticsInMore
import Derived.LoopNIn
import Derived.LoopIn
import Derived.Test.YtehcldnicefmeaaGreatDoorCu
namespace Go.Proofs.YtehcldnicefmeaaGreatDoor
open Go.RowKit Go.Shelf
set_option linter.unusedSimpArgs false
set_option linter.unusedVariables false
attribute [local go_sem] Oper.semAt_some

/-! The indices of a chain, one after the other: the iterator. -/
theorem least_of {p : Nat → Prop} (h : ∃ n, p n) : ∃ n, p n ∧ ∀ m, p m → n ≤ m := by
  obtain ⟨n, hn⟩ := h
  induction n using Nat.strongRecOn with
  | _ n ih =>
    by_cases hm : ∃ m, m < n ∧ p m
    · obtain ⟨m, h1, h2⟩ := hm
      exact ih m h1 h2
    · exact ⟨n, hn, fun m hpm => Nat.le_of_not_lt fun hlt => hm ⟨m, hlt, hpm⟩⟩
theorem loop_ghost {F : Fence} {n : Nat} {P : Program} {c : Code} {Q : Exit → Act → World → Prop} {a : Act} {w : World} (I : Nat → Act → World → Prop) (N : Nat) (h0 : I N a w)
    (round : ∀ g a w, I g a w → c.wpIn F n P (Exit.then (fun a' w' => ∃ g', g' < g ∧ I g' a' w') Q) a w) : (Code.loop c).wpIn F n P Q a w := by
  classical
  let J : Act → World → Prop := fun a w => ∃ g, I g a w
  let mu : Act → World → Nat := fun a w => if h : ∃ g, I g a w then Classical.choose (least_of h) else 0
  have hmu : ∀ (a : Act) (w : World) (h : ∃ g, I g a w), I (mu a w) a w ∧ ∀ m, I m a w → mu a w ≤ m := by
    intro a w h
    have e : mu a w = Classical.choose (least_of h) := dif_pos h
    rw [e]
    exact Classical.choose_spec (least_of h)
  refine wpIn_loop J mu ⟨N, h0⟩ ?_
  intro a w hJ
  refine Code.wpIn_mono ?_ (round _ a w (hmu a w hJ).1)
  intro e a' w' q
  cases e with
  | normal =>
    obtain ⟨g', hlt, hi⟩ := q
    exact ⟨⟨g', hi⟩, Nat.lt_of_le_of_lt ((hmu a' w' ⟨g', hi⟩).2 g' hi) hlt⟩
  | _ => exact q
theorem parent_size (s : BytesC) : (parentP s).1.length ≤ 60 := by
  unfold parentP
  split
  · simp
  · split
    · simp
    · rename_i u hu
      have hv := parse_ok (s := s) (by rename_i h _; simpa using h)
      exact textP_len (up_valid hv hu).1
def HeadP (T : List LocP) (R : List Nat × Int) (g : Nat) (o : List Nat) (k : Nat) : Prop :=
  k < T.length ∧ o.length ≤ T.length ∧ (k ∉ o → GoK T g (o ++ [k]) k ∧ goC T g (o ++ [k]) k = R) ∧ (k ∈ o → R = ([], 15))
theorem head_start {T : List LocP} {i : Nat} (h : i < T.length) : HeadP T (goC T T.length [i] i) T.length [] i := ⟨h, Nat.zero_le _, fun _ => ⟨GoK.start h, rfl⟩, fun h => by cases h⟩
theorem head_next {T : List LocP} {R : List Nat × Int} {g k k2 : Nat} {o : List Nat} (h : HeadP T R g o k) (hT : T ≠ []) (hn : k ∉ o) (h0 : k ≠ 0) (hu : upC2 T k = some k2) : ∃ g', g' < g ∧ HeadP T R g' (o ++ [k]) k2 := by
  obtain ⟨h1, h2⟩ := h.2.2.1 hn
  obtain ⟨m, hm⟩ := h1.pos
  refine ⟨g - 1, by omega, up_lt hT hu, go_len h1, fun h3 => ?_, fun h3 => ?_⟩
  · obtain ⟨e, hg⟩ := go_on h1 h0 hu h3 hT
    exact ⟨hg, by rw [← e]; exact h2⟩
  · rw [← h2]; exact go_cycle h1 h0 hu h3
theorem head_none {T : List LocP} {R : List Nat × Int} {g k : Nat} {o : List Nat} (h : HeadP T R g o k) (hn : k ∉ o) (h0 : k ≠ 0) (hu : upC2 T k = none) : R = ([], 10) ∧ 0 < g := by
  obtain ⟨h1, h2⟩ := h.2.2.1 hn
  obtain ⟨m, hm⟩ := h1.pos
  exact ⟨by rw [← h2]; exact go_none h1 h0 hu, by omega⟩
theorem head_zero {T : List LocP} {R : List Nat × Int} {g k : Nat} {o : List Nat} (h : HeadP T R g o k) (hn : k ∉ o) (h0 : k = 0) : R = (o ++ [k], 0) := by
  obtain ⟨h1, h2⟩ := h.2.2.1 hn
  rw [← h2]; exact go_zero h1 h0
def GoodW (l : List Lc) (L : Option Addr) (ln g1 g2 : Nat) (tb : Array Value) (s : ByteArray) (W : World) : Prop := Mx W ∧ Lcs W L ln l ∧ AtC 26 W g1 tb ∧ AtC 9 W g2 #[.string s]
theorem GoodW.ext {l : List Lc} {L : Option Addr} {ln g1 g2 : Nat} {tb : Array Value} {s : ByteArray} {W W' : World} (h : GoodW l L ln g1 g2 tb s W) (hw : Ext W W') : GoodW l L ln g1 g2 tb s W' := ⟨h.1.ext hw, h.2.1.ext hw, h.2.2.1.ext hw, h.2.2.2.ext hw⟩
def WFrame (lp g1 g2 : Nat) (i : Value) (u : Nat → Value) : Act := { tmps := #[.func (.yield lp) #[] #[], .pointer (some ⟨g1, 0, none⟩), .pointer (some ⟨g2, 0, none⟩), u 3, i, u 5, u 6, u 7, u 8, u 9, u 10, u 11, u 12, u 13, u 14, u 15, u 16, u 17, u 18, u 19, u 20, u 21, u 22, u 23, u 24, u 25, u 26, u 27, u 28, u 29, u 30, u 31, u 32, u 33, u 34, u 35, u 36, u 37, u 38], defers := [] }
def WInv (lp g1 g2 : Nat) (T : List LocP) (R : List Nat × Int) (J : List Nat → World → Prop) (g : Nat) (a : Act) (w : World) : Prop :=
  ∃ (u : Nat → Value) (i : Int) (o : List Nat), a = WFrame lp g1 g2 (.int .i64 i) u ∧ J o w ∧ ((∃ k : Nat, i = (k : Int) ∧ HeadP T R g o k) ∨ (i = -1 ∧ R = ([], 10) ∧ o.length ≤ T.length))

theorem winv_mk {lp g1 g2 : Nat} {T : List LocP} {R : List Nat × Int} {J : List Nat → World → Prop} {g : Nat} {a : Act} {w : World} (i : Int) (o : List Nat) (ha : a = WFrame lp g1 g2 (.int .i64 i) (fun j => a.tmps.getD j undef)) (hj : J o w)
    (h : (∃ k : Nat, i = (k : Int) ∧ HeadP T R g o k) ∨ (i = -1 ∧ R = ([], 10) ∧ o.length ≤ T.length)) : WInv lp g1 g2 T R J g a w := ⟨_, i, o, ha, hj, h⟩

set_option maxHeartbeats 4000000 in
set_option maxRecDepth 100000 in
theorem walk1_in (lp m : Nat) (l : List Lc) (L A N : Option Addr) (ln lc n c m_ d : Nat) (s : ByteArray) (g1 g2 : Nat) (hlen : l.length = ln) (hln : ln ≤ 100000) (hs : ∀ x ∈ l, x.t.size ≤ 60000) (hss : s.size ≤ 60000) (hT : l.map locOf ≠ [])
    (J : List Nat → World → Prop) (Jc Ju : World → Prop) (hJ : ∀ o W W', J o W → Ext W W' → J o W') (hJ0 : ∀ o W, J o W → GoodW l L ln g1 g2 #[.slice L ln lc, .slice A n c, .slice N m_ d] s W)
    (hY : ∀ o k W, J o W → k < (l.map locOf).length → o.length ≤ (l.map locOf).length → YieldAt Fence.wide (m - 1) Tryz.prog lp #[.int .i64 (k : Int)] W fun e W' => (e = .returned (.bool true) ∧ k ∉ o ∧ J (o ++ [k]) W') ∨ (e = .returned (.bool false) ∧ k ∈ o ∧ Jc W'))
    (hN : ∀ o W, J o W → o.length ≤ (l.map locOf).length → YieldAt Fence.wide (m - 1) Tryz.prog lp #[.int .i64 (-1)] W fun e W' => e = .returned (.bool false) ∧ Ju W')
    (W : World) (h0 : J [] W) (R : List Nat × Int) (hR : R = goC (l.map locOf) (l.map locOf).length [nearC (l.map locOf) s.data.toList] (nearC (l.map locOf) s.data.toList)) :
    CallsIn Fence.wide m Tryz.prog 107 #[.func (.yield lp) #[] #[], .pointer (some ⟨g1, 0, none⟩), .pointer (some ⟨g2, 0, none⟩)] W fun e W' => (∃ v, e = .returned v) ∧ ((∃ o, R = (o, 0) ∧ J o W') ∨ (R = ([], 15) ∧ Jc W') ∨ (R = ([], 10) ∧ Ju W')) := by
  have HJ := Lib.hid hJ
  have HJ0 := Lib.hid hJ0
  have HY := Lib.hid hY
  have HN := Lib.hid hN
  have hll := hlen
  have KN := Lib.hid (fun (b : ByteArray) (hb : b.size ≤ 60000) W (h : GoodW l L ln g1 g2 #[.slice L ln lc, .slice A n c, .slice N m_ d] s W) => cnear_any l L A N ln lc n c m_ d b W h.1 h.2.1 (by unfold maxLen; omega) hb)
  have KF := Lib.hid (fun (b : ByteArray) W (h : GoodW l L ln g1 g2 #[.slice L ln lc, .slice A n c, .slice N m_ d] s W) => cfind_any l L A N ln lc n c m_ d b W h.2.1 (by unfold maxLen; omega))
  have KP := Lib.hid (fun (b : ByteArray) (hb : b.size ≤ 60000) W (h : GoodW l L ln g1 g2 #[.slice L ln lc, .slice A n c, .slice N m_ d] s W) => tparent2_any b W h.1 hb)
  have HSX := Lib.hid hs
  have HTX := Lib.hid hT
  have hW := hJ0 _ _ h0
  have p0 := hW.2.2.1.cell 0 _ rfl
  have p1 := hW.2.2.1.cell 1 _ rfl
  have p2 := hW.2.2.1.cell 2 _ rfl
  have p3 := hW.2.2.2.cell 0 _ rfl
  have KN0 := KN.out s hss W hW
  have hnl := near_lt hT s.data.toList
  generalize nearC (l.map locOf) s.data.toList = i0 at KN0 hnl hR
  have HKN := Lib.hid KN0
  have HHD := Lib.hid (show HeadP (l.map locOf) R (l.map locOf).length [] i0 from by rw [hR]; exact head_start hnl)
  have HJW := Lib.hid h0
  clear hJ hJ0 hY hN hs hT hW KN0 hR hnl h0 hlen
  refine callsIn_of_wp Tryz.func107 rfl trivial ?_ rfl
  simp only [Tryz.ntmps107, List.size_toArray, List.length_cons, List.length_nil, Nat.reduceAdd, Nat.reduceSub, Array.replicate_succ, Array.replicate_zero, List.push_toArray, List.append_toArray, List.nil_append, List.cons_append]
  gi_wp2_with (refine ⟨trivial, (fun h => by cases h), ?_⟩; refine (callsIn_wide.2 HKN.out).mono ?_; rintro e w2 ⟨rfl, hw2⟩; have HJ2 := Lib.hid (HJ.out _ _ _ HJW.out hw2); clear hw2)
  refine loop_ghost (WInv lp g1 g2 (l.map locOf) R J) (l.map locOf).length ?_ ?_
  · exact winv_mk (i0 : Int) [] rfl HJ2.out (.inl ⟨i0, rfl, HHD.out⟩)
  · clear HJ2 HJW HHD HKN p0 p1 p2 p3
    rintro gg a w ⟨u, i, o, rfl, hj, hcase⟩
    have HJW := Lib.hid hj
    clear hj
    rcases hcase with ⟨k, rfl, hhd⟩ | ⟨rfl, hr10, hol⟩
    rotate_left
    · obtain ⟨fn, tmps, assign, body, hy, hR⟩ := HN.out o w HJW.out hol
      have HR10 := Lib.hid hr10
      clear hr10
      unfold WFrame
      gi_wp2
      refine ⟨(fun h => by cases h), ?_⟩
      refine hR.mono ?_
      rintro e w3 ⟨rfl, hju⟩
      have HJU := Lib.hid hju
      clear hju
      gi_wp2
      go_end0
      exact ⟨⟨_, rfl⟩, .inr (.inr ⟨HR10.out, HJU.out⟩)⟩
    · obtain ⟨fn, tmps, assign, body, hy, hR⟩ := HY.out o k w HJW.out hhd.1 hhd.2.1
      have HHD := Lib.hid hhd
      clear hhd
      unfold WFrame
      gi_wp2
      refine ⟨(fun h => by cases h), ?_⟩
      refine hR.mono ?_
      rintro e w3 (⟨rfl, hnk, hj3⟩ | ⟨rfl, hk, hjc⟩)
      rotate_left
      · have HR15 := Lib.hid (HHD.out.2.2.2 hk)
        have HJC := Lib.hid hjc
        clear hk hjc
        gi_wp2
        go_end0
        exact ⟨⟨_, rfl⟩, .inr (.inl ⟨HR15.out, HJC.out⟩)⟩
      · have HNK := Lib.hid hnk
        have HJ3 := Lib.hid hj3
        have HW3 := Lib.hid (HJ0.out _ _ hj3)
        clear hnk hj3 hy hR
        by_cases hk0 : k = 0
        · have HR0 := Lib.hid (head_zero HHD.out HNK.out hk0)
          subst hk0
          gi_wp2
          go_end0
          exact ⟨⟨_, rfl⟩, .inl ⟨_, HR0.out, HJ3.out⟩⟩
        · have hkI : (0 : Int) < (k : Int) := by omega
          have hkln : k < ln := by have := HHD.out.1; rw [List.length_map] at this; omega
          have hkI2 : (k : Int) < (ln : Int) := by omega
          obtain ⟨x, hx⟩ : ∃ x, l[k]? = some x := ⟨_, List.getElem?_eq_getElem (by omega)⟩
          obtain ⟨b, ob, rfl, hb, hc⟩ := HW3.out.2.1.at_ hx
          have a0 := hc 0 _ rfl
          have a1 := hc 1 _ rfl
          have a2 := hc 2 _ rfl
          have a3 := hc 3 _ rfl
          have a4 := hc 4 _ rfl
          have a5 := hc 5 _ rfl
          have a6 := hc 6 _ rfl
          have a7 := hc 7 _ rfl
          have a8 := hc 8 _ rfl
          have a9 := hc 9 _ rfl
          have a10 := hc 10 _ rfl
          have a11 := hc 11 _ rfl
          have a12 := hc 12 _ rfl
          have a13 := hc 13 _ rfl
          have a14 := hc 14 _ rfl
          have a15 := hc 15 _ rfl
          rw [Nat.add_zero] at a0
          have hx60 := HSX.out x (List.mem_of_getElem? hx)
          have htx : tgC (l.map locOf) k = locOf x := tg_get (by rw [List.getElem?_map, hx]; rfl)
          have g0 := HW3.out.2.2.1.cell 0 _ rfl
          have HWA := Lib.hid (HW3.out.ext ((Ext.refl w3).alloc (.cells #[.string x.t, .string x.p, .string x.d, .slice (x.A 0) (x.n 0) (x.c 0), .slice (x.A 1) (x.n 1) (x.c 1), .string (x.s 0), .string (x.s 1), .string (x.s 2), .string (x.s 3), .int .i64 (x.i 0), .int .i64 (x.i 1), .slice (x.A 2) (x.n 2) (x.c 2), .slice (x.A 3) (x.n 3) (x.c 3), .slice (x.A 4) (x.n 4) (x.c 4), .slice (x.A 5) (x.n 5) (x.c 5), .slice (x.A 6) (x.n 6) (x.c 6)] 56)))
          have hat := (AtC.new w3 #[.string x.t, .string x.p, .string x.d, .slice (x.A 0) (x.n 0) (x.c 0), .slice (x.A 1) (x.n 1) (x.c 1), .string (x.s 0), .string (x.s 1), .string (x.s 2), .string (x.s 3), .int .i64 (x.i 0), .int .i64 (x.i 1), .slice (x.A 2) (x.n 2) (x.c 2), .slice (x.A 3) (x.n 3) (x.c 3), .slice (x.A 4) (x.n 4) (x.c 4), .slice (x.A 5) (x.n 5) (x.c 5), .slice (x.A 6) (x.n 6) (x.c 6)] : AtC 56 _ _ _)
          have q0 := hat.cell 0 _ rfl
          have q1 := hat.cell 1 _ rfl
          have r0 := HWA.out.2.2.1.cell 0 _ rfl
          have r1 := HWA.out.2.2.1.cell 1 _ rfl
          have r2 := HWA.out.2.2.1.cell 2 _ rfl
          have HAT := Lib.hid hat
          have HJA := Lib.hid (HJ.out _ _ _ HJ3.out ((Ext.refl w3).alloc (.cells #[.string x.t, .string x.p, .string x.d, .slice (x.A 0) (x.n 0) (x.c 0), .slice (x.A 1) (x.n 1) (x.c 1), .string (x.s 0), .string (x.s 1), .string (x.s 2), .string (x.s 3), .int .i64 (x.i 0), .int .i64 (x.i 1), .slice (x.A 2) (x.n 2) (x.c 2), .slice (x.A 3) (x.n 3) (x.c 3), .slice (x.A 4) (x.n 4) (x.c 4), .slice (x.A 5) (x.n 5) (x.c 5), .slice (x.A 6) (x.n 6) (x.c 6)] 56)))
          clear hc hx hat
          cases hp : (x.p.toList == [])
          · have hpe : x.p.data.toList ≠ [] := by rw [← ByteArray.toList_eq]; simpa using hp
            have hup : upC2 (l.map locOf) k = idxC (l.map locOf) x.p.data.toList := by unfold upC2; rw [htx, if_neg (show (locOf x).2 ≠ [] from hpe)]; rfl
            have hp2 : x.p.toList ≠ [] := by simpa using hp
            have hp3 : (!x.p.toList.isEmpty) = true := by simpa using hp2
            have hp4 : x.p.toList.isEmpty = false := by simpa using hp2
            have K1 := KF.out x.p _ HWA.out
            cases hi2 : idxC (l.map locOf) x.p.data.toList with
            | none =>
              have HR := Lib.hid (head_none HHD.out HNK.out hk0 (hup.trans hi2))
              have HLN3 := Lib.hid (go_len (HHD.out.2.2.1 HNK.out).1)
              rw [idxI_none hi2] at K1
              have HK := Lib.hid K1
              clear K1 hup hi2 htx hpe
              gi_wp2_with (refine ⟨trivial, (fun h => by cases h), ?_⟩; refine (callsIn_wide.2 HK.out).mono ?_; rintro e w5 ⟨rfl, hw5⟩; have HJ5 := Lib.hid (HJ.out _ _ _ HJA.out hw5); clear hw5)
              exact ⟨gg - 1, by have := HR.out.2; omega, winv_mk (-1) (o ++ [k]) rfl HJ5.out (.inr ⟨rfl, HR.out.1, HLN3.out⟩)⟩
            | some k2 =>
              have HR := Lib.hid (head_next HHD.out HTX.out HNK.out hk0 (hup.trans hi2))
              rw [idxI_some hi2] at K1
              have HK := Lib.hid K1
              clear K1 hup hi2 htx hpe
              gi_wp2_with (refine ⟨trivial, (fun h => by cases h), ?_⟩; refine (callsIn_wide.2 HK.out).mono ?_; rintro e w5 ⟨rfl, hw5⟩; have HJ5 := Lib.hid (HJ.out _ _ _ HJA.out hw5); clear hw5)
              obtain ⟨g', hg', hh⟩ := HR.out
              exact ⟨g', hg', winv_mk (k2 : Int) (o ++ [k]) rfl HJ5.out (.inl ⟨k2, rfl, hh⟩)⟩
          · have hpe : x.p.data.toList = [] := by rw [← ByteArray.toList_eq]; simpa using hp
            have hup : upC2 (l.map locOf) k = some (nearC (l.map locOf) (parentP x.t.data.toList).1) := by unfold upC2; rw [htx, if_pos (show (locOf x).2 = [] from hpe)]; rfl
            have hp2 : x.p.toList = [] := by simpa using hp
            have hp4 : x.p.toList.isEmpty = true := by simpa using hp2
            have hp3 : (!x.p.toList.isEmpty) = false := by rw [hp4]; rfl
            have HR := Lib.hid (head_next HHD.out HTX.out HNK.out hk0 hup)
            have K1 := KP.out x.t hx60 _ HWA.out
            obtain ⟨pb, hpb, hpb2⟩ := strv_b (parentP x.t.data.toList).1
            rw [hpb] at K1
            have hp60 : pb.size ≤ 60000 := by
              have h1 := parent_size x.t.data.toList
              rw [← hpb2] at h1
              have h2 : pb.data.toList.length = pb.size := by simp
              omega
            rw [← hpb2] at HR
            have KN2 := KN.out pb hp60
            generalize (parentP x.t.data.toList).2 = pe at K1
            generalize nearC (l.map locOf) pb.data.toList = q at KN2 HR
            have HKP := Lib.hid K1
            have HKN := Lib.hid KN2
            clear K1 KN2 hup htx hpe hpb hpb2 hp60
            gi_wp2_with (refine ⟨trivial, (fun h => by cases h), ?_⟩; refine (callsIn_wide.2 HKP.out).mono ?_; clear HKP; rintro e w5 ⟨rfl, hw5⟩; have HJ5 := Lib.hid (HJ.out _ _ _ HJA.out hw5); have HW5 := Lib.hid (HWA.out.ext hw5); clear hw5 r0 r1 r2; have r0 := HW5.out.2.2.1.cell 0 _ rfl; have r1 := HW5.out.2.2.1.cell 1 _ rfl; have r2 := HW5.out.2.2.1.cell 2 _ rfl)
            gi_wp2_with (refine ⟨trivial, (fun h => by cases h), ?_⟩; refine (callsIn_wide.2 (HKN.out _ HW5.out)).mono ?_; rintro e w6 ⟨rfl, hw6⟩; have HJ6 := Lib.hid (HJ.out _ _ _ HJ5.out hw6); clear hw6)
            obtain ⟨g', hg', hh⟩ := HR.out
            exact ⟨g', hg', winv_mk (q : Int) (o ++ [k]) rfl HJ6.out (.inl ⟨q, rfl, hh⟩)⟩
end Go.Proofs.YtehcldnicefmeaaGreatDoor
