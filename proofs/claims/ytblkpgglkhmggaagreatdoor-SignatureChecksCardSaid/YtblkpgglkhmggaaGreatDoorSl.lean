import Derived.Test.YtblkpgglkhmggaaGreatDoorIter
import Derived.Test.YtblkpgglkhmggaaGreatDoorSk
import Derived.Test.YtblkpgglkhmggaaGreatDoorSc
import Derived.Test.YtblkpgglkhmggaaGreatDoorAppN
namespace Go.Proofs.YtblkpgglkhmggaaGreatDoor
open Go.RowKit Go.Maps Go.Sort Go.Shelf
set_option linter.unusedSimpArgs false
set_option linter.unusedVariables false

/-! The arguments of a table, by name. -/
theorem keysI_any (mb : Nat) (W : World) : Calls Tryz.prog 63 #[.map (some mb)] W fun e w' =>
    e = .returned (.func (.func 79) #[] #[.pointer (some ⟨W.heap.size, 0, none⟩)]) ∧ W.alloc (.cells #[.map (some mb)] 61) = w' :=
  (callsIn_wide.1 (Tryz.maps_Keys_63 (some mb) W)).mono fun _ _ ⟨h1, h2⟩ => ⟨h1, h2.symm⟩
def SortedOf (W : World) (o : List ArgP) (e : Ending) (w' : World) : Prop :=
  ∃ (A : Option Addr) (c : Nat), e = .returned (.slice A o.length c) ∧ Sl w' A o.length ((o.map (·.1)).map strv) ∧ Ext W w'
theorem sortedI_any (w : World) (b n : Nat) (m o : List ArgP) (h : MapI Tryz.prog 9 3 w b n m) (hn : n ≤ 1048576) (ha : o.Pairwise fun x y => x.1 < y.1) (hg : ∀ x, getA m x = getA o x) :
    Calls Tryz.prog 62 #[.func (.func 79) #[] #[.pointer (some ⟨w.heap.size, 0, none⟩)]] (w.alloc (.cells #[.map (some b)] 61))
      (SortedOf (w.alloc (.cells #[.map (some b)] 61)) o) := by
  obtain ⟨D, hown, hsz, hnd, hlen, hmem⟩ := h.keys Tryz.underlying9
  refine (callsIn_wide.1 (Tryz.slices_Sorted_keys_62_63 b n D _ w hown (by unfold maxLen; omega) (by omega))).mono ?_
  rintro e w' ⟨v, ss, rfl, hp, hrow, _, hb⟩
  have hrow2 : w'.ownsRow (w.alloc (.cells #[.map (some b)] 61)).heap.size 9 1 v ss.length ((sortS ss).map strv) := hrow
  have hnd2 : ss.Nodup := hp.nodup_iff.2 hnd
  have hm2 : ∀ x, x ∈ ss ↔ (getA o x).isSome = true := fun x => by rw [hp.mem_iff, hmem, hg]
  rw [names_sort ha hnd2 hm2, names_len ha hnd2 hm2] at hrow2
  obtain ⟨A, c, rfl, hs, hc⟩ := own_sl hrow2
  exact ⟨A, c, rfl, hs, hb⟩
def agP (x : ArgP) : Ag := ⟨⟨x.1.toArray⟩, x.2⟩
theorem agP_of (x : ArgP) : agOf (agP x) = x := by unfold agP agOf; simp
theorem agP_list (o : List ArgP) : (o.map agP).map agOf = o := by
  rw [List.map_map]
  conv => rhs; rw [← List.map_id o]
  refine List.map_congr_left fun x _ => agP_of x
def ArI (w2 : World) (o : List ArgP) (n : Nat) (out i : Value) (wr : World) : Prop := ∃ k : Nat, k ≤ n ∧ i = .int .i64 k ∧ wr.ownsRow w2.heap.size 58 2 out k (((o.take k).map agP).flatMap agC) ∧ Ext w2 wr
set_option maxHeartbeats 2000000 in
set_option maxRecDepth 100000 in
theorem targs_any (g mb n : Nat) (T : TabP) (o : List ArgP) (w : World) (h : TabW w g mb n T) (hT : TabO T o) (hn : n ≤ 100000) (ho : o.length ≤ 100000) (hz : ∀ x ∈ o, x.1.length ≤ maxLen) :
    Calls Tryz.prog 38 #[.pointer (some ⟨g, 0, none⟩)] w fun e w' => ∃ A c, e = .returned (.slice A o.length c) ∧ Ags w' A o.length (o.map agP) ∧ Ext w w' := by
  obtain ⟨i0, hi, hz0, hz1, hz2⟩ := info_parts (show (Tryz.prog.info? 58).map (fun i => (i.zero, i.size, i.bytes)) = some (some (.agg #[.string ⟨#[]⟩, .int .i64 0]), 2, 24) from by kernel_rfl)
  have h0 := h.at_.cell 0 _ rfl
  have HT := Lib.hid h
  have HO := Lib.hid hT
  have HZ := Lib.hid hz
  have K1 := Lib.hid (keysI_any mb w)
  have K2 := Lib.hid (sortedI_any w mb n T.m o h.map (by omega) hT.1 hT.2.1)
  obtain ⟨N, hN⟩ : ∃ N, N = o.length := ⟨_, rfl⟩
  have HN := Lib.hid hN
  have hN2 : N ≤ 100000 := by omega
  rw [← hN]
  clear h hT hz hN ho
  go_enter Tryz.func38, Tryz.ntmps38
  go_wp2_with fail
  refine K1.out.mono ?_
  rintro e1 w1 ⟨rfl, hw1⟩
  subst hw1
  go_wp2_with fail
  refine K2.out.mono ?_
  rintro e2 w2 ⟨A2, c2, rfl, hs2, hw2⟩
  rw [← HN.out] at hs2 ⊢
  have HS2 := Lib.hid hs2
  have HW2 := Lib.hid (((Ext.refl w).alloc (.cells #[.map (some mb)] 61)).trans hw2)
  clear hw2 hs2 h0
  go_wp2_with fail
  go_loopw [3, 13] (ArI w2 o N) (fun _ i _ => N - (intOf i).toNat)
  case atStart => exact ⟨0, Nat.zero_le _, rfl, World.ownsRow_nil _ _ _ _, Ext.refl _⟩
  case round =>
    obtain ⟨k, hk, rfl, how, hw⟩ := hrel
    have HOW := Lib.hid how
    have HW := Lib.hid hw
    clear how hw
    by_cases hkn : k < N
    · obtain ⟨x, hx⟩ : ∃ x, o[k]? = some x := ⟨_, List.getElem?_eq_getElem (by have := HN.out; omega)⟩
      obtain ⟨ad, u, rfl, hu, hcx⟩ := (HS2.out.ext HW.out).at_map hkn
      have hux : u = x.1 := by rw [List.getElem?_map, hx] at hu; injection hu with hu; exact hu.symm
      subst hux
      have hcx2 : wr.cell? (ad.add k) = some (.string (agP x).n) := hcx
      have hxz : (agP x).n.size ≤ maxLen := HZ.out x (List.mem_of_getElem? hx)
      have hkI : (k : Int) < (N : Int) := by omega
      have HX := Lib.hid hx
      have HAT := Lib.hid (HT.out.at_.ext (HW2.out.trans HW.out))
      have HMP := Lib.hid (HT.out.map.ext (HW2.out.trans HW.out))
      have h0 := HAT.out.cell 0 _ rfl
      have hzz : (zeroValue 3).run Tryz.prog wr = .ok (.int .i64 0) wr := by kernel_rfl
      have HGE := Lib.hid (show (getA T.m (agP x).n.data.toList).getD 0 = (agP x).t from by
        have e : (agP x).n.data.toList = x.1 := by unfold agP; simp
        rw [e, HO.out.2.1, mem_get HO.out.1 (List.mem_of_getElem? hx)]; rfl)
      have hone : ∀ u ∈ agC (agP x), u.oneCell' = true := by intro u hu; unfold agC at hu; simp at hu; rcases hu with rfl | rfl <;> rfl
      have HONE := Lib.hid hone
      have HNC := Lib.hid (new_cells wr #[.string (agP x).n, .int .i64 (agP x).t] 58)
      have HOX := Lib.hid (own_ext HOW.out ((Ext.refl wr).alloc (.cells #[.string (agP x).n, .int .i64 (agP x).t] 58)))
      clear hcx hx hone hu
      generalize hy : agP x = y at *
      have HY := Lib.hid hy
      clear hy
      go_wp2_with (first
        | (at_lookup; refine wpList_lookupI rfl _ _ 61 9 3 rfl Tryz.underlying9 Tryz.underlying3 Tryz.underlying61 hzz mb n T.m rfl HMP.out y.n rfl hxz ?_; rw [HGE.out])
        | (at_builtin; refine wpList_appN _ rfl _ _ 25 rfl w2.heap.size 58 i0 _ 2 24 Tryz.underlying25 hi hz0 hz1 hz2 rfl (by decide) _ k _ rfl HOX.out ⟨wr.heap.size, 0, none⟩ 1 1 _ rfl rfl HNC.out HONE.out (by unfold maxLen; omega) (by omega) (HW.out.alloc _).size ?_; intro v' w3 hown' hgrow hwhere; have HO' := Lib.hid hown'; have HG' := Lib.hid hgrow; clear hown' hgrow hwhere))
      refine ⟨⟨k + 1, by omega, by go_num, ?_, ext_grown (a := w2) (B := w2.heap.size) (HW.out.alloc _) HOX.out (Nat.le_refl _) HG'.out⟩, by simp [intOf]; omega⟩
      rw [take_next HX.out, List.map_append, List.flatMap_append]
      have h := HO'.out
      rw [List.map_singleton, HY.out]
      have e1 : [y].flatMap agC = agC y := by simp
      rw [e1]
      exact h
    · have hkk : k = N := by omega
      subst hkk
      obtain ⟨A5, c5, hv5, hs5⟩ := own_slN HOW.out
      subst hv5
      have HS5 := Lib.hid hs5
      clear hs5
      go_wp2
      go_ret
      refine ⟨A5, c5, rfl, ?_, HW2.out.trans HW.out⟩
      have h := HS5.out
      rw [List.take_of_length_le (by rw [← HN.out]; exact Nat.le_refl _)] at h
      exact h
end Go.Proofs.YtblkpgglkhmggaaGreatDoor
