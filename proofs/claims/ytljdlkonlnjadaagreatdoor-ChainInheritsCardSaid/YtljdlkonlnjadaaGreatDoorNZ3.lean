import Derived.Test.YtljdlkonlnjadaaGreatDoorNXC
import Derived.Test.YtljdlkonlnjadaaGreatDoorNZ2
import Derived.Test.YtljdlkonlnjadaaGreatDoorNXG
import Derived.Test.YtljdlkonlnjadaaGreatDoorNX2
import Derived.Test.YtljdlkonlnjadaaGreatDoorNXM
import Derived.Test.YtljdlkonlnjadaaGreatDoorNX4
set_option maxRecDepth 100000
set_option linter.unusedSimpArgs false
set_option linter.unusedVariables false
open Go.Lib (hid)
namespace Go.Proofs.YtljdlkonlnjadaaGreatDoor
open Go.RowKit
set_option maxHeartbeats 1000000 in
theorem rindex_any (l : List Lc) (L A N : Option Addr) (ln lc n c m d : Nat) (s : ByteArray) (w : World) (hL : Lcs w L ln l) (hln : ln ≤ maxLen) :
 Calls Tryz.prog 53 #[.agg #[.slice L ln lc, .slice A n c, .slice N m d], .string s] w fun e w' => e = .returned (.int .i64 (idxI (l.map locOf) s.data.toList)) ∧ Ext w w' := by
 unfold maxLen at hln
 have KB := hid (AtC.new w #[.slice L ln lc, .slice A n c, .slice N m d] : AtC 26 _ _ _)
 have HW0 := hid ((Ext.refl w).alloc (.cells #[.slice L ln lc, .slice A n c, .slice N m d] 26))
 have HL := hid hL
 have HLN := hid hL.len
 clear hL
 go_enter Tryz.func53, Tryz.ntmps53
 go_wp2_with fail
 go_loopw [5] (CIdx (w.alloc (.cells #[.slice L ln lc, .slice A n c, .slice N m d] 26)) l s.data.toList ln) (fun i _ => ln - (intOf i).toNat)
 case atStart => exact ⟨0, Nat.zero_le _, rfl, noTag_zero _ _, Ext.refl _⟩
 case round =>
  obtain ⟨k, hk, rfl, hpre, hw⟩ := hrel
  have HP := hid hpre
  have HW := hid (HW0.out.trans hw)
  have HX0 := hid hw
  have g0 := (KB.out.ext hw).cell 0 _ rfl
  clear hpre hw
  by_cases hkn : k < ln
  ·obtain ⟨x, hx⟩ : ∃ x, l[k]? = some x := ⟨_, List.getElem?_eq_getElem (by have := HLN.out; omega)⟩
   obtain ⟨b, o, rfl, hb, hc⟩ := (HL.out.ext HW.out).at_ hx
   have a0 := hc 0 _ rfl
   rw [Nat.add_zero] at a0
   have hkI : (k : Int) < (ln : Int) := by omega
   have HX := hid hx
   clear hx hc
   cases hq : (x.t.toList == s.toList)
   ·have HQ := hid (noTag_next HP.out HX.out (by rw [← eq_b]; exact hq))
    go_wp2
    exact ⟨⟨k + 1, by omega, by go_num, HQ.out, HX0.out⟩, by simp [intOf]; omega⟩
   ·have HQ := hid (idxI_some (noTag_found HP.out HX.out (by rw [← eq_b]; exact hq)))
    go_wp2
    all_goals go_ret
    all_goals exact ⟨by rw [HQ.out]; first | done | rfl, HW.out⟩
  ·have hkk : k = ln := by omega
   subst hkk
   have HQ := hid (idxI_none (noTag_end (by rw [HLN.out]; exact HP.out)))
   go_wp2
   go_ret
   exact ⟨by rw [HQ.out]; first | done | rfl, HW.out⟩
set_option maxHeartbeats 1000000 in
theorem rnear_any (l : List Lc) (L A N : Option Addr) (ln lc n c m d : Nat) (s : ByteArray) (w : World) (hL : Lcs w L ln l) (hln : ln ≤ maxLen) (hs : s.size ≤ 60000) :
 Calls Tryz.prog 50 #[.agg #[.slice L ln lc, .slice A n c, .slice N m d], .string s] w fun e w' => e = .returned (.int .i64 (nearC (l.map locOf) s.data.toList)) ∧ Ext w w' := by
 have KB := hid (AtC.new w #[.slice L ln lc, .slice A n c, .slice N m d] : AtC 26 _ _ _)
 have HW0 := hid ((Ext.refl w).alloc (.cells #[.slice L ln lc, .slice A n c, .slice N m d] 26))
 have h0 := KB.out.cell 0 _ rfl
 have h1 := KB.out.cell 1 _ rfl
 have h2 := KB.out.cell 2 _ rfl
 have KF := hid (fun (b : ByteArray) W (h : Ext w W) => rindex_any l L A N ln lc n c m d b W (hL.ext h) hln)
 have KA := hid (fun W (h : Ext w W) => ranc_any s W hs)
 have hal := anc_len s.data.toList
 clear hL
 cases hi : idxC (l.map locOf) s.data.toList with
 | some i =>
   have K1 := KF.out s _ HW0.out
   rw [idxI_some hi] at K1
   have HK := hid K1
   have HR := hid (near_idx hi)
   clear K1 hi
   go_enter Tryz.func50, Tryz.ntmps50
   go_wp2_with fail
   refine HK.out.mono ?_
   rintro e w2 ⟨rfl, hw2⟩
   have HW2 := hid (HW0.out.trans hw2)
   clear hw2
   go_wp2
   all_goals go_ret
   all_goals exact ⟨by rw [HR.out]; first | done | rfl, HW2.out⟩
 | none =>
   have K1 := KF.out s _ HW0.out
   rw [idxI_none hi] at K1
   have HK := hid K1
   have HI := hid hi
   clear K1 hi
   go_enter Tryz.func50, Tryz.ntmps50
   go_wp2_with fail
   refine HK.out.mono ?_
   rintro e w2 ⟨rfl, hw2⟩
   have HW2 := hid (HW0.out.trans hw2)
   have KB2 := hid (KB.out.ext hw2)
   clear hw2
   go_wp2_with fail
   refine (KA.out _ HW2.out).mono ?_
   rintro e w3 ⟨A2, n2, c2, rfl, hsl, hc2, hw3⟩
   have HW3 := hid (HW2.out.trans hw3)
   have KB3 := hid (KB2.out.ext hw3)
   have hn2 : n2 ≤ 7 := by have h := hsl.1; rw [List.length_map] at h; omega
   have HN2 := hid (show (ancL s.data.toList).1.length = n2 from by have h := hsl.1; rw [List.length_map] at h; exact h)
   have HSL := hid hsl
   clear hw3 hsl hal
   go_wp2_with fail
   go_loopw [8] (CNear w3 (l.map locOf) s.data.toList n2) (fun i _ => n2 - (intOf i).toNat)
   case atStart => exact ⟨0, Nat.zero_le _, rfl, noAnc_zero _ _, Ext.refl _⟩
   case round =>
    obtain ⟨k, hk, rfl, hpre, hw⟩ := hrel
    have HP := hid hpre
    have HW := hid hw
    clear hpre hw
    by_cases hkn : k < n2
    ·obtain ⟨ad, x, rfl, hx, hcx⟩ := (HSL.out.ext HW.out).at_map hkn
     obtain ⟨xb, hx1, rfl⟩ := strv_b x
     rw [hx1] at hcx
     have g0 := fun v : ExtW wr => ((KB3.out.ext HW.out).ext v.h).cell 0 _ rfl
     have g1 := fun v : ExtW wr => ((KB3.out.ext HW.out).ext v.h).cell 1 _ rfl
     have g2 := fun v : ExtW wr => ((KB3.out.ext HW.out).ext v.h).cell 2 _ rfl
     have g3 : ∀ v : ExtW wr, v.v.cell? (ad.add k) = some (.string xb) := fun v => (Ext.cell v.h (World.block_lt_of_cell? wr _ hcx)).trans hcx
     have hkI : (k : Int) < (n2 : Int) := by omega
     have K1 := fun v : ExtW wr => KF.out xb v.v (HW3.out.trans (HW.out.trans v.h))
     have HX := hid hx
     clear hx hx1 hcx
     cases hi : idxC (l.map locOf) xb.data.toList with
     | none =>
       rw [idxI_none hi] at K1
       have HK1 := hid K1
       have HQ := hid (noAnc_next HP.out HX.out hi)
       clear K1 hi
       go_wp2_with fail
       refine wp_region_ext (by kernel_rfl) (by kernel_rfl) ?_
       repeat (go_big_quiet_step ((go_at_call 53; with_reducible exact ExtW.call (HK1.out _))))
       refine wpQuiet_nil ?_
       intro w4 hw4
       have HW4 := hid (HW.out.trans (ext_of hw4))
       clear hw4 g0 g1 g2 g3
       go_wp2
       exact ⟨⟨k + 1, by omega, by go_num, HQ.out, HW4.out⟩, by simp [intOf]; omega⟩
     | some i =>
       rw [idxI_some hi] at K1
       have HK1 := hid K1
       have HQ := hid (near_found HI.out HP.out HX.out hi)
       clear K1 hi
       go_wp2_with fail
       refine wp_region_ext (by kernel_rfl) (by kernel_rfl) ?_
       repeat (go_big_quiet_step ((go_at_call 53; with_reducible exact ExtW.call (HK1.out _))))
       refine wpQuiet_nil ?_
       intro w4 hw4
       have HW4 := hid (HW.out.trans (ext_of hw4))
       clear hw4 g0 g1 g2 g3
       go_wp2
       all_goals go_ret
       all_goals exact ⟨by rw [HQ.out]; first | done | rfl, HW3.out.trans HW4.out⟩
    ·have hkk : k = n2 := by omega
     subst hkk
     have HQ := hid (near_none HI.out (by rw [HN2.out]; exact HP.out))
     go_wp2
     go_ret
     exact ⟨by rw [HQ.out]; first | done | rfl, HW3.out.trans HW.out⟩
def upR2 (T : List LocP) (i : Nat) : Int × Int := match upC2 T i with
 | some k => ((k : Int), 0)
 | none => (0, 10)
set_option maxHeartbeats 1000000 in
theorem rpar22_any (l : List Lc) (L A N : Option Addr) (ln lc n c m d : Nat) (i : Nat) (w : World) (hL : Lcs w L ln l) (hln : ln ≤ maxLen) (hi : i < ln) (hs : ∀ x ∈ l, x.t.size ≤ 60000) :
 Calls Tryz.prog 51 #[.agg #[.slice L ln lc, .slice A n c, .slice N m d], .int .i64 i] w fun e w' => e = .returned (.tuple #[.int .i64 (upR2 (l.map locOf) i).1, .int .i64 (upR2 (l.map locOf) i).2]) ∧ Ext w w' := by
 unfold maxLen at hln
 have KB := hid (AtC.new w #[.slice L ln lc, .slice A n c, .slice N m d] : AtC 26 _ _ _)
 have HW0 := hid ((Ext.refl w).alloc (.cells #[.slice L ln lc, .slice A n c, .slice N m d] 26))
 have h0 := KB.out.cell 0 _ rfl
 have h1 := KB.out.cell 1 _ rfl
 have h2 := KB.out.cell 2 _ rfl
 have KF := hid (fun (b : ByteArray) W (h : Ext w W) => rindex_any l L A N ln lc n c m d b W (hL.ext h) (by unfold maxLen; exact hln))
 have KN := hid (fun (b : ByteArray) (hb : b.size ≤ 60000) W (h : Ext w W) => rnear_any l L A N ln lc n c m d b W (hL.ext h) (by unfold maxLen; exact hln) hb)
 obtain ⟨x, hx⟩ : ∃ x, l[i]? = some x := ⟨_, List.getElem?_eq_getElem (by have := hL.len; omega)⟩
 have hiI : (i : Int) < (ln : Int) := by omega
 obtain ⟨b, o, rfl, hb, hc⟩ := (hL.ext HW0.out).at_ hx
 have a0 := hc 0 _ rfl
 have a1 := hc 1 _ rfl
 rw [Nat.add_zero] at a0
 have HCC := hid (show ∀ W, Ext (w.alloc (.cells #[.slice (some ⟨b, o, none⟩) ln lc, .slice A n c, .slice N m d] 26)) W → W.cell? ⟨b, o + i * 16, none⟩ = some (.string x.t) from fun W h => (Ext.cell h (p := ⟨b, o + i * 16, none⟩) hb).trans a0)
 have htx : tgC (l.map locOf) i = locOf x := tg_get (by rw [List.getElem?_map, hx]; rfl)
 have hx60 := hs x (List.mem_of_getElem? hx)
 clear hc hL hs hx
 cases hp : (x.p.toList == [])
 ·have hpe : x.p.data.toList ≠ [] := by rw [← ByteArray.toList_eq]; simpa using hp
  have hup : upC2 (l.map locOf) i = idxC (l.map locOf) x.p.data.toList := by unfold upC2; rw [htx, if_neg (show (locOf x).2 ≠ [] from hpe)]; rfl
  have hp2 : x.p.toList ≠ [] := by simpa using hp
  have hp3 : (!x.p.toList.isEmpty) = true := by simpa using hp2
  have hp4 : x.p.toList.isEmpty = false := by simpa using hp2
  have K1 := KF.out x.p _ HW0.out
  cases hi2 : idxC (l.map locOf) x.p.data.toList with
  | none =>
    have HR := hid (show upR2 (l.map locOf) i = (0, 10) from by unfold upR2; rw [hup, hi2])
    rw [idxI_none hi2] at K1
    have HK := hid K1
    clear K1 hup hi2 htx hpe
    go_enter Tryz.func51, Tryz.ntmps51
    go_wp2_with fail
    refine HK.out.mono ?_
    rintro e w2 ⟨rfl, hw2⟩
    have HW2 := hid (HW0.out.trans hw2)
    clear hw2
    go_wp2
    all_goals go_ret2
    all_goals exact ⟨by rw [HR.out]; first | done | rfl, HW2.out⟩
  | some k =>
    have HR := hid (show upR2 (l.map locOf) i = ((k : Int), 0) from by unfold upR2; rw [hup, hi2])
    rw [idxI_some hi2] at K1
    have HK := hid K1
    clear K1 hup hi2 htx hpe
    go_enter Tryz.func51, Tryz.ntmps51
    go_wp2_with fail
    refine HK.out.mono ?_
    rintro e w2 ⟨rfl, hw2⟩
    have HW2 := hid (HW0.out.trans hw2)
    clear hw2
    go_wp2
    all_goals go_ret2
    all_goals exact ⟨by rw [HR.out]; first | done | rfl, HW2.out⟩
 ·have hpe : x.p.data.toList = [] := by rw [← ByteArray.toList_eq]; simpa using hp
  have hup : upC2 (l.map locOf) i = some (nearC (l.map locOf) (parentP x.t.data.toList).1) := by unfold upC2; rw [htx, if_pos (show (locOf x).2 = [] from hpe)]; rfl
  have hp2 : x.p.toList = [] := by simpa using hp
  have hp4 : x.p.toList.isEmpty = true := by simpa using hp2
  have hp3 : (!x.p.toList.isEmpty) = false := by rw [hp4]; rfl
  have HR := hid (show upR2 (l.map locOf) i = ((nearC (l.map locOf) (parentP x.t.data.toList).1 : Int), 0) from by unfold upR2; rw [hup])
  have KP := fun W => rparent2_any x.t W hx60
  obtain ⟨pb, hpb, hpb2⟩ := strv_b (parentP x.t.data.toList).1
  rw [hpb] at KP
  have hp60 : pb.size ≤ 60000 := by
   have h1 : (parentP x.t.data.toList).1.length ≤ 60 := by
    unfold parentP
    split
    ·simp
    ·split
     ·simp
     ·rename_i u hu
      have hv := parse_ok (s := x.t.data.toList) (by rename_i h _; simpa using h)
      exact textP_len (up_valid hv hu).1
   rw [← hpb2] at h1
   have h2 : pb.data.toList.length = pb.size := by simp
   omega
  rw [← hpb2] at HR
  have KN2 := KN.out pb hp60
  generalize (parentP x.t.data.toList).2 = pe at KP
  generalize nearC (l.map locOf) pb.data.toList = q at KN2 HR
  have HKP := hid KP
  have HKN := hid KN2
  clear KP KN2 hup htx hpe hpb hpb2 hp60
  go_enter Tryz.func51, Tryz.ntmps51
  go_wp2_with fail
  refine (HKP.out _).mono ?_
  rintro e w2 ⟨rfl, hw2⟩
  have HW2 := hid (HW0.out.trans hw2)
  have g0 := (KB.out.ext hw2).cell 0 _ rfl
  have g1 := (KB.out.ext hw2).cell 1 _ rfl
  have g2 := (KB.out.ext hw2).cell 2 _ rfl
  clear hw2
  go_wp2_with fail
  refine (HKN.out _ HW2.out).mono ?_
  rintro e w3 ⟨rfl, hw3⟩
  have HW3 := hid (HW2.out.trans hw3)
  clear hw3
  go_wp2
  go_ret2
  exact ⟨by rw [HR.out]; first | done | rfl, HW3.out⟩
end Go.Proofs.YtljdlkonlnjadaaGreatDoor
namespace Go.Proofs.YtljdlkonlnjadaaGreatDoor
open Go.RowKit
theorem idx_le {T : List LocP} {k : Nat} {x : LocP} (hx : T[k]? = some x) : ∃ j, idxC T x.1 = some j ∧ j ≤ k := by
 have hk := (List.getElem?_eq_some_iff.1 hx).1
 cases h : idxC T x.1 with
 | none => exact absurd rfl (idx_none h x (List.mem_of_getElem? hx))
 | some j =>
   refine ⟨j, rfl, ?_⟩
   unfold idxC at h
   rw [List.findIdx?_eq_some_iff_getElem] at h
   obtain ⟨hj, _, h2⟩ := h
   refine Nat.le_of_not_lt fun hlt => ?_
   have := h2 k hlt
   rw [(List.getElem?_eq_some_iff.1 hx).2] at this
   simp at this
theorem idx_fresh {T : List LocP} {k : Nat} {s : BytesC} (h : idxC T s = some k) : decide (s ∈ (T.take k).map (·.1)) = false := by
 rw [decide_eq_false_iff_not]
 intro hm
 unfold idxC at h
 rw [List.findIdx?_eq_some_iff_getElem] at h
 obtain ⟨hk, _, h2⟩ := h
 obtain ⟨y, hy, he⟩ := List.mem_map.1 hm
 obtain ⟨j, hj⟩ := List.getElem?_of_mem hy
 rw [List.getElem?_take] at hj
 split at hj
 ·next hjk =>
  have := h2 j hjk
  rw [(List.getElem?_eq_some_iff.1 hj).2, he] at this
  simp at this
 ·cases hj
theorem idx_seen {T : List LocP} {k j : Nat} {s : BytesC} (h : idxC T s = some j) (hj : j < k) : decide (s ∈ (T.take k).map (·.1)) = true := by
 rw [decide_eq_true_iff]
 obtain ⟨hjl, he⟩ := idx_some h
 rw [tg_get (List.getElem?_eq_getElem hjl)] at he
 refine List.mem_map.2 ⟨T[j], ?_, he⟩
 have : (T.take k)[j]? = some T[j] := by rw [List.getElem?_take, if_pos hj]; exact List.getElem?_eq_getElem hjl
 exact List.mem_of_getElem? this
def CUseR (W1 : World) (T : List LocP) (m : Nat) (i : Value) (wr : World) : Prop :=
 ∃ k : Nat, k ≤ m ∧ i = .int .i64 k ∧ (T.take k).all (fun x => isP x.1) = true ∧ ((T.take k).map (·.1)).Nodup ∧ Ext W1 wr
set_option maxHeartbeats 4000000 in
theorem rusable_any (l : List Lc) (al : List Ali) (L A N : Option Addr) (ln lc n c m d : Nat) (w : World) (hL : Lcs w L ln l) (hln : ln ≤ 100000) (hA : Als w A n al) (hn : n ≤ 100000) (hz : ∀ a ∈ al, a.1.size ≤ 60000 ∧ a.2.size ≤ 60000) (hs : ∀ x ∈ l, x.t.size ≤ 60000) :
 Calls Tryz.prog 13 #[.agg #[.slice L ln lc, .slice A n c, .slice N m d]] w fun e w' => e = .returned (.bool (usableC (l.map locOf) al)) ∧ Ext w w' := by
 obtain ⟨W1, hW1⟩ : ∃ W1, W1 = w.alloc (.cells #[.slice L ln lc, .slice A n c, .slice N m d] 26) := ⟨_, rfl⟩
 have KB := hid (show AtC 26 W1 w.heap.size #[.slice L ln lc, .slice A n c, .slice N m d] from by rw [hW1]; exact AtC.new _ _)
 have HW0 := hid (show Ext w W1 from by rw [hW1]; exact (Ext.refl w).alloc _)
 have h0 := KB.out.cell 0 _ rfl
 have KI := hid (fun (b : ByteArray) W (h : Ext w W) => rindex_any l L A N ln lc n c m d b W (hL.ext h) (by unfold maxLen; omega))
 have KT := hid (fun (b : ByteArray) (hb : b.size ≤ 60000) W => ris_any b W (by omega))
 have HL := hid hL
 have HLN := hid hL.len
 have HA := hid hA
 have HAN := hid hA.len
 have HS := hid hs
 have HZ := hid hz
 clear hL hA hz hs
 obtain ⟨R, hR⟩ : ∃ R, R = usableC (l.map locOf) al := ⟨_, rfl⟩
 rw [← hR]
 have HR := hid hR
 clear hR
 rcases Nat.eq_zero_or_pos ln with hz0 | hp0
 ·subst hz0
  have HF := hid (show R = false from by
   rw [HR.out]
   have : l = [] := List.length_eq_zero_iff.1 HLN.out
   rw [this]; rfl)
  go_enter Tryz.func13, Tryz.ntmps13
  rw [hW1] at h0
  go_wp2
  go_ret
  exact ⟨by rw [HF.out]; first | done | rfl, (Ext.refl w).alloc _⟩
 obtain ⟨x0, hx0⟩ : ∃ x0, l[0]? = some x0 := ⟨_, List.getElem?_eq_getElem (by have := HLN.out; omega)⟩
 obtain ⟨b0, o0, hL0, hb0, hc0⟩ := (HL.out.ext HW0.out).at_ hx0
 have e0 := hc0 0 _ rfl
 simp only [Nat.zero_mul, Nat.add_zero] at e0
 have hln0 : ((ln : Int) == 0) = false := by simp; omega
 have hpI : (0 : Int) < (ln : Int) := by omega
 have HX0 := hid hx0
 clear hc0 hx0
 subst hL0
 cases hq : (x0.t.toList == [117, 110, 100])
 ·have HF := hid (show R = false from by
   rw [HR.out]
   unfold usableC
   have h1 : (l.map locOf).head? = some (locOf x0) := by
    rw [List.head?_eq_getElem?, List.getElem?_map, HX0.out]; rfl
   have hq := hq
   rw [ByteArray.toList_eq] at hq
   rw [h1]
   have h2 : (Option.map (fun x => x.fst) (some (locOf x0)) == some undP) = false := by
    show (some x0.t.data.toList == some undP) = false
    simpa [undP] using hq
   rw [h2]; rfl)
  rw [hW1] at h0 e0
  go_enter Tryz.func13, Tryz.ntmps13
  go_wp2
  all_goals go_ret
  all_goals exact ⟨by rw [HF.out]; first | done | rfl, (Ext.refl w).alloc _⟩
 rw [hW1] at h0 e0
 go_enter Tryz.func13, Tryz.ntmps13
 go_wp2_with fail
 have HQ := hid hq
 clear h0 e0 hq
 rw [← hW1]
 go_loopw [3] (CUseR W1 (l.map locOf) ln) (fun i _ => ln - (intOf i).toNat)
 case atStart => exact ⟨0, Nat.zero_le _, rfl, by simp, by simp, Ext.refl _⟩
 case round =>
  obtain ⟨k, hk, rfl, hisp, hnd, hw⟩ := hrel
  have HISP := hid hisp
  have HND := hid hnd
  have HW := hid hw
  have HWW := hid (HW0.out.trans hw)
  have KBR := hid (KB.out.ext hw)
  clear hisp hnd hw
  have g0 := KBR.out.cell 0 _ rfl
  by_cases hkn : k < ln
  ·obtain ⟨x, hx⟩ : ∃ x, l[k]? = some x := ⟨_, List.getElem?_eq_getElem (by have := HLN.out; omega)⟩
   obtain ⟨b, o, hAd, hb, hc⟩ := (HL.out.ext HWW.out).at_ hx
   injection hAd with hAd
   injection hAd with hA1 hA2 _
   subst hA1; subst hA2
   have a0 := hc 0 _ rfl
   rw [Nat.add_zero] at a0
   have hkI : (k : Int) < (ln : Int) := by omega
   have hx60 := HS.out x (List.mem_of_getElem? hx)
   have HX := hid (show (l.map locOf)[k]? = some (locOf x) from by rw [List.getElem?_map, hx]; rfl)
   have KX := fun v : ExtW wr => KT.out x.t hx60 v.v
   have u0 := fun v : ExtW wr => (KBR.out.ext v.h).cell 0 _ rfl
   have u1 := fun v : ExtW wr => (KBR.out.ext v.h).cell 1 _ rfl
   have u2 := fun v : ExtW wr => (KBR.out.ext v.h).cell 2 _ rfl
   have u3 : ∀ v : ExtW wr, v.v.cell? ⟨b0, o0 + k * 16, none⟩ = some (.string x.t) := fun v => (Ext.cell v.h (p := ⟨b0, o0 + k * 16, none⟩) hb).trans a0
   obtain ⟨j, hj, hjk⟩ := idx_le HX.out
   have KJ := fun v : ExtW wr => KI.out x.t v.v (HWW.out.trans v.h)
   have hj2 : idxC (l.map locOf) x.t.data.toList = some j := hj
   rw [idxI_some hj2] at KJ
   have HKJ := hid KJ
   clear hx hc a0 KJ hj2 hb
   cases hp : isP x.t.data.toList with
   | false =>
     rw [hp] at KX
     have HK := hid KX
     have HF := hid (HR.out.trans (use_bad HX.out hp))
     clear KX hp hj hjk
     go_wp2_with fail
     refine wp_region_ext (by kernel_rfl) (by kernel_rfl) ?_
     repeat (go_big_quiet_step (first | (go_at_call 52; with_reducible exact ExtW.call (HK.out _)) | (go_at_call 53; with_reducible exact ExtW.call (HKJ.out _))))
     refine wpQuiet_nil ?_
     intro w4 hw4
     have HW4 := hid (HWW.out.trans (ext_of hw4))
     clear hw4 u0 u1 u2 u3 g0
     go_wp2
     all_goals go_ret
     all_goals exact ⟨by rw [HF.out]; first | done | rfl, HW4.out⟩
   | true =>
     rw [hp] at KX
     have HK := hid KX
     have HPN := hid (show ((l.map locOf).take (k + 1)).all (fun x => isP x.1) = true from by
      rw [take_next HX.out, List.all_append, HISP.out]
      simp only [List.all_cons, List.all_nil, Bool.and_true, Bool.true_and]
      exact hp)
     clear KX hp
     by_cases hjk2 : j = k
     ·subst hjk2
      have HNX := hid (nodup_next HX.out HND.out (idx_fresh hj))
      have hne : ((j : Int) != (j : Int)) = false := by simp
      clear hj hjk
      go_wp2_with fail
      refine wp_region_ext (by kernel_rfl) (by kernel_rfl) ?_
      repeat (go_big_quiet_step (first | (go_at_call 52; with_reducible exact ExtW.call (HK.out _)) | (go_at_call 53; with_reducible exact ExtW.call (HKJ.out _))))
      refine wpQuiet_nil ?_
      intro w4 hw4
      have HW4 := hid (HW.out.trans (ext_of hw4))
      clear hw4 u0 u1 u2 u3 g0
      go_wp2
      exact ⟨⟨j + 1, by omega, by go_num, HPN.out, HNX.out, HW4.out⟩, by simp [intOf]; omega⟩
     ·have HF := hid (HR.out.trans (use_seen HX.out (idx_seen hj (by omega))))
      have hne : ((j : Int) != (k : Int)) = true := by simp; omega
      clear hj
      go_wp2_with fail
      refine wp_region_ext (by kernel_rfl) (by kernel_rfl) ?_
      repeat (go_big_quiet_step (first | (go_at_call 52; with_reducible exact ExtW.call (HK.out _)) | (go_at_call 53; with_reducible exact ExtW.call (HKJ.out _))))
      refine wpQuiet_nil ?_
      intro w4 hw4
      have HW4 := hid (HWW.out.trans (ext_of hw4))
      clear hw4 u0 u1 u2 u3 g0
      go_wp2
      all_goals go_ret
      all_goals exact ⟨by rw [HF.out]; first | done | rfl, HW4.out⟩
  ·have hkk : k = ln := by omega
   subst hkk
   have hT : (l.map locOf).take k = l.map locOf := List.take_of_length_le (by rw [List.length_map, HLN.out]; exact Nat.le_refl _)
   have h1 := HISP.out
   have h2 := HND.out
   rw [hT] at h1 h2
   have hhd : ((l.map locOf).head?.map (·.1) == some undP) = true := by
    rw [List.head?_eq_getElem?, List.getElem?_map, HX0.out]
    have := HQ.out
    rw [ByteArray.toList_eq] at this
    show (some x0.t.data.toList == some undP) = true
    simpa [undP] using this
   have HF := hid (show R = al.all aliB from by
    rw [HR.out]
    unfold usableC
    rw [hhd, h1, decide_eq_true h2]
    simp)
   clear hT h1 h2 hhd
   go_wp2_with fail
   clear g0
   go_loopw [4] (CAli wr al n) (fun i _ => n - (intOf i).toNat)
   case atStart => exact ⟨0, Nat.zero_le _, rfl, by simp, Ext.refl _⟩
   case round =>
    obtain ⟨j, hj, rfl, hall, hwj⟩ := hrel
    have HALL := hid hall
    have HWJ := hid (HWW.out.trans hwj)
    have HWJ0 := hid hwj
    have g1 := (KBR.out.ext hwj).cell 1 _ rfl
    clear hall hwj
    by_cases hjn : j < n
    ·obtain ⟨a, ha⟩ : ∃ a, al[j]? = some a := ⟨_, List.getElem?_eq_getElem (by have := HAN.out; omega)⟩
     obtain ⟨b, o, rfl, hb, c0, c1⟩ := (HA.out.ext HWJ.out).at2 ha
     obtain ⟨z1, z2⟩ := HZ.out a (List.mem_of_getElem? ha)
     obtain ⟨fb, ob⟩ := a
     simp only at c0 c1 z1 z2
     have HAK := hid ha
     have hjI : (j : Int) < (n : Int) := by omega
     have K := rproper_any fb ob wr (by omega) (by omega)
     clear ha
     cases hq : aliB (fb, ob)
     ·rw [hq] at K
      have HK := hid K
      have HF2 := hid (HF.out.trans (all_take_false HAK.out hq))
      clear K hq
      go_wp2_with fail
      refine HK.out.mono ?_
      rintro e w2 ⟨rfl, hw2⟩
      have HW2 := hid (HWJ.out.trans hw2)
      clear hw2
      go_wp2
      all_goals go_ret
      all_goals exact ⟨by rw [HF2.out]; first | done | rfl, HW2.out⟩
     ·rw [hq] at K
      have HK := hid K
      have HQ2 := hid (show (al.take (j + 1)).all aliB = true from by rw [take_next HAK.out, List.all_append, HALL.out]; simp [hq])
      clear K hq
      go_wp2_with fail
      refine HK.out.mono ?_
      rintro e w2 ⟨rfl, hw2⟩
      have HW2 := hid (HWJ0.out.trans hw2)
      clear hw2
      go_wp2
      exact ⟨⟨j + 1, by omega, by go_num, HQ2.out, HW2.out⟩, by simp [intOf]; omega⟩
    ·have hjj : j = n := by omega
     subst hjj
     have HF2 := hid (show R = true from by
      have h := HALL.out
      rw [List.take_of_length_le (by have := HAN.out; omega)] at h
      rw [HF.out, h])
     go_wp2
     go_ret
     exact ⟨by rw [HF2.out]; first | done | rfl, HWJ.out⟩
end Go.Proofs.YtljdlkonlnjadaaGreatDoor
namespace Go.Proofs.YtljdlkonlnjadaaGreatDoor
open Go.RowKit
theorem can_size {al : List Ali} {s : BytesC} : (canL al s).1.length ≤ 60 := by
 by_cases h : (canL al s).2 = 0
 ·obtain ⟨e, h1, h2, _⟩ := can_shape h
  rw [h1]
  exact textP_len h2
 ·rw [can_bad h]; simp
theorem locs_arg {T : List LocP} {al : List Ali} {s : BytesC} (h : usableC T al = false) : locsC T al s = ([], 1) := by unfold locsC; rw [if_neg (by rw [h]; decide)]
theorem locs_can {T : List LocP} {al : List Ali} {s : BytesC} (h : usableC T al = true) (hc : ¬ (canL al s).2 = 0) : locsC T al s = ([], (canL al s).2) := by unfold locsC; rw [if_pos h, if_neg hc]
theorem locs_go {T : List LocP} {al : List Ali} {s : BytesC} (h : usableC T al = true) (hc : (canL al s).2 = 0) : locsC T al s = goC T T.length [nearC T (canL al s).1] (nearC T (canL al s).1) := by unfold locsC; rw [if_pos h, if_pos hc]
theorem own_oneV (w : World) (v : Value) (T : TypeId) : (w.alloc (.cells #[v] T)).ownsRow w.heap.size T 1 (.slice (some ⟨w.heap.size, 0, none⟩) 1 1) 1 [v] :=
 ⟨rfl, .inr ⟨w.heap.size, 1, #[v], rfl, Nat.le_refl _, heap_alloc_new w _, Nat.le_refl _, by decide, rfl, rfl⟩⟩
def CLoc (w4 : World) (B : Nat) (T : List LocP) (R : List Nat × Int) (gg : Nat) (i out : Value) (wr : World) : Prop :=
 ∃ (q : Nat) (o : List Nat), i = .int .i64 q ∧ GoK T gg o q ∧ goC T gg o q = R ∧ wr.ownsRow B 3 1 out o.length (o.map natV) ∧ Ext w4 wr
def CIn (wr : World) (o : List Nat) (k : Nat) (n : Nat) (i : Value) (wj : World) : Prop := ∃ j : Nat, j ≤ n ∧ i = .int .i64 j ∧ k ∉ o.take j ∧ Ext wr wj
theorem go_len {T : List LocP} {n : Nat} {o : List Nat} {i : Nat} (h : GoK T n o i) : o.length ≤ T.length := nodup_le h.2.1 h.2.2.1
set_option maxHeartbeats 4000000 in
theorem rlocs_any (l : List Lc) (al : List Ali) (L A N : Option Addr) (ln lc n c m d : Nat) (s : ByteArray) (w : World) (hL : Lcs w L ln l) (hln : ln ≤ 100000) (hA : Als w A n al) (hn : n ≤ 100000) (hz : ∀ a ∈ al, a.1.size ≤ 60000 ∧ a.2.size ≤ 60000) (hs : ∀ x ∈ l, x.t.size ≤ 60000) (hss : s.size ≤ 60000) :
 Calls Tryz.prog 11 #[.agg #[.slice L ln lc, .slice A n c, .slice N m d], .string s] w (RetOrd w (locsC (l.map locOf) al s.data.toList)) := by
 obtain ⟨i0, hi, hz0, hz1, hz2⟩ := info_parts (show (Tryz.prog.info? 3).map (fun i => (i.zero, i.size, i.bytes)) = some (some (.int .i64 0), 1, 8) from by kernel_rfl)
 have KB := hid (AtC.new w #[.slice L ln lc, .slice A n c, .slice N m d] : AtC 26 _ _ _)
 have HW0 := hid ((Ext.refl w).alloc (.cells #[.slice L ln lc, .slice A n c, .slice N m d] 26))
 have h0 := KB.out.cell 0 _ rfl
 have h1 := KB.out.cell 1 _ rfl
 have h2 := KB.out.cell 2 _ rfl
 have KU := rusable_any l al L A N ln lc n c m d _ (hL.ext HW0.out) hln (hA.ext HW0.out) hn hz hs
 have KC := fun W (h : Ext w W) => rcan20_any al s A n c W (hA.ext h) hn hz hss
 have KN := hid (fun (b : ByteArray) (hb : b.size ≤ 60000) W (h : Ext w W) => rnear_any l L A N ln lc n c m d b W (hL.ext h) (by unfold maxLen; omega) hb)
 have KP := hid (fun (i : Nat) (hi : i < ln) W (h : Ext w W) => rpar22_any l L A N ln lc n c m d i W (hL.ext h) (by unfold maxLen; omega) hi hs)
 have HLN := hid (show (l.map locOf).length = ln from by rw [List.length_map]; exact hL.len)
 obtain ⟨R, hR⟩ : ∃ R, R = locsC (l.map locOf) al s.data.toList := ⟨_, rfl⟩
 rw [← hR]
 have HR := hid hR
 clear hL hA hz hs hR
 cases hu : usableC (l.map locOf) al with
 | false =>
   rw [hu] at KU
   have HU := hid KU
   have HF := hid (HR.out.trans (locs_arg hu))
   clear KU hu KC
   go_enter Tryz.func11, Tryz.ntmps11
   go_wp2_with fail
   refine HU.out.mono ?_
   rintro e w2 ⟨rfl, hw2⟩
   have HW2 := hid (HW0.out.trans hw2)
   clear hw2
   go_wp2
   go_ret2
   exact ⟨none, 0, 0, by rw [HF.out]; first | done | rfl, by rw [HF.out]; exact Sl.nil _ _, Nat.le_refl _, HW2.out⟩
 | true =>
   rw [hu] at KU
   have HU := hid KU
   have HUS := hid hu
   clear KU hu
   have hcs := can_size (al := al) (s := s.data.toList)
   have hgo := fun hc => HR.out.trans (locs_go (s := s.data.toList) HUS.out hc)
   have hbad := fun hc => HR.out.trans (locs_can (s := s.data.toList) HUS.out hc)
   generalize canL al s.data.toList = C at KC hcs hgo hbad
   obtain ⟨cx, ce⟩ := C
   obtain ⟨cb, hcb, rfl⟩ := strv_b cx
   simp only at KC hcs hgo hbad
   rw [hcb] at KC
   have HC := hid KC
   have hcb60 : cb.size ≤ 60000 := by have h2 : cb.data.toList.length = cb.size := by simp
                                      omega
   clear KC hcb hcs
   go_enter Tryz.func11, Tryz.ntmps11
   go_wp2_with fail
   refine HU.out.mono ?_
   rintro e w2 ⟨rfl, hw2⟩
   have HW2 := hid (HW0.out.trans hw2)
   have KB2 := hid (KB.out.ext hw2)
   have g1 := KB2.out.cell 1 _ rfl
   clear hw2 h0 h1 h2
   go_wp2_with fail
   refine (HC.out _ HW2.out).mono ?_
   rintro e w3 ⟨rfl, hw3⟩
   have HW3 := hid (HW2.out.trans hw3)
   have KB3 := hid (KB2.out.ext hw3)
   clear hw3 g1
   by_cases hce : ce = 0
   rotate_left
   ·have hnz : (ce == 0) = false := by simpa using hce
    have HF := hid (hbad hce)
    clear hgo hbad
    go_wp2
    go_ret2
    exact ⟨none, 0, 0, by rw [HF.out]; first | done | rfl, by rw [HF.out]; exact Sl.nil _ _, Nat.le_refl _, HW3.out⟩
   subst hce
   have HGO := hid (hgo rfl)
   clear hgo hbad
   have hTn := (usable_ok HUS.out).1
   have hnl := near_lt hTn cb.data.toList
   have KNN := KN.out cb hcb60 _ HW3.out
   generalize nearC (l.map locOf) cb.data.toList = i at KNN HGO hnl
   have HKN := hid KNN
   have g0 := KB3.out.cell 0 _ rfl
   have g1 := KB3.out.cell 1 _ rfl
   have g2 := KB3.out.cell 2 _ rfl
   have HNL := hid hnl
   have HTN := hid hTn
   clear KNN hnl hTn
   go_wp2_with fail
   refine HKN.out.mono ?_
   rintro e w4 ⟨rfl, hw4⟩
   have HW4 := hid (HW3.out.trans hw4)
   have KB4 := hid (KB3.out.ext hw4)
   clear hw4 g0 g1 g2
   go_wp2_with fail
   go_loopg [8, 9] (l.map locOf).length (fun gg i out wr => CLoc w4 w4.heap.size (l.map locOf) R gg i out wr)
   case atStart =>
    exact ⟨i, [i], rfl, GoK.start HNL.out, HGO.out.symm, own_oneV w4 (natV i) 3, (Ext.refl w4).alloc _⟩
   case round =>
    obtain ⟨q, o, rfl, hgk, hgo, how, hw⟩ := hrel
    have HGK := hid hgk
    have HGO2 := hid hgo
    have HOW := hid how
    have HW := hid (HW4.out.trans hw)
    have HWF := hid hw
    have KBR := hid (KB4.out.ext hw)
    clear hgk hgo how hw
    by_cases hq0 : q = 0
    ·subst hq0
     have HF := hid (HGO2.out.symm.trans (go_zero HGK.out rfl))
     obtain ⟨A5, c5, rfl, hs5, hc5⟩ := own_sl HOW.out
     have HS5 := hid hs5
     clear hs5
     go_wp2
     go_ret2
     exact ⟨A5, o.length, c5, by rw [HF.out]; first | done | rfl, by rw [HF.out]; exact HS5.out, hc5, HW.out⟩
    ·have hq0' : ((q : Int) == 0) = false := by simpa using hq0
     have hq0'' : ((q : Int) != 0) = true := by simpa using hq0
     have hqln : q < ln := by have h := HGK.out.lt.1; have := HLN.out; omega
     have g0 := KBR.out.cell 0 _ rfl
     have g1 := KBR.out.cell 1 _ rfl
     have g2 := KBR.out.cell 2 _ rfl
     have K1 := KP.out q hqln _ HW.out
     have hup : upR2 (l.map locOf) q = match upC2 (l.map locOf) q with | some k => ((k : Int), 0) | none => (0, 10) := rfl
     cases hu : upC2 (l.map locOf) q with
     | none =>
       rw [hu] at hup
       simp only at hup
       rw [hup] at K1
       have HK1 := hid K1
       have HF := hid (HGO2.out.symm.trans (go_none HGK.out hq0 hu))
       clear K1 hup hu
       go_wp2_with fail
       refine HK1.out.mono ?_
       rintro e w5 ⟨rfl, hw5⟩
       have HW5 := hid (HW.out.trans hw5)
       clear hw5
       go_wp2
       all_goals go_ret2
       all_goals exact ⟨none, 0, 0, by rw [HF.out]; first | done | rfl, by rw [HF.out]; exact Sl.nil _ _, Nat.le_refl _, HW5.out⟩
     | some k =>
       rw [hu] at hup
       simp only at hup
       rw [hup] at K1
       have HK1 := hid K1
       have HU2 := hid hu
       have hol := go_len HGK.out
       have HLN2 := HLN.out
       clear K1 hup hu
       go_wp2_with fail
       refine HK1.out.mono ?_
       rintro e w5 ⟨rfl, hw5⟩
       have HW5 := hid (HW.out.trans hw5)
       have HWF5 := hid (HWF.out.trans hw5)
       have KB5 := hid (KBR.out.ext hw5)
       have HO5 := hid (own_ext HOW.out hw5)
       obtain ⟨A5, c5, rfl, hs5, hc5⟩ := own_sl (own_ext HOW.out hw5)
       have HS5 := hid hs5
       clear hw5 hs5 g0 g1 g2
       go_wp2_with fail
       go_loopw [12] (CIn w5 o k o.length) (fun i _ => o.length - (intOf i).toNat)
       case atStart => exact ⟨0, Nat.zero_le _, rfl, by simp, Ext.refl _⟩
       case round =>
        obtain ⟨j, hj, rfl, hnot, hwj⟩ := hrel
        have HNOT := hid hnot
        have HWJ := hid hwj
        clear hnot hwj
        by_cases hjn : j < o.length
        ·obtain ⟨ad, y, rfl, hy, hcy⟩ := (HS5.out.ext HWJ.out).at_map hjn
         unfold natV at hcy
         have hjI : (j : Int) < (o.length : Int) := by omega
         have HY := hid hy
         clear hy
         by_cases hyk : y = k
         ·subst hyk
          have HF := hid (HGO2.out.symm.trans (go_cycle HGK.out hq0 HU2.out (List.mem_of_getElem? HY.out)))
          have heq : ((y : Int) == (y : Int)) = true := by simp
          go_wp2
          all_goals go_ret2
          all_goals exact ⟨none, 0, 0, by rw [HF.out]; first | done | rfl, by rw [HF.out]; exact Sl.nil _ _, Nat.le_refl _, HW5.out.trans HWJ.out⟩
         ·have heq : ((y : Int) == (k : Int)) = false := by simp; omega
          have HN2 := hid (show k ∉ o.take (j + 1) from by
           rw [take_next HY.out]
           intro h
           rcases List.mem_append.1 h with h | h
           ·exact HNOT.out h
           ·exact hyk (List.mem_singleton.1 h).symm)
          go_wp2
          exact ⟨⟨j + 1, by omega, by go_num, HN2.out, HWJ.out⟩, by simp [intOf]; omega⟩
        ·have hjj : j = o.length := by omega
         subst hjj
         have HKO := hid (show k ∉ o from by have h := HNOT.out; rwa [List.take_length] at h)
         obtain ⟨e1, hg1⟩ := go_on HGK.out hq0 HU2.out HKO.out HTN.out
         have HE1 := hid (e1.symm.trans HGO2.out)
         have HG1 := hid hg1
         obtain ⟨gg1, hgg1⟩ := HGK.out.pos
         have hb8 : o.length + 1 ≤ 100001 := by omega
         clear e1 hg1
         go_wp2_with (at_builtin; refine wpList_app2 _ rfl _ _ 43 rfl w4.heap.size 3 i0 _ 8 Tryz.underlying43 hi hz0 hz1 hz2 rfl _ o.length _ rfl ((own_ext HO5.out HWJ.out).alloc _) _ 1 _ _ rfl (Sl.one _ _ _) (by simp [Value.oneCell']) (by unfold maxLen; omega) (by omega) (by have := Ext.size (HWF5.out.trans HWJ.out); simp; omega) ?_; intro v6 w6 hown6 hgrow6 hwh6; have HO6 := hid hown6; have HG6 := hid hgrow6; clear hown6 hgrow6 hwh6)
         have HX6 := hid (ext_grown (a := w4) (B := w4.heap.size) ((HWF5.out.trans HWJ.out).alloc (.cells #[.int .i64 (k : Int)] 3)) ((own_ext HO5.out HWJ.out).alloc _) (Nat.le_refl _) HG6.out)
         go_roundg gg1
         case measure => omega
         case rel =>
          refine ⟨k, o ++ [k], rfl, ?_, ?_, ?_, HX6.out⟩
          ·have h := HG1.out; rw [hgg1] at h; exact h
          ·have h := HE1.out; rw [hgg1] at h; exact h
          ·rw [List.length_append, List.map_append]
           exact HO6.out
end Go.Proofs.YtljdlkonlnjadaaGreatDoor
