import Derived.Test.YtehcldnicefmeaaGreatDoorCr
import Derived.Test.YtehcldnicefmeaaGreatDoorNXG
import Derived.Test.YtehcldnicefmeaaGreatDoorNX2
namespace Go.Proofs.YtehcldnicefmeaaGreatDoor
open Go.RowKit
set_option linter.unusedSimpArgs false
set_option linter.unusedVariables false

/-! Whether a table is usable, and its chains, by the reference. -/
theorem idx_le {T : List LocP} {k : Nat} {x : LocP} (hx : T[k]? = some x) : ∃ j, idxC T x.1 = some j ∧ j ≤ k := by
  have hk := (List.getElem?_eq_some_iff.1 hx).1
  cases h : idxC T x.1 with
  | none => exact absurd rfl (idx_none h x (List.mem_of_getElem? hx))
  | some j =>
    refine ⟨j, rfl, ?_⟩
    unfold idxC at h
    rw [List.findIdx?_eq_some_iff_getElem] at h
    obtain ⟨hj, _, h2⟩ := h
    refine Nat.le_of_not_lt fun hlt => ?_
    have := h2 k hlt
    rw [(List.getElem?_eq_some_iff.1 hx).2] at this
    simp at this
theorem idx_fresh {T : List LocP} {k : Nat} {s : BytesC} (h : idxC T s = some k) : decide (s ∈ (T.take k).map (·.1)) = false := by
  rw [decide_eq_false_iff_not]
  intro hm
  unfold idxC at h
  rw [List.findIdx?_eq_some_iff_getElem] at h
  obtain ⟨hk, _, h2⟩ := h
  obtain ⟨y, hy, he⟩ := List.mem_map.1 hm
  obtain ⟨j, hj⟩ := List.getElem?_of_mem hy
  rw [List.getElem?_take] at hj
  split at hj
  · next hjk =>
    have := h2 j hjk
    rw [(List.getElem?_eq_some_iff.1 hj).2, he] at this
    simp at this
  · cases hj
theorem idx_seen {T : List LocP} {k j : Nat} {s : BytesC} (h : idxC T s = some j) (hj : j < k) : decide (s ∈ (T.take k).map (·.1)) = true := by
  rw [decide_eq_true_iff]
  obtain ⟨hjl, he⟩ := idx_some h
  rw [tg_get (List.getElem?_eq_getElem hjl)] at he
  refine List.mem_map.2 ⟨T[j], ?_, he⟩
  have : (T.take k)[j]? = some T[j] := by rw [List.getElem?_take, if_pos hj]; exact List.getElem?_eq_getElem hjl
  exact List.mem_of_getElem? this
def CUseR (W1 : World) (T : List LocP) (m : Nat) (i : Value) (wr : World) : Prop :=
  ∃ k : Nat, k ≤ m ∧ i = .int .i64 k ∧ (T.take k).all (fun x => isP x.1) = true ∧ ((T.take k).map (·.1)).Nodup ∧ Ext W1 wr

set_option maxHeartbeats 4000000 in
set_option maxRecDepth 100000 in
theorem rusable_any (l : List Lc) (al : List Ali) (L A N : Option Addr) (ln lc n c m d : Nat) (w : World) (hL : Lcs w L ln l) (hln : ln ≤ 100000) (hA : Als w A n al) (hn : n ≤ 100000) (hz : ∀ a ∈ al, a.1.size ≤ 60000 ∧ a.2.size ≤ 60000) (hs : ∀ x ∈ l, x.t.size ≤ 60000) :
    Calls Tryz.prog 27 #[.agg #[.slice L ln lc, .slice A n c, .slice N m d]] w fun e w' => e = .returned (.bool (usableC (l.map locOf) al)) ∧ Ext w w' := by
  obtain ⟨W1, hW1⟩ : ∃ W1, W1 = w.alloc (.cells #[.slice L ln lc, .slice A n c, .slice N m d] 26) := ⟨_, rfl⟩
  have KB := Lib.hid (show AtC 26 W1 w.heap.size #[.slice L ln lc, .slice A n c, .slice N m d] from by rw [hW1]; exact AtC.new _ _)
  have HW0 := Lib.hid (show Ext w W1 from by rw [hW1]; exact (Ext.refl w).alloc _)
  have h0 := KB.out.cell 0 _ rfl
  have KI := Lib.hid (fun (b : ByteArray) W (h : Ext w W) => rindex_any l L A N ln lc n c m d b W (hL.ext h) (by unfold maxLen; omega))
  have KT := Lib.hid (fun (b : ByteArray) (hb : b.size ≤ 60000) W => ris_any b W (by omega))
  have HL := Lib.hid hL
  have HLN := Lib.hid hL.len
  have HA := Lib.hid hA
  have HAN := Lib.hid hA.len
  have HS := Lib.hid hs
  have HZ := Lib.hid hz
  clear hL hA hz hs
  obtain ⟨R, hR⟩ : ∃ R, R = usableC (l.map locOf) al := ⟨_, rfl⟩
  rw [← hR]
  have HR := Lib.hid hR
  clear hR
  rcases Nat.eq_zero_or_pos ln with hz0 | hp0
  · subst hz0
    have HF := Lib.hid (show R = false from by
      rw [HR.out]
      have : l = [] := List.length_eq_zero_iff.1 HLN.out
      rw [this]; rfl)
    go_enter Tryz.func27, Tryz.ntmps27
    rw [hW1] at h0
    go_wp2
    go_ret
    exact ⟨by rw [HF.out]; first | done | rfl, (Ext.refl w).alloc _⟩
  obtain ⟨x0, hx0⟩ : ∃ x0, l[0]? = some x0 := ⟨_, List.getElem?_eq_getElem (by have := HLN.out; omega)⟩
  obtain ⟨b0, o0, hL0, hb0, hc0⟩ := (HL.out.ext HW0.out).at_ hx0
  have e0 := hc0 0 _ rfl
  simp only [Nat.zero_mul, Nat.add_zero] at e0
  have hln0 : ((ln : Int) == 0) = false := by simp; omega
  have hpI : (0 : Int) < (ln : Int) := by omega
  have HX0 := Lib.hid hx0
  clear hc0 hx0
  subst hL0
  cases hq : (x0.t.toList == [117, 110, 100])
  · have HF := Lib.hid (show R = false from by
      rw [HR.out]
      unfold usableC
      have h1 : (l.map locOf).head? = some (locOf x0) := by
        rw [List.head?_eq_getElem?, List.getElem?_map, HX0.out]; rfl
      have hq := hq
      rw [ByteArray.toList_eq] at hq
      rw [h1]
      have h2 : (Option.map (fun x => x.fst) (some (locOf x0)) == some undP) = false := by
        show (some x0.t.data.toList == some undP) = false
        simpa [undP] using hq
      rw [h2]; rfl)
    rw [hW1] at h0 e0
    go_enter Tryz.func27, Tryz.ntmps27
    go_wp2
    all_goals go_ret
    all_goals exact ⟨by rw [HF.out]; first | done | rfl, (Ext.refl w).alloc _⟩
  rw [hW1] at h0 e0
  go_enter Tryz.func27, Tryz.ntmps27
  go_wp2_with fail
  have HQ := Lib.hid hq
  clear h0 e0 hq
  rw [← hW1]
  go_loopw [3] (CUseR W1 (l.map locOf) ln) (fun i _ => ln - (intOf i).toNat)
  case atStart => exact ⟨0, Nat.zero_le _, rfl, by simp, by simp, Ext.refl _⟩
  case round =>
    obtain ⟨k, hk, rfl, hisp, hnd, hw⟩ := hrel
    have HISP := Lib.hid hisp
    have HND := Lib.hid hnd
    have HW := Lib.hid hw
    have HWW := Lib.hid (HW0.out.trans hw)
    have KBR := Lib.hid (KB.out.ext hw)
    clear hisp hnd hw
    have g0 := KBR.out.cell 0 _ rfl
    by_cases hkn : k < ln
    · obtain ⟨x, hx⟩ : ∃ x, l[k]? = some x := ⟨_, List.getElem?_eq_getElem (by have := HLN.out; omega)⟩
      obtain ⟨b, o, hAd, hb, hc⟩ := (HL.out.ext HWW.out).at_ hx
      injection hAd with hAd
      injection hAd with hA1 hA2 _
      subst hA1; subst hA2
      have a0 := hc 0 _ rfl
      rw [Nat.add_zero] at a0
      have hkI : (k : Int) < (ln : Int) := by omega
      have hx60 := HS.out x (List.mem_of_getElem? hx)
      have HX := Lib.hid (show (l.map locOf)[k]? = some (locOf x) from by rw [List.getElem?_map, hx]; rfl)
      have KX := fun v : ExtW wr => KT.out x.t hx60 v.v
      have u0 := fun v : ExtW wr => (KBR.out.ext v.h).cell 0 _ rfl
      have u1 := fun v : ExtW wr => (KBR.out.ext v.h).cell 1 _ rfl
      have u2 := fun v : ExtW wr => (KBR.out.ext v.h).cell 2 _ rfl
      have u3 : ∀ v : ExtW wr, v.v.cell? ⟨b0, o0 + k * 16, none⟩ = some (.string x.t) := fun v => (Ext.cell v.h (p := ⟨b0, o0 + k * 16, none⟩) hb).trans a0
      obtain ⟨j, hj, hjk⟩ := idx_le HX.out
      have KJ := fun v : ExtW wr => KI.out x.t v.v (HWW.out.trans v.h)
      have hj2 : idxC (l.map locOf) x.t.data.toList = some j := hj
      rw [idxI_some hj2] at KJ
      have HKJ := Lib.hid KJ
      clear hx hc a0 KJ hj2 hb
      cases hp : isP x.t.data.toList with
      | false =>
        rw [hp] at KX
        have HK := Lib.hid KX
        have HF := Lib.hid (HR.out.trans (use_bad HX.out hp))
        clear KX hp hj hjk
        go_wp2_with fail
        refine wp_region_ext (by kernel_rfl) (by kernel_rfl) ?_
        repeat (go_big_quiet_step (first | (go_at_call 70; with_reducible exact ExtW.call (HK.out _)) | (go_at_call 71; with_reducible exact ExtW.call (HKJ.out _))))
        refine wpQuiet_nil ?_
        intro w4 hw4
        have HW4 := Lib.hid (HWW.out.trans (ext_of hw4))
        clear hw4 u0 u1 u2 u3 g0
        go_wp2
        all_goals go_ret
        all_goals exact ⟨by rw [HF.out]; first | done | rfl, HW4.out⟩
      | true =>
        rw [hp] at KX
        have HK := Lib.hid KX
        have HPN := Lib.hid (show ((l.map locOf).take (k + 1)).all (fun x => isP x.1) = true from by
          rw [take_next HX.out, List.all_append, HISP.out]
          simp only [List.all_cons, List.all_nil, Bool.and_true, Bool.true_and]
          exact hp)
        clear KX hp
        by_cases hjk2 : j = k
        · subst hjk2
          have HNX := Lib.hid (nodup_next HX.out HND.out (idx_fresh hj))
          have hne : ((j : Int) != (j : Int)) = false := by simp
          clear hj hjk
          go_wp2_with fail
          refine wp_region_ext (by kernel_rfl) (by kernel_rfl) ?_
          repeat (go_big_quiet_step (first | (go_at_call 70; with_reducible exact ExtW.call (HK.out _)) | (go_at_call 71; with_reducible exact ExtW.call (HKJ.out _))))
          refine wpQuiet_nil ?_
          intro w4 hw4
          have HW4 := Lib.hid (HW.out.trans (ext_of hw4))
          clear hw4 u0 u1 u2 u3 g0
          go_wp2
          exact ⟨⟨j + 1, by omega, by go_num, HPN.out, HNX.out, HW4.out⟩, by simp [intOf]; omega⟩
        · have HF := Lib.hid (HR.out.trans (use_seen HX.out (idx_seen hj (by omega))))
          have hne : ((j : Int) != (k : Int)) = true := by simp; omega
          clear hj
          go_wp2_with fail
          refine wp_region_ext (by kernel_rfl) (by kernel_rfl) ?_
          repeat (go_big_quiet_step (first | (go_at_call 70; with_reducible exact ExtW.call (HK.out _)) | (go_at_call 71; with_reducible exact ExtW.call (HKJ.out _))))
          refine wpQuiet_nil ?_
          intro w4 hw4
          have HW4 := Lib.hid (HWW.out.trans (ext_of hw4))
          clear hw4 u0 u1 u2 u3 g0
          go_wp2
          all_goals go_ret
          all_goals exact ⟨by rw [HF.out]; first | done | rfl, HW4.out⟩
    · have hkk : k = ln := by omega
      subst hkk
      have hT : (l.map locOf).take k = l.map locOf := List.take_of_length_le (by rw [List.length_map, HLN.out]; exact Nat.le_refl _)
      have h1 := HISP.out
      have h2 := HND.out
      rw [hT] at h1 h2
      have hhd : ((l.map locOf).head?.map (·.1) == some undP) = true := by
        rw [List.head?_eq_getElem?, List.getElem?_map, HX0.out]
        have := HQ.out
        rw [ByteArray.toList_eq] at this
        show (some x0.t.data.toList == some undP) = true
        simpa [undP] using this
      have HF := Lib.hid (show R = al.all aliB from by
        rw [HR.out]
        unfold usableC
        rw [hhd, h1, decide_eq_true h2]
        simp)
      clear hT h1 h2 hhd
      go_wp2_with fail
      clear g0
      go_loopw [4] (CAli wr al n) (fun i _ => n - (intOf i).toNat)
      case atStart => exact ⟨0, Nat.zero_le _, rfl, by simp, Ext.refl _⟩
      case round =>
        obtain ⟨j, hj, rfl, hall, hwj⟩ := hrel
        have HALL := Lib.hid hall
        have HWJ := Lib.hid (HWW.out.trans hwj)
        have HWJ0 := Lib.hid hwj
        have g1 := (KBR.out.ext hwj).cell 1 _ rfl
        clear hall hwj
        by_cases hjn : j < n
        · obtain ⟨a, ha⟩ : ∃ a, al[j]? = some a := ⟨_, List.getElem?_eq_getElem (by have := HAN.out; omega)⟩
          obtain ⟨b, o, rfl, hb, c0, c1⟩ := (HA.out.ext HWJ.out).at2 ha
          obtain ⟨z1, z2⟩ := HZ.out a (List.mem_of_getElem? ha)
          obtain ⟨fb, ob⟩ := a
          simp only at c0 c1 z1 z2
          have HAK := Lib.hid ha
          have hjI : (j : Int) < (n : Int) := by omega
          have K := rproper_any fb ob wr (by omega) (by omega)
          clear ha
          cases hq : aliB (fb, ob)
          · rw [hq] at K
            have HK := Lib.hid K
            have HF2 := Lib.hid (HF.out.trans (all_take_false HAK.out hq))
            clear K hq
            go_wp2_with fail
            refine HK.out.mono ?_
            rintro e w2 ⟨rfl, hw2⟩
            have HW2 := Lib.hid (HWJ.out.trans hw2)
            clear hw2
            go_wp2
            all_goals go_ret
            all_goals exact ⟨by rw [HF2.out]; first | done | rfl, HW2.out⟩
          · rw [hq] at K
            have HK := Lib.hid K
            have HQ2 := Lib.hid (show (al.take (j + 1)).all aliB = true from by rw [take_next HAK.out, List.all_append, HALL.out]; simp [hq])
            clear K hq
            go_wp2_with fail
            refine HK.out.mono ?_
            rintro e w2 ⟨rfl, hw2⟩
            have HW2 := Lib.hid (HWJ0.out.trans hw2)
            clear hw2
            go_wp2
            exact ⟨⟨j + 1, by omega, by go_num, HQ2.out, HW2.out⟩, by simp [intOf]; omega⟩
        · have hjj : j = n := by omega
          subst hjj
          have HF2 := Lib.hid (show R = true from by
            have h := HALL.out
            rw [List.take_of_length_le (by have := HAN.out; omega)] at h
            rw [HF.out, h])
          go_wp2
          go_ret
          exact ⟨by rw [HF2.out]; first | done | rfl, HWJ.out⟩
end Go.Proofs.YtehcldnicefmeaaGreatDoor
