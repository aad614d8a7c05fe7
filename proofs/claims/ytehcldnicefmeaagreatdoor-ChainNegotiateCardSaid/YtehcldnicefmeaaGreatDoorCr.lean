import Derived.Test.YtehcldnicefmeaaGreatDoorCg
import Derived.Test.YtehcldnicefmeaaGreatDoorCh
import Derived.Test.YtehcldnicefmeaaGreatDoorNXG
import Derived.Test.YtehcldnicefmeaaGreatDoorNX2
import Derived.Test.YtehcldnicefmeaaGreatDoorNXL
namespace Go.Proofs.YtehcldnicefmeaaGreatDoor
open Go.RowKit
set_option linter.unusedSimpArgs false
set_option linter.unusedVariables false

/-! Tables, by the reference. -/
set_option maxHeartbeats 1000000 in
set_option maxRecDepth 100000 in
theorem rindex_any (l : List Lc) (L A N : Option Addr) (ln lc n c m d : Nat) (s : ByteArray) (w : World) (hL : Lcs w L ln l) (hln : ln ≤ maxLen) :
    Calls Tryz.prog 71 #[.agg #[.slice L ln lc, .slice A n c, .slice N m d], .string s] w fun e w' => e = .returned (.int .i64 (idxI (l.map locOf) s.data.toList)) ∧ Ext w w' := by
  unfold maxLen at hln
  have KB := Lib.hid (AtC.new w #[.slice L ln lc, .slice A n c, .slice N m d] : AtC 26 _ _ _)
  have HW0 := Lib.hid ((Ext.refl w).alloc (.cells #[.slice L ln lc, .slice A n c, .slice N m d] 26))
  have HL := Lib.hid hL
  have HLN := Lib.hid hL.len
  clear hL
  go_enter Tryz.func71, Tryz.ntmps71
  go_wp2_with fail
  go_loopw [5] (CIdx (w.alloc (.cells #[.slice L ln lc, .slice A n c, .slice N m d] 26)) l s.data.toList ln) (fun i _ => ln - (intOf i).toNat)
  case atStart => exact ⟨0, Nat.zero_le _, rfl, noTag_zero _ _, Ext.refl _⟩
  case round =>
    obtain ⟨k, hk, rfl, hpre, hw⟩ := hrel
    have HP := Lib.hid hpre
    have HW := Lib.hid (HW0.out.trans hw)
    have HX0 := Lib.hid hw
    have g0 := (KB.out.ext hw).cell 0 _ rfl
    clear hpre hw
    by_cases hkn : k < ln
    · obtain ⟨x, hx⟩ : ∃ x, l[k]? = some x := ⟨_, List.getElem?_eq_getElem (by have := HLN.out; omega)⟩
      obtain ⟨b, o, rfl, hb, hc⟩ := (HL.out.ext HW.out).at_ hx
      have a0 := hc 0 _ rfl
      rw [Nat.add_zero] at a0
      have hkI : (k : Int) < (ln : Int) := by omega
      have HX := Lib.hid hx
      clear hx hc
      cases hq : (x.t.toList == s.toList)
      · have HQ := Lib.hid (noTag_next HP.out HX.out (by rw [← eq_b]; exact hq))
        go_wp2
        exact ⟨⟨k + 1, by omega, by go_num, HQ.out, HX0.out⟩, by simp [intOf]; omega⟩
      · have HQ := Lib.hid (idxI_some (noTag_found HP.out HX.out (by rw [← eq_b]; exact hq)))
        go_wp2
        all_goals go_ret
        all_goals exact ⟨by rw [HQ.out]; first | done | rfl, HW.out⟩
    · have hkk : k = ln := by omega
      subst hkk
      have HQ := Lib.hid (idxI_none (noTag_end (by rw [HLN.out]; exact HP.out)))
      go_wp2
      go_ret
      exact ⟨by rw [HQ.out]; first | done | rfl, HW.out⟩

set_option maxHeartbeats 1000000 in
set_option maxRecDepth 100000 in
theorem rnear_any (l : List Lc) (L A N : Option Addr) (ln lc n c m d : Nat) (s : ByteArray) (w : World) (hL : Lcs w L ln l) (hln : ln ≤ maxLen) (hs : s.size ≤ 60000) :
    Calls Tryz.prog 62 #[.agg #[.slice L ln lc, .slice A n c, .slice N m d], .string s] w fun e w' => e = .returned (.int .i64 (nearC (l.map locOf) s.data.toList)) ∧ Ext w w' := by
  have KB := Lib.hid (AtC.new w #[.slice L ln lc, .slice A n c, .slice N m d] : AtC 26 _ _ _)
  have HW0 := Lib.hid ((Ext.refl w).alloc (.cells #[.slice L ln lc, .slice A n c, .slice N m d] 26))
  have h0 := KB.out.cell 0 _ rfl
  have h1 := KB.out.cell 1 _ rfl
  have h2 := KB.out.cell 2 _ rfl
  have KF := Lib.hid (fun (b : ByteArray) W (h : Ext w W) => rindex_any l L A N ln lc n c m d b W (hL.ext h) hln)
  have KA := Lib.hid (fun W (h : Ext w W) => ranc_any s W hs)
  have hal := anc_len s.data.toList
  clear hL
  cases hi : idxC (l.map locOf) s.data.toList with
  | some i =>
    have K1 := KF.out s _ HW0.out
    rw [idxI_some hi] at K1
    have HK := Lib.hid K1
    have HR := Lib.hid (near_idx hi)
    clear K1 hi
    go_enter Tryz.func62, Tryz.ntmps62
    go_wp2_with fail
    refine HK.out.mono ?_
    rintro e w2 ⟨rfl, hw2⟩
    have HW2 := Lib.hid (HW0.out.trans hw2)
    clear hw2
    go_wp2
    all_goals go_ret
    all_goals exact ⟨by rw [HR.out]; first | done | rfl, HW2.out⟩
  | none =>
    have K1 := KF.out s _ HW0.out
    rw [idxI_none hi] at K1
    have HK := Lib.hid K1
    have HI := Lib.hid hi
    clear K1 hi
    go_enter Tryz.func62, Tryz.ntmps62
    go_wp2_with fail
    refine HK.out.mono ?_
    rintro e w2 ⟨rfl, hw2⟩
    have HW2 := Lib.hid (HW0.out.trans hw2)
    have KB2 := Lib.hid (KB.out.ext hw2)
    clear hw2
    go_wp2_with fail
    refine (KA.out _ HW2.out).mono ?_
    rintro e w3 ⟨A2, n2, c2, rfl, hsl, hc2, hw3⟩
    have HW3 := Lib.hid (HW2.out.trans hw3)
    have KB3 := Lib.hid (KB2.out.ext hw3)
    have hn2 : n2 ≤ 7 := by have h := hsl.1; rw [List.length_map] at h; omega
    have HN2 := Lib.hid (show (ancL s.data.toList).1.length = n2 from by have h := hsl.1; rw [List.length_map] at h; exact h)
    have HSL := Lib.hid hsl
    clear hw3 hsl hal
    go_wp2_with fail
    go_loopw [8] (CNear w3 (l.map locOf) s.data.toList n2) (fun i _ => n2 - (intOf i).toNat)
    case atStart => exact ⟨0, Nat.zero_le _, rfl, noAnc_zero _ _, Ext.refl _⟩
    case round =>
      obtain ⟨k, hk, rfl, hpre, hw⟩ := hrel
      have HP := Lib.hid hpre
      have HW := Lib.hid hw
      clear hpre hw
      by_cases hkn : k < n2
      · obtain ⟨ad, x, rfl, hx, hcx⟩ := (HSL.out.ext HW.out).at_map hkn
        obtain ⟨xb, hx1, rfl⟩ := strv_b x
        rw [hx1] at hcx
        have g0 := fun v : ExtW wr => ((KB3.out.ext HW.out).ext v.h).cell 0 _ rfl
        have g1 := fun v : ExtW wr => ((KB3.out.ext HW.out).ext v.h).cell 1 _ rfl
        have g2 := fun v : ExtW wr => ((KB3.out.ext HW.out).ext v.h).cell 2 _ rfl
        have g3 : ∀ v : ExtW wr, v.v.cell? (ad.add k) = some (.string xb) := fun v => (Ext.cell v.h (World.block_lt_of_cell? wr _ hcx)).trans hcx
        have hkI : (k : Int) < (n2 : Int) := by omega
        have K1 := fun v : ExtW wr => KF.out xb v.v (HW3.out.trans (HW.out.trans v.h))
        have HX := Lib.hid hx
        clear hx hx1 hcx
        cases hi : idxC (l.map locOf) xb.data.toList with
        | none =>
          rw [idxI_none hi] at K1
          have HK1 := Lib.hid K1
          have HQ := Lib.hid (noAnc_next HP.out HX.out hi)
          clear K1 hi
          go_wp2_with fail
          refine wp_region_ext (by kernel_rfl) (by kernel_rfl) ?_
          repeat (go_big_quiet_step ((go_at_call 71; with_reducible exact ExtW.call (HK1.out _))))
          refine wpQuiet_nil ?_
          intro w4 hw4
          have HW4 := Lib.hid (HW.out.trans (ext_of hw4))
          clear hw4 g0 g1 g2 g3
          go_wp2
          exact ⟨⟨k + 1, by omega, by go_num, HQ.out, HW4.out⟩, by simp [intOf]; omega⟩
        | some i =>
          rw [idxI_some hi] at K1
          have HK1 := Lib.hid K1
          have HQ := Lib.hid (near_found HI.out HP.out HX.out hi)
          clear K1 hi
          go_wp2_with fail
          refine wp_region_ext (by kernel_rfl) (by kernel_rfl) ?_
          repeat (go_big_quiet_step ((go_at_call 71; with_reducible exact ExtW.call (HK1.out _))))
          refine wpQuiet_nil ?_
          intro w4 hw4
          have HW4 := Lib.hid (HW.out.trans (ext_of hw4))
          clear hw4 g0 g1 g2 g3
          go_wp2
          all_goals go_ret
          all_goals exact ⟨by rw [HQ.out]; first | done | rfl, HW3.out.trans HW4.out⟩
      · have hkk : k = n2 := by omega
        subst hkk
        have HQ := Lib.hid (near_none HI.out (by rw [HN2.out]; exact HP.out))
        go_wp2
        go_ret
        exact ⟨by rw [HQ.out]; first | done | rfl, HW3.out.trans HW.out⟩

def upR2 (T : List LocP) (i : Nat) : Int × Int := match upC2 T i with
  | some k => ((k : Int), 0)
  | none => (0, 10)
set_option maxHeartbeats 1000000 in
set_option maxRecDepth 100000 in
theorem rpar22_any (l : List Lc) (L A N : Option Addr) (ln lc n c m d : Nat) (i : Nat) (w : World) (hL : Lcs w L ln l) (hln : ln ≤ maxLen) (hi : i < ln) (hs : ∀ x ∈ l, x.t.size ≤ 60000) :
    Calls Tryz.prog 63 #[.agg #[.slice L ln lc, .slice A n c, .slice N m d], .int .i64 i] w fun e w' => e = .returned (.tuple #[.int .i64 (upR2 (l.map locOf) i).1, .int .i64 (upR2 (l.map locOf) i).2]) ∧ Ext w w' := by
  unfold maxLen at hln
  have KB := Lib.hid (AtC.new w #[.slice L ln lc, .slice A n c, .slice N m d] : AtC 26 _ _ _)
  have HW0 := Lib.hid ((Ext.refl w).alloc (.cells #[.slice L ln lc, .slice A n c, .slice N m d] 26))
  have h0 := KB.out.cell 0 _ rfl
  have h1 := KB.out.cell 1 _ rfl
  have h2 := KB.out.cell 2 _ rfl
  have KF := Lib.hid (fun (b : ByteArray) W (h : Ext w W) => rindex_any l L A N ln lc n c m d b W (hL.ext h) (by unfold maxLen; exact hln))
  have KN := Lib.hid (fun (b : ByteArray) (hb : b.size ≤ 60000) W (h : Ext w W) => rnear_any l L A N ln lc n c m d b W (hL.ext h) (by unfold maxLen; exact hln) hb)
  obtain ⟨x, hx⟩ : ∃ x, l[i]? = some x := ⟨_, List.getElem?_eq_getElem (by have := hL.len; omega)⟩
  have hiI : (i : Int) < (ln : Int) := by omega
  obtain ⟨b, o, rfl, hb, hc⟩ := (hL.ext HW0.out).at_ hx
  have a0 := hc 0 _ rfl
  have a1 := hc 1 _ rfl
  rw [Nat.add_zero] at a0
  have HCC := Lib.hid (show ∀ W, Ext (w.alloc (.cells #[.slice (some ⟨b, o, none⟩) ln lc, .slice A n c, .slice N m d] 26)) W → W.cell? ⟨b, o + i * 16, none⟩ = some (.string x.t) from fun W h => (Ext.cell h (p := ⟨b, o + i * 16, none⟩) hb).trans a0)
  have htx : tgC (l.map locOf) i = locOf x := tg_get (by rw [List.getElem?_map, hx]; rfl)
  have hx60 := hs x (List.mem_of_getElem? hx)
  clear hc hL hs hx
  cases hp : (x.p.toList == [])
  · have hpe : x.p.data.toList ≠ [] := by rw [← ByteArray.toList_eq]; simpa using hp
    have hup : upC2 (l.map locOf) i = idxC (l.map locOf) x.p.data.toList := by unfold upC2; rw [htx, if_neg (show (locOf x).2 ≠ [] from hpe)]; rfl
    have hp2 : x.p.toList ≠ [] := by simpa using hp
    have hp3 : (!x.p.toList.isEmpty) = true := by simpa using hp2
    have hp4 : x.p.toList.isEmpty = false := by simpa using hp2
    have K1 := KF.out x.p _ HW0.out
    cases hi2 : idxC (l.map locOf) x.p.data.toList with
    | none =>
      have HR := Lib.hid (show upR2 (l.map locOf) i = (0, 10) from by unfold upR2; rw [hup, hi2])
      rw [idxI_none hi2] at K1
      have HK := Lib.hid K1
      clear K1 hup hi2 htx hpe
      go_enter Tryz.func63, Tryz.ntmps63
      go_wp2_with fail
      refine HK.out.mono ?_
      rintro e w2 ⟨rfl, hw2⟩
      have HW2 := Lib.hid (HW0.out.trans hw2)
      clear hw2
      go_wp2
      all_goals go_ret2
      all_goals exact ⟨by rw [HR.out]; first | done | rfl, HW2.out⟩
    | some k =>
      have HR := Lib.hid (show upR2 (l.map locOf) i = ((k : Int), 0) from by unfold upR2; rw [hup, hi2])
      rw [idxI_some hi2] at K1
      have HK := Lib.hid K1
      clear K1 hup hi2 htx hpe
      go_enter Tryz.func63, Tryz.ntmps63
      go_wp2_with fail
      refine HK.out.mono ?_
      rintro e w2 ⟨rfl, hw2⟩
      have HW2 := Lib.hid (HW0.out.trans hw2)
      clear hw2
      go_wp2
      all_goals go_ret2
      all_goals exact ⟨by rw [HR.out]; first | done | rfl, HW2.out⟩
  · have hpe : x.p.data.toList = [] := by rw [← ByteArray.toList_eq]; simpa using hp
    have hup : upC2 (l.map locOf) i = some (nearC (l.map locOf) (parentP x.t.data.toList).1) := by unfold upC2; rw [htx, if_pos (show (locOf x).2 = [] from hpe)]; rfl
    have hp2 : x.p.toList = [] := by simpa using hp
    have hp4 : x.p.toList.isEmpty = true := by simpa using hp2
    have hp3 : (!x.p.toList.isEmpty) = false := by rw [hp4]; rfl
    have HR := Lib.hid (show upR2 (l.map locOf) i = ((nearC (l.map locOf) (parentP x.t.data.toList).1 : Int), 0) from by unfold upR2; rw [hup])
    have KP := fun W => rparent2_any x.t W hx60
    obtain ⟨pb, hpb, hpb2⟩ := strv_b (parentP x.t.data.toList).1
    rw [hpb] at KP
    have hp60 : pb.size ≤ 60000 := by
      have h1 : (parentP x.t.data.toList).1.length ≤ 60 := by
        unfold parentP
        split
        · simp
        · split
          · simp
          · rename_i u hu
            have hv := parse_ok (s := x.t.data.toList) (by rename_i h _; simpa using h)
            exact textP_len (up_valid hv hu).1
      rw [← hpb2] at h1
      have h2 : pb.data.toList.length = pb.size := by simp
      omega
    rw [← hpb2] at HR
    have KN2 := KN.out pb hp60
    generalize (parentP x.t.data.toList).2 = pe at KP
    generalize nearC (l.map locOf) pb.data.toList = q at KN2 HR
    have HKP := Lib.hid KP
    have HKN := Lib.hid KN2
    clear KP KN2 hup htx hpe hpb hpb2 hp60
    go_enter Tryz.func63, Tryz.ntmps63
    go_wp2_with fail
    refine (HKP.out _).mono ?_
    rintro e w2 ⟨rfl, hw2⟩
    have HW2 := Lib.hid (HW0.out.trans hw2)
    have g0 := (KB.out.ext hw2).cell 0 _ rfl
    have g1 := (KB.out.ext hw2).cell 1 _ rfl
    have g2 := (KB.out.ext hw2).cell 2 _ rfl
    clear hw2
    go_wp2_with fail
    refine (HKN.out _ HW2.out).mono ?_
    rintro e w3 ⟨rfl, hw3⟩
    have HW3 := Lib.hid (HW2.out.trans hw3)
    clear hw3
    go_wp2
    go_ret2
    exact ⟨by rw [HR.out]; first | done | rfl, HW3.out⟩
end Go.Proofs.YtehcldnicefmeaaGreatDoor
