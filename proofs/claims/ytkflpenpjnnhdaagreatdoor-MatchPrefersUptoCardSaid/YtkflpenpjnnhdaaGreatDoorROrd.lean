import Derived.Test.YtkflpenpjnnhdaaGreatDoorMQC
import Derived.Test.YtkflpenpjnnhdaaGreatDoorRefI
import Derived.Test.YtkflpenpjnnhdaaGreatDoorMQ2
namespace Go.Proofs.YtkflpenpjnnhdaaGreatDoor
open Go.RowKit
set_option linter.unusedSimpArgs false
set_option linter.unusedVariables false

/-! The order of the supported tags, by the reference. -/
theorem own3T (w : World) (o : Obj) (T : TypeId) : ((w.alloc o).alloc (.cells #[] T)).drew.ownsRow w.heap.size T 1 (.slice (some ⟨w.heap.size + 1, 0, none⟩) 0 0) 0 [] :=
  ⟨rfl, .inr ⟨w.heap.size + 1, 0, #[], rfl, by omega, two_new w _ _, Nat.le_refl _, Nat.zero_le _, rfl, rfl⟩⟩
theorem one_keptT {W w' : World} {g : Nat} {u : Value} {T : TypeId} {row : Option Nat} (hg : W.grownBy w' row) (hW : W.heap[g]? = some (.cells #[u] T)) (hne : some g ≠ row) : Sl w' (some ⟨g, 0, none⟩) 1 [u] := by
  have hlt : g < W.heap.size := (Array.getElem?_eq_some_iff.1 hW).1
  have h1 := (hg.block g hlt hne).trans hW
  refine ⟨rfl, fun j x hx => ⟨_, rfl, (Array.getElem?_eq_some_iff.1 h1).1, ?_⟩⟩
  have hj : j = 0 := by have := (List.getElem?_eq_some_iff.1 hx).1; simp at this; exact this
  subst hj
  simp at hx
  subst hx
  show w'.cell? ⟨g, 0, none⟩ = some u
  rw [cell_of_row w' g 0 #[u] T (0, 0) h1]
  rfl
def RoInv (w1 : World) (l : List NearP) (t : TagP) (S : List TagP) (m : Nat) (out i : Value) (wr : World) : Prop :=
  ∃ (k : Nat) (o : List Nat), k ≤ m ∧ i = .int .i64 k ∧ wr.ownsRow w1.heap.size 3 1 out k (o.map natV) ∧ OrdK l t S k o ∧ Ext w1 wr
def RoIn (wr : World) (l : List NearP) (t : TagP) (S : List TagP) (k : Nat) (o : List Nat) (i : Value) (wj : World) : Prop :=
  ∃ j : Nat, j ≤ k ∧ i = .int .i64 j ∧ (∀ q ∈ o.take j, ltB l t (atP S q) (atP S k) = true) ∧ Ext wr wj
theorem ord_end {w3 : World} {B B' j k : Nat} {v : Value} {o : List Nat} {l : List NearP} {t : TagP} {S : List TagP} (h : w3.ownsRow B 3 1 v (0 + j + 1 + (k - j)) ([] ++ (o.take j).map natV ++ [.int .i64 (k : Int)] ++ (o.drop j).map natV)) (hj : j ≤ k) (hB : B' ≤ B) :
    w3.ownsRow B' 3 1 v (k + 1) ((o.take j ++ [k] ++ o.drop j).map natV) := by
  have h := own_base h hB
  rw [show 0 + j + 1 + (k - j) = k + 1 from by omega] at h
  rw [List.map_append, List.map_append]
  exact h

set_option maxHeartbeats 8000000 in
set_option maxRecDepth 100000 in
theorem rorder_any (l : List Nr) (L : Option Addr) (ln lc : Nat) (r : ByteArray) (S : List ByteArray) (B : Option Addr) (m d : Nat) (w : World) (hL : Nrs w L ln l) (hln : ln ≤ maxLen) (hz : ∀ x ∈ l, x.f.size ≤ 1000000 ∧ x.o.size ≤ 1000000)
    (hB : Sl w B m (S.map .string)) (hm : m ≤ 100000) (hr : r.size ≤ 60000) (hS : ∀ s ∈ S, s.size ≤ 60000) :
    Calls Tryz.prog 21 #[.slice L ln lc, .string r, .slice B m d] w (RetOrd w (orderR EC (l.map nearOf) r.data.toList (dl S))) := by
  obtain ⟨i0, hi, hz0, hz1, hz2⟩ := info_parts (show (Tryz.prog.info? 3).map (fun i => (i.zero, i.size, i.bytes)) = some (some (.int .i64 0), 1, 8) from by kernel_rfl)
  obtain ⟨D, hD⟩ : ∃ D, D = orderR EC (l.map nearOf) r.data.toList (dl S) := ⟨_, rfl⟩
  rw [← hD]
  have K1 := Lib.hid (rboth_any l L ln lc [r] S (some ⟨w.heap.size, 0, none⟩) B 1 1 m d (w.alloc (.cells #[.string r] 9)) (hL.ext ((Ext.refl w).alloc _)) hln hz (Sl.one w (.string r) 9) (hB.ext ((Ext.refl w).alloc _)) (by omega) hm (by intro s hs; simp at hs; subst hs; exact hr) hS)
  have hSl : (dl S).length = m := by have := hB.1; unfold dl; simpa using this
  have HD := Lib.hid hD
  have HL := Lib.hid hL
  have HN := Lib.hid hln
  have HLEN := Lib.hid hSl
  clear hD hL hB hSl hz hS hr
  go_enter Tryz.func21, Tryz.ntmps21
  go_wp2_with fail
  refine K1.out.mono ?_
  rintro e w1 ⟨A2, n2, c2, xs, B2, m2, d2, ys, rfl, htx, hty, hmx, hmy, hw1⟩
  have HTX := Lib.hid htx
  have HTY := Lib.hid hty
  have HMX := Lib.hid hmx
  have HMY := Lib.hid hmy
  have HW1 := Lib.hid (((Ext.refl w).alloc (.cells #[.string r] 9)).trans hw1)
  clear htx hty hmx hmy hw1 K1
  rw [show dl [r] = [r.data.toList] from rfl] at *
  by_cases h0 : (bothL EC (l.map nearOf) [r.data.toList] (dl S)).2 = 0
  rotate_left
  · have hnz : ((bothL EC (l.map nearOf) [r.data.toList] (dl S)).2 == 0) = false := by simpa using h0
    have HD2 := Lib.hid (HD.out.trans (orderR_bad h0))
    go_wp2
    go_ret2
    exact ⟨none, 0, 0, by rw [HD2.out]; rfl, by rw [HD2.out]; exact Sl.nil _ _, Nat.le_refl _, HW1.out⟩
  have h0' : ((bothL EC (l.map nearOf) [r.data.toList] (dl S)).2 == 0) = true := by simpa using h0
  have h0'' : ((bothL EC (l.map nearOf) [r.data.toList] (dl S)).2 != 0) = false := by simp [h0]
  have HH := Lib.hid h0
  obtain ⟨hval, _, _, hapt, hbe⟩ := both_ok h0
  obtain ⟨t0, ht0⟩ := both_one h0
  obtain ⟨x, rfl, hxt⟩ := one_of (HMX.out.trans ht0)
  have HOK := Lib.hid (HD.out.trans (orderR_ok h0 ht0))
  have hyl := HTY.out.len
  have hn2 : n2 = 1 := HTX.out.len.symm
  subst hn2
  have hm2 : m2 ≤ 100000 := by
    have h := congrArg List.length HMY.out
    rw [(both_len h0).2, List.length_map, HLEN.out] at h
    omega
  have HGX := Lib.hid (show GoodV w1 x from ⟨both_good h0 (.inl (by rw [← HMX.out]; exact List.mem_map.2 ⟨x, by simp, rfl⟩)), HTX.out.2 x (by simp)⟩)
  have HGY := Lib.hid (show ∀ x ∈ ys, GoodV w1 x from fun x hx => ⟨both_good h0 (.inr (by rw [← HMY.out]; exact List.mem_map.2 ⟨x, hx, rfl⟩)), HTY.out.2 x hx⟩)
  have HAP := Lib.hid (show apartT (ys.map (·.t)) = true from by rw [HMY.out, hbe]; exact hapt)
  have HC := Lib.hid (costs_of hval)
  have HXT := Lib.hid hxt
  obtain ⟨b1, o1, rfl⟩ := HTX.out.some_ (k := 0) (x := x) rfl
  clear h0 hval hapt hbe ht0 hxt
  go_wp2_with fail
  go_loopw [11, 12] (RoInv w1 (l.map nearOf) x.t (ys.map (·.t)) m2) (fun _ i _ => m2 - (intOf i).toNat)
  case atStart => exact ⟨0, [], Nat.zero_le _, rfl, World.ownsRow_nil w1 w1.heap.size _ 1, ordK_zero, Ext.refl _⟩
  case round =>
    obtain ⟨k, o, hk, rfl, how, hok, hw⟩ := hrel
    have HOW := Lib.hid how
    have HO := Lib.hid hok
    have HWR := Lib.hid hw
    clear how hok hw
    obtain ⟨wo, hwo⟩ : ∃ wo : World, wo = wr := ⟨_, rfl⟩
    subst hwo
    by_cases hkn : k < m2
    · obtain ⟨z, hz⟩ : ∃ z, ys[k]? = some z := ⟨_, List.getElem?_eq_getElem (by omega)⟩
      obtain ⟨b2, o2, rfl⟩ := HTY.out.some_ hz
      have HZ := Lib.hid hz
      have hkI : (k : Int) < (m2 : Int) := by omega
      obtain ⟨A3, c3, hu, hsl, hkc0⟩ := own_sl HOW.out
      subst hu
      have HSL := Lib.hid hsl
      have hol := ordK_len HO.out
      have hatk : atP (ys.map (·.t)) k = z.t := at_tv hz
      have HATK := Lib.hid hatk
      clear hsl hz hatk
      go_wp2_with fail
      go_loopw [13] (RoIn wo (l.map nearOf) x.t (ys.map (·.t)) k o) (fun i _ => k - (intOf i).toNat)
      case atStart => exact ⟨0, Nat.zero_le _, rfl, (fun q hq => by simp at hq), Ext.refl _⟩
      case round =>
        obtain ⟨j, hj, rfl, hpre, hw⟩ := hrel
        have HPRE := Lib.hid hpre
        have HWJ := Lib.hid hw
        clear hpre hw
        have E1 := fun (v : ExtW wr) => HWR.out.trans (HWJ.out.trans v.h)
        have a0 := fun (v : ExtW wr) => HTX.out.c0 (k := 0) (x := x) rfl v.v (E1 v)
        have a1 := fun (v : ExtW wr) => HTX.out.c1 (k := 0) (x := x) rfl v.v (E1 v)
        have a2 := fun (v : ExtW wr) => HTX.out.c2 (k := 0) (x := x) rfl v.v (E1 v)
        have a3 := fun (v : ExtW wr) => HTX.out.c3 (k := 0) (x := x) rfl v.v (E1 v)
        simp only [Nat.zero_mul, Nat.add_zero] at a0 a1 a2 a3
        by_cases hjk : j < k
        · obtain ⟨ad, q, hA3, hq, _⟩ := (HSL.out.ext HWJ.out).at_map hjk
          subst hA3
          have hcv : ∀ v : ExtW wr, v.v.cell? (ad.add j) = some (.int .i64 (q : Int)) := fun v => by
            obtain ⟨ad', q', e1, hq', hc⟩ := ((HSL.out.ext HWJ.out).ext v.h).at_map hjk
            injection e1 with e1
            subst e1
            rw [hq] at hq'
            injection hq' with hq'
            subst hq'
            exact hc
          have hqk : q < k := ordK_lt HO.out (List.mem_of_getElem? hq)
          obtain ⟨y, hy⟩ : ∃ y, ys[q]? = some y := ⟨_, List.getElem?_eq_getElem (by omega)⟩
          have gy := HGY.out y (List.mem_of_getElem? hy)
          have gz := HGY.out z (List.mem_of_getElem? HZ.out)
          have K3 := fun (v : ExtW wr) => rbef_tv l L ln lc v.v (HL.out.ext (HW1.out.trans (E1 v))) HN.out HC.out x y z (HGX.out.ext (E1 v)) (gy.ext (E1 v)) (gz.ext (E1 v))
          have e0 := fun (v : ExtW wr) => HTY.out.c0 hy v.v (E1 v)
          have e1 := fun (v : ExtW wr) => HTY.out.c1 hy v.v (E1 v)
          have e2 := fun (v : ExtW wr) => HTY.out.c2 hy v.v (E1 v)
          have e3 := fun (v : ExtW wr) => HTY.out.c3 hy v.v (E1 v)
          have f0 := fun (v : ExtW wr) => HTY.out.c0 HZ.out v.v (E1 v)
          have f1 := fun (v : ExtW wr) => HTY.out.c1 HZ.out v.v (E1 v)
          have f2 := fun (v : ExtW wr) => HTY.out.c2 HZ.out v.v (E1 v)
          have f3 := fun (v : ExtW wr) => HTY.out.c3 HZ.out v.v (E1 v)
          have hqI : (q : Int) < (m2 : Int) := by omega
          have hjI : (j : Int) < (k : Int) := by omega
          have qjk : decide ((j : Int) < (k : Int)) = true := by simpa using hjI
          have HQ := Lib.hid hq
          have HAT := Lib.hid (at_tv hy)
          clear hq hy gy gz E1
          cases hlt : ltB (l.map nearOf) x.t y.t z.t with
          | true =>
            rw [hlt] at K3
            have K4 := Lib.hid K3
            have HNX := Lib.hid (show ∀ q' ∈ o.take (j + 1), ltB (l.map nearOf) x.t (atP (ys.map (·.t)) q') (atP (ys.map (·.t)) k) = true from by
              intro q' hq'
              rw [take_next HQ.out] at hq'
              rcases List.mem_append.1 hq' with h | h
              · exact HPRE.out q' h
              · simp at h
                subst h
                rw [HAT.out, HATK.out]
                exact hlt)
            clear K3 hlt
            go_wp2_with fail
            refine wp_region_ext (by kernel_rfl) (by kernel_rfl) ?_
            repeat (go_big_quiet_step ((go_at_call 29; with_reducible exact ExtW.call (K4.out _))))
            refine wpQuiet_nil ?_
            intro wz hz
            have HZZ := Lib.hid (HWJ.out.trans (ext_of hz))
            clear hz a0 a1 a2 a3 e0 e1 e2 e3 f0 f1 f2 f3 hcv
            go_wp2
            exact ⟨⟨j + 1, by omega, by go_num, HNX.out, HZZ.out⟩, by simp [intOf]; omega⟩
          | false =>
            rw [hlt] at K3
            have K4 := Lib.hid K3
            have HNX := Lib.hid (ordK_ins HO.out j HPRE.out (fun q' hq' => by
              rw [HQ.out] at hq'
              injection hq' with hq'
              subst hq'
              rw [HAT.out, HATK.out]
              exact hlt))
            clear K3 hlt
            go_wp2_with fail
            refine wp_region_ext (by kernel_rfl) (by kernel_rfl) ?_
            repeat (go_big_quiet_step ((go_at_call 29; with_reducible exact ExtW.call (K4.out _))))
            refine wpQuiet_nil ?_
            intro wz hz
            have HZZ := Lib.hid (HWJ.out.trans (ext_of hz))
            have HS4 := Lib.hid (HSL.out.ext HZZ.out)
            clear hz a0 a1 a2 a3 e0 e1 e2 e3 f0 f1 f2 f3 hcv
            have hjc : (j : Int) ≤ (c3 : Int) := by omega
            have hcj : ¬ c3 = j := by omega
            have S1 := Lib.hid (show Sl wz (some ad) j ((o.take j).map natV) from by rw [List.map_take]; exact HS4.out.take j (by omega))
            have S3 := Lib.hid (show Sl wz (some (ad.add j)) (k - j) ((o.drop j).map natV) from by rw [List.map_drop]; exact HS4.out.drop j (by omega))
            have HB2 := Lib.hid (Ext.size (HWR.out.trans HZZ.out))
            go_wp2
            have tok1 : True := trivial
            have tok2 : True := trivial
            have tok3 : True := trivial
            go_region_law (first
              | (have _t := tok1; refine step_app _ rfl _ _ 40 rfl wz.heap.size 3 i0 _ 8 Tryz.underlying40 hi hz0 hz1 hz2 rfl _ 0 [] rfl (by first | exact (own_empty wz 3).drew | exact ((own_empty wz 3).alloc _).drew | exact own3T wz _ _) _ j _ ((o.take j).map natV) rfl (S1.out.ext (by first | exact ((Ext.refl wz).alloc _).drew | exact (((Ext.refl wz).alloc _).alloc _).drew)) (natV_one _) (by unfold maxLen; omega) (by omega) (by simp; try omega) ?_; intro v1 w1' hown1 hgrow1; have HX1 := Lib.hid (ext_grown (a := wz) (B := wz.heap.size) (by first | exact ((Ext.refl wz).alloc _).drew | exact (((Ext.refl wz).alloc _).alloc _).drew) (by first | exact (own_empty wz 3).drew | exact ((own_empty wz 3).alloc _).drew | exact own3T wz _ _) (Nat.le_refl _) hgrow1); (first | have HZ1 := Lib.hid (one_keptT (row := some wz.heap.size) hgrow1 (two_new wz _ _) (by simp)) | have HZ1 := Lib.hid (one_keptT (row := some (wz.heap.size + 1)) hgrow1 (two_old wz _ _) (by simp)) | skip); have HO1 := Lib.hid hown1; clear hown1 hgrow1 tok1)
              | (have _t := tok2; (refine step_app _ rfl _ _ 40 rfl wz.heap.size 3 i0 _ 8 Tryz.underlying40 hi hz0 hz1 hz2 rfl _ (0 + j) _ rfl (by first | exact HO1.out | exact HO1.out.alloc _) _ 1 _ [.int .i64 (k : Int)] rfl (by first | exact HZ1.out | exact Sl.one _ _ _) (by simp [Value.oneCell']) (by unfold maxLen; omega) (by omega) (by have := Ext.size HX1.out; first | omega | (simp; omega)) ?_); intro v2 w2' hown2 hgrow2; have HX2 := Lib.hid (ext_grown (a := wz) (B := wz.heap.size) (by first | exact HX1.out | exact HX1.out.alloc _) (by first | exact HO1.out | exact HO1.out.alloc _) (Nat.le_refl _) hgrow2); have HO2 := Lib.hid hown2; clear hown2 hgrow2 tok2)
              | (have _t := tok3; refine step_app _ rfl _ _ 40 rfl wz.heap.size 3 i0 _ 8 Tryz.underlying40 hi hz0 hz1 hz2 rfl _ (0 + j + 1) _ rfl HO2.out _ (k - j) _ ((o.drop j).map natV) rfl (S3.out.ext HX2.out) (natV_one _) (by unfold maxLen; omega) (by omega) (by have := Ext.size HX2.out; first | omega | (simp; omega)) ?_; intro v3 w3' hown3 hgrow3; have HX3 := Lib.hid (ext_grown (a := wz) (B := wz.heap.size) HX2.out HO2.out (Nat.le_refl _) hgrow3); have HO3 := Lib.hid hown3; clear hown3 hgrow3 tok3))
            all_goals
              go_wp2
              exact ⟨⟨k + 1, _, by omega, by go_num, ord_end (l := l.map nearOf) (t := x.t) (S := ys.map (·.t)) HO3.out (by omega) HB2.out, HNX.out, HWR.out.trans (HZZ.out.trans HX3.out)⟩, by simp [intOf]; omega⟩
        · have hjj : j = k := by omega
          subst hjj
          have HNX := Lib.hid (ordK_ins HO.out j HPRE.out (fun q' hq' => by rw [List.getElem?_eq_none (by omega)] at hq'; cases hq'))
          have fin : ∀ (w3 : World) (v : Value), w3.ownsRow wr.heap.size 3 1 v (0 + j + 1 + 0) ([] ++ o.map natV ++ [.int .i64 (j : Int)] ++ []) → w3.ownsRow w1.heap.size 3 1 v (j + 1) ((o.take j ++ [j] ++ o.drop j).map natV) := by
            intro w3 v h
            refine ord_end (l := l.map nearOf) (t := x.t) (S := ys.map (·.t)) (B := wr.heap.size) (j := j) (k := j) (by rw [Nat.sub_self, List.take_of_length_le (by omega), List.drop_of_length_le (by omega)]; exact h) (Nat.le_refl _) (Ext.size (HWR.out.trans HWJ.out))
          have FIN := Lib.hid fin
          have qjk : decide ((j : Int) < (j : Int)) = false := by simp
          have S1 := Lib.hid (HSL.out.ext HWJ.out)
          have hjc : (j : Int) ≤ (c3 : Int) := by omega
          clear fin E1
          go_wp2_with fail
          refine wp_region_ext (by kernel_rfl) (by kernel_rfl) ?_
          repeat (go_big_quiet_step (fail))
          refine wpQuiet_nil ?_
          intro wz hz
          have HZZ := Lib.hid (ext_of hz)
          have S2 := Lib.hid (S1.out.ext HZZ.out)
          have FIN2 := Lib.hid (fun (w3 : World) (v : Value) (h : w3.ownsRow wz.heap.size 3 1 v (0 + j + 1 + 0) ([] ++ o.map natV ++ [.int .i64 (j : Int)] ++ [])) => FIN.out w3 v (own_base h (Ext.size HZZ.out)))
          clear hz a0 a1 a2 a3
          rcases A3 with _ | ad
          · have hj0 : j = 0 := by
              rcases Nat.eq_zero_or_pos j with h0 | h0
              · exact h0
              · obtain ⟨ad, u, hA, _⟩ := S2.out.at_ h0
                cases hA
            subst hj0
            go_wp2
            have tok1 : True := trivial
            have tok2 : True := trivial
            have tok3 : True := trivial
            go_region_law (first
              | (have _t := tok1; refine step_app _ rfl _ _ 40 rfl wz.heap.size 3 i0 _ 8 Tryz.underlying40 hi hz0 hz1 hz2 rfl _ 0 [] rfl (by first | exact (own_empty wz 3).drew | exact ((own_empty wz 3).alloc _).drew | exact own3T wz _ _) _ 0 _ (o.map natV) rfl (S2.out.ext (by first | exact ((Ext.refl wz).alloc _).drew | exact (((Ext.refl wz).alloc _).alloc _).drew)) (natV_one _) (by unfold maxLen; omega) (by omega) (by simp; try omega) ?_; intro v1 w1' hown1 hgrow1; have HX1 := Lib.hid (ext_grown (a := wz) (B := wz.heap.size) (by first | exact ((Ext.refl wz).alloc _).drew | exact (((Ext.refl wz).alloc _).alloc _).drew) (by first | exact (own_empty wz 3).drew | exact ((own_empty wz 3).alloc _).drew | exact own3T wz _ _) (Nat.le_refl _) hgrow1); (first | have HZ1 := Lib.hid (one_keptT (row := some wz.heap.size) hgrow1 (two_new wz _ _) (by simp)) | have HZ1 := Lib.hid (one_keptT (row := some (wz.heap.size + 1)) hgrow1 (two_old wz _ _) (by simp)) | skip); have HO1 := Lib.hid hown1; clear hown1 hgrow1 tok1)
              | (have _t := tok2; (refine step_app _ rfl _ _ 40 rfl wz.heap.size 3 i0 _ 8 Tryz.underlying40 hi hz0 hz1 hz2 rfl _ (0 + 0) _ rfl (by first | exact HO1.out | exact HO1.out.alloc _) _ 1 _ [.int .i64 ((0 : Nat) : Int)] rfl (by first | exact HZ1.out | exact Sl.one _ _ _) (by simp [Value.oneCell']) (by unfold maxLen; omega) (by omega) (by have := Ext.size HX1.out; first | omega | (simp; omega)) ?_); intro v2 w2' hown2 hgrow2; have HX2 := Lib.hid (ext_grown (a := wz) (B := wz.heap.size) (by first | exact HX1.out | exact HX1.out.alloc _) (by first | exact HO1.out | exact HO1.out.alloc _) (Nat.le_refl _) hgrow2); have HO2 := Lib.hid hown2; clear hown2 hgrow2 tok2)
              | (have _t := tok3; refine step_app _ rfl _ _ 40 rfl wz.heap.size 3 i0 _ 8 Tryz.underlying40 hi hz0 hz1 hz2 rfl _ (0 + 0 + 1) _ rfl HO2.out _ (0) _ ([]) rfl (Sl.nil _ _) (by simp) (by unfold maxLen; omega) (by omega) (by have := Ext.size HX2.out; first | omega | (simp; omega)) ?_; intro v3 w3' hown3 hgrow3; have HX3 := Lib.hid (ext_grown (a := wz) (B := wz.heap.size) HX2.out HO2.out (Nat.le_refl _) hgrow3); have HO3 := Lib.hid hown3; clear hown3 hgrow3 tok3))
            all_goals
              go_wp2
              exact ⟨⟨0 + 1, _, by omega, by go_num, FIN2.out _ _ HO3.out, HNX.out, HWR.out.trans (HWJ.out.trans (HZZ.out.trans HX3.out))⟩, by simp [intOf]; omega⟩
          · by_cases hck : c3 = j
            all_goals
              go_wp2
              have tok1 : True := trivial
              have tok2 : True := trivial
              have tok3 : True := trivial
              go_region_law (first
                | (have _t := tok1; refine step_app _ rfl _ _ 40 rfl wz.heap.size 3 i0 _ 8 Tryz.underlying40 hi hz0 hz1 hz2 rfl _ 0 [] rfl (by first | exact (own_empty wz 3).drew | exact ((own_empty wz 3).alloc _).drew | exact own3T wz _ _) _ j _ (o.map natV) rfl (S2.out.ext (by first | exact ((Ext.refl wz).alloc _).drew | exact (((Ext.refl wz).alloc _).alloc _).drew)) (natV_one _) (by unfold maxLen; omega) (by omega) (by simp; try omega) ?_; intro v1 w1' hown1 hgrow1; have HX1 := Lib.hid (ext_grown (a := wz) (B := wz.heap.size) (by first | exact ((Ext.refl wz).alloc _).drew | exact (((Ext.refl wz).alloc _).alloc _).drew) (by first | exact (own_empty wz 3).drew | exact ((own_empty wz 3).alloc _).drew | exact own3T wz _ _) (Nat.le_refl _) hgrow1); (first | have HZ1 := Lib.hid (one_keptT (row := some wz.heap.size) hgrow1 (two_new wz _ _) (by simp)) | have HZ1 := Lib.hid (one_keptT (row := some (wz.heap.size + 1)) hgrow1 (two_old wz _ _) (by simp)) | skip); have HO1 := Lib.hid hown1; clear hown1 hgrow1 tok1)
                | (have _t := tok2; (refine step_app _ rfl _ _ 40 rfl wz.heap.size 3 i0 _ 8 Tryz.underlying40 hi hz0 hz1 hz2 rfl _ (0 + j) _ rfl (by first | exact HO1.out | exact HO1.out.alloc _) _ 1 _ [.int .i64 (j : Int)] rfl (by first | exact HZ1.out | exact Sl.one _ _ _) (by simp [Value.oneCell']) (by unfold maxLen; omega) (by omega) (by have := Ext.size HX1.out; first | omega | (simp; omega)) ?_); intro v2 w2' hown2 hgrow2; have HX2 := Lib.hid (ext_grown (a := wz) (B := wz.heap.size) (by first | exact HX1.out | exact HX1.out.alloc _) (by first | exact HO1.out | exact HO1.out.alloc _) (Nat.le_refl _) hgrow2); have HO2 := Lib.hid hown2; clear hown2 hgrow2 tok2)
                | (have _t := tok3; refine step_app _ rfl _ _ 40 rfl wz.heap.size 3 i0 _ 8 Tryz.underlying40 hi hz0 hz1 hz2 rfl _ (0 + j + 1) _ rfl HO2.out _ (0) _ ([]) rfl (Sl.nil _ _) (by simp) (by unfold maxLen; omega) (by omega) (by have := Ext.size HX2.out; first | omega | (simp; omega)) ?_; intro v3 w3' hown3 hgrow3; have HX3 := Lib.hid (ext_grown (a := wz) (B := wz.heap.size) HX2.out HO2.out (Nat.le_refl _) hgrow3); have HO3 := Lib.hid hown3; clear hown3 hgrow3 tok3))
              all_goals
                go_wp2
                exact ⟨⟨j + 1, _, by omega, by go_num, FIN2.out _ _ HO3.out, HNX.out, HWR.out.trans (HWJ.out.trans (HZZ.out.trans HX3.out))⟩, by simp [intOf]; omega⟩
    · have hkk : k = m2 := by omega
      subst hkk
      have hoo : o = orderP (l.map nearOf) x.t (ys.map (·.t)) := ordK_end HAP.out (by rw [List.length_map, hyl]; exact HO.out)
      obtain ⟨A3, c3, hu, hsl, hkc0⟩ := own_sl HOW.out
      subst hu
      have HSL := Lib.hid hsl
      have HD2 := Lib.hid (show D = (o, 0) from by rw [HOK.out, hoo, HXT.out, HMY.out])
      clear hsl hoo
      go_wp2
      go_ret2
      exact ⟨A3, k, c3, by rw [HD2.out]; rfl, by rw [HD2.out]; exact HSL.out, hkc0, HW1.out.trans HWR.out⟩
end Go.Proofs.YtkflpenpjnnhdaaGreatDoor
