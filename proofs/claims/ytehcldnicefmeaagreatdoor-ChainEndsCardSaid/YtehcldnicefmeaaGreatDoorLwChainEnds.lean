import Derived.Test.YtehcldnicefmeaaGreatDoorAw22
import Derived.Test.YtehcldnicefmeaaGreatDoorCq
import Derived.Test.YtehcldnicefmeaaGreatDoorCn
import Derived.Test.YtehcldnicefmeaaGreatDoorFd
import Derived.Test.YtehcldnicefmeaaGreatDoorNX4
import Derived.Test.YtehcldnicefmeaaGreatDoorFb
import Derived.Test.YtehcldnicefmeaaGreatDoorNX5
namespace Go.Proofs.YtehcldnicefmeaaGreatDoor.lawChainEnds
open Go.ChangeShapes Go.WideShapes Go.ChangeAt Go.RowKit
open Go.ChangeMaps (open_string shut_string)
set_option linter.unusedSimpArgs false
set_option linter.unusedVariables false


theorem of_mem {T : List LocP} {al : List Ali} {s x : BytesC} (h : x ∈ (ofC T al s).1) : ∃ y ∈ T, x = y.1 := by
  unfold ofC at h
  obtain ⟨i, hi, rfl⟩ := List.mem_map.1 h
  have hlt := locs_lt i hi
  exact ⟨T[i], List.getElem_mem hlt, by rw [tg_get (List.getElem?_eq_getElem hlt)]⟩
def EndI (w4 : World) (n : Nat) (i : Value) (wr : World) : Prop := ∃ k : Nat, k ≤ n ∧ i = .int .i64 k ∧ Ext w4 wr
def RE18 (wr : World) (t : List BytesC) (v9 v10 : Value) (wx : World) : Prop := ∃ A n c, v9 = .slice A n c ∧ v10 = .int .i64 0 ∧ Sl wx A n (t.map strv) ∧ Ext wr wx
def EndJ (w4 : World) (k : Nat) (i : Value) (wr : World) : Prop := ∃ j : Nat, j ≤ k ∧ i = .int .i64 j ∧ Ext w4 wr
set_option maxRecDepth 100000 in
set_option maxHeartbeats 8000000 in
theorem law (l : List Lc) (al : List Ali) (nl : List Nr) (L A N : Option Addr) (ln lc n c m d : Nat) (s : ByteArray) (w : World) (hm : Mx w) (hL : Lcs w L ln l) (hln : ln ≤ maxLen) (hok : ∀ x ∈ l, lcOK x) (hA : Als w A n al) (hn : n ≤ maxLen) (hz : ∀ a ∈ al, a.1.size ≤ reachBytes ∧ a.2.size ≤ reachBytes) (hN : Nrs w N m nl) (hmm : m ≤ maxLen) (hzn : ∀ a ∈ nl, a.f.size ≤ reachBytes ∧ a.o.size ≤ reachBytes) (hs : s.size ≤ maxLen) :
    Calls Tryz.prog 4 #[.agg #[.slice L ln lc, .slice A n c, .slice N m d], .string s] w (RetTrue w) := by
  have HX0 := Lib.hid ((Ext.refl w).alloc (.cells #[.slice L ln lc, .slice A n c, .slice N m d] 26))
  have HL := Lib.hid (hL.ext HX0.out)
  have hm0 := Lib.hid (hm.ext HX0.out)
  have HA := Lib.hid (hA.ext HX0.out)
  have HN := Lib.hid (hN.ext HX0.out)
  have KB := Lib.hid (AtC.new w #[.slice L ln lc, .slice A n c, .slice N m d] : AtC 26 _ _ _)
  have x0 := KB.out.cell 0 _ rfl
  have x1 := KB.out.cell 1 _ rfl
  have x2 := KB.out.cell 2 _ rfl
  have hf1 := fun W (h : Ext (w.alloc (.cells #[.slice L ln lc, .slice A n c, .slice N m d] 26)) W) => few22_any l al nl L A N ln lc n c m d W (HL.out.ext h) hln hok (HA.out.ext h) hn hz (HN.out.ext h) hmm hzn
  clear hL hA hN
  cases q0 : fewC l al nl with
  | false =>
   rw [q0] at hf1
   have HF1 := Lib.hid hf1
   clear q0 hf1
   go_enter Tryz.func4, Tryz.ntmps4
   go_wp2_with fail
   refine (awake_any _ (hm0.out.ext (Ext.refl _))).mono ?_
   rintro e w1 ⟨rfl, hw1⟩
   have HW1 := Lib.hid ((Ext.refl _).trans hw1)
   clear x0 x1 x2
   have x0 := (KB.out.ext HW1.out).cell 0 _ rfl
   have x1 := (KB.out.ext HW1.out).cell 1 _ rfl
   have x2 := (KB.out.ext HW1.out).cell 2 _ rfl
   clear hw1
   go_wp2_with fail
   refine (HF1.out _ HW1.out).mono ?_
   rintro e w2 ⟨rfl, hw2⟩
   have HW2 := Lib.hid (HW1.out.trans hw2)
   clear x0 x1 x2
   have x0 := (KB.out.ext HW2.out).cell 0 _ rfl
   have x1 := (KB.out.ext HW2.out).cell 1 _ rfl
   have x2 := (KB.out.ext HW2.out).cell 2 _ rfl
   clear hw2
   go_wp2_with fail
   refine (awake_any _ (hm0.out.ext HW2.out)).mono ?_
   rintro e w3 ⟨rfl, hw3⟩
   have HW3 := Lib.hid (HW2.out.trans hw3)
   clear x0 x1 x2
   have x0 := (KB.out.ext HW3.out).cell 0 _ rfl
   have x1 := (KB.out.ext HW3.out).cell 1 _ rfl
   have x2 := (KB.out.ext HW3.out).cell 2 _ rfl
   clear hw3
   go_wp2
   go_ret
   exact ⟨rfl, HX0.out.trans HW3.out⟩
  | true =>
   obtain ⟨g1, g2, g3, g4, g5⟩ := fewC_len q0
   have hl12 : ln ≤ 12 := by have := HL.out.len; omega
   have hn12 : n ≤ 12 := by have := HA.out.len; omega
   have hm30 : m ≤ 30 := by have := HN.out.len; omega
   have HZ1 := Lib.hid (show ∀ a ∈ al, a.1.size ≤ 60000 ∧ a.2.size ≤ 60000 from fun a ha => by have := g4 a ha; omega)
   have HZ2 := Lib.hid (show ∀ x ∈ l, x.t.size ≤ 60000 from fun x hx => by have := g2 x hx; omega)
   have HZ3 := Lib.hid (show ∀ x ∈ nl, x.f.size ≤ 1000000 ∧ x.o.size ≤ 1000000 from fun x hx => by have := g5 x hx; omega)
   clear g1 g2 g3 g4 g5
   rw [q0] at hf1
   have HF1 := Lib.hid hf1
   clear q0 hf1
   by_cases h100 : s.size ≤ 100
   rotate_left
   · have u100 : decide ((100 : Int) < (s.size : Int)) = true := by simp; omega
     go_enter Tryz.func4, Tryz.ntmps4
     go_wp2_with fail
     refine (awake_any _ (hm0.out.ext (Ext.refl _))).mono ?_
     rintro e w1 ⟨rfl, hw1⟩
     have HW1 := Lib.hid ((Ext.refl _).trans hw1)
     clear x0 x1 x2
     have x0 := (KB.out.ext HW1.out).cell 0 _ rfl
     have x1 := (KB.out.ext HW1.out).cell 1 _ rfl
     have x2 := (KB.out.ext HW1.out).cell 2 _ rfl
     clear hw1
     go_wp2_with fail
     refine (HF1.out _ HW1.out).mono ?_
     rintro e w2 ⟨rfl, hw2⟩
     have HW2 := Lib.hid (HW1.out.trans hw2)
     clear x0 x1 x2
     have x0 := (KB.out.ext HW2.out).cell 0 _ rfl
     have x1 := (KB.out.ext HW2.out).cell 1 _ rfl
     have x2 := (KB.out.ext HW2.out).cell 2 _ rfl
     clear hw2
     go_wp2_with fail
     refine (awake_any _ (hm0.out.ext HW2.out)).mono ?_
     rintro e w3 ⟨rfl, hw3⟩
     have HW3 := Lib.hid (HW2.out.trans hw3)
     clear x0 x1 x2
     have x0 := (KB.out.ext HW3.out).cell 0 _ rfl
     have x1 := (KB.out.ext HW3.out).cell 1 _ rfl
     have x2 := (KB.out.ext HW3.out).cell 2 _ rfl
     clear hw3
     go_wp2
     go_ret
     exact ⟨rfl, HX0.out.trans HW3.out⟩
   have u100 : decide ((100 : Int) < (s.size : Int)) = false := by simp; omega
   have hs60 : s.size ≤ 60000 := by omega
   rcases Nat.eq_zero_or_pos n with hn0 | hn0
   rotate_left
   · have hn0I : decide ((0 : Int) < (n : Int)) = true := by simp; omega
     go_enter Tryz.func4, Tryz.ntmps4
     go_wp2_with fail
     refine (awake_any _ (hm0.out.ext (Ext.refl _))).mono ?_
     rintro e w1 ⟨rfl, hw1⟩
     have HW1 := Lib.hid ((Ext.refl _).trans hw1)
     clear x0 x1 x2
     have x0 := (KB.out.ext HW1.out).cell 0 _ rfl
     have x1 := (KB.out.ext HW1.out).cell 1 _ rfl
     have x2 := (KB.out.ext HW1.out).cell 2 _ rfl
     clear hw1
     go_wp2_with fail
     refine (HF1.out _ HW1.out).mono ?_
     rintro e w2 ⟨rfl, hw2⟩
     have HW2 := Lib.hid (HW1.out.trans hw2)
     clear x0 x1 x2
     have x0 := (KB.out.ext HW2.out).cell 0 _ rfl
     have x1 := (KB.out.ext HW2.out).cell 1 _ rfl
     have x2 := (KB.out.ext HW2.out).cell 2 _ rfl
     clear hw2
     go_wp2_with fail
     refine (awake_any _ (hm0.out.ext HW2.out)).mono ?_
     rintro e w3 ⟨rfl, hw3⟩
     have HW3 := Lib.hid (HW2.out.trans hw3)
     clear x0 x1 x2
     have x0 := (KB.out.ext HW3.out).cell 0 _ rfl
     have x1 := (KB.out.ext HW3.out).cell 1 _ rfl
     have x2 := (KB.out.ext HW3.out).cell 2 _ rfl
     clear hw3
     go_wp2
     go_ret
     exact ⟨rfl, HX0.out.trans HW3.out⟩
   subst hn0
   obtain rfl : al = [] := List.eq_nil_of_length_eq_zero (by have := HA.out.len; omega)
   have kx := fun (x : ByteArray) (hx : x.size ≤ 60000) W (h : Ext (w.alloc (.cells #[.slice L ln lc, .slice A 0 c, .slice N m d] 26)) W) => tof_any l [] L A N ln lc 0 c m d x W (hm0.out.ext h) (HL.out.ext h) (by omega) (HA.out.ext h) (by omega) HZ1.out HZ2.out hx
   have k1 := kx s hs60
   have KX := Lib.hid kx
   have hsh := fun h => of_shape (T := l.map locOf) (al := []) (s := s.data.toList) h
   have hrest := fun h j x hj => of_rest (T := l.map locOf) (s := s.data.toList) (j := j) (x := x) h hj
   have herr := fun h => of_err (T := l.map locOf) (al := []) (s := s.data.toList) h
   have hlen := of_len (T := l.map locOf) (al := []) (s := s.data.toList)
   have hmem := fun x h => of_mem (T := l.map locOf) (al := []) (s := s.data.toList) (x := x) h
   rw [List.length_map, HL.out.len] at hlen
   generalize ofC (l.map locOf) [] s.data.toList = D at k1 hsh hrest herr hlen hmem
   obtain ⟨r, e⟩ := D
   simp only at hsh hrest herr hlen hmem
   have HME := Lib.hid (show ∀ x ∈ r, x.length ≤ 60000 from fun x hx => by
     obtain ⟨y, hy, rfl⟩ := hmem x hx
     obtain ⟨z, hz, rfl⟩ := List.mem_map.1 hy
     exact HZ2.out z hz)
   have K1 := Lib.hid k1
   clear k1 kx hmem
   by_cases he : e = 0
   rotate_left
   · have hnz : (e == 0) = false := by simpa using he
     go_enter Tryz.func4, Tryz.ntmps4
     go_wp2_with fail
     refine (awake_any _ (hm0.out.ext (Ext.refl _))).mono ?_
     rintro e w1 ⟨rfl, hw1⟩
     have HW1 := Lib.hid ((Ext.refl _).trans hw1)
     clear x0 x1 x2
     have x0 := (KB.out.ext HW1.out).cell 0 _ rfl
     have x1 := (KB.out.ext HW1.out).cell 1 _ rfl
     have x2 := (KB.out.ext HW1.out).cell 2 _ rfl
     clear hw1
     go_wp2_with fail
     refine (HF1.out _ HW1.out).mono ?_
     rintro e w2 ⟨rfl, hw2⟩
     have HW2 := Lib.hid (HW1.out.trans hw2)
     clear x0 x1 x2
     have x0 := (KB.out.ext HW2.out).cell 0 _ rfl
     have x1 := (KB.out.ext HW2.out).cell 1 _ rfl
     have x2 := (KB.out.ext HW2.out).cell 2 _ rfl
     clear hw2
     go_wp2_with fail
     refine (K1.out _ HW2.out).mono ?_
     rintro e1 wa ⟨A1, n1, c1, rfl, hs1, hc1, hwa⟩
     have HSA := Lib.hid hs1
     have HWA := Lib.hid (HW2.out.trans hwa)
     have hnr : r.length = n1 := by have h := hs1.1; rwa [List.length_map] at h
     clear hs1 hwa
     have hr0 := herr he
     subst hr0
     have hn1 : n1 = 0 := by simpa using hnr.symm
     subst hn1
     clear x0 x1 x2
     simp only
     go_wp2
     go_ret
     exact ⟨by first | rfl | simp | simp [*], HX0.out.trans HWA.out⟩
   subst he
   obtain ⟨hlast, hnd⟩ := hsh rfl
   have HLAST := Lib.hid hlast
   have HND := Lib.hid hnd
   have HREST := Lib.hid (hrest rfl)
   clear hsh hrest herr hlast hnd
   go_enter Tryz.func4, Tryz.ntmps4
   go_wp2_with fail
   refine (awake_any _ (hm0.out.ext (Ext.refl _))).mono ?_
   rintro e w1 ⟨rfl, hw1⟩
   have HW1 := Lib.hid ((Ext.refl _).trans hw1)
   clear x0 x1 x2
   have x0 := (KB.out.ext HW1.out).cell 0 _ rfl
   have x1 := (KB.out.ext HW1.out).cell 1 _ rfl
   have x2 := (KB.out.ext HW1.out).cell 2 _ rfl
   clear hw1
   go_wp2_with fail
   refine (HF1.out _ HW1.out).mono ?_
   rintro e w2 ⟨rfl, hw2⟩
   have HW2 := Lib.hid (HW1.out.trans hw2)
   clear x0 x1 x2
   have x0 := (KB.out.ext HW2.out).cell 0 _ rfl
   have x1 := (KB.out.ext HW2.out).cell 1 _ rfl
   have x2 := (KB.out.ext HW2.out).cell 2 _ rfl
   clear hw2
   go_wp2_with fail
   refine (K1.out _ HW2.out).mono ?_
   rintro e1 wa ⟨A1, n1, c1, rfl, hs1, hc1, hwa⟩
   have HSA := Lib.hid hs1
   have HWA := Lib.hid (HW2.out.trans hwa)
   have hnr : r.length = n1 := by have h := hs1.1; rwa [List.length_map] at h
   clear hs1 hwa
   clear x0 x1 x2
   have x0 := (KB.out.ext HWA.out).cell 0 _ rfl
   have x1 := (KB.out.ext HWA.out).cell 1 _ rfl
   have x2 := (KB.out.ext HWA.out).cell 2 _ rfl
   have HNR := Lib.hid hnr
   have hn1b : n1 ≤ 12 := by omega
   have h1n : 1 ≤ n1 := by
     rcases Nat.eq_zero_or_pos n1 with h | h
     · exfalso
       have hr : r = [] := List.eq_nil_of_length_eq_zero (by rw [hnr, h])
       have hl := HLAST.out
       rw [hr] at hl
       cases hl
     · exact h
   have hn1z : ((n1 : Int) == 0) = false := by simp; omega
   obtain ⟨ad, q, rfl, hq, hcq⟩ := HSA.out.at_map (show n1 - 1 < n1 by omega)
   have hqu : q = undP := by
     have hl := HLAST.out
     rw [List.getLast?_eq_getElem?, hnr, hq] at hl
     injection hl
   subst hqu
   have hcq2 : wa.cell? (ad.add (n1 - 1)) = some (.string ⟨#[117, 110, 100]⟩) := hcq
   have hI : ((n1 : Int) - 1).toNat = n1 - 1 := by omega
   have h1I : (1 : Int) ≤ (n1 : Int) := by omega
   have hltI : (n1 : Int) - 1 < (n1 : Int) := by omega
   have hz1I : (0 : Int) ≤ (n1 : Int) - 1 := by omega
   have hwr : IntKind.i64.wrap ((n1 : Int) - 1) = (n1 : Int) - 1 := by rw [IntKind.wrap_i64]; omega
   clear hq hcq hnr
   simp only
   go_wp2_with fail
   go_loopw [7] (EndI wa n1) (fun i _ => n1 - (intOf i).toNat)
   case atStart => exact ⟨0, Nat.zero_le _, rfl, Ext.refl _⟩
   case round =>
     obtain ⟨k, hk, rfl, hw⟩ := hrel
     obtain ⟨wo, rfl⟩ : ∃ wo : World, wo = wr := ⟨_, rfl⟩
     have HWO := Lib.hid hw
     clear hw hcq2 hI h1I hltI hz1I hwr hn1z x0 x1 x2
     by_cases hkn : k < n1
     · have hkI : (k : Int) < (n1 : Int) := by omega
       go_wp2_with fail
       go_loopw [8] (EndJ wa k) (fun i _ => k - (intOf i).toNat)
       case atStart => exact ⟨0, Nat.zero_le _, rfl, HWO.out⟩
       case round =>
         obtain ⟨j, hj, rfl, hw⟩ := hrel
         have HW := Lib.hid hw
         clear hw
         obtain ⟨ad', x, e1, hx, hcx⟩ := (HSA.out.ext HW.out).at_map hkn
         injection e1 with e1
         subst e1
         obtain ⟨xb, hx1, hx2⟩ := strv_b x
         rw [hx1] at hcx
         by_cases hjk : j < k
         · obtain ⟨ad', y, e1, hy, hcy⟩ := (HSA.out.ext HW.out).at_map (show j < n1 by omega)
           injection e1 with e1
           subst e1
           obtain ⟨yb, hy1, hy2⟩ := strv_b y
           rw [hy1] at hcy
           have hjI : (j : Int) < (k : Int) := by omega
           have hjI2 : (j : Int) < (n1 : Int) := by omega
           have hne : (yb.toList == xb.toList) = false := by
             rw [eq_b, hy2, hx2]
             rw [beq_eq_false_iff_ne]
             intro h
             subst h
             have h1 := (List.getElem?_eq_some_iff.1 hx)
             have h2 := (List.getElem?_eq_some_iff.1 hy)
             have h3 := List.pairwise_iff_getElem.1 HND.out j k h2.1 h1.1 hjk
             exact h3 (by rw [h1.2, h2.2])
           clear hx hy hx1 hx2 hy1 hy2
           have q1 : ∀ v : ExtW wr, v.v.cell? (ad.add k) = some (.string xb) := fun v => (Ext.cell v.h (World.block_lt_of_cell? wr _ hcx)).trans hcx
           have q2 : ∀ v : ExtW wr, v.v.cell? (ad.add j) = some (.string yb) := fun v => (Ext.cell v.h (World.block_lt_of_cell? wr _ hcy)).trans hcy
           go_wp2_with fail
           refine wp_region_ext (by kernel_rfl) (by kernel_rfl) ?_
           repeat (go_big_quiet_step (fail))
           refine wpQuiet_nil ?_
           intro wx hwx
           have HXX := Lib.hid (HW.out.trans (ext_of hwx))
           clear hwx q1 q2 hcx hcy
           go_wp2
           exact ⟨⟨j + 1, by omega, by go_num, HXX.out⟩, by simp [intOf]; omega⟩
         · have hjj : j = k := by omega
           subst hjj
           have HSW := Lib.hid (show ∀ X, Ext wr X → (X.cell? ⟨w.heap.size, 0, none⟩ = some (.slice L ln lc) ∧ X.cell? ⟨w.heap.size, 1, none⟩ = some (.slice A 0 c) ∧ X.cell? ⟨w.heap.size, 2, none⟩ = some (.slice N m d) ∧ X.cell? (ad.add j) = some (.string xb)) from fun X h =>
             ⟨(KB.out.ext (HWA.out.trans (HW.out.trans h))).cell 0 _ rfl, (KB.out.ext (HWA.out.trans (HW.out.trans h))).cell 1 _ rfl, (KB.out.ext (HWA.out.trans (HW.out.trans h))).cell 2 _ rfl, (Ext.cell h (World.block_lt_of_cell? wr _ hcx)).trans hcx⟩)
           have hof := HREST.out j x hx
           rw [← hx2] at hof
           have hxs : xb.size ≤ 60000 := by have h := HME.out x (List.mem_of_getElem? hx); rw [← hx2] at h; exact h
           have K9 := fun (X : World) (h : Ext wr X) => KX.out xb hxs X (HWA.out.trans (HW.out.trans h))
           rw [hof] at K9
           have HK9 := Lib.hid K9
           have hdl : (r.drop j).length = n1 - j := by rw [List.length_drop, HNR.out]
           have HDL := Lib.hid (show Sl wr (some (ad.add j)) (n1 - j) ((r.drop j).map strv) from by rw [List.map_drop]; exact (HSA.out.ext HW.out).drop j (by omega))
           have hrr : (r.drop j == r.drop j) = true := by simp
           have HRR := Lib.hid hrr
           have hjc : (j : Int) ≤ (c1 : Int) := by omega
           have hjn2 : (j : Int) ≤ (n1 : Int) := by omega
           have hcj : ¬ c1 = j := by omega
           have HLE := Lib.hid (show (r.drop j).length = n1 - j from hdl)
           clear hx hx1 hx2 K9 hof hrr hdl
           obtain ⟨x0, x1, x2, x3⟩ := HSW.out wr (Ext.refl _)
           go_upto_region 18 with (fail)
           go_cut [9, 10] (RE18 wr (r.drop j))
           case first =>
             clear x0 x1 x2 x3 hcx
             go_region_held3 (fun w' => w'.cell? ⟨w.heap.size, 0, none⟩ = some (.slice L ln lc) ∧ w'.cell? ⟨w.heap.size, 1, none⟩ = some (.slice A 0 c) ∧ w'.cell? ⟨w.heap.size, 2, none⟩ = some (.slice N m d) ∧ w'.cell? (ad.add j) = some (.string xb))
               (first | exact HSW.out _ ((Ext.refl wr).drew.trans hw9) | exact HSW.out _ ((Ext.refl wr).drew) | go_keep)
               (first
                 | (go_at_call 13; refine (HK9.out _ (Ext.refl wr).drew).mono ?_; rintro e9 w9 ⟨A9, n9, c9, rfl, hs9, hc9, hw9⟩)
                 | fail)
             all_goals go_wp2
             all_goals go_meet
             all_goals exact ⟨A9, n9, c9, rfl, rfl, hs9, (Ext.refl wr).drew.trans hw9⟩
           case rest =>
           obtain ⟨A9, n9, c9, rfl, rfl, hs9, hw9⟩ := hcut
           have HS9 := Lib.hid hs9
           have HW9 := Lib.hid (HW.out.trans hw9)
           have HDL9 := Lib.hid (HDL.out.ext hw9)
           clear hs9 hw9 x0 x1 x2 x3 hcx
           have HN9 := Lib.hid (show n9 ≤ maxLen from by have h := HS9.out.1; have h2 := HLE.out; rw [List.length_map] at h; unfold maxLen; omega)
           go_wp2_with (go_at_call 15; refine (samestr_any (r.drop j) (r.drop j) _ _ _ _ _ _ _ HS9.out HDL9.out HN9.out (by unfold maxLen; omega)).mono ?_; rintro e8 w8 ⟨rfl, hw8⟩; rw [HRR.out]; have HW8 := Lib.hid (HW9.out.trans hw8); clear hw8)
           exact ⟨⟨j + 1, by omega, by go_num, HW8.out⟩, by simp [intOf]; omega⟩
     · have hkk : k = n1 := by omega
       subst hkk
       go_wp2
       go_ret
       exact ⟨by first | rfl | simp | simp [*], HX0.out.trans (HWA.out.trans HWO.out)⟩

end Go.Proofs.YtehcldnicefmeaaGreatDoor.lawChainEnds
