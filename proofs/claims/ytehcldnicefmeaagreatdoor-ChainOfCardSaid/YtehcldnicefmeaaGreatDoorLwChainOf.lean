import Derived.Test.YtehcldnicefmeaaGreatDoorAw22
import Derived.Test.YtehcldnicefmeaaGreatDoorCq
import Derived.Test.YtehcldnicefmeaaGreatDoorCn
import Derived.Test.YtehcldnicefmeaaGreatDoorFd
import Derived.Test.YtehcldnicefmeaaGreatDoorNX4
import Derived.Test.YtehcldnicefmeaaGreatDoorFb
namespace Go.Proofs.YtehcldnicefmeaaGreatDoor.lawChainOf
open Go.ChangeShapes Go.WideShapes Go.ChangeAt Go.RowKit
open Go.ChangeMaps (open_string shut_string)
set_option linter.unusedSimpArgs false
set_option linter.unusedVariables false


set_option maxRecDepth 100000 in
set_option maxHeartbeats 8000000 in
theorem law (l : List Lc) (al : List Ali) (nl : List Nr) (L A N : Option Addr) (ln lc n c m d : Nat) (s : ByteArray) (w : World) (hm : Mx w) (hL : Lcs w L ln l) (hln : ln ≤ maxLen) (hok : ∀ x ∈ l, lcOK x) (hA : Als w A n al) (hn : n ≤ maxLen) (hz : ∀ a ∈ al, a.1.size ≤ reachBytes ∧ a.2.size ≤ reachBytes) (hN : Nrs w N m nl) (hmm : m ≤ maxLen) (hzn : ∀ a ∈ nl, a.f.size ≤ reachBytes ∧ a.o.size ≤ reachBytes) (hs : s.size ≤ maxLen) :
    Calls Tryz.prog 3 #[.agg #[.slice L ln lc, .slice A n c, .slice N m d], .string s] w (RetTrue w) := by
  have HX0 := Lib.hid ((Ext.refl w).alloc (.cells #[.slice L ln lc, .slice A n c, .slice N m d] 26))
  have HL := Lib.hid (hL.ext HX0.out)
  have hm0 := Lib.hid (hm.ext HX0.out)
  have HA := Lib.hid (hA.ext HX0.out)
  have HN := Lib.hid (hN.ext HX0.out)
  have KB := Lib.hid (AtC.new w #[.slice L ln lc, .slice A n c, .slice N m d] : AtC 26 _ _ _)
  have x0 := KB.out.cell 0 _ rfl
  have x1 := KB.out.cell 1 _ rfl
  have x2 := KB.out.cell 2 _ rfl
  have hf1 := fun W (h : Ext (w.alloc (.cells #[.slice L ln lc, .slice A n c, .slice N m d] 26)) W) => few22_any l al nl L A N ln lc n c m d W (HL.out.ext h) hln hok (HA.out.ext h) hn hz (HN.out.ext h) hmm hzn
  clear hL hA hN
  cases q0 : fewC l al nl with
  | false =>
   rw [q0] at hf1
   have HF1 := Lib.hid hf1
   clear q0 hf1
   go_enter Tryz.func3, Tryz.ntmps3
   go_wp2_with fail
   refine (awake_any _ (hm0.out.ext (Ext.refl _))).mono ?_
   rintro e w1 ⟨rfl, hw1⟩
   have HW1 := Lib.hid ((Ext.refl _).trans hw1)
   clear x0 x1 x2
   have x0 := (KB.out.ext HW1.out).cell 0 _ rfl
   have x1 := (KB.out.ext HW1.out).cell 1 _ rfl
   have x2 := (KB.out.ext HW1.out).cell 2 _ rfl
   clear hw1
   go_wp2_with fail
   refine (HF1.out _ HW1.out).mono ?_
   rintro e w2 ⟨rfl, hw2⟩
   have HW2 := Lib.hid (HW1.out.trans hw2)
   clear x0 x1 x2
   have x0 := (KB.out.ext HW2.out).cell 0 _ rfl
   have x1 := (KB.out.ext HW2.out).cell 1 _ rfl
   have x2 := (KB.out.ext HW2.out).cell 2 _ rfl
   clear hw2
   go_wp2_with fail
   refine (awake_any _ (hm0.out.ext HW2.out)).mono ?_
   rintro e w3 ⟨rfl, hw3⟩
   have HW3 := Lib.hid (HW2.out.trans hw3)
   clear x0 x1 x2
   have x0 := (KB.out.ext HW3.out).cell 0 _ rfl
   have x1 := (KB.out.ext HW3.out).cell 1 _ rfl
   have x2 := (KB.out.ext HW3.out).cell 2 _ rfl
   clear hw3
   go_wp2
   go_ret
   exact ⟨rfl, HX0.out.trans HW3.out⟩
  | true =>
   obtain ⟨g1, g2, g3, g4, g5⟩ := fewC_len q0
   have hl12 : ln ≤ 12 := by have := HL.out.len; omega
   have hn12 : n ≤ 12 := by have := HA.out.len; omega
   have hm30 : m ≤ 30 := by have := HN.out.len; omega
   have HZ1 := Lib.hid (show ∀ a ∈ al, a.1.size ≤ 60000 ∧ a.2.size ≤ 60000 from fun a ha => by have := g4 a ha; omega)
   have HZ2 := Lib.hid (show ∀ x ∈ l, x.t.size ≤ 60000 from fun x hx => by have := g2 x hx; omega)
   have HZ3 := Lib.hid (show ∀ x ∈ nl, x.f.size ≤ 1000000 ∧ x.o.size ≤ 1000000 from fun x hx => by have := g5 x hx; omega)
   clear g1 g2 g3 g4 g5
   rw [q0] at hf1
   have HF1 := Lib.hid hf1
   clear q0 hf1
   by_cases h100 : s.size ≤ 100
   rotate_left
   · have u100 : decide ((100 : Int) < (s.size : Int)) = true := by simp; omega
     go_enter Tryz.func3, Tryz.ntmps3
     go_wp2_with fail
     refine (awake_any _ (hm0.out.ext (Ext.refl _))).mono ?_
     rintro e w1 ⟨rfl, hw1⟩
     have HW1 := Lib.hid ((Ext.refl _).trans hw1)
     clear x0 x1 x2
     have x0 := (KB.out.ext HW1.out).cell 0 _ rfl
     have x1 := (KB.out.ext HW1.out).cell 1 _ rfl
     have x2 := (KB.out.ext HW1.out).cell 2 _ rfl
     clear hw1
     go_wp2_with fail
     refine (HF1.out _ HW1.out).mono ?_
     rintro e w2 ⟨rfl, hw2⟩
     have HW2 := Lib.hid (HW1.out.trans hw2)
     clear x0 x1 x2
     have x0 := (KB.out.ext HW2.out).cell 0 _ rfl
     have x1 := (KB.out.ext HW2.out).cell 1 _ rfl
     have x2 := (KB.out.ext HW2.out).cell 2 _ rfl
     clear hw2
     go_wp2_with fail
     refine (awake_any _ (hm0.out.ext HW2.out)).mono ?_
     rintro e w3 ⟨rfl, hw3⟩
     have HW3 := Lib.hid (HW2.out.trans hw3)
     clear x0 x1 x2
     have x0 := (KB.out.ext HW3.out).cell 0 _ rfl
     have x1 := (KB.out.ext HW3.out).cell 1 _ rfl
     have x2 := (KB.out.ext HW3.out).cell 2 _ rfl
     clear hw3
     go_wp2
     go_ret
     exact ⟨rfl, HX0.out.trans HW3.out⟩
   have u100 : decide ((100 : Int) < (s.size : Int)) = false := by simp; omega
   have hs60 : s.size ≤ 60000 := by omega
   have k1 := fun W (h : Ext (w.alloc (.cells #[.slice L ln lc, .slice A n c, .slice N m d] 26)) W) => tof_any l al L A N ln lc n c m d s W (hm0.out.ext h) (HL.out.ext h) (by omega) (HA.out.ext h) (by omega) HZ1.out HZ2.out hs60
   have k2 := fun W (h : Ext (w.alloc (.cells #[.slice L ln lc, .slice A n c, .slice N m d] 26)) W) => rof_any l al L A N ln lc n c m d s W (HL.out.ext h) (by omega) (HA.out.ext h) (by omega) HZ1.out HZ2.out hs60
   have hkl := of_len (T := l.map locOf) (al := al) (s := s.data.toList)
   generalize ofC (l.map locOf) al s.data.toList = D at k1 k2 hkl
   obtain ⟨r, e⟩ := D
   have K1 := Lib.hid k1
   have K2 := Lib.hid k2
   have KS := Lib.hid (fun (W : World) (A1 A2 : Option Addr) (n1 n2 c1 c2 : Nat) (h1 : Sl W A1 n1 (r.map strv)) (h2 : Sl W A2 n2 (r.map strv)) (g1 : n1 ≤ maxLen) (g2 : n2 ≤ maxLen) => samestr_any r r A1 A2 n1 n2 c1 c2 W h1 h2 g1 g2)
   have hrr : (r == r) = true := by simp
   rw [hrr] at KS
   rw [List.length_map, HL.out.len] at hkl
   have HKL := Lib.hid (show r.length ≤ 100000 from by simp only at hkl; omega)
   clear k1 k2 hrr hkl
   go_enter Tryz.func3, Tryz.ntmps3
   go_wp2_with fail
   refine (awake_any _ (hm0.out.ext (Ext.refl _))).mono ?_
   rintro e w1 ⟨rfl, hw1⟩
   have HW1 := Lib.hid ((Ext.refl _).trans hw1)
   clear x0 x1 x2
   have x0 := (KB.out.ext HW1.out).cell 0 _ rfl
   have x1 := (KB.out.ext HW1.out).cell 1 _ rfl
   have x2 := (KB.out.ext HW1.out).cell 2 _ rfl
   clear hw1
   go_wp2_with fail
   refine (HF1.out _ HW1.out).mono ?_
   rintro e w2 ⟨rfl, hw2⟩
   have HW2 := Lib.hid (HW1.out.trans hw2)
   clear x0 x1 x2
   have x0 := (KB.out.ext HW2.out).cell 0 _ rfl
   have x1 := (KB.out.ext HW2.out).cell 1 _ rfl
   have x2 := (KB.out.ext HW2.out).cell 2 _ rfl
   clear hw2
   go_wp2_with fail
   refine (K1.out _ HW2.out).mono ?_
   rintro e1 wa ⟨A1, n1, c1, rfl, hs1, hc1, hwa⟩
   have HSA := Lib.hid hs1
   have HWA := Lib.hid (HW2.out.trans hwa)
   clear x0 x1 x2
   have x0 := (KB.out.ext HWA.out).cell 0 _ rfl
   have x1 := (KB.out.ext HWA.out).cell 1 _ rfl
   have x2 := (KB.out.ext HWA.out).cell 2 _ rfl
   clear hs1 hwa
   go_wp2_with fail
   refine (K2.out _ HWA.out).mono ?_
   rintro e2 wb ⟨A2, n2, c2, rfl, hs2, hc2, hwb⟩
   have HSB := Lib.hid hs2
   have HSA2 := Lib.hid (HSA.out.ext hwb)
   have HWB := Lib.hid (HWA.out.trans hwb)
   clear hs2 hwb x0 x1 x2
   simp only
   go_wp2_with (go_at_call 15; refine (KS.out _ _ _ _ _ _ _ HSA2.out HSB.out (tags_max HSA2.out HKL.out) (tags_max HSB.out HKL.out)).mono ?_; rintro e3 wc hq; obtain ⟨rfl, hwc⟩ := hq; have HWC := Lib.hid hwc; clear hwc)
   go_ret
   exact ⟨by first | rfl | simp | simp [*], HX0.out.trans (HWB.out.trans HWC.out)⟩

end Go.Proofs.YtehcldnicefmeaaGreatDoor.lawChainOf
