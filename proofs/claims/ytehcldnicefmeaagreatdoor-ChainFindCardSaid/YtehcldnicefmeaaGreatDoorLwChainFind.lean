import Derived.Test.YtehcldnicefmeaaGreatDoorAw22
import Derived.Test.YtehcldnicefmeaaGreatDoorCq
import Derived.Test.YtehcldnicefmeaaGreatDoorCn
import Derived.Test.YtehcldnicefmeaaGreatDoorFd
import Derived.Test.YtehcldnicefmeaaGreatDoorFb
import Derived.Test.YtehcldnicefmeaaGreatDoorFc
namespace Go.Proofs.YtehcldnicefmeaaGreatDoor.lawChainFind
open Go.ChangeShapes Go.WideShapes Go.ChangeAt Go.RowKit
open Go.ChangeMaps (open_string shut_string)
set_option linter.unusedSimpArgs false
set_option linter.unusedVariables false


set_option maxRecDepth 100000 in
set_option maxHeartbeats 8000000 in
theorem law (l : List Lc) (al : List Ali) (nl : List Nr) (L A N : Option Addr) (ln lc n c m d : Nat) (ct : List Ct) (E : Option Addr) (en ec : Nat) (s id : ByteArray) (w : World) (hm : Mx w) (hL : Lcs w L ln l) (hln : ln ≤ maxLen) (hok : ∀ x ∈ l, lcOK x) (hA : Als w A n al) (hn : n ≤ maxLen) (hz : ∀ a ∈ al, a.1.size ≤ reachBytes ∧ a.2.size ≤ reachBytes) (hN : Nrs w N m nl) (hmm : m ≤ maxLen) (hzn : ∀ a ∈ nl, a.f.size ≤ reachBytes ∧ a.o.size ≤ reachBytes) (hE : Cts w E en ct) (hen : en ≤ maxLen) (hes : ∀ x ∈ ct, x.n 2 ≤ maxLen) (hs : s.size ≤ reachBytes) :
    Calls Tryz.prog 5 #[.agg #[.slice L ln lc, .slice A n c, .slice N m d], .slice E en ec, .agg #[.string s, .string id]] w (RetTrue w) := by
  have HE := Lib.hid (hE.ext ((Ext.refl w).alloc (.cells #[.slice L ln lc, .slice A n c, .slice N m d] 26)|>.alloc (.cells #[.string s, .string id] 37)))
  have hfk := fun W (h : Ext ((w.alloc (.cells #[.slice L ln lc, .slice A n c, .slice N m d] 26)).alloc (.cells #[.string s, .string id] 37)) W) => fewk_any ct E en ec W (HE.out.ext h) hen hes
  clear hE
  have HFK := Lib.hid hfk
  clear hfk
  have HX0 := Lib.hid (((Ext.refl w).alloc (.cells #[.slice L ln lc, .slice A n c, .slice N m d] 26)).alloc (.cells #[.string s, .string id] 37))
  have HL := Lib.hid (hL.ext HX0.out)
  have hm0 := Lib.hid (hm.ext HX0.out)
  have HA := Lib.hid (hA.ext HX0.out)
  have HN := Lib.hid (hN.ext HX0.out)
  have KB := Lib.hid ((AtC.new w #[.slice L ln lc, .slice A n c, .slice N m d] : AtC 26 _ _ _).alloc (.cells #[.string s, .string id] 37))
  have KQ := Lib.hid (show AtC 37 ((w.alloc (.cells #[.slice L ln lc, .slice A n c, .slice N m d] 26)).alloc (.cells #[.string s, .string id] 37)) (w.heap.size + 1) #[.string s, .string id] from by
    have h := (AtC.new (w.alloc (.cells #[.slice L ln lc, .slice A n c, .slice N m d] 26)) #[.string s, .string id] : AtC 37 _ _ _)
    rwa [World.size_alloc] at h)
  have y0 := KQ.out.cell 0 _ rfl
  have y1 := KQ.out.cell 1 _ rfl
  have x0 := KB.out.cell 0 _ rfl
  have x1 := KB.out.cell 1 _ rfl
  have x2 := KB.out.cell 2 _ rfl
  have hf1 := fun W (h : Ext ((w.alloc (.cells #[.slice L ln lc, .slice A n c, .slice N m d] 26)).alloc (.cells #[.string s, .string id] 37)) W) => few22_any l al nl L A N ln lc n c m d W (HL.out.ext h) hln hok (HA.out.ext h) hn hz (HN.out.ext h) hmm hzn
  clear hL hA hN
  cases q0 : fewC l al nl with
  | false =>
   rw [q0] at hf1
   have HF1 := Lib.hid hf1
   clear q0 hf1
   go_enter Tryz.func5, Tryz.ntmps5
   go_wp2_with fail
   refine (awake_any _ (hm0.out.ext (Ext.refl _))).mono ?_
   rintro e w1 ⟨rfl, hw1⟩
   have HW1 := Lib.hid ((Ext.refl _).trans hw1)
   clear x0 x1 x2 y0 y1
   have x0 := (KB.out.ext HW1.out).cell 0 _ rfl
   have x1 := (KB.out.ext HW1.out).cell 1 _ rfl
   have x2 := (KB.out.ext HW1.out).cell 2 _ rfl
   have y0 := (KQ.out.ext HW1.out).cell 0 _ rfl
   have y1 := (KQ.out.ext HW1.out).cell 1 _ rfl
   clear hw1
   go_wp2_with fail
   refine (HF1.out _ HW1.out).mono ?_
   rintro e w2 ⟨rfl, hw2⟩
   have HW2 := Lib.hid (HW1.out.trans hw2)
   clear x0 x1 x2 y0 y1
   have x0 := (KB.out.ext HW2.out).cell 0 _ rfl
   have x1 := (KB.out.ext HW2.out).cell 1 _ rfl
   have x2 := (KB.out.ext HW2.out).cell 2 _ rfl
   have y0 := (KQ.out.ext HW2.out).cell 0 _ rfl
   have y1 := (KQ.out.ext HW2.out).cell 1 _ rfl
   clear hw2
   go_wp2_with fail
   refine (awake_any _ (hm0.out.ext HW2.out)).mono ?_
   rintro e w3 ⟨rfl, hw3⟩
   have HW3 := Lib.hid (HW2.out.trans hw3)
   clear x0 x1 x2 y0 y1
   have x0 := (KB.out.ext HW3.out).cell 0 _ rfl
   have x1 := (KB.out.ext HW3.out).cell 1 _ rfl
   have x2 := (KB.out.ext HW3.out).cell 2 _ rfl
   have y0 := (KQ.out.ext HW3.out).cell 0 _ rfl
   have y1 := (KQ.out.ext HW3.out).cell 1 _ rfl
   clear hw3
   go_wp2
   go_ret
   exact ⟨rfl, HX0.out.trans HW3.out⟩
  | true =>
   obtain ⟨g1, g2, g3, g4, g5⟩ := fewC_len q0
   have hl12 : ln ≤ 12 := by have := HL.out.len; omega
   have hn12 : n ≤ 12 := by have := HA.out.len; omega
   have hm30 : m ≤ 30 := by have := HN.out.len; omega
   have HZ1 := Lib.hid (show ∀ a ∈ al, a.1.size ≤ 60000 ∧ a.2.size ≤ 60000 from fun a ha => by have := g4 a ha; omega)
   have HZ2 := Lib.hid (show ∀ x ∈ l, x.t.size ≤ 60000 from fun x hx => by have := g2 x hx; omega)
   have HZ3 := Lib.hid (show ∀ x ∈ nl, x.f.size ≤ 1000000 ∧ x.o.size ≤ 1000000 from fun x hx => by have := g5 x hx; omega)
   clear g1 g2 g3 g4 g5
   rw [q0] at hf1
   have HF1 := Lib.hid hf1
   clear q0 hf1
   cases q1 : fewK ct with
   | false =>
    rw [q1] at HFK
    clear q1
    go_enter Tryz.func5, Tryz.ntmps5
    go_wp2_with fail
    refine (awake_any _ (hm0.out.ext (Ext.refl _))).mono ?_
    rintro e w1 ⟨rfl, hw1⟩
    have HW1 := Lib.hid ((Ext.refl _).trans hw1)
    clear x0 x1 x2 y0 y1
    have x0 := (KB.out.ext HW1.out).cell 0 _ rfl
    have x1 := (KB.out.ext HW1.out).cell 1 _ rfl
    have x2 := (KB.out.ext HW1.out).cell 2 _ rfl
    have y0 := (KQ.out.ext HW1.out).cell 0 _ rfl
    have y1 := (KQ.out.ext HW1.out).cell 1 _ rfl
    clear hw1
    go_wp2_with fail
    refine (HF1.out _ HW1.out).mono ?_
    rintro e w2 ⟨rfl, hw2⟩
    have HW2 := Lib.hid (HW1.out.trans hw2)
    clear x0 x1 x2 y0 y1
    have x0 := (KB.out.ext HW2.out).cell 0 _ rfl
    have x1 := (KB.out.ext HW2.out).cell 1 _ rfl
    have x2 := (KB.out.ext HW2.out).cell 2 _ rfl
    have y0 := (KQ.out.ext HW2.out).cell 0 _ rfl
    have y1 := (KQ.out.ext HW2.out).cell 1 _ rfl
    clear hw2
    go_wp2_with fail
    refine (HFK.out _ HW2.out).mono ?_
    rintro e w3 ⟨rfl, hw3⟩
    have HW3 := Lib.hid (HW2.out.trans hw3)
    clear x0 x1 x2 y0 y1
    have x0 := (KB.out.ext HW3.out).cell 0 _ rfl
    have x1 := (KB.out.ext HW3.out).cell 1 _ rfl
    have x2 := (KB.out.ext HW3.out).cell 2 _ rfl
    have y0 := (KQ.out.ext HW3.out).cell 0 _ rfl
    have y1 := (KQ.out.ext HW3.out).cell 1 _ rfl
    clear hw3
    go_wp2_with fail
    refine (awake_any _ (hm0.out.ext HW3.out)).mono ?_
    rintro e w4 ⟨rfl, hw4⟩
    have HW4 := Lib.hid (HW3.out.trans hw4)
    clear x0 x1 x2 y0 y1
    have x0 := (KB.out.ext HW4.out).cell 0 _ rfl
    have x1 := (KB.out.ext HW4.out).cell 1 _ rfl
    have x2 := (KB.out.ext HW4.out).cell 2 _ rfl
    have y0 := (KQ.out.ext HW4.out).cell 0 _ rfl
    have y1 := (KQ.out.ext HW4.out).cell 1 _ rfl
    clear hw4
    go_wp2
    go_ret
    exact ⟨rfl, HX0.out.trans HW4.out⟩
   | true =>
    obtain ⟨g1, g2⟩ := fewK_len q1
    have he12 : en ≤ 12 := by have := HE.out.len; omega
    have HES := Lib.hid (show ∀ x ∈ ct, x.n 2 ≤ 100000 from fun x hx => by have := g2 x hx; have h2 := (HE.out.2 x hx).len; omega)
    clear g1 g2
    rw [q1] at HFK
    clear q1
    by_cases h100 : s.size ≤ 100
    rotate_left
    · have u100 : decide ((100 : Int) < (s.size : Int)) = true := by simp; omega
      go_enter Tryz.func5, Tryz.ntmps5
      go_wp2_with fail
      refine (awake_any _ (hm0.out.ext (Ext.refl _))).mono ?_
      rintro e w1 ⟨rfl, hw1⟩
      have HW1 := Lib.hid ((Ext.refl _).trans hw1)
      clear x0 x1 x2 y0 y1
      have x0 := (KB.out.ext HW1.out).cell 0 _ rfl
      have x1 := (KB.out.ext HW1.out).cell 1 _ rfl
      have x2 := (KB.out.ext HW1.out).cell 2 _ rfl
      have y0 := (KQ.out.ext HW1.out).cell 0 _ rfl
      have y1 := (KQ.out.ext HW1.out).cell 1 _ rfl
      clear hw1
      go_wp2_with fail
      refine (HF1.out _ HW1.out).mono ?_
      rintro e w2 ⟨rfl, hw2⟩
      have HW2 := Lib.hid (HW1.out.trans hw2)
      clear x0 x1 x2 y0 y1
      have x0 := (KB.out.ext HW2.out).cell 0 _ rfl
      have x1 := (KB.out.ext HW2.out).cell 1 _ rfl
      have x2 := (KB.out.ext HW2.out).cell 2 _ rfl
      have y0 := (KQ.out.ext HW2.out).cell 0 _ rfl
      have y1 := (KQ.out.ext HW2.out).cell 1 _ rfl
      clear hw2
      go_wp2_with fail
      refine (HFK.out _ HW2.out).mono ?_
      rintro e w3 ⟨rfl, hw3⟩
      have HW3 := Lib.hid (HW2.out.trans hw3)
      clear x0 x1 x2 y0 y1
      have x0 := (KB.out.ext HW3.out).cell 0 _ rfl
      have x1 := (KB.out.ext HW3.out).cell 1 _ rfl
      have x2 := (KB.out.ext HW3.out).cell 2 _ rfl
      have y0 := (KQ.out.ext HW3.out).cell 0 _ rfl
      have y1 := (KQ.out.ext HW3.out).cell 1 _ rfl
      clear hw3
      go_wp2_with fail
      refine (awake_any _ (hm0.out.ext HW3.out)).mono ?_
      rintro e w4 ⟨rfl, hw4⟩
      have HW4 := Lib.hid (HW3.out.trans hw4)
      clear x0 x1 x2 y0 y1
      have x0 := (KB.out.ext HW4.out).cell 0 _ rfl
      have x1 := (KB.out.ext HW4.out).cell 1 _ rfl
      have x2 := (KB.out.ext HW4.out).cell 2 _ rfl
      have y0 := (KQ.out.ext HW4.out).cell 0 _ rfl
      have y1 := (KQ.out.ext HW4.out).cell 1 _ rfl
      clear hw4
      go_wp2
      go_ret
      exact ⟨rfl, HX0.out.trans HW4.out⟩
    have u100 : decide ((100 : Int) < (s.size : Int)) = false := by simp; omega
    have hs60 : s.size ≤ 60000 := by omega
    have k1 := fun W (h : Ext ((w.alloc (.cells #[.slice L ln lc, .slice A n c, .slice N m d] 26)).alloc (.cells #[.string s, .string id] 37)) W) => tfind_any l al L A N ln lc n c m d ct E en ec s id W (hm0.out.ext h) (HL.out.ext h) (by omega) (HA.out.ext h) (by omega) HZ1.out HZ2.out hs60 (HE.out.ext h) (by omega) HES.out
    have k2 := fun W (h : Ext ((w.alloc (.cells #[.slice L ln lc, .slice A n c, .slice N m d] 26)).alloc (.cells #[.string s, .string id] 37)) W) => rfind_any l al L A N ln lc n c m d ct E en ec s id W (HL.out.ext h) (by omega) (HA.out.ext h) (by omega) HZ1.out HZ2.out hs60 (HE.out.ext h) (by omega) HES.out
    generalize findC (l.map locOf) al (ct.map catOf) s.data.toList id.data.toList = D at k1 k2
    obtain ⟨⟨a, b⟩, e⟩ := D
    have K1 := Lib.hid k1
    have K2 := Lib.hid k2
    clear k1 k2
    go_enter Tryz.func5, Tryz.ntmps5
    go_wp2_with fail
    refine (awake_any _ (hm0.out.ext (Ext.refl _))).mono ?_
    rintro e w1 ⟨rfl, hw1⟩
    have HW1 := Lib.hid ((Ext.refl _).trans hw1)
    clear x0 x1 x2 y0 y1
    have x0 := (KB.out.ext HW1.out).cell 0 _ rfl
    have x1 := (KB.out.ext HW1.out).cell 1 _ rfl
    have x2 := (KB.out.ext HW1.out).cell 2 _ rfl
    have y0 := (KQ.out.ext HW1.out).cell 0 _ rfl
    have y1 := (KQ.out.ext HW1.out).cell 1 _ rfl
    clear hw1
    go_wp2_with fail
    refine (HF1.out _ HW1.out).mono ?_
    rintro e w2 ⟨rfl, hw2⟩
    have HW2 := Lib.hid (HW1.out.trans hw2)
    clear x0 x1 x2 y0 y1
    have x0 := (KB.out.ext HW2.out).cell 0 _ rfl
    have x1 := (KB.out.ext HW2.out).cell 1 _ rfl
    have x2 := (KB.out.ext HW2.out).cell 2 _ rfl
    have y0 := (KQ.out.ext HW2.out).cell 0 _ rfl
    have y1 := (KQ.out.ext HW2.out).cell 1 _ rfl
    clear hw2
    go_wp2_with fail
    refine (HFK.out _ HW2.out).mono ?_
    rintro e w3 ⟨rfl, hw3⟩
    have HW3 := Lib.hid (HW2.out.trans hw3)
    clear x0 x1 x2 y0 y1
    have x0 := (KB.out.ext HW3.out).cell 0 _ rfl
    have x1 := (KB.out.ext HW3.out).cell 1 _ rfl
    have x2 := (KB.out.ext HW3.out).cell 2 _ rfl
    have y0 := (KQ.out.ext HW3.out).cell 0 _ rfl
    have y1 := (KQ.out.ext HW3.out).cell 1 _ rfl
    clear hw3
    go_wp2_with fail
    refine (K1.out _ HW3.out).mono ?_
    rintro e w4 ⟨rfl, hw4⟩
    have HW4 := Lib.hid (HW3.out.trans hw4)
    clear x0 x1 x2 y0 y1
    have x0 := (KB.out.ext HW4.out).cell 0 _ rfl
    have x1 := (KB.out.ext HW4.out).cell 1 _ rfl
    have x2 := (KB.out.ext HW4.out).cell 2 _ rfl
    have y0 := (KQ.out.ext HW4.out).cell 0 _ rfl
    have y1 := (KQ.out.ext HW4.out).cell 1 _ rfl
    clear hw4
    go_wp2_with fail
    refine (K2.out _ HW4.out).mono ?_
    rintro e w5 ⟨rfl, hw5⟩
    have HW5 := Lib.hid (HW4.out.trans hw5)
    clear x0 x1 x2 y0 y1
    have x0 := (KB.out.ext HW5.out).cell 0 _ rfl
    have x1 := (KB.out.ext HW5.out).cell 1 _ rfl
    have x2 := (KB.out.ext HW5.out).cell 2 _ rfl
    have y0 := (KQ.out.ext HW5.out).cell 0 _ rfl
    have y1 := (KQ.out.ext HW5.out).cell 1 _ rfl
    clear hw5
    go_wp2
    go_ret
    exact ⟨by first | rfl | simp | simp [*], HX0.out.trans HW5.out⟩

end Go.Proofs.YtehcldnicefmeaaGreatDoor.lawChainFind
