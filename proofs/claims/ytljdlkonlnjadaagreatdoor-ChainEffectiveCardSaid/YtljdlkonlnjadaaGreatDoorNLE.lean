import Derived.Test.YtljdlkonlnjadaaGreatDoorAw22
import Derived.Test.YtljdlkonlnjadaaGreatDoorNZ6
import Derived.Test.YtljdlkonlnjadaaGreatDoorYq
import Derived.Test.YtljdlkonlnjadaaGreatDoorNZE
import Derived.Test.YtljdlkonlnjadaaGreatDoorNZF
import Derived.Test.YtljdlkonlnjadaaGreatDoorShelf
import Derived.Test.YtljdlkonlnjadaaGreatDoorRows
import Derived.Test.YtljdlkonlnjadaaGreatDoorCards
import Derived.Test.YtljdlkonlnjadaaGreatDoorTie
import Derived.Shelf.Vars
set_option maxRecDepth 100000
set_option linter.unusedSimpArgs false
set_option linter.unusedVariables false
open Go.Lib (hid)
namespace Go.Proofs.YtljdlkonlnjadaaGreatDoor.lawChainEffective
open Go.ChangeShapes Go.WideShapes Go.ChangeAt Go.RowKit
open Go.ChangeMaps (open_string shut_string)
set_option maxHeartbeats 8000000 in
theorem law (l : List Lk) (al : List Ali) (nl : List Nr) (L A N : Option Addr) (ln lc n c m d : Nat) (s : ByteArray) (w : World) (hm : Mx w) (hL : Lcs w L ln (l.map (·.x))) (hln : ln ≤ maxLen) (hok : ∀ x ∈ l.map (·.x), lcOK x) (hlk : ∀ y ∈ l, LkM (fun _ => True) w y) (hA : Als w A n al) (hn : n ≤ maxLen) (hz : ∀ a ∈ al, a.1.size ≤ reachBytes ∧ a.2.size ≤ reachBytes) (hN : Nrs w N m nl) (hmm : m ≤ maxLen) (hzn : ∀ a ∈ nl, a.f.size ≤ reachBytes ∧ a.o.size ≤ reachBytes) (hs : s.size ≤ maxLen) :
 Calls Tryz.prog 3 #[.agg #[.slice L ln lc, .slice A n c, .slice N m d], .string s] w (RetTrue w) := by
 have HLK := hid (fun y (hy : y ∈ l) => (hlk y hy).ext ((Ext.refl w).alloc (.cells #[.slice L ln lc, .slice A n c, .slice N m d] 26)))
 clear hlk
 have HX0 := hid ((Ext.refl w).alloc (.cells #[.slice L ln lc, .slice A n c, .slice N m d] 26))
 have HL := hid (hL.ext HX0.out)
 have hm0 := hid (hm.ext HX0.out)
 have HA := hid (hA.ext HX0.out)
 have HN := hid (hN.ext HX0.out)
 have KB := hid (AtC.new w #[.slice L ln lc, .slice A n c, .slice N m d] : AtC 26 _ _ _)
 have x0 := KB.out.cell 0 _ rfl
 have x1 := KB.out.cell 1 _ rfl
 have x2 := KB.out.cell 2 _ rfl
 have hf1 := fun W (h : Ext (w.alloc (.cells #[.slice L ln lc, .slice A n c, .slice N m d] 26)) W) => few22_any (l.map (·.x)) al nl L A N ln lc n c m d W (HL.out.ext h) hln hok (HA.out.ext h) hn hz (HN.out.ext h) hmm hzn
 clear hL hA hN
 cases q0 : fewC (l.map (·.x)) al nl with
 | false =>
  rw [q0] at hf1
  have HF1 := hid hf1
  clear q0 hf1
  go_enter Tryz.func3, Tryz.ntmps3
  go_wp2_with fail
  refine (awake_any _ (hm0.out.ext (Ext.refl _))).mono ?_
  rintro e w1 ⟨rfl, hw1⟩
  have HW1 := hid ((Ext.refl _).trans hw1)
  clear x0 x1 x2
  have x0 := (KB.out.ext HW1.out).cell 0 _ rfl
  have x1 := (KB.out.ext HW1.out).cell 1 _ rfl
  have x2 := (KB.out.ext HW1.out).cell 2 _ rfl
  clear hw1
  go_wp2_with fail
  refine (HF1.out _ HW1.out).mono ?_
  rintro e w2 ⟨rfl, hw2⟩
  have HW2 := hid (HW1.out.trans hw2)
  clear x0 x1 x2
  have x0 := (KB.out.ext HW2.out).cell 0 _ rfl
  have x1 := (KB.out.ext HW2.out).cell 1 _ rfl
  have x2 := (KB.out.ext HW2.out).cell 2 _ rfl
  clear hw2
  go_wp2_with fail
  refine (awake_any _ (hm0.out.ext HW2.out)).mono ?_
  rintro e w3 ⟨rfl, hw3⟩
  have HW3 := hid (HW2.out.trans hw3)
  clear x0 x1 x2
  have x0 := (KB.out.ext HW3.out).cell 0 _ rfl
  have x1 := (KB.out.ext HW3.out).cell 1 _ rfl
  have x2 := (KB.out.ext HW3.out).cell 2 _ rfl
  clear hw3
  go_wp2
  go_ret
  exact ⟨rfl, HX0.out.trans HW3.out⟩
 | true =>
  obtain ⟨g1, g2, g3, g4, g5⟩ := fewC_len q0
  have hl12 : ln ≤ 12 := by have := HL.out.len; omega
  have hn12 : n ≤ 12 := by have := HA.out.len; omega
  have hm30 : m ≤ 30 := by have := HN.out.len; omega
  have HZ1 := hid (show ∀ a ∈ al, a.1.size ≤ 60000 ∧ a.2.size ≤ 60000 from fun a ha => by have := g4 a ha; omega)
  have HZ2 := hid (show ∀ x ∈ l.map (·.x), x.t.size ≤ 60000 from fun x hx => by have := g2 x hx; omega)
  have HZ3 := hid (show ∀ x ∈ nl, x.f.size ≤ 1000000 ∧ x.o.size ≤ 1000000 from fun x hx => by have := g5 x hx; omega)
  have HSEC := hid (show ∀ y ∈ l, ∀ j, j < 7 → y.x.n j ≤ 120 from fun y hy j hj => by
   have h := (g2 y.x (List.mem_map.2 ⟨y, hy, rfl⟩)).2
   match j, hj with
   | 0, _ => omega
   | 1, _ => omega
   | 2, _ => omega
   | 3, _ => omega
   | 4, _ => omega
   | 5, _ => omega
   | 6, _ => omega)
  have HZK := hid (show ∀ y ∈ l, y.x.t.size ≤ 60000 from fun y hy => by have := g2 y.x (List.mem_map.2 ⟨y, hy, rfl⟩); omega)
  clear g1 g2 g3 g4 g5
  rw [q0] at hf1
  have HF1 := hid hf1
  clear q0 hf1
  by_cases h100 : s.size ≤ 100
  rotate_left
  ·have u100 : decide ((100 : Int) < (s.size : Int)) = true := by simp; omega
   go_enter Tryz.func3, Tryz.ntmps3
   go_wp2_with fail
   refine (awake_any _ (hm0.out.ext (Ext.refl _))).mono ?_
   rintro e w1 ⟨rfl, hw1⟩
   have HW1 := hid ((Ext.refl _).trans hw1)
   clear x0 x1 x2
   have x0 := (KB.out.ext HW1.out).cell 0 _ rfl
   have x1 := (KB.out.ext HW1.out).cell 1 _ rfl
   have x2 := (KB.out.ext HW1.out).cell 2 _ rfl
   clear hw1
   go_wp2_with fail
   refine (HF1.out _ HW1.out).mono ?_
   rintro e w2 ⟨rfl, hw2⟩
   have HW2 := hid (HW1.out.trans hw2)
   clear x0 x1 x2
   have x0 := (KB.out.ext HW2.out).cell 0 _ rfl
   have x1 := (KB.out.ext HW2.out).cell 1 _ rfl
   have x2 := (KB.out.ext HW2.out).cell 2 _ rfl
   clear hw2
   go_wp2_with fail
   refine (awake_any _ (hm0.out.ext HW2.out)).mono ?_
   rintro e w3 ⟨rfl, hw3⟩
   have HW3 := hid (HW2.out.trans hw3)
   clear x0 x1 x2
   have x0 := (KB.out.ext HW3.out).cell 0 _ rfl
   have x1 := (KB.out.ext HW3.out).cell 1 _ rfl
   have x2 := (KB.out.ext HW3.out).cell 2 _ rfl
   clear hw3
   go_wp2
   go_ret
   exact ⟨rfl, HX0.out.trans HW3.out⟩
  have u100 : decide ((100 : Int) < (s.size : Int)) = false := by simp; omega
  have hs60 : s.size ≤ 60000 := by omega
  have k1 := fun W (h : Ext (w.alloc (.cells #[.slice L ln lc, .slice A n c, .slice N m d] 26)) W) => teff_any l al L A N ln lc n c m d s W (hm0.out.ext h) (HL.out.ext h) (by omega) (fun y hy => (HLK.out y hy).ext h) HSEC.out (HA.out.ext h) (by omega) HZ1.out HZK.out hs60
  have k2 := fun W (h : Ext (w.alloc (.cells #[.slice L ln lc, .slice A n c, .slice N m d] 26)) W) => reff_any l al L A N ln lc n c m d s W (HL.out.ext h) (by omega) (fun y hy => (HLK.out y hy).ext h) HSEC.out (HA.out.ext h) (by omega) HZ1.out HZK.out hs60
  have hlen := effX_len (T := (l.map (·.x)).map locOf) (al := al) (s := s.data.toList) HLK.out HSEC.out (by rw [List.length_map, List.length_map]) (by have := HL.out.len; rw [List.length_map] at this; omega)
  generalize effX l ((l.map (·.x)).map locOf) al s.data.toList = EX at k1 k2 hlen
  generalize (locsC ((l.map (·.x)).map locOf) al s.data.toList).2 = er at k1 k2
  have K1 := hid k1
  have K2 := hid k2
  have HLEN := hid hlen
  clear k1 k2 hlen
  go_enter Tryz.func3, Tryz.ntmps3
  go_wp2_with fail
  refine (awake_any _ (hm0.out.ext (Ext.refl _))).mono ?_
  rintro e w1 ⟨rfl, hw1⟩
  have HW1 := hid ((Ext.refl _).trans hw1)
  clear x0 x1 x2
  have x0 := (KB.out.ext HW1.out).cell 0 _ rfl
  have x1 := (KB.out.ext HW1.out).cell 1 _ rfl
  have x2 := (KB.out.ext HW1.out).cell 2 _ rfl
  clear hw1
  go_wp2_with fail
  refine (HF1.out _ HW1.out).mono ?_
  rintro e w2 ⟨rfl, hw2⟩
  have HW2 := hid (HW1.out.trans hw2)
  clear x0 x1 x2
  have x0 := (KB.out.ext HW2.out).cell 0 _ rfl
  have x1 := (KB.out.ext HW2.out).cell 1 _ rfl
  have x2 := (KB.out.ext HW2.out).cell 2 _ rfl
  clear hw2
  go_wp2_with fail
  refine (K1.out _ HW2.out).mono ?_
  rintro e1 wa ⟨z1, rfl, hz1, hwa, hn1, hv1⟩
  unfold lcV
  have HZA := hid hz1
  have HWA := hid (HW2.out.trans hwa)
  have HN1 := hid hn1
  have HV1 := hid hv1
  have HXA := hid (HWA.out.alloc (.cells #[.string z1.x.t, .string z1.x.p, .string z1.x.d, .slice (z1.x.A 0) (z1.x.n 0) (z1.x.c 0), .slice (z1.x.A 1) (z1.x.n 1) (z1.x.c 1), .string (z1.x.s 0), .string (z1.x.s 1), .string (z1.x.s 2), .string (z1.x.s 3), .int .i64 (z1.x.i 0), .int .i64 (z1.x.i 1), .slice (z1.x.A 2) (z1.x.n 2) (z1.x.c 2), .slice (z1.x.A 3) (z1.x.n 3) (z1.x.c 3), .slice (z1.x.A 4) (z1.x.n 4) (z1.x.c 4), .slice (z1.x.A 5) (z1.x.n 5) (z1.x.c 5), .slice (z1.x.A 6) (z1.x.n 6) (z1.x.c 6)] 37))
  have KA := hid (AtC.new wa #[.string z1.x.t, .string z1.x.p, .string z1.x.d, .slice (z1.x.A 0) (z1.x.n 0) (z1.x.c 0), .slice (z1.x.A 1) (z1.x.n 1) (z1.x.c 1), .string (z1.x.s 0), .string (z1.x.s 1), .string (z1.x.s 2), .string (z1.x.s 3), .int .i64 (z1.x.i 0), .int .i64 (z1.x.i 1), .slice (z1.x.A 2) (z1.x.n 2) (z1.x.c 2), .slice (z1.x.A 3) (z1.x.n 3) (z1.x.c 3), .slice (z1.x.A 4) (z1.x.n 4) (z1.x.c 4), .slice (z1.x.A 5) (z1.x.n 5) (z1.x.c 5), .slice (z1.x.A 6) (z1.x.n 6) (z1.x.c 6)] : AtC 37 _ _ _)
  clear x0 x1 x2
  have x0 := (KB.out.ext HXA.out).cell 0 _ rfl
  have x1 := (KB.out.ext HXA.out).cell 1 _ rfl
  have x2 := (KB.out.ext HXA.out).cell 2 _ rfl
  clear hz1 hwa hn1 hv1
  simp only
  go_wp2_with fail
  refine (K2.out _ HXA.out).mono ?_
  rintro e2 wb ⟨z2, rfl, hz2, hwb, hn2, hv2⟩
  unfold lcV
  have HEQ := hid (show lkP z1 = lkP z2 from by
   by_cases he : er = 0
   ·rw [HV1.out he, hv2 he]
   ·rw [HN1.out he, hn2 he])
  have HWB := hid (HXA.out.trans hwb)
  have HS := hid (rsame_any z1 z2 _ ((HZA.out.ext ((Ext.refl wa).alloc (.cells #[.string z1.x.t, .string z1.x.p, .string z1.x.d, .slice (z1.x.A 0) (z1.x.n 0) (z1.x.c 0), .slice (z1.x.A 1) (z1.x.n 1) (z1.x.c 1), .string (z1.x.s 0), .string (z1.x.s 1), .string (z1.x.s 2), .string (z1.x.s 3), .int .i64 (z1.x.i 0), .int .i64 (z1.x.i 1), .slice (z1.x.A 2) (z1.x.n 2) (z1.x.c 2), .slice (z1.x.A 3) (z1.x.n 3) (z1.x.c 3), .slice (z1.x.A 4) (z1.x.n 4) (z1.x.c 4), .slice (z1.x.A 5) (z1.x.n 5) (z1.x.c 5), .slice (z1.x.A 6) (z1.x.n 6) (z1.x.c 6)] 37))).ext (hwb.alloc (.cells #[.string z2.x.t, .string z2.x.p, .string z2.x.d, .slice (z2.x.A 0) (z2.x.n 0) (z2.x.c 0), .slice (z2.x.A 1) (z2.x.n 1) (z2.x.c 1), .string (z2.x.s 0), .string (z2.x.s 1), .string (z2.x.s 2), .string (z2.x.s 3), .int .i64 (z2.x.i 0), .int .i64 (z2.x.i 1), .slice (z2.x.A 2) (z2.x.n 2) (z2.x.c 2), .slice (z2.x.A 3) (z2.x.n 3) (z2.x.c 3), .slice (z2.x.A 4) (z2.x.n 4) (z2.x.c 4), .slice (z2.x.A 5) (z2.x.n 5) (z2.x.c 5), .slice (z2.x.A 6) (z2.x.n 6) (z2.x.c 6)] 37))) (hz2.ext ((Ext.refl wb).alloc (.cells #[.string z2.x.t, .string z2.x.p, .string z2.x.d, .slice (z2.x.A 0) (z2.x.n 0) (z2.x.c 0), .slice (z2.x.A 1) (z2.x.n 1) (z2.x.c 1), .string (z2.x.s 0), .string (z2.x.s 1), .string (z2.x.s 2), .string (z2.x.s 3), .int .i64 (z2.x.i 0), .int .i64 (z2.x.i 1), .slice (z2.x.A 2) (z2.x.n 2) (z2.x.c 2), .slice (z2.x.A 3) (z2.x.n 3) (z2.x.c 3), .slice (z2.x.A 4) (z2.x.n 4) (z2.x.c 4), .slice (z2.x.A 5) (z2.x.n 5) (z2.x.c 5), .slice (z2.x.A 6) (z2.x.n 6) (z2.x.c 6)] 37))) HEQ.out (ef_short HN1.out HV1.out HLEN.out))
  have KA2 := hid ((KA.out.ext hwb).alloc (.cells #[.string z2.x.t, .string z2.x.p, .string z2.x.d, .slice (z2.x.A 0) (z2.x.n 0) (z2.x.c 0), .slice (z2.x.A 1) (z2.x.n 1) (z2.x.c 1), .string (z2.x.s 0), .string (z2.x.s 1), .string (z2.x.s 2), .string (z2.x.s 3), .int .i64 (z2.x.i 0), .int .i64 (z2.x.i 1), .slice (z2.x.A 2) (z2.x.n 2) (z2.x.c 2), .slice (z2.x.A 3) (z2.x.n 3) (z2.x.c 3), .slice (z2.x.A 4) (z2.x.n 4) (z2.x.c 4), .slice (z2.x.A 5) (z2.x.n 5) (z2.x.c 5), .slice (z2.x.A 6) (z2.x.n 6) (z2.x.c 6)] 37))
  have KB2 := hid (AtC.new wb #[.string z2.x.t, .string z2.x.p, .string z2.x.d, .slice (z2.x.A 0) (z2.x.n 0) (z2.x.c 0), .slice (z2.x.A 1) (z2.x.n 1) (z2.x.c 1), .string (z2.x.s 0), .string (z2.x.s 1), .string (z2.x.s 2), .string (z2.x.s 3), .int .i64 (z2.x.i 0), .int .i64 (z2.x.i 1), .slice (z2.x.A 2) (z2.x.n 2) (z2.x.c 2), .slice (z2.x.A 3) (z2.x.n 3) (z2.x.c 3), .slice (z2.x.A 4) (z2.x.n 4) (z2.x.c 4), .slice (z2.x.A 5) (z2.x.n 5) (z2.x.c 5), .slice (z2.x.A 6) (z2.x.n 6) (z2.x.c 6)] : AtC 37 _ _ _)
  have p0 := KA2.out.cell 0 _ rfl
  have q0 := KB2.out.cell 0 _ rfl
  have p1 := KA2.out.cell 1 _ rfl
  have q1 := KB2.out.cell 1 _ rfl
  have p2 := KA2.out.cell 2 _ rfl
  have q2 := KB2.out.cell 2 _ rfl
  have p3 := KA2.out.cell 3 _ rfl
  have q3 := KB2.out.cell 3 _ rfl
  have p4 := KA2.out.cell 4 _ rfl
  have q4 := KB2.out.cell 4 _ rfl
  have p5 := KA2.out.cell 5 _ rfl
  have q5 := KB2.out.cell 5 _ rfl
  have p6 := KA2.out.cell 6 _ rfl
  have q6 := KB2.out.cell 6 _ rfl
  have p7 := KA2.out.cell 7 _ rfl
  have q7 := KB2.out.cell 7 _ rfl
  have p8 := KA2.out.cell 8 _ rfl
  have q8 := KB2.out.cell 8 _ rfl
  have p9 := KA2.out.cell 9 _ rfl
  have q9 := KB2.out.cell 9 _ rfl
  have p10 := KA2.out.cell 10 _ rfl
  have q10 := KB2.out.cell 10 _ rfl
  have p11 := KA2.out.cell 11 _ rfl
  have q11 := KB2.out.cell 11 _ rfl
  have p12 := KA2.out.cell 12 _ rfl
  have q12 := KB2.out.cell 12 _ rfl
  have p13 := KA2.out.cell 13 _ rfl
  have q13 := KB2.out.cell 13 _ rfl
  have p14 := KA2.out.cell 14 _ rfl
  have q14 := KB2.out.cell 14 _ rfl
  have p15 := KA2.out.cell 15 _ rfl
  have q15 := KB2.out.cell 15 _ rfl
  clear x0 x1 x2 hz2 hwb hn2 hv2 K1 K2
  simp only
  go_wp2_with (go_at_call 10; refine HS.out.mono ?_; rintro e3 wc ⟨rfl, hwc⟩; have HWC := hid hwc; clear hwc p0 p1 p2 p3 p4 p5 p6 p7 p8 p9 p10 p11 p12 p13 p14 p15 q0 q1 q2 q3 q4 q5 q6 q7 q8 q9 q10 q11 q12 q13 q14 q15)
  go_ret
  exact ⟨by first | rfl | simp | simp [*], HX0.out.trans ((HWB.out.alloc _).trans HWC.out)⟩
end Go.Proofs.YtljdlkonlnjadaaGreatDoor.lawChainEffective
namespace Go.Proofs.YtljdlkonlnjadaaGreatDoor.lawChainEffective
open Go.ChangeShapes Go.WideShapes Go.ChangeAt Go.RowKit
open Go.ChangeMaps (open_string shut_string)
def laidL : List (String × DataW Unit) := Rows.chainEffectiveRow.laid
theorem mx_of {W : World} (h : W.ShapedOpen Tryz.prog) : Mx W := Tryz.laysM146.s1_3 W h
theorem lifted (os : Os) (started : os.Started) (H : Type) (enc : TypeId × Value → H) :
 ReturnsInHanded {} Tryz.checked os 3 .any (fun w args => (Rows.chainEffectiveSpec.pre enc Tryz.prog Tryz.f3 [] false w args ∧ laidMetH Tryz.prog laidL w) ∧ sizedMet enc Tryz.prog Tryz.f3 (OpenSpec.ofChange Rows.chainEffectiveSpec) false w args)
  (Rows.chainEffectiveSpec.post enc Tryz.prog Tryz.f3 false true false false) := by
 refine lifted_and_sized (C := Tryz.checked) (X := fun w _ => laidMetH Tryz.prog laidL w) (fun _ _ _ hh h => h.of_heap hh) own started (by kernel_rfl) Tryz.func3
  (ChangeSpec.witness_shaped (enc := enc) (C := Tryz.checked) (os := os) (X := fun w _ => laidMetH Tryz.prog laidL w) false (World.laidAll Tryz.prog os laidL) #[.agg #[.slice none 0 0, .slice none 0 0, .slice none 0 0], .string ⟨#[]⟩] 8 (World.laidAll_os _ _ _)
   (World.shaped_of_ZipB (by kernel_rfl) (by kernel_rfl)) (by kernel_rfl) (by kernel_rfl) (by kernel_rfl)
   (by rw [MakeChecks.laidMetH_plain _ _ _ (by kernel_rfl)]; exact laidMet_laidAll _ (by kernel_rfl) (by kernel_rfl))) ?_
 intro W base args ds gs before hval0 hW hL hshape hsz0
 have hval : ∀ (j : Nat) t v, Tryz.f3.params[j]? = some t → args[j]? = some v → Value.okWide Tryz.prog W .any base t v := hval0
 have hW' := hW
 obtain ⟨p, q, hA0, hV, rfl, hfz, hnd⟩ := hW
 have hA : DataW.TrodAll enc Tryz.prog W 0 (fun _ => true) true Tryz.f3.params.toList args.toList ds p := hA0
 obtain ⟨rfl, rfl⟩ := trodVars_none hV
 have hsz : ∀ m ∈ DataW.weightsEach Tryz.prog Tryz.f3.params.toList ds, m ≤ reachBytes := fun m hm => hsz0 m (by
  rw [List.append_nil, show Rows.chainEffectiveSpec.plain.varTypes Tryz.checked.prog = [] from rfl, List.append_nil]
  exact hm)
 rw [Tryz.params3] at hA hval hsz
 obtain ⟨v0, v1, d0, d1, p0, p1, rfl, rfl, rfl, h0, h1⟩ := trodAll_two hA
 obtain ⟨L, A, N, ln, lc, n, c, m, k, l, al, nl, rfl, hL, hln, hok, hlk, hA1, hn, hz, hN, hm2, hzn⟩ := open_tableK (hval 0 26 v0 rfl rfl) h0 (fun m hm => hsz m (DataW.weights_mem_each (j := 0) rfl rfl m hm))
 obtain ⟨s1, rfl, rfl, rfl, hs1⟩ := open_string Tryz.underlying9 (hval 1 9 v1 rfl rfl) h1
 refine (law l al nl L A N ln lc n c m k s1 W (mx_of hshape) hL hln hok hlk hA1 hn hz hN hm2 hzn hs1).mono fun e W' ⟨he, hw⟩ => ?_
 subst he
 exact ⟨_, rfl, law_post (t := 4) laidOut (by rw [Tryz.params3]; intro t ht; simp at ht; rcases ht with rfl | rfl <;> exact ⟨by kernel_rfl, of_decide_eq_true (by kernel_rfl)⟩) rfl Tryz.underlying4 rfl ⟨rfl, rfl, rfl⟩ hW' hw⟩
end Go.Proofs.YtljdlkonlnjadaaGreatDoor.lawChainEffective
