import Derived.Test.YtpfmojeigjmlfaaGreatDoorNPK
import Derived.Test.YtpfmojeigjmlfaaGreatDoorIe
import Derived.Test.YtpfmojeigjmlfaaGreatDoorNQ4
set_option maxRecDepth 100000
set_option linter.unusedSimpArgs false
set_option linter.unusedVariables false
open Go.Lib (hid)
namespace Go.Proofs.YtpfmojeigjmlfaaGreatDoor.lawSyntaxParse
open Go.ChangeShapes Go.WideShapes Go.ChangeAt Go.RowKit
def fOf : Except (Int × Option Nat) F → F
 | .ok f => f
 | .error _ => .nil
theorem fwS_of {w w' : World} {S : By} {Y : Except (Int × Option Nat) F} {e : Ending} (h : RetZ w S Y e w') : ∃ A n cc, e = .returned (.tuple #[.slice A n cc, posE S Y, .int .i64 (errE Y)]) ∧ FwS w' (fun _ => True) (fOf Y) (.slice A n cc) ∧ Ext w w' := by
 obtain ⟨hx, A, n, cc, he, hf, hn⟩ := h
 refine ⟨A, n, cc, he, ?_, hx⟩
 rcases Y with x | f
 ·obtain rfl := hn x rfl
  exact ⟨A, cc, [], rfl, ⟨rfl, fun j u hu => by simp at hu⟩, fun h => absurd h (Nat.lt_irrefl 0), by show Fw w' _ .nil []; rw [Fw]⟩
 ·exact (hf f rfl).1.exc (Exc.refl (fun _ => False) w') (fun _ _ h => h) (fun _ _ => trivial)
theorem small_of {c : Bool} {S : By} : Can (fOf (parseR c S)) ∧ (fOf (parseR c S)).nodes < 100000000 := by
 cases h : parseR c S with
 | error x => exact ⟨by show Can .nil; rw [Can]; trivial, by show F.nil.nodes < _; decide⟩
 | ok f =>
   have hv := (validF_iff.1 (parse_valid h)).1
   refine ⟨(form_can f).1 _ _ _ hv, ?_⟩
   obtain ⟨h1, h2, ⟨ns, h3⟩, h4⟩ := parseR_ok.1 h
   have a1 := msgC_wt h3
   obtain ⟨b1, b2, b3⟩ := tokens_size h1 h2
   have a2 := wtT_le (tokensP S).1 (fun t ht => (b2 t ht).1)
   have a3 := nodes_wtg f
   simp only at a1
   show f.nodes < _
   omega
set_option maxHeartbeats 4000000 in
theorem law (s : ByteArray) (w : World) (hm : Mx w) (hs : s.size ≤ maxLen) : Calls Tryz.prog 4 #[.string s] w (RetTrue w) := by
 unfold maxLen at hs
 by_cases hlt : 4100 < s.size
 ·have hI : (4100 : Int) < (s.size : Int) := by omega
  go_enter Tryz.func4, Tryz.ntmps4
  go_wp2_with fail
  refine (awake_any _ hm).mono ?_
  rintro e w1 ⟨rfl, hw1⟩
  have HW1 := hid hw1
  clear hw1
  go_wp2
  go_ret
  exact ⟨rfl, HW1.out⟩
 have hI : ¬ (4100 : Int) < (s.size : Int) := by omega
 have HM := hid hm
 have HSZ := hid (show s.size ≤ 1048576 from by omega)
 obtain ⟨S, hS⟩ : ∃ S, S = s.data.toList := ⟨_, rfl⟩
 have K1 := hid (fun W (hx : Ext w W) => tParse_any s W (HM.out.ext hx) HSZ.out)
 have K2 := hid (fun W => rParse26_any s W HSZ.out)
 have K3 := hid (fun W (hx : Ext w W) => tFragment_any s W (HM.out.ext hx) HSZ.out)
 have K4 := hid (fun W => rFragment26_any s W HSZ.out)
 rw [← hS] at K1 K2 K3 K4
 have HA := hid (small_of (c := false) (S := S))
 have HB := hid (small_of (c := true) (S := S))
 obtain ⟨Y1, hY1⟩ : ∃ Y1, Y1 = parseR false S := ⟨_, rfl⟩
 obtain ⟨Y2, hY2⟩ : ∃ Y2, Y2 = parseR true S := ⟨_, rfl⟩
 rw [← hY1] at K1 K2 HA
 rw [← hY2] at K3 K4 HB
 obtain ⟨a0, a1, a2, ha⟩ := posE_three S Y1
 obtain ⟨b0, b1, b2, hb⟩ := posE_three S Y2
 have HPA := hid ha
 have HPB := hid hb
 obtain ⟨e1, he1⟩ : ∃ e1, e1 = errE Y1 := ⟨_, rfl⟩
 obtain ⟨e2, he2⟩ : ∃ e2, e2 = errE Y2 := ⟨_, rfl⟩
 have HE1 := hid he1
 have HE2 := hid he2
 have q1 : (e1 == e1) = true := by simp
 have q2 : (e2 == e2) = true := by simp
 clear hlt hm hs hS hY1 hY2 ha hb he1 he2
 go_enter Tryz.func4, Tryz.ntmps4
 go_wp2_with fail
 refine (awake_any _ HM.out).mono ?_
 rintro e w1 ⟨rfl, hw1⟩
 have HW1 := hid hw1
 clear hw1
 go_wp2_with fail
 refine (K1.out _ HW1.out).mono ?_
 intro e v1 h1
 obtain ⟨A1, n1, c1, rfl, f1, x1⟩ := fwS_of h1
 rw [HPA.out, ← HE1.out]
 obtain ⟨u1w, hu1⟩ : ∃ u1w, u1w = v1.alloc (.cells #[.int .i64 a0, .int .i64 a1, .int .i64 a2] 29) := ⟨_, rfl⟩
 have HV1 := hid (show Ext v1 u1w from by rw [hu1]; exact (Ext.refl _).alloc _)
 have HW1 := hid (HW1.out.trans (x1.trans HV1.out))
 have HF1 := hid (f1.ext HV1.out)
 have HB1 := hid (show AtC 29 u1w v1.heap.size #[.int .i64 a0, .int .i64 a1, .int .i64 a2] from by rw [hu1]; exact AtC.new v1 _)
 clear h1 f1 x1
 go_upto_region 6 with (fail)
 rw [← hu1]
 clear hu1
 go_wp2_with fail
 refine (K2.out _).mono ?_
 intro e v2 h2
 obtain ⟨A2, n2, c2, rfl, f2, x2⟩ := fwS_of h2
 rw [HPA.out, ← HE1.out]
 obtain ⟨u2w, hu2⟩ : ∃ u2w, u2w = v2.alloc (.cells #[.int .i64 a0, .int .i64 a1, .int .i64 a2] 29) := ⟨_, rfl⟩
 have HV2 := hid (show Ext v2 u2w from by rw [hu2]; exact (Ext.refl _).alloc _)
 have HW2 := hid (HW1.out.trans (x2.trans HV2.out))
 have HF2 := hid (f2.ext HV2.out)
 have HB2 := hid (show AtC 29 u2w v2.heap.size #[.int .i64 a0, .int .i64 a1, .int .i64 a2] from by rw [hu2]; exact AtC.new v2 _)
 have HF1 := hid ((HF1.out.ext x2).ext HV2.out)
 have HB1 := hid ((HB1.out.ext x2).ext HV2.out)
 clear h2 f2 x2
 go_upto_region 7 with (fail)
 rw [← hu2]
 clear hu2
 go_wp2_with fail
 refine (K3.out _ HW2.out).mono ?_
 intro e v3 h3
 obtain ⟨A3, n3, c3, rfl, f3, x3⟩ := fwS_of h3
 rw [HPB.out, ← HE2.out]
 obtain ⟨u3w, hu3⟩ : ∃ u3w, u3w = v3.alloc (.cells #[.int .i64 b0, .int .i64 b1, .int .i64 b2] 29) := ⟨_, rfl⟩
 have HV3 := hid (show Ext v3 u3w from by rw [hu3]; exact (Ext.refl _).alloc _)
 have HW3 := hid (HW2.out.trans (x3.trans HV3.out))
 have HF3 := hid (f3.ext HV3.out)
 have HB3 := hid (show AtC 29 u3w v3.heap.size #[.int .i64 b0, .int .i64 b1, .int .i64 b2] from by rw [hu3]; exact AtC.new v3 _)
 have HF1 := hid ((HF1.out.ext x3).ext HV3.out)
 have HB1 := hid ((HB1.out.ext x3).ext HV3.out)
 have HF2 := hid ((HF2.out.ext x3).ext HV3.out)
 have HB2 := hid ((HB2.out.ext x3).ext HV3.out)
 clear h3 f3 x3
 go_upto_region 8 with (fail)
 rw [← hu3]
 clear hu3
 go_wp2_with fail
 refine (K4.out _).mono ?_
 intro e v4 h4
 obtain ⟨A4, n4, c4, rfl, f4, x4⟩ := fwS_of h4
 rw [HPB.out, ← HE2.out]
 obtain ⟨u4w, hu4⟩ : ∃ u4w, u4w = v4.alloc (.cells #[.int .i64 b0, .int .i64 b1, .int .i64 b2] 29) := ⟨_, rfl⟩
 have HV4 := hid (show Ext v4 u4w from by rw [hu4]; exact (Ext.refl _).alloc _)
 have HW4 := hid (HW3.out.trans (x4.trans HV4.out))
 have HF4 := hid (f4.ext HV4.out)
 have HB4 := hid (show AtC 29 u4w v4.heap.size #[.int .i64 b0, .int .i64 b1, .int .i64 b2] from by rw [hu4]; exact AtC.new v4 _)
 have HF1 := hid ((HF1.out.ext x4).ext HV4.out)
 have HB1 := hid ((HB1.out.ext x4).ext HV4.out)
 have HF2 := hid ((HF2.out.ext x4).ext HV4.out)
 have HB2 := hid ((HB2.out.ext x4).ext HV4.out)
 have HF3 := hid ((HF3.out.ext x4).ext HV4.out)
 have HB3 := hid ((HB3.out.ext x4).ext HV4.out)
 clear h4 f4 x4
 go_upto_region 9 with (fail)
 rw [← hu4]
 clear hu4
 have K5 := hid (fun W (hx : Ext u4w W) => requal26_any HA.out.2 (Nat.le_trans (Nat.le_of_lt HA.out.2) (by decide)) (HF1.out.ext hx) (HF2.out.ext hx) HA.out.1 HA.out.1)
 rw [eqF_refl] at K5
 have K6 := hid (fun W (hx : Ext u4w W) => requal26_any HB.out.2 (Nat.le_trans (Nat.le_of_lt HB.out.2) (by decide)) (HF3.out.ext hx) (HF4.out.ext hx) HB.out.1 HB.out.1)
 rw [eqF_refl] at K6
 have p1 := eq_pos_self a0 a1 a2
 have p2 := eq_pos_self b0 b1 b2
 have y10 := HB1.out.cell 0 _ rfl
 have y11 := HB1.out.cell 1 _ rfl
 have y12 := HB1.out.cell 2 _ rfl
 have y20 := HB2.out.cell 0 _ rfl
 have y21 := HB2.out.cell 1 _ rfl
 have y22 := HB2.out.cell 2 _ rfl
 have y30 := HB3.out.cell 0 _ rfl
 have y31 := HB3.out.cell 1 _ rfl
 have y32 := HB3.out.cell 2 _ rfl
 have y40 := HB4.out.cell 0 _ rfl
 have y41 := HB4.out.cell 1 _ rfl
 have y42 := HB4.out.cell 2 _ rfl
 have HBX3 := hid HB3.out
 have HBX4 := hid HB4.out
 go_wp2_with (first
  | (go_at_call 15; refine (K5.out _ (Ext.refl _)).mono ?_; rintro e z5 ⟨rfl, hx5⟩; have HX5 := hid hx5; have t30 := (HBX3.out.ext hx5).cell 0 _ rfl; have t31 := (HBX3.out.ext hx5).cell 1 _ rfl; have t32 := (HBX3.out.ext hx5).cell 2 _ rfl; have t40 := (HBX4.out.ext hx5).cell 0 _ rfl; have t41 := (HBX4.out.ext hx5).cell 1 _ rfl; have t42 := (HBX4.out.ext hx5).cell 2 _ rfl; clear hx5 K5)
  | (go_at_call 15; refine (K6.out _ HX5.out).mono ?_; rintro e z6 ⟨rfl, hx6⟩; have HX6 := hid (HX5.out.trans hx6); clear hx6))
 go_ret
 exact ⟨rfl, HW4.out.trans HX6.out⟩
end Go.Proofs.YtpfmojeigjmlfaaGreatDoor.lawSyntaxParse
