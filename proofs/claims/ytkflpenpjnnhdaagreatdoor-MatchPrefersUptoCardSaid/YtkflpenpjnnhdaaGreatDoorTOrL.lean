import Derived.Test.YtkflpenpjnnhdaaGreatDoorTOrd
import Derived.Test.YtkflpenpjnnhdaaGreatDoorMQB
namespace Go.Proofs.YtkflpenpjnnhdaaGreatDoor
open Go.RowKit
set_option linter.unusedSimpArgs false
set_option linter.unusedVariables false

/-! The order of the supported tags, by the program. -/
set_option maxHeartbeats 4000000 in
set_option maxRecDepth 100000 in
theorem torder_any (l : List Nr) (L : Option Addr) (ln lc : Nat) (r : ByteArray) (S : List ByteArray) (B : Option Addr) (m d : Nat) (w : World) (hmx : Mx w) (hL : Nrs w L ln l) (hln : ln ≤ maxLen) (hz : ∀ x ∈ l, x.f.size ≤ 1000000 ∧ x.o.size ≤ 1000000)
    (hB : Sl w B m (S.map .string)) (hm : m ≤ 100000) (hr : r.size ≤ 60000) (hS : ∀ s ∈ S, s.size ≤ 60000) :
    Calls Tryz.prog 20 #[.slice L ln lc, .string r, .slice B m d] w (RetOrd w (orderR EC (l.map nearOf) r.data.toList (dl S))) := by
  obtain ⟨D, hD⟩ : ∃ D, D = orderR EC (l.map nearOf) r.data.toList (dl S) := ⟨_, rfl⟩
  rw [← hD]
  have K1 := Lib.hid (tprep_any l L ln lc [r] S (some ⟨w.heap.size, 0, none⟩) B 1 1 m d (w.alloc (.cells #[.string r] 9)) (hmx.ext ((Ext.refl w).alloc _)) (hL.ext ((Ext.refl w).alloc _)) hln hz (Sl.one w (.string r) 9) (hB.ext ((Ext.refl w).alloc _)) (by omega) hm (by intro s hs; simp at hs; subst hs; exact hr) hS)
  have hSl : (dl S).length = m := by have := hB.1; unfold dl; simpa using this
  have HD := Lib.hid hD
  have HL := Lib.hid hL
  have HN := Lib.hid hln
  have HLEN := Lib.hid hSl
  clear hD hL hB hSl hz hS hr
  rw [show dl [r] = [r.data.toList] from rfl] at K1
  go_enter Tryz.func20, Tryz.ntmps20
  go_wp2_with fail
  refine K1.out.mono ?_
  rintro e w1 ⟨A2, n2, c2, xs, B2, m2, d2, ys, rfl, htx, hty, hmx, hmy, hw1⟩
  have HTX := Lib.hid htx
  have HTY := Lib.hid hty
  have HMX := Lib.hid hmx
  have HMY := Lib.hid hmy
  have HW1 := Lib.hid (((Ext.refl w).alloc (.cells #[.string r] 9)).trans hw1)
  clear htx hty hmx hmy hw1 K1
  by_cases h0 : (bothL EC (l.map nearOf) [r.data.toList] (dl S)).2 = 0
  rotate_left
  · have hnz : ((bothL EC (l.map nearOf) [r.data.toList] (dl S)).2 == 0) = false := by simpa using h0
    have HD2 := Lib.hid (HD.out.trans (orderR_bad h0))
    go_wp2
    go_ret2
    exact ⟨none, 0, 0, by rw [HD2.out]; rfl, by rw [HD2.out]; exact Sl.nil _ _, Nat.le_refl _, HW1.out⟩
  have h0' : ((bothL EC (l.map nearOf) [r.data.toList] (dl S)).2 == 0) = true := by simpa using h0
  obtain ⟨hval, _, _, hapt, hbe⟩ := both_ok h0
  obtain ⟨t0, ht0⟩ := both_one h0
  obtain ⟨x, rfl, hxt⟩ := one_of (HMX.out.trans ht0)
  have HOK := Lib.hid (HD.out.trans (orderR_ok h0 ht0))
  have hn2 : n2 = 1 := HTX.out.len.symm
  subst hn2
  have hyl := HTY.out.len
  have hm2 : m2 ≤ 100000 := by
    have h := congrArg List.length HMY.out
    rw [(both_len h0).2, List.length_map, HLEN.out] at h
    omega
  obtain ⟨b1, o1, rfl⟩ := HTX.out.some_ (k := 0) (x := x) rfl
  have KO := Lib.hid (tord_any l L ln lc x ys B2 m2 d2 w1 (HL.out.ext HW1.out) HN.out (costs_of hval) ⟨both_good h0 (.inl (by rw [← HMX.out]; exact List.mem_map.2 ⟨x, by simp, rfl⟩)), HTX.out.2 x (by simp)⟩ HTY.out
    (fun x hx => ⟨both_good h0 (.inr (by rw [← HMY.out]; exact List.mem_map.2 ⟨x, hx, rfl⟩)), HTY.out.2 x hx⟩) (by rw [HMY.out, hbe]; exact hapt) hm2)
  have a0 := HTX.out.c0 (k := 0) (x := x) rfl w1 (Ext.refl _)
  have a1 := HTX.out.c1 (k := 0) (x := x) rfl w1 (Ext.refl _)
  have a2 := HTX.out.c2 (k := 0) (x := x) rfl w1 (Ext.refl _)
  have a3 := HTX.out.c3 (k := 0) (x := x) rfl w1 (Ext.refl _)
  simp only [Nat.zero_mul, Nat.add_zero] at a0 a1 a2 a3
  have HXT := Lib.hid hxt
  clear h0 hval hapt hbe ht0 hxt
  go_wp2_with fail
  refine KO.out.mono ?_
  rintro e w2 ⟨A4, c4, rfl, hs4, hc4, hw2⟩
  have HS4 := Lib.hid hs4
  have HX := Lib.hid (HW1.out.trans hw2)
  have HD2 := Lib.hid (show D = (orderP (l.map nearOf) x.t (ys.map (·.t)), 0) from by rw [HOK.out, HXT.out, HMY.out])
  clear hs4 hw2
  go_wp2
  go_ret2
  exact ⟨A4, m2, c4, by rw [HD2.out]; rfl, by rw [HD2.out]; exact HS4.out, hc4, HX.out⟩
end Go.Proofs.YtkflpenpjnnhdaaGreatDoor
