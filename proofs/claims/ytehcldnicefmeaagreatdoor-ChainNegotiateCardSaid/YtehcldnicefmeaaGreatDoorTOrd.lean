import Derived.Test.YtehcldnicefmeaaGreatDoorSrtI
namespace Go.Proofs.YtehcldnicefmeaaGreatDoor
open Go.RowKit
set_option linter.unusedSimpArgs false
set_option linter.unusedVariables false

/-! The indices in order, by the program. -/
def IdInv (W0 : World) (m : Nat) (out i : Value) (wr : World) : Prop :=
  ∃ k : Nat, k ≤ m ∧ i = .int .i64 k ∧ wr.ownsRow W0.heap.size 3 1 out k ((List.range k).map natV) ∧ Ext W0 wr

set_option maxHeartbeats 4000000 in
set_option maxRecDepth 100000 in
theorem tord_any (l : List Nr) (L : Option Addr) (ln lc : Nat) (x : TV) (ys : List TV) (B : Option Addr) (m d : Nat) (w : World) (hL : Nrs w L ln l) (hln : ln ≤ maxLen) (hl : ∀ x ∈ l, 1 ≤ x.c ∧ x.c ≤ 99)
    (hx : GoodV w x) (hY : Tgs w B m ys) (hg : ∀ y ∈ ys, GoodV w y) (hap : apartT (ys.map (·.t)) = true) (hm : m ≤ 100000) :
    Calls Tryz.prog 99 #[.slice L ln lc, .agg #[.string x.l, .string x.s, .string x.r, .slice x.A x.n x.c], .slice B m d] w fun e w' =>
      ∃ A c, e = .returned (.slice A m c) ∧ Sl w' A m ((orderP (l.map nearOf) x.t (ys.map (·.t))).map natV) ∧ m ≤ c ∧ Ext w w' := by
  obtain ⟨i0, hi, hz0, hz1, hz2⟩ := info_parts (show (Tryz.prog.info? 3).map (fun i => (i.zero, i.size, i.bytes)) = some (some (.int .i64 0), 1, 8) from by kernel_rfl)
  obtain ⟨W0, hW0⟩ : ∃ W0, W0 = ((w.alloc (.cells #[.slice L ln lc] 24)).alloc (.cells #[.string x.l, .string x.s, .string x.r, .slice x.A x.n x.c] 159)).alloc (.cells #[.slice B m d] 155) := ⟨_, rfl⟩
  have hE : Ext w W0 := by rw [hW0]; exact (((Ext.refl w).alloc _).alloc _).alloc _
  have h1 : AtC 24 W0 w.heap.size #[.slice L ln lc] := by rw [hW0]; exact ((AtC.new w _).alloc _).alloc _
  have h2 : AtC 159 W0 (w.heap.size + 1) #[.string x.l, .string x.s, .string x.r, .slice x.A x.n x.c] := by
    have h := (AtC.new (w.alloc (.cells #[.slice L ln lc] 24)) #[.string x.l, .string x.s, .string x.r, .slice x.A x.n x.c] : AtC 159 _ _ _).alloc (.cells #[.slice B m d] 155)
    rw [show (w.alloc (.cells #[.slice L ln lc] 24)).heap.size = w.heap.size + 1 from by simp] at h
    rw [hW0]; exact h
  have h3 : AtC 155 W0 (w.heap.size + 1 + 1) #[.slice B m d] := by
    have h := (AtC.new ((w.alloc (.cells #[.slice L ln lc] 24)).alloc (.cells #[.string x.l, .string x.s, .string x.r, .slice x.A x.n x.c] 159)) #[.slice B m d] : AtC 155 _ _ _)
    rw [show ((w.alloc (.cells #[.slice L ln lc] 24)).alloc (.cells #[.string x.l, .string x.s, .string x.r, .slice x.A x.n x.c] 159)).heap.size = w.heap.size + 1 + 1 from by simp] at h
    rw [hW0]; exact h
  have KS := Lib.hid (fun (W : World) (h : Ext W0 W) (v : Value) (ho : W.ownsRow W0.heap.size 3 1 v m ((List.range m).map natV)) => srt_any l L ln lc x ys B m d w.heap.size (w.heap.size + 1) (w.heap.size + 1 + 1) W0 W (hL.ext hE) hln hl (hx.ext hE) (hY.ext hE) (fun y hy => (hg y hy).ext hE) _ _ _ h1 h2 h3 hap hm h v ho)
  have hc3 := h3.cell 0 _ rfl
  have HE := Lib.hid hE
  have HW0 := Lib.hid hW0
  clear hE h1 h2 h3 hL hl hx hY hg hap
  rw [hW0] at hc3
  go_enter Tryz.func99, Tryz.ntmps99
  go_wp2_with fail
  go_loopw [7, 11] (IdInv W0 m) (fun _ i _ => m - (intOf i).toNat)
  case atStart => exact ⟨0, Nat.zero_le _, rfl, World.ownsRow_nil _ _ _ 1, by rw [HW0.out]; exact Ext.refl _⟩
  case round =>
    obtain ⟨k, hk, rfl, how, hw⟩ := hrel
    have HOW := Lib.hid how
    have HW := Lib.hid hw
    clear how hw
    by_cases hkm : k < m
    · have hkI : (k : Int) < (m : Int) := by omega
      have HOX := Lib.hid (own_ext HOW.out ((Ext.refl wr).alloc (.cells #[.int .i64 (k : Int)] 3)))
      have HSO := Lib.hid (Sl.one wr (.int .i64 (k : Int)) 3)
      have HWA := Lib.hid (HW.out.alloc (.cells #[.int .i64 (k : Int)] 3))
      go_wp2_with (at_builtin; refine wpList_app _ rfl _ _ 60 rfl W0.heap.size 3 i0 _ 8 Tryz.underlying60 hi hz0 hz1 hz2 rfl _ k _ rfl HOX.out _ 1 1 _ rfl HSO.out (by simp [Value.oneCell']) (by unfold maxLen; omega) (by omega) HWA.out.size ?_; intro v' w3 hown' hgrow; have HO' := Lib.hid hown'; have HG' := Lib.hid hgrow; clear hown' hgrow)
      refine ⟨⟨k + 1, by omega, by go_num, ?_, HWA.out.grown HG'.out (own_lt HOX.out)⟩, by simp [intOf]; omega⟩
      have h := HO'.out
      rw [List.range_succ, List.map_append]
      exact h
    · have hkk : k = m := by omega
      subst hkk
      go_wp2_with fail
      refine (KS.out _ HW.out _ HOW.out).mono ?_
      rintro e w2 ⟨rfl, ho2, hw2⟩
      obtain ⟨A4, c4, rfl, hs4, hc4⟩ := own_sl ho2
      have HS4 := Lib.hid hs4
      have HX := Lib.hid (HE.out.trans hw2)
      clear ho2 hw2 hs4
      go_wp2
      go_ret
      exact ⟨A4, c4, rfl, HS4.out, hc4, HX.out⟩
end Go.Proofs.YtehcldnicefmeaaGreatDoor
