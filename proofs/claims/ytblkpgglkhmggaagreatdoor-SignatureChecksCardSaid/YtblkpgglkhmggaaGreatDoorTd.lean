import Derived.Test.YtblkpgglkhmggaaGreatDoorTc
import Derived.Test.YtblkpgglkhmggaaGreatDoorSl
namespace Go.Proofs.YtblkpgglkhmggaaGreatDoor
open Go.RowKit Go.Maps Go.Sort
set_option linter.unusedSimpArgs false
set_option linter.unusedVariables false

/-! The signature of flat parts that use arguments. -/
def useOf (x : Fp) : ArgP := (x.n.data.toList, useT x.k)
theorem use_wf {k : Int} (hk : k = 2 ∨ k = 3 ∨ k = 5) : (Lit.int .i64 (useT k)).wf = true := by rcases hk with rfl | rfl | rfl <;> decide
theorem walk_nil (g : Nat) (w : World) : Calls Tryz.prog 37 #[.pointer (some ⟨g, 0, none⟩), .slice none 0 0] w fun e w' => e = .returned (.tuple #[]) ∧ w = w' := by
  go_enter Tryz.func37, Tryz.ntmps37
  go_wp2
  refine wp_loop_rounds 1 ?_
  rw [rounds_succ]
  go_wp2
  go_end0
  exact ⟨rfl, rfl⟩
def WkI (w : World) (g mb n0 n : Nat) (T : TabP) (l : List Fp) (i : Value) (wr : World) : Prop := ∃ k : Nat, k ≤ n ∧ i = .int .i64 k ∧ TabW wr g mb (n0 + k) (((l.take k).map useOf).foldl addT T) ∧ Exc (two g mb) w wr
set_option maxHeartbeats 4000000 in
set_option maxRecDepth 100000 in
theorem walk_any (l : List Fp) (A : Option Addr) (n c g mb n0 : Nat) (T : TabP) (w : World) (hA : Fps w A n l) (hn : n ≤ 300) (hn0 : n0 ≤ 300) (hok : ∀ x ∈ l, Fok x) (h : TabW w g mb n0 T) (hne : ∀ ad, A = some ad → ¬ two g mb ad.block) :
    Calls Tryz.prog 37 #[.pointer (some ⟨g, 0, none⟩), .slice A n c] w fun e w' => e = .returned (.tuple #[]) ∧ TabW w' g mb (n0 + n) ((l.map useOf).foldl addT T) ∧ Exc (two g mb) w w' := by
  have HA := Lib.hid hA
  have HL := Lib.hid hA.len
  have HOK := Lib.hid hok
  have HN := Lib.hid hne
  have HT := Lib.hid h
  clear hA hok hne h
  go_enter Tryz.func37, Tryz.ntmps37
  go_wp2_with fail
  go_loopw [12] (WkI w g mb n0 n T l) (fun i _ => n - (intOf i).toNat)
  case atStart => exact ⟨0, Nat.zero_le _, rfl, HT.out, Exc.refl _ _⟩
  case round =>
    obtain ⟨k, hk, rfl, ht, hw⟩ := hrel
    have HTK := Lib.hid ht
    have HW := Lib.hid hw
    clear ht hw
    by_cases hkn : k < n
    · have hkI : (k : Int) < (n : Int) := by omega
      obtain ⟨x, hx⟩ : ∃ x, l[k]? = some x := ⟨_, List.getElem?_eq_getElem (by rw [HL.out]; exact hkn)⟩
      have HX := Lib.hid (HOK.out x (List.mem_of_getElem? hx))
      have HAR := Lib.hid (show Fps wr A n l from HA.out.exc HW.out HN.out)
      obtain ⟨b, o, rfl, hb, hc⟩ := HAR.out.at_ hx
      have a0 := hc 0 _ rfl
      have a1 := hc 1 _ rfl
      have a2 := hc 2 _ rfl
      have a3 := hc 3 _ rfl
      have a4 := hc 4 _ rfl
      have a5 := hc 5 _ rfl
      rw [Nat.add_zero] at a0
      obtain ⟨xk, xn, xs⟩ := x
      have hkd := HX.out.kind
      have hnm := HX.out.name
      simp only at hkd hnm a0 a1 a2 a3 a4 a5
      have HFO := Lib.hid (show ((l.take (k + 1)).map useOf).foldl addT T = addT (((l.take k).map useOf).foldl addT T) (xn.data.toList, useT xk) from by
        rw [take_next hx, List.map_append, List.foldl_append]; rfl)
      have HKU := Lib.hid (use_any xk hkd)
      have HWF := Lib.hid (use_wf hkd)
      have HKA := Lib.hid (AtC.new wr #[.int .i64 xk, .string ⟨#[]⟩, .string xn, .string xs, .slice none 0 0, .slice none 0 0] : AtC 36 _ _ _)
      have HC := Lib.hid (show Ext wr (wr.alloc (.cells #[.int .i64 xk, .string ⟨#[]⟩, .string xn, .string xs, .slice none 0 0, .slice none 0 0] 36)) from (Ext.refl wr).alloc _)
      have hgl := HTK.out.at_.lt
      have hml := HTK.out.map.lt
      have HNW := Lib.hid (show ¬ two g mb wr.heap.size from fun h => by rcases h with h | h <;> omega)
      generalize useT xk = ut at HKU HWF HFO
      clear hc hx hkd hgl hml
      go_wp2_with fail
      refine (HKU.out _).mono ?_
      rintro e w5 ⟨rfl, hw5⟩
      have HW5 := Lib.hid (HC.out.trans hw5)
      have HK5 := Lib.hid (HKA.out.ext hw5)
      have HT5 := Lib.hid (HTK.out.ext HW5.out)
      have kc2 := HK5.out.cell 2 _ rfl
      clear hw5
      go_wp2_with fail
      refine (tadd_any g mb (n0 + k) _ xn ut _ HT5.out (by unfold maxLen; omega) HWF.out (by unfold maxLen; omega)).mono ?_
      rintro e w6 ⟨rfl, ht6, hw6⟩
      have HT6 := Lib.hid ht6
      have HW6 := Lib.hid ((HW.out.trans (Exc.of_ext HW5.out)).trans hw6)
      have HK6 := Lib.hid (HK5.out.exc hw6 HNW.out)
      clear ht6 hw6 kc2
      have kc4 := HK6.out.cell 4 _ rfl
      have kc5 := HK6.out.cell 5 _ rfl
      go_wp2_with fail
      refine wp_loop_rounds 1 ?_
      rw [rounds_succ]
      go_wp2_with (go_at_call 37; refine (walk_nil g _).mono ?_; rintro e w9 ⟨rfl, rfl⟩)
      exact ⟨⟨k + 1, by omega, by go_num, by rw [HFO.out]; exact HT6.out, HW6.out⟩, by simp [intOf]; omega⟩
    · have hkk : k = n := by omega
      subst hkk
      have HE := Lib.hid (show l.take k = l from List.take_of_length_le (by have := HL.out; omega))
      go_wp2
      go_end0
      exact ⟨rfl, by have h := HTK.out; rw [HE.out] at h; exact h, HW.out⟩
set_option maxHeartbeats 4000000 in
set_option maxRecDepth 100000 in
theorem infer_flat (l : List Fp) (o : List ArgP) (A : Option Addr) (n c : Nat) (w : World) (hA : Fps w A n l) (hn : n ≤ 20) (hok : ∀ x ∈ l, Fok x) (hlt : ∀ ad, A = some ad → ad.block < w.heap.size) (ho : foldA [] (l.map useOf) = some o) (hol : o.length ≤ 300) (hz : ∀ x ∈ o, x.1.length ≤ maxLen) :
    Calls Tryz.prog 11 #[.slice A n c] w fun e w' => ∃ A' c', e = .returned (.tuple #[.slice A' o.length c', .int .i64 0]) ∧ Ags w' A' o.length (o.map agP) ∧ Ext w w' := by
  have HA := Lib.hid hA
  have HOK := Lib.hid hok
  have HLT := Lib.hid hlt
  have HZ := Lib.hid hz
  have HTO := Lib.hid ((tab_fold (l.map useOf) tab_start).1 o ho)
  have K1 := Lib.hid (svalid_flat l A n c w hA hn hok hlt)
  have hmm := @run_makeMap Tryz.prog
  obtain ⟨N, hN⟩ : ∃ N, N = o.length := ⟨_, rfl⟩
  have HN := Lib.hid hN
  rw [← hN] at hol ⊢
  clear hA hok hlt ho hz hN
  go_enter Tryz.func11, Tryz.ntmps11
  go_wp2_with fail
  refine K1.out.mono ?_
  rintro e w3 ⟨rfl, hw3⟩
  have HW3 := Lib.hid hw3
  have HWC := Lib.hid (show Ext w3 ((w3.alloc (.map #[] 0)).alloc (.cells #[.map (some w3.heap.size), .bool false] 63)) from ((Ext.refl w3).alloc _).alloc _)
  have HT0 := Lib.hid (show TabW ((w3.alloc (.map #[] 0)).alloc (.cells #[.map (some w3.heap.size), .bool false] 63)) (w3.heap.size + 1) w3.heap.size 0 ⟨[], false⟩ from by
    have h := (AtC.new (w3.alloc (.map #[] 0)) #[.map (some w3.heap.size), .bool false] : AtC 63 _ _ _)
    rw [World.size_alloc] at h
    exact ⟨h, (MapI.made Tryz.prog 9 3 w3).alloc _, by omega⟩)
  have HK := Lib.hid (walk_any l A n c (w3.heap.size + 1) w3.heap.size 0 ⟨[], false⟩ _ (HA.out.ext (HW3.out.trans HWC.out)) (by omega) (by omega) HOK.out HT0.out (fun ad had h => by
    have h1 := HLT.out ad had
    have h2 := Ext.size HW3.out
    rcases h with h | h <;> omega))
  clear hw3
  go_wp2_with fail
  refine HK.out.mono ?_
  rintro e w5 ⟨rfl, ht5, hw5⟩
  rw [Nat.zero_add] at ht5
  have HT5 := Lib.hid ht5
  have HW5 := Lib.hid (show Ext w w5 from HW3.out.trans (ext_exc HWC.out hw5 (fun j hj => by rcases hj with rfl | rfl <;> omega)))
  have kw := ht5.at_.cell 1 _ rfl
  have HTW := Lib.hid (show ((l.map useOf).foldl addT ⟨[], false⟩).wrong = false from HTO.out.2.2)
  simp only [List.getElem_toArray, List.getElem_cons_succ, List.getElem_cons_zero, HTW.out] at kw
  have HKA := Lib.hid (targs_any (w3.heap.size + 1) w3.heap.size n _ o w5 ht5 HTO.out (by omega) (by rw [← HN.out]; omega) HZ.out)
  clear ht5 hw5
  go_wp2_with fail
  refine HKA.out.mono ?_
  rw [← HN.out]
  rintro e w6 ⟨A6, c6, rfl, hs6, hw6⟩
  have HS6 := Lib.hid hs6
  have HW6 := Lib.hid (HW5.out.trans hw6)
  clear hs6 hw6
  go_wp2
  go_ret2
  exact ⟨A6, c6, rfl, HS6.out, HW6.out⟩
end Go.Proofs.YtblkpgglkhmggaaGreatDoor
