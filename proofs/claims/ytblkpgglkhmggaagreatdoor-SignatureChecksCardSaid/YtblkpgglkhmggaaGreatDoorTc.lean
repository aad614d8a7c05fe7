import Derived.Test.YtblkpgglkhmggaaGreatDoorTb
import Derived.Test.YtblkpgglkhmggaaGreatDoorSn
namespace Go.Proofs.YtblkpgglkhmggaaGreatDoor
open Go.RowKit Go.Maps Go.Sort
set_option linter.unusedSimpArgs false
set_option linter.unusedVariables false

/-! The check of flat parts that use arguments. -/
def oneB (b : Nat) : Nat → Prop := fun j => j = b
theorem MapS.exc {P : Program} {k e : TypeId} {w w' : World} {b n : Nat} {S : Nat → Prop} {m : List By} (h : MapS P k e w b n m) (hw : Exc S w w') (hb : ¬ S b) : MapS P k e w' b n m := by
  have hlt := h.lt
  obtain ⟨D, ⟨es, clock, hh, r⟩, h2⟩ := h
  exact ⟨D, ⟨es, clock, (hw.block b hlt hb).trans hh, r⟩, h2⟩
def PtI (w : World) (mb g n : Nat) (i : Value) (wr : World) : Prop := ∃ (k : Nat) (ks : List By), k ≤ n ∧ i = .int .i64 k ∧ MapS Tryz.prog 9 4 wr mb k ks ∧ Exc (oneB mb) w wr
set_option maxHeartbeats 4000000 in
set_option maxRecDepth 100000 in
theorem parts_any (l : List Fp) (A : Option Addr) (n c mb : Nat) (w : World) (hA : Fps w A n l) (hn : n ≤ 300) (hok : ∀ x ∈ l, Fok x) (hm : MapS Tryz.prog 9 4 w mb 0 []) (hne : ∀ ad, A = some ad → ad.block ≠ mb) :
    Calls Tryz.prog 75 #[.agg #[.map (some mb)], .slice A n c, .int .i64 0, .bool false] w fun e w' => e = .returned (.bool true) ∧ (∃ ks, MapS Tryz.prog 9 4 w' mb n ks) ∧ Exc (oneB mb) w w' := by
  have HA := Lib.hid hA
  have HL := Lib.hid hA.len
  have HOK := Lib.hid hok
  have HN := Lib.hid hne
  have HM := Lib.hid hm
  have HG := Lib.hid (AtC.new w #[.map (some mb)] : AtC 103 _ _ _)
  have hmb := Lib.hid hm.lt
  clear hA hok hne hm
  go_enter Tryz.func75, Tryz.ntmps75
  go_wp2_with fail
  go_loopw [13] (PtI (w.alloc (.cells #[.map (some mb)] 103)) mb w.heap.size n) (fun i _ => n - (intOf i).toNat)
  case atStart => exact ⟨0, [], Nat.zero_le _, rfl, HM.out.alloc _, Exc.refl _ _⟩
  case round =>
    obtain ⟨k, ks, hk, rfl, hms, hw⟩ := hrel
    have HMS := Lib.hid hms
    have HW := Lib.hid hw
    have HW0 := Lib.hid ((Exc.of_ext ((Ext.refl w).alloc _)).trans hw)
    clear hms hw
    by_cases hkn : k < n
    · have hkI : (k : Int) < (n : Int) := by omega
      obtain ⟨x, hx⟩ : ∃ x, l[k]? = some x := ⟨_, List.getElem?_eq_getElem (by rw [HL.out]; exact hkn)⟩
      have HX := Lib.hid (HOK.out x (List.mem_of_getElem? hx))
      have HAR := Lib.hid (show Fps wr A n l from HA.out.exc HW0.out (fun ad had h => HN.out ad had h))
      obtain ⟨b, o, rfl, hb, hc⟩ := HAR.out.at_ hx
      have a0 := hc 0 _ rfl
      have a1 := hc 1 _ rfl
      have a2 := hc 2 _ rfl
      have a3 := hc 3 _ rfl
      have a4 := hc 4 _ rfl
      have a5 := hc 5 _ rfl
      rw [Nat.add_zero] at a0
      obtain ⟨xk, xn, xs⟩ := x
      have hkd := HX.out.kind
      have hnm := HX.out.name
      have hft := HX.out.fit
      simp only at hkd hnm hft a0 a1 a2 a3 a4 a5
      have HFT := Lib.hid hft
      have t1 : (xk == 1) = false := by rcases hkd with h | h | h <;> rw [h] <;> rfl
      have t10 : (xk == 10) = false := by rcases hkd with h | h | h <;> rw [h] <;> rfl
      have t11 : (xk == 11) = false := by rcases hkd with h | h | h <;> rw [h] <;> rfl
      have s9 : (decide (7 ≤ xk) && decide (xk ≤ 9)) = false := by rcases hkd with h | h | h <;> rw [h] <;> rfl
      have KS := sel_any xk
      rw [s9] at KS
      have HKS := Lib.hid KS
      have hgw : AtC 103 wr w.heap.size #[.map (some mb)] := HG.out.exc HW.out (show ¬ w.heap.size = mb from by have := hmb.out; omega)
      have hn40 : xn.size ≤ 40 := hnm.2
      have g0 : ¬ xn.toList = [] := by
        rw [ByteArray.toList_eq]
        intro h
        have h2 := size_list xn
        rw [h] at h2
        simp at h2
        omega
      have g0b : xn.toList.isEmpty = false := by
        cases h : xn.toList with
        | nil => exact absurd h g0
        | cons y r => rfl
      have HKA := Lib.hid (AtC.new wr #[.int .i64 xk, .string ⟨#[]⟩, .string xn, .string xs, .slice none 0 0, .slice none 0 0] : AtC 36 _ _ _)
      have HC := Lib.hid (show Ext wr (wr.alloc (.cells #[.int .i64 xk, .string ⟨#[]⟩, .string xn, .string xs, .slice none 0 0, .slice none 0 0] 36)) from (Ext.refl wr).alloc _)
      have HGW := Lib.hid hgw
      clear hc hx KS s9 hnm hft hgw
      go_wp2_with fail
      refine (HFT.out _).mono ?_
      rintro e w5 ⟨rfl, hw5⟩
      have HW5 := Lib.hid (HC.out.trans hw5)
      have kc0 := (HKA.out.ext hw5).cell 0 _ rfl
      have kc2 := (HKA.out.ext hw5).cell 2 _ rfl
      have kg0 := (HGW.out.ext HW5.out).cell 0 _ rfl
      have HM5 := Lib.hid (HMS.out.ext HW5.out)
      clear hw5
      go_wp2_with (first
        | (go_at_call 93; refine (HKS.out _).mono ?_; rintro e w9 ⟨rfl, rfl⟩)
        | (at_mapUpdate; refine wpList_mapUpdateS rfl _ _ _ 101 9 4 rfl Tryz.underlying9 Tryz.underlying4 Tryz.underlying101 mb k ks rfl HM5.out (by unfold maxLen; omega) xn rfl rfl (by unfold maxLen; omega) ?_; intro w6 hm6 hg6; have HM6 := Lib.hid hm6; have HW6 := Lib.hid ((HW.out.trans (Exc.of_ext HW5.out)).trans (Exc.grown hg6 rfl)); clear hm6 hg6))
      all_goals exact ⟨⟨k + 1, _, by omega, by go_num, HM6.out, HW6.out⟩, by simp [intOf]; omega⟩
    · have hkk : k = n := by omega
      subst hkk
      go_wp2
      go_ret
      exact ⟨rfl, ⟨ks, HMS.out⟩, HW0.out⟩
set_option maxHeartbeats 4000000 in
set_option maxRecDepth 100000 in
theorem valid_flat (l : List Fp) (A : Option Addr) (n c : Nat) (w : World) (hA : Fps w A n l) (hn : n ≤ 20) (hok : ∀ x ∈ l, Fok x) (hlt : ∀ ad, A = some ad → ad.block < w.heap.size) :
    Calls Tryz.prog 60 #[.slice A n c, .bool false] w fun e w' => e = .returned (.bool true) ∧ Ext w w' := by
  have HW2 := Lib.hid (show Ext w ((w.alloc (.map #[] 0)).alloc (.cells #[.map (some w.heap.size)] 103)) from ((Ext.refl w).alloc _).alloc _)
  have HG := Lib.hid (show AtC 103 ((w.alloc (.map #[] 0)).alloc (.cells #[.map (some w.heap.size)] 103)) (w.heap.size + 1) #[.map (some w.heap.size)] from by
    have h := (AtC.new (w.alloc (.map #[] 0)) #[.map (some w.heap.size)] : AtC 103 _ _ _)
    rwa [World.size_alloc] at h)
  have HK := Lib.hid (parts_any l A n c w.heap.size ((w.alloc (.map #[] 0)).alloc (.cells #[.map (some w.heap.size)] 103)) (hA.ext HW2.out) (by omega) hok ((MapS.made Tryz.prog 9 4 w).alloc _) (fun ad had => by have := hlt ad had; omega))
  have KL := Lib.hid (fun W (h : Ext w W) => length_any l A n c W (hA.ext h) (by omega) hok)
  have hmm := @run_makeMap Tryz.prog
  clear hA hok hlt
  go_enter Tryz.func60, Tryz.ntmps60
  go_wp2_with fail
  refine HK.out.mono ?_
  rintro e w3 ⟨rfl, ⟨ks, hm3⟩, hw3⟩
  obtain ⟨D, hown, _⟩ := hm3
  have hsz := hown.size_le
  have hln := fun ty => hown.len Tryz.underlying101 ty
  obtain ⟨q, hq⟩ : ∃ q : Nat, q = Maps.size D := ⟨_, rfl⟩
  rw [← hq] at hsz
  simp only [← hq] at hln
  have q20 : (q : Int) ≤ 20 := by omega
  have HW3 := Lib.hid (show Ext w w3 from Below.trans HW2.out (hw3.below (fun j hj => by rw [hj]; exact Nat.le_refl _) (Ext.size HW2.out)))
  have kg := (HG.out.exc hw3 (show ¬ w.heap.size + 1 = w.heap.size from by omega)).cell 0 _ rfl
  clear hown hw3 hq
  go_wp2_with (first
    | (go_at_call 76; refine (KL.out _ HW3.out).mono ?_; rintro e w9 ⟨v, rfl, hv, hw9⟩; have HW9 := Lib.hid (HW3.out.trans hw9); have v40 : (v : Int) ≤ 4000 := by omega))
  go_ret
  exact ⟨by first | rfl | simp [v40], HW9.out⟩
theorem svalid_flat (l : List Fp) (A : Option Addr) (n c : Nat) (w : World) (hA : Fps w A n l) (hn : n ≤ 20) (hok : ∀ x ∈ l, Fok x) (hlt : ∀ ad, A = some ad → ad.block < w.heap.size) :
    Calls Tryz.prog 36 #[.slice A n c] w fun e w' => e = .returned (.bool true) ∧ Ext w w' := by
  have HK := Lib.hid (valid_flat l A n c w hA hn hok hlt)
  clear hA hok hlt
  go_enter Tryz.func36, Tryz.ntmps36
  go_wp2_with fail
  refine HK.out.mono ?_
  rintro e w3 ⟨rfl, hw3⟩
  have HW3 := Lib.hid hw3
  clear hw3
  go_wp2
  go_ret
  exact ⟨rfl, HW3.out⟩
/-! The uses. -/
def useT (k : Int) : Int := if k = 2 then 0 else if k = 3 then 2 else 3
set_option maxRecDepth 100000 in
theorem use_any (k : Int) (hk : k = 2 ∨ k = 3 ∨ k = 5) (w : World) : Calls Tryz.prog 61 #[.int .i64 k] w fun e w' => e = .returned (.tuple #[.int .i64 (useT k), .bool true]) ∧ Ext w w' := by
  rcases hk with rfl | rfl | rfl
  all_goals
    go_enter Tryz.func61, Tryz.ntmps61
    go_wp2
    go_ret2
    exact ⟨rfl, (Ext.refl w).alloc _⟩
end Go.Proofs.YtblkpgglkhmggaaGreatDoor
