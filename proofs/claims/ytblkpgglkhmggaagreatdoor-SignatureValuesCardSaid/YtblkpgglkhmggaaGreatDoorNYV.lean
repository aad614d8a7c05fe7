import Derived.Test.YtblkpgglkhmggaaGreatDoorAw28
import Derived.Test.YtblkpgglkhmggaaGreatDoorMgK
import Derived.Test.YtblkpgglkhmggaaGreatDoorRc
import Derived.Test.YtblkpgglkhmggaaGreatDoorLift
import Derived.Test.YtblkpgglkhmggaaGreatDoorShelf
import Derived.Test.YtblkpgglkhmggaaGreatDoorRows
import Derived.Test.YtblkpgglkhmggaaGreatDoorCards
import Derived.Test.YtblkpgglkhmggaaGreatDoorTie
import Derived.Shelf.Vars
namespace Go.Proofs.YtblkpgglkhmggaaGreatDoor.lawSignatureValues
open Go.ChangeShapes Go.WideShapes Go.ChangeAt Go.RowKit
set_option linter.unusedSimpArgs false
set_option linter.unusedVariables false

theorem getX_sl {w : World} {A : Option Addr} {n : Nat} {l : List Vl} (h : Vls w A n l) (s : By) : Sl w (getX l s).1.A (getX l s).1.ln ((getX l s).1.l.map .string) := by
  cases hf : (getX l s).2
  · have h1 : (getX l s).1 = zVl := by
      unfold getX at hf ⊢
      cases hq : l.find? (fun x => x.n.data.toList == s) with
      | none => rfl
      | some x => rw [hq] at hf; cases hf
    rw [h1]
    exact Sl.nil _ _
  · exact h.2 _ (getX_mem hf)
theorem fewV_ok {l : List Vl} (h : fewVs l = true) : ∀ x ∈ l, vlOK x := fun x hx => by
  unfold fewVs at h
  rw [Bool.and_eq_true] at h
  have h1 := List.all_eq_true.1 h.1 x hx
  unfold fewV at h1
  simp only [Bool.and_eq_true, decide_eq_true_iff] at h1
  exact ⟨by omega, by omega⟩
def SvL (w : World) (n : Nat) (i : Value) (wr : World) : Prop := ∃ k : Nat, k ≤ n ∧ i = .int .i64 k ∧ Ext w wr
set_option maxRecDepth 100000 in
set_option maxHeartbeats 8000000 in
theorem law (a : List Ag) (A : Option Addr) (n na : Nat) (b : List Vl) (B : Option Addr) (m mb : Nat) (s : ByteArray) (w : World) (hm : Mx w) (hA : Ags w A n a) (hnA : n ≤ maxLen) (hzA : ∀ x ∈ a, x.n.size ≤ maxLen ∧ (Lit.int .i64 x.t).wf = true)
    (hB : Vls w B m b) (hnB : m ≤ maxLen) (hzB : ∀ x ∈ b, x.n.size ≤ reachBytes ∧ x.s.size ≤ reachBytes ∧ x.ln ≤ maxLen ∧ (Lit.int .i64 x.t).wf = true ∧ (Lit.int .i64 x.d).wf = true) :
    Calls Tryz.prog 6 #[.slice A n na, .slice B m mb, .string s] w (RetTrue w) := by
  have HA := Lib.hid hA
  have HB := Lib.hid hB
  have HZA := Lib.hid hzA
  have HBL := Lib.hid hB.len
  have HMX := Lib.hid hm
  have hfa := fun W (h : Ext w W) => fewa_any a A n na W (HA.out.ext h) hnA
  have hfb := fun W (h : Ext w W) => fewv_any b B m mb W (HB.out.ext h) hnB (fun x hx => (hzB x hx).2.2.1)
  clear hA hB hzA hm
  cases qa : fewA a
  · rw [qa] at hfa
    have HFA := Lib.hid hfa
    clear hfa hfb qa
    go_enter Tryz.func6, Tryz.ntmps6
    go_wp2_with fail
    refine (awake_any _).mono ?_
    rintro e w1 ⟨rfl, hw1⟩
    have HW1 := Lib.hid hw1
    clear hw1
    go_wp2_with fail
    refine (HFA.out _ HW1.out).mono ?_
    rintro e w2 ⟨rfl, hw2⟩
    have HW2 := Lib.hid (HW1.out.trans hw2)
    clear hw2
    go_wp2
    go_ret
    exact ⟨rfl, HW2.out⟩
  rw [qa] at hfa
  have HFA := Lib.hid hfa
  cases qb : fewVs b
  · rw [qb] at hfb
    have HFB := Lib.hid hfb
    clear hfa hfb qa qb
    go_enter Tryz.func6, Tryz.ntmps6
    go_wp2_with fail
    refine (awake_any _).mono ?_
    rintro e w1 ⟨rfl, hw1⟩
    have HW1 := Lib.hid hw1
    clear hw1
    go_wp2_with fail
    refine (HFA.out _ HW1.out).mono ?_
    rintro e w2 ⟨rfl, hw2⟩
    have HW2 := Lib.hid (HW1.out.trans hw2)
    clear hw2
    go_wp2_with fail
    refine (HFB.out _ HW2.out).mono ?_
    rintro e w3 ⟨rfl, hw3⟩
    have HW3 := Lib.hid (HW2.out.trans hw3)
    clear hw3
    go_wp2
    go_ret
    exact ⟨rfl, HW3.out⟩
  rw [qb] at hfb
  have HFB := Lib.hid hfb
  have HOK := Lib.hid (fewV_ok qb)
  have HRB := Lib.hid hzB
  clear hfa hfb qa qb hzB
  go_enter Tryz.func6, Tryz.ntmps6
  go_wp2_with fail
  refine (awake_any _).mono ?_
  rintro e w1 ⟨rfl, hw1⟩
  have HW1 := Lib.hid hw1
  clear hw1
  go_wp2_with fail
  refine (HFA.out _ HW1.out).mono ?_
  rintro e w2 ⟨rfl, hw2⟩
  have HW2 := Lib.hid (HW1.out.trans hw2)
  clear hw2
  go_wp2_with fail
  refine (HFB.out _ HW2.out).mono ?_
  rintro e w3 ⟨rfl, hw3⟩
  have HW3 := Lib.hid (HW2.out.trans hw3)
  clear hw3
  by_cases h60 : 60 < s.size
  · have h60I : (60 : Int) < (s.size : Int) := by omega
    go_wp2
    go_ret
    exact ⟨rfl, HW3.out⟩
  have h60I : ¬ (60 : Int) < (s.size : Int) := by omega
  go_wp2_with fail
  go_loopw [7] (SvL w3 m) (fun i _ => m - (intOf i).toNat)
  case atStart => exact ⟨0, Nat.zero_le _, rfl, Ext.refl _⟩
  case round =>
    obtain ⟨k, hk, rfl, hw⟩ := hrel
    obtain ⟨wo, rfl⟩ : ∃ wo : World, wo = wr := ⟨_, rfl⟩
    have HWI := Lib.hid hw
    have HW := Lib.hid (HW3.out.trans hw)
    clear hw
    unfold maxLen at hnB
    by_cases hkn : k < m
    · have hkI : (k : Int) < (m : Int) := by omega
      obtain ⟨x, hx⟩ : ∃ x, b[k]? = some x := ⟨_, List.getElem?_eq_getElem (by rw [HBL.out]; exact hkn)⟩
      have hok := HOK.out x (List.mem_of_getElem? hx)
      obtain ⟨bb, o, rfl, hb, hc⟩ := (HB.out.ext HW.out).at_ hx
      have a0 := hc 0 _ rfl
      have a1 := hc 1 _ rfl
      have a2 := hc 2 _ rfl
      have a3 := hc 3 _ rfl
      have a4 := hc 4 _ rfl
      rw [Nat.add_zero] at a0
      have r0 := fun z : ExtW wo => cell_mid28 z.h a0
      have r1 := fun z : ExtW wo => cell_mid28 z.h a1
      have r2 := fun z : ExtW wo => cell_mid28 z.h a2
      have r3 := fun z : ExtW wo => cell_mid28 z.h a3
      have r4 := fun z : ExtW wo => cell_mid28 z.h a4
      have HK1 := Lib.hid (fun z : ExtW wo => tproper_any x.n x.s x.t x.d x.A x.ln x.c z.v (HMX.out.ext (HW.out.trans z.h)) hok.1)
      have HK2 := Lib.hid (fun z : ExtW wo => rproper_any x.n x.s x.t x.d x.A x.ln x.c z.v hok.1)
      generalize propB x.t x.s.data.toList x.d x.ln = pb at HK1 HK2
      have hpb : (pb != pb) = false := by simp
      clear a0 a1 a2 a3 a4 hc hx hb hok
      go_wp2_with fail
      refine wp_region_ext (by kernel_rfl) (by kernel_rfl) ?_
      repeat (go_big_quiet_step (first | (go_at_call 21; with_reducible exact ExtW.call (HK1.out _)) | (go_at_call 22; with_reducible exact ExtW.call (HK2.out _))))
      refine wpQuiet_nil ?_
      intro w7 hw7
      have HX7 := Lib.hid (ext_of28 hw7)
      clear hw7 r0 r1 r2 r3 r4
      go_wp2
      exact ⟨⟨k + 1, hkn, by go_num, HWI.out.trans HX7.out⟩, by simp [intOf]; omega⟩
    · have hkk : k = m := by omega
      subst hkk
      have hkI : ¬ (k : Int) < (k : Int) := by omega
      have K1 := Lib.hid (fun W (h : Ext w W) => sget_any b B k mb s W (HB.out.ext h) hnB (fun y hy => (HOK.out y hy).2))
      have K2 := Lib.hid (fun W (h : Ext w W) => rget_any b B k mb s W (HB.out.ext h) hnB)
      have K3 := Lib.hid (fun W (h : Ext w W) => tcheck_any a b A B n k na mb W (HMX.out.ext h) (HA.out.ext h) (HB.out.ext h) hnA hnB (fun x hx => (HZA.out x hx).1) HOK.out)
      have K4 := Lib.hid (fun W (h : Ext w W) => rcheck_any a b A B n k na mb W (HA.out.ext h) (HB.out.ext h) hnA hnB (fun x hx => (HZA.out x hx).1) HOK.out)
      have KS := Lib.hid (fun W (h : Ext w W) => getX_sl (HB.out.ext h) s.data.toList)
      have KL := Lib.hid (show (getX b s.data.toList).1.ln ≤ maxLen from by
        have h := (getX_sl HB.out s.data.toList)
        cases hf : (getX b s.data.toList).2
        · unfold getX at hf ⊢
          cases hq : b.find? (fun x => x.n.data.toList == s.data.toList) with
          | none => exact Nat.zero_le _
          | some x => rw [hq] at hf; cases hf
        · exact (HRB.out _ (getX_mem hf)).2.2.1)
      generalize getX b s.data.toList = gx at K1 K2 KS KL
      obtain ⟨v, ok⟩ := gx
      simp only at K1 K2 KS KL
      generalize checkP (a.map agOf) (b.map vlOf) = ck at K3 K4
      obtain ⟨c1, c2⟩ := ck
      go_wp2_with fail
      refine (K1.out _ HW.out).mono ?_
      rintro e w5 ⟨A5, c5, rfl, hs5, hw5⟩
      have HW5 := Lib.hid (HW.out.trans hw5)
      have HS5 := Lib.hid hs5
      have HV5 := Lib.hid (AtC.new w5 #[.string v.n, .int .i64 v.t, .string v.s, .int .i64 v.d, .slice A5 v.ln c5] : AtC 45 _ _ _)
      have HX5 := Lib.hid (show Ext w5 (w5.alloc (.cells #[.string v.n, .int .i64 v.t, .string v.s, .int .i64 v.d, .slice A5 v.ln c5] 45)) from (Ext.refl w5).alloc _)
      clear hs5 hw5
      unfold vlV
      simp only
      go_wp2_with fail
      refine (K2.out _ (HW5.out.trans HX5.out)).mono ?_
      rintro e w6 ⟨rfl, hw6⟩
      have HW6 := Lib.hid ((HW5.out.trans HX5.out).trans hw6)
      have HE6 := Lib.hid (HX5.out.trans hw6)
      have HV6 := Lib.hid (HV5.out.ext hw6)
      have HU6 := Lib.hid (AtC.new w6 #[.string v.n, .int .i64 v.t, .string v.s, .int .i64 v.d, .slice v.A v.ln v.c] : AtC 45 _ _ _)
      have HX6 := Lib.hid (show Ext w6 (w6.alloc (.cells #[.string v.n, .int .i64 v.t, .string v.s, .int .i64 v.d, .slice v.A v.ln v.c] 45)) from (Ext.refl w6).alloc _)
      clear hw6
      unfold vlV
      simp only
      go_wp2_with fail
      refine (K3.out _ (HW6.out.trans HX6.out)).mono ?_
      rintro e w7 ⟨rfl, hw7⟩
      have HW7 := Lib.hid ((HW6.out.trans HX6.out).trans hw7)
      have HE7 := Lib.hid (HX6.out.trans hw7)
      have HU7 := Lib.hid (HU6.out.ext hw7)
      clear hw7
      go_wp2_with fail
      refine (K4.out _ HW7.out).mono ?_
      rintro e w8 ⟨rfl, hw8⟩
      have HW8 := Lib.hid (HW7.out.trans hw8)
      have HU8 := Lib.hid (HU7.out.ext hw8)
      have HV8 := Lib.hid (HV6.out.ext (HE7.out.trans hw8))
      have HS8 := Lib.hid (HS5.out.ext (HE6.out.trans (HE7.out.trans hw8)))
      have HT8 := Lib.hid (KS.out _ HW8.out)
      clear hw8
      have u0 := HU8.out.cell 0 _ rfl
      have u1 := HU8.out.cell 1 _ rfl
      have u2 := HU8.out.cell 2 _ rfl
      have u3 := HU8.out.cell 3 _ rfl
      have u4 := HU8.out.cell 4 _ rfl
      have v0 := HV8.out.cell 0 _ rfl
      have v1 := HV8.out.cell 1 _ rfl
      have v2 := HV8.out.cell 2 _ rfl
      have v3 := HV8.out.cell 3 _ rfl
      have v4 := HV8.out.cell 4 _ rfl
      go_wp2_with (go_at_call 27; with_reducible refine (same_any v.n v.s v.t v.d A5 v.A v.ln c5 v.c v.l _ HS8.out HT8.out KL.out).mono ?_; rintro e w9 ⟨rfl, hw9⟩; have HW9 := Lib.hid (HW8.out.trans hw9); clear hw9)
      go_ret
      exact ⟨rfl, HW9.out⟩
end Go.Proofs.YtblkpgglkhmggaaGreatDoor.lawSignatureValues
namespace Go.Proofs.YtblkpgglkhmggaaGreatDoor.lawSignatureValues
open Go.ChangeShapes Go.WideShapes Go.ChangeAt Go.RowKit
open Go.ChangeMaps (open_string shut_string)
set_option linter.unusedSimpArgs false
set_option linter.unusedVariables false

def laidL : List (String × DataW Unit) := Rows.signatureValuesRow.laid

set_option maxRecDepth 100000 in
theorem lifted (os : Os) (started : os.Started) (H : Type) (enc : TypeId × Value → H) :
    ReturnsInHanded {} Tryz.checked os 6 .any (fun w args => (Rows.signatureValuesSpec.pre enc Tryz.prog Tryz.f6 [] false w args ∧ laidMetH Tryz.prog laidL w) ∧ sizedMet enc Tryz.prog Tryz.f6 (OpenSpec.ofChange Rows.signatureValuesSpec) false w args)
      (Rows.signatureValuesSpec.post enc Tryz.prog Tryz.f6 false true false false) := by
  refine lifted_and_sized (C := Tryz.checked) (X := fun w _ => laidMetH Tryz.prog laidL w) (fun _ _ _ hh h => h.of_heap hh) own started (by kernel_rfl) Tryz.func6
    (ChangeSpec.witness_shaped (enc := enc) (C := Tryz.checked) (os := os) (X := fun w _ => laidMetH Tryz.prog laidL w) false (World.laidAll Tryz.prog os laidL) #[.slice none 0 0, .slice none 0 0, .string ⟨#[]⟩] 8 (World.laidAll_os _ _ _)
      (World.shaped_of_ZipB (by kernel_rfl) (by kernel_rfl)) (by kernel_rfl) (by kernel_rfl) (by kernel_rfl)
      (by rw [MakeChecks.laidMetH_plain _ _ _ (by kernel_rfl)]; exact laidMet_laidAll _ (by kernel_rfl) (by kernel_rfl))) ?_
  intro W base args ds gs before hval0 hW hL hshape hsz0
  have hval : ∀ (j : Nat) t v, Tryz.f6.params[j]? = some t → args[j]? = some v → Value.okWide Tryz.prog W .any base t v := hval0
  have hW' := hW
  obtain ⟨p, q, hA0, hV, rfl, hfz, hnd⟩ := hW
  have hA : DataW.TrodAll enc Tryz.prog W 0 (fun _ => true) true Tryz.f6.params.toList args.toList ds p := hA0
  obtain ⟨rfl, rfl⟩ := trodVars_none hV
  have hsz : ∀ m ∈ DataW.weightsEach Tryz.prog Tryz.f6.params.toList ds, m ≤ reachBytes := fun m hm => hsz0 m (by
    rw [List.append_nil, show Rows.signatureValuesSpec.plain.varTypes Tryz.checked.prog = [] from rfl, List.append_nil]
    exact hm)
  rw [Tryz.params6] at hA hval hsz
  obtain ⟨v0, v1, v2, d0, d1, d2, p0, p1, p2, rfl, rfl, rfl, h0, h1, h2⟩ := trodAll_three hA
  obtain ⟨A, n, na, a, rfl, hgA, hnA, hzA⟩ := open_ags (okWide_slice Tryz.underlying25 (hval 0 25 v0 rfl rfl)) h0 (fun m hm => hsz m (DataW.weights_mem_each (j := 0) rfl rfl m hm))
  have hzAm : ∀ x ∈ a, x.n.size ≤ maxLen ∧ (Lit.int .i64 x.t).wf = true := fun x hx => ⟨Nat.le_trans (hzA x hx).1 (by decide), (hzA x hx).2⟩
  obtain ⟨B, m, mb, b, rfl, hgB, hnB, hzB⟩ := open_vls (okWide_slice Tryz.underlying40 (hval 1 40 v1 rfl rfl)) h1 (fun m hm => hsz m (DataW.weights_mem_each (j := 1) rfl rfl m hm))
  obtain ⟨s, rfl⟩ := okWide_string Tryz.underlying9 (hval 2 9 v2 rfl rfl)
  refine (law a A n na b B m mb s W (mx_of hshape) hgA hnA hzAm hgB hnB hzB).mono fun e W' ⟨he, hw⟩ => ?_
  subst he
  exact ⟨_, rfl, law_post (t := 4) laidOut (by rw [Tryz.params6]; intro t ht; simp at ht; rcases ht with rfl | rfl | rfl <;> exact ⟨by kernel_rfl, of_decide_eq_true (by kernel_rfl)⟩) rfl Tryz.underlying4 rfl ⟨rfl, rfl, rfl⟩ hW' hw⟩


end Go.Proofs.YtblkpgglkhmggaaGreatDoor.lawSignatureValues
