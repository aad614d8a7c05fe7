import Derived.Test.YtblkpgglkhmggaaGreatDoorAw28
import Derived.Test.YtblkpgglkhmggaaGreatDoorMgK
import Derived.Test.YtblkpgglkhmggaaGreatDoorRc
import Derived.Test.YtblkpgglkhmggaaGreatDoorLift
import Derived.Test.YtblkpgglkhmggaaGreatDoorShelf
import Derived.Test.YtblkpgglkhmggaaGreatDoorRows
import Derived.Test.YtblkpgglkhmggaaGreatDoorCards
import Derived.Test.YtblkpgglkhmggaaGreatDoorTie
import Derived.Shelf.Vars
namespace Go.Proofs.YtblkpgglkhmggaaGreatDoor.lawSignatureChecks
open Go.ChangeShapes Go.WideShapes Go.ChangeAt Go.RowKit
set_option linter.unusedSimpArgs false
set_option linter.unusedVariables false

theorem fewV_ok {l : List Vl} (h : fewVs l = true) : ∀ x ∈ l, vlOK x := fun x hx => by
  unfold fewVs at h
  rw [Bool.and_eq_true] at h
  have h1 := List.all_eq_true.1 h.1 x hx
  unfold fewV at h1
  simp only [Bool.and_eq_true, decide_eq_true_iff] at h1
  exact ⟨by omega, by omega⟩
def nmV (x : Vl) : By := x.n.data.toList
def difB (l : List Vl) : Bool := decide ((l.map nmV).Nodup)
theorem dif_step (l : List Vl) (x : Vl) : difB (l ++ [x]) = (difB l && !(getX l x.n.data.toList).2) := by
  have h1 : (getX l x.n.data.toList).2 = decide (nmV x ∈ l.map nmV) := by
    unfold getX
    cases hf : l.find? (fun y => y.n.data.toList == x.n.data.toList) with
    | none =>
      rw [List.find?_eq_none] at hf
      symm
      show decide (nmV x ∈ l.map nmV) = false
      rw [decide_eq_false_iff_not, List.mem_map]
      rintro ⟨y, hy, he⟩
      exact hf y hy (by unfold nmV at he; simp [he])
    | some y =>
      have h2 := List.find?_some hf
      have h3 := List.mem_of_find?_eq_some hf
      symm
      show decide (nmV x ∈ l.map nmV) = true
      rw [decide_eq_true_iff, List.mem_map]
      exact ⟨y, h3, by unfold nmV; exact eq_of_beq h2⟩
  rw [h1]
  unfold difB
  rw [Bool.eq_iff_iff]
  rw [Bool.and_eq_true, Bool.not_eq_true', decide_eq_false_iff_not, decide_eq_true_iff, decide_eq_true_iff, List.map_append, List.nodup_append]
  constructor
  · rintro ⟨h2, _, h3⟩
    exact ⟨h2, fun hm => h3 (nmV x) hm (nmV x) (by simp) rfl⟩
  · rintro ⟨h2, h3⟩
    refine ⟨h2, by simp, fun y hy z hz e => ?_⟩
    simp at hz
    subst hz e
    exact h3 hy
theorem vlC_one (l : List Vl) : ∀ u ∈ l.flatMap vlC, u.oneCell' = true := by
  intro u hu
  obtain ⟨x, _, h⟩ := List.mem_flatMap.1 hu
  simp [vlC] at h
  rcases h with rfl | rfl | rfl | rfl | rfl <;> rfl
def TuI (w3 : World) (c : List Vl) (k : Nat) (tu df i : Value) (wr : World) : Prop := ∃ r : Nat, r ≤ k ∧ i = .int .i64 ((r : Int) - 1) ∧ df = .bool (difB (c.drop r).reverse) ∧ wr.ownsRow w3.heap.size 45 5 tu (k - r) ((c.drop r).reverse.flatMap vlC) ∧ Ext w3 wr
theorem turn_step {c : List Vl} {j : Nat} {x : Vl} (hx : c[j]? = some x) : (c.drop j).reverse = (c.drop (j + 1)).reverse ++ [x] := by
  have hj : j < c.length := (List.getElem?_eq_some_iff.1 hx).1
  rw [List.drop_eq_getElem_cons hj, List.reverse_cons]
  congr 2
  exact (List.getElem?_eq_some_iff.1 hx).2
set_option maxRecDepth 100000 in
set_option maxHeartbeats 8000000 in
theorem law (a : List Ag) (A : Option Addr) (n na : Nat) (b : List Ag) (B : Option Addr) (m mb : Nat) (c : List Vl) (C : Option Addr) (k kc : Nat) (w : World) (hm : Mx w) (hA : Ags w A n a) (hnA : n ≤ maxLen) (hzA : ∀ x ∈ a, x.n.size ≤ maxLen ∧ (Lit.int .i64 x.t).wf = true)
    (hB : Ags w B m b) (hnB : m ≤ maxLen) (hzB : ∀ x ∈ b, x.n.size ≤ maxLen ∧ (Lit.int .i64 x.t).wf = true)
    (hC : Vls w C k c) (hnC : k ≤ maxLen) (hzC : ∀ x ∈ c, x.n.size ≤ reachBytes ∧ x.s.size ≤ reachBytes ∧ x.ln ≤ maxLen ∧ (Lit.int .i64 x.t).wf = true ∧ (Lit.int .i64 x.d).wf = true) :
    Calls Tryz.prog 7 #[.slice A n na, .slice B m mb, .slice C k kc] w (RetTrue w) := by
  obtain ⟨i0, hi, hz0, hz1, hz2⟩ := info_parts (show (Tryz.prog.info? 45).map (fun i => (i.zero, i.size, i.bytes)) = some (some (.agg #[.string ⟨#[]⟩, .int .i64 0, .string ⟨#[]⟩, .int .i64 0, .slice none 0 0]), 5, 72) from by kernel_rfl)
  have HA := Lib.hid hA
  have HB := Lib.hid hB
  have HC := Lib.hid hC
  have HZA := Lib.hid hzA
  have HZB := Lib.hid hzB
  have HCL := Lib.hid hC.len
  have HMX := Lib.hid hm
  have hfa := fun W (h : Ext w W) => fewa_any a A n na W (HA.out.ext h) hnA
  have hfb := fun W (h : Ext w W) => fewa_any b B m mb W (HB.out.ext h) hnB
  have hfc := fun W (h : Ext w W) => fewv_any c C k kc W (HC.out.ext h) hnC (fun x hx => (hzC x hx).2.2.1)
  clear hA hB hC hzA hzB hm
  cases qa : fewA a
  · rw [qa] at hfa
    have HFA := Lib.hid hfa
    clear hfa hfb hfc qa hzC
    go_enter Tryz.func7, Tryz.ntmps7
    go_wp2_with fail
    refine (awake_any _).mono ?_
    rintro e w1 ⟨rfl, hw1⟩
    have HW1 := Lib.hid hw1
    clear hw1
    go_wp2_with fail
    refine (HFA.out _ HW1.out).mono ?_
    rintro e w2 ⟨rfl, hw2⟩
    have HW2 := Lib.hid (HW1.out.trans hw2)
    clear hw2
    go_wp2
    go_ret
    exact ⟨rfl, HW2.out⟩
  rw [qa] at hfa
  have HFA := Lib.hid hfa
  cases qb : fewA b
  · rw [qb] at hfb
    have HFB := Lib.hid hfb
    clear hfa hfb hfc qa qb hzC
    go_enter Tryz.func7, Tryz.ntmps7
    go_wp2_with fail
    refine (awake_any _).mono ?_
    rintro e w1 ⟨rfl, hw1⟩
    have HW1 := Lib.hid hw1
    clear hw1
    go_wp2_with fail
    refine (HFA.out _ HW1.out).mono ?_
    rintro e w2 ⟨rfl, hw2⟩
    have HW2 := Lib.hid (HW1.out.trans hw2)
    clear hw2
    go_wp2_with fail
    refine (HFB.out _ HW2.out).mono ?_
    rintro e w3 ⟨rfl, hw3⟩
    have HW3 := Lib.hid (HW2.out.trans hw3)
    clear hw3
    go_wp2
    go_ret
    exact ⟨rfl, HW3.out⟩
  rw [qb] at hfb
  have HFB := Lib.hid hfb
  cases qc : fewVs c
  · rw [qc] at hfc
    have HFC := Lib.hid hfc
    clear hfa hfb hfc qa qb qc hzC
    go_enter Tryz.func7, Tryz.ntmps7
    go_wp2_with fail
    refine (awake_any _).mono ?_
    rintro e w1 ⟨rfl, hw1⟩
    have HW1 := Lib.hid hw1
    clear hw1
    go_wp2_with fail
    refine (HFA.out _ HW1.out).mono ?_
    rintro e w2 ⟨rfl, hw2⟩
    have HW2 := Lib.hid (HW1.out.trans hw2)
    clear hw2
    go_wp2_with fail
    refine (HFB.out _ HW2.out).mono ?_
    rintro e w3 ⟨rfl, hw3⟩
    have HW3 := Lib.hid (HW2.out.trans hw3)
    clear hw3
    go_wp2_with fail
    refine (HFC.out _ HW3.out).mono ?_
    rintro e w4 ⟨rfl, hw4⟩
    have HW4 := Lib.hid (HW3.out.trans hw4)
    clear hw4
    go_wp2
    go_ret
    exact ⟨rfl, HW4.out⟩
  rw [qc] at hfc
  have HFC := Lib.hid hfc
  have HOK := Lib.hid (fewV_ok qc)
  have hk30 : k ≤ 30 := by
    have h := qc
    unfold fewVs at h
    rw [Bool.and_eq_true, decide_eq_true_iff, HCL.out] at h
    exact h.2
  clear hfa hfb hfc qa qb qc hzC
  go_enter Tryz.func7, Tryz.ntmps7
  go_wp2_with fail
  refine (awake_any _).mono ?_
  rintro e w1 ⟨rfl, hw1⟩
  have HW1 := Lib.hid hw1
  clear hw1
  go_wp2_with fail
  refine (HFA.out _ HW1.out).mono ?_
  rintro e w2 ⟨rfl, hw2⟩
  have HW2 := Lib.hid (HW1.out.trans hw2)
  clear hw2
  go_wp2_with fail
  refine (HFB.out _ HW2.out).mono ?_
  rintro e w3 ⟨rfl, hw3⟩
  have HW3 := Lib.hid (HW2.out.trans hw3)
  clear hw3
  go_wp2_with fail
  refine (HFC.out _ HW3.out).mono ?_
  rintro e w4 ⟨rfl, hw4⟩
  have HW4 := Lib.hid (HW3.out.trans hw4)
  clear hw4
  go_wp2_with fail
  go_loopw [7, 8, 9] (TuI w4 c k) (fun _ _ i _ => (intOf i + 1).toNat)
  case atStart => exact ⟨k, Nat.le_refl _, rfl, by rw [List.drop_eq_nil_of_le (by rw [HCL.out]; exact Nat.le_refl _)]; rfl, by rw [Nat.sub_self, List.drop_eq_nil_of_le (by rw [HCL.out]; exact Nat.le_refl _)]; exact ⟨by simp, .inl ⟨rfl, rfl⟩⟩, Ext.refl _⟩
  case round =>
    obtain ⟨r, hr, rfl, rfl, ho, hw⟩ := hrel
    obtain ⟨wo, rfl⟩ : ∃ wo : World, wo = wr := ⟨_, rfl⟩
    have HW := Lib.hid (HW4.out.trans hw)
    have HWI := Lib.hid hw
    have HO := Lib.hid ho
    clear hw ho
    cases r with
    | succ j =>
      have hj1 : ((j + 1 : Nat) : Int) - 1 = (j : Int) := by omega
      rw [hj1]
      have hj0 : (0 : Int) ≤ (j : Int) := by omega
      have hjI : (j : Int) < (k : Int) := by omega
      obtain ⟨x, hx⟩ : ∃ x, c[j]? = some x := ⟨_, List.getElem?_eq_getElem (by rw [HCL.out]; omega)⟩
      have HTS := Lib.hid (turn_step hx)
      have HDS := Lib.hid (dif_step (c.drop (j + 1)).reverse x)
      rw [← HTS.out] at HDS
      obtain ⟨Ao, co, rfl, hso⟩ := own_slN HO.out
      have HV := Lib.hid (show Vls wo Ao (k - (j + 1)) (c.drop (j + 1)).reverse from ⟨hso, fun y hy => (HC.out.ext HW.out).2 y (List.mem_of_mem_drop (List.mem_reverse.1 hy))⟩)
      have HVC := Lib.hid (HC.out.ext HW.out)
      obtain ⟨bb, o, rfl, hb, hc⟩ := HVC.out.at_ hx
      have a0 := hc 0 _ rfl
      have A0 := Lib.hid (hc 0 _ rfl)
      have A1 := Lib.hid (hc 1 _ rfl)
      have A2 := Lib.hid (hc 2 _ rfl)
      have A3 := Lib.hid (hc 3 _ rfl)
      have A4 := Lib.hid (hc 4 _ rfl)
      rw [Nat.add_zero] at a0
      have HKG := Lib.hid (rget_any (c.drop (j + 1)).reverse Ao (k - (j + 1)) co x.n wo HV.out (by unfold maxLen; omega))
      generalize getX (c.drop (j + 1)).reverse x.n.data.toList = gx at HKG HDS
      obtain ⟨v, is⟩ := gx
      simp only at HKG HDS
      generalize difB (c.drop (j + 1)).reverse = d1 at HDS ⊢
      generalize hdd : difB (c.drop j).reverse = d2 at HDS
      have HDD := Lib.hid hdd
      clear hx hc hb hso hdd
      go_wp2_with fail
      refine HKG.out.mono ?_
      rintro e w5 ⟨rfl, hw5⟩
      have HW5 := Lib.hid (hw5.alloc (.cells #[.string v.n, .int .i64 v.t, .string v.s, .int .i64 v.d, .slice v.A v.ln v.c] 45))
      clear hw5
      unfold vlV
      simp only
      have b0 := cell_mid28 HW5.out A0.out
      have b1 := cell_mid28 HW5.out A1.out
      have b2 := cell_mid28 HW5.out A2.out
      have b3 := cell_mid28 HW5.out A3.out
      have b4 := cell_mid28 HW5.out A4.out
      rw [Nat.add_zero] at b0
      have HO5 := Lib.hid (own_ext HO.out HW5.out)
      clear a0
      have hsub : IntKind.i64.wrap ((j : Int) - 1) = (j : Int) - 1 := IntWalk.i64_in _ (by omega)
      generalize hW6 : w5.alloc (.cells #[.string v.n, .int .i64 v.t, .string v.s, .int .i64 v.d, .slice v.A v.ln v.c] 45) = w6 at HW5 HO5 b0 b1 b2 b3 b4
      have HSN := Lib.hid (slN_new w6 #[.string x.n, .int .i64 x.t, .string x.s, .int .i64 x.d, .slice x.A x.ln x.c] 45 1 5 rfl)
      have tok := True.intro
      cases d1
      all_goals cases is
      all_goals
        go_upto_block 1 with (first
          | (have _t := tok; at_builtin; refine wpList_appSl _ rfl _ _ 40 rfl w4.heap.size 45 i0 _ 5 72 Tryz.underlying40 hi hz0 hz1 hz2 rfl (by decide) _ (k - (j + 1)) _ rfl (HO5.out.alloc _) _ 1 1 (vlC x) rfl HSN.out (vlC_one [x]) (by unfold maxLen; omega) (by omega) (by have := Ext.size HWI.out; have := Ext.size HW5.out; simp; omega) ?_; intro v7 w7 hown hgr; have HO7 := Lib.hid hown; have HW7 := Lib.hid (ext_grown (a := w4) (B := w4.heap.size) ((HWI.out.trans HW5.out).alloc _) (HO5.out.alloc _) (Nat.le_refl _) hgr); clear hown hgr tok))
        exact ⟨⟨j, by omega, rfl, by rw [HDD.out, HDS.out]; rfl, by have h := HO7.out; rw [show k - (j + 1) + 1 = k - j from by omega] at h; rw [HTS.out, List.flatMap_append]; simpa using h, HW7.out⟩, by simp [intOf]; omega⟩
    | zero =>
      have hj0 : ¬ (0 : Int) ≤ ((0 : Nat) : Int) - 1 := by omega
      rw [List.drop_zero, Nat.sub_zero] at HO
      rw [List.drop_zero]
      obtain ⟨Ao, co, rfl, hso⟩ := own_slN HO.out
      have HV := Lib.hid (fun W (h : Ext wo W) => (show Vls W Ao k c.reverse from Vls.ext ⟨hso, fun y hy => (HC.out.ext HW.out).2 y (List.mem_reverse.1 hy)⟩ h))
      have K1 := Lib.hid (fun W (h : Ext w W) => tcheck_any a c A C n k na kc W (HMX.out.ext h) (HA.out.ext h) (HC.out.ext h) hnA hnC (fun x hx => (HZA.out x hx).1) HOK.out)
      have K2 := Lib.hid (fun W (h : Ext wo W) => tcheck_any a c.reverse A Ao n k na co W (HMX.out.ext (HW.out.trans h)) (HA.out.ext (HW.out.trans h)) (HV.out W h) hnA hnC (fun x hx => (HZA.out x hx).1) (fun x hx => HOK.out x (List.mem_reverse.1 hx)))
      have K3 := Lib.hid (fun W (h : Ext w W) => tcheck_any b c B C m k mb kc W (HMX.out.ext h) (HB.out.ext h) (HC.out.ext h) hnB hnC (fun x hx => (HZB.out x hx).1) HOK.out)
      have K4 := Lib.hid (fun W (h : Ext w W) => tcovers_any a b A B n m na mb W (HA.out.ext h) (HB.out.ext h) hnA hnB (fun x hx => (HZA.out x hx).1) (fun x hx => (HZB.out x hx).1))
      have HREV := Lib.hid (show difB c.reverse = true → checkP (a.map agOf) (c.reverse.map vlOf) = checkP (a.map agOf) (c.map vlOf) from fun h => by
        rw [List.map_reverse]
        refine check_rev ?_
        unfold difB at h
        rw [decide_eq_true_iff, List.map_reverse] at h
        have h2 := List.pairwise_reverse.1 h
        rw [List.map_map]
        exact h2.imp (fun h => Ne.symm h))
      have HCOV := Lib.hid (fun h1 h2 => check_covers (a := a.map agOf) (b := b.map agOf) (vs := c.map vlOf) h1 h2)
      generalize checkP (a.map agOf) (c.reverse.map vlOf) = R2 at K2 HREV
      generalize checkP (a.map agOf) (c.map vlOf) = R1 at K1 HREV HCOV
      generalize checkP (b.map agOf) (c.map vlOf) = R3 at K3 HCOV
      generalize coversA (a.map agOf) (b.map agOf) = cv at K4 HCOV
      generalize difB c.reverse = df at HREV ⊢
      obtain ⟨i1, e1⟩ := R1
      obtain ⟨i2, e2⟩ := R2
      obtain ⟨i3, e3⟩ := R3
      simp only at HCOV
      go_wp2_with fail
      refine (K1.out _ HW.out).mono ?_
      rintro e w5 ⟨rfl, hw5⟩
      have HW5 := Lib.hid hw5
      clear hw5
      simp only
      go_wp2_with fail
      refine (K2.out _ HW5.out).mono ?_
      rintro e w6 ⟨rfl, hw6⟩
      have HW6 := Lib.hid (HW.out.trans (HW5.out.trans hw6))
      clear hw6
      simp only
      have HD1 := Lib.hid (show df = true → (i1 != i2) = false ∧ (e1 != e2) = false from fun h => by
        have h := HREV.out h
        injection h with h1 h2
        subst h1 h2
        simp)
      cases df
      all_goals have D1 := Lib.hid (HD1.out)
      · go_wp2_with fail
        refine (K3.out _ HW6.out).mono ?_
        rintro e w7 ⟨rfl, hw7⟩
        have HW7 := Lib.hid (HW6.out.trans hw7)
        clear hw7
        simp only
        by_cases he1 : e1 = 0
        · subst he1
          cases cv
          · go_wp2_with fail
            refine (K4.out _ HW7.out).mono ?_
            rintro e w8 ⟨rfl, hw8⟩
            have HW8 := Lib.hid (HW7.out.trans hw8)
            clear hw8
            go_wp2
            go_ret
            exact ⟨rfl, HW8.out⟩
          · have h3 : e3 = 0 := HCOV.out rfl rfl
            subst h3
            go_wp2_with fail
            refine (K4.out _ HW7.out).mono ?_
            rintro e w8 ⟨rfl, hw8⟩
            have HW8 := Lib.hid (HW7.out.trans hw8)
            clear hw8
            go_wp2
            go_ret
            exact ⟨rfl, HW8.out⟩
        · have he2 : (e1 != 0) = true := by simpa using he1
          go_wp2
          go_ret
          exact ⟨rfl, HW7.out⟩
      · obtain ⟨d1, d2⟩ := HD1.out rfl
        go_wp2_with fail
        refine (K3.out _ HW6.out).mono ?_
        rintro e w7 ⟨rfl, hw7⟩
        have HW7 := Lib.hid (HW6.out.trans hw7)
        clear hw7
        simp only
        by_cases he1 : e1 = 0
        · subst he1
          cases cv
          · go_wp2_with fail
            refine (K4.out _ HW7.out).mono ?_
            rintro e w8 ⟨rfl, hw8⟩
            have HW8 := Lib.hid (HW7.out.trans hw8)
            clear hw8
            go_wp2
            go_ret
            exact ⟨rfl, HW8.out⟩
          · have h3 : e3 = 0 := HCOV.out rfl rfl
            subst h3
            go_wp2_with fail
            refine (K4.out _ HW7.out).mono ?_
            rintro e w8 ⟨rfl, hw8⟩
            have HW8 := Lib.hid (HW7.out.trans hw8)
            clear hw8
            go_wp2
            go_ret
            exact ⟨rfl, HW8.out⟩
        · have he2 : (e1 != 0) = true := by simpa using he1
          go_wp2
          go_ret
          exact ⟨rfl, HW7.out⟩
end Go.Proofs.YtblkpgglkhmggaaGreatDoor.lawSignatureChecks
namespace Go.Proofs.YtblkpgglkhmggaaGreatDoor.lawSignatureChecks
open Go.ChangeShapes Go.WideShapes Go.ChangeAt Go.RowKit
open Go.ChangeMaps (open_string shut_string)
set_option linter.unusedSimpArgs false
set_option linter.unusedVariables false

def laidL : List (String × DataW Unit) := Rows.signatureChecksRow.laid

set_option maxRecDepth 100000 in
theorem lifted (os : Os) (started : os.Started) (H : Type) (enc : TypeId × Value → H) :
    ReturnsInHanded {} Tryz.checked os 7 .any (fun w args => (Rows.signatureChecksSpec.pre enc Tryz.prog Tryz.f7 [] false w args ∧ laidMetH Tryz.prog laidL w) ∧ sizedMet enc Tryz.prog Tryz.f7 (OpenSpec.ofChange Rows.signatureChecksSpec) false w args)
      (Rows.signatureChecksSpec.post enc Tryz.prog Tryz.f7 false true false false) := by
  refine lifted_and_sized (C := Tryz.checked) (X := fun w _ => laidMetH Tryz.prog laidL w) (fun _ _ _ hh h => h.of_heap hh) own started (by kernel_rfl) Tryz.func7
    (ChangeSpec.witness_shaped (enc := enc) (C := Tryz.checked) (os := os) (X := fun w _ => laidMetH Tryz.prog laidL w) false (World.laidAll Tryz.prog os laidL) #[.slice none 0 0, .slice none 0 0, .slice none 0 0] 8 (World.laidAll_os _ _ _)
      (World.shaped_of_ZipB (by kernel_rfl) (by kernel_rfl)) (by kernel_rfl) (by kernel_rfl) (by kernel_rfl)
      (by rw [MakeChecks.laidMetH_plain _ _ _ (by kernel_rfl)]; exact laidMet_laidAll _ (by kernel_rfl) (by kernel_rfl))) ?_
  intro W base args ds gs before hval0 hW hL hshape hsz0
  have hval : ∀ (j : Nat) t v, Tryz.f7.params[j]? = some t → args[j]? = some v → Value.okWide Tryz.prog W .any base t v := hval0
  have hW' := hW
  obtain ⟨p, q, hA0, hV, rfl, hfz, hnd⟩ := hW
  have hA : DataW.TrodAll enc Tryz.prog W 0 (fun _ => true) true Tryz.f7.params.toList args.toList ds p := hA0
  obtain ⟨rfl, rfl⟩ := trodVars_none hV
  have hsz : ∀ m ∈ DataW.weightsEach Tryz.prog Tryz.f7.params.toList ds, m ≤ reachBytes := fun m hm => hsz0 m (by
    rw [List.append_nil, show Rows.signatureChecksSpec.plain.varTypes Tryz.checked.prog = [] from rfl, List.append_nil]
    exact hm)
  rw [Tryz.params7] at hA hval hsz
  obtain ⟨v0, v1, v2, d0, d1, d2, p0, p1, p2, rfl, rfl, rfl, h0, h1, h2⟩ := trodAll_three hA
  obtain ⟨A, n, na, a, rfl, hgA, hnA, hzA⟩ := open_ags (okWide_slice Tryz.underlying25 (hval 0 25 v0 rfl rfl)) h0 (fun m hm => hsz m (DataW.weights_mem_each (j := 0) rfl rfl m hm))
  have hzAm : ∀ x ∈ a, x.n.size ≤ maxLen ∧ (Lit.int .i64 x.t).wf = true := fun x hx => ⟨Nat.le_trans (hzA x hx).1 (by decide), (hzA x hx).2⟩
  obtain ⟨B, m, mb, b, rfl, hgB, hnB, hzB⟩ := open_ags (okWide_slice Tryz.underlying25 (hval 1 25 v1 rfl rfl)) h1 (fun m hm => hsz m (DataW.weights_mem_each (j := 1) rfl rfl m hm))
  have hzBm : ∀ x ∈ b, x.n.size ≤ maxLen ∧ (Lit.int .i64 x.t).wf = true := fun x hx => ⟨Nat.le_trans (hzB x hx).1 (by decide), (hzB x hx).2⟩
  obtain ⟨C, k, kc, c, rfl, hgC, hnC, hzC⟩ := open_vls (okWide_slice Tryz.underlying40 (hval 2 40 v2 rfl rfl)) h2 (fun m hm => hsz m (DataW.weights_mem_each (j := 2) rfl rfl m hm))
  refine (law a A n na b B m mb c C k kc W (mx_of hshape) hgA hnA hzAm hgB hnB hzBm hgC hnC hzC).mono fun e W' ⟨he, hw⟩ => ?_
  subst he
  exact ⟨_, rfl, law_post (t := 4) laidOut (by rw [Tryz.params7]; intro t ht; simp at ht; rcases ht with rfl | rfl | rfl <;> exact ⟨by kernel_rfl, of_decide_eq_true (by kernel_rfl)⟩) rfl Tryz.underlying4 rfl ⟨rfl, rfl, rfl⟩ hW' hw⟩


end Go.Proofs.YtblkpgglkhmggaaGreatDoor.lawSignatureChecks
