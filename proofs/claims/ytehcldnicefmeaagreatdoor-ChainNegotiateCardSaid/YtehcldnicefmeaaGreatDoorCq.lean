import Derived.Test.YtehcldnicefmeaaGreatDoorCo
import Derived.Test.YtehcldnicefmeaaGreatDoorNXH
import Derived.Test.YtehcldnicefmeaaGreatDoorNX3
namespace Go.Proofs.YtehcldnicefmeaaGreatDoor
open Go.RowKit
set_option linter.unusedSimpArgs false
set_option linter.unusedVariables false

/-! Whether a table is small. -/
def fewLc (x : Lc) : Bool := decide (x.t.size + x.p.size ≤ 120) && decide (x.n 0 + x.n 1 + x.n 2 + x.n 3 + x.n 4 + x.n 5 + x.n 6 ≤ 120)
def fewC (l : List Lc) (al : List Ali) (nl : List Nr) : Bool := l.all fewLc && (decide (l.length ≤ 12) && (fewL al && fewN nl))
def CFew (w : World) (l : List Lc) (n : Nat) (i : Value) (wr : World) : Prop := ∃ k : Nat, k ≤ n ∧ i = .int .i64 k ∧ (l.take k).all fewLc = true ∧ Ext w wr
set_option maxHeartbeats 4000000 in
set_option maxRecDepth 100000 in
theorem few22_any (l : List Lc) (al : List Ali) (nl : List Nr) (L A N : Option Addr) (ln lc n c m d : Nat) (w : World) (hL : Lcs w L ln l) (hln : ln ≤ maxLen) (hok : ∀ x ∈ l, lcOK x) (hA : Als w A n al) (hn : n ≤ maxLen) (hz : ∀ a ∈ al, a.1.size ≤ reachBytes ∧ a.2.size ≤ reachBytes)
    (hN : Nrs w N m nl) (hm : m ≤ maxLen) (hzn : ∀ a ∈ nl, a.f.size ≤ reachBytes ∧ a.o.size ≤ reachBytes) :
    Calls Tryz.prog 12 #[.agg #[.slice L ln lc, .slice A n c, .slice N m d]] w fun e w' => e = .returned (.bool (fewC l al nl)) ∧ Ext w w' := by
  have K1 := fun W (h : Ext w W) => few20_any al A n c W (hA.ext h) hn hz
  have K2 := fun W (h : Ext w W) => fewn_any nl N m d W (hN.ext h) hm hzn
  have KB := Lib.hid (AtC.new w #[.slice L ln lc, .slice A n c, .slice N m d] : AtC 26 _ _ _)
  have HW0 := Lib.hid ((Ext.refl w).alloc (.cells #[.slice L ln lc, .slice A n c, .slice N m d] 26))
  unfold maxLen at hln
  have HL := Lib.hid hL
  have HLN := Lib.hid hL.len
  have HOK := Lib.hid hok
  obtain ⟨R, hR⟩ : ∃ R, R = fewC l al nl := ⟨_, rfl⟩
  rw [← hR]
  unfold fewC at hR
  generalize fewL al = b1 at K1 hR
  generalize fewN nl = b2 at K2 hR
  have HR := Lib.hid hR
  have HK1 := Lib.hid K1
  have HK2 := Lib.hid K2
  clear hL hok hA hz hN hzn K1 K2 hR hn hm
  go_enter Tryz.func12, Tryz.ntmps12
  go_wp2_with fail
  go_loopw [3] (CFew (w.alloc (.cells #[.slice L ln lc, .slice A n c, .slice N m d] 26)) l ln) (fun i _ => ln - (intOf i).toNat)
  case atStart => exact ⟨0, Nat.zero_le _, rfl, by simp, Ext.refl _⟩
  case round =>
    obtain ⟨k, hk, rfl, hall, hw⟩ := hrel
    have HALL := Lib.hid hall
    have HW := Lib.hid (HW0.out.trans hw)
    have HX0 := Lib.hid hw
    have KBR := Lib.hid (KB.out.ext hw)
    have g0 := KBR.out.cell 0 _ rfl
    clear hall hw
    by_cases hkn : k < ln
    · obtain ⟨x, hx⟩ : ∃ x, l[k]? = some x := ⟨_, List.getElem?_eq_getElem (by have := HLN.out; omega)⟩
      obtain ⟨b, o, rfl, hb, hc⟩ := (HL.out.ext HW.out).at_ hx
      have a0 := hc 0 _ rfl
      have a1 := hc 1 _ rfl
      have a2 := hc 2 _ rfl
      have a3 := hc 3 _ rfl
      have a4 := hc 4 _ rfl
      have a5 := hc 5 _ rfl
      have a6 := hc 6 _ rfl
      have a7 := hc 7 _ rfl
      have a8 := hc 8 _ rfl
      have a9 := hc 9 _ rfl
      have a10 := hc 10 _ rfl
      have a11 := hc 11 _ rfl
      have a12 := hc 12 _ rfl
      have a13 := hc 13 _ rfl
      have a14 := hc 14 _ rfl
      have a15 := hc 15 _ rfl
      rw [Nat.add_zero] at a0
      have hkI : (k : Int) < (ln : Int) := by omega
      obtain ⟨z1, z2, z3⟩ := HOK.out x (List.mem_of_getElem? hx)
      unfold reachBytes at z1 z2
      have y0 : x.n 0 ≤ 140737488351232 := z3 0 (by omega)
      have y1 : x.n 1 ≤ 140737488351232 := z3 1 (by omega)
      have y2 : x.n 2 ≤ 140737488351232 := z3 2 (by omega)
      have y3 : x.n 3 ≤ 140737488351232 := z3 3 (by omega)
      have y4 : x.n 4 ≤ 140737488351232 := z3 4 (by omega)
      have y5 : x.n 5 ≤ 140737488351232 := z3 5 (by omega)
      have y6 : x.n 6 ≤ 140737488351232 := z3 6 (by omega)
      have hat := (AtC.new wr #[.string x.t, .string x.p, .string x.d, .slice (x.A 0) (x.n 0) (x.c 0), .slice (x.A 1) (x.n 1) (x.c 1), .string (x.s 0), .string (x.s 1), .string (x.s 2), .string (x.s 3), .int .i64 (x.i 0), .int .i64 (x.i 1), .slice (x.A 2) (x.n 2) (x.c 2), .slice (x.A 3) (x.n 3) (x.c 3), .slice (x.A 4) (x.n 4) (x.c 4), .slice (x.A 5) (x.n 5) (x.c 5), .slice (x.A 6) (x.n 6) (x.c 6)] : AtC 56 _ _ _)
      have q0 := hat.cell 0 _ rfl
      have q1 := hat.cell 1 _ rfl
      have q3 := hat.cell 3 _ rfl
      have q4 := hat.cell 4 _ rfl
      have q11 := hat.cell 11 _ rfl
      have q12 := hat.cell 12 _ rfl
      have q13 := hat.cell 13 _ rfl
      have q14 := hat.cell 14 _ rfl
      have q15 := hat.cell 15 _ rfl
      have HX := Lib.hid hx
      clear hx hc hat z3
      have hbad : fewLc x = false → R = false := fun h => by
        rw [HR.out]
        have : l.all fewLc = false := by rw [List.all_eq_false]; exact ⟨x, List.mem_of_getElem? HX.out, by rw [h]; decide⟩
        rw [this]; rfl
      by_cases t1 : x.t.size + x.p.size ≤ 120
      · have u1 : decide ((120 : Int) < (x.t.size : Int) + (x.p.size : Int)) = false := by simp; omega
        by_cases t2 : x.n 0 + x.n 1 + x.n 2 + x.n 3 + x.n 4 + x.n 5 + x.n 6 ≤ 120
        · have u2 : decide ((120 : Int) < (x.n 0 : Int) + (x.n 1 : Int) + (x.n 2 : Int) + (x.n 3 : Int) + (x.n 4 : Int) + (x.n 5 : Int) + (x.n 6 : Int)) = false := by simp; omega
          have HQ := Lib.hid (show (l.take (k + 1)).all fewLc = true from by
            rw [take_next HX.out, List.all_append, HALL.out]
            simp only [List.all_cons, List.all_nil, Bool.and_true, Bool.true_and]
            unfold fewLc
            rw [decide_eq_true t1, decide_eq_true t2]; rfl)
          clear hbad
          go_wp2
          exact ⟨⟨k + 1, by omega, by go_num, HQ.out, HX0.out.alloc _⟩, by simp [intOf]; omega⟩
        · have u2 : decide ((120 : Int) < (x.n 0 : Int) + (x.n 1 : Int) + (x.n 2 : Int) + (x.n 3 : Int) + (x.n 4 : Int) + (x.n 5 : Int) + (x.n 6 : Int)) = true := by simp; omega
          have HF := Lib.hid (hbad (by unfold fewLc; rw [decide_eq_false t2]; simp))
          clear hbad
          go_wp2
          all_goals go_ret
          all_goals exact ⟨by rw [HF.out]; first | done | rfl, HW.out.alloc _⟩
      · have u1 : decide ((120 : Int) < (x.t.size : Int) + (x.p.size : Int)) = true := by simp; omega
        have HF := Lib.hid (hbad (by unfold fewLc; rw [decide_eq_false t1]; simp))
        clear hbad
        go_wp2
        all_goals go_ret
        all_goals exact ⟨by rw [HF.out]; first | done | rfl, HW.out.alloc _⟩
    · have hkk : k = ln := by omega
      subst hkk
      have hall : l.all fewLc = true := by
        have h := HALL.out
        rwa [List.take_of_length_le (by rw [HLN.out]; exact Nat.le_refl _)] at h
      have g1 := KBR.out.cell 1 _ rfl
      by_cases t1 : k ≤ 12
      · have u1 : decide ((k : Int) ≤ 12) = true := by simp; omega
        have HF := Lib.hid (show R = (b1 && b2) from by rw [HR.out, hall, HLN.out, decide_eq_true t1]; rfl)
        clear hall
        cases b1
        · go_wp2_with fail
          refine (HK1.out _ HW.out).mono ?_
          rintro e w3 ⟨rfl, hw3⟩
          have HW3 := Lib.hid (HW.out.trans hw3)
          clear hw3
          go_wp2
          go_ret
          exact ⟨by rw [HF.out]; first | done | rfl, HW3.out⟩
        · go_wp2_with fail
          refine (HK1.out _ HW.out).mono ?_
          rintro e w3 ⟨rfl, hw3⟩
          have HW3 := Lib.hid (HW.out.trans hw3)
          have g2 := (KBR.out.ext hw3).cell 2 _ rfl
          clear hw3
          go_wp2_with fail
          refine (HK2.out _ HW3.out).mono ?_
          rintro e w4 ⟨rfl, hw4⟩
          have HW4 := Lib.hid (HW3.out.trans hw4)
          clear hw4
          go_wp2
          all_goals go_ret
          all_goals exact ⟨by rw [HF.out]; first | done | rfl | simp, HW4.out⟩
      · have u1 : decide ((k : Int) ≤ 12) = false := by simp; omega
        have HF := Lib.hid (show R = false from by rw [HR.out, hall, HLN.out, decide_eq_false t1]; rfl)
        clear hall
        go_wp2
        all_goals go_ret
        all_goals exact ⟨by rw [HF.out]; first | done | rfl, HW.out⟩
theorem fewC_len {l : List Lc} {al : List Ali} {nl : List Nr} (h : fewC l al nl = true) :
    l.length ≤ 12 ∧ (∀ x ∈ l, x.t.size + x.p.size ≤ 120 ∧ x.n 0 + x.n 1 + x.n 2 + x.n 3 + x.n 4 + x.n 5 + x.n 6 ≤ 120) ∧ (al.length ≤ 12 ∧ nl.length ≤ 30) ∧ (∀ a ∈ al, a.1.size ≤ 60000 ∧ a.2.size ≤ 60000) ∧ (∀ a ∈ nl, a.f.size ≤ 60 ∧ a.o.size ≤ 60) := by
  unfold fewC at h
  simp only [Bool.and_eq_true, decide_eq_true_eq] at h
  obtain ⟨h1, h2, h3, h4⟩ := h
  obtain ⟨a1, a2⟩ := fewL_len h3
  obtain ⟨b1, b2⟩ := fewN_len h4
  refine ⟨h2, fun x hx => ?_, ⟨a1, b1⟩, a2, b2⟩
  have := List.all_eq_true.1 h1 x hx
  unfold fewLc at this
  simpa only [Bool.and_eq_true, decide_eq_true_eq] using this
end Go.Proofs.YtehcldnicefmeaaGreatDoor
