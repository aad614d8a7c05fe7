import Derived.Test.YtehcldnicefmeaaGreatDoorCf
import Derived.Test.YtehcldnicefmeaaGreatDoorNXL
import Derived.Test.YtehcldnicefmeaaGreatDoorAnc
namespace Go.Proofs.YtehcldnicefmeaaGreatDoor
open Go.RowKit
set_option linter.unusedSimpArgs false
set_option linter.unusedVariables false

/-! Texts of tags, and the nearest locale. -/
set_option maxRecDepth 100000 in
theorem ctext_any (s : ByteArray) (w : World) (hm : Mx w) (hs : s.size ≤ 60000) :
    Calls Tryz.prog 92 #[.string s] w fun e w' => e = .returned (.bool (isP s.data.toList)) ∧ Ext w w' := by
  have hc := tcan_any s w hm hs
  generalize hI : isP s.data.toList = I
  unfold isP at hI
  generalize canP s.data.toList = C at hc hI
  obtain ⟨x, code⟩ := C
  obtain ⟨xb, hx1, rfl⟩ := strv_b x
  simp only at hc hI
  rw [hx1] at hc
  have HI := Lib.hid hI
  have HC := Lib.hid hc
  clear hx1 hI hc
  by_cases h0 : code = 0
  · have hb : (code == 0) = true := by simpa using h0
    have HI2 := Lib.hid (show I = (xb.toList == s.toList) from by rw [← HI.out, hb, eq_b]; rfl)
    go_enter Tryz.func92, Tryz.ntmps92
    go_wp2_with (go_at_call 120; refine (HC.out).mono ?_; rintro e w1 ⟨rfl, hw1⟩; have HW1 := Lib.hid hw1; clear hw1)
    all_goals go_ret
    all_goals exact ⟨ret_bool (by rw [HI2.out]; try simp_all), HW1.out⟩
  · have hb : (code == 0) = false := by simpa using h0
    have HI2 := Lib.hid (show I = false from by rw [← HI.out, hb]; rfl)
    go_enter Tryz.func92, Tryz.ntmps92
    go_wp2_with (go_at_call 120; refine (HC.out).mono ?_; rintro e w1 ⟨rfl, hw1⟩; have HW1 := Lib.hid hw1; clear hw1)
    go_ret
    exact ⟨ret_bool HI2.out.symm, HW1.out⟩

theorem anc_len (s : BytesC) : (ancL s).1.length ≤ 7 := by
  unfold ancL
  by_cases h : (parseP EC s).2 = 0
  · rw [if_neg (by simpa using h)]
    rw [List.length_map, ancs_len _ _ (parse_ok h) rfl]
    exact rank_le (parse_ok h)
  · rw [if_pos h]; simp
def NoAnc (T : List LocP) (l : List BytesC) (k : Nat) : Prop := ∀ j x, j < k → l[j]? = some x → idxC T x = none
theorem noAnc_zero (T : List LocP) (l : List BytesC) : NoAnc T l 0 := fun j x h _ => absurd h (Nat.not_lt_zero j)
theorem noAnc_next {T : List LocP} {l : List BytesC} {k : Nat} {x : BytesC} (h : NoAnc T l k) (hx : l[k]? = some x) (hq : idxC T x = none) : NoAnc T l (k + 1) := fun j y hj hy => by
  by_cases e : j = k
  · subst e; rw [hx] at hy; injection hy with hy; subst hy; exact hq
  · exact h j y (by omega) hy
theorem noAnc_take {T : List LocP} {l : List BytesC} : ∀ {k : Nat}, NoAnc T l k → l.findSome? (idxC T) = (l.drop k).findSome? (idxC T) := by
  intro k
  induction k with
  | zero => intro _; rfl
  | succ k ih =>
    intro h
    rw [ih fun j x hj hx => h j x (by omega) hx]
    by_cases hk : k < l.length
    · rw [List.drop_eq_getElem_cons hk, List.findSome?_cons, h k _ (by omega) (List.getElem?_eq_getElem hk)]
    · rw [List.drop_eq_nil_of_le (by omega), List.drop_eq_nil_of_le (by omega)]
theorem near_none {T : List LocP} {s : BytesC} (h : idxC T s = none) (hn : NoAnc T (ancL s).1 (ancL s).1.length) : nearC T s = 0 := by
  unfold nearC
  rw [h]
  simp only
  rw [noAnc_take hn, List.drop_length]
  rfl
theorem near_found {T : List LocP} {s x : BytesC} {k i : Nat} (h : idxC T s = none) (hn : NoAnc T (ancL s).1 k) (hx : (ancL s).1[k]? = some x) (hi : idxC T x = some i) : nearC T s = i := by
  unfold nearC
  rw [h]
  simp only
  have hk := (List.getElem?_eq_some_iff.1 hx).1
  rw [noAnc_take hn, List.drop_eq_getElem_cons hk, (List.getElem?_eq_some_iff.1 hx).2, List.findSome?_cons, hi]
  rfl
def CNear (w : World) (T : List LocP) (s : BytesC) (n : Nat) (i : Value) (wr : World) : Prop := ∃ k : Nat, k ≤ n ∧ i = .int .i64 k ∧ NoAnc T (ancL s).1 k ∧ Ext w wr

set_option maxHeartbeats 1000000 in
set_option maxRecDepth 100000 in
theorem cnear_any (l : List Lc) (L A N : Option Addr) (ln lc n c m d : Nat) (s : ByteArray) (w : World) (hm : Mx w) (hL : Lcs w L ln l) (hln : ln ≤ maxLen) (hs : s.size ≤ 60000) :
    Calls Tryz.prog 108 #[.agg #[.slice L ln lc, .slice A n c, .slice N m d], .string s] w fun e w' => e = .returned (.int .i64 (nearC (l.map locOf) s.data.toList)) ∧ Ext w w' := by
  have KB := Lib.hid (AtC.new w #[.slice L ln lc, .slice A n c, .slice N m d] : AtC 26 _ _ _)
  have HW0 := Lib.hid ((Ext.refl w).alloc (.cells #[.slice L ln lc, .slice A n c, .slice N m d] 26))
  have h0 := KB.out.cell 0 _ rfl
  have h1 := KB.out.cell 1 _ rfl
  have h2 := KB.out.cell 2 _ rfl
  have KF := Lib.hid (fun (b : ByteArray) W (h : Ext w W) => cfind_any l L A N ln lc n c m d b W (hL.ext h) hln)
  have KA := Lib.hid (fun W (h : Ext w W) => tanc_any s W (hm.ext h) hs)
  have hal := anc_len s.data.toList
  clear hL hm
  cases hi : idxC (l.map locOf) s.data.toList with
  | some i =>
    have K1 := KF.out s _ HW0.out
    rw [idxI_some hi] at K1
    have HK := Lib.hid K1
    have HR := Lib.hid (near_idx hi)
    clear K1 hi
    go_enter Tryz.func108, Tryz.ntmps108
    go_wp2_with fail
    refine HK.out.mono ?_
    rintro e w2 ⟨rfl, hw2⟩
    have HW2 := Lib.hid (HW0.out.trans hw2)
    clear hw2
    go_wp2
    all_goals go_ret
    all_goals exact ⟨by rw [HR.out]; first | done | rfl, HW2.out⟩
  | none =>
    have K1 := KF.out s _ HW0.out
    rw [idxI_none hi] at K1
    have HK := Lib.hid K1
    have HI := Lib.hid hi
    clear K1 hi
    go_enter Tryz.func108, Tryz.ntmps108
    go_wp2_with fail
    refine HK.out.mono ?_
    rintro e w2 ⟨rfl, hw2⟩
    have HW2 := Lib.hid (HW0.out.trans hw2)
    have KB2 := Lib.hid (KB.out.ext hw2)
    clear hw2
    go_wp2_with fail
    refine (KA.out _ HW2.out).mono ?_
    rintro e w3 ⟨A2, n2, c2, rfl, hsl, hc2, hw3⟩
    have HW3 := Lib.hid (HW2.out.trans hw3)
    have KB3 := Lib.hid (KB2.out.ext hw3)
    have hn2 : n2 ≤ 7 := by have h := hsl.1; rw [List.length_map] at h; omega
    have HN2 := Lib.hid (show (ancL s.data.toList).1.length = n2 from by have h := hsl.1; rw [List.length_map] at h; exact h)
    have HSL := Lib.hid hsl
    clear hw3 hsl hal
    go_wp2_with fail
    go_loopw [24] (CNear w3 (l.map locOf) s.data.toList n2) (fun i _ => n2 - (intOf i).toNat)
    case atStart => exact ⟨0, Nat.zero_le _, rfl, noAnc_zero _ _, Ext.refl _⟩
    case round =>
      obtain ⟨k, hk, rfl, hpre, hw⟩ := hrel
      have HP := Lib.hid hpre
      have HW := Lib.hid hw
      clear hpre hw
      by_cases hkn : k < n2
      · obtain ⟨ad, x, rfl, hx, hcx⟩ := (HSL.out.ext HW.out).at_map hkn
        obtain ⟨xb, hx1, rfl⟩ := strv_b x
        rw [hx1] at hcx
        have g0 := (KB3.out.ext HW.out).cell 0 _ rfl
        have g1 := (KB3.out.ext HW.out).cell 1 _ rfl
        have g2 := (KB3.out.ext HW.out).cell 2 _ rfl
        have hkI : (k : Int) < (n2 : Int) := by omega
        have K1 := KF.out xb _ (HW3.out.trans HW.out)
        have HX := Lib.hid hx
        clear hx hx1
        cases hi : idxC (l.map locOf) xb.data.toList with
        | none =>
          rw [idxI_none hi] at K1
          have HK1 := Lib.hid K1
          have HQ := Lib.hid (noAnc_next HP.out HX.out hi)
          clear K1 hi
          go_wp2_with fail
          refine HK1.out.mono ?_
          rintro e w4 ⟨rfl, hw4⟩
          have HW4 := Lib.hid (HW.out.trans hw4)
          clear hw4
          go_wp2
          exact ⟨⟨k + 1, by omega, by go_num, HQ.out, HW4.out⟩, by simp [intOf]; omega⟩
        | some i =>
          rw [idxI_some hi] at K1
          have HK1 := Lib.hid K1
          have HQ := Lib.hid (near_found HI.out HP.out HX.out hi)
          clear K1 hi
          go_wp2_with fail
          refine HK1.out.mono ?_
          rintro e w4 ⟨rfl, hw4⟩
          have HW4 := Lib.hid (HW.out.trans hw4)
          clear hw4
          go_wp2
          all_goals go_ret
          all_goals exact ⟨by rw [HQ.out]; first | done | rfl, HW3.out.trans HW4.out⟩
      · have hkk : k = n2 := by omega
        subst hkk
        have HQ := Lib.hid (near_none HI.out (by rw [HN2.out]; exact HP.out))
        go_wp2
        go_ret
        exact ⟨by rw [HQ.out]; first | done | rfl, HW3.out.trans HW.out⟩
end Go.Proofs.YtehcldnicefmeaaGreatDoor
