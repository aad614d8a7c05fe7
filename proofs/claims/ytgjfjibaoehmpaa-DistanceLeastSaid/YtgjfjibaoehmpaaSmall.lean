import Derived.Test.YtgjfjibaoehmpaaProg
import Derived.Test.YtgjfjibaoehmpaaKind
import Derived.Test.YtgjfjibaoehmpaaDist
import Derived.Test.YtgjfjibaoehmpaaTabP
import Derived.Test.YtgjfjibaoehmpaaTabR
namespace Go.Proofs.Ytgjfjibaoehmpaa
open Go.RowKit

def isLong (n m : Nat) : Bool := decide (400 < n) || decide (400 < m)

theorem long_any (A B : Option Addr) (n m ca cb : Nat) (w : World) (hn : n ≤ maxLen) (hm : m ≤ maxLen) :
    Calls Try.prog 27 #[.slice A n ca, .slice B m cb] w fun e w' => e = .returned (.bool (isLong n m)) ∧ w = w' := by
  unfold maxLen at hn hm
  go_enter Try.func27, Try.ntmps27
  go_wp2
  all_goals (go_ret; exact ⟨ret_bool (by unfold isLong; rw [Bool.eq_iff_iff]; simp; omega), rfl⟩)

theorem refDist_long (A B : Option Addr) (n m ca cb : Nat) (w : World) (h : isLong n m = true) (hn : n ≤ maxLen) (hm : m ≤ maxLen) :
    Calls Try.prog 19 #[.slice A n ca, .slice B m cb] w fun e w' => e = .returned (.int .i64 (-1)) ∧ Ext w w' := by
  go_enter Try.func19, Try.ntmps19
  go_wp2_with (go_at_call 27; refine (long_any _ _ _ _ _ _ _ hn hm).mono ?_; rintro e w' ⟨rfl, rfl⟩)
  go_ret
  exact ⟨rfl, Ext.refl _⟩

theorem refDist_any (xs ys : List ByteArray) (A B : Option Addr) (n m ca cb : Nat) (w : World) (hA : Sl w A n (xs.map .string)) (hB : Sl w B m (ys.map .string)) (hn : n ≤ 400) (hm : m ≤ 400) :
    Calls Try.prog 19 #[.slice A n ca, .slice B m cb] w fun e w' => e = .returned (.int .i64 (dst xs ys n m)) ∧ Ext w w' := by
  have hl : isLong n m = false := by unfold isLong; simp; omega
  have H1 := Lib.hid hA
  have H2 := Lib.hid hB
  clear hA hB
  go_enter Try.func19, Try.ntmps19
  go_wp2_with (go_at_call 27; refine (long_any _ _ _ _ _ _ _ (by unfold maxLen; omega) (by unfold maxLen; omega)).mono ?_; rintro e w' ⟨rfl, rfl⟩)
  refine (tableRef_any xs ys A B n m ca cb w H1.out H2.out hn hm).mono ?_
  rintro e w' ⟨f, rfl, hrow, htab, hw⟩
  obtain ⟨b, hf, h2, h3, h4, h5⟩ := htab n (by omega)
  have hc0 := hrow.cell (i := n) (by omega)
  rw [hf] at hc0
  have hc1 := h5.cell (i := m) (by omega)
  have HW := Lib.hid hw
  clear htab hw hf hrow h5
  unfold slc at hc0 ⊢
  unfold cellI at hc1
  go_wp2
  go_ret
  exact ⟨rfl, HW.out⟩

def simOf (n m d : Nat) : Int := if max n m = 0 then 1000 else (((max n m : Nat) : Int) - d) * 1000 / (max n m : Nat)

theorem sim_zero (d : Nat) : simOf 0 0 d = 1000 := rfl
theorem sim_lt {n m d : Nat} (h : n < m) : ((m : Int) - d) * 1000 / m = simOf n m d := by
  unfold simOf
  rw [show max n m = m from by omega, if_neg (by omega)]
theorem sim_ge {n m d : Nat} (h : m ≤ n) (h0 : 0 < n) : ((n : Int) - d) * 1000 / n = simOf n m d := by
  unfold simOf
  rw [show max n m = n from by omega, if_neg (by omega)]

set_option maxHeartbeats 1000000 in
theorem refSim_long (A B : Option Addr) (n m ca cb : Nat) (w : World) (h : isLong n m = true) (hn : n ≤ maxLen) (hm : m ≤ maxLen) :
    Calls Try.prog 20 #[.slice A n ca, .slice B m cb] w fun e w' => e = .returned (.int .i64 (-1)) ∧ Ext w w' := by
  go_enter Try.func20, Try.ntmps20
  go_wp2_with (go_at_call 27; refine (long_any _ _ _ _ _ _ _ hn hm).mono ?_; rintro e w' ⟨rfl, rfl⟩)
  go_ret
  exact ⟨rfl, Ext.refl _⟩

set_option maxHeartbeats 1000000 in
theorem refSim_any (xs ys : List ByteArray) (A B : Option Addr) (n m ca cb : Nat) (w : World) (hA : Sl w A n (xs.map .string)) (hB : Sl w B m (ys.map .string)) (hn : n ≤ 400) (hm : m ≤ 400) :
    Calls Try.prog 20 #[.slice A n ca, .slice B m cb] w fun e w' => e = .returned (.int .i64 (simOf n m (dst xs ys n m))) ∧ Ext w w' := by
  have hl : isLong n m = false := by unfold isLong; simp; omega
  have H1 := Lib.hid hA
  have H2 := Lib.hid hB
  have hd := dst_max xs ys n m
  clear hA hB
  by_cases h0 : n = 0 ∧ m = 0
  · obtain ⟨rfl, rfl⟩ := h0
    clear hd
    go_enter Try.func20, Try.ntmps20
    go_wp2_with (first | (go_at_call 27; refine (long_any _ _ _ _ _ _ _ (by unfold maxLen; omega) (by unfold maxLen; omega)).mono ?_; rintro e w' ⟨rfl, rfl⟩) | (go_at_call 19; refine (refDist_any xs ys _ _ _ _ _ _ _ H1.out H2.out hn hm).mono ?_; rintro e w' ⟨rfl, hw⟩; have HW := Lib.hid hw; clear hw))
    go_ret
    exact ⟨rfl, by first | exact Ext.refl _ | exact HW.out⟩
  · by_cases hlt : n < m
    · have hd2 : dst xs ys n m ≤ m := by omega
      have hb : ((m : Int) == 0) = false := by simp; omega
      clear h0 hd
      go_enter Try.func20, Try.ntmps20
      go_wp2_with (first | (go_at_call 27; refine (long_any _ _ _ _ _ _ _ (by unfold maxLen; omega) (by unfold maxLen; omega)).mono ?_; rintro e w' ⟨rfl, rfl⟩) | (go_at_call 19; refine (refDist_any xs ys _ _ _ _ _ _ _ H1.out H2.out hn hm).mono ?_; rintro e w' ⟨rfl, hw⟩; have HW := Lib.hid hw; clear hw))
      go_ret
      exact ⟨ret_int (by rw [Int.mul_comm]; exact sim_lt hlt), HW.out⟩
    · have hge : m ≤ n := by omega
      have hpos : 0 < n := by omega
      have hd2 : dst xs ys n m ≤ n := by omega
      have hb : ((n : Int) == 0) = false := by simp; omega
      clear h0 hd
      go_enter Try.func20, Try.ntmps20
      go_wp2_with (first | (go_at_call 27; refine (long_any _ _ _ _ _ _ _ (by unfold maxLen; omega) (by unfold maxLen; omega)).mono ?_; rintro e w' ⟨rfl, rfl⟩) | (go_at_call 19; refine (refDist_any xs ys _ _ _ _ _ _ _ H1.out H2.out hn hm).mono ?_; rintro e w' ⟨rfl, hw⟩; have HW := Lib.hid hw; clear hw))
      go_ret
      exact ⟨ret_int (by rw [Int.mul_comm]; exact sim_ge hge hpos), HW.out⟩

set_option maxHeartbeats 1000000 in
theorem sim_any (xs ys : List ByteArray) (A B : Option Addr) (n m ca cb : Nat) (w : World) (hA : Sl w A n (xs.map .string)) (hB : Sl w B m (ys.map .string)) (hn : n ≤ 400) (hm : m ≤ 400) :
    Calls Try.prog 17 #[.slice A n ca, .slice B m cb] w fun e w' => e = .returned (.int .i64 (simOf n m (dst xs ys n m))) ∧ Ext w w' := by
  have hl : isLong n m = false := by unfold isLong; simp; omega
  have H1 := Lib.hid hA
  have H2 := Lib.hid hB
  have hd := dst_max xs ys n m
  clear hA hB
  by_cases h0 : n = 0 ∧ m = 0
  · obtain ⟨rfl, rfl⟩ := h0
    clear hd
    go_enter Try.func17, Try.ntmps17
    go_wp2_with (first | (go_at_call 16; refine (dist_any xs ys _ _ _ _ _ _ _ H1.out H2.out hn hm).mono ?_; rintro e w' ⟨rfl, hw⟩; have HW := Lib.hid hw; clear hw))
    go_ret
    exact ⟨rfl, by first | exact Ext.refl _ | exact HW.out⟩
  · by_cases hlt : n < m
    · have hd2 : dst xs ys n m ≤ m := by omega
      have hb : ((m : Int) == 0) = false := by simp; omega
      clear h0 hd
      go_enter Try.func17, Try.ntmps17
      go_wp2_with (first | (go_at_call 16; refine (dist_any xs ys _ _ _ _ _ _ _ H1.out H2.out hn hm).mono ?_; rintro e w' ⟨rfl, hw⟩; have HW := Lib.hid hw; clear hw))
      go_ret
      exact ⟨ret_int (by exact sim_lt hlt), HW.out⟩
    · have hge : m ≤ n := by omega
      have hpos : 0 < n := by omega
      have hd2 : dst xs ys n m ≤ n := by omega
      have hb : ((n : Int) == 0) = false := by simp; omega
      clear h0 hd
      go_enter Try.func17, Try.ntmps17
      go_wp2_with (first | (go_at_call 16; refine (dist_any xs ys _ _ _ _ _ _ _ H1.out H2.out hn hm).mono ?_; rintro e w' ⟨rfl, hw⟩; have HW := Lib.hid hw; clear hw))
      go_ret
      exact ⟨ret_int (by exact sim_ge hge hpos), HW.out⟩

set_option maxHeartbeats 1000000 in
theorem sim_long (A B : Option Addr) (n m ca cb : Nat) (w : World) (h : 400 < n ∨ 400 < m) (hn : n ≤ maxLen) (hm : m ≤ maxLen) :
    Calls Try.prog 17 #[.slice A n ca, .slice B m cb] w fun e w' => e = .returned (.int .i64 (-1)) ∧ Ext w w' := by
  have H := Lib.hid h
  clear h
  go_enter Try.func17, Try.ntmps17
  go_wp2_with (go_at_call 16; refine (dist_long _ _ _ _ _ _ _ H.out hn hm).mono ?_; rintro e w' ⟨rfl, hw⟩; have HW := Lib.hid hw; clear hw)
  all_goals (go_ret; exact ⟨rfl, HW.out⟩)

end Go.Proofs.Ytgjfjibaoehmpaa
