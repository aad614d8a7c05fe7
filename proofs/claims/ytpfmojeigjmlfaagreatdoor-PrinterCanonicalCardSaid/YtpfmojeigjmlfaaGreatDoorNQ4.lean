import Derived.Test.YtpfmojeigjmlfaaGreatDoorNQ3
import Derived.Test.YtpfmojeigjmlfaaGreatDoorNPA
import Derived.BigQuiet
import Derived.Test.YtpfmojeigjmlfaaGreatDoorNPJ
import Derived.Test.YtpfmojeigjmlfaaGreatDoorNQ1
import Derived.Test.YtpfmojeigjmlfaaGreatDoorJh
set_option maxRecDepth 100000
set_option linter.unusedSimpArgs false
set_option linter.unusedVariables false
open Go.Lib (hid)
namespace Go.Proofs.YtpfmojeigjmlfaaGreatDoor
open Go.RowKit
def oneL (n : Nat) : By := if n < 128 then [UInt8.ofNat n] else if n < 2048 then [UInt8.ofNat (192 + n / 64), UInt8.ofNat (128 + n % 64)]
 else if n < 65536 then [UInt8.ofNat (224 + n / 4096), UInt8.ofNat (128 + n / 64 % 64), UInt8.ofNat (128 + n % 64)]
 else [UInt8.ofNat (240 + n / 262144), UInt8.ofNat (128 + n / 4096 % 64), UInt8.ofNat (128 + n / 64 % 64), UInt8.ofNat (128 + n % 64)]
set_option maxHeartbeats 2000000 in
theorem u8i (m : Nat) (z : Int) (h : m < 256) (hz : z = m) : Value.int .u8 ((UInt8.ofNat m).toNat : Int) = Value.int .u8 z := by
 rw [hz, UInt8.toNat_ofNat', Nat.mod_eq_of_lt (by omega)]
theorem conv_new (w : World) (l : By) (n : Nat) (cs : Array Value) (hn : l.length = n) (hcs : cs.toList = Lib.byteCells l) :
 (convert 23 9 (.slice (some ⟨w.heap.size, 0, none⟩) n n)).run Tryz.prog (w.alloc (.cells cs 5)) = .ok (.string ⟨l.toArray⟩) (w.alloc (.cells cs 5)) := by
 subst hn
 refine run_convert_bytes_back (P := Tryz.prog) _ 23 9 5 ⟨w.heap.size, 0, none⟩ l.length l Tryz.underlying23 Tryz.underlying5 Tryz.underlying9 (fun j hj => ?_)
 refine new_cells w cs 5 j _ ?_
 rw [hcs]
 unfold Lib.byteCells
 rw [List.getElem?_map, List.getElem?_eq_getElem hj]
 rfl
set_option maxHeartbeats 2000000 in
theorem rone_any (n : Nat) (w : World) (hn : n ≤ 4000000) : Calls Tryz.prog 146 #[.int .i64 n] w fun e w' => e = .returned (.string ⟨(oneL n).toArray⟩) ∧ Ext w w' := by
 by_cases h1 : n < 128
 ·have a1 : (n : Int) < 128 := by omega
  have ho : oneL n = [UInt8.ofNat (n)] := by unfold oneL; rw [if_pos h1]
  have hcv := conv_new w (oneL n) 1 #[.int .u8 ((n : Int))] (by rw [ho]; rfl) (by rw [ho]; show [Value.int .u8 ((n : Int))] = [Value.int .u8 ((UInt8.ofNat (n)).toNat : Int)]; rw [u8i (n) ((n : Int)) (by omega) (by omega)])
  generalize oneL n = ol at hcv ⊢
  clear ho
  clear h1
  go_enter Tryz.func146, Tryz.ntmps146
  go_wp2
  go_ret
  exact ⟨rfl, (Ext.refl w).alloc _⟩
 by_cases h2 : n < 2048
 ·have a1 : ¬ (n : Int) < 128 := by omega
  have a2 : (n : Int) < 2048 := by omega
  have ho : oneL n = [UInt8.ofNat (192 + n / 64), UInt8.ofNat (128 + n % 64)] := by unfold oneL; rw [if_neg h1, if_pos h2]
  have hcv := conv_new w (oneL n) 2 #[.int .u8 (192 + (n : Int) / 64), .int .u8 (128 + (n : Int) % 64)] (by rw [ho]; rfl) (by rw [ho]; show [Value.int .u8 (192 + (n : Int) / 64), Value.int .u8 (128 + (n : Int) % 64)] = [Value.int .u8 ((UInt8.ofNat (192 + n / 64)).toNat : Int), Value.int .u8 ((UInt8.ofNat (128 + n % 64)).toNat : Int)]; rw [u8i (192 + n / 64) (192 + (n : Int) / 64) (by omega) (by omega), u8i (128 + n % 64) (128 + (n : Int) % 64) (by omega) (by omega)])
  generalize oneL n = ol at hcv ⊢
  clear ho
  clear h1 h2
  go_enter Tryz.func146, Tryz.ntmps146
  go_wp2
  go_ret
  exact ⟨rfl, (Ext.refl w).alloc _⟩
 by_cases h3 : n < 65536
 ·have a1 : ¬ (n : Int) < 128 := by omega
  have a2 : ¬ (n : Int) < 2048 := by omega
  have a3 : (n : Int) < 65536 := by omega
  have ho : oneL n = [UInt8.ofNat (224 + n / 4096), UInt8.ofNat (128 + n / 64 % 64), UInt8.ofNat (128 + n % 64)] := by unfold oneL; rw [if_neg h1, if_neg h2, if_pos h3]
  have hcv := conv_new w (oneL n) 3 #[.int .u8 (224 + (n : Int) / 4096), .int .u8 (128 + (n : Int) / 64 % 64), .int .u8 (128 + (n : Int) % 64)] (by rw [ho]; rfl) (by rw [ho]; show [Value.int .u8 (224 + (n : Int) / 4096), Value.int .u8 (128 + (n : Int) / 64 % 64), Value.int .u8 (128 + (n : Int) % 64)] = [Value.int .u8 ((UInt8.ofNat (224 + n / 4096)).toNat : Int), Value.int .u8 ((UInt8.ofNat (128 + n / 64 % 64)).toNat : Int), Value.int .u8 ((UInt8.ofNat (128 + n % 64)).toNat : Int)]; rw [u8i (224 + n / 4096) (224 + (n : Int) / 4096) (by omega) (by omega), u8i (128 + n / 64 % 64) (128 + (n : Int) / 64 % 64) (by omega) (by omega), u8i (128 + n % 64) (128 + (n : Int) % 64) (by omega) (by omega)])
  generalize oneL n = ol at hcv ⊢
  clear ho
  clear h1 h2 h3
  go_enter Tryz.func146, Tryz.ntmps146
  go_wp2
  go_ret
  exact ⟨rfl, (Ext.refl w).alloc _⟩
 have a1 : ¬ (n : Int) < 128 := by omega
 have a2 : ¬ (n : Int) < 2048 := by omega
 have a3 : ¬ (n : Int) < 65536 := by omega
 have ho : oneL n = [UInt8.ofNat (240 + n / 262144), UInt8.ofNat (128 + n / 4096 % 64), UInt8.ofNat (128 + n / 64 % 64), UInt8.ofNat (128 + n % 64)] := by unfold oneL; rw [if_neg h1, if_neg h2, if_neg h3]
 have hcv := conv_new w (oneL n) 4 #[.int .u8 (240 + (n : Int) / 262144), .int .u8 (128 + (n : Int) / 4096 % 64), .int .u8 (128 + (n : Int) / 64 % 64), .int .u8 (128 + (n : Int) % 64)] (by rw [ho]; rfl) (by rw [ho]; show [Value.int .u8 (240 + (n : Int) / 262144), Value.int .u8 (128 + (n : Int) / 4096 % 64), Value.int .u8 (128 + (n : Int) / 64 % 64), Value.int .u8 (128 + (n : Int) % 64)] = [Value.int .u8 ((UInt8.ofNat (240 + n / 262144)).toNat : Int), Value.int .u8 ((UInt8.ofNat (128 + n / 4096 % 64)).toNat : Int), Value.int .u8 ((UInt8.ofNat (128 + n / 64 % 64)).toNat : Int), Value.int .u8 ((UInt8.ofNat (128 + n % 64)).toNat : Int)]; rw [u8i (240 + n / 262144) (240 + (n : Int) / 262144) (by omega) (by omega), u8i (128 + n / 4096 % 64) (128 + (n : Int) / 4096 % 64) (by omega) (by omega), u8i (128 + n / 64 % 64) (128 + (n : Int) / 64 % 64) (by omega) (by omega), u8i (128 + n % 64) (128 + (n : Int) % 64) (by omega) (by omega)])
 generalize oneL n = ol at hcv ⊢
 clear ho
 clear h1 h2 h3
 go_enter Tryz.func146, Tryz.ntmps146
 go_wp2
 go_ret
 exact ⟨rfl, (Ext.refl w).alloc _⟩
theorem rpoint_any (n : Nat) (w : World) : Calls Tryz.prog 145 #[.int .i64 n] w fun e w' => e = .returned (.bool (decide (n ≤ 1114111) && (decide (n < 55296) || decide (57343 < n)))) ∧ w = w' := by
 have a0 : (0 : Int) ≤ (n : Int) := by omega
 by_cases h1 : n ≤ 1114111
 ·have a1 : (n : Int) ≤ 1114111 := by omega
  by_cases h2 : n < 55296
  ·have a2 : (n : Int) < 55296 := by omega
   have HR := hid (show (decide (n ≤ 1114111) && (decide (n < 55296) || decide (57343 < n))) = true from by rw [decide_eq_true h1, decide_eq_true h2]; rfl)
   clear h1 h2
   go_enter Tryz.func145, Tryz.ntmps145
   go_wp2
   go_ret
   exact ⟨ret_bool HR.out.symm, rfl⟩
  ·have a2 : ¬ (n : Int) < 55296 := by omega
   by_cases h3 : 57343 < n
   ·have a3 : (57343 : Int) < (n : Int) := by omega
    have HR := hid (show (decide (n ≤ 1114111) && (decide (n < 55296) || decide (57343 < n))) = true from by rw [decide_eq_true h1, decide_eq_false h2, decide_eq_true h3]; rfl)
    clear h1 h2 h3
    go_enter Tryz.func145, Tryz.ntmps145
    go_wp2
    go_ret
    exact ⟨ret_bool HR.out.symm, rfl⟩
   ·have a3 : ¬ (57343 : Int) < (n : Int) := by omega
    have HR := hid (show (decide (n ≤ 1114111) && (decide (n < 55296) || decide (57343 < n))) = false from by rw [decide_eq_true h1, decide_eq_false h2, decide_eq_false h3]; rfl)
    clear h1 h2 h3
    go_enter Tryz.func145, Tryz.ntmps145
    go_wp2
    go_ret
    exact ⟨ret_bool HR.out.symm, rfl⟩
 ·have a1 : ¬ (n : Int) ≤ 1114111 := by omega
  have HR := hid (show (decide (n ≤ 1114111) && (decide (n < 55296) || decide (57343 < n))) = false from by rw [decide_eq_false h1]; rfl)
  clear h1
  go_enter Tryz.func145, Tryz.ntmps145
  go_wp2
  go_ret
  exact ⟨ret_bool HR.out.symm, rfl⟩
end Go.Proofs.YtpfmojeigjmlfaaGreatDoor
namespace Go.Proofs.YtpfmojeigjmlfaaGreatDoor
open Go.RowKit
def pvN (L : By) (a0 : Nat) : Nat → Nat
 | 0 => a0
 | k + 1 => 64 * pvN L a0 k + ((L.getD (k + 1) 0).toNat - 128)
def bxN (L : By) (j : Nat) : Nat := (L.getD j 0).toNat
def inN (x : Nat) : Prop := 128 ≤ x ∧ x ≤ 191
theorem nx_low {L : By} (h : bxN L 0 < 128) : decP L = (bxN L 0, 1) := by
 unfold decP Go.Lib.decodeN
 unfold bxN at h ⊢
 rw [if_pos h]
theorem nx_none {L : By} (h : 128 ≤ bxN L 0) (h2 : bxN L 0 < 192 ∨ 248 ≤ bxN L 0) : decP L = (65533, 1) := by
 unfold decP Go.Lib.decodeN
 unfold bxN at h h2
 have := (L.getD 0 0).toNat_lt
 rw [if_neg (by omega), if_neg (by omega), if_neg (by omega), if_neg (by omega)]
def szN (x : Nat) : Nat := if x < 224 then 2 else if x < 240 then 3 else 4
theorem nx_short {L : By} (h : 192 ≤ bxN L 0) (h2 : bxN L 0 < 248) (h3 : L.length < szN (bxN L 0) ∨ ∃ j, 1 ≤ j ∧ j < szN (bxN L 0) ∧ ¬ inN (bxN L j)) : decP L = (65533, 1) := by
 unfold decP Go.Lib.decodeN
 unfold szN bxN inN at *
 have q1 := (L.getD 1 0).toNat_lt
 have q2 := (L.getD 2 0).toNat_lt
 have q3 := (L.getD 3 0).toNat_lt
 generalize (L.getD 0 0).toNat = x0 at *
 rw [if_neg (by omega)]
 rcases h3 with h3 | ⟨j, j1, j2, h3⟩
 ·split at h3
  ·rw [if_neg (by omega), if_neg (by omega), if_neg (by omega)]
  split at h3
  ·rw [if_neg (by omega), if_neg (by omega), if_neg (by omega)]
  ·rw [if_neg (by omega), if_neg (by omega), if_neg (by omega)]
 ·split at j2
  ·obtain rfl : j = 1 := by omega
   rw [if_neg (by omega), if_neg (by omega), if_neg (by omega)]
  split at j2
  ·rcases (show j = 1 ∨ j = 2 from by omega) with rfl | rfl
   ·rw [if_neg (by omega), if_neg (by omega), if_neg (by omega)]
   ·rw [if_neg (by omega), if_neg (by omega), if_neg (by omega)]
  ·rcases (show j = 1 ∨ j = 2 ∨ j = 3 from by omega) with rfl | rfl | rfl
   ·rw [if_neg (by omega), if_neg (by omega), if_neg (by omega)]
   ·rw [if_neg (by omega), if_neg (by omega), if_neg (by omega)]
   ·rw [if_neg (by omega), if_neg (by omega), if_neg (by omega)]
def ptN (n : Nat) : Bool := decide (n ≤ 1114111) && (decide (n < 55296) || decide (57343 < n))
theorem ofB (b : UInt8) (n : Nat) (h : n = b.toNat) : UInt8.ofNat n = b := by rw [h]; exact UInt8.ofNat_toNat
theorem nx_two {L : By} (hl : 2 ≤ L.length) (h : 192 ≤ bxN L 0) (h2 : bxN L 0 < 224) (h3 : inN (bxN L 1)) :
 (ptN (pvN L (bxN L 0 - 192) 1) = true ∧ oneL (pvN L (bxN L 0 - 192) 1) = L.take 2 → decP L = (pvN L (bxN L 0 - 192) 1, 2)) ∧ (¬ (ptN (pvN L (bxN L 0 - 192) 1) = true ∧ oneL (pvN L (bxN L 0 - 192) 1) = L.take 2) → decP L = (65533, 1)) := by
 obtain ⟨b0, b1, r, rfl⟩ : ∃ b0 b1 r, L = b0 :: b1 :: r := by
  match L, hl with
  | a :: b :: r, _ => exact ⟨a, b, r, rfl⟩
 have e0 : bxN (b0 :: b1 :: r) 0 = b0.toNat := rfl
 have e1 : bxN (b0 :: b1 :: r) 1 = b1.toNat := rfl
 rw [e0] at h h2 ⊢
 rw [e1] at h3
 unfold inN at h3
 have ev : pvN (b0 :: b1 :: r) (b0.toNat - 192) 1 = 64 * (b0.toNat - 192) + (b1.toNat - 128) := rfl
 rw [ev]
 have et : (b0 :: b1 :: r).take 2 = [b0, b1] := rfl
 rw [et]
 have ed : decP (b0 :: b1 :: r) = if 64 * (b0.toNat - 192) + (b1.toNat - 128) ≥ 128 then (64 * (b0.toNat - 192) + (b1.toNat - 128), 2) else (65533, 1) := by
  unfold decP Go.Lib.decodeN
  show (if b0.toNat < 128 then _ else if b0.toNat / 32 = 6 ∧ (1 < r.length + 1 + 1 ∧ b1.toNat / 64 = 2) then (if b0.toNat % 32 * 64 + b1.toNat % 64 ≥ 128 then (b0.toNat % 32 * 64 + b1.toNat % 64, 2) else (65533, 1)) else _) = _
  rw [if_neg (by omega), if_pos (by omega), show b0.toNat % 32 * 64 + b1.toNat % 64 = 64 * (b0.toNat - 192) + (b1.toNat - 128) from by omega]
 rw [ed]
 generalize hv : 64 * (b0.toNat - 192) + (b1.toNat - 128) = v
 have hpt : ptN v = true := by unfold ptN; simp; omega
 by_cases h128 : v ≥ 128
 ·have ho : oneL v = [b0, b1] := by
   unfold oneL
   rw [if_neg (by omega), if_pos (by omega), ofB b0 (192 + v / 64) (by omega), ofB b1 (128 + v % 64) (by omega)]
  rw [if_pos h128]
  exact ⟨fun _ => rfl, fun hn => absurd ⟨hpt, ho⟩ hn⟩
 ·have ho : oneL v ≠ [b0, b1] := by
   unfold oneL
   rw [if_pos (by omega)]
   simp
  rw [if_neg h128]
  exact ⟨fun hn => absurd hn.2 ho, fun _ => rfl⟩
theorem nx_three {L : By} (hl : 3 ≤ L.length) (h : 224 ≤ bxN L 0) (h2 : bxN L 0 < 240) (h3 : inN (bxN L 1)) (h4 : inN (bxN L 2)) :
 (ptN (pvN L (bxN L 0 - 224) 2) = true ∧ oneL (pvN L (bxN L 0 - 224) 2) = L.take 3 → decP L = (pvN L (bxN L 0 - 224) 2, 3)) ∧ (¬ (ptN (pvN L (bxN L 0 - 224) 2) = true ∧ oneL (pvN L (bxN L 0 - 224) 2) = L.take 3) → decP L = (65533, 1)) := by
 obtain ⟨b0, b1, b2, r, rfl⟩ : ∃ b0 b1 b2 r, L = b0 :: b1 :: b2 :: r := by
  match L, hl with
  | a :: b :: c :: r, _ => exact ⟨a, b, c, r, rfl⟩
 have e0 : bxN (b0 :: b1 :: b2 :: r) 0 = b0.toNat := rfl
 have e1 : bxN (b0 :: b1 :: b2 :: r) 1 = b1.toNat := rfl
 have e2 : bxN (b0 :: b1 :: b2 :: r) 2 = b2.toNat := rfl
 rw [e0] at h h2 ⊢
 rw [e1] at h3
 rw [e2] at h4
 unfold inN at h3 h4
 have ev : pvN (b0 :: b1 :: b2 :: r) (b0.toNat - 224) 2 = 64 * (64 * (b0.toNat - 224) + (b1.toNat - 128)) + (b2.toNat - 128) := rfl
 rw [ev]
 have et : (b0 :: b1 :: b2 :: r).take 3 = [b0, b1, b2] := rfl
 rw [et]
 generalize hv : 64 * (64 * (b0.toNat - 224) + (b1.toNat - 128)) + (b2.toNat - 128) = v
 have ed : decP (b0 :: b1 :: b2 :: r) = if v ≥ 2048 ∧ (v < 55296 ∨ (57344 ≤ v ∧ v ≤ 1114111)) then (v, 3) else (65533, 1) := by
  unfold decP Go.Lib.decodeN
  show (if b0.toNat < 128 then _ else if b0.toNat / 32 = 6 ∧ (1 < r.length + 1 + 1 + 1 ∧ b1.toNat / 64 = 2) then _ else if b0.toNat / 16 = 14 ∧ (1 < r.length + 1 + 1 + 1 ∧ b1.toNat / 64 = 2) ∧ (2 < r.length + 1 + 1 + 1 ∧ b2.toNat / 64 = 2) then
   (if b0.toNat % 16 * 4096 + b1.toNat % 64 * 64 + b2.toNat % 64 ≥ 2048 ∧ (b0.toNat % 16 * 4096 + b1.toNat % 64 * 64 + b2.toNat % 64 < 55296 ∨ (57344 ≤ b0.toNat % 16 * 4096 + b1.toNat % 64 * 64 + b2.toNat % 64 ∧ b0.toNat % 16 * 4096 + b1.toNat % 64 * 64 + b2.toNat % 64 ≤ 1114111)) then (b0.toNat % 16 * 4096 + b1.toNat % 64 * 64 + b2.toNat % 64, 3) else (65533, 1)) else _) = _
  rw [if_neg (by omega), if_neg (by omega), if_pos (by omega), show b0.toNat % 16 * 4096 + b1.toNat % 64 * 64 + b2.toNat % 64 = v from by omega]
 rw [ed]
 by_cases hp : v ≥ 2048
 ·have ho : oneL v = [b0, b1, b2] := by
   unfold oneL
   rw [if_neg (by omega), if_neg (by omega), if_pos (by omega), ofB b0 (224 + v / 4096) (by omega), ofB b1 (128 + v / 64 % 64) (by omega), ofB b2 (128 + v % 64) (by omega)]
  have hpt : ptN v = true ↔ (v < 55296 ∨ (57344 ≤ v ∧ v ≤ 1114111)) := by unfold ptN; simp; omega
  refine ⟨fun hh => if_pos ⟨hp, hpt.1 hh.1⟩, fun hn => if_neg fun e => hn ⟨hpt.2 e.2, ho⟩⟩
 ·have ho : oneL v ≠ [b0, b1, b2] := by
   unfold oneL
   split
   ·simp
   ·rw [if_pos (by omega)]; simp
  rw [if_neg (fun e => hp e.1)]
  exact ⟨fun hn => absurd hn.2 ho, fun _ => rfl⟩
theorem nx_four {L : By} (hl : 4 ≤ L.length) (h : 240 ≤ bxN L 0) (h2 : bxN L 0 < 248) (h3 : inN (bxN L 1)) (h4 : inN (bxN L 2)) (h5 : inN (bxN L 3)) :
 (ptN (pvN L (bxN L 0 - 240) 3) = true ∧ oneL (pvN L (bxN L 0 - 240) 3) = L.take 4 → decP L = (pvN L (bxN L 0 - 240) 3, 4)) ∧ (¬ (ptN (pvN L (bxN L 0 - 240) 3) = true ∧ oneL (pvN L (bxN L 0 - 240) 3) = L.take 4) → decP L = (65533, 1)) := by
 obtain ⟨b0, b1, b2, b3, r, rfl⟩ : ∃ b0 b1 b2 b3 r, L = b0 :: b1 :: b2 :: b3 :: r := by
  match L, hl with
  | a :: b :: c :: d :: r, _ => exact ⟨a, b, c, d, r, rfl⟩
 have e0 : bxN (b0 :: b1 :: b2 :: b3 :: r) 0 = b0.toNat := rfl
 have e1 : bxN (b0 :: b1 :: b2 :: b3 :: r) 1 = b1.toNat := rfl
 have e2 : bxN (b0 :: b1 :: b2 :: b3 :: r) 2 = b2.toNat := rfl
 have e3 : bxN (b0 :: b1 :: b2 :: b3 :: r) 3 = b3.toNat := rfl
 rw [e0] at h h2 ⊢
 rw [e1] at h3
 rw [e2] at h4
 rw [e3] at h5
 unfold inN at h3 h4 h5
 have ev : pvN (b0 :: b1 :: b2 :: b3 :: r) (b0.toNat - 240) 3 = 64 * (64 * (64 * (b0.toNat - 240) + (b1.toNat - 128)) + (b2.toNat - 128)) + (b3.toNat - 128) := rfl
 rw [ev]
 have et : (b0 :: b1 :: b2 :: b3 :: r).take 4 = [b0, b1, b2, b3] := rfl
 rw [et]
 generalize hv : 64 * (64 * (64 * (b0.toNat - 240) + (b1.toNat - 128)) + (b2.toNat - 128)) + (b3.toNat - 128) = v
 have ed : decP (b0 :: b1 :: b2 :: b3 :: r) = if v ≥ 65536 ∧ (v < 55296 ∨ (57344 ≤ v ∧ v ≤ 1114111)) then (v, 4) else (65533, 1) := by
  unfold decP Go.Lib.decodeN
  have en : (b0 :: b1 :: b2 :: b3 :: r).length = r.length + 4 := rfl
  rw [en]
  show (if b0.toNat < 128 then _ else if b0.toNat / 32 = 6 ∧ (1 < r.length + 4 ∧ b1.toNat / 64 = 2) then _ else if b0.toNat / 16 = 14 ∧ (1 < r.length + 4 ∧ b1.toNat / 64 = 2) ∧ (2 < r.length + 4 ∧ b2.toNat / 64 = 2) then _ else if b0.toNat / 8 = 30 ∧ (1 < r.length + 4 ∧ b1.toNat / 64 = 2) ∧ (2 < r.length + 4 ∧ b2.toNat / 64 = 2) ∧ (3 < r.length + 4 ∧ b3.toNat / 64 = 2) then
   (if b0.toNat % 8 * 262144 + b1.toNat % 64 * 4096 + b2.toNat % 64 * 64 + b3.toNat % 64 ≥ 65536 ∧ (b0.toNat % 8 * 262144 + b1.toNat % 64 * 4096 + b2.toNat % 64 * 64 + b3.toNat % 64 < 55296 ∨ (57344 ≤ b0.toNat % 8 * 262144 + b1.toNat % 64 * 4096 + b2.toNat % 64 * 64 + b3.toNat % 64 ∧ b0.toNat % 8 * 262144 + b1.toNat % 64 * 4096 + b2.toNat % 64 * 64 + b3.toNat % 64 ≤ 1114111)) then (b0.toNat % 8 * 262144 + b1.toNat % 64 * 4096 + b2.toNat % 64 * 64 + b3.toNat % 64, 4) else (65533, 1)) else _) = _
  rw [if_neg (by omega), if_neg (by omega), if_neg (by omega), if_pos (by omega), show b0.toNat % 8 * 262144 + b1.toNat % 64 * 4096 + b2.toNat % 64 * 64 + b3.toNat % 64 = v from by omega]
 rw [ed]
 by_cases hp : v ≥ 65536
 ·have ho : oneL v = [b0, b1, b2, b3] := by
   unfold oneL
   rw [if_neg (by omega), if_neg (by omega), if_neg (by omega), ofB b0 (240 + v / 262144) (by omega), ofB b1 (128 + v / 4096 % 64) (by omega), ofB b2 (128 + v / 64 % 64) (by omega), ofB b3 (128 + v % 64) (by omega)]
  have hpt : ptN v = true ↔ (v < 55296 ∨ (57344 ≤ v ∧ v ≤ 1114111)) := by unfold ptN; simp; omega
  refine ⟨fun hh => if_pos ⟨hp, hpt.1 hh.1⟩, fun hn => if_neg fun e => hn ⟨hpt.2 e.2, ho⟩⟩
 ·have ho : oneL v ≠ [b0, b1, b2, b3] := by
   unfold oneL
   split
   ·simp
   split
   ·simp
   ·rw [if_pos (by omega)]; simp
  rw [if_neg (fun e => hp e.1)]
  exact ⟨fun hn => absurd hn.2 ho, fun _ => rfl⟩
end Go.Proofs.YtpfmojeigjmlfaaGreatDoor
namespace Go.Proofs.YtpfmojeigjmlfaaGreatDoor
open Go.RowKit
theorem bx_get (s : ByteArray) (k : Nat) (h : k < s.size) : (s[k].toNat : Nat) = bxN s.data.toList k := by
 have h2 : s.data.toList[k]? = some s[k] := by rw [List.getElem?_eq_getElem (by rw [size_list]; exact h), get_list s k h]
 unfold bxN
 rw [List.getD_eq_getElem?_getD, h2]
 rfl
def NxI (L : By) (z a0 : Nat) (w : World) (n i : Value) (wr : World) : Prop := ∃ k, k + 1 ≤ z ∧ i = .int .i64 ((k + 1 : Nat) : Int) ∧ n = .int .i64 (pvN L a0 k) ∧ (∀ j, 1 ≤ j → j ≤ k → inN (bxN L j)) ∧ w = wr
theorem pv_bound (L : By) (a0 : Nat) (h : a0 ≤ 31) : ∀ k, k ≤ 2 → pvN L a0 k ≤ 140000
 | 0, _ => by show a0 ≤ _; omega
 | 1, _ => by
   have h1 := (L.getD 1 0).toNat_lt
   show 64 * a0 + ((L.getD 1 0).toNat - 128) ≤ _
   omega
 | 2, _ => by
   have h1 := (L.getD 1 0).toNat_lt
   have h2 := (L.getD 2 0).toNat_lt
   show 64 * (64 * a0 + ((L.getD 1 0).toNat - 128)) + ((L.getD 2 0).toNat - 128) ≤ _
   omega
theorem pv_last (L : By) (a0 : Nat) (h : a0 ≤ 31) (h1 : inN (bxN L 1)) : ∀ k, k ≤ 3 → (k = 3 → a0 ≤ 7) → pvN L a0 k ≤ 4000000
 | 0, _, _ => by show a0 ≤ _; omega
 | 1, h2, _ => by have := pv_bound L a0 h 1 (by omega); omega
 | 2, h2, _ => by have := pv_bound L a0 h 2 (by omega); omega
 | 3, h2, h3 => by
   have h7 := h3 rfl
   have q1 := (L.getD 1 0).toNat_lt
   have q2 := (L.getD 2 0).toNat_lt
   have q3 := (L.getD 3 0).toNat_lt
   show 64 * (64 * (64 * a0 + ((L.getD 1 0).toNat - 128)) + ((L.getD 2 0).toNat - 128)) + ((L.getD 3 0).toNat - 128) ≤ _
   omega
 | k + 4, h2, _ => by omega
set_option maxHeartbeats 4000000 in
theorem rnext01_any (s : ByteArray) (w : World) (hs : 0 < s.size) (hz : s.size ≤ 1048576) : Calls Tryz.prog 119 #[.string s] w fun e w' => e = .returned (.tuple #[.int .i64 ((decP s.data.toList).1 : Int), .int .i64 ((decP s.data.toList).2 : Int)]) ∧ Ext w w' := by
 obtain ⟨L, hL⟩ : ∃ L, L = s.data.toList := ⟨_, rfl⟩
 have hLl : L.length = s.size := by rw [hL, size_list]
 have HLL := hid hLl
 have hx0 : (s[0].toNat : Nat) = bxN L 0 := by rw [hL]; exact bx_get s 0 hs
 rw [← hL]
 obtain ⟨x, hx⟩ : ∃ x, x = bxN L 0 := ⟨_, rfl⟩
 have HX := hid hx
 have HL := hid hL
 have hxI : (s[0].toNat : Int) = (x : Int) := by rw [hx0, hx]
 have hx256 : x < 256 := by have := s[0].toNat_lt; omega
 have hsI : (0 : Int) < (s.size : Int) := by omega
 clear hL hx hx0 hLl
 by_cases c1 : x < 128
 ·have a1 : (x : Int) < 128 := by omega
  have HD := hid (show decP L = (x, 1) from by rw [HX.out]; exact nx_low (by rw [← HX.out]; exact c1))
  clear c1
  go_enter Tryz.func119, Tryz.ntmps119
  go_wp2
  go_ret2
  exact ⟨by rw [HD.out]; rfl, Ext.refl _⟩
 have a1 : ¬ (x : Int) < 128 := by omega
 by_cases c2 : x < 192
 ·have a2 : ¬ (192 : Int) ≤ (x : Int) := by omega
  have a3 : ¬ (224 : Int) ≤ (x : Int) := by omega
  have a4 : ¬ (240 : Int) ≤ (x : Int) := by omega
  have HD := hid (show decP L = (65533, 1) from nx_none (by rw [← HX.out]; omega) (.inl (by rw [← HX.out]; exact c2)))
  clear c1 c2
  go_enter Tryz.func119, Tryz.ntmps119
  go_wp2
  go_ret2
  exact ⟨by rw [HD.out]; rfl, Ext.refl _⟩
 have a2 : (192 : Int) ≤ (x : Int) := by omega
 by_cases c5 : 248 ≤ x
 ·have a2 : ¬ (x : Int) < 224 := by omega
  have a3 : (224 : Int) ≤ (x : Int) := by omega
  have a4 : ¬ (x : Int) < 240 := by omega
  have a5 : (240 : Int) ≤ (x : Int) := by omega
  have a6 : ¬ (x : Int) < 248 := by omega
  have HD := hid (show decP L = (65533, 1) from nx_none (by rw [← HX.out]; omega) (.inr (by rw [← HX.out]; exact c5)))
  clear c1 c2 c5
  go_enter Tryz.func119, Tryz.ntmps119
  go_wp2
  go_ret2
  exact ⟨by rw [HD.out]; rfl, Ext.refl _⟩
 by_cases c3 : x < 224
 ·have b5 : (x : Int) < 224 := by omega
  have HSZ := hid (show szN (bxN L 0) = 2 from by rw [← HX.out]; unfold szN; rw [if_pos c3])
  have HR := hid (show 192 ≤ bxN L 0 ∧ bxN L 0 < 248 from by rw [← HX.out]; omega)
  have HAB := hid (show 192 ≤ bxN L 0 ∧ bxN L 0 < 224 from by rw [← HX.out]; omega)
  obtain ⟨a0, ha0⟩ : ∃ a0, a0 = x - 192 := ⟨_, rfl⟩
  have ha31 : a0 ≤ 31 := by omega
  have ha7 : 2 = 4 → a0 ≤ 7 := by omega
  have haI : (x : Int) - 192 = (a0 : Int) := by omega
  have HA0 := hid (show bxN L 0 - 192 = a0 from by rw [← HX.out]; exact ha0.symm)
  by_cases hlen : s.size < 2
  ·have d1 : (s.size : Int) < 2 := by omega
   have HD := hid (show decP L = (65533, 1) from nx_short HR.out.1 HR.out.2 (.inl (by rw [HSZ.out, HLL.out]; exact hlen)))
   clear hlen c1 c2 c5 c3 ha0
   go_enter Tryz.func119, Tryz.ntmps119
   go_wp2
   go_ret2
   exact ⟨by rw [HD.out]; rfl, Ext.refl _⟩
  have d1 : ¬ (s.size : Int) < 2 := by omega
  have hlen2 : 2 ≤ s.size := by omega
  have H0 := hid (show NxI L 2 a0 w (.int .i64 a0) (.int .i64 1) w from ⟨0, by decide, rfl, rfl, fun j h1 h2 => by omega, rfl⟩)
  clear hlen c1 c2 c5 c3 ha0
  go_enter Tryz.func119, Tryz.ntmps119
  go_wp2_with fail
  go_loopw [4, 6] (NxI L 2 a0 w) (fun _ i _ => 2 - (intOf i).toNat)
  case atStart => exact H0.out
  case round =>
   obtain ⟨k, hk, rfl, rfl, hin, rfl⟩ := hrel
   have HIN := hid hin
   have HKI := hid (show ((k + 1 : Nat) : Int) = (k : Int) + 1 from by omega)
   rw [HKI.out]
   clear hin
   by_cases hkz : k + 1 < 2
   ·have hkI : (k : Int) + 1 < 2 := by omega
    have hks : k + 1 < s.size := by omega
    have hksI : (k : Int) + 1 < (s.size : Int) := by omega
    have hk0 : (0 : Int) ≤ (k : Int) + 1 := by omega
    have hb := pv_bound L a0 ha31 k (by omega)
    obtain ⟨v, hv⟩ : ∃ v, v = pvN L a0 k := ⟨_, rfl⟩
    rw [← hv] at hb ⊢
    obtain ⟨y, hy⟩ : ∃ y, y = bxN L (k + 1) := ⟨_, rfl⟩
    have hyI : (s[k + 1].toNat : Int) = (y : Int) := by rw [hy, HL.out, bx_get s (k + 1) hks]
    have hy256 : y < 256 := by have := s[k + 1].toNat_lt; omega
    have HV := hid (show pvN L a0 (k + 1) = 64 * v + (y - 128) from by rw [hv, hy]; rfl)
    have HY := hid hy
    clear hv hy
    by_cases hin : inN y
    ·have g1 : ¬ (y : Int) < 128 := by have := hin.1; omega
     have g2 : ¬ (191 : Int) < (y : Int) := by have := hin.2; omega
     have HY2 := hid hin
     have hy1 := hin.1
     clear hin
     go_wp2
     refine ⟨⟨k + 1, hkz, by go_num, ?_, fun j h1 h2 => ?_, rfl⟩, by simp [intOf]; omega⟩
     ·rw [HV.out]; first | go_num | (congr 1; omega)
     ·by_cases hj : j = k + 1
      ·rw [hj, ← HY.out]; exact HY2.out
      ·exact HIN.out j h1 (by omega)
    ·have HD := hid (show decP L = (65533, 1) from nx_short HR.out.1 HR.out.2 (.inr ⟨k + 1, by omega, by rw [HSZ.out]; exact hkz, by rw [← HY.out]; exact hin⟩))
     by_cases g : y < 128
     ·have g1 : (y : Int) < 128 := by omega
      clear hin g
      go_wp2
      go_ret2
      exact ⟨by rw [HD.out]; rfl, Ext.refl _⟩
     ·have g1 : ¬ (y : Int) < 128 := by omega
      have g2 : (191 : Int) < (y : Int) := by unfold inN at hin; omega
      clear hin g
      go_wp2
      go_ret2
      exact ⟨by rw [HD.out]; rfl, Ext.refl _⟩
   ·obtain rfl : k = 1 := by omega
    have hkI : ¬ ((1 : Nat) : Int) + 1 < 2 := by omega
    have HLAW := hid (nx_two (L := L) (by rw [HLL.out]; exact hlen2) HAB.out.1 HAB.out.2 (HIN.out 1 (by decide) (by decide)))
    have hvb := pv_last L a0 ha31 (HIN.out 1 (by decide) (by decide)) 1 (by decide) (by omega)
    rw [HA0.out] at HLAW
    generalize pvN L a0 1 = v at HLAW hvb ⊢
    have KP := hid (fun W => (show Calls Tryz.prog 145 #[.int .i64 v] W fun e w' => e = .returned (.bool (ptN v)) ∧ W = w' from rpoint_any v W))
    obtain ⟨OB, hOB⟩ : ∃ OB : ByteArray, OB = ⟨(oneL v).toArray⟩ := ⟨_, rfl⟩
    have KO := hid (fun W => rone_any v W hvb)
    rw [← hOB] at KO
    have HOB := hid (show OB.data.toList = oneL v from by rw [hOB])
    have HTK := hid (show (s.extract 0 2).data.toList = L.take 2 from by rw [HL.out, extract_take])
    have HIFF := hid (show (OB.toList == (s.extract 0 2).toList) = true ↔ oneL v = L.take 2 from by rw [beq_iff_eq, ByteArray.toList_eq, ByteArray.toList_eq, ← HOB.out, ← HTK.out])
    have hzI : (2 : Int) ≤ (s.size : Int) := by omega
    clear hOB
    generalize ptN v = P at KP HLAW
    cases P
    ·have HD := hid (HLAW.out.2 (fun h => by cases h.1))
     go_upto_region 19 with (fail)
     refine wp_region_ext (by kernel_rfl) (by kernel_rfl) ?_
     repeat (go_big_quiet_step (first | (go_at_call 145; exact ExtW.same (KP.out _)) | (go_at_call 146; exact ExtW.call (KO.out _))))
     refine wpQuiet_nil ?_
     intro wx hx
     have HXE := hid (ext_ofQ hx)
     clear hx
     go_wp2
     go_ret2
     exact ⟨by rw [HD.out]; rfl, HXE.out⟩
    ·cases hcm : (OB.toList == (s.extract 0 2).toList)
     ·have HD := hid (HLAW.out.2 (fun h => by have h2 := HIFF.out.2 h.2; rw [hcm] at h2; cases h2))
      go_upto_region 19 with (fail)
      refine wp_region_ext (by kernel_rfl) (by kernel_rfl) ?_
      repeat (go_big_quiet_step (first | (go_at_call 145; exact ExtW.same (KP.out _)) | (go_at_call 146; exact ExtW.call (KO.out _))))
      refine wpQuiet_nil ?_
      intro wx hx
      have HXE := hid (ext_ofQ hx)
      clear hx
      go_wp2
      go_ret2
      exact ⟨by rw [HD.out]; rfl, HXE.out⟩
     ·have HD := hid (HLAW.out.1 ⟨rfl, HIFF.out.1 hcm⟩)
      go_upto_region 19 with (fail)
      refine wp_region_ext (by kernel_rfl) (by kernel_rfl) ?_
      repeat (go_big_quiet_step (first | (go_at_call 145; exact ExtW.same (KP.out _)) | (go_at_call 146; exact ExtW.call (KO.out _))))
      refine wpQuiet_nil ?_
      intro wx hx
      have HXE := hid (ext_ofQ hx)
      clear hx
      go_wp2
      go_ret2
      exact ⟨by rw [HD.out]; rfl, HXE.out⟩
 by_cases c4 : x < 240
 ·have b1 : ¬ (x : Int) < 224 := by omega
  have b2 : (224 : Int) ≤ (x : Int) := by omega
  have b5 : (x : Int) < 240 := by omega
  have HSZ := hid (show szN (bxN L 0) = 3 from by rw [← HX.out]; unfold szN; rw [if_neg c3, if_pos c4])
  have HR := hid (show 192 ≤ bxN L 0 ∧ bxN L 0 < 248 from by rw [← HX.out]; omega)
  have HAB := hid (show 224 ≤ bxN L 0 ∧ bxN L 0 < 240 from by rw [← HX.out]; omega)
  obtain ⟨a0, ha0⟩ : ∃ a0, a0 = x - 224 := ⟨_, rfl⟩
  have ha31 : a0 ≤ 31 := by omega
  have ha7 : 3 = 4 → a0 ≤ 7 := by omega
  have haI : (x : Int) - 224 = (a0 : Int) := by omega
  have HA0 := hid (show bxN L 0 - 224 = a0 from by rw [← HX.out]; exact ha0.symm)
  by_cases hlen : s.size < 3
  ·have d1 : (s.size : Int) < 3 := by omega
   have HD := hid (show decP L = (65533, 1) from nx_short HR.out.1 HR.out.2 (.inl (by rw [HSZ.out, HLL.out]; exact hlen)))
   clear hlen c1 c2 c5 c3 c4 ha0
   go_enter Tryz.func119, Tryz.ntmps119
   go_wp2
   go_ret2
   exact ⟨by rw [HD.out]; rfl, Ext.refl _⟩
  have d1 : ¬ (s.size : Int) < 3 := by omega
  have hlen2 : 3 ≤ s.size := by omega
  have H0 := hid (show NxI L 3 a0 w (.int .i64 a0) (.int .i64 1) w from ⟨0, by decide, rfl, rfl, fun j h1 h2 => by omega, rfl⟩)
  clear hlen c1 c2 c5 c3 c4 ha0
  go_enter Tryz.func119, Tryz.ntmps119
  go_wp2_with fail
  go_loopw [4, 6] (NxI L 3 a0 w) (fun _ i _ => 3 - (intOf i).toNat)
  case atStart => exact H0.out
  case round =>
   obtain ⟨k, hk, rfl, rfl, hin, rfl⟩ := hrel
   have HIN := hid hin
   have HKI := hid (show ((k + 1 : Nat) : Int) = (k : Int) + 1 from by omega)
   rw [HKI.out]
   clear hin
   by_cases hkz : k + 1 < 3
   ·have hkI : (k : Int) + 1 < 3 := by omega
    have hks : k + 1 < s.size := by omega
    have hksI : (k : Int) + 1 < (s.size : Int) := by omega
    have hk0 : (0 : Int) ≤ (k : Int) + 1 := by omega
    have hb := pv_bound L a0 ha31 k (by omega)
    obtain ⟨v, hv⟩ : ∃ v, v = pvN L a0 k := ⟨_, rfl⟩
    rw [← hv] at hb ⊢
    obtain ⟨y, hy⟩ : ∃ y, y = bxN L (k + 1) := ⟨_, rfl⟩
    have hyI : (s[k + 1].toNat : Int) = (y : Int) := by rw [hy, HL.out, bx_get s (k + 1) hks]
    have hy256 : y < 256 := by have := s[k + 1].toNat_lt; omega
    have HV := hid (show pvN L a0 (k + 1) = 64 * v + (y - 128) from by rw [hv, hy]; rfl)
    have HY := hid hy
    clear hv hy
    by_cases hin : inN y
    ·have g1 : ¬ (y : Int) < 128 := by have := hin.1; omega
     have g2 : ¬ (191 : Int) < (y : Int) := by have := hin.2; omega
     have HY2 := hid hin
     have hy1 := hin.1
     clear hin
     go_wp2
     refine ⟨⟨k + 1, hkz, by go_num, ?_, fun j h1 h2 => ?_, rfl⟩, by simp [intOf]; omega⟩
     ·rw [HV.out]; first | go_num | (congr 1; omega)
     ·by_cases hj : j = k + 1
      ·rw [hj, ← HY.out]; exact HY2.out
      ·exact HIN.out j h1 (by omega)
    ·have HD := hid (show decP L = (65533, 1) from nx_short HR.out.1 HR.out.2 (.inr ⟨k + 1, by omega, by rw [HSZ.out]; exact hkz, by rw [← HY.out]; exact hin⟩))
     by_cases g : y < 128
     ·have g1 : (y : Int) < 128 := by omega
      clear hin g
      go_wp2
      go_ret2
      exact ⟨by rw [HD.out]; rfl, Ext.refl _⟩
     ·have g1 : ¬ (y : Int) < 128 := by omega
      have g2 : (191 : Int) < (y : Int) := by unfold inN at hin; omega
      clear hin g
      go_wp2
      go_ret2
      exact ⟨by rw [HD.out]; rfl, Ext.refl _⟩
   ·obtain rfl : k = 2 := by omega
    have hkI : ¬ ((2 : Nat) : Int) + 1 < 3 := by omega
    have HLAW := hid (nx_three (L := L) (by rw [HLL.out]; exact hlen2) HAB.out.1 HAB.out.2 (HIN.out 1 (by decide) (by decide)) (HIN.out 2 (by decide) (by decide)))
    have hvb := pv_last L a0 ha31 (HIN.out 1 (by decide) (by decide)) 2 (by decide) (by omega)
    rw [HA0.out] at HLAW
    generalize pvN L a0 2 = v at HLAW hvb ⊢
    have KP := hid (fun W => (show Calls Tryz.prog 145 #[.int .i64 v] W fun e w' => e = .returned (.bool (ptN v)) ∧ W = w' from rpoint_any v W))
    obtain ⟨OB, hOB⟩ : ∃ OB : ByteArray, OB = ⟨(oneL v).toArray⟩ := ⟨_, rfl⟩
    have KO := hid (fun W => rone_any v W hvb)
    rw [← hOB] at KO
    have HOB := hid (show OB.data.toList = oneL v from by rw [hOB])
    have HTK := hid (show (s.extract 0 3).data.toList = L.take 3 from by rw [HL.out, extract_take])
    have HIFF := hid (show (OB.toList == (s.extract 0 3).toList) = true ↔ oneL v = L.take 3 from by rw [beq_iff_eq, ByteArray.toList_eq, ByteArray.toList_eq, ← HOB.out, ← HTK.out])
    have hzI : (3 : Int) ≤ (s.size : Int) := by omega
    clear hOB
    generalize ptN v = P at KP HLAW
    cases P
    ·have HD := hid (HLAW.out.2 (fun h => by cases h.1))
     go_upto_region 19 with (fail)
     refine wp_region_ext (by kernel_rfl) (by kernel_rfl) ?_
     repeat (go_big_quiet_step (first | (go_at_call 145; exact ExtW.same (KP.out _)) | (go_at_call 146; exact ExtW.call (KO.out _))))
     refine wpQuiet_nil ?_
     intro wx hx
     have HXE := hid (ext_ofQ hx)
     clear hx
     go_wp2
     go_ret2
     exact ⟨by rw [HD.out]; rfl, HXE.out⟩
    ·cases hcm : (OB.toList == (s.extract 0 3).toList)
     ·have HD := hid (HLAW.out.2 (fun h => by have h2 := HIFF.out.2 h.2; rw [hcm] at h2; cases h2))
      go_upto_region 19 with (fail)
      refine wp_region_ext (by kernel_rfl) (by kernel_rfl) ?_
      repeat (go_big_quiet_step (first | (go_at_call 145; exact ExtW.same (KP.out _)) | (go_at_call 146; exact ExtW.call (KO.out _))))
      refine wpQuiet_nil ?_
      intro wx hx
      have HXE := hid (ext_ofQ hx)
      clear hx
      go_wp2
      go_ret2
      exact ⟨by rw [HD.out]; rfl, HXE.out⟩
     ·have HD := hid (HLAW.out.1 ⟨rfl, HIFF.out.1 hcm⟩)
      go_upto_region 19 with (fail)
      refine wp_region_ext (by kernel_rfl) (by kernel_rfl) ?_
      repeat (go_big_quiet_step (first | (go_at_call 145; exact ExtW.same (KP.out _)) | (go_at_call 146; exact ExtW.call (KO.out _))))
      refine wpQuiet_nil ?_
      intro wx hx
      have HXE := hid (ext_ofQ hx)
      clear hx
      go_wp2
      go_ret2
      exact ⟨by rw [HD.out]; rfl, HXE.out⟩
 have b1 : ¬ (x : Int) < 224 := by omega
 have b2 : (224 : Int) ≤ (x : Int) := by omega
 have b3 : ¬ (x : Int) < 240 := by omega
 have b4 : (240 : Int) ≤ (x : Int) := by omega
 have b5 : (x : Int) < 248 := by omega
 have HSZ := hid (show szN (bxN L 0) = 4 from by rw [← HX.out]; unfold szN; rw [if_neg c3, if_neg c4])
 have HR := hid (show 192 ≤ bxN L 0 ∧ bxN L 0 < 248 from by rw [← HX.out]; omega)
 have HAB := hid (show 240 ≤ bxN L 0 ∧ bxN L 0 < 248 from by rw [← HX.out]; omega)
 obtain ⟨a0, ha0⟩ : ∃ a0, a0 = x - 240 := ⟨_, rfl⟩
 have ha31 : a0 ≤ 31 := by omega
 have ha7 : 4 = 4 → a0 ≤ 7 := by omega
 have haI : (x : Int) - 240 = (a0 : Int) := by omega
 have HA0 := hid (show bxN L 0 - 240 = a0 from by rw [← HX.out]; exact ha0.symm)
 by_cases hlen : s.size < 4
 ·have d1 : (s.size : Int) < 4 := by omega
  have HD := hid (show decP L = (65533, 1) from nx_short HR.out.1 HR.out.2 (.inl (by rw [HSZ.out, HLL.out]; exact hlen)))
  clear hlen c1 c2 c5 c3 c4 ha0
  go_enter Tryz.func119, Tryz.ntmps119
  go_wp2
  go_ret2
  exact ⟨by rw [HD.out]; rfl, Ext.refl _⟩
 have d1 : ¬ (s.size : Int) < 4 := by omega
 have hlen2 : 4 ≤ s.size := by omega
 have H0 := hid (show NxI L 4 a0 w (.int .i64 a0) (.int .i64 1) w from ⟨0, by decide, rfl, rfl, fun j h1 h2 => by omega, rfl⟩)
 clear hlen c1 c2 c5 c3 c4 ha0
 go_enter Tryz.func119, Tryz.ntmps119
 go_wp2_with fail
 go_loopw [4, 6] (NxI L 4 a0 w) (fun _ i _ => 4 - (intOf i).toNat)
 case atStart => exact H0.out
 case round =>
  obtain ⟨k, hk, rfl, rfl, hin, rfl⟩ := hrel
  have HIN := hid hin
  have HKI := hid (show ((k + 1 : Nat) : Int) = (k : Int) + 1 from by omega)
  rw [HKI.out]
  clear hin
  by_cases hkz : k + 1 < 4
  ·have hkI : (k : Int) + 1 < 4 := by omega
   have hks : k + 1 < s.size := by omega
   have hksI : (k : Int) + 1 < (s.size : Int) := by omega
   have hk0 : (0 : Int) ≤ (k : Int) + 1 := by omega
   have hb := pv_bound L a0 ha31 k (by omega)
   obtain ⟨v, hv⟩ : ∃ v, v = pvN L a0 k := ⟨_, rfl⟩
   rw [← hv] at hb ⊢
   obtain ⟨y, hy⟩ : ∃ y, y = bxN L (k + 1) := ⟨_, rfl⟩
   have hyI : (s[k + 1].toNat : Int) = (y : Int) := by rw [hy, HL.out, bx_get s (k + 1) hks]
   have hy256 : y < 256 := by have := s[k + 1].toNat_lt; omega
   have HV := hid (show pvN L a0 (k + 1) = 64 * v + (y - 128) from by rw [hv, hy]; rfl)
   have HY := hid hy
   clear hv hy
   by_cases hin : inN y
   ·have g1 : ¬ (y : Int) < 128 := by have := hin.1; omega
    have g2 : ¬ (191 : Int) < (y : Int) := by have := hin.2; omega
    have HY2 := hid hin
    have hy1 := hin.1
    clear hin
    go_wp2
    refine ⟨⟨k + 1, hkz, by go_num, ?_, fun j h1 h2 => ?_, rfl⟩, by simp [intOf]; omega⟩
    ·rw [HV.out]; first | go_num | (congr 1; omega)
    ·by_cases hj : j = k + 1
     ·rw [hj, ← HY.out]; exact HY2.out
     ·exact HIN.out j h1 (by omega)
   ·have HD := hid (show decP L = (65533, 1) from nx_short HR.out.1 HR.out.2 (.inr ⟨k + 1, by omega, by rw [HSZ.out]; exact hkz, by rw [← HY.out]; exact hin⟩))
    by_cases g : y < 128
    ·have g1 : (y : Int) < 128 := by omega
     clear hin g
     go_wp2
     go_ret2
     exact ⟨by rw [HD.out]; rfl, Ext.refl _⟩
    ·have g1 : ¬ (y : Int) < 128 := by omega
     have g2 : (191 : Int) < (y : Int) := by unfold inN at hin; omega
     clear hin g
     go_wp2
     go_ret2
     exact ⟨by rw [HD.out]; rfl, Ext.refl _⟩
  ·obtain rfl : k = 3 := by omega
   have hkI : ¬ ((3 : Nat) : Int) + 1 < 4 := by omega
   have HLAW := hid (nx_four (L := L) (by rw [HLL.out]; exact hlen2) HAB.out.1 HAB.out.2 (HIN.out 1 (by decide) (by decide)) (HIN.out 2 (by decide) (by decide)) (HIN.out 3 (by decide) (by decide)))
   have hvb := pv_last L a0 ha31 (HIN.out 1 (by decide) (by decide)) 3 (by decide) (by omega)
   rw [HA0.out] at HLAW
   generalize pvN L a0 3 = v at HLAW hvb ⊢
   have KP := hid (fun W => (show Calls Tryz.prog 145 #[.int .i64 v] W fun e w' => e = .returned (.bool (ptN v)) ∧ W = w' from rpoint_any v W))
   obtain ⟨OB, hOB⟩ : ∃ OB : ByteArray, OB = ⟨(oneL v).toArray⟩ := ⟨_, rfl⟩
   have KO := hid (fun W => rone_any v W hvb)
   rw [← hOB] at KO
   have HOB := hid (show OB.data.toList = oneL v from by rw [hOB])
   have HTK := hid (show (s.extract 0 4).data.toList = L.take 4 from by rw [HL.out, extract_take])
   have HIFF := hid (show (OB.toList == (s.extract 0 4).toList) = true ↔ oneL v = L.take 4 from by rw [beq_iff_eq, ByteArray.toList_eq, ByteArray.toList_eq, ← HOB.out, ← HTK.out])
   have hzI : (4 : Int) ≤ (s.size : Int) := by omega
   clear hOB
   generalize ptN v = P at KP HLAW
   cases P
   ·have HD := hid (HLAW.out.2 (fun h => by cases h.1))
    go_upto_region 19 with (fail)
    refine wp_region_ext (by kernel_rfl) (by kernel_rfl) ?_
    repeat (go_big_quiet_step (first | (go_at_call 145; exact ExtW.same (KP.out _)) | (go_at_call 146; exact ExtW.call (KO.out _))))
    refine wpQuiet_nil ?_
    intro wx hx
    have HXE := hid (ext_ofQ hx)
    clear hx
    go_wp2
    go_ret2
    exact ⟨by rw [HD.out]; rfl, HXE.out⟩
   ·cases hcm : (OB.toList == (s.extract 0 4).toList)
    ·have HD := hid (HLAW.out.2 (fun h => by have h2 := HIFF.out.2 h.2; rw [hcm] at h2; cases h2))
     go_upto_region 19 with (fail)
     refine wp_region_ext (by kernel_rfl) (by kernel_rfl) ?_
     repeat (go_big_quiet_step (first | (go_at_call 145; exact ExtW.same (KP.out _)) | (go_at_call 146; exact ExtW.call (KO.out _))))
     refine wpQuiet_nil ?_
     intro wx hx
     have HXE := hid (ext_ofQ hx)
     clear hx
     go_wp2
     go_ret2
     exact ⟨by rw [HD.out]; rfl, HXE.out⟩
    ·have HD := hid (HLAW.out.1 ⟨rfl, HIFF.out.1 hcm⟩)
     go_upto_region 19 with (fail)
     refine wp_region_ext (by kernel_rfl) (by kernel_rfl) ?_
     repeat (go_big_quiet_step (first | (go_at_call 145; exact ExtW.same (KP.out _)) | (go_at_call 146; exact ExtW.call (KO.out _))))
     refine wpQuiet_nil ?_
     intro wx hx
     have HXE := hid (ext_ofQ hx)
     clear hx
     go_wp2
     go_ret2
     exact ⟨by rw [HD.out]; rfl, HXE.out⟩
end Go.Proofs.YtpfmojeigjmlfaaGreatDoor
namespace Go.Proofs.YtpfmojeigjmlfaaGreatDoor
open Go.RowKit
theorem results_ct {P : Program} {fn : Func} {p u : Tmp} {ty : TypeId} (h : fn.results = #[.cell p ty, .tmp u]) (tmps : Array Value) (w : World) (g : Nat) (T : TypeId) (cs : Array Value) (d : TypeDesc)
 (hp : tmps.getD p undef = .pointer (some ⟨g, 0, none⟩)) (hg : AtC T w g cs)
 (hu : P.underlying ty = some d) (hd : (match d with | .struct _ | .array _ _ => true | _ => false) = true) (hi : (P.info? ty).map (·.size) = some cs.size) :
 (results fn tmps).run P w = .ok (.tuple #[.agg cs, tmps.getD u undef]) w := by
 have hp' : tmps[p]?.getD undef = .pointer (some ⟨g, 0, none⟩) := by simpa using hp
 simp [results, h, hp', asAddr, run_loadVar_row w g T ty cs (0, 0) d hg hu hd hi, Sem.run_bind, Result.andThen]
def AqI (s : ByteArray) (w : World) (off : Nat) (wr : World) : Prop := ∃ p li co n, p ≤ s.size ∧ s.size - p < n ∧ atP s.data.toList off = atL n (s.data.toList.drop p) p li co off ∧ li ≤ p + 1 ∧ co ≤ p + 1 ∧
 AtC 29 wr (w.heap.size + 1) #[.int .i64 p, .int .i64 li, .int .i64 co] ∧ AtC 29 wr w.heap.size #[.int .i64 0, .int .i64 0, .int .i64 0] ∧ Ext w wr ∧ w.heap.size + 2 ≤ wr.heap.size
def posQ (g : Nat) (w : World) : Nat := (intV (w.cell? ⟨g, 0, none⟩)).toNat
theorem extract_drop01 {s : ByteArray} {p : Nat} : (s.extract p s.size).data.toList = s.data.toList.drop p := by
 simp only [ByteArray.data_extract, Array.toList_extract, List.extract_eq_take_drop]
 refine List.take_of_length_le ?_
 rw [List.length_drop, size_list]
 exact Nat.le_refl _
theorem at_oth {T : TypeId} {w : World} {g g2 o : Nat} {cs : Array Value} {v : Value} (h : AtC T w g cs) (hne : g ≠ g2) : AtC T (w.setCell ⟨g2, o, none⟩ v) g cs := h.exc (exc_q o v) hne
set_option maxHeartbeats 4000000 in
theorem rat_any (s : ByteArray) (off : Nat) (w : World) (hz : s.size ≤ 1048576) : Calls Tryz.prog 80 #[.string s, .int .i64 off] w fun e w' => e = .returned (atV s.data.toList off) ∧ Ext w w' := by
 have HX0 := hid ((Ext.refl w).alloc (.cells #[.int .i64 0, .int .i64 0, .int .i64 0] 29))
 have H0 := hid (show AqI s w off ((w.alloc (.cells #[.int .i64 0, .int .i64 0, .int .i64 0] 29)).alloc (.cells #[.int .i64 0, .int .i64 1, .int .i64 1] 29)) from by
  have h2 := AtC.new (w.alloc (.cells #[.int .i64 0, .int .i64 0, .int .i64 0] 29)) #[.int .i64 0, .int .i64 1, .int .i64 1] (T := 29)
  rw [World.size_alloc] at h2
  refine ⟨0, 1, 1, s.size + 1, Nat.zero_le _, by omega, ?_, by omega, by omega, h2, (AtC.new w _).ext ((Ext.refl _).alloc _), HX0.out.alloc _, by rw [World.size_alloc, World.size_alloc]; omega⟩
  unfold atP
  rw [List.drop_zero, size_list])
 go_enter Tryz.func80, Tryz.ntmps80
 go_wp2_with fail
 go_loopw [7] (fun _ wr => AqI s w off wr) (fun _ wr => s.size - posQ (w.heap.size + 1) wr)
 case atStart => exact H0.out
 case round =>
  obtain ⟨p, li, co, n, hp, hn, hat, hli, hco, hb, hr, hx, hsz⟩ := hrel
  obtain ⟨wo, rfl⟩ : ∃ wo : World, wo = wr := ⟨_, rfl⟩
  have HB := hid hb
  have HR := hid hr
  have HX := hid hx
  have HAT := hid hat
  have HQ := hid (show posQ (w.heap.size + 1) wo = p from by unfold posQ; rw [hb.cell 0 _ rfl]; rfl)
  rw [HQ.out]
  have y0 := hb.cell 0 _ rfl
  have y1 := hb.cell 1 _ rfl
  have y2 := hb.cell 2 _ rfl
  have r0 := hr.cell 0 _ rfl
  have r1 := hr.cell 1 _ rfl
  have r2 := hr.cell 2 _ rfl
  clear hat hb hr hx
  obtain ⟨m, rfl⟩ : ∃ m, n = m + 1 := ⟨n - 1, by omega⟩
  by_cases hpo : p = off
  ·subst hpo
   have HV := hid (show atV s.data.toList p = .tuple #[.agg #[.int .i64 p, .int .i64 li, .int .i64 co], .int .i64 0] from by
    unfold atV
    rw [HAT.out, atL, if_pos rfl])
   have bq : ((p : Int) == (p : Int)) = true := by simp
   have bqn : ((p : Int) != (p : Int)) = false := by simp
   by_cases hps : p < s.size
   ·have hpI : (p : Int) < (s.size : Int) := by omega
    clear hps
    have u0 := frz_of HR.out 0
    have u1 := frz_of HR.out 1
    have u2 := frz_of HR.out 2
    go_wp2
    have hat := at_three2 (b2 := .int .i64 co) (at_three1 (b1 := .int .i64 li) (at_three0 (b0 := .int .i64 p) HR.out))
    have hxx : Ext w (((wo.setCell ⟨w.heap.size, 0, none⟩ (.int .i64 p)).setCell ⟨w.heap.size, 1, none⟩ (.int .i64 li)).setCell ⟨w.heap.size, 2, none⟩ (.int .i64 co)) := ((HX.out.setCell (p := ⟨w.heap.size, 0, none⟩) (Nat.le_refl _) _).setCell (p := ⟨w.heap.size, 1, none⟩) (Nat.le_refl _) _).setCell (p := ⟨w.heap.size, 2, none⟩) (Nat.le_refl _) _
    clear y0 y1 y2 r0 r1 r2 u0 u1 u2
    refine bodyPost_ret (results_ct rfl _ _ w.heap.size 29 _ _ rfl hat Tryz.underlying29 rfl (by kernel_rfl)) rfl ?_
    exact ⟨by rw [HV.out]; rfl, hxx⟩
   ·have hpI : ¬ (p : Int) < (s.size : Int) := by omega
    clear hps
    have u0 := frz_of HR.out 0
    have u1 := frz_of HR.out 1
    have u2 := frz_of HR.out 2
    go_wp2
    have hat := at_three2 (b2 := .int .i64 co) (at_three1 (b1 := .int .i64 li) (at_three0 (b0 := .int .i64 p) HR.out))
    have hxx : Ext w (((wo.setCell ⟨w.heap.size, 0, none⟩ (.int .i64 p)).setCell ⟨w.heap.size, 1, none⟩ (.int .i64 li)).setCell ⟨w.heap.size, 2, none⟩ (.int .i64 co)) := ((HX.out.setCell (p := ⟨w.heap.size, 0, none⟩) (Nat.le_refl _) _).setCell (p := ⟨w.heap.size, 1, none⟩) (Nat.le_refl _) _).setCell (p := ⟨w.heap.size, 2, none⟩) (Nat.le_refl _) _
    clear y0 y1 y2 r0 r1 r2 u0 u1 u2
    refine bodyPost_ret (results_ct rfl _ _ w.heap.size 29 _ _ rfl hat Tryz.underlying29 rfl (by kernel_rfl)) rfl ?_
    exact ⟨by rw [HV.out]; rfl, hxx⟩
  have bq : ((p : Int) == (off : Int)) = false := by rw [beq_eq_false_iff_ne]; omega
  have bqn : ((p : Int) != (off : Int)) = true := by rw [bne, bq]; rfl
  by_cases hps : p < s.size
  rotate_left
  ·have hpI : ¬ (p : Int) < (s.size : Int) := by omega
   have HV := hid (show atV s.data.toList off = .tuple #[.agg #[.int .i64 0, .int .i64 0, .int .i64 0], .int .i64 2] from by
    unfold atV
    rw [HAT.out, atL, if_neg hpo, if_pos (List.drop_eq_nil_of_le (by rw [size_list]; omega))])
   clear hps hpo
   have u0 := frz_of HR.out 0
   have u1 := frz_of HR.out 1
   have u2 := frz_of HR.out 2
   go_wp2
   have hat := at_three2 (b2 := .int .i64 0) (at_three1 (b1 := .int .i64 0) (at_three0 (b0 := .int .i64 0) HR.out))
   have hxx : Ext w (((wo.setCell ⟨w.heap.size, 0, none⟩ (.int .i64 0)).setCell ⟨w.heap.size, 1, none⟩ (.int .i64 0)).setCell ⟨w.heap.size, 2, none⟩ (.int .i64 0)) := ((HX.out.setCell (p := ⟨w.heap.size, 0, none⟩) (Nat.le_refl _) _).setCell (p := ⟨w.heap.size, 1, none⟩) (Nat.le_refl _) _).setCell (p := ⟨w.heap.size, 2, none⟩) (Nat.le_refl _) _
   clear y0 y1 y2 r0 r1 r2 u0 u1 u2
   refine bodyPost_ret (results_ct rfl _ _ w.heap.size 29 _ _ rfl hat Tryz.underlying29 rfl (by kernel_rfl)) rfl ?_
   exact ⟨by rw [HV.out]; rfl, hxx⟩
  have hpI : (p : Int) < (s.size : Int) := by omega
  have hpL : (p : Int) ≤ (s.size : Int) := by omega
  have hes : (s.extract p s.size).size = s.size - p := by rw [← size_list, extract_drop01, List.length_drop, size_list]
  have KN := hid (rnext01_any (s.extract p s.size) wo (by omega) (by omega))
  rw [extract_drop01] at KN
  obtain ⟨D, hD⟩ : ∃ D, D = decP (s.data.toList.drop p) := ⟨_, rfl⟩
  have hds := decN_size (s.data.toList.drop p).length ((s.data.toList.drop p).getD 0 0).toNat ((s.data.toList.drop p).getD 1 0).toNat ((s.data.toList.drop p).getD 2 0).toNat ((s.data.toList.drop p).getD 3 0).toNat
  rw [show Go.Lib.decodeN (s.data.toList.drop p).length ((s.data.toList.drop p).getD 0 0).toNat ((s.data.toList.drop p).getD 1 0).toNat ((s.data.toList.drop p).getD 2 0).toNat ((s.data.toList.drop p).getD 3 0).toNat = D from hD.symm, List.length_drop, size_list] at hds
  rw [← hD] at KN
  have HATN := hid (show atP s.data.toList off = atL m (s.data.toList.drop (p + D.2)) (p + D.2) (if D.1 = 10 then li + 1 else li) (if D.1 = 10 then 1 else co + 1) off from by
   rw [HAT.out, atL, if_neg hpo, if_neg (fun e => by have := congrArg List.length e; rw [List.length_drop, size_list] at this; simp at this; omega), ← hD, List.drop_drop])
  clear hD
  obtain ⟨d1, d2⟩ := D
  simp only at hds KN HATN
  have hd1 : 1 ≤ d2 := hds.1
  have hd2 : p + d2 ≤ s.size := by omega
  have hd4 : d2 ≤ 4 := hds.2.1
  have HDS := hid (show 1 ≤ d2 ∧ p + d2 ≤ s.size from ⟨hd1, hd2⟩)
  clear hds hpo hes
  go_upto_region 4 with (first | (go_at_call 119; (with_reducible refine KN.out.mono ?_); rintro e w2 ⟨rfl, hx2⟩))
  have HX2 := hid hx2
  have HB2 := hid (HB.out.ext hx2)
  have HR2 := hid (HR.out.ext hx2)
  have hs2 := hx2.size
  clear hx2 y0 y1 y2 r0 r1 r2
  have y0 := HB2.out.cell 0 _ rfl
  have y1 := HB2.out.cell 1 _ rfl
  have y2 := HB2.out.cell 2 _ rfl
  have f0 := frz_of HB2.out 0
  have f1 := frz_of HB2.out 1
  have f2 := frz_of HB2.out 2
  by_cases hd10 : d1 = 10
  ·subst hd10
   have hb3 := at_three2 (b2 := .int .i64 ((1 : Nat) : Int)) (at_three1 (b1 := .int .i64 ((li + 1 : Nat) : Int)) (at_three2 (b2 := .int .i64 ((co + 1 : Nat) : Int)) (at_three0 (b0 := .int .i64 ((p + d2 : Nat) : Int)) HB2.out)))
   have HE := hid (show AqI s w off ((((w2.setCell ⟨w.heap.size + 1, 0, none⟩ (.int .i64 ((p + d2 : Nat) : Int))).setCell ⟨w.heap.size + 1, 2, none⟩ (.int .i64 ((co + 1 : Nat) : Int))).setCell ⟨w.heap.size + 1, 1, none⟩ (.int .i64 ((li + 1 : Nat) : Int))).setCell ⟨w.heap.size + 1, 2, none⟩ (.int .i64 ((1 : Nat) : Int))) ∧ posQ (w.heap.size + 1) ((((w2.setCell ⟨w.heap.size + 1, 0, none⟩ (.int .i64 ((p + d2 : Nat) : Int))).setCell ⟨w.heap.size + 1, 2, none⟩ (.int .i64 ((co + 1 : Nat) : Int))).setCell ⟨w.heap.size + 1, 1, none⟩ (.int .i64 ((li + 1 : Nat) : Int))).setCell ⟨w.heap.size + 1, 2, none⟩ (.int .i64 ((1 : Nat) : Int))) = p + d2 from by
    refine ⟨⟨p + d2, li + 1, 1, m, hd2, by omega, ?_, by omega, by omega, hb3, at_oth (at_oth (at_oth (at_oth (HR2.out) (by omega)) (by omega)) (by omega)) (by omega), (Ext.setCell (Ext.setCell (Ext.setCell (Ext.setCell (HX.out.trans HX2.out) (p := ⟨w.heap.size + 1, 0, none⟩) (by simp) _) (p := ⟨w.heap.size + 1, 2, none⟩) (by simp) _) (p := ⟨w.heap.size + 1, 1, none⟩) (by simp) _) (p := ⟨w.heap.size + 1, 2, none⟩) (by simp) _), by simpa using Nat.le_trans hsz hs2⟩, by unfold posQ; rw [hb3.cell 0 _ rfl]; rfl⟩
    have h := HATN.out
    rw [if_pos rfl, if_pos rfl] at h
    exact h)
   have e1 : ((p + d2 : Nat) : Int) = (p : Int) + (d2 : Int) := by omega
   have e2 : ((co + 1 : Nat) : Int) = (co : Int) + 1 := by omega
   have e3 : ((li + 1 : Nat) : Int) = (li : Int) + 1 := by omega
   rw [e1, e2, e3] at HE
   clear hb3 e1 e2 e3
   go_wp2
   have h := HE.out
   have h3 := HDS.out
   exact ⟨h.1, Nat.lt_of_le_of_lt (Nat.le_of_eq (congrArg (fun q => s.size - q) h.2)) (by show s.size - (p + d2) < s.size - p; omega)⟩
  have b10 : ((d1 : Int) == 10) = false := by rw [beq_eq_false_iff_ne]; omega
  have hb3 := at_three2 (b2 := .int .i64 ((co + 1 : Nat) : Int)) (at_three0 (b0 := .int .i64 ((p + d2 : Nat) : Int)) HB2.out)
  have HE := hid (show AqI s w off ((w2.setCell ⟨w.heap.size + 1, 0, none⟩ (.int .i64 ((p + d2 : Nat) : Int))).setCell ⟨w.heap.size + 1, 2, none⟩ (.int .i64 ((co + 1 : Nat) : Int))) ∧ posQ (w.heap.size + 1) ((w2.setCell ⟨w.heap.size + 1, 0, none⟩ (.int .i64 ((p + d2 : Nat) : Int))).setCell ⟨w.heap.size + 1, 2, none⟩ (.int .i64 ((co + 1 : Nat) : Int))) = p + d2 from by
   refine ⟨⟨p + d2, li, co + 1, m, hd2, by omega, ?_, by omega, by omega, hb3, at_oth (at_oth (HR2.out) (by omega)) (by omega), (Ext.setCell (Ext.setCell (HX.out.trans HX2.out) (p := ⟨w.heap.size + 1, 0, none⟩) (by simp) _) (p := ⟨w.heap.size + 1, 2, none⟩) (by simp) _), by simpa using Nat.le_trans hsz hs2⟩, by unfold posQ; rw [hb3.cell 0 _ rfl]; rfl⟩
   have h := HATN.out
   rw [if_neg hd10, if_neg hd10] at h
   exact h)
  have e1 : ((p + d2 : Nat) : Int) = (p : Int) + (d2 : Int) := by omega
  have e2 : ((co + 1 : Nat) : Int) = (co : Int) + 1 := by omega
  have e3 : ((li + 1 : Nat) : Int) = (li : Int) + 1 := by omega
  rw [e1, e2] at HE
  clear hb3 e1 e2 e3
  go_wp2
  have h := HE.out
  have h3 := HDS.out
  exact ⟨h.1, Nat.lt_of_le_of_lt (Nat.le_of_eq (congrArg (fun q => s.size - q) h.2)) (by show s.size - (p + d2) < s.size - p; omega)⟩
end Go.Proofs.YtpfmojeigjmlfaaGreatDoor
namespace Go.Proofs.YtpfmojeigjmlfaaGreatDoor
open Go.RowKit
def FinQ (R : Except (Int × Option Nat) F) (Z : Except Err (F × St)) (X : Except Err St) : Prop := (∃ x : Err, X = .error x ∧ R = .error (x.1, some x.2)) ∨ ∃ f ns, X = .ok ⟨[], ns⟩ ∧ Z = .ok (f, ⟨[], ns⟩) ∧ R = if 4000 < (txtP [32] f).length then .error (6, none) else .ok f
def CqF (g tb : Nat) (nb : Option Nat) (E : Nat) (R : Except (Int × Option Nat) F) (Z : Except Err (F × St)) (w5 wr : World) : Prop := ∃ nb' X, Exc (qB g nb) w5 wr ∧ RqO g tb nb' E wr X ∧ (nb' = nb ∨ ∀ k, nb' = some k → w5.heap.size ≤ k) ∧ FinQ R Z X
def tailB : Except Err (F × St) → Bool
 | .ok (_, ⟨_ :: _, _⟩) => true
 | _ => false
theorem start_tok {s : By} {tl : List Tok} {ta : Nat} {te : Int} (hs : s.length ≤ 4000) (h : tokensP s = (tl, ta, te)) : RqB s.length tl [] ∧ (te = 0 ∨ te = 3 ∧ tl = []) := by
 have h1 := toks_code (s.length + 1) s 0 0
 have h2 : tokensP s = toksP (s.length + 1) s 0 0 := if_neg (by omega)
 rw [← h2, h] at h1
 rcases h1 with ⟨h1, _⟩ | ⟨h1, h3⟩
 ·have h1 : te = 0 := h1
  obtain ⟨a1, a2, a3⟩ := tokens_size hs (by rw [h]; exact h1)
  rw [h] at a1 a2 a3
  exact ⟨⟨hs, by have a1 : tl.length ≤ 4000 := a1; omega, fun t ht => ⟨(a2 t ht).1, (a2 t ht).2, a3 t ht⟩, Nat.zero_le _⟩, .inl h1⟩
 ·have h1 : te = 3 := h1
  have h3 : tl = [] := h3
  subst h3
  exact ⟨⟨hs, Nat.zero_le _, fun t ht => (by cases ht), Nat.zero_le _⟩, .inr ⟨h1, rfl⟩⟩
theorem fin_err {c : Bool} {s : By} {ta : Nat} {tl : List Tok} (hs : s.length ≤ 4000) (h : tokensP s = (tl, ta, 3)) : parseR c s = .error (3, some ta) := by
 unfold parseR
 rw [if_neg (by omega), h]
 rfl
theorem fin_ok {c : Bool} {s : By} {ta : Nat} {tl : List Tok} {Y Z : Except Err (F × St)} (hs : s.length ≤ 4000) (h : tokensP s = (tl, ta, 0)) (hY : Y = msgC s.length 0 c ⟨tl, []⟩) (hz : HashR Y Z) :
 (∀ x, Z = .error x → parseR c s = .error (x.1, some x.2)) ∧ (∀ f t r ns, Z = .ok (f, ⟨t :: r, ns⟩) → parseR c s = .error (3, some t.a)) ∧ (∀ f ns, Z = .ok (f, ⟨[], ns⟩) → Y = Z ∧ parseR c s = if 4000 < (txtP [32] f).length then .error (6, none) else .ok f) := by
 have h1 := parseR_eq (c := c) hs (by rw [h])
 rw [h] at h1
 simp only at h1
 rw [← hY] at h1
 rcases hz with rfl | ⟨f4, t4, r4, n4, rfl, h4, rfl⟩
 ·refine ⟨fun x hx => by rw [h1, hx]; rfl, fun f t r ns hx => by rw [h1, hx]; rfl, fun f ns hx => ⟨rfl, by rw [h1, hx]; rfl⟩⟩
 ·refine ⟨fun x hx => (by cases hx), fun f t r ns hx => ?_, fun f ns hx => (by injection hx with hx; injection hx with _ hx; injection hx with hx _; cases hx)⟩
  injection hx with hx
  injection hx with _ hx
  injection hx with hx _
  injection hx with hx _
  rw [h1, ← hx]
  rfl
set_option maxHeartbeats 8000000 in
theorem rmparse_any (s : ByteArray) (c : Bool) (w : World) (hs : s.size ≤ 1048576) : Calls Tryz.prog 45 #[.string s, .bool c] w (RetZ w s.data.toList (parseR c s.data.toList)) := by
 obtain ⟨S, hS⟩ : ∃ S, S = s.data.toList := ⟨_, rfl⟩
 have hsz : S.length = s.size := by rw [hS]; exact size_list s
 obtain ⟨tl, ta, te, htk⟩ : ∃ tl ta te, tokensP S = (tl, ta, te) := ⟨_, _, _, rfl⟩
 have KT := fun W => rtokens2_any s W hs
 unfold RetTk2 at KT
 rw [← hS, htk] at KT
 simp only at KT
 replace KT := hid KT
 have KA := hid (fun (a : Nat) (W : World) => (show Calls Tryz.prog 80 #[.string s, .int .i64 a] W fun e w' => e = .returned (atV S a) ∧ Ext W w' from by rw [hS]; exact rat_any s a W hs))
 rw [← hS]
 have HS := hid hS
 have HZ := hid hsz
 have HTK := hid htk
 have HX0 := hid ((Ext.refl w).alloc (.cells #[.int .i64 0, .int .i64 0, .int .i64 0] 29))
 have HR0 := hid (AtC.new w #[.int .i64 0, .int .i64 0, .int .i64 0] : AtC 29 _ _ _)
 clear hS hsz htk
 go_enter Tryz.func45, Tryz.ntmps45
 go_wp2_with fail
 refine (KT.out _).mono ?_
 rintro e w1 ⟨A, cc, rfl, hsl, hx1, hlt, hcp⟩
 have HSL := hid hsl
 have HLT := hid hlt
 have HCP := hid hcp
 have HX1 := hid (HX0.out.trans hx1)
 have HR1 := hid (HR0.out.ext hx1)
 have HZ1 := hid (show w.heap.size + 1 ≤ w1.heap.size from by have h := Ext.size hx1; rw [World.size_alloc] at h; exact h)
 clear hsl hx1 hlt hcp KT
 by_cases h4 : 4000 < s.size
 ·have h6 : tl = [] ∧ ta = 4000 ∧ te = 6 := by
   have h := HTK.out
   unfold tokensP at h
   rw [if_pos (by have := HZ.out; omega)] at h
   injection h with h1 h2
   injection h2 with h2 h3
   exact ⟨h1.symm, h2.symm, h3.symm⟩
  obtain ⟨rfl, rfl, rfl⟩ := h6
  have hY : parseR c S = .error (6, none) := by unfold parseR; rw [if_pos (by have := HZ.out; omega)]
  have HP := hid (show posE S (parseR c S) = .agg #[.int .i64 4000, .int .i64 0, .int .i64 0] ∧ errE (parseR c S) = 6 ∧ ∀ f, parseR c S ≠ .ok f from by
   rw [hY]
   refine ⟨?_, rfl, fun f e => by cases e⟩
   show (if 4000 < S.length then _ else _) = _
   rw [if_pos (by have := HZ.out; omega)])
  have q0 := HR1.out.cell 0 _ rfl
  have q1 := HR1.out.cell 1 _ rfl
  have q2 := HR1.out.cell 2 _ rfl
  have f0 := frz_of HR1.out 0
  have f1 := frz_of HR1.out 1
  have f2 := frz_of HR1.out 2
  clear hY h4
  go_wp2
  have hat := at_three2 (b2 := .int .i64 0) (at_three1 (b1 := .int .i64 0) (at_three0 (b0 := .int .i64 4000) (HR1.out)))
  have hxx : Ext w (((w1.setCell ⟨w.heap.size, 0, none⟩ (.int .i64 4000)).setCell ⟨w.heap.size, 1, none⟩ (.int .i64 0)).setCell ⟨w.heap.size, 2, none⟩ (.int .i64 0)) := ((HX1.out.setCell (p := ⟨w.heap.size, 0, none⟩) (Nat.le_refl _) _).setCell (p := ⟨w.heap.size, 1, none⟩) (Nat.le_refl _) _).setCell (p := ⟨w.heap.size, 2, none⟩) (Nat.le_refl _) _
  clear q0 q1 q2 f0 f1 f2
  refine bodyPost_ret (results_tct rfl _ _ w.heap.size 29 _ _ rfl hat Tryz.underlying29 rfl (by kernel_rfl)) rfl ?_
  refine ⟨hxx, none, 0, 0, ?_, fun f h => absurd h (HP.out.2.2 f), fun _ _ => rfl⟩
  rw [HP.out.1, HP.out.2.1]
  rfl
 have hs4 : S.length ≤ 4000 := by have := HZ.out; omega
 have HS4 := hid hs4
 obtain ⟨hbb, hte⟩ := start_tok hs4 HTK.out
 have b6 : (te == 6) = false := by rw [beq_eq_false_iff_ne]; rcases hte with h | ⟨h, _⟩ <;> omega
 obtain ⟨X0, hX0⟩ : ∃ X0 : Except Err St, X0 = if te = 0 then .ok ⟨tl, []⟩ else .error (3, ta) := ⟨_, rfl⟩
 obtain ⟨g, hg⟩ : ∃ g, g = w1.heap.size := ⟨_, rfl⟩
 obtain ⟨W4, hW4⟩ : ∃ W4, W4 = w1.alloc (.cells #[.slice A tl.length cc, .int .i64 s.size, .slice none 0 0, .int .i64 ta, .int .i64 te] 102) := ⟨_, rfl⟩
 have hx4 : Ext w1 W4 := by rw [hW4]; exact (Ext.refl w1).alloc _
 obtain ⟨tb, htb, hO4⟩ : ∃ tb, tb < w1.heap.size ∧ RqO g tb none S.length W4 X0 := by
  have hat : AtC 102 W4 g #[.slice A tl.length cc, .int .i64 S.length, .slice none 0 0, .int .i64 ta, .int .i64 te] := by rw [hW4, hg, HZ.out]; exact AtC.new w1 _
  obtain ⟨tb, htb, hA⟩ : ∃ tb, tb < w1.heap.size ∧ (0 < tl.length → tl.length ≤ cc ∧ ∃ b o, A = some ⟨b, o, none⟩ ∧ b = tb ∧ b ≠ g ∧ (none : Option Nat) ≠ some b) := by
   by_cases h0 : 0 < tl.length
   ·obtain ⟨t, r, rfl⟩ : ∃ t r, tl = t :: r := by
     rcases tl with _ | ⟨t, r⟩
     ·exact absurd h0 (by decide)
     ·exact ⟨t, r, rfl⟩
    obtain ⟨b, o, hA, hb, _⟩ := HSL.out.2 0 (.int .i64 t.k) rfl
    exact ⟨b, hb, fun _ => ⟨HCP.out, b, o, hA, rfl, by omega, by simp⟩⟩
   ·exact ⟨0, by have := HZ1.out; omega, fun h => absurd h h0⟩
  have hw : RqW g tb none S.length W4 tl [] ta te := ⟨A, cc, _, hat, HSL.out.ext hx4, hA, World.ownsRow_nil _ _ _ _, rfl, by simp⟩
  refine ⟨tb, htb, ?_⟩
  rw [hX0]
  rcases hte with h | ⟨h, h2⟩
  ·subst h
   rw [if_pos rfl]
   exact ⟨hbb, Nat.zero_le _, ta, hw⟩
  ·subst h
   rw [if_neg (by decide)]
   exact ⟨(show (3 : Int) ≠ 0 from by decide), tl, [], hbb, hw⟩
 have HO4 := hid hO4
 have HX4 := hid (HX1.out.trans hx4)
 have HR4 := hid (HR1.out.ext hx4)
 have HG := hid (show w.heap.size < g ∧ g < W4.heap.size ∧ tb < W4.heap.size from by
  have h1 := HZ1.out
  have h2 := hO4.lt
  have h3 := hx4.size
  omega)
 have KM := hid (show Calls Tryz.prog 78 #[.pointer (some ⟨g, 0, none⟩), .int .i64 1, .bool c] W4 (fun e w' => (∀ x, X0 = .error x → e = .returned (.slice none 0 0) ∧ W4 = w') ∧ RetMQ g tb none W4 S.length (X0.bind (msgC S.length 0 c)) e w') from by
  have hm := rmsg_any (d := 0) (c := c) hO4 (by have := HG.out; omega) (by decide)
  rcases X0 with x | st
  ·refine (rmsg_bad (d := 1) (c := c) hO4).mono fun e w' ⟨h1, h2⟩ => ⟨fun _ _ => ⟨h1, h2⟩, ?_⟩
   subst h1 h2
   exact ⟨.error x, none, .inl rfl, ⟨none, 0, 0, rfl, fun f st h => (by cases h)⟩, Exc.refl _ _, hO4, .inl rfl⟩
  ·exact hm.mono fun e w' h => ⟨fun x hx => (by cases hx), h⟩)
 obtain ⟨R, hR⟩ : ∃ R, R = parseR c S := ⟨_, rfl⟩
 have HFIN := hid (show ∀ Z, HashR (X0.bind (msgC S.length 0 c)) Z → (∀ x, X0 = .error x → Z = .error x) → (∀ x, Z = .error x → R = .error (x.1, some x.2)) ∧ (∀ f t r ns, Z = .ok (f, ⟨t :: r, ns⟩) → R = .error (3, some t.a)) ∧ (∀ f ns, Z = .ok (f, ⟨[], ns⟩) → (formB 0 c false f = true ∧ wt f ≤ 40000000) ∧ R = if 4000 < (txtP [32] f).length then .error (6, none) else .ok f) from fun Z hz hzx => by
  rw [hR]
  rcases hte with h | ⟨h, h2⟩
  ·subst h
   rw [hX0, if_pos rfl] at hz
   obtain ⟨a1, a2, a3⟩ := fin_ok (c := c) hs4 HTK.out rfl hz
   refine ⟨a1, a2, fun f ns hf => ?_⟩
   obtain ⟨b1, b2⟩ := a3 f ns hf
   rw [hf] at b1
   refine ⟨⟨(msgC_form (tokensP_ok hs4 (by rw [HTK.out])) (ns := []) (by simp) (by rw [HTK.out]; exact b1)).1, ?_⟩, b2⟩
   have h1 := msgC_wt b1
   have h2 := wtT_le tl (fun t ht => (hbb.tok t ht).1)
   have h3 := hbb.len
   simp only at h1
   omega
  ·subst h
   rw [hX0, if_neg (by decide)] at hz
   have hzz : Z = .error (3, ta) := hzx (3, ta) (by rw [hX0, if_neg (by decide)])
   rw [hzz, fin_err hs4 HTK.out]
   exact ⟨fun x hx => by injection hx with hx; rw [← hx], fun f t r ns hx => (by cases hx), fun f ns hx => (by cases hx)⟩)
 have HRR := hid hR
 clear hbb hte hX0 hx4 hO4 htb h4 hs4 hR
 go_upto_region 5 with (fail)
 rw [← hg, ← hW4]
 clear hW4 hg
 go_wp2_with fail
 refine KM.out.mono ?_
 rintro e w5 ⟨hbad, Z, nb5, hz, ⟨A5, n5, c5, rfl, hf5⟩, e5, o5, n5'⟩
 obtain ⟨a1, a2, a3⟩ := HFIN.out Z hz (fun x hx => by
  obtain ⟨_, hw⟩ := hbad x hx
  subst hw
  have h1 := HO4.out.cell4
  have h2 := o5.cell4
  rw [h1, hx] at h2
  rcases Z with y | y
  ·rcases hz with h | ⟨_, _, _, _, h, _⟩
   ·rw [h, hx]; rfl
   ·cases h
  ·have h3 : (some (Value.int .i64 x.1)) = some (Value.int .i64 0) := h2
   injection h3 with h3
   injection h3 with _ h3
   have h4 := HO4.out
   rw [hx] at h4
   exact absurd h3 h4.ne)
 have HA1 := hid a1
 have HA2 := hid a2
 have HA3 := hid a3
 have HE5 := hid e5
 have HN5 := hid n5'
 have HO5 := hid o5
 have HF5 := hid hf5
 clear hbad hz hf5 e5 o5 n5' a1 a2 a3 KM HFIN
 have c40 := HO5.out.cell4
 go_upto_region 6 with (fail)
 obtain ⟨bq, hbq⟩ : ∃ bq : Bool, bq = tailB Z := ⟨_, rfl⟩
 have HBQ := hid hbq
 clear hbq
 go_cut [47] (BWr bq w5)
 case first =>
  rcases Z with x | ⟨f, ⟨left, ns⟩⟩
  ·have b1 : (x.1 == 0) = false := by rw [beq_eq_false_iff_ne]; exact HO5.out.ne
   replace c40 : w5.cell? ⟨g, 4, none⟩ = some (.int .i64 x.1) := c40
   have HB := hid (show bq = false from HBQ.out)
   clear HBQ
   go_wp2
   go_meet
   exact ⟨by rw [HB.out], Ext.refl _⟩
  ·replace c40 : w5.cell? ⟨g, 4, none⟩ = some (.int .i64 0) := c40
   obtain ⟨_, _, a9, A9, c9, nv9, h9, _⟩ := HO5.out
   have c0 := h9.cell 0 _ rfl
   rcases left with _ | ⟨t, r⟩
   ·replace c0 : w5.cell? ⟨g, 0, none⟩ = some (.slice A9 0 c9) := c0
    have HB := hid (show bq = false from HBQ.out)
    clear HBQ h9
    go_wp2
    go_meet
    exact ⟨by rw [HB.out], Ext.refl _⟩
   ·have hl : (0 : Int) < ((t :: r).length : Int) := by simp only [List.length_cons]; omega
    replace c0 : w5.cell? ⟨g, 0, none⟩ = some (.slice A9 (t :: r).length c9) := c0
    have HB := hid (show bq = true from HBQ.out)
    have hl2 : 0 < (t :: r).length := Nat.succ_pos _
    generalize (t :: r).length = ln at c0 hl hl2
    clear HBQ h9
    go_wp2
    go_meet
    exact ⟨by rw [HB.out], Ext.refl _⟩
 case rest =>
 obtain ⟨rfl, hxc⟩ := hcut
 obtain ⟨w6, hw6⟩ : ∃ w6 : World, w6 = wc := ⟨_, rfl⟩
 rw [← hw6] at hxc
 have HX6 := hid hxc
 clear hxc c40
 go_upto_if 47 with (fail)
 rw [← hw6]
 clear hw6
 go_cut [] (CqF g tb nb5 S.length R Z w5)
 case first =>
  rcases Z with x | ⟨f, ⟨_ | ⟨t, r⟩, ns⟩⟩
  ·obtain rfl : bq = false := HBQ.out
   clear HBQ
   go_wp2_with fail
   go_meet
   exact ⟨nb5, .error x, Exc.of_ext HX6.out, HO5.out.ext HX6.out, .inl rfl, .inl ⟨x, rfl, HA1.out x rfl⟩⟩
  ·obtain rfl : bq = false := HBQ.out
   clear HBQ
   go_wp2_with fail
   go_meet
   exact ⟨nb5, .ok ⟨[], ns⟩, Exc.of_ext HX6.out, HO5.out.ext HX6.out, .inl rfl, .inr ⟨f, ns, rfl, rfl, (HA3.out f ns rfl).2⟩⟩
  ·obtain rfl : bq = true := HBQ.out
   have KF := hid (rfail_any (X := .ok ⟨t :: r, ns⟩) 3 (by decide) (HO5.out.ext HX6.out))
   clear HBQ
   go_wp2_with fail
   refine KF.out.mono ?_
   rintro e w7 ⟨rfl, hs7⟩
   obtain ⟨nb7, e7, o7, n7⟩ := (RqS.back HX6.out hs7).parts
   have HQ := hid (show CqF g tb nb5 S.length R (.ok (f, ⟨t :: r, ns⟩)) w5 w7 from ⟨nb7, _, e7, o7, n7, .inl ⟨(3, t.a), rfl, HA2.out f t r ns rfl⟩⟩)
   clear hs7 e7 o7 n7
   go_wp2
   go_meet
   exact HQ.out
 case rest =>
 obtain ⟨nb7, X7, e7, o7, n7, hfin⟩ := hcut
 obtain ⟨w7, hw7⟩ : ∃ w7 : World, w7 = wc := ⟨_, rfl⟩
 rw [← hw7] at e7 o7
 have HE7 := hid e7
 have HO7 := hid o7
 have HS7 := hid (show W4.heap.size ≤ w5.heap.size ∧ w5.heap.size ≤ w7.heap.size from ⟨HE5.out.size, e7.size⟩)
 have HEX := hid (show Exc (fun k => w.heap.size < k) w w7 from ((Exc.of_ext HX4.out).trans (excMono HE5.out fun k h => by
  have := HG.out
  rcases h with h | h
  ·omega
  ·cases h)).trans (excMono e7 fun k h => by
  have := HG.out
  rcases h with h | h
  ·omega
  ·rcases HN5.out with hn | hn
   ·rw [hn] at h; cases h
   ·have := hn k h.symm; omega))
 have HX7 := hid (HEX.out.ext fun k hk => Nat.le_of_lt hk)
 have HR7 := hid (show AtC 29 w7 w.heap.size #[.int .i64 0, .int .i64 0, .int .i64 0] from (HR4.out.exc HE5.out (fun h => by
  have := HG.out
  rcases h with h | h
  ·omega
  ·cases h)).exc e7 (fun h => by
  have := HG.out
  rcases h with h | h
  ·omega
  ·rcases HN5.out with hn | hn
   ·rw [hn] at h; cases h
   ·have := hn _ h.symm; omega))
 have hnn : ∀ k, nb5 = some k → W4.heap.size ≤ k := fun k hk => by
  rcases HN5.out with hn | hn
  ·rw [hn] at hk; cases hk
  ·exact hn k hk
 have HNN := hid hnn
 clear e7 o7 n7 hnn HX6 HA1 HA2
 go_upto_region 8 with (fail)
 rw [← hw7]
 clear hw7
 have c40 := HO7.out.cell4
 rcases hfin with ⟨x, hX, hRx⟩ | ⟨f, ns, hX, hZ, hRx⟩
 ·subst hX
  have c4 : w7.cell? ⟨g, 4, none⟩ = some (.int .i64 x.1) := c40
  have b4 : (x.1 == 0) = false := by rw [beq_eq_false_iff_ne]; exact HO7.out.ne
  have b4n : (x.1 != 0) = true := by rw [bne, b4]; rfl
  have c3 : w7.cell? ⟨g, 3, none⟩ = some (.int .i64 x.2) := by
   obtain ⟨_, _, _, _, A9, c9, nv9, h9, _⟩ := HO7.out
   exact h9.cell 3 _ rfl
  have HRX := hid hRx
  obtain ⟨e9, he9⟩ := atV_pl S x.2
  obtain ⟨pp, pl, pc, hpl⟩ := pl_three S x.2
  have KA2 := KA.out x.2
  rw [he9, hpl] at KA2
  have KA3 := hid KA2
  have HP := hid (show posE S R = .agg #[.int .i64 pp, .int .i64 pl, .int .i64 pc] ∧ errE R = x.1 ∧ ∀ f, R ≠ .ok f from by
   rw [hRx]
   exact ⟨hpl, rfl, fun f e => by cases e⟩)
  have HC4 := hid (fun W (hx : Ext w7 W) => (HO7.out.ext hx).cell4)
  clear he9 hpl KA2 KA hRx c40
  go_wp2_with fail
  refine (KA3.out _).mono ?_
  rintro e wa ⟨rfl, hxa⟩
  have HXA := hid (HX7.out.trans (hxa.trans ((Ext.refl wa).alloc (.cells #[.int .i64 pp, .int .i64 pl, .int .i64 pc] 29))))
  have HRA := hid ((HR7.out.ext hxa).ext ((Ext.refl wa).alloc (.cells #[.int .i64 pp, .int .i64 pl, .int .i64 pc] 29)))
  have HNA := hid (AtC.new wa #[.int .i64 pp, .int .i64 pl, .int .i64 pc] : AtC 29 _ _ _)
  have HNZ := hid (show w.heap.size ≠ wa.heap.size from by have h1 := (HR7.out.ext hxa).lt; omega)
  have k4 : (wa.alloc (.cells #[.int .i64 pp, .int .i64 pl, .int .i64 pc] 29)).cell? ⟨g, 4, none⟩ = some (.int .i64 x.1) := HC4.out _ (hxa.trans ((Ext.refl wa).alloc (.cells #[.int .i64 pp, .int .i64 pl, .int .i64 pc] 29)))
  have HGN := hid (show g ≠ w.heap.size from by have := HG.out; omega)
  clear hxa c4 c3
  go_upto_region 10 with (fail)
  generalize wa.alloc (.cells #[.int .i64 pp, .int .i64 pl, .int .i64 pc] 29) = wz at *
  have q0 := HRA.out.cell 0 _ rfl
  have q1 := HRA.out.cell 1 _ rfl
  have q2 := HRA.out.cell 2 _ rfl
  have f0 := frz_of HRA.out 0
  have f1 := frz_of HRA.out 1
  have f2 := frz_of HRA.out 2
  have z0 := HNA.out.cell 0 _ rfl
  have z1 := HNA.out.cell 1 _ rfl
  have z2 := HNA.out.cell 2 _ rfl
  go_region_law (fail)
  all_goals go_wp2
  all_goals clear z0 z1 z2
  all_goals
   have hat := at_three2 (b2 := .int .i64 pc) (at_three1 (b1 := .int .i64 pl) (at_three0 (b0 := .int .i64 pp) (HRA.out)))
   have hxx : Ext w (((wz.setCell ⟨w.heap.size, 0, none⟩ (.int .i64 pp)).setCell ⟨w.heap.size, 1, none⟩ (.int .i64 pl)).setCell ⟨w.heap.size, 2, none⟩ (.int .i64 pc)) := ((HXA.out.setCell (p := ⟨w.heap.size, 0, none⟩) (Nat.le_refl _) _).setCell (p := ⟨w.heap.size, 1, none⟩) (Nat.le_refl _) _).setCell (p := ⟨w.heap.size, 2, none⟩) (Nat.le_refl _) _
   replace hat := hat.ext ((Ext.refl _).drew)
   replace hxx := hxx.drew
   clear q0 q1 q2 f0 f1 f2
   refine bodyPost_ret (results_tct rfl _ _ w.heap.size 29 _ _ rfl hat Tryz.underlying29 rfl (by kernel_rfl)) rfl ?_
   rw [← HRR.out]
   refine ⟨hxx, none, 0, 0, ?_, fun f h => absurd h (HP.out.2.2 f), fun _ _ => rfl⟩
   rw [HP.out.1, HP.out.2.1]
   rfl
 ·subst hX
  have c4 : w7.cell? ⟨g, 4, none⟩ = some (.int .i64 0) := c40
  obtain ⟨⟨hform, hwt⟩, _⟩ := HA3.out f ns hZ
  have HF7 := hid (show FwS w7 (fun k => w.heap.size < k) f (.slice A5 n5 c5) from (HF5.out f _ hZ).1.exc HE7.out (fun k hk hq => by
   have h1 := HG.out
   rcases hq with h | h
   ·have := hk.1; omega
   ·exact hk.2 h) (fun k hk => by have := HG.out; have := hk.1; omega))
  have HN := hid (HF5.out f _ hZ).2
  obtain ⟨TB, hTB⟩ : ∃ TB : ByteArray, TB = ⟨(txtP [32] f).toArray⟩ := ⟨_, rfl⟩
  have KL := hid (show Calls Tryz.prog 13 #[.slice A5 n5 c5, .string ⟨#[32]⟩] w7 (fun e w' => e = .returned (.string TB) ∧ Ext w7 w') from by rw [hTB]; exact rtxt_any [32] (by decide) HF7.out ((form_can f).1 _ _ _ hform) hwt)
  have HPR2 := hid (show R = if 4000 < TB.size then .error (6, none) else .ok f from by rw [hRx, hTB]; rfl)
  clear hform hwt hTB hRx c40 hZ
  by_cases hl : 4000 < TB.size
  ·have hlI : (4000 : Int) < (TB.size : Int) := by omega
   have HP := hid (show posE S R = .agg #[.int .i64 0, .int .i64 0, .int .i64 0] ∧ errE R = 6 ∧ ∀ f, R ≠ .ok f from by
    rw [HPR2.out, if_pos hl]
    refine ⟨?_, rfl, fun f e => by cases e⟩
    show (if 4000 < S.length then _ else _) = _
    rw [if_neg (by have := HS4.out; omega)])
   clear hl
   go_upto_region 12 with (go_at_call 13; refine KL.out.mono ?_; rintro e w8 ⟨rfl, hx8⟩)
   have HX8 := hid (HX7.out.trans hx8)
   have HR8 := hid (HR7.out.ext hx8)
   have q0 := HR8.out.cell 0 _ rfl
   have q1 := HR8.out.cell 1 _ rfl
   have q2 := HR8.out.cell 2 _ rfl
   have f0 := frz_of HR8.out 0
   have f1 := frz_of HR8.out 1
   have f2 := frz_of HR8.out 2
   clear hx8 c4
   go_wp2
   have hat := at_three2 (b2 := .int .i64 0) (at_three1 (b1 := .int .i64 0) (at_three0 (b0 := .int .i64 0) (HR8.out)))
   have hxx : Ext w (((w8.setCell ⟨w.heap.size, 0, none⟩ (.int .i64 0)).setCell ⟨w.heap.size, 1, none⟩ (.int .i64 0)).setCell ⟨w.heap.size, 2, none⟩ (.int .i64 0)) := ((HX8.out.setCell (p := ⟨w.heap.size, 0, none⟩) (Nat.le_refl _) _).setCell (p := ⟨w.heap.size, 1, none⟩) (Nat.le_refl _) _).setCell (p := ⟨w.heap.size, 2, none⟩) (Nat.le_refl _) _
   clear q0 q1 q2 f0 f1 f2
   refine bodyPost_ret (results_tct rfl _ _ w.heap.size 29 _ _ rfl hat Tryz.underlying29 rfl (by kernel_rfl)) rfl ?_
   rw [← HRR.out]
   refine ⟨hxx, none, 0, 0, ?_, fun f h => absurd h (HP.out.2.2 f), fun _ _ => rfl⟩
   rw [HP.out.1, HP.out.2.1]
   rfl
  ·have hlI : ¬ (4000 : Int) < (TB.size : Int) := by omega
   have HY2 := hid (show R = .ok f from by rw [HPR2.out, if_neg hl])
   clear hl
   go_upto_region 13 with (go_at_call 13; refine KL.out.mono ?_; rintro e w8 ⟨rfl, hx8⟩)
   have HX8 := hid (HX7.out.trans hx8)
   have HR8 := hid (HR7.out.ext hx8)
   have HF8 := hid (HF7.out.ext hx8)
   have q0 := HR8.out.cell 0 _ rfl
   have q1 := HR8.out.cell 1 _ rfl
   have q2 := HR8.out.cell 2 _ rfl
   have f0 := frz_of HR8.out 0
   have f1 := frz_of HR8.out 1
   have f2 := frz_of HR8.out 2
   clear hx8 c4
   go_wp2
   have hat := at_three2 (b2 := .int .i64 0) (at_three1 (b1 := .int .i64 0) (at_three0 (b0 := .int .i64 0) (HR8.out)))
   have hxx : Ext w (((w8.setCell ⟨w.heap.size, 0, none⟩ (.int .i64 0)).setCell ⟨w.heap.size, 1, none⟩ (.int .i64 0)).setCell ⟨w.heap.size, 2, none⟩ (.int .i64 0)) := ((HX8.out.setCell (p := ⟨w.heap.size, 0, none⟩) (Nat.le_refl _) _).setCell (p := ⟨w.heap.size, 1, none⟩) (Nat.le_refl _) _).setCell (p := ⟨w.heap.size, 2, none⟩) (Nat.le_refl _) _
   clear q0 q1 q2 f0 f1 f2
   refine bodyPost_ret (results_tct rfl _ _ w.heap.size 29 _ _ rfl hat Tryz.underlying29 rfl (by kernel_rfl)) rfl ?_
   have hFF := HF8.out.exc (((exc_q 0 (.int .i64 0)).trans (exc_q 1 (.int .i64 0))).trans (exc_q 2 (.int .i64 0)) : Exc (fun k => k = w.heap.size) w8 _) (fun k hk e => by omega) (ok' := fun k => w.heap.size ≤ k) (fun k hk => Nat.le_of_lt hk)
   rw [← HRR.out, HY2.out]
   refine ⟨hxx, A5, n5, c5, rfl, fun f' h => ?_, fun x h => by cases h⟩
   injection h with h
   rw [← h]
   exact ⟨hFF, HN.out⟩
end Go.Proofs.YtpfmojeigjmlfaaGreatDoor
namespace Go.Proofs.YtpfmojeigjmlfaaGreatDoor
open Go.RowKit
theorem rParse26_any (s : ByteArray) (w : World) (hs : s.size ≤ 1048576) : Calls Tryz.prog 16 #[.string s] w (RetZ w s.data.toList (parseR false s.data.toList)) := by
 obtain ⟨S, hS⟩ : ∃ S, S = s.data.toList := ⟨_, rfl⟩
 obtain ⟨Y, hY⟩ : ∃ Y, Y = parseR false s.data.toList := ⟨_, rfl⟩
 have K := rmparse_any s false (w.alloc (.cells #[.int .i64 0, .int .i64 0, .int .i64 0] 29)) hs
 have HX0 := hid ((Ext.refl w).alloc (.cells #[.int .i64 0, .int .i64 0, .int .i64 0] 29))
 have HR0 := hid (AtC.new w #[.int .i64 0, .int .i64 0, .int .i64 0] : AtC 29 _ _ _)
 unfold RetZ at K ⊢
 rw [← hY, ← hS] at K
 rw [← hY, ← hS]
 obtain ⟨pp, pl, pc, hp⟩ := posE_three S Y
 rw [hp] at K ⊢
 generalize errE Y = er at K ⊢
 have HK := hid K
 clear K hp hS hY
 go_enter Tryz.func16, Tryz.ntmps16
 go_wp2_with fail
 refine HK.out.mono ?_
 rintro e w2 ⟨hx, A, n, cc, rfl, hf, hn⟩
 have HX := hid (HX0.out.trans hx)
 have HR := hid (HR0.out.ext hx)
 have HF := hid hf
 have HN := hid hn
 have HZ := hid (World.size_alloc w (.cells #[.int .i64 0, .int .i64 0, .int .i64 0] 29))
 have q0 := HR.out.cell 0 _ rfl
 have q1 := HR.out.cell 1 _ rfl
 have q2 := HR.out.cell 2 _ rfl
 have f0 := frz_of HR.out 0
 have f1 := frz_of HR.out 1
 have f2 := frz_of HR.out 2
 clear hx hf hn HK
 go_wp2
 have hat := at_three2 (b2 := .int .i64 pc) (at_three1 (b1 := .int .i64 pl) (at_three0 (b0 := .int .i64 pp) (HR.out)))
 have hxx : Ext w (((w2.setCell ⟨w.heap.size, 0, none⟩ (.int .i64 pp)).setCell ⟨w.heap.size, 1, none⟩ (.int .i64 pl)).setCell ⟨w.heap.size, 2, none⟩ (.int .i64 pc)) := ((HX.out.setCell (p := ⟨w.heap.size, 0, none⟩) (Nat.le_refl _) _).setCell (p := ⟨w.heap.size, 1, none⟩) (Nat.le_refl _) _).setCell (p := ⟨w.heap.size, 2, none⟩) (Nat.le_refl _) _
 clear q0 q1 q2 f0 f1 f2
 refine bodyPost_ret (results_tct rfl _ _ w.heap.size 29 _ _ rfl hat Tryz.underlying29 rfl (by kernel_rfl)) rfl ?_
 have hs3 : Exc (fun j => j = w.heap.size) w2 _ := ((Exc.setCell (S := fun j => j = w.heap.size) (w := w2) (p := ⟨w.heap.size, 0, none⟩) rfl (.int .i64 pp)).trans (Exc.setCell (S := fun j => j = w.heap.size) (p := ⟨w.heap.size, 1, none⟩) rfl (.int .i64 pl))).trans (Exc.setCell (S := fun j => j = w.heap.size) (p := ⟨w.heap.size, 2, none⟩) rfl (.int .i64 pc))
 refine ⟨hxx, A, n, cc, rfl, fun f h => ?_, HN.out⟩
 have hz := HZ.out
 exact ⟨(HF.out f h).1.exc hs3 (fun j hj e => by omega) (fun j hj => by omega), (HF.out f h).2⟩
theorem rFragment26_any (s : ByteArray) (w : World) (hs : s.size ≤ 1048576) : Calls Tryz.prog 18 #[.string s] w (RetZ w s.data.toList (parseR true s.data.toList)) := by
 obtain ⟨S, hS⟩ : ∃ S, S = s.data.toList := ⟨_, rfl⟩
 obtain ⟨Y, hY⟩ : ∃ Y, Y = parseR true s.data.toList := ⟨_, rfl⟩
 have K := rmparse_any s true (w.alloc (.cells #[.int .i64 0, .int .i64 0, .int .i64 0] 29)) hs
 have HX0 := hid ((Ext.refl w).alloc (.cells #[.int .i64 0, .int .i64 0, .int .i64 0] 29))
 have HR0 := hid (AtC.new w #[.int .i64 0, .int .i64 0, .int .i64 0] : AtC 29 _ _ _)
 unfold RetZ at K ⊢
 rw [← hY, ← hS] at K
 rw [← hY, ← hS]
 obtain ⟨pp, pl, pc, hp⟩ := posE_three S Y
 rw [hp] at K ⊢
 generalize errE Y = er at K ⊢
 have HK := hid K
 clear K hp hS hY
 go_enter Tryz.func18, Tryz.ntmps18
 go_wp2_with fail
 refine HK.out.mono ?_
 rintro e w2 ⟨hx, A, n, cc, rfl, hf, hn⟩
 have HX := hid (HX0.out.trans hx)
 have HR := hid (HR0.out.ext hx)
 have HF := hid hf
 have HN := hid hn
 have HZ := hid (World.size_alloc w (.cells #[.int .i64 0, .int .i64 0, .int .i64 0] 29))
 have q0 := HR.out.cell 0 _ rfl
 have q1 := HR.out.cell 1 _ rfl
 have q2 := HR.out.cell 2 _ rfl
 have f0 := frz_of HR.out 0
 have f1 := frz_of HR.out 1
 have f2 := frz_of HR.out 2
 clear hx hf hn HK
 go_wp2
 have hat := at_three2 (b2 := .int .i64 pc) (at_three1 (b1 := .int .i64 pl) (at_three0 (b0 := .int .i64 pp) (HR.out)))
 have hxx : Ext w (((w2.setCell ⟨w.heap.size, 0, none⟩ (.int .i64 pp)).setCell ⟨w.heap.size, 1, none⟩ (.int .i64 pl)).setCell ⟨w.heap.size, 2, none⟩ (.int .i64 pc)) := ((HX.out.setCell (p := ⟨w.heap.size, 0, none⟩) (Nat.le_refl _) _).setCell (p := ⟨w.heap.size, 1, none⟩) (Nat.le_refl _) _).setCell (p := ⟨w.heap.size, 2, none⟩) (Nat.le_refl _) _
 clear q0 q1 q2 f0 f1 f2
 refine bodyPost_ret (results_tct rfl _ _ w.heap.size 29 _ _ rfl hat Tryz.underlying29 rfl (by kernel_rfl)) rfl ?_
 have hs3 : Exc (fun j => j = w.heap.size) w2 _ := ((Exc.setCell (S := fun j => j = w.heap.size) (w := w2) (p := ⟨w.heap.size, 0, none⟩) rfl (.int .i64 pp)).trans (Exc.setCell (S := fun j => j = w.heap.size) (p := ⟨w.heap.size, 1, none⟩) rfl (.int .i64 pl))).trans (Exc.setCell (S := fun j => j = w.heap.size) (p := ⟨w.heap.size, 2, none⟩) rfl (.int .i64 pc))
 refine ⟨hxx, A, n, cc, rfl, fun f h => ?_, HN.out⟩
 have hz := HZ.out
 exact ⟨(HF.out f h).1.exc hs3 (fun j hj e => by omega) (fun j hj => by omega), (HF.out f h).2⟩
end Go.Proofs.YtpfmojeigjmlfaaGreatDoor
