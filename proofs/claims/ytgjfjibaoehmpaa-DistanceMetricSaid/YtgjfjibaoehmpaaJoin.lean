import Derived.Test.YtgjfjibaoehmpaaProg
import Derived.Test.YtgjfjibaoehmpaaBase
import Derived.Test.YtgjfjibaoehmpaaPlain
namespace Go.Proofs.Ytgjfjibaoehmpaa
open Go.RowKit

def joinOf : List (List UInt8) → List UInt8
  | [] => []
  | [x] => x
  | x :: y :: r => x ++ 32 :: joinOf (y :: r)

theorem joinOf_snoc (xs : List (List UInt8)) (x : List UInt8) (h : xs ≠ []) : joinOf (xs ++ [x]) = joinOf xs ++ 32 :: x := by
  induction xs with
  | nil => exact absurd rfl h
  | cons a r ih =>
    cases r with
    | nil => rfl
    | cons b r => 
      have := ih (by simp)
      show a ++ 32 :: joinOf (b :: (r ++ [x])) = _
      rw [show b :: (r ++ [x]) = (b :: r) ++ [x] from rfl, this]
      simp [joinOf]

theorem joinOf_len (xs : List (List UInt8)) : (joinOf xs).length ≤ (xs.map fun x => x.length + 1).sum := by
  induction xs with
  | nil => simp [joinOf]
  | cons a r ih =>
    cases r with
    | nil => simp [joinOf]
    | cons b r => simp [joinOf] at ih ⊢; omega

theorem joinOf_take (xs : List (List UInt8)) (k : Nat) : (joinOf (xs.take k)).length ≤ (xs.map fun x => x.length + 1).sum := by
  refine Nat.le_trans (joinOf_len _) ?_
  induction xs generalizing k with
  | nil => simp
  | cons a r ih => cases k with
    | zero => simp
    | succ k => have := ih k; simp at this ⊢; omega

def JoinInv (w : World) (xs : List (List UInt8)) (n : Nat) (s i : Value) (wr : World) : Prop :=
  ∃ k : Nat, k ≤ n ∧ i = .int .i64 k ∧ wr = w ∧ s = strv (joinOf (xs.take k))

theorem join_any (xs : List (List UInt8)) (A : Option Addr) (n c : Nat) (w : World) (hA : Sl w A n (xs.map strv)) (hn : n ≤ maxLen) (hb : (xs.map fun x => x.length + 1).sum ≤ 1048576) :
    Calls Try.prog 14 #[.slice A n c] w fun e w' => e = .returned (strv (joinOf xs)) ∧ w = w' := by
  unfold maxLen at hn
  have hla : xs.length = n := by have := hA.1; simpa using this
  have H1 := Lib.hid hA
  have L1 := Lib.hid hla
  clear hA hla
  have HJ := Lib.hid (fun k => joinOf_take xs k)
  go_enter Try.func14, Try.ntmps14
  go_wp2
  go_loopw [3, 4] (JoinInv w xs n) (fun _ i _ => n - (intOf i).toNat)
  case atStart => exact ⟨0, Nat.zero_le _, rfl, rfl, rfl⟩
  case round =>
    obtain ⟨k, hk, rfl, rfl, rfl⟩ := hrel
    by_cases hlt : k < n
    · obtain ⟨ad, x, rfl, hu, hc⟩ := H1.out.at_map hlt
      have HU := Lib.hid hu
      clear hu
      have hj1 := HJ.out k
      have hj2 := HJ.out (k + 1)
      have hlx : x.length ≤ (joinOf (xs.take (k + 1))).length := by
        rw [take_next HU.out]
        by_cases h0 : xs.take k = []
        · rw [h0]; simp [joinOf]
        · rw [joinOf_snoc _ _ h0]; simp; omega
      unfold strv at hc
      unfold strv
      by_cases hk0 : k = 0
      · have hkb : ¬ (0 : Int) < (k : Int) := by omega
        have HK := Lib.hid hk0
        clear hk0
        go_wp2
        refine ⟨⟨k + 1, by omega, by go_num, rfl, ?_⟩, by simp [intOf]; omega⟩
        rw [ByteArray.mk_append_mk, take_next HU.out, HK.out]
        simp [strv, joinOf]
      · have hkb : (0 : Int) < (k : Int) := by omega
        go_wp2
        refine ⟨⟨k + 1, by omega, by go_num, rfl, ?_⟩, by simp [intOf]; omega⟩
        have h0 : xs.take k ≠ [] := by
          intro h
          have h1 := congrArg List.length h
          have h2 := L1.out
          simp at h1
          rcases h1 with h1 | h1
          · omega
          · rw [h1] at h2; simp at h2; omega
        rw [take_next HU.out, joinOf_snoc _ _ h0]
        show Value.string (ByteArray.mk (joinOf (List.take k xs)).toArray ++ ByteArray.mk [32].toArray ++ ByteArray.mk x.toArray) = _
        rw [ByteArray.mk_append_mk, ByteArray.mk_append_mk]
        simp [strv]
    · unfold strv
      go_wp2
      go_ret
      refine ⟨?_, rfl⟩
      rw [List.take_of_length_le (by have := L1.out; omega)]
      rfl

end Go.Proofs.Ytgjfjibaoehmpaa
