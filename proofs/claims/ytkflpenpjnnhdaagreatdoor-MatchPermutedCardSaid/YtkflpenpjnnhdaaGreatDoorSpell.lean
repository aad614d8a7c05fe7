import Derived.Test.YtkflpenpjnnhdaaGreatDoorMQ6
import Derived.Test.YtkflpenpjnnhdaaGreatDoorMQ9
namespace Go.Proofs.YtkflpenpjnnhdaaGreatDoor
open Go.RowKit
set_option linter.unusedSimpArgs false
set_option linter.unusedVariables false

def SpInv (s : ByteArray) (b0 : Nat) (w : World) (b o i : Value) (wr : World) : Prop :=
  ∃ (k x : Nat) (p : List UInt8), k ≤ s.size ∧ x < 18446744073709551616 ∧ i = .int .i64 k ∧ b = .int .u64 (x : Int) ∧ o = strv p ∧ p.length = k ∧ p ++ spellL (s.data.toList.drop k) x = spellL s.data.toList b0 ∧ Ext w wr
theorem spInv_next {l : List UInt8} {k x : Nat} {p q : List UInt8} (hk : k < l.length) (h : p ++ spellL (l.drop k) x = q) : (p ++ [spellC l[k] x]) ++ spellL (l.drop (k + 1)) (x / 2) = q := by
  rw [← h, List.drop_eq_getElem_cons hk, spellL]
  simp
theorem sub_one (s : ByteArray) (k : Nat) (h : k < s.size) : s.extract k (k + 1) = ⟨#[s[k]]⟩ := by
  apply ByteArray.ext
  apply Array.toList_inj.1
  have hl : k < s.data.toList.length := h
  have e1 : (s.extract k (k + 1)).data.toList = (s.data.toList.drop k).take 1 := by simp [ByteArray.data_extract, Array.toList_extract, List.extract, Nat.add_sub_cancel_left]
  rw [e1, List.drop_eq_getElem_cons hl]
  simp
  rfl

set_option maxRecDepth 100000 in
set_option maxHeartbeats 2000000 in
theorem rspell_any (s : ByteArray) (b : Nat) (w : World) (hs : s.size ≤ 1048576) (hb : b < 18446744073709551616) :
    Calls Tryz.prog 14 #[.string s, .int .u64 (b : Int)] w fun e w' => e = .returned (strv (spellL s.data.toList b)) ∧ Ext w w' := by
  go_enter Tryz.func14, Tryz.ntmps14
  go_wp2
  go_loopw [1, 5, 6] (SpInv s b w) (fun _ _ i _ => s.size - (intOf i).toNat)
  case atStart => exact ⟨0, b, [], Nat.zero_le _, hb, rfl, rfl, rfl, rfl, rfl, Ext.refl _⟩
  case round =>
    obtain ⟨k, x, p, hk, hx, rfl, rfl, rfl, hp, hq, hw⟩ := hrel
    have HW := Lib.hid hw
    have HQ := Lib.hid hq
    clear hw hq
    by_cases hlt : k < s.size
    · have hsub := sub_one s k hlt
      have HN := Lib.hid (spInv_next (l := s.data.toList) hlt HQ.out)
      have hpl : p.length ≤ 1048576 := by omega
      unfold strv
      have hd2 : IntKind.u64.wrap ((x : Int).tdiv 2) = ((x / 2 : Nat) : Int) := by rw [IntWalk.u64_quo _ _ (by omega)]; omega
      have h7 : ∀ y : UInt8, (⟨p.toArray⟩ : ByteArray) ++ ⟨#[y]⟩ = ⟨(p ++ [y]).toArray⟩ := fun y => mk_app p ⟨#[y]⟩
      have fin : ∀ (y : UInt8) (W : World), y = spellC s[k] x → Ext wr W → SpInv s b w (.int .u64 ((x / 2 : Nat) : Int)) (.string ⟨(p ++ [y]).toArray⟩) (.int .i64 ((k : Int) + 1)) W :=
        fun y W hy hW => ⟨k + 1, x / 2, p ++ [y], by omega, by omega, by go_num, rfl, rfl, by simp [hp], by rw [hy]; exact HN.out, HW.out.trans hW⟩
      have FIN := Lib.hid fin
      clear fin
      by_cases hodd : x % 2 = 1
      · have ho : ((x : Int) % 2 == 1) = true := by simp; omega
        go_wp2_with fail
        refine (rupper_any ⟨#[s[k]]⟩ _ (by show (1 : Nat) ≤ _; omega)).mono ?_
        rintro e w1 ⟨rfl, hw1⟩
        have HW1 := Lib.hid hw1
        clear hw1
        have e3 : strv ((⟨#[s[k]]⟩ : ByteArray).data.toList.map upC) = .string ⟨#[upC s[k]]⟩ := rfl
        rw [e3]
        by_cases h45 : upC s[k] = 45
        · rw [h45]
          have HF := Lib.hid (FIN.out 95 w1 (by unfold spellC; rw [if_pos hodd, h45]; rfl) HW1.out)
          go_wp2
          rw [show (x : Int) / 2 = ((x / 2 : Nat) : Int) from by omega]
          exact ⟨HF.out, by simp [intOf]; omega⟩
        · have HF := Lib.hid (FIN.out (upC s[k]) w1 (by unfold spellC; rw [if_pos hodd, if_neg (by simpa using h45)]) HW1.out)
          have hne : (upC s[k] == 45) = false := by simpa using h45
          go_wp2
          rw [show (x : Int) / 2 = ((x / 2 : Nat) : Int) from by omega]
          exact ⟨HF.out, by simp [intOf]; omega⟩
      · have ho : ((x : Int) % 2 == 1) = false := by simp; omega
        go_wp2_with fail
        refine (rlower_any ⟨#[s[k]]⟩ _ (by show (1 : Nat) ≤ _; omega)).mono ?_
        rintro e w1 ⟨rfl, hw1⟩
        have HW1 := Lib.hid hw1
        clear hw1
        have e3 : strv ((⟨#[s[k]]⟩ : ByteArray).data.toList.map lowC) = .string ⟨#[lowC s[k]]⟩ := rfl
        rw [e3]
        have HF := Lib.hid (FIN.out (lowC s[k]) w1 (by unfold spellC; rw [if_neg hodd]) HW1.out)
        go_wp2
        rw [show (x : Int) / 2 = ((x / 2 : Nat) : Int) from by omega]
        exact ⟨HF.out, by simp [intOf]; omega⟩
    · unfold strv
      go_wp2
      go_ret
      refine ⟨?_, HW.out⟩
      have h0 := HQ.out
      rw [List.drop_eq_nil_of_le (by rw [size_list]; omega)] at h0
      simp only [spellL, List.append_nil] at h0
      rw [h0]
      rfl
end Go.Proofs.YtkflpenpjnnhdaaGreatDoor
