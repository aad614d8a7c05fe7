import Derived.Test.YtgjfjibaoehmpaaProg
import Derived.Test.YtgjfjibaoehmpaaBase
import Derived.Test.YtgjfjibaoehmpaaPlain
namespace Go.Proofs.Ytgjfjibaoehmpaa
open Go.RowKit

def kindOf (c : Int) : Int := if c = 32 ∨ c = 9 ∨ c = 10 then 0 else if isPart c then 1 else 2

theorem kind_any (c : Int) (w : World) :
    Calls Try.prog 25 #[.int .u8 c] w fun e w' => e = .returned (.int .i64 (kindOf c)) ∧ w = w' := by
  go_enter Try.func25, Try.ntmps25
  go_wp2
  all_goals (go_ret; exact ⟨ret_int (by unfold kindOf isPart; simp at *; repeat' split; all_goals (try simp at *); all_goals (try omega)), rfl⟩)

theorem kind_zero {c : Int} (h : kindOf c = 0) : c = 32 ∨ c = 9 ∨ c = 10 := by
  unfold kindOf at h
  split at h
  · assumption
  · split at h <;> omega
theorem kind_one {c : Int} (h : kindOf c = 1) : isPart c = true := by
  unfold kindOf at h
  split at h
  · omega
  · split at h
    · assumption
    · omega
theorem kind_notone {c : Int} (h : kindOf c ≠ 1) : isPart c = false := by
  unfold kindOf at h
  split at h
  · rename_i h1
    cases hp : isPart c with
    | false => rfl
    | true => unfold isPart at hp; simp at hp; omega
  · split at h
    · exact absurd rfl h
    · rename_i h2; simpa using h2
theorem kind_notzero {c : Int} (h : kindOf c ≠ 0) : ((c == 32) = false ∧ (c == 9) = false) ∧ (c == 10) = false := by
  unfold kindOf at h
  split at h
  · exact absurd rfl h
  · rename_i h1
    simp only [beq_eq_false_iff_ne]
    omega

def RWInv (s : ByteArray) (w : World) (v i : Value) (wr : World) : Prop :=
  ∃ (k n : Nat) (xs : List (List UInt8)), k ≤ s.size ∧ n ≤ k ∧ i = .int .i64 k ∧ wr.ownsRow w.heap.size 9 1 v n (xs.map strv) ∧ xs ++ wordsOf (s.data.toList.drop k) = wordsOf s.data.toList ∧ Ext w wr

def RWIn (s : ByteArray) (k : Nat) (c : Int) (wr : World) (j : Value) (wx : World) : Prop :=
  ∃ e : Nat, k < e ∧ e ≤ s.size ∧ j = .int .i64 e ∧ wx = wr ∧ (c ≠ 1 → e = k + 1) ∧ (c = 1 → ∀ i, k ≤ i → i < e → (hs : i < s.size) → isPart (s[i].toNat : Int) = true)

def RWCut (s : ByteArray) (k : Nat) (c : Int) (wr : World) (j : Value) (wx : World) : Prop :=
  ∃ e : Nat, k < e ∧ e ≤ s.size ∧ j = .int .i64 e ∧ wx = wr ∧ (c = 0 → wordsOf (s.data.toList.drop k) = wordsOf (s.data.toList.drop e)) ∧
    (c ≠ 0 → wordsOf (s.data.toList.drop k) = (s.data.toList.drop k).take (e - k) :: wordsOf (s.data.toList.drop e))

theorem cut_one {s : ByteArray} {k e : Nat} {c : Int} {wr : World} (hlt : k < s.size) (hc : kindOf (s[k].toNat : Int) = c) (h1 : c ≠ 1) (he : e = k + 1) : RWCut s k c wr (.int .i64 e) wr := by
  subst he
  refine ⟨k + 1, by omega, by omega, rfl, rfl, fun h0 => ?_, fun h0 => ?_⟩
  · subst h0; exact wrd_sp s k hlt (kind_zero hc)
  · exact wrd_one s k hlt (kind_notzero (by rw [hc]; exact h0)) (kind_notone (by rw [hc]; exact h1))
theorem cut_run {s : ByteArray} {k e : Nat} {wr : World} (hke : k < e) (he : e ≤ s.size) (hall : ∀ i, k ≤ i → i < e → (hs : i < s.size) → isPart (s[i].toNat : Int) = true)
    (hend : ∀ h : e < s.size, kindOf (s[e].toNat : Int) ≠ 1) : RWCut s k 1 wr (.int .i64 e) wr :=
  ⟨e, hke, he, rfl, rfl, fun h0 => by omega, fun _ => wrd_run s k e hke he hall (fun h => kind_notone (hend h))⟩

set_option maxHeartbeats 1000000 in
theorem refWords_any (s : ByteArray) (w : World) (hs : s.size ≤ 1048576) :
    Calls Try.prog 13 #[.string s] w fun e w' => ∃ A n c, e = .returned (.slice A n c) ∧ Sl w' A n ((wordsOf s.data.toList).map strv) ∧ Ext w w' := by
  obtain ⟨i0, hi, hz0, hz1, hz2⟩ := info_parts (show (Try.prog.info? 9).map (fun i => (i.zero, i.size, i.bytes)) = some (some (.string ⟨#[]⟩), 1, 16) from by kernel_rfl)
  go_enter Try.func13, Try.ntmps13
  go_wp2
  go_loopw [3, 4] (RWInv s w) (fun _ i _ => s.size - (intOf i).toNat)
  case atStart => exact ⟨0, 0, [], Nat.zero_le _, Nat.le_refl _, rfl, World.ownsRow_nil _ _ _ _, rfl, Ext.refl _⟩
  case round =>
    obtain ⟨k, n, xs, hk, hnk, rfl, hown, hxs, hw⟩ := hrel
    have HX := Lib.hid hxs
    have HW := Lib.hid hw
    have HO := Lib.hid hown
    clear hxs hw hown
    by_cases hlt : k < s.size
    · obtain ⟨c, hc⟩ : ∃ c, kindOf (s[k].toNat : Int) = c := ⟨_, rfl⟩
      have HC := Lib.hid hc
      go_upto_block 2 with (fail)
      go_cut [5] (RWCut s k c wr)
      case first =>
        go_wp2_with fail
        obtain ⟨wo, rfl⟩ : ∃ wo : World, wo = wr := ⟨_, rfl⟩
        go_loopw [5] (RWIn s k c wo) (fun j _ => s.size - (intOf j).toNat)
        case atStart => exact ⟨k + 1, by omega, by omega, by go_num, rfl, fun _ => rfl, fun h i h1 h2 h3 => by have hik : i = k := (by omega); subst hik; exact kind_one (by rw [HC.out]; exact h)⟩
        case round =>
          obtain ⟨e, hke, hes, rfl, rfl, hone, hrun⟩ := hrel
          have HN := Lib.hid hone
          have HA := Lib.hid hrun
          clear hone hrun
          by_cases hc1 : c = 1
          · subst hc1
            have HA1 := Lib.hid (HA.out rfl)
            by_cases hlt2 : e < s.size
            · by_cases hke1 : kindOf (s[e].toNat : Int) = 1
              · have HKE := Lib.hid hke1
                go_wp2_with (go_at_call 25; refine (kind_any _ _).mono ?_; rintro e w' ⟨rfl, rfl⟩)
                refine ⟨⟨e + 1, by omega, by omega, by go_num, rfl, fun h => absurd rfl h, fun _ i h1 h2 h3 => ?_⟩, by simp [intOf]; omega⟩
                by_cases hi : i = e
                · subst hi; exact kind_one HKE.out
                · exact HA1.out i h1 (by omega) h3
              · have hkb : (kindOf (s[e].toNat : Int) == 1) = false := by simpa using hke1
                have HKE := Lib.hid hke1
                clear hke1
                go_wp2_with (go_at_call 25; refine (kind_any _ _).mono ?_; rintro e w' ⟨rfl, rfl⟩)
                go_meet
                exact cut_run hke hes HA1.out (fun _ => HKE.out)
            · go_wp2_with (go_at_call 25; refine (kind_any _ _).mono ?_; rintro e w' ⟨rfl, rfl⟩)
              go_meet
              exact cut_run hke hes HA1.out (fun h => absurd h hlt2)
          · have hcb : (c == 1) = false := by simpa using hc1
            have HC1 := Lib.hid hc1
            clear hc1
            go_wp2_with (go_at_call 25; refine (kind_any _ _).mono ?_; rintro e w' ⟨rfl, rfl⟩)
            go_meet
            exact cut_one hlt HC.out HC1.out (HN.out HC1.out)
      case rest =>
        obtain ⟨e, hke, hes, rfl, rfl, hw0, hw1⟩ := hcut
        have HW0 := Lib.hid hw0
        have HW1 := Lib.hid hw1
        have hke' : k ≤ e := by omega
        clear hw0 hw1
        by_cases hc0 : c = 0
        · subst hc0
          have HW2 := Lib.hid (HW0.out rfl)
          go_wp2_with (go_at_call 25; refine (kind_any _ _).mono ?_; rintro e w' ⟨rfl, rfl⟩)
          exact ⟨⟨e, n, xs, hes, by omega, rfl, HO.out, by rw [← HW2.out]; exact HX.out, HW.out⟩, by simp [intOf]; omega⟩
        · have hcb : (c != 0) = true := by simpa using hc0
          have HC0 := Lib.hid hc0
          clear hc0
          go_wp2_with (first | (go_at_call 25; refine (kind_any _ _).mono ?_; rintro e w' ⟨rfl, rfl⟩) | (at_builtin; refine wpList_app _ rfl _ _ 23 rfl w.heap.size 9 i0 _ 16 Try.underlying23 hi hz0 hz1 hz2 rfl _ _ _ rfl (HO.out.alloc _) _ _ _ _ rfl (Sl.one _ _ _) (by simp [Value.oneCell']) (by unfold maxLen; omega) (by omega) (by have := Ext.size HW.out; simp; omega) ?_; intro v' w1 hown' hgrow; have HO' := Lib.hid hown'; have HG := Lib.hid hgrow; clear hown' hgrow))
          refine ⟨⟨e, n + 1, xs ++ [(s.data.toList.drop k).take (e - k)], hes, by omega, rfl, ?_, words_take HX.out (HW1.out HC0.out), ?_⟩, by simp [intOf]; omega⟩
          · have h1 := HO'.out
            rw [strv_extract] at h1
            simpa using h1
          · exact ((HW.out.alloc _).grown HG.out (own_lt HO.out))
    · go_wp2
      go_ret
      obtain ⟨A, c, rfl, hsl, _⟩ := own_sl HO.out
      refine ⟨_, _, _, rfl, ?_, HW.out⟩
      have h1 : wordsOf s.data.toList = xs := by rw [← HX.out, List.drop_of_length_le (by rw [size_list]; omega)]; simp [wordsOf]
      rw [h1]
      exact hsl

end Go.Proofs.Ytgjfjibaoehmpaa
