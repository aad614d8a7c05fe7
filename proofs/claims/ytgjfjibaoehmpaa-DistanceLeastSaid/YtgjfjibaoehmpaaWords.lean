import Derived.Test.YtgjfjibaoehmpaaProg
import Derived.Test.YtgjfjibaoehmpaaBase
import Derived.Test.YtgjfjibaoehmpaaPlain
namespace Go.Proofs.Ytgjfjibaoehmpaa
open Go.RowKit

theorem part_any (c : Int) (w : World) :
    Calls Try.prog 24 #[.int .u8 c] w fun e w' => e = .returned (.bool (isPart c)) ∧ w = w' := by
  go_enter Try.func24, Try.ntmps24
  go_wp2
  all_goals (go_ret; exact ⟨ret_bool (by unfold isPart; rw [Bool.eq_iff_iff]; simp; omega), rfl⟩)

theorem words_any (s : ByteArray) (w : World) (hs : s.size ≤ 1048576) :
    Calls Try.prog 11 #[.string s] w fun e w' => ∃ A n c, e = .returned (.slice A n c) ∧ Sl w' A n ((wordsOf s.data.toList).map strv) ∧ Ext w w' := by
  obtain ⟨i0, hi, hz0, hz1, hz2⟩ := info_parts (show (Try.prog.info? 9).map (fun i => (i.zero, i.size, i.bytes)) = some (some (.string ⟨#[]⟩), 1, 16) from by kernel_rfl)
  go_enter Try.func11, Try.ntmps11
  go_wp2
  go_loopw [3, 4] (fun v i wr => Hid (∃ (k n : Nat) (xs : List (List UInt8)), k ≤ s.size ∧ n ≤ k ∧ i = .int .i64 k ∧ wr.ownsRow w.heap.size 9 1 v n (xs.map strv) ∧ xs ++ wordsOf (s.data.toList.drop k) = wordsOf s.data.toList ∧ Ext w wr)) (fun _ i _ => s.size - (intOf i).toNat)
  case atStart => exact ⟨0, 0, [], Nat.zero_le _, Nat.le_refl _, rfl, World.ownsRow_nil _ _ _ _, rfl, Ext.refl _⟩
  case round =>
    obtain ⟨k, n, xs, hk, hnk, rfl, hown, hxs, hw⟩ := hrel
    have HX := Lib.hid hxs
    have HW := Lib.hid hw
    have HO := Lib.hid hown
    clear hxs hw hown
    by_cases hlt : k < s.size
    · go_upto_block 2 with (fail)
      go_cut [4, 5] (fun i j wc => Hid (∃ e : Nat, k < e ∧ e ≤ s.size ∧ i = .int .i64 k ∧ j = .int .i64 e ∧ wc = wr ∧ wordsOf (s.data.toList.drop k) = (s.data.toList.drop k).take (e - k) :: wordsOf (s.data.toList.drop e)))
      case first =>
        go_wp2_with (go_at_call 24; refine (part_any _ _).mono ?_; rintro e w' ⟨rfl, rfl⟩)
        · have h1 := wrd_sp s k hlt (by omega)
          exact ⟨⟨k + 1, n, xs, by omega, by omega, by go_num, HO.out, by rw [← h1]; exact HX.out, HW.out⟩, by simp [intOf]; omega⟩
        · have h1 := wrd_sp s k hlt (by omega)
          exact ⟨⟨k + 1, n, xs, by omega, by omega, by go_num, HO.out, by rw [← h1]; exact HX.out, HW.out⟩, by simp [intOf]; omega⟩
        · rename_i h10
          have h1 := wrd_sp s k hlt (by simp only [beq_iff_eq] at h10; omega)
          exact ⟨⟨k + 1, n, xs, by omega, by omega, by go_num, HO.out, by rw [← h1]; exact HX.out, HW.out⟩, by simp [intOf]; omega⟩
        · have hpk : isPart (s[k].toNat : Int) = true := by assumption
          simp only [hpk]
          have HPK := Lib.hid hpk
          go_loopw [5] (fun j wx => Hid (∃ e : Nat, k < e ∧ e ≤ s.size ∧ j = .int .i64 e ∧ wx = wr ∧ ∀ i, k ≤ i → i < e → (hs : i < s.size) → isPart (s[i].toNat : Int) = true)) (fun j _ => s.size - (intOf j).toNat)
          case atStart => exact ⟨k + 1, by omega, by omega, by go_num, rfl, fun i h1 h2 h3 => by have hik : i = k := (by omega); subst hik; exact HPK.out⟩
          case round =>
            obtain ⟨e, hke, hes, rfl, rfl, hall⟩ := hrel
            have HA := Lib.hid hall
            clear hall
            by_cases hlt2 : e < s.size
            · go_wp2_with (go_at_call 24; refine (part_any _ _).mono ?_; rintro e w' ⟨rfl, rfl⟩)
              · have hpe : isPart (s[e].toNat : Int) = true := by assumption
                refine ⟨⟨e + 1, by omega, by omega, by go_num, by first | rfl | trivial, fun i h1 h2 h3 => by
                  by_cases hi : i = e
                  · subst hi; exact hpe
                  · exact HA.out i h1 (by omega) h3⟩, by simp [intOf]; omega⟩
              · have hpe : isPart (s[e].toNat : Int) = false := by assumption
                go_meet
                exact ⟨e, hke, hes, rfl, rfl, rfl, wrd_run s k e hke hes HA.out (fun _ => hpe)⟩
            · go_wp2
              go_meet
              exact ⟨e, hke, hes, rfl, rfl, rfl, wrd_run s k e hke hes HA.out (fun h => absurd h hlt2)⟩
        · have h9 : (((s[k].toNat : Int) == 32) = false ∧ ((s[k].toNat : Int) == 9) = false) ∧ ((s[k].toNat : Int) == 10) = false := by assumption
          have hpk : isPart (s[k].toNat : Int) = false := by assumption
          go_meet
          exact ⟨k + 1, by omega, by omega, rfl, by go_num, rfl, wrd_one s k hlt h9 hpk⟩
      case rest =>
        obtain ⟨e, hke, hes, rfl, rfl, rfl, hwd⟩ := hcut
        have HD := Lib.hid hwd
        have hke' : k ≤ e := by omega
        clear hwd
        go_wp2_with (at_builtin; refine wpList_app _ rfl _ _ 23 rfl w.heap.size 9 i0 _ 16 Try.underlying23 hi hz0 hz1 hz2 rfl _ _ _ rfl (HO.out.alloc _) _ _ _ _ rfl (Sl.one _ _ _) (by simp [Value.oneCell']) (by unfold maxLen; omega) (by omega) (by have := Ext.size HW.out; simp; omega) ?_; intro v' w1 hown' hgrow; have HO' := Lib.hid hown'; have HG := Lib.hid hgrow; clear hown' hgrow)
        refine ⟨⟨e, n + 1, xs ++ [(s.data.toList.drop k).take (e - k)], hes, by omega, rfl, ?_, words_take HX.out HD.out, ?_⟩, by simp [intOf]; omega⟩
        · have h1 := HO'.out
          rw [strv_extract] at h1
          simpa using h1
        · exact ((HW.out.alloc _).grown HG.out (own_lt HO.out))
    · go_wp2
      go_ret
      obtain ⟨A, c, rfl, hsl, _⟩ := own_sl HO.out
      refine ⟨_, _, _, rfl, ?_, HW.out⟩
      have h1 : wordsOf s.data.toList = xs := by rw [← HX.out, List.drop_of_length_le (by rw [size_list]; omega)]; simp [wordsOf]
      rw [h1]
      exact hsl
end Go.Proofs.Ytgjfjibaoehmpaa
