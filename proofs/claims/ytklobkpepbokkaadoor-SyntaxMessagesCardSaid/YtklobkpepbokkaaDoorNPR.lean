import Derived.Test.YtklobkpepbokkaaDoorNPA
import Derived.Test.YtklobkpepbokkaaDoorNPK
import Derived.Test.YtklobkpepbokkaaDoorExtW
namespace Go.Proofs.YtklobkpepbokkaaDoor
set_option linter.unusedSimpArgs false
set_option linter.unusedVariables false

/-! What lies within a message is a fragment. -/
theorem inner_nil {q : F} (h : Inner q .nil) : False := by cases h
theorem isNil_txt {f : F} (h : f.isNil = true) (d : Nat) (c : Bool) (n : Nat) : ∃ d' c', formB d' c' false f = true ∧ (txtP [32] f).length ≤ n := by
  rw [isNil_eq h]
  exact ⟨d, c, by rw [formB], by rw [txtP]; exact Nat.zero_le _⟩
theorem inner_form {q f : F} (h : Inner q f) : (∀ d c pt, formB d c pt f = true → ∃ d' c', formB d' c' false q = true ∧ (txtP [32] q).length ≤ (txtP [32] f).length) ∧ (∀ kind d c seen, casB kind d c seen f = true → ∃ d' c', formB d' c' false q = true ∧ (txtP [32] q).length ≤ (casT [32] f).length) := by
  induction h with
  | @elem k t n s cs ps r =>
    refine ⟨fun d c pt h => ?_, fun kind d c seen h => ?_⟩
    · rw [formB] at h
      simp only [Bool.and_eq_true] at h
      obtain ⟨⟨_, h1⟩, _⟩ := h
      split at h1
      · simp only [Bool.and_eq_true] at h1; exact isNil_txt h1.2 d c _
      split at h1
      · simp only [Bool.and_eq_true] at h1; exact isNil_txt h1.2 d c _
      split at h1
      · simp only [Bool.and_eq_true] at h1; exact isNil_txt h1.2 d c _
      split at h1
      · simp only [Bool.and_eq_true] at h1; exact isNil_txt h1.2 d c _
      split at h1
      · simp only [Bool.and_eq_true] at h1; exact isNil_txt h1.2 d c _
      split at h1
      · simp only [Bool.and_eq_true] at h1; exact isNil_txt h1.2 d c _
      split at h1
      · rename_i hk
        simp only [Bool.and_eq_true] at h1
        refine ⟨d + 1, c, h1.2, ?_⟩
        rw [txtP.eq_2]
        rw [if_neg (by omega), if_neg (by omega), if_pos hk]
        split
        · rename_i h0
          rw [nil_of_len h0, txtP]
          exact Nat.zero_le _
        · simp only [List.length_append]
          omega
      split at h1
      · simp only [Bool.and_eq_true] at h1; exact isNil_txt h1.1.1.1.2 d c _
      · cases h1
    · rw [casB] at h
      simp only [Bool.and_eq_true] at h
      refine ⟨d, c, h.1.2, ?_⟩
      rw [casT]
      simp only [List.length_append]
      omega
  | @case k t n s cs ps r q hi ih =>
    refine ⟨fun d c pt h => ?_, fun kind d c seen h => ?_⟩
    · rw [formB] at h
      simp only [Bool.and_eq_true] at h
      obtain ⟨⟨_, h1⟩, _⟩ := h
      have no : ∀ {x : Bool}, cs.isNil = true → x = true → False := fun h _ => by rw [isNil_eq h] at hi; exact inner_nil hi
      split at h1
      · simp only [Bool.and_eq_true] at h1; exact (no h1.1.2 h1.2).elim
      split at h1
      · simp only [Bool.and_eq_true] at h1; exact (no h1.1.2 h1.2).elim
      split at h1
      · simp only [Bool.and_eq_true] at h1; exact (no h1.1.2 h1.2).elim
      split at h1
      · simp only [Bool.and_eq_true] at h1; exact (no h1.1.2 h1.2).elim
      split at h1
      · simp only [Bool.and_eq_true] at h1; exact (no h1.1.2 h1.2).elim
      split at h1
      · simp only [Bool.and_eq_true] at h1; exact (no h1.1.2 h1.2).elim
      split at h1
      · simp only [Bool.and_eq_true] at h1; exact (no h1.1.2 h1.2).elim
      split at h1
      · rename_i hk
        simp only [Bool.and_eq_true] at h1
        obtain ⟨d', c', e1, e2⟩ := ih.2 _ _ _ _ h1.1.1.2
        refine ⟨d', c', e1, Nat.le_trans e2 ?_⟩
        rw [txtP.eq_2]
        rw [if_neg (by omega), if_neg (by omega), if_neg (by omega), if_neg (by omega), if_pos (by omega)]
        simp only [List.length_append]
        omega
      · cases h1
    · rw [casB] at h
      simp only [Bool.and_eq_true] at h
      rw [isNil_eq h.1.1.1.1.2] at hi
      exact (inner_nil hi).elim
  | @next k t n s cs ps r q hi ih =>
    refine ⟨fun d c pt h => ?_, fun kind d c seen h => ?_⟩
    · rw [formB] at h
      simp only [Bool.and_eq_true] at h
      obtain ⟨d', c', e1, e2⟩ := ih.1 _ _ _ h.2
      refine ⟨d', c', e1, Nat.le_trans e2 ?_⟩
      rw [txtP.eq_2, List.length_append]
      omega
    · rw [casB] at h
      simp only [Bool.and_eq_true] at h
      obtain ⟨d', c', e1, e2⟩ := ih.2 _ _ _ _ h.2
      refine ⟨d', c', e1, Nat.le_trans e2 ?_⟩
      rw [casT]
      simp only [List.length_append]
      omega
theorem inner_valid {c : Bool} {q f : F} (h : Inner q f) (hv : validF c f = true) : validF true q = true ∧ (countB q = false → validF false q = true) := by
  obtain ⟨h1, h2, h3⟩ := validF_iff.1 hv
  obtain ⟨d', c', e1, e2⟩ := (inner_form h).1 _ _ _ h1
  have hn : (namesF q []).length ≤ 20 := Nat.le_trans (names_sub (inner_uses h)) h2
  have ht : (txtP [32] q).length ≤ 4000 := Nat.le_trans e2 h3
  refine ⟨validF_iff.2 ⟨(formB_mono q).1 d' 0 c' true false (Nat.zero_le _) (fun _ => rfl) e1, hn, ht⟩, fun hc => validF_iff.2 ⟨?_, hn, ht⟩⟩
  exact (formB_mono q).1 d' 0 false false false (Nat.zero_le _) id ((formB_count q).1 d' c' false hc e1)
end Go.Proofs.YtklobkpepbokkaaDoor
namespace Go.Proofs.YtklobkpepbokkaaDoor
open Go.RowKit
set_option linter.unusedSimpArgs false
set_option linter.unusedVariables false

/-! The parts within a part. -/
theorem FwS.any {w : World} {ok : Nat → Prop} {f : F} {v : Value} (h : FwS w ok f v) : FwS w (fun _ => True) f v := h.exc (Exc.refl (fun _ => False) w) (fun _ _ h => h) (fun _ _ => trivial)
theorem inner_drop {q : F} : ∀ (f : F) (j : Nat), Inner q (fdrop f j) → Inner q f
  | f, 0, h => by rw [fdrop_zero] at h; exact h
  | .nil, j + 1, h => h
  | .cons _ _ _ _ _ _ r, j + 1, h => by
    rw [fdrop] at h
    exact .next (inner_drop r j h)
set_option maxHeartbeats 1000000 in
set_option maxRecDepth 100000 in
theorem inner_parts (k : Int) (t n s : ByteArray) (C : Option Addr) (cc : Nat) (vp : Option Addr) (np cp m : Nat) (w : World) : Calls Tryd.prog 17 #[.agg #[.int .i64 k, .string t, .string n, .string s, .slice C 0 cc, .slice vp np cp], .int .i64 m] w fun e w' => e = .returned (.slice vp np cp) ∧ Ext w w' := by
  go_enter Tryd.func17, Tryd.ntmps17
  go_wp2
  go_ret
  exact ⟨rfl, (Ext.refl w).alloc _⟩
set_option maxHeartbeats 1000000 in
set_option maxRecDepth 100000 in
theorem inner_case (k : Int) (t n s : ByteArray) (b o nc cc : Nat) (vp v2 : Option Addr) (np cp m n2 c2 : Nat) (w : World) (h0 : 0 < nc) (hn : nc ≤ 1000000000) (hm : m < 256)
    (hd : w.cell? ⟨b, o + (m % nc) * 2 + 1, none⟩ = some (.slice v2 n2 c2)) : Calls Tryd.prog 17 #[.agg #[.int .i64 k, .string t, .string n, .string s, .slice (some ⟨b, o, none⟩) nc cc, .slice vp np cp], .int .i64 m] w fun e w' => e = .returned (.slice v2 n2 c2) ∧ Ext w w' := by
  have h0I : (0 : Int) < (nc : Int) := by omega
  have hx : Ext w (w.alloc (.cells #[.int .i64 k, .string t, .string n, .string s, .slice (some ⟨b, o, none⟩) nc cc, .slice vp np cp] 43)) := (Ext.refl w).alloc _
  have hd2 := (Ext.cell hx (World.block_lt_of_cell? _ _ hd)).trans hd
  have hb := (AtC.new w #[.int .i64 k, .string t, .string n, .string s, .slice (some ⟨b, o, none⟩) nc cc, .slice vp np cp] : AtC 43 _ _ _).cell 4 _ rfl
  have hlt : m % nc < nc := Nat.mod_lt _ h0
  obtain ⟨j, hj⟩ : ∃ j, j = m % nc := ⟨_, rfl⟩
  have hmod : (m : Int) % (nc : Int) = (j : Int) := by rw [hj]; omega
  rw [← hj] at hd2 hlt
  have hjI : (j : Int) < (nc : Int) := by omega
  have HX := Lib.hid hx
  clear hd hx hj hlt
  go_enter Tryd.func17, Tryd.ntmps17
  go_wp2_with fail
  generalize w.alloc (.cells #[.int .i64 k, .string t, .string n, .string s, .slice (some ⟨b, o, none⟩) nc cc, .slice vp np cp] 43) = W0 at *
  go_quiet (fail)
  go_wp2
  go_ret
  exact ⟨rfl, HX.out.trans ((Ext.refl W0).drewN _)⟩
end Go.Proofs.YtklobkpepbokkaaDoor
