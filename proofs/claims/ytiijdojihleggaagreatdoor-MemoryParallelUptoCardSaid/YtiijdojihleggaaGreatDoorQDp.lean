import Derived.Test.YtiijdojihleggaaGreatDoorQBaseg
import Derived.Lib.SlTrimSet
import Derived.Lib.IndexMore
set_option maxRecDepth 100000
set_option linter.unusedSimpArgs false
set_option linter.unusedVariables false
namespace Go.Proofs.YtiijdojihleggaaGreatDoor
theorem dropWhile_nil {α : Type} {p : α → Bool} : ∀ {l : List α}, l.dropWhile p = [] ↔ l.all p = true
 | [] => by simp
 | x :: l => by
   rw [List.dropWhile_cons]
   split
   ·rename_i h; rw [dropWhile_nil, List.all_cons, h, Bool.true_and]
   ·rename_i h; simp [h]
theorem trimS_nil {l cs : List UInt8} : Go.Lib.trimS l cs = [] ↔ l.all (cs.contains ·) = true := by
 unfold Go.Lib.trimS Go.Lib.trimLeftS Go.Lib.trimRightS
 rw [dropWhile_nil, List.all_reverse]
 constructor
 ·intro h
  have h1 : l.reverse = l.reverse.takeWhile (cs.contains ·) ++ l.reverse.dropWhile (cs.contains ·) := List.takeWhile_append_dropWhile.symm
  have h2 : l.reverse.all (cs.contains ·) = true := by
   rw [h1, List.all_append, h, Bool.and_true]
   exact List.all_takeWhile
  rwa [List.all_reverse] at h2
 ·intro h
  rw [← List.all_reverse] at h
  have h2 := dropWhile_nil.2 h
  rw [h2]
  rfl
theorem digs_eq (c : UInt8) : ([48, 49, 50, 51, 52, 53, 54, 55, 56, 57] : List UInt8).contains c = digB c := by
 rw [Bool.eq_iff_iff]
 unfold digB
 rw [Bool.and_eq_true, decide_eq_true_iff, decide_eq_true_iff, List.contains_iff_mem]
 constructor
 ·intro h
  simp only [List.mem_cons, List.not_mem_nil, or_false] at h
  rcases h with rfl | rfl | rfl | rfl | rfl | rfl | rfl | rfl | rfl | rfl <;> decide
 ·rintro ⟨h1, h2⟩
  rw [UInt8.le_iff_toNat_le] at h1 h2
  have h3 : (48 : UInt8).toNat = 48 := rfl
  have h4 : (57 : UInt8).toNat = 57 := rfl
  have key : ∀ n : UInt8, c.toNat = n.toNat → c = n := fun n h => UInt8.toNat_inj.1 h
  have h5 : c.toNat = 48 ∨ c.toNat = 49 ∨ c.toNat = 50 ∨ c.toNat = 51 ∨ c.toNat = 52 ∨ c.toNat = 53 ∨ c.toNat = 54 ∨ c.toNat = 55 ∨ c.toNat = 56 ∨ c.toNat = 57 := by omega
  rcases h5 with h | h | h | h | h | h | h | h | h | h
  ·rw [key 48 h]; decide
  ·rw [key 49 h]; decide
  ·rw [key 50 h]; decide
  ·rw [key 51 h]; decide
  ·rw [key 52 h]; decide
  ·rw [key 53 h]; decide
  ·rw [key 54 h]; decide
  ·rw [key 55 h]; decide
  ·rw [key 56 h]; decide
  ·rw [key 57 h]; decide
theorem digs_nil (l : List UInt8) : (Go.Lib.trimS l [48, 49, 50, 51, 52, 53, 54, 55, 56, 57] == []) = l.all digB := by
 rw [Bool.eq_iff_iff, beq_iff_eq, trimS_nil]
 simp only [digs_eq]
theorem zeros_nil (l : List UInt8) : (Go.Lib.trimS l [48] == []) = l.all (· == 48) := by
 rw [Bool.eq_iff_iff, beq_iff_eq, trimS_nil]
 simp only [List.contains_cons, List.contains_nil, Bool.or_false]
def dotW (q : By) : By := q.takeWhile fun c => !(c == 46)
theorem dotW_le (q : By) : (dotW q).length ≤ q.length := by
 have h := congrArg List.length (List.takeWhile_append_dropWhile (p := fun c => !(c == 46)) (l := q))
 rw [List.length_append] at h
 unfold dotW
 omega
theorem dotW_take (q : By) : q.take (dotW q).length = dotW q := by
 induction q with
 | nil => rfl
 | cons b l ih =>
   unfold dotW at ih ⊢
   rw [List.takeWhile_cons]
   split
   ·simp [ih]
   ·rfl
theorem idx_dot : ∀ q : By, Go.Lib.index q [46] = if (dotW q).length < q.length then ((dotW q).length : Int) else -1
 | [] => rfl
 | b :: l => by
   have ih := idx_dot l
   unfold Go.Lib.index
   by_cases h : b = 46
   ·subst h
    rw [if_pos (by simp [List.isPrefixOf])]
    have h0 : dotW (46 :: l) = [] := rfl
    rw [h0]
    simp
   ·have h1 : dotW (b :: l) = b :: dotW l := by unfold dotW; rw [List.takeWhile_cons, if_pos (by simpa using h)]
    rw [if_neg (by simp [List.isPrefixOf]; exact fun e => h e.symm), h1, ih]
    simp only [List.length_cons]
    by_cases h2 : (dotW l).length < l.length
    ·have h3 : (dotW l).length + 1 < l.length + 1 := by omega
     have h4 : ¬ ((((dotW l).length : Nat) : Int) == -1) = true := by simp
     rw [if_pos h2, if_pos h3, if_neg h4]
     omega
    ·have h3 : ¬ (dotW l).length + 1 < l.length + 1 := by omega
     rw [if_neg h2, if_neg h3]
     rfl
theorem cut_dot (q : By) : Go.Lib.cut q [46] = (dotW q, q.drop ((dotW q).length + 1), decide ((dotW q).length < q.length)) := by
 unfold Go.Lib.cut
 rw [idx_dot]
 have hle := dotW_le q
 by_cases h : (dotW q).length < q.length
 ·rw [if_pos h, if_pos (by omega)]
  have e : ((dotW q).length : Int).toNat = (dotW q).length := by omega
  rw [e, dotW_take]
  simp [h]
 ·rw [if_neg h, if_neg (by decide)]
  have e : (dotW q).length = q.length := by omega
  have h1 := dotW_take q
  rw [e, List.take_length] at h1
  rw [← h1, List.drop_eq_nil_of_le (by omega)]
  simp
def decN (g : Bool) (w f : By) (pt : Bool) : Bool :=
 !(decide (w.length < 1) || decide (15 < w.length) || !(w.all digB) || (decide (1 < w.length) && (w.headD 0 == 48))) &&
 !((pt && decide (f.length = 0)) || decide (6 < f.length) || !(f.all digB)) && !(g && (w.all (· == 48) && f.all (· == 48)))
def negB (s : By) : Bool := s.head? == some 45
def restP (s : By) : By := if negB s then s.drop 1 else s
theorem decB_eq (s : By) : decB s = decN (negB s) (dotW (restP s)) ((restP s).drop ((dotW (restP s)).length + 1)) (decide ((dotW (restP s)).length < (restP s).length)) := by
 have hle := dotW_le (restP s)
 unfold decB decN
 show (wholeB (dotW (restP s)) && (decide ((restP s).length = (dotW (restP s)).length) || fracB ((restP s).drop ((dotW (restP s)).length + 1))) && !(negB s && (dotW (restP s) ++ (restP s).drop ((dotW (restP s)).length + 1)).all (· == 48))) = _
 generalize hw : dotW (restP s) = w at *
 generalize hf : (restP s).drop (w.length + 1) = f
 have hfl : f.length = (restP s).length - (w.length + 1) := by rw [← hf, List.length_drop]
 have e1 : wholeB w = !(decide (w.length < 1) || decide (15 < w.length) || !(w.all digB) || (decide (1 < w.length) && (w.headD 0 == 48))) := by
  unfold wholeB
  cases w with
  | nil => rfl
  | cons b r =>
    simp only [List.head?_cons, List.headD_cons]
    rw [Bool.eq_iff_iff]
    simp only [List.length_cons, Bool.and_eq_true, Bool.or_eq_true, Bool.not_eq_true', Bool.or_eq_false_iff, decide_eq_true_iff, decide_eq_false_iff_not, Bool.and_eq_false_iff, Bool.not_eq_false']
    constructor
    ·rintro ⟨⟨⟨h1, h2⟩, h3⟩, h4⟩
     refine ⟨⟨⟨by omega, by omega⟩, h3⟩, ?_⟩
     rcases h4 with h4 | h4
     ·exact .inl (by omega)
     ·exact .inr (by simpa using h4)
    ·rintro ⟨⟨⟨h1, h2⟩, h3⟩, h4⟩
     refine ⟨⟨⟨by omega, by omega⟩, h3⟩, ?_⟩
     rcases h4 with h4 | h4
     ·exact .inl (by omega)
     ·exact .inr (by simpa using h4)
 have e2 : (decide ((restP s).length = w.length) || fracB f) = !((decide (w.length < (restP s).length) && decide (f.length = 0)) || decide (6 < f.length) || !(f.all digB)) := by
  unfold fracB
  by_cases h : (restP s).length = w.length
  ·have hf0 : f = [] := List.eq_nil_of_length_eq_zero (by omega)
   subst hf0
   simp [h]
  ·have h1 : w.length < (restP s).length := by omega
   rw [Bool.eq_iff_iff]
   have d1 : decide (List.length (restP s) = List.length w) = false := by simpa using h
   have d2 : decide (List.length w < List.length (restP s)) = true := by simpa using h1
   rw [d1, d2]
   simp only [Bool.and_eq_true, Bool.or_eq_true, Bool.not_eq_true', Bool.or_eq_false_iff, decide_eq_true_iff, decide_eq_false_iff_not, Bool.and_eq_false_iff, Bool.not_eq_false', Bool.true_and, Bool.false_or]
   constructor
   ·rintro ⟨⟨h1, h2⟩, h3⟩
    exact ⟨⟨by omega, by omega⟩, h3⟩
   ·rintro ⟨⟨h1, h2⟩, h3⟩
    exact ⟨⟨by omega, by omega⟩, h3⟩
 rw [e1, e2, List.all_append]
end Go.Proofs.YtiijdojihleggaaGreatDoor
