import Derived.WalkKit
set_option maxRecDepth 100000
set_option linter.unusedSimpArgs false
set_option linter.unusedVariables false
namespace Go.Proofs.YtiijdojihleggaaGreatDoor.D6
def isSp (c : UInt8) : Bool := c == 32 || c == 9 || c == 10
def isPt (c : UInt8) : Bool := (decide (97 ≤ c) && decide (c ≤ 122)) || (decide (65 ≤ c) && decide (c ≤ 90)) || (decide (48 ≤ c) && decide (c ≤ 57)) || decide (128 ≤ c)
def wordsOf : List UInt8 → List (List UInt8)
 | [] => []
 | c :: r =>
   if isSp c then wordsOf r
   else if isPt c && (match r with | [] => false | d :: _ => isPt d) then
    match wordsOf r with
    | [] => [[c]]
    | x :: xs => (c :: x) :: xs
   else [c] :: wordsOf r
theorem words_cons (c : UInt8) (r : List UInt8) : wordsOf (c :: r) =
 if isSp c then wordsOf r
 else if isPt c && (match r with | [] => false | d :: _ => isPt d) then
  match wordsOf r with
  | [] => [[c]]
  | x :: xs => (c :: x) :: xs
 else [c] :: wordsOf r := rfl
theorem isPt_sp {c : UInt8} (h : isPt c = true) : isSp c = false := by
 simp only [isPt, isSp, Bool.or_eq_true, Bool.and_eq_true, decide_eq_true_eq, UInt8.le_iff_toNat_le, Bool.or_eq_false_iff, beq_eq_false_iff_ne, ne_eq, ← UInt8.toNat_inj] at h ⊢
 simp at h ⊢
 omega
theorem words_run (u r : List UInt8) (hu : u ≠ []) (hp : ∀ c ∈ u, isPt c = true) (hr : ∀ d ∈ r.head?, isPt d = false) :
 wordsOf (u ++ r) = u :: wordsOf r := by
 induction u with
 | nil => exact absurd rfl hu
 | cons c v ih =>
   have hc := hp c (by simp)
   cases v with
   | nil =>
     cases r with
     | nil => simp [wordsOf, isPt_sp hc]
     | cons d r =>
       have hd : isPt d = false := hr d (by simp)
       simp [wordsOf, isPt_sp hc, hd]
   | cons d v =>
     have h1 := ih (by simp) (fun x hx => hp x (by simp [hx]))
     have hd := hp d (by simp)
     rw [List.cons_append, words_cons, h1]
     simp [isPt_sp hc, hc, hd]
theorem words_sp (c : UInt8) (r : List UInt8) (h : isSp c = true) : wordsOf (c :: r) = wordsOf r := by simp [wordsOf, h]
theorem words_one (c : UInt8) (r : List UInt8) (h : isSp c = false) (hp : isPt c = false) : wordsOf (c :: r) = [c] :: wordsOf r := by simp [wordsOf, h, hp]
theorem words_at_run (l : List UInt8) (a b : Nat) (hab : a < b) (hb : b ≤ l.length) (hp : ∀ j, a ≤ j → (h : j < b) → isPt (l[j]'(by omega)) = true)
 (he : ∀ h : b < l.length, isPt l[b] = false) : wordsOf (l.drop a) = (l.drop a).take (b - a) :: wordsOf (l.drop b) := by
 have e : l.drop a = (l.drop a).take (b - a) ++ l.drop b := by
  have h2 := (List.take_append_drop (b - a) (l.drop a)).symm
  rw [List.drop_drop, show a + (b - a) = b from by omega] at h2
  exact h2
 have h1 := words_run ((l.drop a).take (b - a)) (l.drop b) (by
  intro h0
  have := congrArg List.length h0
  simp at this
  omega) (by
  intro c hc
  obtain ⟨i, hi, rfl⟩ := List.getElem_of_mem hc
  simp only [List.length_take, List.length_drop] at hi
  rw [List.getElem_take, List.getElem_drop]
  exact hp (a + i) (by omega) (by omega)) (by
  intro d hd
  rw [List.head?_drop] at hd
  have hd' := Option.mem_def.1 hd
  obtain ⟨hlt, rfl⟩ := List.getElem?_eq_some_iff.1 hd'
  exact he hlt)
 rw [← e] at h1
 exact h1
def isPart (c : Int) : Bool := (decide (97 ≤ c) && decide (c ≤ 122)) || (decide (65 ≤ c) && decide (c ≤ 90)) || (decide (48 ≤ c) && decide (c ≤ 57)) || decide (128 ≤ c)
theorem isPart_pt (c : UInt8) : isPart (c.toNat : Int) = isPt c := by
 rw [Bool.eq_iff_iff]
 simp [isPart, isPt, UInt8.le_iff_toNat_le]
 omega
theorem isSp_iff (c : UInt8) : isSp c = true ↔ (c.toNat : Int) = 32 ∨ (c.toNat : Int) = 9 ∨ (c.toNat : Int) = 10 := by
 simp [isSp, ← UInt8.toNat_inj]
 omega
theorem words_at_sp (l : List UInt8) (k : Nat) (h : k < l.length) (hs : isSp l[k] = true) : wordsOf (l.drop k) = wordsOf (l.drop (k + 1)) := by
 rw [List.drop_eq_getElem_cons h, words_sp _ _ hs]
theorem words_at_one (l : List UInt8) (k : Nat) (h : k < l.length) (hs : isSp l[k] = false) (hp : isPt l[k] = false) :
 wordsOf (l.drop k) = (l.drop k).take (k + 1 - k) :: wordsOf (l.drop (k + 1)) := by
 rw [List.drop_eq_getElem_cons h, words_one _ _ hs hp, show k + 1 - k = 1 from by omega]
 rfl
theorem words_take {xs : List (List UInt8)} {l : List UInt8} {a b : Nat} {x : List UInt8} (h : xs ++ wordsOf (l.drop a) = wordsOf l)
 (hw : wordsOf (l.drop a) = x :: wordsOf (l.drop b)) : (xs ++ [x]) ++ wordsOf (l.drop b) = wordsOf l := by
 rw [← h, hw]; simp
theorem size_list (s : ByteArray) : s.data.toList.length = s.size := rfl
theorem get_list (s : ByteArray) (k : Nat) (h : k < s.size) : s.data.toList[k]'(by rw [size_list]; exact h) = s[k] := by
 simp; rfl
theorem wrd_sp (s : ByteArray) (k : Nat) (h : k < s.size) (hs : (s[k].toNat : Int) = 32 ∨ (s[k].toNat : Int) = 9 ∨ (s[k].toNat : Int) = 10) :
 wordsOf (s.data.toList.drop k) = wordsOf (s.data.toList.drop (k + 1)) :=
 words_at_sp _ k (by rw [size_list]; exact h) (by rw [get_list s k h, isSp_iff]; exact hs)
theorem wrd_one (s : ByteArray) (k : Nat) (h : k < s.size) (hs : (((s[k].toNat : Int) == 32) = false ∧ ((s[k].toNat : Int) == 9) = false) ∧ ((s[k].toNat : Int) == 10) = false)
 (hp : isPart (s[k].toNat : Int) = false) :
 wordsOf (s.data.toList.drop k) = (s.data.toList.drop k).take (k + 1 - k) :: wordsOf (s.data.toList.drop (k + 1)) :=
 words_at_one _ k (by rw [size_list]; exact h) (by
  rw [get_list s k h]
  cases hc : isSp s[k] with
  | false => rfl
  | true =>
    have := (isSp_iff _).1 hc
    simp only [beq_eq_false_iff_ne, ne_eq] at hs
    omega) (by rw [get_list s k h, ← isPart_pt]; exact hp)
theorem wrd_run (s : ByteArray) (k e : Nat) (h : k < e) (he : e ≤ s.size) (hall : ∀ i, k ≤ i → i < e → (hs : i < s.size) → isPart (s[i].toNat : Int) = true)
 (hend : ∀ h : e < s.size, isPart (s[e].toNat : Int) = false) :
 wordsOf (s.data.toList.drop k) = (s.data.toList.drop k).take (e - k) :: wordsOf (s.data.toList.drop e) :=
 words_at_run _ k e h (by rw [size_list]; exact he)
  (fun j h1 h2 => by rw [get_list s j (by omega), ← isPart_pt]; exact hall j h1 h2 (by omega))
  (fun h1 => by
   have h2 : e < s.size := by rw [size_list] at h1; exact h1
   rw [get_list s e h2, ← isPart_pt]; exact hend h2)
theorem take_next {α : Type} {xs : List α} {k : Nat} {x : α} (h : xs[k]? = some x) : xs.take (k + 1) = xs.take k ++ [x] := by
 rw [List.take_add_one, h]; rfl
def rowNext (f : Nat → Nat) (eqs : Nat → Bool) (z : Nat) : Nat → Nat
 | 0 => z
 | k + 1 => if eqs k then f k else 1 + min (min (f k) (f (k + 1))) (rowNext f eqs z k)
def dst {α : Type} [DecidableEq α] (a b : List α) : Nat → Nat → Nat
 | 0 => fun k => k
 | i + 1 => rowNext (dst a b i) (fun k => decide (a[i]? = b[k]?)) (i + 1)
theorem dst_left {α : Type} [DecidableEq α] (a b : List α) (i : Nat) : dst a b i 0 = i := by cases i <;> rfl
theorem dst_eq {α : Type} [DecidableEq α] (a b : List α) (i k : Nat) (h : a[i]? = b[k]?) : dst a b (i + 1) (k + 1) = dst a b i k := by
 simp [dst, rowNext, h]
theorem dst_ne {α : Type} [DecidableEq α] (a b : List α) (i k : Nat) (h : a[i]? ≠ b[k]?) :
 dst a b (i + 1) (k + 1) = 1 + min (min (dst a b i k) (dst a b i (k + 1))) (dst a b (i + 1) k) := by
 conv => lhs; unfold dst
 simp [rowNext, h]
 rfl
theorem rowNext_le (f : Nat → Nat) (e : Nat → Bool) (z : Nat) (hf : ∀ k, f k ≤ z + k) : ∀ k, rowNext f e z k ≤ z + k := by
 intro k
 induction k with
 | zero => exact Nat.le_refl _
 | succ k ih =>
   simp only [rowNext]
   have := hf k
   split <;> omega
theorem dst_bound {α : Type} [DecidableEq α] (a b : List α) : ∀ i k, dst a b i k ≤ i + k := by
 intro i
 induction i with
 | zero => intro k; simp [dst]
 | succ i ih => intro k; exact rowNext_le _ _ _ (fun j => by have := ih j; omega) k
theorem rowNext_max (f : Nat → Nat) (e : Nat → Bool) (z : Nat) (hf : ∀ k, f k ≤ max z k) : ∀ k, rowNext f e (z + 1) k ≤ max (z + 1) k := by
 intro k
 induction k with
 | zero => simp [rowNext]
 | succ k ih =>
   simp only [rowNext]
   have := hf k
   split <;> omega
theorem dst_max {α : Type} [DecidableEq α] (a b : List α) : ∀ i k, dst a b i k ≤ max i k := by
 intro i
 induction i with
 | zero => intro k; simp [dst]
 | succ i ih => intro k; exact rowNext_max _ _ _ ih k
end Go.Proofs.YtiijdojihleggaaGreatDoor.D6
namespace Go.Proofs.YtiijdojihleggaaGreatDoor.D6
section
variable {α : Type} [DecidableEq α]
def left (s : List (Option α × Option α)) : List α := s.filterMap (·.1)
def right (s : List (Option α × Option α)) : List α := s.filterMap (·.2)
def pc : Option α × Option α → Nat
 | (some x, some y) => if x = y then 0 else 1
 | (some _, none) => 1
 | (none, some _) => 1
 | (none, none) => 0
def cost (s : List (Option α × Option α)) : Nat := (s.map pc).sum
def Ed (a b : List α) (n : Nat) : Prop := ∃ s, left s = a ∧ right s = b ∧ cost s ≤ n
theorem Ed.mono {a b : List α} {n m : Nat} (h : Ed a b n) (hm : n ≤ m) : Ed a b m := let ⟨s, h1, h2, h3⟩ := h; ⟨s, h1, h2, Nat.le_trans h3 hm⟩
theorem Ed.nil : Ed ([] : List α) [] 0 := ⟨[], rfl, rfl, Nat.le_refl _⟩
theorem Ed.app {a b c d : List α} {n m : Nat} (h : Ed a b n) (k : Ed c d m) : Ed (a ++ c) (b ++ d) (n + m) := by
 obtain ⟨s, rfl, rfl, h3⟩ := h
 obtain ⟨t, rfl, rfl, k3⟩ := k
 refine ⟨s ++ t, by simp [left], by simp [right], ?_⟩
 simp only [cost, List.map_append, List.sum_append] at h3 k3 ⊢
 omega
theorem Ed.rev {a b : List α} {n : Nat} (h : Ed a b n) : Ed a.reverse b.reverse n := by
 obtain ⟨s, rfl, rfl, h3⟩ := h
 refine ⟨s.reverse, by simp [left, List.filterMap_reverse], by simp [right, List.filterMap_reverse], ?_⟩
 simpa [cost, List.map_reverse, List.sum_reverse] using h3
theorem pc_swap (p : Option α × Option α) : pc (p.2, p.1) = pc p := by
 rcases p with ⟨_ | x, _ | y⟩ <;> simp [pc]
 by_cases h : x = y
 ·simp [h]
 ·simp [h, Ne.symm h]
theorem Ed.symm {a b : List α} {n : Nat} (h : Ed a b n) : Ed b a n := by
 obtain ⟨s, rfl, rfl, h3⟩ := h
 refine ⟨s.map fun p => (p.2, p.1), by simp [left, right, List.filterMap_map]; rfl, by simp [left, right, List.filterMap_map]; rfl, ?_⟩
 simpa [cost, List.map_map, Function.comp_def, pc_swap] using h3
theorem Ed.same (a : List α) : Ed a a 0 := by
 induction a with
 | nil => exact Ed.nil
 | cons x r ih =>
   have h : Ed [x] [x] 0 := ⟨[(some x, some x)], rfl, rfl, by simp [cost, pc]⟩
   exact Ed.app h ih
theorem Ed.del (a : List α) : Ed a [] a.length := by
 induction a with
 | nil => exact Ed.nil
 | cons x r ih =>
   have h : Ed [x] ([] : List α) 1 := ⟨[(some x, none)], rfl, rfl, by simp [cost, pc]⟩
   exact (Ed.app h ih).mono (by simp; omega)
theorem Ed.one (x y : α) : Ed [x] [y] 1 := ⟨[(some x, some y)], rfl, rfl, by simp [cost, pc]; split <;> omega⟩
theorem Ed.cases {a b : List α} {n : Nat} (h : Ed a b n) : (a = [] ∧ b = []) ∨
 (∃ x r m, a = x :: r ∧ n = m + 1 ∧ Ed r b m) ∨ (∃ y r m, b = y :: r ∧ n = m + 1 ∧ Ed a r m) ∨
 (∃ x r y q m, a = x :: r ∧ b = y :: q ∧ n = (if x = y then 0 else 1) + m ∧ Ed r q m) := by
 obtain ⟨s, rfl, rfl, h3⟩ := h
 induction s generalizing n with
 | nil => exact .inl ⟨rfl, rfl⟩
 | cons p s ih =>
   rcases p with ⟨_ | x, _ | y⟩
   ·have h4 : cost s ≤ n := by simpa [cost, pc] using h3
    simpa [left, right] using ih h4
   ·refine .inr (.inr (.inl ⟨y, right s, n - 1, rfl, ?_, s, rfl, rfl, ?_⟩))
    ·simp [cost, pc] at h3; omega
    ·simp [cost, pc] at h3 ⊢; omega
   ·refine .inr (.inl ⟨x, left s, n - 1, rfl, ?_, s, rfl, rfl, ?_⟩)
    ·simp [cost, pc] at h3; omega
    ·simp [cost, pc] at h3 ⊢; omega
   ·refine .inr (.inr (.inr ⟨x, left s, y, right s, n - (if x = y then 0 else 1), rfl, rfl, ?_, s, rfl, rfl, ?_⟩))
    ·simp only [cost, pc, List.map_cons, List.sum_cons] at h3; omega
    ·simp only [cost, pc, List.map_cons, List.sum_cons] at h3 ⊢; omega
theorem cost_cons (p : Option α × Option α) (s : List (Option α × Option α)) : cost (p :: s) = pc p + cost s := rfl
theorem trans_aux : ∀ (N : Nat) (s t : List (Option α × Option α)), s.length + t.length ≤ N → right s = left t → Ed (left s) (right t) (cost s + cost t)
 | 0, s, t, h, _ => by
   have h1 : s = [] := List.eq_nil_of_length_eq_zero (by omega)
   have h2 : t = [] := List.eq_nil_of_length_eq_zero (by omega)
   subst h1; subst h2
   exact Ed.nil
 | N + 1, s, t, h, e => by
   have del : ∀ (x : α) s', s = (some x, none) :: s' → Ed (left s) (right t) (cost s + cost t) := by
    rintro x s' rfl
    have ih := trans_aux N s' t (by simp at h; omega) (by simpa [right] using e)
    have h1 : Ed [x] ([] : List α) 1 := ⟨[(some x, none)], rfl, rfl, by simp [cost, pc]⟩
    have h2 := Ed.app h1 ih
    refine Ed.mono h2 ?_
    rw [cost_cons]; simp [pc]; omega
   have skip : ∀ s', s = (none, none) :: s' → Ed (left s) (right t) (cost s + cost t) := by
    rintro s' rfl
    have ih := trans_aux N s' t (by simp at h; omega) (by simpa [right] using e)
    refine Ed.mono (by simpa [left] using ih) ?_
    rw [cost_cons]; simp [pc]
   match t, h, e, del, skip with
   | [], h, e, del, skip =>
     match s, h, e, del, skip with
     | [], _, _, _, _ => exact Ed.nil
     | (some x, none) :: s', _, _, del, _ => exact del x s' rfl
     | (none, none) :: s', _, _, _, skip => exact skip s' rfl
     | (_, some y) :: s', _, e, _, _ => simp [right, left] at e
   | (none, some z) :: t', h, e, _, _ =>
     have ih := trans_aux N s t' (by simp at h; omega) (by simpa [left] using e)
     have h1 : Ed ([] : List α) [z] 1 := ⟨[(none, some z)], rfl, rfl, by simp [cost, pc]⟩
     have h2 := Ed.app h1 ih
     refine Ed.mono (by simpa [right] using h2) ?_
     rw [cost_cons]; simp [pc]; omega
   | (none, none) :: t', h, e, _, _ =>
     have ih := trans_aux N s t' (by simp at h; omega) (by simpa [left] using e)
     refine Ed.mono (by simpa [right] using ih) ?_
     rw [cost_cons]; simp [pc]
   | (some y', q) :: t', h, e, del, skip =>
     match s, h, e, del, skip with
     | [], _, e, _, _ => simp [right, left] at e
     | (some x, none) :: s', _, _, del, _ => exact del x s' rfl
     | (none, none) :: s', _, _, _, skip => exact skip s' rfl
     | (p, some y) :: s', h, e, _, _ =>
       have e1 : y = y' ∧ right s' = left t' := by simpa [right, left] using e
       obtain ⟨rfl, e2⟩ := e1
       have ih := trans_aux N s' t' (by simp at h; omega) e2
       have h1 : Ed p.toList q.toList (pc (p, some y) + pc (some y, q)) := by
        refine ⟨[(p, q)], ?_, ?_, ?_⟩
        ·cases p <;> rfl
        ·cases q <;> rfl
        ·rcases p with _ | x <;> rcases q with _ | z <;> simp [cost, pc]
         by_cases a1 : x = z
         ·simp [a1]
         ·simp only [if_neg a1]
          by_cases a2 : x = y
          ·subst a2; simp [a1]
          ·simp [a2]
       have h2 := Ed.app h1 ih
       refine Ed.mono (show Ed (left ((p, some y) :: s')) (right ((some y, q) :: t')) _ from ?_) (show pc (p, some y) + pc (some y, q) + (cost s' + cost t') ≤ _ by rw [cost_cons, cost_cons]; omega)
       have l1 : left ((p, some y) :: s') = p.toList ++ left s' := by cases p <;> simp [left]
       have l2 : right ((some y, q) :: t') = q.toList ++ right t' := by cases q <;> simp [right]
       rw [l1, l2]
       exact h2
theorem Ed.trans {a b c : List α} {n m : Nat} (h : Ed a b n) (k : Ed b c m) : Ed a c (n + m) := by
 obtain ⟨s, rfl, h2, h3⟩ := h
 obtain ⟨t, k1, rfl, k3⟩ := k
 exact (trans_aux _ s t (Nat.le_refl _) (h2.trans k1.symm)).mono (by omega)
end
section
variable {α : Type} [DecidableEq α]
theorem dst_ed (a b : List α) : ∀ i k, i ≤ a.length → k ≤ b.length → Ed (a.take i) (b.take k) (dst a b i k) := by
 intro i
 induction i with
 | zero =>
   intro k _ hk
   have h := (Ed.del (b.take k)).symm
   simpa [dst, Nat.min_eq_left hk] using h
 | succ i ih =>
   intro k hi hk
   induction k with
   | zero =>
     have h := Ed.del (a.take (i + 1))
     simpa [dst_left, Nat.min_eq_left hi] using h
   | succ k ihk =>
     have ha : a[i]? = some a[i] := List.getElem?_eq_getElem (by omega)
     have hb : b[k]? = some b[k] := List.getElem?_eq_getElem (by omega)
     have h1 := ih k (by omega) (by omega)
     have h2 := ih (k + 1) (by omega) hk
     have h3 := ihk (by omega)
     rw [take_next ha, take_next hb]
     by_cases e : a[i]? = b[k]?
     ·rw [dst_eq a b i k e]
      have e' : a[i] = b[k] := by rw [ha, hb] at e; exact Option.some.inj e
      have h4 := Ed.app h1 (Ed.same [a[i]])
      rw [e'] at h4 ⊢
      exact h4
     ·rw [dst_ne a b i k e]
      have q1 : Ed (a.take i ++ [a[i]]) (b.take k ++ [b[k]]) (dst a b i k + 1) := Ed.app h1 (Ed.one _ _)
      have q2 : Ed (a.take i ++ [a[i]]) (b.take k ++ [b[k]]) (dst a b i (k + 1) + 1) := by
       have h5 := Ed.app h2 (Ed.del [a[i]])
       rw [take_next hb] at h5
       simpa using h5
      have q3 : Ed (a.take i ++ [a[i]]) (b.take k ++ [b[k]]) (dst a b (i + 1) k + 1) := by
       have h5 := Ed.app h3 (Ed.del [b[k]]).symm
       rw [take_next ha] at h5
       simpa using h5
      rcases Nat.le_total (dst a b i k) (dst a b i (k + 1)) with c1 | c1 <;> rcases Nat.le_total (dst a b i k) (dst a b (i + 1) k) with c2 | c2 <;> rcases Nat.le_total (dst a b i (k + 1)) (dst a b (i + 1) k) with c3 | c3
      all_goals first | exact q1.mono (by omega) | exact q2.mono (by omega) | exact q3.mono (by omega)
end
end Go.Proofs.YtiijdojihleggaaGreatDoor.D6
namespace Go.Proofs.YtiijdojihleggaaGreatDoor.D6
section
variable {α : Type} [DecidableEq α]
theorem Ed.ends {a b : List α} {x y : α} {n : Nat} (h : Ed (a ++ [x]) (b ++ [y]) n) :
 (∃ m, n = m + 1 ∧ Ed a (b ++ [y]) m) ∨ (∃ m, n = m + 1 ∧ Ed (a ++ [x]) b m) ∨ (∃ m, n = (if x = y then 0 else 1) + m ∧ Ed a b m) := by
 have hr := h.rev
 rw [List.reverse_append, List.reverse_append] at hr
 rcases Ed.cases hr with ⟨h1, _⟩ | ⟨z, r, m, h1, h2, h3⟩ | ⟨z, r, m, h1, h2, h3⟩ | ⟨z, r, u, q, m, h1, h2, h3, h4⟩
 ·simp at h1
 ·simp at h1
  obtain ⟨rfl, rfl⟩ := h1
  have := h3.rev
  simp at this
  exact .inl ⟨m, h2, this⟩
 ·simp at h1
  obtain ⟨rfl, rfl⟩ := h1
  have := h3.rev
  simp at this
  exact .inr (.inl ⟨m, h2, this⟩)
 ·simp at h1 h2
  obtain ⟨rfl, rfl⟩ := h1
  obtain ⟨rfl, rfl⟩ := h2
  have := h4.rev
  simp at this
  exact .inr (.inr ⟨m, h3, this⟩)
def D (a b : List α) : Nat := dst a b a.length b.length
theorem D_ed (a b : List α) : Ed a b (D a b) := by
 have h := dst_ed a b a.length b.length (Nat.le_refl _) (Nat.le_refl _)
 simpa [D] using h
theorem Ed.zero {a b : List α} (h : Ed a b 0) : a = b := by
 obtain ⟨s, rfl, rfl, h3⟩ := h
 induction s with
 | nil => rfl
 | cons p s ih =>
   rw [cost_cons] at h3
   have h4 := ih (by omega)
   rcases p with ⟨_ | x, _ | y⟩ <;> simp [pc] at h3
   ·simpa [left, right] using h4
   ·by_cases e : x = y
    ·subst e; simp [left, right] at h4 ⊢; exact h4
    ·simp [e] at h3
theorem D_max (a b : List α) : D a b ≤ max a.length b.length := dst_max a b _ _
end
end Go.Proofs.YtiijdojihleggaaGreatDoor.D6
namespace Go.Proofs.YtiijdojihleggaaGreatDoor
section
variable {α : Type} (le : α → α → Bool)
def PreO : Prop := (∀ a b c, le a b = true → le b c = true → le a c = true) ∧ (∀ a b, (le a b || le b a) = true)
def SortedS (l : List α) : Prop := l.Pairwise fun x y => le x y = true
def insS (out : List α) (x : α) : List α := out.merge [x] le
def isoS (l : List α) : List α := l.foldl (insS le) []
variable {le}
theorem merge_split {le : α → α → Bool} : ∀ (X U Y V : List α), (∀ u ∈ U, ∀ y ∈ Y, le y u = false) → (∀ x ∈ X, ∀ v ∈ V, le x v = true) → (X ++ Y).merge (U ++ V) le = X.merge U le ++ Y.merge V le
 | [], [], Y, V, _, _ => by simp
 | [], u :: U, Y, V, h1, h2 => by
   cases Y with
   | nil => simp
   | cons y Y =>
     have h := h1 u (List.mem_cons_self ..) y (List.mem_cons_self ..)
     have ih := merge_split (le := le) [] U (y :: Y) V (fun a ha => h1 a (List.mem_cons_of_mem _ ha)) (fun x hx => by cases hx)
     simp only [List.nil_append, List.cons_append, List.nil_merge] at ih ⊢
     rw [List.cons_merge_cons, h, if_neg (by decide), ih]
 | x :: X, [], Y, V, h1, h2 => by
   cases V with
   | nil => simp
   | cons v V =>
     have h := h2 x (List.mem_cons_self ..) v (List.mem_cons_self ..)
     have ih := merge_split (le := le) X [] Y (v :: V) (fun a ha => by cases ha) (fun a ha => h2 a (List.mem_cons_of_mem _ ha))
     simp only [List.nil_append, List.cons_append, List.merge_right] at ih ⊢
     rw [List.cons_merge_cons, h, if_pos rfl, ih]
 | x :: X, u :: U, Y, V, h1, h2 => by
   simp only [List.cons_append]
   rw [List.cons_merge_cons, List.cons_merge_cons]
   cases h : le x u with
   | true =>
     have ih := merge_split (le := le) X (u :: U) Y V h1 (fun a ha => h2 a (List.mem_cons_of_mem _ ha))
     simp only [List.cons_append] at ih
     simp [ih]
   | false =>
     have ih := merge_split (le := le) (x :: X) U Y V (fun a ha => h1 a (List.mem_cons_of_mem _ ha)) h2
     simp only [List.cons_append] at ih
     simp [ih]
termination_by X U => X.length + U.length
theorem merge_up {le : α → α → Bool} {x : α} {X Y : List α} (h1 : ∀ a ∈ X, le a x = true) (h2 : ∀ y ∈ Y, le y x = false) : (X ++ Y).merge [x] le = X ++ x :: Y := by
 have a := merge_split (le := le) X [] Y [x] (fun u hu => by cases hu) (fun a ha v hv => by rw [List.mem_singleton.1 hv]; exact h1 a ha)
 have b := merge_split (le := le) [] [x] Y [] (fun u hu y hy => by rw [List.mem_singleton.1 hu]; exact h2 y hy) (fun a ha => by cases ha)
 simp only [List.nil_append, List.append_nil, List.nil_merge, List.merge_right] at a b
 rw [a, b]
 rfl
theorem sorted_cut (hp : PreO le) {l : List α} (h : SortedS le l) (b : α) : ∃ X Y, l = X ++ Y ∧ (∀ x ∈ X, le x b = true) ∧ (∀ y ∈ Y, le y b = false) := by
 induction l with
 | nil => exact ⟨[], [], rfl, fun x h => (by cases h), fun x h => (by cases h)⟩
 | cons z l ih =>
   obtain ⟨h1, h2⟩ := List.pairwise_cons.1 h
   obtain ⟨X, Y, rfl, hX, hY⟩ := ih h2
   cases hz : le z b with
   | true => exact ⟨z :: X, Y, rfl, fun x hx => (by rcases List.mem_cons.1 hx with rfl | hx; exact hz; exact hX x hx), hY⟩
   | false =>
     refine ⟨[], z :: (X ++ Y), rfl, fun x hx => (by cases hx), fun y hy => ?_⟩
     rcases List.mem_cons.1 hy with rfl | hy
     ·exact hz
     ·cases hyb : le y b with
      | false => rfl
      | true => rw [hp.1 z y b (h1 y hy) hyb] at hz; cases hz
theorem sorted_merge (hp : PreO le) {X Y : List α} (hX : SortedS le X) (hY : SortedS le Y) : SortedS le (X.merge Y le) := List.pairwise_merge hp.1 hp.2 _ _ hX hY
theorem insS_cut (hp : PreO le) {l : List α} (h : SortedS le l) (b : α) : ∃ X Y, l = X ++ Y ∧ (∀ x ∈ X, le x b = true) ∧ (∀ y ∈ Y, le y b = false) ∧ insS le l b = X ++ b :: Y := by
 obtain ⟨X, Y, rfl, h1, h2⟩ := sorted_cut hp h b
 exact ⟨X, Y, rfl, h1, h2, merge_up h1 h2⟩
theorem insS_sorted (hp : PreO le) {l : List α} (h : SortedS le l) (b : α) : SortedS le (insS le l b) := sorted_merge hp h (List.pairwise_singleton ..)
theorem isoS_perm (le : α → α → Bool) : ∀ (l out : List α), (l.foldl (insS le) out).Perm (out ++ l)
 | [], out => by simp
 | x :: l, out => by
   rw [List.foldl_cons]
   refine (isoS_perm le l _).trans ?_
   have : (insS le out x).Perm (out ++ [x]) := List.merge_perm_append le
   refine (this.append_right l).trans ?_
   simp
theorem isoS_len (le : α → α → Bool) (l : List α) : (isoS le l).length = l.length := by
 have := (isoS_perm le l []).length_eq
 simpa [isoS] using this
end
end Go.Proofs.YtiijdojihleggaaGreatDoor
namespace Go.Proofs.YtiijdojihleggaaGreatDoor
def wsB (s : ByteArray) : List ByteArray := (D6.wordsOf s.data.toList).map fun x => ⟨x.toArray⟩
def simV (n m d : Nat) : Int := if max n m = 0 then 1000 else (((max n m : Nat) : Int) - d) * 1000 / (max n m : Nat)
def simB (a b : List ByteArray) : Int := simV a.length b.length (D6.D a b)
abbrev SgP := ByteArray × ByteArray
structure Mt where
 i : Nat
 n : Int
 s : ByteArray
 t : ByteArray
def leM (a b : Mt) : Bool := decide (b.n ≤ a.n)
theorem preM : PreO leM := ⟨fun a b c h1 h2 => by simp only [leM, decide_eq_true_eq] at *; omega, fun a b => by simp only [leM, Bool.or_eq_true, decide_eq_true_eq]; omega⟩
def longB (s : ByteArray) : Bool := decide (4000 < s.size) || decide (400 < (wsB s).length)
def addM (m : List SgP) (s t : ByteArray) : List SgP × Int :=
 if longB s = true ∨ 4000 < t.size ∨ 2000 ≤ m.length then (m, 6) else if m.any (fun x => decide (x.1 = s ∧ x.2 = t)) = true then (m, 9) else (m ++ [(s, t)], 0)
def mtOf (text : ByteArray) (x : SgP × Nat) : Mt := ⟨x.2, simB (wsB x.1.1) (wsB text), x.1.1, x.1.2⟩
def allM (m : List SgP) (text : ByteArray) (least : Int) : List Mt :=
 if longB text = true then [] else isoS leM ((m.zipIdx.map (mtOf text)).filter fun x => decide (least ≤ x.n))
def KeyW (ws : List ByteArray) (k : ByteArray) : Prop := (ws = [] ∧ k = ⟨#[]⟩) ∨ k ∈ ws
theorem simV_le {n m d : Nat} : simV n m d ≤ 1000 := by
 unfold simV
 split
 ·omega
 ·rename_i h
  have : ((max n m : Nat) : Int) > 0 := by omega
  refine Int.ediv_le_of_le_mul this ?_
  have : (((max n m : Nat) : Int) - d) * 1000 ≤ ((max n m : Nat) : Int) * 1000 := Int.mul_le_mul_of_nonneg_right (by omega) (by decide)
  rw [Int.mul_comm 1000]
  exact this
theorem cost_disj {α : Type} [DecidableEq α] : ∀ (s : List (Option α × Option α)), (∀ x ∈ D6.left s, x ∉ D6.right s) → (D6.left s).length ≤ D6.cost s ∧ (D6.right s).length ≤ D6.cost s
 | [], _ => by simp [D6.left, D6.right, D6.cost]
 | p :: s, h => by
   rw [D6.cost_cons]
   rcases p with ⟨_ | x, _ | y⟩
   ·have ih := cost_disj s (fun x hx hy => h x (by simpa [D6.left] using hx) (by simpa [D6.right] using hy))
    simp only [D6.left, D6.right, List.filterMap_cons] at ih ⊢
    simp [D6.pc]; omega
   ·have ih := cost_disj s (fun x hx hy => h x (by simpa [D6.left] using hx) (by simp [D6.right] at hy ⊢; exact .inr hy))
    simp only [D6.left, D6.right, List.filterMap_cons] at ih ⊢
    simp [D6.pc]; omega
   ·have ih := cost_disj s (fun z hx hy => h z (by simp [D6.left] at hx ⊢; exact .inr hx) (by simpa [D6.right] using hy))
    simp only [D6.left, D6.right, List.filterMap_cons] at ih ⊢
    simp [D6.pc]; omega
   ·have ih := cost_disj s (fun z hx hy => h z (by simp [D6.left] at hx ⊢; exact .inr hx) (by simp [D6.right] at hy ⊢; exact .inr hy))
    have hne : x ≠ y := fun e => h x (by simp [D6.left]) (by simp [D6.right, e])
    simp only [D6.left, D6.right, List.filterMap_cons] at ih ⊢
    simp [D6.pc, hne]; omega
theorem D_disj {α : Type} [DecidableEq α] {a b : List α} (h : ∀ x ∈ a, x ∉ b) : max a.length b.length ≤ D6.D a b := by
 obtain ⟨s, rfl, rfl, h3⟩ := D6.D_ed a b
 have := cost_disj s h
 omega
theorem sim_apart {a b : List ByteArray} (h : ∀ k, KeyW a k → ¬ KeyW b k) : simB a b = 0 := by
 have h1 : max a.length b.length ≤ D6.D a b := D_disj fun x hx hy => h x (.inr hx) (.inr hy)
 have h2 := D6.D_max a b
 unfold simB simV
 split
 ·rename_i h0
  have ha : a = [] := List.eq_nil_of_length_eq_zero (by omega)
  have hb : b = [] := List.eq_nil_of_length_eq_zero (by omega)
  exact absurd (.inl ⟨hb, rfl⟩) (h ⟨#[]⟩ (.inl ⟨ha, rfl⟩))
 ·rw [show ((max a.length b.length : Nat) : Int) - ((D6.D a b : Nat) : Int) = 0 from by omega]
  simp
end Go.Proofs.YtiijdojihleggaaGreatDoor
namespace Go.Proofs.YtiijdojihleggaaGreatDoor
theorem asc_once : ∀ {a b : List Nat}, a.Pairwise (· < ·) → b.Pairwise (· < ·) → (∀ x, x ∈ a ↔ x ∈ b) → a = b
 | [], [], _, _, _ => rfl
 | [], y :: b, _, _, h => absurd ((h y).2 (List.mem_cons_self ..)) (by simp)
 | x :: a, [], _, _, h => absurd ((h x).1 (List.mem_cons_self ..)) (by simp)
 | x :: a, y :: b, ha, hb, h => by
   obtain ⟨a1, a2⟩ := List.pairwise_cons.1 ha
   obtain ⟨b1, b2⟩ := List.pairwise_cons.1 hb
   have e : x = y := by
    have h1 := (h x).1 (List.mem_cons_self ..)
    have h2 := (h y).2 (List.mem_cons_self ..)
    rcases List.mem_cons.1 h1 with e | h1
    ·exact e
    ·rcases List.mem_cons.1 h2 with e | h2
     ·exact e.symm
     ·have := a1 y h2; have := b1 x h1; omega
   subst e
   rw [asc_once a2 b2 fun z => ?_]
   constructor
   ·intro hz
    rcases List.mem_cons.1 ((h z).1 (List.mem_cons_of_mem _ hz)) with e | hz2
    ·have := a1 z hz; omega
    ·exact hz2
   ·intro hz
    rcases List.mem_cons.1 ((h z).2 (List.mem_cons_of_mem _ hz)) with e | hz2
    ·have := b1 z hz; omega
    ·exact hz2
theorem cand_eq {n : Nat} {c : Nat → Bool} {L : List Nat} (h1 : L.Pairwise (· < ·)) (h2 : ∀ i, i ∈ L ↔ i < n ∧ c i = true) : L = (List.range n).filter c :=
 asc_once h1 (List.Pairwise.filter _ (List.pairwise_lt_range)) fun x => by rw [h2, List.mem_filter, List.mem_range]
def mtAt (m : List SgP) (text : ByteArray) (i : Nat) : Mt := mtOf text ((m.getD i (⟨#[]⟩, ⟨#[]⟩)), i)
theorem zip_range (m : List SgP) (text : ByteArray) : m.zipIdx.map (mtOf text) = (List.range m.length).map (mtAt m text) := by
 apply List.ext_getElem
 ·simp
 ·intro i h1 h2
  simp only [List.length_map, List.length_zipIdx] at h1
  simp [mtAt, List.getD_eq_getElem?_getD, h1]
theorem all_cand {m : List SgP} {text : ByteArray} {least : Int} {L : List Nat} (hl : longB text = false) (h1 : L.Pairwise (· < ·))
 (h2 : ∀ i, i ∈ L ↔ i < m.length ∧ (0 < least → ∃ k, KeyW (wsB (m.getD i (⟨#[]⟩, ⟨#[]⟩)).1) k ∧ KeyW (wsB text) k)) :
 isoS leM ((L.map (mtAt m text)).filter fun x => decide (least ≤ x.n)) = allM m text least := by
 have hc : ∀ i, (∀ h : ¬ (0 < least → ∃ k, KeyW (wsB (m.getD i (⟨#[]⟩, ⟨#[]⟩)).1) k ∧ KeyW (wsB text) k), ¬ least ≤ (mtAt m text i).n) := by
  intro i h hle
  have h3 : 0 < least := Classical.byContradiction fun e => h fun q => absurd q e
  have h4 : simB (wsB (m.getD i (⟨#[]⟩, ⟨#[]⟩)).1) (wsB text) = 0 := sim_apart fun k hk hk2 => h fun _ => ⟨k, hk, hk2⟩
  have h5 : (mtAt m text i).n = 0 := h4
  omega
 unfold allM
 rw [if_neg (by rw [hl]; decide), zip_range]
 congr 1
 have e : L = (List.range m.length).filter fun i => decide (i ∈ L) := cand_eq h1 fun i => ⟨fun h => ⟨((h2 i).1 h).1, decide_eq_true h⟩, fun h => of_decide_eq_true h.2⟩
 rw [List.filter_map, List.filter_map, e, List.filter_filter]
 congr 1
 apply List.filter_congr
 intro i hi
 rw [List.mem_range] at hi
 simp only [Function.comp]
 by_cases hd : least ≤ (mtAt m text i).n
 ·have : i ∈ L := (h2 i).2 ⟨hi, Classical.byContradiction fun h => hc i h hd⟩
  simp [hd, this]
 ·simp [hd]
end Go.Proofs.YtiijdojihleggaaGreatDoor
namespace Go.Proofs.YtiijdojihleggaaGreatDoor
def GrpM (m : List SgP) (g : ByteArray → List Nat) : Prop := ∀ k i, i ∈ g k ↔ ∃ x, m[i]? = some x ∧ KeyW (wsB x.1) k
theorem grp_nil : GrpM [] (fun _ => []) := fun k i => by simp
theorem grp_add {m : List SgP} {g g' : ByteArray → List Nat} {x : SgP} (h : GrpM m g) (hg : ∀ k i, i ∈ g' k ↔ i ∈ g k ∨ (i = m.length ∧ KeyW (wsB x.1) k)) : GrpM (m ++ [x]) g' := fun k i => by
 rw [hg, h k i]
 constructor
 ·rintro (⟨y, hy, hk⟩ | ⟨rfl, hk⟩)
  ·exact ⟨y, by rw [List.getElem?_append_left (List.getElem?_eq_some_iff.1 hy).1]; exact hy, hk⟩
  ·exact ⟨x, by simp, hk⟩
 ·rintro ⟨y, hy, hk⟩
  rcases Nat.lt_or_ge i m.length with hi | hi
  ·rw [List.getElem?_append_left hi] at hy
   exact .inl ⟨y, hy, hk⟩
  ·rw [List.getElem?_append_right hi] at hy
   have h0 : i - m.length = 0 := by
    have := (List.getElem?_eq_some_iff.1 hy).1
    simp at this
    omega
   rw [h0] at hy
   simp at hy
   subst hy
   exact .inr ⟨by omega, hk⟩
theorem grp_cand {m : List SgP} {g : ByteArray → List Nat} {ws K : List ByteArray} (h : GrpM m g) (hK : ∀ k, k ∈ K ↔ KeyW ws k) (i : Nat) :
 i ∈ K.flatMap g ↔ ∃ x, m[i]? = some x ∧ ∃ k, KeyW ws k ∧ KeyW (wsB x.1) k := by
 rw [List.mem_flatMap]
 constructor
 ·rintro ⟨k, hk, hi⟩
  obtain ⟨x, hx, hw⟩ := (h k i).1 hi
  exact ⟨x, hx, k, (hK k).1 hk, hw⟩
 ·rintro ⟨x, hx, k, h1, h2⟩
  exact ⟨k, (hK k).2 h1, (h k i).2 ⟨x, hx, h2⟩⟩
end Go.Proofs.YtiijdojihleggaaGreatDoor
