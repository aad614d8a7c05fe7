/-! Plain lists: words of a text. -/
namespace Go.Proofs.Ytgjfjibaoehmpaa

def isSp (c : UInt8) : Bool := c == 32 || c == 9 || c == 10
def isPt (c : UInt8) : Bool := (decide (97 ≤ c) && decide (c ≤ 122)) || (decide (65 ≤ c) && decide (c ≤ 90)) || (decide (48 ≤ c) && decide (c ≤ 57)) || decide (128 ≤ c)

/-- The words, from the back: a letter goes before a word that begins with a letter. -/
def wordsOf : List UInt8 → List (List UInt8)
  | [] => []
  | c :: r =>
    if isSp c then wordsOf r
    else if isPt c && (match r with | [] => false | d :: _ => isPt d) then
      match wordsOf r with
      | [] => [[c]]
      | x :: xs => (c :: x) :: xs
    else [c] :: wordsOf r

theorem words_cons (c : UInt8) (r : List UInt8) : wordsOf (c :: r) =
    if isSp c then wordsOf r
    else if isPt c && (match r with | [] => false | d :: _ => isPt d) then
      match wordsOf r with
      | [] => [[c]]
      | x :: xs => (c :: x) :: xs
    else [c] :: wordsOf r := rfl

theorem isPt_sp {c : UInt8} (h : isPt c = true) : isSp c = false := by
  simp only [isPt, isSp, Bool.or_eq_true, Bool.and_eq_true, decide_eq_true_eq, UInt8.le_iff_toNat_le, Bool.or_eq_false_iff, beq_eq_false_iff_ne, ne_eq, ← UInt8.toNat_inj] at h ⊢
  simp at h ⊢
  omega

/-- A run of letters is one word, if no letter stands behind it. -/
theorem words_run (u r : List UInt8) (hu : u ≠ []) (hp : ∀ c ∈ u, isPt c = true) (hr : ∀ d ∈ r.head?, isPt d = false) :
    wordsOf (u ++ r) = u :: wordsOf r := by
  induction u with
  | nil => exact absurd rfl hu
  | cons c v ih =>
    have hc := hp c (by simp)
    cases v with
    | nil =>
      cases r with
      | nil => simp [wordsOf, isPt_sp hc]
      | cons d r =>
        have hd : isPt d = false := hr d (by simp)
        simp [wordsOf, isPt_sp hc, hd]
    | cons d v =>
      have h1 := ih (by simp) (fun x hx => hp x (by simp [hx]))
      have hd := hp d (by simp)
      rw [List.cons_append, words_cons, h1]
      simp [isPt_sp hc, hc, hd]

theorem words_sp (c : UInt8) (r : List UInt8) (h : isSp c = true) : wordsOf (c :: r) = wordsOf r := by simp [wordsOf, h]
theorem words_one (c : UInt8) (r : List UInt8) (h : isSp c = false) (hp : isPt c = false) : wordsOf (c :: r) = [c] :: wordsOf r := by simp [wordsOf, h, hp]

/-- What the loop of Words does at a place: a run of letters. -/
theorem words_at_run (l : List UInt8) (a b : Nat) (hab : a < b) (hb : b ≤ l.length) (hp : ∀ j, a ≤ j → (h : j < b) → isPt (l[j]'(by omega)) = true)
    (he : ∀ h : b < l.length, isPt l[b] = false) : wordsOf (l.drop a) = (l.drop a).take (b - a) :: wordsOf (l.drop b) := by
  have e : l.drop a = (l.drop a).take (b - a) ++ l.drop b := by
    have h2 := (List.take_append_drop (b - a) (l.drop a)).symm
    rw [List.drop_drop, show a + (b - a) = b from by omega] at h2
    exact h2
  have h1 := words_run ((l.drop a).take (b - a)) (l.drop b) (by
      intro h0
      have := congrArg List.length h0
      simp at this
      omega) (by
      intro c hc
      obtain ⟨i, hi, rfl⟩ := List.getElem_of_mem hc
      simp only [List.length_take, List.length_drop] at hi
      rw [List.getElem_take, List.getElem_drop]
      exact hp (a + i) (by omega) (by omega)) (by
      intro d hd
      rw [List.head?_drop] at hd
      have hd' := Option.mem_def.1 hd
      obtain ⟨hlt, rfl⟩ := List.getElem?_eq_some_iff.1 hd'
      exact he hlt)
  rw [← e] at h1
  exact h1

def isPart (c : Int) : Bool := (decide (97 ≤ c) && decide (c ≤ 122)) || (decide (65 ≤ c) && decide (c ≤ 90)) || (decide (48 ≤ c) && decide (c ≤ 57)) || decide (128 ≤ c)

theorem isPart_pt (c : UInt8) : isPart (c.toNat : Int) = isPt c := by
  rw [Bool.eq_iff_iff]
  simp [isPart, isPt, UInt8.le_iff_toNat_le]
  omega
theorem isSp_iff (c : UInt8) : isSp c = true ↔ (c.toNat : Int) = 32 ∨ (c.toNat : Int) = 9 ∨ (c.toNat : Int) = 10 := by
  simp [isSp, ← UInt8.toNat_inj]
  omega

theorem words_at_sp (l : List UInt8) (k : Nat) (h : k < l.length) (hs : isSp l[k] = true) : wordsOf (l.drop k) = wordsOf (l.drop (k + 1)) := by
  rw [List.drop_eq_getElem_cons h, words_sp _ _ hs]
theorem words_at_one (l : List UInt8) (k : Nat) (h : k < l.length) (hs : isSp l[k] = false) (hp : isPt l[k] = false) :
    wordsOf (l.drop k) = (l.drop k).take (k + 1 - k) :: wordsOf (l.drop (k + 1)) := by
  rw [List.drop_eq_getElem_cons h, words_one _ _ hs hp, show k + 1 - k = 1 from by omega]
  rfl
/-- One more word has been taken. -/
theorem words_take {xs : List (List UInt8)} {l : List UInt8} {a b : Nat} {x : List UInt8} (h : xs ++ wordsOf (l.drop a) = wordsOf l)
    (hw : wordsOf (l.drop a) = x :: wordsOf (l.drop b)) : (xs ++ [x]) ++ wordsOf (l.drop b) = wordsOf l := by
  rw [← h, hw]; simp

theorem size_list (s : ByteArray) : s.data.toList.length = s.size := rfl
theorem get_list (s : ByteArray) (k : Nat) (h : k < s.size) : s.data.toList[k]'(by rw [size_list]; exact h) = s[k] := by
  simp; rfl

theorem wrd_sp (s : ByteArray) (k : Nat) (h : k < s.size) (hs : (s[k].toNat : Int) = 32 ∨ (s[k].toNat : Int) = 9 ∨ (s[k].toNat : Int) = 10) :
    wordsOf (s.data.toList.drop k) = wordsOf (s.data.toList.drop (k + 1)) :=
  words_at_sp _ k (by rw [size_list]; exact h) (by rw [get_list s k h, isSp_iff]; exact hs)
theorem wrd_one (s : ByteArray) (k : Nat) (h : k < s.size) (hs : (((s[k].toNat : Int) == 32) = false ∧ ((s[k].toNat : Int) == 9) = false) ∧ ((s[k].toNat : Int) == 10) = false)
    (hp : isPart (s[k].toNat : Int) = false) :
    wordsOf (s.data.toList.drop k) = (s.data.toList.drop k).take (k + 1 - k) :: wordsOf (s.data.toList.drop (k + 1)) :=
  words_at_one _ k (by rw [size_list]; exact h) (by
    rw [get_list s k h]
    cases hc : isSp s[k] with
    | false => rfl
    | true =>
      have := (isSp_iff _).1 hc
      simp only [beq_eq_false_iff_ne, ne_eq] at hs
      omega) (by rw [get_list s k h, ← isPart_pt]; exact hp)
theorem wrd_run (s : ByteArray) (k e : Nat) (h : k < e) (he : e ≤ s.size) (hall : ∀ i, k ≤ i → i < e → (hs : i < s.size) → isPart (s[i].toNat : Int) = true)
    (hend : ∀ h : e < s.size, isPart (s[e].toNat : Int) = false) :
    wordsOf (s.data.toList.drop k) = (s.data.toList.drop k).take (e - k) :: wordsOf (s.data.toList.drop e) :=
  words_at_run _ k e h (by rw [size_list]; exact he)
    (fun j h1 h2 => by rw [get_list s j (by omega), ← isPart_pt]; exact hall j h1 h2 (by omega))
    (fun h1 => by
      have h2 : e < s.size := by rw [size_list] at h1; exact h1
      rw [get_list s e h2, ← isPart_pt]; exact hend h2)

theorem take_next {α : Type} {xs : List α} {k : Nat} {x : α} (h : xs[k]? = some x) : xs.take (k + 1) = xs.take k ++ [x] := by
  rw [List.take_add_one, h]; rfl

/-- The next row of the table. -/
def rowNext (f : Nat → Nat) (eqs : Nat → Bool) (z : Nat) : Nat → Nat
  | 0 => z
  | k + 1 => if eqs k then f k else 1 + min (min (f k) (f (k + 1))) (rowNext f eqs z k)
/-- The distances of all beginnings. -/
def dst {α : Type} [DecidableEq α] (a b : List α) : Nat → Nat → Nat
  | 0 => fun k => k
  | i + 1 => rowNext (dst a b i) (fun k => decide (a[i]? = b[k]?)) (i + 1)
theorem dst_zero {α : Type} [DecidableEq α] (a b : List α) (k : Nat) : dst a b 0 k = k := rfl
theorem dst_left {α : Type} [DecidableEq α] (a b : List α) (i : Nat) : dst a b i 0 = i := by cases i <;> rfl
theorem dst_eq {α : Type} [DecidableEq α] (a b : List α) (i k : Nat) (h : a[i]? = b[k]?) : dst a b (i + 1) (k + 1) = dst a b i k := by
  simp [dst, rowNext, h]
theorem dst_ne {α : Type} [DecidableEq α] (a b : List α) (i k : Nat) (h : a[i]? ≠ b[k]?) :
    dst a b (i + 1) (k + 1) = 1 + min (min (dst a b i k) (dst a b i (k + 1))) (dst a b (i + 1) k) := by
  conv => lhs; unfold dst
  simp [rowNext, h]
  rfl

theorem rowNext_le (f : Nat → Nat) (e : Nat → Bool) (z : Nat) (hf : ∀ k, f k ≤ z + k) : ∀ k, rowNext f e z k ≤ z + k := by
  intro k
  induction k with
  | zero => exact Nat.le_refl _
  | succ k ih =>
    simp only [rowNext]
    have := hf k
    split <;> omega
theorem dst_bound {α : Type} [DecidableEq α] (a b : List α) : ∀ i k, dst a b i k ≤ i + k := by
  intro i
  induction i with
  | zero => intro k; simp [dst]
  | succ i ih => intro k; exact rowNext_le _ _ _ (fun j => by have := ih j; omega) k

theorem rowNext_max (f : Nat → Nat) (e : Nat → Bool) (z : Nat) (hf : ∀ k, f k ≤ max z k) : ∀ k, rowNext f e (z + 1) k ≤ max (z + 1) k := by
  intro k
  induction k with
  | zero => simp [rowNext]
  | succ k ih =>
    simp only [rowNext]
    have := hf k
    split <;> omega
theorem dst_max {α : Type} [DecidableEq α] (a b : List α) : ∀ i k, dst a b i k ≤ max i k := by
  intro i
  induction i with
  | zero => intro k; simp [dst]
  | succ i ih => intro k; exact rowNext_max _ _ _ ih k

end Go.Proofs.Ytgjfjibaoehmpaa
