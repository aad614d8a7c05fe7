import Derived.Lib.Replace
import Derived.Lib.SlicesCompact
import Derived.Lib.Join
namespace Go.Proofs.YtehcldnicefmeaaGreatDoor
set_option linter.unusedSimpArgs false
set_option linter.unusedVariables false

def isSmall (c : UInt8) : Bool := decide (97 ≤ c) && decide (c ≤ 122)
def isCap (c : UInt8) : Bool := decide (65 ≤ c) && decide (c ≤ 90)
def isDig (c : UInt8) : Bool := decide (48 ≤ c) && decide (c ≤ 57)
def isEith (c : UInt8) : Bool := isSmall c || isDig c
def lowC (c : UInt8) : UInt8 := if isCap c then c + 32 else c
def upC (c : UInt8) : UInt8 := if isSmall c then c - 32 else c

def langB (x : List UInt8) : Bool := (decide (x.length = 2) || decide (x.length = 3)) && x.all isSmall
def scriptB (x : List UInt8) : Bool := decide (x.length = 4) && isCap (x.headD 0) && (x.drop 1).all isSmall
def regionB (x : List UInt8) : Bool := decide (x.length = 2) && x.all isCap || decide (x.length = 3) && x.all isDig
def variantB (x : List UInt8) : Bool := x.all isEith && (decide (5 ≤ x.length) && decide (x.length ≤ 8) || decide (x.length = 4) && isDig (x.headD 0))
/-- The forms in lower case. -/
def scriptL (x : List UInt8) : Bool := decide (x.length = 4) && x.all isSmall
def regionL (x : List UInt8) : Bool := decide (x.length = 2) && x.all isSmall || decide (x.length = 3) && x.all isDig

/-- The separators, and the parts between them. -/
def isSep (c : UInt8) : Bool := c == 45 || c == 95
def spOf : List UInt8 → List (List UInt8)
  | [] => [[]]
  | c :: r => if isSep c then [] :: spOf r else match spOf r with
    | [] => [[c]]
    | x :: xs => (c :: x) :: xs

structure TagP where
  lang : List UInt8
  script : List UInt8
  region : List UInt8
  vars : List (List UInt8)
def TagP.zero : TagP := ⟨[], [], [], []⟩

def low (x : List UInt8) : List UInt8 := x.map lowC
def titleOf (x : List UInt8) : List UInt8 := match x with
  | [] => []
  | c :: r => upC c :: r
def upOf (x : List UInt8) : List UInt8 := x.map upC
def sortS (l : List (List UInt8)) : List (List UInt8) := l.mergeSort fun x y => decide (x ≤ y)
def isNodup (l : List (List UInt8)) : Bool := decide l.Nodup

/-- The codes of the errors that a tag may have: syntax, duplicate, limit. -/
structure Codes where
  syn : Int
  dup : Int
  lim : Int

/-- The end: the variants in order. -/
def finT (E : Codes) (t : TagP) : TagP × Int :=
  if isNodup t.vars then (if t.vars.length ≤ 4 then ({ t with vars := sortS t.vars }, 0) else (TagP.zero, E.lim)) else (TagP.zero, E.dup)
def c3 (E : Codes) (t : TagP) (r : List (List UInt8)) : TagP × Int :=
  if r.all variantB then finT E { t with vars := t.vars ++ r } else (TagP.zero, E.syn)
def c2 (E : Codes) (t : TagP) : List (List UInt8) → TagP × Int
  | [] => c3 E t []
  | x :: r => if regionL x then c3 E { t with region := upOf x } r else c3 E t (x :: r)
def c1 (E : Codes) (t : TagP) : List (List UInt8) → TagP × Int
  | [] => c2 E t []
  | x :: r => if scriptL x then c2 E { t with script := titleOf x } r else c2 E t (x :: r)
def c0 (E : Codes) : List (List UInt8) → TagP × Int
  | [] => (TagP.zero, E.syn)
  | x :: r => if langB x then c1 E ⟨x, [], [], []⟩ r else (TagP.zero, E.syn)
/-- What is read from a text. -/
def parseP (E : Codes) (s : List UInt8) : TagP × Int := c0 E ((spOf s).map low)

/-! The separators. -/
theorem pre_one (c b : UInt8) (l : List UInt8) : [c].isPrefixOf (b :: l) = (c == b) := by simp [List.isPrefixOf]

theorem index_one (c : UInt8) (l : List UInt8) : (Lib.index l [c] = -1 ∧ c ∉ l) ∨ ∃ a b, l = a ++ c :: b ∧ c ∉ a ∧ Lib.index l [c] = (a.length : Int) := by
  induction l with
  | nil => exact .inl ⟨rfl, by simp⟩
  | cons x r ih =>
    by_cases hx : c = x
    · subst hx
      exact .inr ⟨[], r, rfl, by simp, by simp [Lib.index, List.isPrefixOf]⟩
    · rcases ih with ⟨h1, h2⟩ | ⟨a, b, rfl, h2, h3⟩
      · exact .inl ⟨by simp [Lib.index, List.isPrefixOf, hx, h1], by simp [hx, h2]⟩
      · refine .inr ⟨x :: a, b, rfl, by simp [hx, h2], ?_⟩
        have h4 : ¬ ((a.length : Int) = -1) := by omega
        simp [Lib.index, List.isPrefixOf, hx, h3, h4]

/-- Cut at one byte. -/
def sp1 (c : UInt8) : List UInt8 → List (List UInt8)
  | [] => [[]]
  | x :: r => if x == c then [] :: sp1 c r else match sp1 c r with
    | [] => [[x]]
    | y :: ys => (x :: y) :: ys
theorem sp1_none (c : UInt8) (l : List UInt8) (h : c ∉ l) : sp1 c l = [l] := by
  induction l with
  | nil => rfl
  | cons x r ih =>
    have h1 : ¬ x = c := fun e => h (by simp [e])
    simp [sp1, h1, ih (fun e => h (by simp [e]))]
theorem sp1_at (c : UInt8) (a b : List UInt8) (h : c ∉ a) : sp1 c (a ++ c :: b) = a :: sp1 c b := by
  induction a with
  | nil => simp [sp1]
  | cons x r ih =>
    have h1 : ¬ x = c := fun e => h (by simp [e])
    simp [sp1, h1, ih (fun e => h (by simp [e]))]

theorem splitK_one (c : UInt8) : ∀ (n : Nat) (l : List UInt8), l.length ≤ n → Lib.splitK [c] 0 (Lib.count l [c]) l = sp1 c l
  | n, l, hn => by
    rcases index_one c l with ⟨h1, h2⟩ | ⟨a, b, rfl, h2, h3⟩
    · rw [Lib.count_miss h1, sp1_none c l h2]; rfl
    · rw [Lib.count_hit (by simp) h3, sp1_at c a b h2, Nat.add_comm]
      unfold Lib.splitK
      have h4 : ¬ (Lib.index (a ++ c :: b) [c] == -1) = true := by rw [h3]; simp
      rw [if_neg h4, h3]
      have h5 : (a ++ c :: b).drop (a.length + [c].length) = b := by simp
      have h6 : ((a.length : Int).toNat + 0) = a.length := by omega
      have h7 : ((a.length : Int).toNat + [c].length) = a.length + [c].length := by omega
      rw [h6, h7, h5, List.take_left]
      match n, hn with
      | 0, hn => simp at hn
      | n + 1, hn => rw [splitK_one c n b (by simp at hn; omega)]
theorem split_one (c : UInt8) (l : List UInt8) : Lib.split l [c] = sp1 c l := splitK_one c _ l (Nat.le_refl _)

def rep1 (c d : UInt8) (x : UInt8) : UInt8 := if x == c then d else x
theorem rep1_none (c d : UInt8) (l : List UInt8) (h : c ∉ l) : l.map (rep1 c d) = l := by
  induction l with
  | nil => rfl
  | cons x r ih =>
    have h1 : ¬ x = c := fun e => h (by simp [e])
    rw [List.map_cons, ih (fun e => h (by simp [e]))]
    simp [rep1, h1]
theorem replaceK_one (c d : UInt8) : ∀ (n : Nat) (l : List UInt8), l.length ≤ n → Lib.replaceK [c] [d] (Lib.count l [c]) l = l.map (rep1 c d)
  | n, l, hn => by
    rcases index_one c l with ⟨h1, h2⟩ | ⟨a, b, rfl, h2, h3⟩
    · rw [Lib.count_miss h1, rep1_none c d l h2]; rfl
    · rw [Lib.count_hit (by simp) h3, Nat.add_comm, Lib.replaceK_hit _ _ _ _ _ h3]
      have h5 : (a ++ c :: b).drop (a.length + [c].length) = b := by simp
      rw [h5, List.take_left]
      match n, hn with
      | 0, hn => simp at hn
      | n + 1, hn => rw [replaceK_one c d n b (by simp at hn; omega), List.map_append, rep1_none c d a h2]; simp [rep1]
theorem replace_one (c d : UInt8) (h : c ≠ d) (l : List UInt8) : Lib.replaceAll l [c] [d] = l.map (rep1 c d) := by
  unfold Lib.replaceAll Lib.replace Lib.replaceNum
  have h1 : ([c] == [d]) = false := by simp [h]
  rw [h1, if_neg (by simp), if_pos (.inl (by decide))]
  exact replaceK_one c d _ l (Nat.le_refl _)

theorem sp_rep (l : List UInt8) : sp1 45 (l.map (rep1 95 45)) = spOf l := by
  induction l with
  | nil => rfl
  | cons x r ih =>
    rw [List.map_cons]
    unfold sp1 spOf
    rw [ih]
    by_cases h : isSep x = true
    · rw [if_pos h, if_pos]
      simp [isSep] at h
      rcases h with h | h <;> subst h <;> decide
    · have h1 : rep1 95 45 x = x := by simp [isSep] at h; simp [rep1, h]
      rw [if_neg h, h1, if_neg (by simp [isSep] at h; simp [h])]

/-- The parts that the program finds. -/
theorem parts_eq (l : List UInt8) : Lib.split (Lib.replaceAll l [95] [45]) [45] = spOf l := by
  rw [replace_one _ _ (by decide), split_one, sp_rep]

theorem spOf_ne (l : List UInt8) : spOf l ≠ [] := by
  cases l with
  | nil => simp [spOf]
  | cons c r =>
    unfold spOf
    split
    · simp
    · split <;> simp
theorem spOf_len (l : List UInt8) : (spOf l).length ≤ l.length + 1 := by
  induction l with
  | nil => simp [spOf]
  | cons c r ih =>
    unfold spOf
    split
    · simp; omega
    · split
      · simp
      · next x xs h => rw [h] at ih; simp at ih ⊢; omega
theorem spOf_sum (l : List UInt8) : ((spOf l).map List.length).sum ≤ l.length := by
  induction l with
  | nil => simp [spOf]
  | cons c r ih =>
    unfold spOf
    split
    · simp; omega
    · split
      · next h => simp
      · next x xs h => rw [h] at ih; simp at ih ⊢; omega
theorem spOf_mem (l : List UInt8) : ∀ x ∈ spOf l, x.length ≤ l.length := by
  intro x hx
  have h := spOf_sum l
  obtain ⟨a, b, h1⟩ := List.append_of_mem hx
  rw [h1] at h
  simp at h
  omega

theorem cap_low (c : UInt8) : isSep (lowC c) = isSep c := by
  unfold lowC
  split
  · next h =>
    simp [isCap, UInt8.le_iff_toNat_le] at h
    have h1 : (c + 32).toNat = c.toNat + 32 := by simp [UInt8.toNat_add]; omega
    have e1 : ∀ d : UInt8, (c + 32 == d) = decide (c.toNat + 32 = d.toNat) := fun d => by
      rw [Bool.eq_iff_iff]; simp [← UInt8.toNat_inj, h1]
    have e2 : ∀ d : UInt8, (c == d) = decide (c.toNat = d.toNat) := fun d => by
      rw [Bool.eq_iff_iff]; simp [← UInt8.toNat_inj]
    unfold isSep
    rw [e1, e1, e2, e2, Bool.eq_iff_iff]
    simp
    omega
  · rfl
theorem spOf_low (l : List UInt8) : spOf (low l) = (spOf l).map low := by
  induction l with
  | nil => rfl
  | cons c r ih =>
    show spOf (lowC c :: low r) = _
    unfold spOf
    rw [cap_low, ih]
    cases h : spOf r with
    | nil => exact absurd h (spOf_ne r)
    | cons x xs => by_cases h2 : isSep c = true <;> simp [h2, low]

/-! The forms of letters. -/
theorem low_small (c : UInt8) : isSmall (lowC c) = (isSmall c || isCap c) := by
  unfold lowC
  split
  · next h =>
    rw [h]
    simp [isCap, UInt8.le_iff_toNat_le] at h
    have h1 : (c + 32).toNat = c.toNat + 32 := by simp [UInt8.toNat_add]; omega
    simp [isSmall, UInt8.le_iff_toNat_le, h1]
    omega
  · next h => simp [h]
theorem up_cap (c : UInt8) : isCap (upC c) = (isSmall c || isCap c) := by
  unfold upC
  split
  · next h =>
    rw [h]
    simp [isSmall, UInt8.le_iff_toNat_le] at h
    have h1 : (c - 32).toNat = c.toNat - 32 := by rw [UInt8.toNat_sub_of_le _ _ (by rw [UInt8.le_iff_toNat_le]; simp; omega)]; rfl
    simp [isCap, UInt8.le_iff_toNat_le, h1]
    omega
  · next h => simp [h]
theorem low_dig (c : UInt8) : isDig (lowC c) = isDig c := by
  unfold lowC
  split
  · next h =>
    simp [isCap, UInt8.le_iff_toNat_le] at h
    have h1 : (c + 32).toNat = c.toNat + 32 := by simp [UInt8.toNat_add]; omega
    rw [Bool.eq_iff_iff]
    simp [isDig, UInt8.le_iff_toNat_le, h1]
    omega
  · rfl
theorem up_dig (c : UInt8) : isDig (upC c) = isDig c := by
  unfold upC
  split
  · next h =>
    simp [isSmall, UInt8.le_iff_toNat_le] at h
    have h1 : (c - 32).toNat = c.toNat - 32 := by rw [UInt8.toNat_sub_of_le _ _ (by rw [UInt8.le_iff_toNat_le]; simp; omega)]; rfl
    rw [Bool.eq_iff_iff]
    simp [isDig, UInt8.le_iff_toNat_le, h1]
    omega
  · rfl
theorem up_low (c : UInt8) : upC (lowC c) = upC c := by
  unfold lowC
  split
  · next h =>
    simp [isCap, UInt8.le_iff_toNat_le] at h
    have h1 : (c + 32).toNat = c.toNat + 32 := by simp [UInt8.toNat_add]; omega
    have h2 : isSmall (c + 32) = true := by simp [isSmall, UInt8.le_iff_toNat_le, h1]; omega
    have h3 : isSmall c = false := by rw [Bool.eq_false_iff]; simp [isSmall, UInt8.le_iff_toNat_le]; omega
    unfold upC
    rw [if_pos h2, if_neg (by simp [h3])]
    rw [← UInt8.toNat_inj, UInt8.toNat_sub_of_le _ _ (by rw [UInt8.le_iff_toNat_le, h1]; simp), h1]
    simp
  · rfl
theorem low_low (c : UInt8) : lowC (lowC c) = lowC c := by
  have h := low_small c
  unfold lowC at *
  split
  · next h1 =>
    rw [if_pos h1] at h
    rw [if_neg]
    rw [h1] at h
    simp [isSmall, isCap, UInt8.le_iff_toNat_le] at *
    omega
  · rfl
theorem low_up (c : UInt8) : lowC (upC c) = lowC c := by
  unfold upC
  split
  · next h =>
    simp [isSmall, UInt8.le_iff_toNat_le] at h
    have h1 : (c - 32).toNat = c.toNat - 32 := by rw [UInt8.toNat_sub_of_le _ _ (by rw [UInt8.le_iff_toNat_le]; simp; omega)]; rfl
    have h2 : isCap (c - 32) = true := by simp [isCap, UInt8.le_iff_toNat_le, h1]; omega
    have h3 : isCap c = false := by rw [Bool.eq_false_iff]; simp [isCap, UInt8.le_iff_toNat_le]; omega
    unfold lowC
    rw [if_pos h2, if_neg (by simp [h3])]
    simp
  · rfl

/-- A script in its own form, read in any. -/
theorem script_eq (x : List UInt8) : scriptB (upOf (x.take 1) ++ low (x.drop 1)) = scriptL (low x) := by
  cases x with
  | nil => rfl
  | cons c r =>
    simp [scriptB, scriptL, upOf, low, up_cap, low_small]
    rw [Bool.eq_iff_iff]
    simp
    constructor
    · rintro ⟨⟨h1, h2⟩, h3⟩; exact ⟨h1, h2, h3⟩
    · rintro ⟨h1, h2, h3⟩; exact ⟨⟨h1, h2⟩, h3⟩
theorem title_eq (x : List UInt8) : upOf (x.take 1) ++ low (x.drop 1) = titleOf (low x) := by
  cases x with
  | nil => rfl
  | cons c r => simp [titleOf, upOf, low, up_low]
theorem region_eq (x : List UInt8) : regionB (upOf x) = regionL (low x) := by
  have h1 : (upOf x).all isCap = (low x).all isSmall := by
    unfold upOf low
    rw [List.all_map, List.all_map]
    congr 1
    funext c
    simp [up_cap, low_small]
  have h2 : (upOf x).all isDig = (low x).all isDig := by
    unfold upOf low
    rw [List.all_map, List.all_map]
    congr 1
    funext c
    simp [up_dig, low_dig]
  unfold regionB regionL
  rw [h1, h2]
  simp [upOf, low]
theorem upOf_low (x : List UInt8) : upOf (low x) = upOf x := by
  unfold upOf low
  rw [List.map_map]
  congr 1
  funext c
  exact up_low c
end Go.Proofs.YtehcldnicefmeaaGreatDoor
namespace Go.Proofs.YtehcldnicefmeaaGreatDoor
set_option linter.unusedSimpArgs false
set_option linter.unusedVariables false

/-! The order of strings. -/
abbrev Srt (l : List (List UInt8)) : Prop := l.Pairwise fun x y => x ≤ y
theorem le_tot (a b : List UInt8) : a ≤ b ∨ b ≤ a := List.le_total a b
theorem le_tr (a b c : List UInt8) (h : a ≤ b) (k : b ≤ c) : a ≤ c := List.le_trans h k
theorem le_as (a b : List UInt8) (h : a ≤ b) (k : b ≤ a) : a = b := List.le_antisymm h k
theorem lt_le {a b : List UInt8} (h : a < b) : a ≤ b := fun h2 => List.lt_irrefl a (List.lt_trans h h2)
theorem nlt_le {a b : List UInt8} (h : ¬ a < b) : b ≤ a := h
theorem le_ne_lt {a b : List UInt8} (h : a ≤ b) (hn : a ≠ b) : a < b := Classical.byContradiction fun h2 => hn (le_as a b h (nlt_le h2))

theorem sortS_perm (l : List (List UInt8)) : (sortS l).Perm l := List.mergeSort_perm _ _
theorem sortS_srt (l : List (List UInt8)) : Srt (sortS l) := by
  have h := List.pairwise_mergeSort (le := fun x y : List UInt8 => decide (x ≤ y)) (fun a b c h1 h2 => by simp only [decide_eq_true_eq] at *; exact le_tr a b c h1 h2) (fun a b => by
    rcases le_tot a b with h | h <;> simp [h]) l
  exact h.imp (fun h => by simpa using h)
theorem srt_unique {a b : List (List UInt8)} (ha : Srt a) (hb : Srt b) (hp : a.Perm b) : a = b :=
  List.Perm.eq_of_pairwise (fun x y _ _ h1 h2 => le_as x y h1 h2) ha hb hp
theorem sortS_of {l a : List (List UInt8)} (ha : Srt a) (hp : a.Perm l) : sortS l = a :=
  srt_unique (sortS_srt l) ha ((sortS_perm l).trans hp.symm)
theorem sortS_len (l : List (List UInt8)) : (sortS l).length = l.length := (sortS_perm l).length_eq

/-- Where x goes in a sorted list. -/
def insK (l : List (List UInt8)) (x : List UInt8) : Nat := (l.takeWhile fun y => decide (y < x)).length
def insS (l : List (List UInt8)) (x : List UInt8) : List (List UInt8) := l.take (insK l x) ++ x :: l.drop (insK l x)
def insF (l : List (List UInt8)) (x : List UInt8) : Bool := match l.drop (insK l x) with
  | [] => false
  | y :: _ => y == x

theorem insK_le (l : List (List UInt8)) (x : List UInt8) : insK l x ≤ l.length := (List.takeWhile_sublist _).length_le
theorem insK_cons (y : List UInt8) (r : List (List UInt8)) (x : List UInt8) : insK (y :: r) x = if y < x then insK r x + 1 else 0 := by
  unfold insK
  by_cases h : y < x <;> simp [List.takeWhile_cons, h]
theorem insK_at {l : List (List UInt8)} {x : List UInt8} {k : Nat} (h1 : ∀ j y, j < k → l[j]? = some y → y < x) (h2 : ∀ y, l[k]? = some y → ¬ y < x) (hk : k ≤ l.length) : insK l x = k := by
  induction l generalizing k with
  | nil => simp at hk; subst hk; rfl
  | cons y r ih =>
    rw [insK_cons]
    cases k with
    | zero => rw [if_neg (h2 y rfl)]
    | succ k =>
      rw [if_pos (h1 0 y (by omega) rfl), ih (k := k) (fun j z hj hz => h1 (j + 1) z (Nat.succ_lt_succ hj) (by simpa using hz)) (fun z hz => h2 z (by simpa using hz)) (by simpa using hk)]

theorem insS_perm (l : List (List UInt8)) (x : List UInt8) : (insS l x).Perm (x :: l) := by
  unfold insS
  refine List.perm_middle.trans ?_
  rw [List.take_append_drop]
theorem insS_srt {l : List (List UInt8)} (h : Srt l) (x : List UInt8) : Srt (insS l x) := by
  induction l with
  | nil => simp [insS, Srt]
  | cons y r ih =>
    unfold Srt at *
    rw [List.pairwise_cons] at h
    unfold insS
    rw [insK_cons]
    by_cases hy : y < x
    · rw [if_pos hy]
      have h2 := ih h.2
      unfold insS at h2
      simp only [List.take_succ_cons, List.drop_succ_cons, List.cons_append, List.pairwise_cons]
      refine ⟨fun z hz => ?_, h2⟩
      rcases List.mem_append.1 hz with hz | hz
      · exact h.1 z (List.mem_of_mem_take hz)
      · rcases List.mem_cons.1 hz with rfl | hz
        · exact lt_le hy
        · exact h.1 z (List.mem_of_mem_drop hz)
    · rw [if_neg hy]
      simp only [List.take_zero, List.drop_zero, List.nil_append, List.pairwise_cons]
      refine ⟨fun z hz => ?_, h.1, h.2⟩
      rcases List.mem_cons.1 hz with rfl | hz
      · exact nlt_le hy
      · exact le_tr _ _ _ (nlt_le hy) (h.1 z hz)
theorem insF_iff {l : List (List UInt8)} (h : Srt l) (x : List UInt8) : insF l x = true ↔ x ∈ l := by
  induction l with
  | nil => simp [insF]
  | cons y r ih =>
    unfold Srt at *
    rw [List.pairwise_cons] at h
    unfold insF
    rw [insK_cons]
    by_cases hy : y < x
    · rw [if_pos hy]
      have h2 := ih h.2
      unfold insF at h2
      simp only [List.drop_succ_cons]
      rw [h2]
      have : x ≠ y := fun e => by subst e; exact List.lt_irrefl x hy
      simp [this]
    · rw [if_neg hy]
      simp only [List.drop_zero, List.mem_cons, beq_iff_eq]
      constructor
      · exact fun e => .inl e.symm
      · rintro (e | hm)
        · exact e.symm
        · exact (le_as x y (nlt_le hy) (h.1 x hm)).symm
theorem insF_false {l : List (List UInt8)} (h : Srt l) (x : List UInt8) : insF l x = decide (x ∈ l) := by
  rw [Bool.eq_iff_iff, insF_iff h]; simp

/-- Inserted one by one. -/
theorem insS_sort (l : List (List UInt8)) (x : List UInt8) : insS (sortS l) x = sortS (l ++ [x]) := by
  refine (sortS_of (insS_srt (sortS_srt l) x) ?_).symm
  exact ((insS_perm _ _).trans ((sortS_perm l).cons x)).trans (List.perm_append_singleton x l).symm
theorem nodup_snoc (l : List (List UInt8)) (x : List UInt8) : isNodup (l ++ [x]) = (isNodup l && !insF (sortS l) x) := by
  rw [insF_false (sortS_srt l)]
  unfold isNodup
  rw [Bool.eq_iff_iff]
  have h1 : x ∈ sortS l ↔ x ∈ l := (sortS_perm l).mem_iff
  simp [List.nodup_append, h1]
  intro _
  exact ⟨fun h e => h x e rfl, fun h a ha e => h (e ▸ ha)⟩

/-! What the program does instead: it sorts, and strikes neighbours that are equal. -/
theorem adj_srt {l : List (List UInt8)} (hs : Srt l) (ha : ∀ j, j + 1 < l.length → l[j]? ≠ l[j + 1]?) : l.Nodup := by
  induction l with
  | nil => simp
  | cons y r ih =>
    unfold Srt at hs
    rw [List.pairwise_cons] at hs
    rw [List.nodup_cons]
    refine ⟨fun hm => ?_, ih hs.2 (fun j hj => by have := ha (j + 1) (by simpa using hj); simpa using this)⟩
    cases r with
    | nil => simp at hm
    | cons z r =>
      have h0 := ha 0 (by simp)
      simp at h0
      have h1 : y ≤ z := hs.1 z (by simp)
      have h2 : z ≤ y := by
        rcases List.mem_cons.1 hm with rfl | hm
        · exact absurd rfl h0
        · have := hs.2
          rw [List.pairwise_cons] at this
          exact this.1 y hm
      exact h0 (le_as _ _ h1 h2)
theorem nodup_adj {l : List (List UInt8)} (h : l.Nodup) (j : Nat) (hj : j + 1 < l.length) : l[j]? ≠ l[j + 1]? := by
  intro e
  have := (List.getElem?_inj (by omega) h).1 e
  omega
theorem keeps_adj (l : List (List UInt8)) (j : Nat) (hj : j < l.length) : Lib.keeps l.toArray j = true ↔ (j = 0 ∨ l[j - 1]? ≠ l[j]?) := by
  unfold Lib.keeps
  rw [decide_eq_true_eq]
  have e1 : l.toArray[j]! = l[j] := by rw [getElem!_pos l.toArray j (by simpa using hj)]; simp
  have e2 : l.toArray[j - 1]! = l[j - 1] := by rw [getElem!_pos l.toArray (j - 1) (by simp; omega)]; simp
  rw [e1, e2, List.getElem?_eq_getElem hj, List.getElem?_eq_getElem (by omega : j - 1 < l.length)]
  simp only [ne_eq, Option.some.injEq]
  constructor
  · rintro (h | h)
    · exact .inl h
    · exact .inr fun e => h e.symm
  · rintro (h | h)
    · exact .inl h
    · exact .inr fun e => h e.symm
theorem compact_nodup {l : List (List UInt8)} (h : l.Nodup) : Lib.compact l = l := by
  refine Lib.compact_all l fun j hj => (keeps_adj l j hj).2 ?_
  cases j with
  | zero => exact .inl rfl
  | succ j => exact .inr (nodup_adj h j hj)
theorem compact_le (l : List (List UInt8)) : (Lib.compact l).length ≤ l.length := by
  unfold Lib.compact Lib.compactUpTo
  rw [List.length_map]
  refine Nat.le_trans (List.length_filter_le _ _) ?_
  simp
theorem compact_lt {l : List (List UInt8)} (hs : Srt l) (h : ¬ l.Nodup) : (Lib.compact l).length < l.length := by
  refine Nat.lt_of_le_of_ne (compact_le l) fun e => h (adj_srt hs fun j hj he => ?_)
  unfold Lib.compact Lib.compactUpTo at e
  rw [List.length_map] at e
  have h1 : ((List.range l.length).filter (Lib.keeps l.toArray)).length = (List.range l.length).length := by rw [e]; simp
  rw [List.length_filter_eq_length_iff] at h1
  have h2 := h1 (j + 1) (by simpa using hj)
  rw [keeps_adj l (j + 1) hj] at h2
  rcases h2 with h2 | h2
  · omega
  · exact h2 (by simpa using he)
theorem compact_sort (l : List (List UInt8)) : isNodup l = decide ((Lib.compact (sortS l)).length = l.length) := by
  have hn : (sortS l).Nodup ↔ l.Nodup := (sortS_perm l).nodup_iff
  unfold isNodup
  rw [Bool.eq_iff_iff]
  simp only [decide_eq_true_eq]
  constructor
  · intro h; rw [compact_nodup (hn.2 h), sortS_len]
  · intro h
    apply Classical.byContradiction
    intro h2
    have := compact_lt (sortS_srt l) (fun h3 => h2 (hn.1 h3))
    rw [sortS_len] at this
    omega

/-! Valid tags, and their texts. -/
def incB : List (List UInt8) → Bool
  | [] => true
  | x :: r => (match r with | [] => true | y :: _ => decide (x < y)) && incB r
def validP (t : TagP) : Bool :=
  langB t.lang && (t.script == [] || scriptB t.script) && (t.region == [] || regionB t.region) && t.vars.all variantB && incB t.vars && decide (t.vars.length ≤ 4)
def partsP (t : TagP) : List (List UInt8) := (t.lang :: t.script :: t.region :: t.vars).filter fun x => !(x == [])
def textP (t : TagP) : List UInt8 := Lib.join (partsP t) [45]
/-- As the document writes it. -/
def optP (x : List UInt8) : List UInt8 := if x == [] then [] else 45 :: x
def textR (t : TagP) : List UInt8 := t.lang ++ optP t.script ++ optP t.region ++ (t.vars.map fun x => 45 :: x).flatten

theorem incB_adj (l : List (List UInt8)) : incB l = true ↔ ∀ j x y, l[j]? = some x → l[j + 1]? = some y → x < y := by
  induction l with
  | nil => simp [incB]
  | cons a r ih =>
    unfold incB
    rw [Bool.and_eq_true, ih]
    constructor
    · rintro ⟨h1, h2⟩ j x y hx hy
      cases j with
      | zero =>
        cases r with
        | nil => simp at hy
        | cons b r => simp at hx hy; subst hx; subst hy; simpa using h1
      | succ j => exact h2 j x y (by simpa using hx) (by simpa using hy)
    · intro h
      refine ⟨?_, fun j x y hx hy => h (j + 1) x y (by simpa using hx) (by simpa using hy)⟩
      cases r with
      | nil => rfl
      | cons b r => simpa using h 0 a b (by simp) (by simp)
theorem incB_pw (l : List (List UInt8)) (h : incB l = true) : l.Pairwise fun x y => x < y := by
  induction l with
  | nil => exact List.Pairwise.nil
  | cons a r ih =>
    unfold incB at h
    rw [Bool.and_eq_true] at h
    have h2 := ih h.2
    refine List.pairwise_cons.2 ⟨fun z hz => ?_, h2⟩
    cases r with
    | nil => simp at hz
    | cons b r =>
      have h3 : a < b := by simpa using h.1
      rcases List.mem_cons.1 hz with rfl | hz
      · exact h3
      · exact List.lt_trans h3 ((List.pairwise_cons.1 h2).1 z hz)
theorem pw_incB (l : List (List UInt8)) (h : l.Pairwise fun x y => x < y) : incB l = true := by
  induction l with
  | nil => rfl
  | cons a r ih =>
    rw [List.pairwise_cons] at h
    unfold incB
    rw [ih h.2]
    cases r with
    | nil => rfl
    | cons b r => simpa using h.1 b (by simp)
theorem incB_iff (l : List (List UInt8)) : incB l = true ↔ Srt l ∧ l.Nodup := by
  constructor
  · intro h
    have h2 := incB_pw l h
    exact ⟨h2.imp lt_le, h2.imp fun {a b} hab e => by subst e; exact List.lt_irrefl a hab⟩
  · rintro ⟨h1, h2⟩
    exact pw_incB l ((h1.and h2).imp fun {a b} h => le_ne_lt h.1 h.2)

theorem lang_ne {x : List UInt8} (h : langB x = true) : x ≠ [] := by rintro rfl; simp [langB] at h
theorem script_ne {x : List UInt8} (h : scriptB x = true) : x ≠ [] := by rintro rfl; simp [scriptB] at h
theorem region_ne {x : List UInt8} (h : regionB x = true) : x ≠ [] := by rintro rfl; simp [regionB] at h
theorem variant_ne {x : List UInt8} (h : variantB x = true) : x ≠ [] := by rintro rfl; simp [variantB] at h

theorem join_tail (x : List UInt8) (r : List (List UInt8)) : Lib.join (x :: r) [45] = x ++ (r.map fun y => 45 :: y).flatten := by
  rw [Lib.join_cons]; rfl
/-- The two texts are one. -/
theorem text_eq (t : TagP) (h : validP t = true) : textR t = textP t := by
  simp only [validP, Bool.and_eq_true] at h
  obtain ⟨⟨⟨⟨⟨h1, h2⟩, h3⟩, h4⟩, h5⟩, h6⟩ := h
  have hv : t.vars.filter (fun x => !(x == [])) = t.vars := by
    rw [List.filter_eq_self]
    intro x hx
    have := variant_ne (List.all_eq_true.1 h4 x hx)
    simpa using this
  unfold textR textP partsP
  have hl : (!(t.lang == [])) = true := by simpa using lang_ne h1
  rw [List.filter_cons, if_pos hl, join_tail, List.filter_cons, List.filter_cons, hv]
  unfold optP
  by_cases hs : t.script = [] <;> by_cases hr : t.region = [] <;> simp [hs, hr]

/-! What is read is valid. -/
theorem scriptL_title {x : List UInt8} (h : scriptL x = true) : scriptB (titleOf x) = true := by
  cases x with
  | nil => simp [scriptL] at h
  | cons c r =>
    simp [scriptL] at h
    simp [scriptB, titleOf, up_cap, h]
    exact h.2.2
theorem regionL_up {x : List UInt8} (h : regionL x = true) : regionB (upOf x) = true := by
  have h2 := region_eq x
  rw [h2]
  unfold regionL at *
  have e1 : (low x).length = x.length := by simp [low]
  rw [e1]
  rcases Bool.or_eq_true_iff.1 h with h | h
  · rw [Bool.and_eq_true] at h
    rw [h.1]
    have : (low x).all isSmall = true := by
      unfold low
      rw [List.all_map, List.all_eq_true]
      intro c hc
      have := List.all_eq_true.1 h.2 c hc
      simp [low_small, this]
    simp [this]
  · rw [Bool.and_eq_true] at h
    rw [h.1]
    have : (low x).all isDig = true := by
      unfold low
      rw [List.all_map, List.all_eq_true]
      intro c hc
      have := List.all_eq_true.1 h.2 c hc
      simp [low_dig, this]
    simp [this]

/-- All of a tag but the order of its variants. -/
def preP (t : TagP) : Bool := langB t.lang && (t.script == [] || scriptB t.script) && (t.region == [] || regionB t.region) && t.vars.all variantB
theorem finT_valid (E : Codes) (hE : E.dup ≠ 0 ∧ E.lim ≠ 0) (t u : TagP) (hp : preP t = true) (h : finT E t = (u, 0)) : validP u = true := by
  unfold finT at h
  split at h
  · next hn =>
    split at h
    · next h4 =>
      injection h with h1 h2
      subst h1
      simp only [preP, Bool.and_eq_true] at hp
      obtain ⟨⟨⟨h1, h2⟩, h3⟩, h5⟩ := hp
      have hi : incB (sortS t.vars) = true := (incB_iff _).2 ⟨sortS_srt _, (sortS_perm _).nodup_iff.2 (by simpa [isNodup] using hn)⟩
      have ha : (sortS t.vars).all variantB = true := by
        rw [List.all_eq_true] at h5 ⊢
        exact fun x hx => h5 x ((sortS_perm _).mem_iff.1 hx)
      simp [validP, h1, h2, h3, hi, ha, sortS_len, h4]
      simp at h2 h3
      exact ⟨h2, h3⟩
    · injection h with h1 h2; exact absurd h2 hE.2
  · injection h with h1 h2; exact absurd h2 hE.1
theorem c2_cons (E : Codes) (t : TagP) (x r) : c2 E t (x :: r) = if regionL x then c3 E { t with region := upOf x } r else c3 E t (x :: r) := rfl
theorem c1_cons (E : Codes) (t : TagP) (x r) : c1 E t (x :: r) = if scriptL x then c2 E { t with script := titleOf x } r else c2 E t (x :: r) := rfl
theorem c3_valid (E : Codes) (hE : E.dup ≠ 0 ∧ E.lim ≠ 0 ∧ E.syn ≠ 0) (t u : TagP) (r : List (List UInt8)) (hp : preP t = true) (h : c3 E t r = (u, 0)) : validP u = true := by
  unfold c3 at h
  split at h
  · next ha =>
    refine finT_valid E ⟨hE.1, hE.2.1⟩ _ u ?_ h
    simp only [preP, Bool.and_eq_true] at hp ⊢
    exact ⟨hp.1, by rw [List.all_append, hp.2, ha]; rfl⟩
  · injection h with h1 h2; exact absurd h2 hE.2.2
theorem c2_valid (E : Codes) (hE : E.dup ≠ 0 ∧ E.lim ≠ 0 ∧ E.syn ≠ 0) (t u : TagP) (r : List (List UInt8)) (hp : preP t = true) (h : c2 E t r = (u, 0)) : validP u = true := by
  cases r with
  | nil => exact c3_valid E hE t u [] hp h
  | cons x r =>
    rw [c2_cons] at h
    split at h
    · next hx =>
      refine c3_valid E hE _ u r ?_ h
      simp only [preP, Bool.and_eq_true] at hp ⊢
      exact ⟨⟨hp.1.1, by simp [regionL_up hx]⟩, hp.2⟩
    · exact c3_valid E hE t u _ hp h
theorem c1_valid (E : Codes) (hE : E.dup ≠ 0 ∧ E.lim ≠ 0 ∧ E.syn ≠ 0) (t u : TagP) (r : List (List UInt8)) (hp : preP t = true) (h : c1 E t r = (u, 0)) : validP u = true := by
  cases r with
  | nil => exact c2_valid E hE t u [] hp h
  | cons x r =>
    rw [c1_cons] at h
    split at h
    · next hx =>
      refine c2_valid E hE _ u r ?_ h
      simp only [preP, Bool.and_eq_true] at hp ⊢
      exact ⟨⟨⟨hp.1.1.1, by simp [scriptL_title hx]⟩, hp.1.2⟩, hp.2⟩
    · exact c2_valid E hE t u _ hp h
theorem parse_valid (E : Codes) (hE : E.dup ≠ 0 ∧ E.lim ≠ 0 ∧ E.syn ≠ 0) (s : List UInt8) (u : TagP) (h : parseP E s = (u, 0)) : validP u = true := by
  unfold parseP c0 at h
  split at h
  · injection h with h1 h2; exact absurd h2 hE.2.2
  · split at h
    · next hl => exact c1_valid E hE _ u _ (by simp [preP, hl]) h
    · injection h with h1 h2; exact absurd h2 hE.2.2
/-- An error comes with the empty tag. -/
theorem finT_zero (E : Codes) (t : TagP) (h : (finT E t).2 ≠ 0) : (finT E t).1 = TagP.zero := by
  unfold finT at *
  split
  · split
    · next h1 h2 => rw [if_pos h1, if_pos h2] at h; exact absurd rfl h
    · rfl
  · rfl
theorem c3_zero (E : Codes) (t : TagP) (r) (h : (c3 E t r).2 ≠ 0) : (c3 E t r).1 = TagP.zero := by
  unfold c3 at *
  split
  · next h1 => rw [if_pos h1] at h; exact finT_zero E _ h
  · rfl
theorem c2_zero (E : Codes) (t : TagP) (r) (h : (c2 E t r).2 ≠ 0) : (c2 E t r).1 = TagP.zero := by
  cases r with
  | nil => exact c3_zero E t [] h
  | cons x r =>
    rw [c2_cons] at *
    split
    · next h1 => rw [if_pos h1] at h; exact c3_zero E _ _ h
    · next h1 => rw [if_neg h1] at h; exact c3_zero E _ _ h
theorem c1_zero (E : Codes) (t : TagP) (r) (h : (c1 E t r).2 ≠ 0) : (c1 E t r).1 = TagP.zero := by
  cases r with
  | nil => exact c2_zero E t [] h
  | cons x r =>
    rw [c1_cons] at *
    split
    · next h1 => rw [if_pos h1] at h; exact c2_zero E _ _ h
    · next h1 => rw [if_neg h1] at h; exact c2_zero E _ _ h
theorem parse_zero (E : Codes) (s : List UInt8) (h : (parseP E s).2 ≠ 0) : (parseP E s).1 = TagP.zero := by
  unfold parseP c0 at *
  split
  · rfl
  · next x r hx =>
    rw [hx] at h
    split
    · next h1 => simp only [h1, if_true] at h; exact c1_zero E _ _ h
    · rfl
end Go.Proofs.YtehcldnicefmeaaGreatDoor
namespace Go.Proofs.YtehcldnicefmeaaGreatDoor
set_option linter.unusedSimpArgs false
set_option linter.unusedVariables false

/-! A valid tag is read from its text. -/
theorem small_sep {c : UInt8} (h : isSmall c = true) : isSep c = false := by
  simp [isSmall, UInt8.le_iff_toNat_le] at h
  simp only [isSep, Bool.or_eq_false_iff, beq_eq_false_iff_ne, ne_eq]
  constructor <;> (rintro rfl; simp at h)
theorem cap_sep {c : UInt8} (h : isCap c = true) : isSep c = false := by
  simp [isCap, UInt8.le_iff_toNat_le] at h
  simp only [isSep, Bool.or_eq_false_iff, beq_eq_false_iff_ne, ne_eq]
  constructor <;> (rintro rfl; simp at h)
theorem dig_sep {c : UInt8} (h : isDig c = true) : isSep c = false := by
  simp [isDig, UInt8.le_iff_toNat_le] at h
  simp only [isSep, Bool.or_eq_false_iff, beq_eq_false_iff_ne, ne_eq]
  constructor <;> (rintro rfl; simp at h)
def noSep (x : List UInt8) : Prop := ∀ c ∈ x, isSep c = false
theorem lang_sep {x : List UInt8} (h : langB x = true) : noSep x := by
  unfold langB at h
  rw [Bool.and_eq_true] at h
  exact fun c hc => small_sep (List.all_eq_true.1 h.2 c hc)
theorem script_sep {x : List UInt8} (h : scriptB x = true) : noSep x := by
  cases x with
  | nil => intro c hc; simp at hc
  | cons a r =>
    simp [scriptB] at h
    intro c hc
    rcases List.mem_cons.1 hc with rfl | hc
    · exact cap_sep h.1.2
    · exact small_sep (h.2 c hc)
theorem region_sep {x : List UInt8} (h : regionB x = true) : noSep x := by
  unfold regionB at h
  rcases Bool.or_eq_true_iff.1 h with h | h <;> rw [Bool.and_eq_true] at h
  · exact fun c hc => cap_sep (List.all_eq_true.1 h.2 c hc)
  · exact fun c hc => dig_sep (List.all_eq_true.1 h.2 c hc)
theorem variant_eith {x : List UInt8} (h : variantB x = true) : x.all isEith = true := by
  unfold variantB at h; rw [Bool.and_eq_true] at h; exact h.1
theorem eith_sep {c : UInt8} (h : isEith c = true) : isSep c = false := by
  unfold isEith at h
  rcases Bool.or_eq_true_iff.1 h with h | h
  · exact small_sep h
  · exact dig_sep h
theorem variant_sep {x : List UInt8} (h : variantB x = true) : noSep x :=
  fun c hc => eith_sep (List.all_eq_true.1 (variant_eith h) c hc)

theorem spOf_one (x : List UInt8) (h : noSep x) : spOf x = [x] := by
  induction x with
  | nil => rfl
  | cons c r ih =>
    unfold spOf
    rw [if_neg (by simp [h c (by simp)]), ih (fun d hd => h d (by simp [hd]))]
theorem spOf_cons (c : UInt8) (r : List UInt8) : spOf (c :: r) = if isSep c then [] :: spOf r else match spOf r with
    | [] => [[c]]
    | x :: xs => (c :: x) :: xs := rfl
theorem spOf_app (x b : List UInt8) (d : UInt8) (hd : isSep d = true) : spOf (x ++ d :: b) = spOf x ++ spOf b := by
  induction x with
  | nil => simp [spOf, hd]
  | cons c r ih =>
    rw [List.cons_append, spOf_cons, spOf_cons, ih]
    by_cases hc : isSep c = true
    · rw [if_pos hc, if_pos hc]; rfl
    · rw [if_neg hc, if_neg hc]
      cases h : spOf r with
      | nil => exact absurd h (spOf_ne r)
      | cons y ys => rfl
theorem spOf_join (x : List UInt8) (r : List (List UInt8)) (h : ∀ y ∈ x :: r, noSep y) : spOf (x ++ (r.map fun y => 45 :: y).flatten) = x :: r := by
  induction r generalizing x with
  | nil => simpa using spOf_one x (h x (by simp))
  | cons y r ih =>
    rw [List.map_cons, List.flatten_cons, List.cons_append, spOf_app x _ 45 (by decide), spOf_one x (h x (by simp)), ih y (fun z hz => h z (by simp [hz]))]
    rfl

theorem partsP_eq (t : TagP) (h : validP t = true) : ∃ o q, partsP t = t.lang :: (o ++ (q ++ t.vars)) ∧ (t.script = [] ∧ o = [] ∨ scriptB t.script = true ∧ o = [t.script]) ∧ (t.region = [] ∧ q = [] ∨ regionB t.region = true ∧ q = [t.region]) := by
  simp only [validP, Bool.and_eq_true] at h
  obtain ⟨⟨⟨⟨⟨h1, h2⟩, h3⟩, h4⟩, h5⟩, h6⟩ := h
  have hv : t.vars.filter (fun x => !(x == [])) = t.vars := by
    rw [List.filter_eq_self]
    intro x hx
    have := variant_ne (List.all_eq_true.1 h4 x hx)
    simpa using this
  have hl : (!(t.lang == [])) = true := by simpa using lang_ne h1
  refine ⟨[t.script].filter fun x => !(x == []), [t.region].filter fun x => !(x == []), ?_, ?_, ?_⟩
  · unfold partsP
    rw [List.filter_cons, if_pos hl, List.filter_cons, List.filter_cons, hv]
    by_cases hs : t.script = [] <;> by_cases hr : t.region = [] <;> simp [hs, hr]
  · by_cases hs : t.script = []
    · exact .inl ⟨hs, by simp [hs]⟩
    · exact .inr ⟨by simpa [hs] using h2, by simp [hs]⟩
  · by_cases hs : t.region = []
    · exact .inl ⟨hs, by simp [hs]⟩
    · exact .inr ⟨by simpa [hs] using h3, by simp [hs]⟩
theorem parts_sep (t : TagP) (h : validP t = true) : ∀ y ∈ partsP t, noSep y := by
  obtain ⟨o, q, h1, h2, h3⟩ := partsP_eq t h
  simp only [validP, Bool.and_eq_true] at h
  intro y hy
  rw [h1] at hy
  rcases List.mem_cons.1 hy with rfl | hy
  · exact lang_sep h.1.1.1.1.1
  · rcases List.mem_append.1 hy with hy | hy
    · rcases h2 with ⟨_, rfl⟩ | ⟨h2, rfl⟩
      · simp at hy
      · simp at hy; subst hy; exact script_sep h2
    · rcases List.mem_append.1 hy with hy | hy
      · rcases h3 with ⟨_, rfl⟩ | ⟨h3, rfl⟩
        · simp at hy
        · simp at hy; subst hy; exact region_sep h3
      · exact variant_sep (List.all_eq_true.1 h.1.1.2 y hy)
theorem spOf_text (t : TagP) (h : validP t = true) : spOf (textP t) = partsP t := by
  have hs := parts_sep t h
  obtain ⟨o, q, h1, _, _⟩ := partsP_eq t h
  unfold textP
  rw [h1] at hs ⊢
  rw [join_tail, spOf_join _ _ hs]

theorem small_low {c : UInt8} (h : isSmall c = true) : lowC c = c := by
  unfold lowC
  rw [if_neg]
  simp [isSmall, isCap, UInt8.le_iff_toNat_le] at *
  omega
theorem dig_low {c : UInt8} (h : isDig c = true) : lowC c = c := by
  unfold lowC
  rw [if_neg]
  simp [isDig, isCap, UInt8.le_iff_toNat_le] at *
  omega
theorem cap_up {c : UInt8} (h : isCap c = true) : upC c = c := by
  unfold upC
  rw [if_neg]
  simp [isSmall, isCap, UInt8.le_iff_toNat_le] at *
  omega
theorem dig_up {c : UInt8} (h : isDig c = true) : upC c = c := by
  unfold upC
  rw [if_neg]
  simp [isDig, isSmall, UInt8.le_iff_toNat_le] at *
  omega
theorem low_id {x : List UInt8} (h : ∀ c ∈ x, lowC c = c) : low x = x := by
  unfold low
  conv => rhs; rw [← List.map_id x]
  exact List.map_congr_left h
theorem up_id {x : List UInt8} (h : ∀ c ∈ x, upC c = c) : upOf x = x := by
  unfold upOf
  conv => rhs; rw [← List.map_id x]
  exact List.map_congr_left h
theorem lang_low {x : List UInt8} (h : langB x = true) : low x = x := by
  unfold langB at h
  rw [Bool.and_eq_true] at h
  exact low_id fun c hc => small_low (List.all_eq_true.1 h.2 c hc)
theorem variant_low {x : List UInt8} (h : variantB x = true) : low x = x := by
  refine low_id fun c hc => ?_
  have := List.all_eq_true.1 (variant_eith h) c hc
  unfold isEith at this
  rcases Bool.or_eq_true_iff.1 this with h | h
  · exact small_low h
  · exact dig_low h
theorem script_back {x : List UInt8} (h : scriptB x = true) : scriptL (low x) = true ∧ titleOf (low x) = x := by
  cases x with
  | nil => simp [scriptB] at h
  | cons a r =>
    have e : scriptB (upOf ((a :: r).take 1) ++ low ((a :: r).drop 1)) = scriptL (low (a :: r)) := script_eq _
    have h2 := h
    simp [scriptB] at h2
    have h3 : low r = r := low_id fun c hc => small_low (h2.2 c hc)
    have h4 : upOf ((a :: r).take 1) ++ low ((a :: r).drop 1) = a :: r := by simp [upOf, cap_up h2.1.2, h3]
    rw [h4] at e
    exact ⟨e.symm.trans h, by rw [← title_eq, h4]⟩
theorem region_back {x : List UInt8} (h : regionB x = true) : regionL (low x) = true ∧ upOf (low x) = x := by
  have h4 : upOf x = x := by
    refine up_id fun c hc => ?_
    unfold regionB at h
    rcases Bool.or_eq_true_iff.1 h with h | h <;> rw [Bool.and_eq_true] at h
    · exact cap_up (List.all_eq_true.1 h.2 c hc)
    · exact dig_up (List.all_eq_true.1 h.2 c hc)
  have e := region_eq x
  rw [h4] at e
  exact ⟨e.symm.trans h, by rw [upOf_low, h4]⟩
theorem script_iff (x : List UInt8) : scriptB x = (scriptL (low x) && titleOf (low x) == x) := by
  rw [Bool.eq_iff_iff, Bool.and_eq_true, beq_iff_eq]
  constructor
  · exact script_back
  · rintro ⟨h1, h2⟩
    rw [← h2]; exact scriptL_title h1
theorem region_iff (x : List UInt8) : regionB x = (regionL (low x) && upOf x == x) := by
  rw [Bool.eq_iff_iff, Bool.and_eq_true, beq_iff_eq]
  constructor
  · intro h
    have := region_back h
    exact ⟨this.1, by rw [← upOf_low]; exact this.2⟩
  · rintro ⟨h1, h2⟩
    have := regionL_up h1
    rw [upOf_low, h2] at this
    exact this
theorem variant_noscript {x : List UInt8} (h : variantB x = true) : scriptL x = false := by
  cases x with
  | nil => rfl
  | cons a r =>
    rw [Bool.eq_false_iff]
    intro h2
    simp [variantB] at h
    simp [scriptL] at h2
    have h3 := h2.2.1
    rcases h.2 with h4 | h4
    · omega
    · have h5 := h4.2
      simp [isSmall, isDig, UInt8.le_iff_toNat_le] at h3 h5
      omega
theorem variant_noregion {x : List UInt8} (h : variantB x = true) : regionL x = false := by
  rw [Bool.eq_false_iff]
  intro h2
  simp [variantB] at h
  simp [regionL] at h2
  omega
theorem region_noscript {x : List UInt8} (h : regionB x = true) : scriptL (low x) = false := by
  rw [Bool.eq_false_iff]
  intro h2
  simp [regionB] at h
  simp [scriptL, low] at h2
  omega
theorem finT_of (E : Codes) (t : TagP) (h : validP t = true) : finT E t = (t, 0) := by
  simp only [validP, Bool.and_eq_true] at h
  obtain ⟨⟨_, h5⟩, h6⟩ := h
  obtain ⟨h7, h8⟩ := (incB_iff _).1 h5
  unfold finT
  rw [if_pos (by simpa [isNodup] using h8), if_pos (by simpa using h6), sortS_of h7 (List.Perm.refl _)]

theorem low_vars {l : List (List UInt8)} (h : l.all variantB = true) : l.map low = l := by
  conv => rhs; rw [← List.map_id l]
  exact List.map_congr_left fun x hx => variant_low (List.all_eq_true.1 h x hx)
theorem c2_vars (E : Codes) (t : TagP) (v : List (List UInt8)) (h : v.all variantB = true) : c2 E t v = c3 E t v := by
  cases v with
  | nil => rfl
  | cons x r => rw [c2_cons, if_neg (by simp [variant_noregion (List.all_eq_true.1 h x (by simp))])]
theorem c1_vars (E : Codes) (t : TagP) (v : List (List UInt8)) (h : v.all variantB = true) : c1 E t v = c3 E t v := by
  cases v with
  | nil => rfl
  | cons x r => rw [c1_cons, if_neg (by simp [variant_noscript (List.all_eq_true.1 h x (by simp))]), c2_vars E t _ h]

theorem parse_text (E : Codes) (t : TagP) (h : validP t = true) : parseP E (textP t) = (t, 0) := by
  have hp := partsP_eq t h
  have hf := finT_of E t h
  have hv : t.vars.all variantB = true := by simp only [validP, Bool.and_eq_true] at h; exact h.1.1.2
  have hl : langB t.lang = true := by simp only [validP, Bool.and_eq_true] at h; exact h.1.1.1.1.1
  obtain ⟨o, q, h1, h2, h3⟩ := hp
  unfold parseP
  rw [spOf_text t h, h1, List.map_cons, List.map_append, List.map_append, low_vars hv, lang_low hl]
  show (if langB t.lang then _ else _) = _
  rw [if_pos hl]
  have hc3 : ∀ u : TagP, u.lang = t.lang → u.script = t.script → u.region = t.region → u.vars = [] → c3 E u t.vars = (t, 0) := by
    intro u e1 e2 e3 e4
    unfold c3
    rw [if_pos hv, e4, List.nil_append, ← hf]
    congr 1
    cases u; cases t
    simp_all
  have hc2 : ∀ u : TagP, u.lang = t.lang → u.script = t.script → u.region = [] → u.vars = [] → c2 E u (q.map low ++ t.vars) = (t, 0) := by
    intro u e1 e2 e3 e4
    rcases h3 with ⟨h3, rfl⟩ | ⟨h3, rfl⟩
    · simp only [List.map_nil, List.nil_append]
      rw [c2_vars E u _ hv]
      exact hc3 u e1 e2 (e3.trans h3.symm) e4
    · simp only [List.map_cons, List.map_nil, List.cons_append, List.nil_append]
      rw [c2_cons, if_pos (region_back h3).1]
      exact hc3 _ e1 e2 (region_back h3).2 e4
  rcases h2 with ⟨h2, rfl⟩ | ⟨h2, rfl⟩
  · simp only [List.map_nil, List.nil_append]
    rcases h3 with ⟨h3, rfl⟩ | ⟨h3, rfl⟩
    · simp only [List.map_nil, List.nil_append]
      rw [c1_vars E _ _ hv]
      exact hc3 _ rfl h2.symm h3.symm rfl
    · simp only [List.map_cons, List.map_nil, List.cons_append, List.nil_append] at hc2 ⊢
      rw [c1_cons, if_neg (by simp [region_noscript h3])]
      exact hc2 _ rfl h2.symm rfl rfl
  · simp only [List.map_cons, List.map_nil, List.cons_append, List.nil_append]
    rw [c1_cons, if_pos (script_back h2).1]
    exact hc2 _ rfl (script_back h2).2 rfl rfl

theorem text_inj (t u : TagP) (ht : validP t = true) (hu : validP u = true) (h : textP t = textP u) : t = u := by
  have h1 := parse_text ⟨1, 1, 1⟩ t ht
  rw [h, parse_text _ u hu] at h1
  injection h1 with h1 _
  exact h1.symm

/-! Spelling. -/
def normC (c : UInt8) : UInt8 := if isSep c then 45 else lowC c
theorem spOf_norm (l : List UInt8) : (spOf l).map low = spOf (l.map normC) := by
  induction l with
  | nil => rfl
  | cons c r ih =>
    rw [List.map_cons]
    unfold spOf
    rw [← ih]
    by_cases hc : isSep c = true
    · rw [if_pos hc, if_pos (by simp [normC, hc]; decide)]; rfl
    · have e : normC c = lowC c := by simp [normC, hc]
      rw [if_neg hc, if_neg (by rw [e, cap_low]; exact hc), e]
      cases h : spOf r with
      | nil => exact absurd h (spOf_ne r)
      | cons y ys => rfl
def spellC (c : UInt8) (b : Nat) : UInt8 := if b % 2 = 1 then (if upC c == 45 then 95 else upC c) else lowC c
def spellL : List UInt8 → Nat → List UInt8
  | [], _ => []
  | c :: r, b => spellC c b :: spellL r (b / 2)
theorem up_sep (c : UInt8) : isSep (upC c) = isSep c := by
  rw [← cap_low (upC c), low_up, cap_low]
theorem norm_spell (c : UInt8) (b : Nat) : normC (spellC c b) = normC c := by
  unfold spellC
  split
  · have e1 : normC (upC c) = normC c := by unfold normC; rw [up_sep, low_up]
    split
    · next h =>
      rw [beq_iff_eq] at h
      rw [← e1, h]
      decide
    · exact e1
  · unfold normC
    rw [cap_low, low_low]
theorem spell_norm (l : List UInt8) (b : Nat) : (spellL l b).map normC = l.map normC := by
  induction l generalizing b with
  | nil => rfl
  | cons c r ih => simp [spellL, norm_spell, ih]
theorem parse_spell (E : Codes) (l : List UInt8) (b : Nat) : parseP E (spellL l b) = parseP E l := by
  unfold parseP
  rw [spOf_norm, spOf_norm, spell_norm]
theorem spell_len (l : List UInt8) (b : Nat) : (spellL l b).length = l.length := by
  induction l generalizing b with
  | nil => rfl
  | cons c r ih => simp [spellL, ih]

/-! The order of variants. -/
theorem finT_perm (E : Codes) (t : TagP) (v v' : List (List UInt8)) (h : v.Perm v') : finT E { t with vars := v } = finT E { t with vars := v' } := by
  have h1 : isNodup v = isNodup v' := by unfold isNodup; rw [Bool.eq_iff_iff]; simp [h.nodup_iff]
  have h2 : sortS v = sortS v' := sortS_of (sortS_srt v') ((sortS_perm v').trans h.symm)
  unfold finT
  simp only [h1, h.length_eq, h2]
theorem c3_perm (E : Codes) (t : TagP) (r v v' : List (List UInt8)) (h : v.Perm v') : c3 E t (r ++ v) = c3 E t (r ++ v') := by
  have h1 : v.all variantB = v'.all variantB := by
    rw [Bool.eq_iff_iff, List.all_eq_true, List.all_eq_true]
    exact ⟨fun k x hx => k x (h.mem_iff.2 hx), fun k x hx => k x (h.mem_iff.1 hx)⟩
  unfold c3
  rw [List.all_append, List.all_append, h1, finT_perm E t _ _ ((h.append_left r).append_left t.vars)]
theorem c2_perm (E : Codes) (t : TagP) (r v v' : List (List UInt8)) (h : v.Perm v') (hv : v.all variantB = true) : c2 E t (r ++ v) = c2 E t (r ++ v') := by
  cases r with
  | nil =>
    have hv' : v'.all variantB = true := List.all_eq_true.2 fun x hx => List.all_eq_true.1 hv x (h.mem_iff.2 hx)
    rw [List.nil_append, List.nil_append, c2_vars E t v hv, c2_vars E t v' hv']
    exact c3_perm E t [] v v' h
  | cons x r =>
    rw [List.cons_append, List.cons_append, c2_cons, c2_cons, c3_perm E _ r v v' h, ← List.cons_append, ← List.cons_append, c3_perm E t (x :: r) v v' h]
theorem c1_perm (E : Codes) (t : TagP) (r v v' : List (List UInt8)) (h : v.Perm v') (hv : v.all variantB = true) : c1 E t (r ++ v) = c1 E t (r ++ v') := by
  cases r with
  | nil =>
    have hv' : v'.all variantB = true := List.all_eq_true.2 fun x hx => List.all_eq_true.1 hv x (h.mem_iff.2 hx)
    rw [List.nil_append, List.nil_append, c1_vars E t v hv, c1_vars E t v' hv']
    exact c3_perm E t [] v v' h
  | cons x r =>
    rw [List.cons_append, List.cons_append, c1_cons, c1_cons, c2_perm E _ r v v' h hv, ← List.cons_append, ← List.cons_append, c2_perm E t (x :: r) v v' h hv]
theorem c0_perm (E : Codes) (r v v' : List (List UInt8)) (h : v.Perm v') (hv : v.all variantB = true) (hr : r ≠ []) : c0 E (r ++ v) = c0 E (r ++ v') := by
  cases r with
  | nil => exact absurd rfl hr
  | cons x r =>
    show (if langB x then c1 E ⟨x, [], [], []⟩ (r ++ v) else _) = (if langB x then c1 E ⟨x, [], [], []⟩ (r ++ v') else _)
    rw [c1_perm E _ r v v' h hv]

/-- a, and each of l behind a hyphen. -/
def hang (a : List UInt8) (l : List (List UInt8)) : List UInt8 := a ++ (l.map fun x => 45 :: x).flatten
theorem hang_snoc (a : List UInt8) (l : List (List UInt8)) (x : List UInt8) : hang a (l ++ [x]) = hang a l ++ 45 :: x := by simp [hang]
theorem spOf_hang (a : List UInt8) (l : List (List UInt8)) : spOf (hang a l) = spOf a ++ (l.map spOf).flatten := by
  induction l generalizing a with
  | nil => simp [hang]
  | cons x r ih =>
    have e : hang a (x :: r) = hang (a ++ 45 :: x) r := by simp [hang]
    rw [e, ih, spOf_app a x 45 (by decide)]
    simp
theorem parse_hang (E : Codes) (s : List UInt8) (l l' : List (List UInt8)) (hp : l.Perm l') (hv : ∀ x ∈ l, (spOf x).all variantB = true) : parseP E (hang s l) = parseP E (hang s l') := by
  have e : ∀ k : List (List UInt8), (∀ x ∈ k, (spOf x).all variantB = true) → ((k.map spOf).flatten).all variantB = true := by
    intro k hk
    rw [List.all_eq_true]
    intro x hx
    obtain ⟨y, hy, hx⟩ := List.mem_flatten.1 hx
    obtain ⟨z, hz, rfl⟩ := List.mem_map.1 hy
    exact List.all_eq_true.1 (hk z hz) x hx
  have hv' : ∀ x ∈ l', (spOf x).all variantB = true := fun x hx => hv x (hp.mem_iff.2 hx)
  unfold parseP
  rw [spOf_hang, spOf_hang, List.map_append, List.map_append, low_vars (e l hv), low_vars (e l' hv')]
  refine c0_perm E _ _ _ ?_ (e l hv) (by simp [spOf_ne])
  exact (hp.map spOf).flatten

theorem lang_und {t : TagP} (hl : langB t.lang = true) {x r : List UInt8} (h : t.lang ++ r = 117 :: 110 :: 100 :: 45 :: x) (hr : r = [] ∨ r.head? = some 45) : t.lang = [117, 110, 100] ∧ r = 45 :: x := by
  have hs := lang_sep hl
  simp only [langB, Bool.and_eq_true, Bool.or_eq_true, decide_eq_true_eq] at hl
  match hm : t.lang, hl.1 with
  | [a, b], _ =>
    rw [hm] at h
    simp at h
    rcases hr with rfl | hr
    · simp at h
    · rw [h.2.2] at hr; simp at hr
  | [a, b, c], _ =>
    rw [hm] at h
    simp at h
    exact ⟨by simp [h.1, h.2.1, h.2.2.1], h.2.2.2⟩
theorem flat_head (l : List (List UInt8)) : (l.map fun x => (45 : UInt8) :: x).flatten = [] ∨ ((l.map fun x => (45 : UInt8) :: x).flatten).head? = some 45 := by
  cases l with
  | nil => exact .inl rfl
  | cons x r => exact .inr (by simp)
theorem opt_head (x r : List UInt8) (h : r = [] ∨ r.head? = some 45) : optP x ++ r = [] ∨ (optP x ++ r).head? = some 45 := by
  unfold optP
  split
  · simpa using h
  · exact .inr (by simp)
/-- What stands behind 'und-' and begins with no script and no region. -/
theorem und_variants (t : TagP) (hv : validP t = true) (x : List UInt8) (h : textR t = 117 :: 110 :: 100 :: 45 :: x) (h4 : 4 ≤ x.length) (h3 : x[3]? ≠ some 45) (h0 : ∀ c, x[0]? = some c → isCap c = false) :
    (spOf x).all variantB = true := by
  simp only [validP, Bool.and_eq_true] at hv
  obtain ⟨⟨⟨⟨⟨v1, v2⟩, v3⟩, v4⟩, v5⟩, v6⟩ := hv
  unfold textR at h
  rw [List.append_assoc, List.append_assoc] at h
  obtain ⟨_, h⟩ := lang_und v1 h (opt_head _ _ (opt_head _ _ (flat_head _)))
  by_cases hs : t.script = []
  · rw [show optP t.script = [] from by simp [optP, hs], List.nil_append] at h
    by_cases hr : t.region = []
    · rw [show optP t.region = [] from by simp [optP, hr], List.nil_append] at h
      cases hvs : t.vars with
      | nil => rw [hvs] at h; simp at h
      | cons y r =>
        rw [hvs] at h v4
        simp only [List.map_cons, List.flatten_cons, List.cons_append, List.cons.injEq, true_and] at h
        rw [← h, spOf_join y r (fun z hz => variant_sep (List.all_eq_true.1 v4 z hz))]
        exact v4
    · exfalso
      have hb : regionB t.region = true := by simpa [hr] using v3
      rw [show optP t.region = 45 :: t.region from by simp [optP, hr]] at h
      simp only [List.cons_append, List.cons.injEq, true_and] at h
      unfold regionB at hb
      rcases Bool.or_eq_true_iff.1 hb with hb | hb <;> rw [Bool.and_eq_true, decide_eq_true_eq] at hb
      · match hm : t.region, hb.1 with
        | [a, b], _ =>
          rw [hm] at h hb
          have := h0 a (by rw [← h]; rfl)
          simp [this] at hb
      · match hm : t.region, hb.1 with
        | [a, b, c], _ =>
          rw [hm] at h
          rcases flat_head t.vars with e | e
          · rw [e] at h; subst h; simp at h4
          · refine h3 ?_
            rw [← h]
            generalize (t.vars.map fun x => (45 : UInt8) :: x).flatten = F at e
            cases F with
            | nil => simp at e
            | cons f F => simp at e; subst e; rfl
  · exfalso
    have hb : scriptB t.script = true := by simpa [hs] using v2
    rw [show optP t.script = 45 :: t.script from by simp [optP, hs]] at h
    simp only [List.cons_append, List.cons.injEq, true_and] at h
    cases hm : t.script with
    | nil => exact hs hm
    | cons a r =>
      rw [hm] at h hb
      have := h0 a (by rw [← h]; rfl)
      simp [scriptB, this] at hb

/-! Ancestors. -/
def undP : List UInt8 := [117, 110, 100]
def upP (t : TagP) : Option TagP :=
  if t.vars ≠ [] then some { t with vars := t.vars.take (t.vars.length - 1) }
  else if t.region ≠ [] then some { t with region := [] }
  else if t.script ≠ [] then some { t with script := [] }
  else if t.lang ≠ undP then some { t with lang := undP }
  else none
def rankP (t : TagP) : Nat := t.vars.length + (if t.region = [] then 0 else 1) + (if t.script = [] then 0 else 1) + (if t.lang = undP then 0 else 1)
theorem rank_le {t : TagP} (h : validP t = true) : rankP t ≤ 7 := by
  simp only [validP, Bool.and_eq_true, decide_eq_true_eq] at h
  unfold rankP
  split <;> split <;> split <;> omega
theorem up_valid {t u : TagP} (h : validP t = true) (hu : upP t = some u) : validP u = true ∧ rankP u + 1 = rankP t := by
  simp only [validP, Bool.and_eq_true, decide_eq_true_eq] at h
  obtain ⟨⟨⟨⟨⟨v1, v2⟩, v3⟩, v4⟩, v5⟩, v6⟩ := h
  unfold upP at hu
  split at hu
  · next hv =>
    injection hu with hu
    subst hu
    have hl : 0 < t.vars.length := List.length_pos_iff.2 hv
    constructor
    · have e1 : (t.vars.take (t.vars.length - 1)).all variantB = true := by
        rw [List.all_eq_true] at v4 ⊢
        exact fun x hx => v4 x (List.mem_of_mem_take hx)
      have e2 : incB (t.vars.take (t.vars.length - 1)) = true := by
        refine pw_incB _ ((incB_pw _ v5).sublist (List.take_sublist _ _))
      simp only [validP, Bool.and_eq_true, decide_eq_true_eq]
      exact ⟨⟨⟨⟨⟨v1, v2⟩, v3⟩, e1⟩, e2⟩, by rw [List.length_take]; omega⟩
    · simp only [rankP, List.length_take]
      omega
  · next hv =>
    have hv : t.vars = [] := Classical.byContradiction hv
    split at hu
    · next hr =>
      injection hu with hu
      subst hu
      constructor
      · simp only [validP, Bool.and_eq_true, decide_eq_true_eq]
        exact ⟨⟨⟨⟨⟨v1, v2⟩, by simp⟩, v4⟩, v5⟩, v6⟩
      · simp only [rankP, if_neg hr]; simp; omega
    · next hr =>
      split at hu
      · next hs =>
        injection hu with hu
        subst hu
        constructor
        · simp only [validP, Bool.and_eq_true, decide_eq_true_eq]
          exact ⟨⟨⟨⟨⟨v1, by simp⟩, v3⟩, v4⟩, v5⟩, v6⟩
        · simp only [rankP, if_neg hs]; simp; omega
      · split at hu
        · next hl =>
          injection hu with hu
          subst hu
          constructor
          · simp only [validP, Bool.and_eq_true, decide_eq_true_eq]
            exact ⟨⟨⟨⟨⟨by decide, v2⟩, v3⟩, v4⟩, v5⟩, v6⟩
          · simp only [rankP, if_neg hl]; simp
        · cases hu
theorem up_none {t : TagP} (hu : upP t = none) : t = ⟨undP, [], [], []⟩ := by
  unfold upP at hu
  split at hu
  · cases hu
  · next h1 =>
    split at hu
    · cases hu
    · next h2 =>
      split at hu
      · cases hu
      · next h3 =>
        split at hu
        · cases hu
        · next h4 =>
          cases t
          simp only [Classical.not_not] at h1 h2 h3 h4
          simp_all
theorem rank_zero {t : TagP} : upP t = none ↔ rankP t = 0 := by
  constructor
  · intro h
    rw [up_none h]; rfl
  · intro h
    unfold rankP at h
    have h1 : t.vars = [] := List.eq_nil_of_length_eq_zero (by omega)
    have h2 : t.region = [] := Classical.byContradiction fun e => by rw [if_neg e] at h; omega
    have h3 : t.script = [] := Classical.byContradiction fun e => by rw [if_neg e] at h; omega
    have h4 : t.lang = undP := Classical.byContradiction fun e => by rw [if_neg e] at h; omega
    simp [upP, h1, h2, h3, h4]
/-- The ancestors: as many as the rank. -/
def ancP : Nat → TagP → List TagP
  | 0, _ => []
  | n + 1, t => match upP t with
    | none => []
    | some u => u :: ancP n u
def ancs (t : TagP) : List TagP := ancP (rankP t) t
theorem ancs_up {t u : TagP} (h : validP t = true) (hu : upP t = some u) : ancs t = u :: ancs u := by
  unfold ancs
  rw [← (up_valid h hu).2]
  simp only [ancP, hu]
theorem ancs_none {t : TagP} (hu : upP t = none) : ancs t = [] := by
  unfold ancs
  rw [rank_zero.1 hu]
  rfl
theorem ancs_len : ∀ (n : Nat) (t : TagP), validP t = true → rankP t = n → (ancs t).length = n
  | 0, t, h, hn => by rw [ancs_none (rank_zero.2 hn)]; rfl
  | n + 1, t, h, hn => by
    cases hu : upP t with
    | none => rw [rank_zero.1 hu] at hn; omega
    | some u =>
      obtain ⟨h1, h2⟩ := up_valid h hu
      rw [ancs_up h hu, List.length_cons, ancs_len n u h1 (by omega)]
/-- The chain: each is the parent of the one before, valid, and one less in rank. -/
theorem ancs_chain (t : TagP) (h : validP t = true) (i : Nat) (hi : i < (ancs t).length) : ∃ a u, (t :: ancs t)[i]? = some a ∧ (ancs t)[i]? = some u ∧ upP a = some u ∧ validP u = true ∧ validP a = true ∧ rankP u + i + 1 = rankP t := by
  induction i generalizing t with
  | zero =>
    cases hu : upP t with
    | none => rw [ancs_none hu] at hi; simp at hi
    | some u =>
      rw [ancs_up h hu]
      have := up_valid h hu
      exact ⟨t, u, rfl, rfl, hu, this.1, h, by omega⟩
  | succ i ih =>
    cases hu : upP t with
    | none => rw [ancs_none hu] at hi; simp at hi
    | some u =>
      have h2 := up_valid h hu
      rw [ancs_up h hu] at hi ⊢
      obtain ⟨a, v, k1, k2, k3, k4, k5, k6⟩ := ih u h2.1 (by simpa using hi)
      exact ⟨a, v, by simpa using k1, by simpa using k2, k3, k4, k5, by omega⟩
theorem text_und : textP ⟨undP, [], [], []⟩ = undP := by decide
theorem valid_und : validP ⟨undP, [], [], []⟩ = true := by decide
theorem textP_len {t : TagP} (h : validP t = true) : (textP t).length ≤ 60 := by
  have e := text_eq t h
  rw [← e]
  simp only [validP, Bool.and_eq_true, decide_eq_true_eq] at h
  obtain ⟨⟨⟨⟨⟨v1, v2⟩, v3⟩, v4⟩, v5⟩, v6⟩ := h
  have l1 : t.lang.length ≤ 3 := by simp [langB] at v1; omega
  have l2 : (optP t.script).length ≤ 5 := by
    unfold optP
    split
    · simp
    · next hs => simp at hs; simp [hs, scriptB] at v2; simp; omega
  have l3 : (optP t.region).length ≤ 4 := by
    unfold optP
    split
    · simp
    · next hs => simp at hs; simp [hs, regionB] at v3; simp; omega
  have l4 : ∀ (l : List (List UInt8)), l.all variantB = true → ((l.map fun x => (45 : UInt8) :: x).flatten).length ≤ 9 * l.length := by
    intro l
    induction l with
    | nil => intro; simp
    | cons x r ih =>
      intro h
      rw [List.all_cons, Bool.and_eq_true] at h
      have := ih h.2
      have hx := h.1
      simp [variantB] at hx
      simp only [List.map_cons, List.flatten_cons, List.length_append, List.length_cons] at this ⊢
      omega
  have := l4 _ v4
  unfold textR
  simp only [List.length_append]
  omega
end Go.Proofs.YtehcldnicefmeaaGreatDoor
namespace Go.Proofs.YtehcldnicefmeaaGreatDoor
set_option linter.unusedSimpArgs false
set_option linter.unusedVariables false

/-! Distances of tags, in plain words. -/
structure NearP where
  f : List UInt8
  o : List UInt8
  c : Int
def kindP (s : List UInt8) : Int :=
  if validP ⟨s, [], [], []⟩ = true then 1 else if (!(s == []) && validP ⟨undP, s, [], []⟩) = true then 2 else if (!(s == []) && validP ⟨undP, [], s, []⟩) = true then 3 else 0
def pairB (x : NearP) (a b : List UInt8) : Bool := (x.f == a && x.o == b) || (x.f == b && x.o == a)
def properN (x : NearP) : Bool := !(kindP x.f == 0) && (kindP x.f == kindP x.o) && !(x.f == x.o) && decide (1 ≤ x.c) && decide (x.c ≤ 99)
def newN (l : List NearP) (x : NearP) : Bool := l.all fun y => !pairB y x.f x.o
/-- Proper, and no pair twice. -/
def nearsB : List NearP → List NearP → Bool
  | _, [] => true
  | pre, x :: r => properN x && newN pre x && nearsB (pre ++ [x]) r
def validN (l : List NearP) : Bool := nearsB [] l && decide (l.length ≤ 200)
def subtagP (l : List NearP) (a b : List UInt8) (most : Int) : Int :=
  if a = b then 0 else match l.find? (fun x => pairB x a b) with
    | some x => x.c
    | none => most
def distP (l : List NearP) (a b : TagP) : Int :=
  subtagP l a.lang b.lang 100 + subtagP l a.script b.script 50 + subtagP l a.region b.region 5 + (if a.vars = b.vars then 0 else 1)

theorem pair_comm (x : NearP) (a b : List UInt8) : pairB x a b = pairB x b a := by unfold pairB; rw [Bool.or_comm]
theorem subtag_comm (l : List NearP) (a b : List UInt8) (m : Int) : subtagP l a b m = subtagP l b a m := by
  unfold subtagP
  by_cases h : a = b
  · rw [if_pos h, if_pos h.symm]
  · rw [if_neg h, if_neg (fun e => h e.symm)]
    have : (fun x => pairB x a b) = fun x => pairB x b a := by funext x; exact pair_comm x a b
    rw [this]
theorem dist_comm (l : List NearP) (a b : TagP) : distP l a b = distP l b a := by
  unfold distP
  rw [subtag_comm l a.lang, subtag_comm l a.script, subtag_comm l a.region]
  by_cases h : a.vars = b.vars
  · rw [if_pos h, if_pos h.symm]
  · rw [if_neg h, if_neg (fun e => h e.symm)]
theorem nears_proper : ∀ (r pre : List NearP), nearsB pre r = true → ∀ x ∈ r, properN x = true
  | [], _, _, x, hx => by cases hx
  | y :: r, pre, h, x, hx => by
    unfold nearsB at h
    simp only [Bool.and_eq_true] at h
    rcases List.mem_cons.1 hx with rfl | hx
    · exact h.1.1
    · exact nears_proper r _ h.2 x hx
theorem valid_costs {l : List NearP} (h : validN l = true) : ∀ x ∈ l, 1 ≤ x.c ∧ x.c ≤ 99 := by
  intro x hx
  unfold validN at h
  simp only [Bool.and_eq_true] at h
  have := nears_proper l [] h.1 x hx
  unfold properN at this
  simp only [Bool.and_eq_true, decide_eq_true_eq] at this
  exact ⟨this.1.2, this.2⟩
theorem subtag_bd {l : List NearP} (hl : ∀ x ∈ l, 1 ≤ x.c ∧ x.c ≤ 99) (a b : List UInt8) (m : Int) (hm : 1 ≤ m) : 0 ≤ subtagP l a b m ∧ subtagP l a b m ≤ max 99 m ∧ (subtagP l a b m = 0 ↔ a = b) := by
  unfold subtagP
  by_cases h : a = b
  · rw [if_pos h]
    exact ⟨Int.le_refl _, by omega, by simp [h]⟩
  · rw [if_neg h]
    cases hf : l.find? (fun x => pairB x a b) with
    | none => exact ⟨by simp only; omega, by simp only; omega, by simp only; constructor <;> intro h2 <;> first | exact absurd h2 h | omega⟩
    | some x =>
      obtain ⟨h1, h2⟩ := hl x (List.mem_of_find?_eq_some hf)
      exact ⟨by simp only; omega, by simp only; omega, by simp only; constructor <;> intro h3 <;> first | exact absurd h3 h | omega⟩
theorem dist_bd {l : List NearP} (hl : ∀ x ∈ l, 1 ≤ x.c ∧ x.c ≤ 99) (a b : TagP) : 0 ≤ distP l a b ∧ distP l a b ≤ 300 ∧ (distP l a b = 0 ↔ a = b) := by
  obtain ⟨h1, h2, h3⟩ := subtag_bd hl a.lang b.lang 100 (by decide)
  obtain ⟨g1, g2, g3⟩ := subtag_bd hl a.script b.script 50 (by decide)
  obtain ⟨k1, k2, k3⟩ := subtag_bd hl a.region b.region 5 (by decide)
  unfold distP
  by_cases hv : a.vars = b.vars
  · rw [if_pos hv]
    refine ⟨by omega, by omega, ?_⟩
    constructor
    · intro h
      have e1 := h3.1 (by omega)
      have e2 := g3.1 (by omega)
      have e3 := k3.1 (by omega)
      cases a; cases b
      simp only at e1 e2 e3 hv
      subst e1; subst e2; subst e3; subst hv
      rfl
    · rintro rfl
      have := h3.2 rfl
      have := g3.2 rfl
      have := k3.2 rfl
      omega
  · rw [if_neg hv]
    refine ⟨by omega, by omega, ?_⟩
    constructor
    · intro h; omega
    · rintro rfl; exact absurd rfl hv

/-! The tags of a list of texts. -/
def readP (E : Codes) : List (List UInt8) → List TagP × Int
  | [] => ([], 0)
  | s :: r => if (parseP E s).2 = 0 then (if (readP E r).2 = 0 then ((parseP E s).1 :: (readP E r).1, 0) else ([], (readP E r).2)) else ([], (parseP E s).2)

/-! An order by keys. -/
def ltB (l : List NearP) (t a b : TagP) : Bool := decide (distP l t a < distP l t b) || (distP l t a == distP l t b && decide (textP a < textP b))
theorem lt_irr (l : List NearP) (t a : TagP) : ltB l t a a = false := by
  unfold ltB
  simp [List.lt_irrefl]
theorem lt_tr {l : List NearP} {t a b c : TagP} (h : ltB l t a b = true) (k : ltB l t b c = true) : ltB l t a c = true := by
  unfold ltB at *
  simp only [Bool.or_eq_true, Bool.and_eq_true, decide_eq_true_eq, beq_iff_eq] at *
  rcases h with h | ⟨h1, h2⟩ <;> rcases k with k | ⟨k1, k2⟩
  · left; omega
  · left; omega
  · left; omega
  · right; exact ⟨by omega, List.lt_trans h2 k2⟩
theorem lt_as {l : List NearP} {t a b : TagP} (h : ltB l t a b = true) : ltB l t b a = false := by
  cases k : ltB l t b a with
  | false => rfl
  | true => have := lt_tr h k; rw [lt_irr] at this; cases this
theorem nlt_tr {l : List NearP} {t a b c : TagP} (h : ltB l t b a = false) (k : ltB l t c b = false) : ltB l t c a = false := by
  rw [← Bool.not_eq_true] at *
  unfold ltB at *
  simp only [Bool.or_eq_true, Bool.and_eq_true, decide_eq_true_eq, beq_iff_eq, not_or, not_and] at *
  obtain ⟨h1, h2⟩ := h
  obtain ⟨k1, k2⟩ := k
  refine ⟨by omega, fun e => ?_⟩
  have e1 : distP l t b = distP l t a := by omega
  have e2 : distP l t c = distP l t b := by omega
  intro hlt
  have g1 : textP a ≤ textP b := nlt_le (h2 e1)
  have g2 : textP b ≤ textP c := nlt_le (k2 e2)
  exact (le_tr _ _ _ g1 g2) hlt
theorem nlt_tot (l : List NearP) (t a b : TagP) : ltB l t b a = false ∨ ltB l t a b = false := by
  cases h : ltB l t b a with
  | false => exact .inl rfl
  | true => exact .inr (lt_as h)
/-- Of two tags with different texts one comes first. -/
theorem lt_of_ne {l : List NearP} {t a b : TagP} (h : ltB l t b a = false) (hn : textP a ≠ textP b) : ltB l t a b = true := by
  rw [← Bool.not_eq_true] at h
  unfold ltB at *
  simp only [Bool.or_eq_true, Bool.and_eq_true, decide_eq_true_eq, beq_iff_eq, not_or, not_and] at *
  obtain ⟨h1, h2⟩ := h
  by_cases hd : distP l t a < distP l t b
  · exact .inl hd
  · exact .inr ⟨by omega, le_ne_lt (nlt_le (h2 (by omega))) hn⟩
def atP (S : List TagP) (i : Nat) : TagP := S.getD i TagP.zero
def leI (l : List NearP) (t : TagP) (S : List TagP) (i j : Nat) : Bool := !ltB l t (atP S j) (atP S i)
/-- The indices in order. -/
def orderP (l : List NearP) (t : TagP) (S : List TagP) : List Nat := (List.range S.length).mergeSort (leI l t S)
theorem order_perm (l : List NearP) (t : TagP) (S : List TagP) : (orderP l t S).Perm (List.range S.length) := List.mergeSort_perm _ _
theorem order_srt (l : List NearP) (t : TagP) (S : List TagP) : (orderP l t S).Pairwise fun i j => ltB l t (atP S j) (atP S i) = false := by
  have h := List.pairwise_mergeSort (le := leI l t S) (fun a b c h k => by
    unfold leI at *
    simp only [Bool.not_eq_true'] at *
    exact nlt_tr h k) (fun a b => by
    unfold leI
    rcases nlt_tot l t (atP S a) (atP S b) with h | h
    · rw [h]; rfl
    · rw [h]; simp) (List.range S.length)
  refine h.imp fun {a b} h => ?_
  unfold leI at h
  simpa using h
theorem order_len (l : List NearP) (t : TagP) (S : List TagP) : (orderP l t S).length = S.length := by rw [(order_perm l t S).length_eq, List.length_range]
/-- Sorted lists of different indices with the same members are one. -/
theorem order_unique {l : List NearP} {t : TagP} {S : List TagP} (hS : ∀ i j, i < S.length → j < S.length → textP (atP S i) = textP (atP S j) → i = j) {a b : List Nat} (ha : a.Pairwise fun i j => ltB l t (atP S j) (atP S i) = false) (hb : b.Pairwise fun i j => ltB l t (atP S j) (atP S i) = false)
    (hp : a.Perm b) (hr : ∀ i ∈ a, i < S.length) : a = b := by
  refine List.Perm.eq_of_pairwise (le := fun i j => ltB l t (atP S j) (atP S i) = false) (fun i j hi hj h1 h2 => ?_) ha hb hp
  have hi' := hr i hi
  have hj' := hr j (hp.mem_iff.2 hj)
  by_cases he : textP (atP S i) = textP (atP S j)
  · exact hS i j hi' hj' he
  · have := lt_of_ne h1 he
    rw [h2] at this
    cases this

/-! The best one. -/
def nearB (l : List NearP) (t : TagP) (S : List TagP) (k : Nat) : Bool :=
  decide (distP l t (atP S k) ≤ 60) && (List.range S.length).all fun j => j == k || ltB l t (atP S k) (atP S j)
def bestT (l : List NearP) (t : TagP) (S : List TagP) : Option Nat := (List.range S.length).find? (nearB l t S)
def bestL (l : List NearP) (T S : List TagP) : Option Nat := T.findSome? fun t => bestT l t S
theorem near_iff {l : List NearP} {t : TagP} {S : List TagP} {k : Nat} : nearB l t S k = true ↔ distP l t (atP S k) ≤ 60 ∧ ∀ j, j < S.length → j ≠ k → ltB l t (atP S k) (atP S j) = true := by
  unfold nearB
  simp only [Bool.and_eq_true, decide_eq_true_eq, List.all_eq_true, List.mem_range, Bool.or_eq_true, beq_iff_eq]
  constructor
  · rintro ⟨h1, h2⟩
    exact ⟨h1, fun j hj hn => (h2 j hj).resolve_left hn⟩
  · rintro ⟨h1, h2⟩
    exact ⟨h1, fun j hj => Classical.or_iff_not_imp_left.2 (h2 j hj)⟩
theorem near_one {l : List NearP} {t : TagP} {S : List TagP} {i k : Nat} (hi : i < S.length) (hk : k < S.length) (h : nearB l t S i = true) (g : nearB l t S k = true) : i = k := by
  refine Classical.byContradiction fun hn => ?_
  have h1 := (near_iff.1 h).2 k hk (fun e => hn e.symm)
  have h2 := (near_iff.1 g).2 i hi hn
  rw [lt_as h1] at h2
  cases h2
theorem best_some {l : List NearP} {t : TagP} {S : List TagP} {k : Nat} : bestT l t S = some k ↔ k < S.length ∧ nearB l t S k = true := by
  unfold bestT
  constructor
  · intro h
    exact ⟨List.mem_range.1 (List.mem_of_find?_eq_some h), List.find?_some h⟩
  · rintro ⟨hk, hn⟩
    cases hf : (List.range S.length).find? (nearB l t S) with
    | none =>
      rw [List.find?_eq_none] at hf
      exact absurd hn (hf k (List.mem_range.2 hk))
    | some i =>
      rw [near_one (List.mem_range.1 (List.mem_of_find?_eq_some hf)) hk (List.find?_some hf) hn]
theorem best_none {l : List NearP} {t : TagP} {S : List TagP} : bestT l t S = none ↔ ∀ k, k < S.length → nearB l t S k = false := by
  unfold bestT
  rw [List.find?_eq_none]
  simp only [List.mem_range, Bool.not_eq_true]
/-- The first in the order. -/
theorem order_head {l : List NearP} {t : TagP} {S : List TagP} (hS : ∀ i j, i < S.length → j < S.length → textP (atP S i) = textP (atP S j) → i = j) {h : Nat} {r : List Nat} (ho : orderP l t S = h :: r) :
    h < S.length ∧ ∀ j, j < S.length → j ≠ h → ltB l t (atP S h) (atP S j) = true := by
  have hp := order_perm l t S
  have hs := order_srt l t S
  rw [ho] at hp hs
  have hh : h < S.length := List.mem_range.1 (hp.mem_iff.1 (by simp))
  refine ⟨hh, fun j hj hn => ?_⟩
  have hm : j ∈ h :: r := hp.mem_iff.2 (List.mem_range.2 hj)
  have hjr : j ∈ r := (List.mem_cons.1 hm).resolve_left hn
  have h1 := (List.pairwise_cons.1 hs).1 j hjr
  refine lt_of_ne h1 fun e => hn (hS h j hh hj e).symm
theorem best_head {l : List NearP} {t : TagP} {S : List TagP} (hS : ∀ i j, i < S.length → j < S.length → textP (atP S i) = textP (atP S j) → i = j) {h : Nat} {r : List Nat} (ho : orderP l t S = h :: r) :
    bestT l t S = if distP l t (atP S h) ≤ 60 then some h else none := by
  obtain ⟨hh, hlt⟩ := order_head hS ho
  by_cases hd : distP l t (atP S h) ≤ 60
  · rw [if_pos hd]
    exact best_some.2 ⟨hh, near_iff.2 ⟨hd, hlt⟩⟩
  · rw [if_neg hd]
    refine best_none.2 fun k hk => ?_
    rw [← Bool.not_eq_true]
    intro hn
    obtain ⟨g1, g2⟩ := near_iff.1 hn
    by_cases he : k = h
    · subst he; exact hd g1
    · have h1 := g2 h hh (fun e => he e.symm)
      rw [lt_as (hlt k hk he)] at h1
      cases h1
theorem best_nil {l : List NearP} {t : TagP} : bestT l t [] = none := rfl
end Go.Proofs.YtehcldnicefmeaaGreatDoor
namespace Go.Proofs.YtehcldnicefmeaaGreatDoor
set_option linter.unusedSimpArgs false
set_option linter.unusedVariables false

/-! Aliases, in plain words: a rule, what it fits, what it makes. -/
structure RuleP where
  f : TagP
  o : TagP
def fitsP (r : RuleP) (t : TagP) : Bool :=
  r.f.vars.all (fun v => t.vars.contains v) && (r.f.lang == undP || r.f.lang == t.lang) && (r.f.script == [] || r.f.script == t.script) && (r.f.region == [] || r.f.region == t.region)
def fieldP (f o t : List UInt8) : List UInt8 := if f != [] || t == [] then o else t
def varsP (f o t : List (List UInt8)) : List (List UInt8) := sortS ((t.filter fun v => !f.contains v && !o.contains v) ++ o)
def replP (r : RuleP) (t : TagP) : TagP :=
  ⟨if r.f.lang == undP && r.o.lang == undP then t.lang else r.o.lang, fieldP r.f.script r.o.script t.script, fieldP r.f.region r.o.region t.region, varsP r.f.vars r.o.vars t.vars⟩
def eqT (t u : TagP) : Bool := t.lang == u.lang && t.script == u.script && t.region == u.region && t.vars == u.vars
theorem eqT_iff (t u : TagP) : eqT t u = true ↔ t = u := by
  obtain ⟨a, b, c, d⟩ := t
  obtain ⟨a', b', c', d'⟩ := u
  simp [eqT, and_assoc]
/-- The tag behind a step. -/
def stepP : List RuleP → TagP → Option TagP
  | [], _ => none
  | r :: l, t => if fitsP r t && !eqT (replP r t) t then some (replP r t) else stepP l t
/-- The steps from a tag on: at most k further ones. -/
def stepsP (lim cyc : Int) (l : List RuleP) : Nat → TagP → List TagP × Int
  | k, t => match stepP l t with
    | none => ([t], 0)
    | some u => if 4 < u.vars.length then ([], lim) else match k with
      | 0 => ([], cyc)
      | k + 1 => if (stepsP lim cyc l k u).2 = 0 then (t :: (stepsP lim cyc l k u).1, 0) else ([], (stepsP lim cyc l k u).2)

def okR (r : RuleP) : Prop := validP r.f = true ∧ validP r.o = true

theorem valid_parts {t : TagP} (h : validP t = true) : langB t.lang = true ∧ (t.script = [] ∨ scriptB t.script = true) ∧ (t.region = [] ∨ regionB t.region = true) ∧ (∀ v ∈ t.vars, variantB v = true) ∧ Srt t.vars ∧ t.vars.Nodup ∧ t.vars.length ≤ 4 := by
  simp only [validP, Bool.and_eq_true, Bool.or_eq_true, decide_eq_true_eq, beq_iff_eq] at h
  obtain ⟨⟨⟨⟨⟨v1, v2⟩, v3⟩, v4⟩, v5⟩, v6⟩ := h
  obtain ⟨h1, h2⟩ := (incB_iff _).1 v5
  exact ⟨v1, v2, v3, List.all_eq_true.1 v4, h1, h2, v6⟩
theorem valid_of {t : TagP} (h1 : langB t.lang = true) (h2 : t.script = [] ∨ scriptB t.script = true) (h3 : t.region = [] ∨ regionB t.region = true) (h4 : ∀ v ∈ t.vars, variantB v = true) (h5 : Srt t.vars) (h6 : t.vars.Nodup) (h7 : t.vars.length ≤ 4) : validP t = true := by
  simp only [validP, Bool.and_eq_true, Bool.or_eq_true, decide_eq_true_eq, beq_iff_eq]
  exact ⟨⟨⟨⟨⟨h1, h2⟩, h3⟩, List.all_eq_true.2 h4⟩, (incB_iff _).2 ⟨h5, h6⟩⟩, h7⟩

theorem varsP_mem (f o t : List (List UInt8)) (v : List UInt8) : v ∈ varsP f o t ↔ (v ∈ t ∧ v ∉ f) ∨ v ∈ o := by
  unfold varsP
  rw [(sortS_perm _).mem_iff, List.mem_append, List.mem_filter]
  simp only [Bool.and_eq_true, Bool.not_eq_true', List.contains_eq_mem, decide_eq_false_iff_not]
  constructor
  · rintro (⟨h1, h2, h3⟩ | h)
    · exact .inl ⟨h1, h2⟩
    · exact .inr h
  · rintro (⟨h1, h2⟩ | h)
    · by_cases ho : v ∈ o
      · exact .inr ho
      · exact .inl ⟨h1, h2, ho⟩
    · exact .inr h
theorem varsP_nodup {f o t : List (List UInt8)} (ho : o.Nodup) (ht : t.Nodup) : (varsP f o t).Nodup := by
  unfold varsP
  rw [(sortS_perm _).nodup_iff, List.nodup_append]
  refine ⟨ht.filter _, ho, fun a ha b hb => ?_⟩
  rintro rfl
  rw [List.mem_filter] at ha
  simp only [Bool.and_eq_true, Bool.not_eq_true', List.contains_eq_mem, decide_eq_false_iff_not] at ha
  exact ha.2.2 hb
/-- A sorted list without repetitions that has the members is the list. -/
theorem varsP_of {f o t ks : List (List UInt8)} (ho : o.Nodup) (ht : t.Nodup) (hk : ks.Nodup) (h : ∀ v, v ∈ ks ↔ (v ∈ t ∧ v ∉ f) ∨ v ∈ o) : sortS ks = varsP f o t := by
  refine srt_unique (sortS_srt _) (sortS_srt _) ?_
  refine (sortS_perm _).trans (List.Perm.trans ?_ (sortS_perm _).symm)
  refine (List.perm_ext_iff_of_nodup hk ?_).2 fun v => ?_
  · have := varsP_nodup (f := f) ho ht
    unfold varsP at this
    rwa [(sortS_perm _).nodup_iff] at this
  · have := varsP_mem f o t v
    unfold varsP at this
    rw [(sortS_perm _).mem_iff] at this
    rw [this]
    exact h v
theorem varsP_len (f o t : List (List UInt8)) : (varsP f o t).length ≤ t.length + o.length := by
  unfold varsP
  rw [sortS_len, List.length_append]
  have := List.length_filter_le (fun v => !f.contains v && !o.contains v) t
  omega

theorem fieldP_or {P : List UInt8 → Prop} {f o t : List UInt8} (ho : P o) (ht : P t) : P (fieldP f o t) := by
  unfold fieldP
  split
  · exact ho
  · exact ht
/-- What a rule makes is a valid tag, but for the number of variants. -/
theorem repl_valid {r : RuleP} {t : TagP} (hr : okR r) (ht : validP t = true) (h4 : (replP r t).vars.length ≤ 4) : validP (replP r t) = true := by
  obtain ⟨a1, a2, a3, a4, a5, a6, a7⟩ := valid_parts ht
  obtain ⟨b1, b2, b3, b4, b5, b6, b7⟩ := valid_parts hr.2
  refine valid_of ?_ (fieldP_or (P := fun x => x = [] ∨ scriptB x = true) b2 a2) (fieldP_or (P := fun x => x = [] ∨ regionB x = true) b3 a3) ?_ (sortS_srt _) (varsP_nodup b6 a6) h4
  · unfold replP
    simp only
    split
    · exact a1
    · exact b1
  · intro v hv
    rcases (varsP_mem _ _ _ v).1 hv with ⟨h, _⟩ | h
    · exact a4 v h
    · exact b4 v h
theorem repl_len {r : RuleP} {t : TagP} (hr : okR r) (ht : validP t = true) : (replP r t).vars.length ≤ 8 := by
  have := varsP_len r.f.vars r.o.vars t.vars
  have h1 := (valid_parts ht).2.2.2.2.2.2
  have h2 := (valid_parts hr.2).2.2.2.2.2.2
  show (varsP _ _ _).length ≤ 8
  omega

theorem stepP_some {l : List RuleP} {t u : TagP} (h : stepP l t = some u) : ∃ r ∈ l, fitsP r t = true ∧ u = replP r t ∧ u ≠ t := by
  induction l with
  | nil => cases h
  | cons r l ih =>
    unfold stepP at h
    split at h
    · rename_i hc
      simp only [Bool.and_eq_true, Bool.not_eq_true'] at hc
      injection h with h
      refine ⟨r, by simp, hc.1, h.symm, ?_⟩
      subst h
      intro e
      rw [(eqT_iff _ _).2 e] at hc
      exact absurd hc.2 (by simp)
    · obtain ⟨r', h1, h2⟩ := ih h
      exact ⟨r', by simp [h1], h2⟩
theorem stepP_none {l : List RuleP} {t : TagP} (h : stepP l t = none) : ∀ r ∈ l, fitsP r t = true → replP r t = t := by
  induction l with
  | nil => simp
  | cons r l ih =>
    unfold stepP at h
    split at h
    · cases h
    · rename_i hc
      intro r' hr' hf
      rcases List.mem_cons.1 hr' with rfl | hr'
      · refine Classical.byContradiction fun hn => hc ?_
        rw [hf]
        have : eqT (replP r' t) t = false := by
          rw [← Bool.not_eq_true, eqT_iff]
          exact hn
        rw [this]
        rfl
      · exact ih h r' hr' hf
theorem stepP_app (l m : List RuleP) (t : TagP) : stepP (l ++ m) t = match stepP l t with
    | some u => some u
    | none => stepP m t := by
  induction l with
  | nil => rfl
  | cons r l ih =>
    rw [List.cons_append, stepP, stepP]
    split
    · rfl
    · exact ih
theorem stepP_valid {l : List RuleP} {t u : TagP} (hl : ∀ r ∈ l, okR r) (ht : validP t = true) (h : stepP l t = some u) (h4 : ¬ 4 < u.vars.length) : validP u = true := by
  obtain ⟨r, hr, _, rfl, _⟩ := stepP_some h
  exact repl_valid (hl r hr) ht (by omega)
theorem stepP_len {l : List RuleP} {t u : TagP} (hl : ∀ r ∈ l, okR r) (ht : validP t = true) (h : stepP l t = some u) : u.vars.length ≤ 8 := by
  obtain ⟨r, hr, _, rfl, _⟩ := stepP_some h
  exact repl_len (hl r hr) ht
end Go.Proofs.YtehcldnicefmeaaGreatDoor
namespace Go.Proofs.YtehcldnicefmeaaGreatDoor
set_option linter.unusedSimpArgs false
set_option linter.unusedVariables false

/-! What the functions on distances answer. -/
abbrev Bytes := List UInt8
def pairE (E : Codes) (a b : Bytes) : (TagP × TagP) × Int :=
  if (parseP E a).2 = 0 then (if (parseP E b).2 = 0 then (((parseP E a).1, (parseP E b).1), 0) else ((TagP.zero, TagP.zero), (parseP E b).2)) else ((TagP.zero, TagP.zero), (parseP E a).2)
def distL (E : Codes) (l : List NearP) (a b : Bytes) : Int × Int :=
  if validN l = true then (if (pairE E a b).2 = 0 then (distP l (pairE E a b).1.1 (pairE E a b).1.2, 0) else (0, (pairE E a b).2)) else (0, 1)
/-- No two tags are one. -/
def apartT (S : List TagP) : Bool := decide (S.map textP).Nodup
def bothL (E : Codes) (l : List NearP) (R S : List Bytes) : (List TagP × List TagP) × Int :=
  if validN l = true then (if (readP E R).2 = 0 then (if (readP E S).2 = 0 then (if apartT (readP E S).1 = true then (((readP E R).1, (readP E S).1), 0) else (([], []), 9)) else (([], []), (readP E S).2)) else (([], []), (readP E R).2)) else (([], []), 1)
def bestR (E : Codes) (l : List NearP) (R S : List Bytes) : Int × Int :=
  if (bothL E l R S).2 = 0 then (match bestL l (bothL E l R S).1.1 (bothL E l R S).1.2 with
    | some k => ((k : Int), 0)
    | none => (0, 8)) else (0, (bothL E l R S).2)
def orderR (E : Codes) (l : List NearP) (r : Bytes) (S : List Bytes) : List Nat × Int :=
  if (bothL E l [r] S).2 = 0 then (orderP l ((bothL E l [r] S).1.1.headD TagP.zero) (bothL E l [r] S).1.2, 0) else ([], (bothL E l [r] S).2)

theorem read_cons (E : Codes) (s : Bytes) (r : List Bytes) : readP E (s :: r) = if (parseP E s).2 = 0 then (if (readP E r).2 = 0 then ((parseP E s).1 :: (readP E r).1, 0) else ([], (readP E r).2)) else ([], (parseP E s).2) := rfl
theorem read_ok {E : Codes} : ∀ {l : List Bytes}, (readP E l).2 = 0 ↔ ∀ s ∈ l, (parseP E s).2 = 0
  | [] => by simp [readP]
  | s :: r => by
    rw [read_cons]
    by_cases h : (parseP E s).2 = 0
    · rw [if_pos h]
      by_cases h2 : (readP E r).2 = 0
      · rw [if_pos h2]
        simp only [List.mem_cons, forall_eq_or_imp, true_iff]
        exact ⟨h, read_ok.1 h2⟩
      · rw [if_neg h2]
        simp only [List.mem_cons, forall_eq_or_imp]
        constructor
        · intro h3; exact absurd h3 h2
        · rintro ⟨_, h3⟩; exact absurd (read_ok.2 h3) h2
    · rw [if_neg h]
      simp only [List.mem_cons, forall_eq_or_imp]
      constructor
      · intro h3; exact absurd h3 h
      · rintro ⟨h3, _⟩; exact absurd h3 h
theorem read_eq {E : Codes} : ∀ {l : List Bytes}, (readP E l).2 = 0 → (readP E l).1 = l.map fun s => (parseP E s).1
  | [], _ => rfl
  | s :: r, h => by
    have h1 := read_ok.1 h
    have h2 : (readP E r).2 = 0 := read_ok.2 fun x hx => h1 x (by simp [hx])
    rw [read_cons, if_pos (h1 s (by simp)), if_pos h2]
    simp only [List.map_cons]
    rw [read_eq h2]
theorem read_bad {E : Codes} : ∀ {l : List Bytes}, (readP E l).2 ≠ 0 → (readP E l).1 = []
  | [], h => rfl
  | s :: r, h => by
    rw [read_cons] at h ⊢
    by_cases h1 : (parseP E s).2 = 0
    · rw [if_pos h1] at h ⊢
      by_cases h2 : (readP E r).2 = 0
      · rw [if_pos h2] at h; exact absurd rfl h
      · rw [if_neg h2]
    · rw [if_neg h1]
theorem read_app {E : Codes} {l : List Bytes} {m : Bytes} (h : (readP E l).2 = 0) (hm : (parseP E m).2 = 0) : readP E (l ++ [m]) = ((readP E l).1 ++ [(parseP E m).1], 0) := by
  have h2 : (readP E (l ++ [m])).2 = 0 := read_ok.2 fun s hs => by
    rcases List.mem_append.1 hs with h3 | h3
    · exact read_ok.1 h s h3
    · simp at h3; subst h3; exact hm
  refine Prod.ext ?_ h2
  rw [read_eq h2, read_eq h, List.map_append]
  rfl
theorem at_get {S : List TagP} {k : Nat} {x : TagP} (h : S[k]? = some x) : atP S k = x := by
  unfold atP
  rw [List.getD_eq_getElem?_getD, h]
  rfl
theorem apart_iff {S : List TagP} : apartT S = true ↔ ∀ i j, i < S.length → j < S.length → textP (atP S i) = textP (atP S j) → i = j := by
  unfold apartT
  rw [decide_eq_true_eq]
  constructor
  · intro h i j hi hj he
    have h1 := at_get (List.getElem?_eq_getElem hi)
    have h2 := at_get (List.getElem?_eq_getElem hj)
    rw [h1, h2] at he
    have h3 := (List.nodup_iff_pairwise_ne.1 h)
    rw [List.pairwise_iff_getElem] at h3
    rcases Nat.lt_trichotomy i j with hl | hl | hl
    · exact absurd (by rw [List.getElem_map, List.getElem_map]; exact he) (h3 i j (by simpa using hi) (by simpa using hj) hl)
    · exact hl
    · exact absurd (by rw [List.getElem_map, List.getElem_map]; exact he.symm) (h3 j i (by simpa using hj) (by simpa using hi) hl)
  · intro h
    rw [List.nodup_iff_pairwise_ne, List.pairwise_iff_getElem]
    intro i j hi hj hl he
    simp only [List.length_map] at hi hj
    have h1 := at_get (List.getElem?_eq_getElem hi)
    have h2 := at_get (List.getElem?_eq_getElem hj)
    have := h i j hi hj (by rw [h1, h2]; simpa using he)
    omega
/-- What holds where both lists are read. -/
theorem both_ok {E : Codes} {l : List NearP} {R S : List Bytes} (h : (bothL E l R S).2 = 0) : validN l = true ∧ (readP E R).2 = 0 ∧ (readP E S).2 = 0 ∧ apartT (readP E S).1 = true ∧ (bothL E l R S).1 = ((readP E R).1, (readP E S).1) := by
  unfold bothL at h ⊢
  by_cases h1 : validN l = true
  · rw [if_pos h1] at h ⊢
    by_cases h2 : (readP E R).2 = 0
    · rw [if_pos h2] at h ⊢
      by_cases h3 : (readP E S).2 = 0
      · rw [if_pos h3] at h ⊢
        by_cases h4 : apartT (readP E S).1 = true
        · rw [if_pos h4]; exact ⟨h1, h2, h3, h4, rfl⟩
        · rw [if_neg h4] at h; exact absurd h (by decide)
      · rw [if_neg h3] at h; exact absurd h h3
    · rw [if_neg h2] at h; exact absurd h h2
  · rw [if_neg h1] at h; exact absurd h (by decide)
theorem both_of {E : Codes} {l : List NearP} {R S : List Bytes} (h1 : validN l = true) (h2 : (readP E R).2 = 0) (h3 : (readP E S).2 = 0) (h4 : apartT (readP E S).1 = true) : bothL E l R S = (((readP E R).1, (readP E S).1), 0) := by
  unfold bothL
  rw [if_pos h1, if_pos h2, if_pos h3, if_pos h4]

/-! A requested tag that is supported is the best one. -/
theorem best_exact {l : List NearP} (hl : ∀ x ∈ l, 1 ≤ x.c ∧ x.c ≤ 99) {t : TagP} {S : List TagP} (hS : ∀ i j, i < S.length → j < S.length → textP (atP S i) = textP (atP S j) → i = j) {k : Nat} (hk : k < S.length) (h : atP S k = t) : bestT l t S = some k := by
  have h0 : distP l t (atP S k) = 0 := (dist_bd hl t _).2.2.2 h.symm
  refine best_some.2 ⟨hk, near_iff.2 ⟨by omega, fun j hj hn => ?_⟩⟩
  unfold ltB
  simp only [Bool.or_eq_true, decide_eq_true_eq]
  left
  obtain ⟨b1, _, b3⟩ := dist_bd hl t (atP S j)
  have hne : distP l t (atP S j) ≠ 0 := fun e => by
    have := b3.1 e
    exact hn (hS j k hj hk (by rw [h, ← this]))
  omega

/-! The order of the supported tags does not matter. -/
theorem at_rev {S : List TagP} {k : Nat} (hk : k < S.length) : atP S.reverse k = atP S (S.length - 1 - k) := by
  unfold atP
  rw [List.getD_eq_getElem?_getD, List.getD_eq_getElem?_getD, List.getElem?_reverse hk]
theorem near_rev {l : List NearP} {t : TagP} {S : List TagP} {k : Nat} (hk : k < S.length) : nearB l t S.reverse k = nearB l t S (S.length - 1 - k) := by
  rw [Bool.eq_iff_iff, near_iff, near_iff, at_rev hk]
  constructor
  · rintro ⟨h1, h2⟩
    refine ⟨h1, fun j hj hn => ?_⟩
    have := h2 (S.length - 1 - j) (by rw [List.length_reverse]; omega) (by omega)
    rw [at_rev (by omega), show S.length - 1 - (S.length - 1 - j) = j from by omega] at this
    exact this
  · rintro ⟨h1, h2⟩
    refine ⟨h1, fun j hj hn => ?_⟩
    rw [List.length_reverse] at hj
    rw [at_rev hj]
    exact h2 (S.length - 1 - j) (by omega) (by omega)
theorem best_rev (l : List NearP) (t : TagP) (S : List TagP) : bestT l t S.reverse = (bestT l t S).map fun k => S.length - 1 - k := by
  cases h : bestT l t S with
  | some k =>
    obtain ⟨hk, hn⟩ := best_some.1 h
    show bestT l t S.reverse = some (S.length - 1 - k)
    refine best_some.2 ⟨by rw [List.length_reverse]; omega, ?_⟩
    rw [near_rev (by omega), show S.length - 1 - (S.length - 1 - k) = k from by omega]
    exact hn
  | none =>
    refine best_none.2 fun k hk => ?_
    rw [List.length_reverse] at hk
    rw [near_rev hk]
    exact best_none.1 h _ (by omega)
theorem bestL_rev (l : List NearP) (T S : List TagP) : bestL l T S.reverse = (bestL l T S).map fun k => S.length - 1 - k := by
  unfold bestL
  induction T with
  | nil => rfl
  | cons t r ih =>
    rw [List.findSome?_cons, List.findSome?_cons, best_rev]
    cases bestT l t S with
    | none => exact ih
    | some k => rfl
theorem apart_rev (S : List TagP) : apartT S.reverse = apartT S := by
  unfold apartT
  rw [List.map_reverse, Bool.eq_iff_iff, decide_eq_true_eq, decide_eq_true_eq]
  exact (List.reverse_perm _).nodup_iff
theorem bestL_app {l : List NearP} {T S : List TagP} {m : TagP} {k : Nat} (h : bestL l T S = some k) : bestL l (T ++ [m]) S = some k := by
  unfold bestL at *
  rw [List.findSome?_append, h]
  rfl
theorem bestL_lt {l : List NearP} {T S : List TagP} {k : Nat} (h : bestL l T S = some k) : k < S.length := by
  unfold bestL at h
  obtain ⟨t, _, ht⟩ := List.exists_of_findSome?_eq_some h
  exact (best_some.1 ht).1
theorem bestL_one (l : List NearP) (t : TagP) (S : List TagP) : bestL l [t] S = bestT l t S := by
  unfold bestL
  rw [List.findSome?_cons]
  cases bestT l t S <;> rfl
/-- The order begins with the best one. -/
theorem order_best {l : List NearP} {t : TagP} {S : List TagP} (hS : ∀ i j, i < S.length → j < S.length → textP (atP S i) = textP (atP S j) → i = j) {k : Nat} (h : bestT l t S = some k) : (orderP l t S).head? = some k := by
  cases ho : orderP l t S with
  | nil =>
    have := order_len l t S
    rw [ho] at this
    have hk := (best_some.1 h).1
    simp at this
    omega
  | cons a r =>
    rw [best_head hS ho] at h
    split at h
    · exact h
    · cases h
end Go.Proofs.YtehcldnicefmeaaGreatDoor
namespace Go.Proofs.YtehcldnicefmeaaGreatDoor
set_option linter.unusedSimpArgs false
set_option linter.unusedVariables false

/-! Distances, step by step: two tags, tags that are apart, the best one, the order. -/
theorem pair_read (E : Codes) (a b : Bytes) : (pairE E a b).2 = (readP E [a, b]).2 := by
  have e : readP E [b] = if (parseP E b).2 = 0 then ([(parseP E b).1], 0) else ([], (parseP E b).2) := rfl
  unfold pairE
  rw [read_cons, e]
  by_cases h1 : (parseP E a).2 = 0
  · by_cases h2 : (parseP E b).2 = 0
    · simp [h1, h2]
    · simp [h1, h2]
  · simp [h1]
theorem pair_read_ok {E : Codes} {a b : Bytes} (h : (readP E [a, b]).2 = 0) : (readP E [a, b]).1 = [(pairE E a b).1.1, (pairE E a b).1.2] := by
  have h1 := read_ok.1 h a (by simp)
  have h2 := read_ok.1 h b (by simp)
  rw [read_eq h]
  unfold pairE
  rw [if_pos h1, if_pos h2]
  rfl

/-! Tags that are apart. -/
def newT (S : List TagP) (x : TagP) : Bool := S.all fun y => !(textP y == textP x)
theorem apart_app (S : List TagP) (x : TagP) : apartT (S ++ [x]) = (apartT S && newT S x) := by
  unfold apartT newT
  rw [Bool.eq_iff_iff]
  simp only [decide_eq_true_eq, Bool.and_eq_true, List.map_append, List.map_cons, List.map_nil, List.all_eq_true, List.nodup_append, Bool.not_eq_true', beq_eq_false_iff_ne]
  constructor
  · rintro ⟨h1, _, h3⟩
    exact ⟨h1, fun y hy => h3 _ (List.mem_map.2 ⟨y, hy, rfl⟩) _ (by simp)⟩
  · rintro ⟨h1, h2⟩
    refine ⟨h1, by simp, fun a ha b hb => ?_⟩
    obtain ⟨y, hy, rfl⟩ := List.mem_map.1 ha
    simp at hb
    subst hb
    exact h2 y hy
theorem apart_bad {S : List TagP} {j k : Nat} {x y : TagP} (hy : S[j]? = some y) (hx : S[k]? = some x) (hj : j < k) (h : textP y = textP x) : apartT S = false := by
  rw [← Bool.not_eq_true]
  intro ha
  have h1 := (List.getElem?_eq_some_iff.1 hy).1
  have h2 := (List.getElem?_eq_some_iff.1 hx).1
  have := apart_iff.1 ha j k h1 h2 (by rw [at_get hy, at_get hx]; exact h)
  omega
theorem newT_next {S : List TagP} {j : Nat} {x y : TagP} (hy : S[j]? = some y) : newT (S.take (j + 1)) x = (newT (S.take j) x && !(textP y == textP x)) := by
  rw [List.take_add_one, hy]
  unfold newT
  rw [List.all_append]
  simp
theorem apart_next {S : List TagP} {k : Nat} {x : TagP} (hx : S[k]? = some x) : apartT (S.take (k + 1)) = (apartT (S.take k) && newT (S.take k) x) := by
  rw [List.take_add_one, hx]
  exact apart_app _ _

/-! The best one, so far. -/
variable {l : List NearP} {t : TagP} {S T : List TagP} {k i : Nat} {o : Option Nat}
def BestK (l : List NearP) (t : TagP) (S : List TagP) (k : Nat) : Option Nat → Prop
  | none => ∀ j, j < k → ¬ distP l t (atP S j) ≤ 60
  | some i => i < k ∧ distP l t (atP S i) ≤ 60 ∧ ∀ j, j < k → j ≠ i → distP l t (atP S j) ≤ 60 → ltB l t (atP S i) (atP S j) = true
def bestI : Option Nat → Int
  | none => -1
  | some i => i
theorem bestK_zero : BestK l t S 0 none := fun j hj => absurd hj (Nat.not_lt_zero j)
theorem bestK_far (h : BestK l t S k o) (hd : ¬ distP l t (atP S k) ≤ 60) : BestK l t S (k + 1) o := by
  cases o with
  | none =>
    intro j hj
    by_cases e : j = k
    · subst e; exact hd
    · exact h j (by omega)
  | some i =>
    obtain ⟨h1, h2, h3⟩ := h
    refine ⟨by omega, h2, fun j hj hn hd2 => ?_⟩
    by_cases e : j = k
    · subst e; exact absurd hd2 hd
    · exact h3 j (by omega) hn hd2
theorem bestK_first (h : BestK l t S k none) (hd : distP l t (atP S k) ≤ 60) : BestK l t S (k + 1) (some k) :=
  ⟨by omega, hd, fun j hj hn hd2 => absurd hd2 (h j (by omega))⟩
theorem bestK_near (h : BestK l t S k (some i)) (hd : distP l t (atP S k) ≤ 60) (hlt : ltB l t (atP S k) (atP S i) = true) : BestK l t S (k + 1) (some k) := by
  obtain ⟨h1, h2, h3⟩ := h
  refine ⟨by omega, hd, fun j hj hn hd2 => ?_⟩
  by_cases e : j = i
  · subst e; exact hlt
  · exact lt_tr hlt (h3 j (by omega) e hd2)
theorem bestK_stay (hS : apartT S = true) (h : BestK l t S k (some i)) (hk : k < S.length) (hlt : ltB l t (atP S k) (atP S i) = false) : BestK l t S (k + 1) (some i) := by
  obtain ⟨h1, h2, h3⟩ := h
  refine ⟨by omega, h2, fun j hj hn hd2 => ?_⟩
  by_cases e : j = k
  · subst e
    exact lt_of_ne hlt fun e => hn (apart_iff.1 hS j i hk (by omega) e.symm)
  · exact h3 j (by omega) hn hd2
theorem bestK_end (h : BestK l t S S.length o) : bestT l t S = o := by
  cases o with
  | none =>
    refine best_none.2 fun k hk => ?_
    rw [← Bool.not_eq_true]
    intro hn
    exact h k hk (near_iff.1 hn).1
  | some i =>
    obtain ⟨h1, h2, h3⟩ := h
    refine best_some.2 ⟨h1, near_iff.2 ⟨h2, fun j hj hn => ?_⟩⟩
    by_cases hd : distP l t (atP S j) ≤ 60
    · exact h3 j hj hn hd
    · unfold ltB
      simp only [Bool.or_eq_true, decide_eq_true_eq]
      left
      omega
theorem bestL_next (ht : T[k]? = some t) (h : bestL l (T.take k) S = none) : bestL l (T.take (k + 1)) S = bestT l t S := by
  rw [List.take_add_one, ht]
  unfold bestL at *
  rw [List.findSome?_append, h]
  simp
theorem bestL_found (ht : T[k]? = some t) (h : bestL l (T.take k) S = none) (hb : bestT l t S = some i) : bestL l T S = some i := by
  have h1 := bestL_next ht h
  rw [hb] at h1
  have h2 : T = T.take (k + 1) ++ T.drop (k + 1) := (List.take_append_drop _ _).symm
  rw [h2]
  unfold bestL at *
  rw [List.findSome?_append, h1]
  rfl

/-! The order, so far. -/
def OrdK (l : List NearP) (t : TagP) (S : List TagP) (k : Nat) (o : List Nat) : Prop := o.Perm (List.range k) ∧ o.Pairwise fun i j => ltB l t (atP S j) (atP S i) = false
theorem ordK_zero : OrdK l t S 0 [] := ⟨by simp, by simp⟩
theorem ordK_len {o : List Nat} (h : OrdK l t S k o) : o.length = k := by rw [h.1.length_eq, List.length_range]
theorem ordK_lt {o : List Nat} (h : OrdK l t S k o) {x : Nat} (hx : x ∈ o) : x < k := List.mem_range.1 (h.1.mem_iff.1 hx)
theorem ordK_ins {o : List Nat} (h : OrdK l t S k o) (n : Nat) (hpre : ∀ j ∈ o.take n, ltB l t (atP S j) (atP S k) = true) (hpost : ∀ x, o[n]? = some x → ltB l t (atP S x) (atP S k) = false) :
    OrdK l t S (k + 1) (o.take n ++ [k] ++ o.drop n) := by
  obtain ⟨hp, hs⟩ := h
  constructor
  · have h1 : (o.take n ++ [k] ++ o.drop n).Perm (o ++ [k]) := by
      rw [List.append_assoc]
      have h2 : o ++ [k] = o.take n ++ (o.drop n ++ [k]) := by rw [← List.append_assoc, List.take_append_drop]
      rw [h2]
      exact List.Perm.append_left _ List.perm_append_comm
    rw [List.range_succ]
    exact h1.trans (hp.append_right _)
  · have h1 : (o.take n ++ o.drop n).Pairwise fun i j => ltB l t (atP S j) (atP S i) = false := by rw [List.take_append_drop]; exact hs
    rw [List.pairwise_append] at h1
    obtain ⟨h2, h3, h4⟩ := h1
    have h5 : ∀ x ∈ o.drop n, ltB l t (atP S x) (atP S k) = false := by
      intro x hx
      cases hd : o.drop n with
      | nil => rw [hd] at hx; cases hx
      | cons y r =>
        have hy : o[n]? = some y := by
          have h6 : (o.drop n)[0]? = some y := by rw [hd]; rfl
          rw [List.getElem?_drop] at h6
          simpa using h6
        have hyk := hpost y hy
        rw [hd] at hx h3
        rcases List.mem_cons.1 hx with rfl | hx
        · exact hyk
        · exact nlt_tr hyk ((List.pairwise_cons.1 h3).1 x hx)
    rw [List.append_assoc, List.pairwise_append]
    refine ⟨h2, ?_, ?_⟩
    · rw [List.singleton_append, List.pairwise_cons]
      exact ⟨h5, h3⟩
    · intro a ha b hb
      rw [List.singleton_append] at hb
      rcases List.mem_cons.1 hb with rfl | hb
      · exact lt_as (hpre a ha)
      · exact h4 a ha b hb
theorem ordK_end {o : List Nat} (hS : apartT S = true) (h : OrdK l t S S.length o) : o = orderP l t S :=
  order_unique (apart_iff.1 hS) h.2 (order_srt l t S) (h.1.trans (order_perm l t S).symm) fun i hi => ordK_lt h hi

/-! The order, by a comparison that hands back a number. -/
def cmpI (a b : Int) : Int := if a < b then -1 else if b < a then 1 else 0
def cmpS (a b : Bytes) : Int := if a < b then -1 else if b < a then 1 else 0
def cfP (l : List NearP) (t : TagP) (S : List TagP) (i j : Nat) : Int :=
  if cmpI (distP l t (atP S i)) (distP l t (atP S j)) = 0 then cmpS (textP (atP S i)) (textP (atP S j)) else cmpI (distP l t (atP S i)) (distP l t (atP S j))
theorem cf_lt (l : List NearP) (t : TagP) (S : List TagP) (i j : Nat) : decide (cfP l t S i j < 0) = ltB l t (atP S i) (atP S j) := by
  unfold cfP ltB cmpI cmpS
  generalize distP l t (atP S i) = a
  generalize distP l t (atP S j) = b
  generalize textP (atP S i) = x
  generalize textP (atP S j) = y
  rcases Int.lt_trichotomy a b with h | h | h
  · rw [if_pos h]
    simp [h]
  · subst h
    by_cases h2 : x < y
    · simp [h2]
    · by_cases h3 : y < x
      · simp [h2, h3]
      · simp [h2, h3]
  · have h1 : ¬ a < b := by omega
    have h2 : ¬ a = b := by omega
    rw [if_neg h1, if_pos h]
    simp [h1, h2]
def idxs (n : Nat) : List (Fin n) := (List.range n).pmap (fun a h => ⟨a, h⟩) fun a h => List.mem_range.1 h
theorem idxs_val (n : Nat) : (idxs n).map Fin.val = List.range n := by
  unfold idxs
  rw [List.map_pmap]
  simp
theorem fin_order (hS : apartT S = true) (le : Fin S.length → Fin S.length → Bool) (hle : ∀ x y, le x y = !ltB l t (atP S y) (atP S x)) : ((idxs S.length).mergeSort le).map Fin.val = orderP l t S := by
  have hs := List.pairwise_mergeSort (le := le) (fun a b c h k => by
    rw [hle] at *
    simp only [Bool.not_eq_true'] at *
    exact nlt_tr h k) (fun a b => by
    rw [hle, hle]
    rcases nlt_tot l t (atP S a) (atP S b) with h | h
    · rw [h]; rfl
    · rw [h]; simp) (idxs S.length)
  have hp : (((idxs S.length).mergeSort le).map Fin.val).Perm (List.range S.length) := by
    have h1 := (List.mergeSort_perm (idxs S.length) le).map Fin.val
    rwa [idxs_val] at h1
  refine ordK_end hS ⟨hp, ?_⟩
  rw [List.pairwise_map]
  refine hs.imp fun {a b} h => ?_
  rw [hle] at h
  simpa using h

/-! What the functions answer. -/
theorem bestR_some {E : Codes} {R Q : List Bytes} (h : (bothL E l R Q).2 = 0) (hb : bestL l (bothL E l R Q).1.1 (bothL E l R Q).1.2 = some i) : bestR E l R Q = ((i : Int), 0) := by
  unfold bestR
  rw [if_pos h, hb]
theorem bestR_none {E : Codes} {R Q : List Bytes} (h : (bothL E l R Q).2 = 0) (hb : bestL l (bothL E l R Q).1.1 (bothL E l R Q).1.2 = none) : bestR E l R Q = (0, 8) := by
  unfold bestR
  rw [if_pos h, hb]
theorem bestR_bad {E : Codes} {R Q : List Bytes} (h : ¬ (bothL E l R Q).2 = 0) : bestR E l R Q = (0, (bothL E l R Q).2) := by
  unfold bestR
  rw [if_neg h]
theorem orderR_ok {E : Codes} {r : Bytes} {Q : List Bytes} (h : (bothL E l [r] Q).2 = 0) (ht : (bothL E l [r] Q).1.1 = [t]) : orderR E l r Q = (orderP l t (bothL E l [r] Q).1.2, 0) := by
  unfold orderR
  rw [if_pos h, ht]
  rfl
theorem orderR_bad {E : Codes} {r : Bytes} {Q : List Bytes} (h : ¬ (bothL E l [r] Q).2 = 0) : orderR E l r Q = ([], (bothL E l [r] Q).2) := by
  unfold orderR
  rw [if_neg h]
theorem both_one {E : Codes} {r : Bytes} {Q : List Bytes} (h : (bothL E l [r] Q).2 = 0) : ∃ t, (bothL E l [r] Q).1.1 = [t] := by
  obtain ⟨_, h2, _, _, h5⟩ := both_ok h
  refine ⟨(parseP E r).1, ?_⟩
  rw [h5, read_eq h2]
  rfl
theorem both_len {E : Codes} {R Q : List Bytes} (h : (bothL E l R Q).2 = 0) : (bothL E l R Q).1.1.length = R.length ∧ (bothL E l R Q).1.2.length = Q.length := by
  obtain ⟨_, h2, h3, _, h5⟩ := both_ok h
  rw [h5, read_eq h2, read_eq h3]
  simp
end Go.Proofs.YtehcldnicefmeaaGreatDoor
namespace Go.Proofs.YtehcldnicefmeaaGreatDoor
set_option linter.unusedSimpArgs false
set_option linter.unusedVariables false

/-! The steps of a tag. -/
section
variable {lim cyc : Int}
theorem steps_none {l : List RuleP} {k : Nat} {t : TagP} (h : stepP l t = none) : stepsP lim cyc l k t = ([t], 0) := by
  unfold stepsP
  rw [h]
theorem steps_many {l : List RuleP} {k : Nat} {t u : TagP} (h : stepP l t = some u) (h4 : 4 < u.vars.length) : stepsP lim cyc l k t = ([], lim) := by
  unfold stepsP
  rw [h]
  simp only
  rw [if_pos h4]
theorem steps_cyc {l : List RuleP} {t u : TagP} (h : stepP l t = some u) (h4 : ¬ 4 < u.vars.length) : stepsP lim cyc l 0 t = ([], cyc) := by
  unfold stepsP
  rw [h]
  simp only
  rw [if_neg h4]
theorem steps_go {l : List RuleP} {k : Nat} {t u : TagP} (h : stepP l t = some u) (h4 : ¬ 4 < u.vars.length) :
    stepsP lim cyc l (k + 1) t = if (stepsP lim cyc l k u).2 = 0 then (t :: (stepsP lim cyc l k u).1, 0) else ([], (stepsP lim cyc l k u).2) := by
  rw [stepsP, h]
  simp only
  rw [if_neg h4]
theorem steps_err (hl : lim ≠ 0) (hc : cyc ≠ 0) (l : List RuleP) : ∀ (k : Nat) (t : TagP), (stepsP lim cyc l k t).2 ≠ 0 → (stepsP lim cyc l k t).1 = [] := by
  intro k t h
  cases hs : stepP l t with
  | none => rw [steps_none hs] at h; exact absurd rfl h
  | some u =>
    by_cases h4 : 4 < u.vars.length
    · rw [steps_many hs h4]
    · cases k with
      | zero => rw [steps_cyc hs h4]
      | succ k =>
        rw [steps_go hs h4] at h ⊢
        split
        · rename_i h0; rw [if_pos h0] at h; exact absurd rfl h
        · rfl
/-- What holds of the steps that end well. -/
theorem steps_end (hlim : lim ≠ 0) (hcyc : cyc ≠ 0) {l : List RuleP} (hl : ∀ r ∈ l, okR r) : ∀ (k : Nat) (t : TagP), validP t = true → (stepsP lim cyc l k t).2 = 0 →
    ∃ xs e, (stepsP lim cyc l k t).1 = xs ++ [e] ∧ xs.length ≤ k ∧ validP e = true ∧ stepP l e = none ∧ (∀ x ∈ xs, validP x = true) ∧ (xs ++ [e]).head? = some t := by
  intro k
  induction k with
  | zero =>
    intro t ht h
    cases hs : stepP l t with
    | none => exact ⟨[], t, by rw [steps_none hs]; rfl, by simp, ht, hs, by simp, rfl⟩
    | some u =>
      by_cases h4 : 4 < u.vars.length
      · rw [steps_many hs h4] at h; exact absurd h hlim
      · rw [steps_cyc hs h4] at h; exact absurd h hcyc
  | succ k ih =>
    intro t ht h
    cases hs : stepP l t with
    | none => exact ⟨[], t, by rw [steps_none hs]; rfl, by simp, ht, hs, by simp, rfl⟩
    | some u =>
      by_cases h4 : 4 < u.vars.length
      · rw [steps_many hs h4] at h; exact absurd h hlim
      · rw [steps_go hs h4] at h ⊢
        by_cases h0 : (stepsP lim cyc l k u).2 = 0
        · rw [if_pos h0]
          obtain ⟨xs, e, h1, h2, h3, h5, h6, _⟩ := ih u (stepP_valid hl ht hs h4) h0
          refine ⟨t :: xs, e, by simp [h1], by simp; omega, h3, h5, ?_, rfl⟩
          intro x hx
          rcases List.mem_cons.1 hx with rfl | hx
          · exact ht
          · exact h6 x hx
        · rw [if_neg h0] at h; exact absurd h h0
theorem steps_ne (hlim : lim ≠ 0) (hcyc : cyc ≠ 0) {l : List RuleP} {k : Nat} {t : TagP} (h : (stepsP lim cyc l k t).2 = 0) : ∃ ys, (stepsP lim cyc l k t).1 = t :: ys := by
  cases hs : stepP l t with
  | none => exact ⟨[], by rw [steps_none hs]⟩
  | some u =>
    by_cases h4 : 4 < u.vars.length
    · rw [steps_many hs h4] at h; exact absurd h hlim
    · cases k with
      | zero => rw [steps_cyc hs h4] at h; exact absurd h hcyc
      | succ k =>
        rw [steps_go hs h4] at h ⊢
        by_cases h0 : (stepsP lim cyc l k u).2 = 0
        · rw [if_pos h0]; exact ⟨_, rfl⟩
        · rw [if_neg h0] at h; exact absurd h h0
/-- Further rules at the end: the steps begin with the old ones; they are the old ones where the further rules do nothing to the last step. -/
theorem steps_app (hlim : lim ≠ 0) (hcyc : cyc ≠ 0) {l m : List RuleP} : ∀ (k : Nat) (t e : TagP) (xs : List TagP), stepsP lim cyc l k t = (xs ++ [e], 0) →
    (stepP m e = none → stepsP lim cyc (l ++ m) k t = (xs ++ [e], 0)) ∧ (stepP m e ≠ none → (stepsP lim cyc (l ++ m) k t).2 = 0 → ∃ y ys, (stepsP lim cyc (l ++ m) k t).1 = xs ++ e :: y :: ys) := by
  intro k
  induction k with
  | zero =>
    intro t e xs h
    cases hs : stepP l t with
    | none =>
      rw [steps_none hs] at h
      injection h with h1 _
      have hx : xs = [] := by
        have := congrArg List.length h1
        simp at this
        exact this
      subst hx
      simp at h1
      subst h1
      refine ⟨fun hm => steps_none (by rw [stepP_app, hs]; exact hm), fun hm h => ?_⟩
      exfalso
      obtain ⟨v, hv⟩ := Option.ne_none_iff_exists'.1 hm
      have hs' : stepP (l ++ m) t = some v := by rw [stepP_app, hs]; exact hv
      by_cases h5 : 4 < v.vars.length
      · rw [steps_many hs' h5] at h; exact hlim h
      · rw [steps_cyc hs' h5] at h; exact hcyc h
    | some u =>
      by_cases h4 : 4 < u.vars.length
      · rw [steps_many hs h4] at h
        injection h with h1 _
        simp at h1
      · rw [steps_cyc hs h4] at h
        injection h with h1 _
        simp at h1
  | succ k ih =>
    intro t e xs h
    cases hs : stepP l t with
    | none =>
      rw [steps_none hs] at h
      injection h with h1 _
      have hx : xs = [] := by
        have := congrArg List.length h1
        simp at this
        exact this
      subst hx
      simp at h1
      subst h1
      refine ⟨fun hm => steps_none (by rw [stepP_app, hs]; exact hm), fun hm h => ?_⟩
      obtain ⟨v, hv⟩ := Option.ne_none_iff_exists'.1 hm
      have hs' : stepP (l ++ m) t = some v := by rw [stepP_app, hs]; exact hv
      by_cases h5 : 4 < v.vars.length
      · rw [steps_many hs' h5] at h; exact absurd h hlim
      · rw [steps_go hs' h5] at h ⊢
        by_cases h0 : (stepsP lim cyc (l ++ m) k v).2 = 0
        · rw [if_pos h0]
          obtain ⟨ys, hys⟩ := steps_ne hlim hcyc h0
          exact ⟨v, ys, by rw [hys]; rfl⟩
        · rw [if_neg h0] at h; exact absurd h h0
    | some u =>
      have hs' : stepP (l ++ m) t = some u := by rw [stepP_app, hs]
      by_cases h4 : 4 < u.vars.length
      · rw [steps_many hs h4] at h
        injection h with h1 _
        simp at h1
      · rw [steps_go hs h4] at h
        rw [steps_go hs' h4]
        by_cases h0 : (stepsP lim cyc l k u).2 = 0
        · rw [if_pos h0] at h
          injection h with h1 _
          obtain ⟨ys, hys⟩ := steps_ne hlim hcyc h0
          cases xs with
          | nil =>
            exfalso
            simp at h1
            rw [hys] at h1
            exact absurd h1.2 (by simp)
          | cons x xs =>
            simp at h1
            obtain ⟨rfl, h1⟩ := h1
            obtain ⟨g1, g2⟩ := ih u e xs (Prod.ext h1 h0)
            refine ⟨fun hm => ?_, fun hm h => ?_⟩
            · rw [g1 hm]; simp
            · by_cases h6 : (stepsP lim cyc (l ++ m) k u).2 = 0
              · rw [if_pos h6]
                obtain ⟨y, ys, hy⟩ := g2 hm h6
                exact ⟨y, ys, by rw [hy]; simp⟩
              · rw [if_neg h6] at h; exact absurd h h6
        · rw [if_neg h0] at h
          injection h with h1 _
          simp at h1
end
end Go.Proofs.YtehcldnicefmeaaGreatDoor
