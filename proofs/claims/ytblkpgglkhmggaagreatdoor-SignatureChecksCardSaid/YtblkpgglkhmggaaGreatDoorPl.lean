import Derived.Lib.Replace
import Derived.Lib.SlicesCompact
import Derived.Lib.Join
namespace Go.Proofs.YtblkpgglkhmggaaGreatDoor
set_option linter.unusedSimpArgs false
set_option linter.unusedVariables false

def isSmall (c : UInt8) : Bool := decide (97 ≤ c) && decide (c ≤ 122)
def isCap (c : UInt8) : Bool := decide (65 ≤ c) && decide (c ≤ 90)
def isDig (c : UInt8) : Bool := decide (48 ≤ c) && decide (c ≤ 57)
def isEith (c : UInt8) : Bool := isSmall c || isDig c
def lowC (c : UInt8) : UInt8 := if isCap c then c + 32 else c
def upC (c : UInt8) : UInt8 := if isSmall c then c - 32 else c

def langB (x : List UInt8) : Bool := (decide (x.length = 2) || decide (x.length = 3)) && x.all isSmall
def scriptB (x : List UInt8) : Bool := decide (x.length = 4) && isCap (x.headD 0) && (x.drop 1).all isSmall
def regionB (x : List UInt8) : Bool := decide (x.length = 2) && x.all isCap || decide (x.length = 3) && x.all isDig
def variantB (x : List UInt8) : Bool := x.all isEith && (decide (5 ≤ x.length) && decide (x.length ≤ 8) || decide (x.length = 4) && isDig (x.headD 0))
/-- The forms in lower case. -/
def scriptL (x : List UInt8) : Bool := decide (x.length = 4) && x.all isSmall
def regionL (x : List UInt8) : Bool := decide (x.length = 2) && x.all isSmall || decide (x.length = 3) && x.all isDig

/-- The separators, and the parts between them. -/
def isSep (c : UInt8) : Bool := c == 45 || c == 95
def spOf : List UInt8 → List (List UInt8)
  | [] => [[]]
  | c :: r => if isSep c then [] :: spOf r else match spOf r with
    | [] => [[c]]
    | x :: xs => (c :: x) :: xs

structure TagP where
  lang : List UInt8
  script : List UInt8
  region : List UInt8
  vars : List (List UInt8)
def TagP.zero : TagP := ⟨[], [], [], []⟩

def low (x : List UInt8) : List UInt8 := x.map lowC
def titleOf (x : List UInt8) : List UInt8 := match x with
  | [] => []
  | c :: r => upC c :: r
def upOf (x : List UInt8) : List UInt8 := x.map upC
def sortS (l : List (List UInt8)) : List (List UInt8) := l.mergeSort fun x y => decide (x ≤ y)
def isNodup (l : List (List UInt8)) : Bool := decide l.Nodup

/-- The codes of the errors that a tag may have: syntax, duplicate, limit. -/
structure Codes where
  syn : Int
  dup : Int
  lim : Int

/-- The end: the variants in order. -/
def finT (E : Codes) (t : TagP) : TagP × Int :=
  if isNodup t.vars then (if t.vars.length ≤ 4 then ({ t with vars := sortS t.vars }, 0) else (TagP.zero, E.lim)) else (TagP.zero, E.dup)
def c3 (E : Codes) (t : TagP) (r : List (List UInt8)) : TagP × Int :=
  if r.all variantB then finT E { t with vars := t.vars ++ r } else (TagP.zero, E.syn)
def c2 (E : Codes) (t : TagP) : List (List UInt8) → TagP × Int
  | [] => c3 E t []
  | x :: r => if regionL x then c3 E { t with region := upOf x } r else c3 E t (x :: r)
def c1 (E : Codes) (t : TagP) : List (List UInt8) → TagP × Int
  | [] => c2 E t []
  | x :: r => if scriptL x then c2 E { t with script := titleOf x } r else c2 E t (x :: r)
def c0 (E : Codes) : List (List UInt8) → TagP × Int
  | [] => (TagP.zero, E.syn)
  | x :: r => if langB x then c1 E ⟨x, [], [], []⟩ r else (TagP.zero, E.syn)
/-- What is read from a text. -/
def parseP (E : Codes) (s : List UInt8) : TagP × Int := c0 E ((spOf s).map low)

/-! The separators. -/
theorem pre_one (c b : UInt8) (l : List UInt8) : [c].isPrefixOf (b :: l) = (c == b) := by simp [List.isPrefixOf]

theorem index_one (c : UInt8) (l : List UInt8) : (Lib.index l [c] = -1 ∧ c ∉ l) ∨ ∃ a b, l = a ++ c :: b ∧ c ∉ a ∧ Lib.index l [c] = (a.length : Int) := by
  induction l with
  | nil => exact .inl ⟨rfl, by simp⟩
  | cons x r ih =>
    by_cases hx : c = x
    · subst hx
      exact .inr ⟨[], r, rfl, by simp, by simp [Lib.index, List.isPrefixOf]⟩
    · rcases ih with ⟨h1, h2⟩ | ⟨a, b, rfl, h2, h3⟩
      · exact .inl ⟨by simp [Lib.index, List.isPrefixOf, hx, h1], by simp [hx, h2]⟩
      · refine .inr ⟨x :: a, b, rfl, by simp [hx, h2], ?_⟩
        have h4 : ¬ ((a.length : Int) = -1) := by omega
        simp [Lib.index, List.isPrefixOf, hx, h3, h4]

/-- Cut at one byte. -/
def sp1 (c : UInt8) : List UInt8 → List (List UInt8)
  | [] => [[]]
  | x :: r => if x == c then [] :: sp1 c r else match sp1 c r with
    | [] => [[x]]
    | y :: ys => (x :: y) :: ys
theorem sp1_none (c : UInt8) (l : List UInt8) (h : c ∉ l) : sp1 c l = [l] := by
  induction l with
  | nil => rfl
  | cons x r ih =>
    have h1 : ¬ x = c := fun e => h (by simp [e])
    simp [sp1, h1, ih (fun e => h (by simp [e]))]
theorem sp1_at (c : UInt8) (a b : List UInt8) (h : c ∉ a) : sp1 c (a ++ c :: b) = a :: sp1 c b := by
  induction a with
  | nil => simp [sp1]
  | cons x r ih =>
    have h1 : ¬ x = c := fun e => h (by simp [e])
    simp [sp1, h1, ih (fun e => h (by simp [e]))]

theorem splitK_one (c : UInt8) : ∀ (n : Nat) (l : List UInt8), l.length ≤ n → Lib.splitK [c] 0 (Lib.count l [c]) l = sp1 c l
  | n, l, hn => by
    rcases index_one c l with ⟨h1, h2⟩ | ⟨a, b, rfl, h2, h3⟩
    · rw [Lib.count_miss h1, sp1_none c l h2]; rfl
    · rw [Lib.count_hit (by simp) h3, sp1_at c a b h2, Nat.add_comm]
      unfold Lib.splitK
      have h4 : ¬ (Lib.index (a ++ c :: b) [c] == -1) = true := by rw [h3]; simp
      rw [if_neg h4, h3]
      have h5 : (a ++ c :: b).drop (a.length + [c].length) = b := by simp
      have h6 : ((a.length : Int).toNat + 0) = a.length := by omega
      have h7 : ((a.length : Int).toNat + [c].length) = a.length + [c].length := by omega
      rw [h6, h7, h5, List.take_left]
      match n, hn with
      | 0, hn => simp at hn
      | n + 1, hn => rw [splitK_one c n b (by simp at hn; omega)]
theorem split_one (c : UInt8) (l : List UInt8) : Lib.split l [c] = sp1 c l := splitK_one c _ l (Nat.le_refl _)

def rep1 (c d : UInt8) (x : UInt8) : UInt8 := if x == c then d else x
theorem rep1_none (c d : UInt8) (l : List UInt8) (h : c ∉ l) : l.map (rep1 c d) = l := by
  induction l with
  | nil => rfl
  | cons x r ih =>
    have h1 : ¬ x = c := fun e => h (by simp [e])
    rw [List.map_cons, ih (fun e => h (by simp [e]))]
    simp [rep1, h1]
theorem replaceK_one (c d : UInt8) : ∀ (n : Nat) (l : List UInt8), l.length ≤ n → Lib.replaceK [c] [d] (Lib.count l [c]) l = l.map (rep1 c d)
  | n, l, hn => by
    rcases index_one c l with ⟨h1, h2⟩ | ⟨a, b, rfl, h2, h3⟩
    · rw [Lib.count_miss h1, rep1_none c d l h2]; rfl
    · rw [Lib.count_hit (by simp) h3, Nat.add_comm, Lib.replaceK_hit _ _ _ _ _ h3]
      have h5 : (a ++ c :: b).drop (a.length + [c].length) = b := by simp
      rw [h5, List.take_left]
      match n, hn with
      | 0, hn => simp at hn
      | n + 1, hn => rw [replaceK_one c d n b (by simp at hn; omega), List.map_append, rep1_none c d a h2]; simp [rep1]
theorem replace_one (c d : UInt8) (h : c ≠ d) (l : List UInt8) : Lib.replaceAll l [c] [d] = l.map (rep1 c d) := by
  unfold Lib.replaceAll Lib.replace Lib.replaceNum
  have h1 : ([c] == [d]) = false := by simp [h]
  rw [h1, if_neg (by simp), if_pos (.inl (by decide))]
  exact replaceK_one c d _ l (Nat.le_refl _)

theorem sp_rep (l : List UInt8) : sp1 45 (l.map (rep1 95 45)) = spOf l := by
  induction l with
  | nil => rfl
  | cons x r ih =>
    rw [List.map_cons]
    unfold sp1 spOf
    rw [ih]
    by_cases h : isSep x = true
    · rw [if_pos h, if_pos]
      simp [isSep] at h
      rcases h with h | h <;> subst h <;> decide
    · have h1 : rep1 95 45 x = x := by simp [isSep] at h; simp [rep1, h]
      rw [if_neg h, h1, if_neg (by simp [isSep] at h; simp [h])]

/-- The parts that the program finds. -/
theorem parts_eq (l : List UInt8) : Lib.split (Lib.replaceAll l [95] [45]) [45] = spOf l := by
  rw [replace_one _ _ (by decide), split_one, sp_rep]

theorem spOf_ne (l : List UInt8) : spOf l ≠ [] := by
  cases l with
  | nil => simp [spOf]
  | cons c r =>
    unfold spOf
    split
    · simp
    · split <;> simp
theorem spOf_len (l : List UInt8) : (spOf l).length ≤ l.length + 1 := by
  induction l with
  | nil => simp [spOf]
  | cons c r ih =>
    unfold spOf
    split
    · simp; omega
    · split
      · simp
      · next x xs h => rw [h] at ih; simp at ih ⊢; omega
theorem spOf_sum (l : List UInt8) : ((spOf l).map List.length).sum ≤ l.length := by
  induction l with
  | nil => simp [spOf]
  | cons c r ih =>
    unfold spOf
    split
    · simp; omega
    · split
      · next h => simp
      · next x xs h => rw [h] at ih; simp at ih ⊢; omega
theorem spOf_mem (l : List UInt8) : ∀ x ∈ spOf l, x.length ≤ l.length := by
  intro x hx
  have h := spOf_sum l
  obtain ⟨a, b, h1⟩ := List.append_of_mem hx
  rw [h1] at h
  simp at h
  omega

theorem cap_low (c : UInt8) : isSep (lowC c) = isSep c := by
  unfold lowC
  split
  · next h =>
    simp [isCap, UInt8.le_iff_toNat_le] at h
    have h1 : (c + 32).toNat = c.toNat + 32 := by simp [UInt8.toNat_add]; omega
    have e1 : ∀ d : UInt8, (c + 32 == d) = decide (c.toNat + 32 = d.toNat) := fun d => by
      rw [Bool.eq_iff_iff]; simp [← UInt8.toNat_inj, h1]
    have e2 : ∀ d : UInt8, (c == d) = decide (c.toNat = d.toNat) := fun d => by
      rw [Bool.eq_iff_iff]; simp [← UInt8.toNat_inj]
    unfold isSep
    rw [e1, e1, e2, e2, Bool.eq_iff_iff]
    simp
    omega
  · rfl
theorem spOf_low (l : List UInt8) : spOf (low l) = (spOf l).map low := by
  induction l with
  | nil => rfl
  | cons c r ih =>
    show spOf (lowC c :: low r) = _
    unfold spOf
    rw [cap_low, ih]
    cases h : spOf r with
    | nil => exact absurd h (spOf_ne r)
    | cons x xs => by_cases h2 : isSep c = true <;> simp [h2, low]

/-! The forms of letters. -/
theorem low_small (c : UInt8) : isSmall (lowC c) = (isSmall c || isCap c) := by
  unfold lowC
  split
  · next h =>
    rw [h]
    simp [isCap, UInt8.le_iff_toNat_le] at h
    have h1 : (c + 32).toNat = c.toNat + 32 := by simp [UInt8.toNat_add]; omega
    simp [isSmall, UInt8.le_iff_toNat_le, h1]
    omega
  · next h => simp [h]
theorem up_cap (c : UInt8) : isCap (upC c) = (isSmall c || isCap c) := by
  unfold upC
  split
  · next h =>
    rw [h]
    simp [isSmall, UInt8.le_iff_toNat_le] at h
    have h1 : (c - 32).toNat = c.toNat - 32 := by rw [UInt8.toNat_sub_of_le _ _ (by rw [UInt8.le_iff_toNat_le]; simp; omega)]; rfl
    simp [isCap, UInt8.le_iff_toNat_le, h1]
    omega
  · next h => simp [h]
theorem low_dig (c : UInt8) : isDig (lowC c) = isDig c := by
  unfold lowC
  split
  · next h =>
    simp [isCap, UInt8.le_iff_toNat_le] at h
    have h1 : (c + 32).toNat = c.toNat + 32 := by simp [UInt8.toNat_add]; omega
    rw [Bool.eq_iff_iff]
    simp [isDig, UInt8.le_iff_toNat_le, h1]
    omega
  · rfl
theorem up_dig (c : UInt8) : isDig (upC c) = isDig c := by
  unfold upC
  split
  · next h =>
    simp [isSmall, UInt8.le_iff_toNat_le] at h
    have h1 : (c - 32).toNat = c.toNat - 32 := by rw [UInt8.toNat_sub_of_le _ _ (by rw [UInt8.le_iff_toNat_le]; simp; omega)]; rfl
    rw [Bool.eq_iff_iff]
    simp [isDig, UInt8.le_iff_toNat_le, h1]
    omega
  · rfl
theorem up_low (c : UInt8) : upC (lowC c) = upC c := by
  unfold lowC
  split
  · next h =>
    simp [isCap, UInt8.le_iff_toNat_le] at h
    have h1 : (c + 32).toNat = c.toNat + 32 := by simp [UInt8.toNat_add]; omega
    have h2 : isSmall (c + 32) = true := by simp [isSmall, UInt8.le_iff_toNat_le, h1]; omega
    have h3 : isSmall c = false := by rw [Bool.eq_false_iff]; simp [isSmall, UInt8.le_iff_toNat_le]; omega
    unfold upC
    rw [if_pos h2, if_neg (by simp [h3])]
    rw [← UInt8.toNat_inj, UInt8.toNat_sub_of_le _ _ (by rw [UInt8.le_iff_toNat_le, h1]; simp), h1]
    simp
  · rfl
theorem low_low (c : UInt8) : lowC (lowC c) = lowC c := by
  have h := low_small c
  unfold lowC at *
  split
  · next h1 =>
    rw [if_pos h1] at h
    rw [if_neg]
    rw [h1] at h
    simp [isSmall, isCap, UInt8.le_iff_toNat_le] at *
    omega
  · rfl
theorem low_up (c : UInt8) : lowC (upC c) = lowC c := by
  unfold upC
  split
  · next h =>
    simp [isSmall, UInt8.le_iff_toNat_le] at h
    have h1 : (c - 32).toNat = c.toNat - 32 := by rw [UInt8.toNat_sub_of_le _ _ (by rw [UInt8.le_iff_toNat_le]; simp; omega)]; rfl
    have h2 : isCap (c - 32) = true := by simp [isCap, UInt8.le_iff_toNat_le, h1]; omega
    have h3 : isCap c = false := by rw [Bool.eq_false_iff]; simp [isCap, UInt8.le_iff_toNat_le]; omega
    unfold lowC
    rw [if_pos h2, if_neg (by simp [h3])]
    simp
  · rfl

/-- A script in its own form, read in any. -/
theorem script_eq (x : List UInt8) : scriptB (upOf (x.take 1) ++ low (x.drop 1)) = scriptL (low x) := by
  cases x with
  | nil => rfl
  | cons c r =>
    simp [scriptB, scriptL, upOf, low, up_cap, low_small]
    rw [Bool.eq_iff_iff]
    simp
    constructor
    · rintro ⟨⟨h1, h2⟩, h3⟩; exact ⟨h1, h2, h3⟩
    · rintro ⟨h1, h2, h3⟩; exact ⟨⟨h1, h2⟩, h3⟩
theorem title_eq (x : List UInt8) : upOf (x.take 1) ++ low (x.drop 1) = titleOf (low x) := by
  cases x with
  | nil => rfl
  | cons c r => simp [titleOf, upOf, low, up_low]
theorem region_eq (x : List UInt8) : regionB (upOf x) = regionL (low x) := by
  have h1 : (upOf x).all isCap = (low x).all isSmall := by
    unfold upOf low
    rw [List.all_map, List.all_map]
    congr 1
    funext c
    simp [up_cap, low_small]
  have h2 : (upOf x).all isDig = (low x).all isDig := by
    unfold upOf low
    rw [List.all_map, List.all_map]
    congr 1
    funext c
    simp [up_dig, low_dig]
  unfold regionB regionL
  rw [h1, h2]
  simp [upOf, low]
theorem upOf_low (x : List UInt8) : upOf (low x) = upOf x := by
  unfold upOf low
  rw [List.map_map]
  congr 1
  funext c
  exact up_low c
end Go.Proofs.YtblkpgglkhmggaaGreatDoor
