import Derived.Lib.Replace
import Derived.Lib.SlicesCompact
import Derived.Lib.Join
set_option maxRecDepth 100000
set_option linter.unusedSimpArgs false
set_option linter.unusedVariables false
namespace Go.Proofs.YtljdlkonlnjadaaGreatDoor
def isSmall (c : UInt8) : Bool := decide (97 ≤ c) && decide (c ≤ 122)
def isCap (c : UInt8) : Bool := decide (65 ≤ c) && decide (c ≤ 90)
def isDig (c : UInt8) : Bool := decide (48 ≤ c) && decide (c ≤ 57)
def isEith (c : UInt8) : Bool := isSmall c || isDig c
def lowC (c : UInt8) : UInt8 := if isCap c then c + 32 else c
def upC (c : UInt8) : UInt8 := if isSmall c then c - 32 else c
def langB (x : List UInt8) : Bool := (decide (x.length = 2) || decide (x.length = 3)) && x.all isSmall
def scriptB (x : List UInt8) : Bool := decide (x.length = 4) && isCap (x.headD 0) && (x.drop 1).all isSmall
def regionB (x : List UInt8) : Bool := decide (x.length = 2) && x.all isCap || decide (x.length = 3) && x.all isDig
def variantB (x : List UInt8) : Bool := x.all isEith && (decide (5 ≤ x.length) && decide (x.length ≤ 8) || decide (x.length = 4) && isDig (x.headD 0))
def scriptL (x : List UInt8) : Bool := decide (x.length = 4) && x.all isSmall
def regionL (x : List UInt8) : Bool := decide (x.length = 2) && x.all isSmall || decide (x.length = 3) && x.all isDig
def isSep (c : UInt8) : Bool := c == 45 || c == 95
def spOf : List UInt8 → List (List UInt8)
 | [] => [[]]
 | c :: r => if isSep c then [] :: spOf r else match spOf r with
   | [] => [[c]]
   | x :: xs => (c :: x) :: xs
structure TagP where
 lang : List UInt8
 script : List UInt8
 region : List UInt8
 vars : List (List UInt8)
def TagP.zero : TagP := ⟨[], [], [], []⟩
def low (x : List UInt8) : List UInt8 := x.map lowC
def titleOf (x : List UInt8) : List UInt8 := match x with
 | [] => []
 | c :: r => upC c :: r
def upOf (x : List UInt8) : List UInt8 := x.map upC
def sortS (l : List (List UInt8)) : List (List UInt8) := l.mergeSort fun x y => decide (x ≤ y)
def isNodup (l : List (List UInt8)) : Bool := decide l.Nodup
structure Codes where
 syn : Int
 dup : Int
 lim : Int
def finT (E : Codes) (t : TagP) : TagP × Int :=
 if isNodup t.vars then (if t.vars.length ≤ 4 then ({ t with vars := sortS t.vars }, 0) else (TagP.zero, E.lim)) else (TagP.zero, E.dup)
def c3 (E : Codes) (t : TagP) (r : List (List UInt8)) : TagP × Int :=
 if r.all variantB then finT E { t with vars := t.vars ++ r } else (TagP.zero, E.syn)
def c2 (E : Codes) (t : TagP) : List (List UInt8) → TagP × Int
 | [] => c3 E t []
 | x :: r => if regionL x then c3 E { t with region := upOf x } r else c3 E t (x :: r)
def c1 (E : Codes) (t : TagP) : List (List UInt8) → TagP × Int
 | [] => c2 E t []
 | x :: r => if scriptL x then c2 E { t with script := titleOf x } r else c2 E t (x :: r)
def c0 (E : Codes) : List (List UInt8) → TagP × Int
 | [] => (TagP.zero, E.syn)
 | x :: r => if langB x then c1 E ⟨x, [], [], []⟩ r else (TagP.zero, E.syn)
def parseP (E : Codes) (s : List UInt8) : TagP × Int := c0 E ((spOf s).map low)
theorem index_one (c : UInt8) (l : List UInt8) : (Lib.index l [c] = -1 ∧ c ∉ l) ∨ ∃ a b, l = a ++ c :: b ∧ c ∉ a ∧ Lib.index l [c] = (a.length : Int) := by
 induction l with
 | nil => exact .inl ⟨rfl, by simp⟩
 | cons x r ih =>
   by_cases hx : c = x
   ·subst hx
    exact .inr ⟨[], r, rfl, by simp, by simp [Lib.index, List.isPrefixOf]⟩
   ·rcases ih with ⟨h1, h2⟩ | ⟨a, b, rfl, h2, h3⟩
    ·exact .inl ⟨by simp [Lib.index, List.isPrefixOf, hx, h1], by simp [hx, h2]⟩
    ·refine .inr ⟨x :: a, b, rfl, by simp [hx, h2], ?_⟩
     have h4 : ¬ ((a.length : Int) = -1) := by omega
     simp [Lib.index, List.isPrefixOf, hx, h3, h4]
def sp1 (c : UInt8) : List UInt8 → List (List UInt8)
 | [] => [[]]
 | x :: r => if x == c then [] :: sp1 c r else match sp1 c r with
   | [] => [[x]]
   | y :: ys => (x :: y) :: ys
theorem sp1_none (c : UInt8) (l : List UInt8) (h : c ∉ l) : sp1 c l = [l] := by
 induction l with
 | nil => rfl
 | cons x r ih =>
   have h1 : ¬ x = c := fun e => h (by simp [e])
   simp [sp1, h1, ih (fun e => h (by simp [e]))]
theorem sp1_at (c : UInt8) (a b : List UInt8) (h : c ∉ a) : sp1 c (a ++ c :: b) = a :: sp1 c b := by
 induction a with
 | nil => simp [sp1]
 | cons x r ih =>
   have h1 : ¬ x = c := fun e => h (by simp [e])
   simp [sp1, h1, ih (fun e => h (by simp [e]))]
theorem splitK_one (c : UInt8) : ∀ (n : Nat) (l : List UInt8), l.length ≤ n → Lib.splitK [c] 0 (Lib.count l [c]) l = sp1 c l
 | n, l, hn => by
   rcases index_one c l with ⟨h1, h2⟩ | ⟨a, b, rfl, h2, h3⟩
   ·rw [Lib.count_miss h1, sp1_none c l h2]; rfl
   ·rw [Lib.count_hit (by simp) h3, sp1_at c a b h2, Nat.add_comm]
    unfold Lib.splitK
    have h4 : ¬ (Lib.index (a ++ c :: b) [c] == -1) = true := by rw [h3]; simp
    rw [if_neg h4, h3]
    have h5 : (a ++ c :: b).drop (a.length + [c].length) = b := by simp
    have h6 : ((a.length : Int).toNat + 0) = a.length := by omega
    have h7 : ((a.length : Int).toNat + [c].length) = a.length + [c].length := by omega
    rw [h6, h7, h5, List.take_left]
    match n, hn with
    | 0, hn => simp at hn
    | n + 1, hn => rw [splitK_one c n b (by simp at hn; omega)]
theorem split_one (c : UInt8) (l : List UInt8) : Lib.split l [c] = sp1 c l := splitK_one c _ l (Nat.le_refl _)
def rep1 (c d : UInt8) (x : UInt8) : UInt8 := if x == c then d else x
theorem rep1_none (c d : UInt8) (l : List UInt8) (h : c ∉ l) : l.map (rep1 c d) = l := by
 induction l with
 | nil => rfl
 | cons x r ih =>
   have h1 : ¬ x = c := fun e => h (by simp [e])
   rw [List.map_cons, ih (fun e => h (by simp [e]))]
   simp [rep1, h1]
theorem replaceK_one (c d : UInt8) : ∀ (n : Nat) (l : List UInt8), l.length ≤ n → Lib.replaceK [c] [d] (Lib.count l [c]) l = l.map (rep1 c d)
 | n, l, hn => by
   rcases index_one c l with ⟨h1, h2⟩ | ⟨a, b, rfl, h2, h3⟩
   ·rw [Lib.count_miss h1, rep1_none c d l h2]; rfl
   ·rw [Lib.count_hit (by simp) h3, Nat.add_comm, Lib.replaceK_hit _ _ _ _ _ h3]
    have h5 : (a ++ c :: b).drop (a.length + [c].length) = b := by simp
    rw [h5, List.take_left]
    match n, hn with
    | 0, hn => simp at hn
    | n + 1, hn => rw [replaceK_one c d n b (by simp at hn; omega), List.map_append, rep1_none c d a h2]; simp [rep1]
theorem replace_one (c d : UInt8) (h : c ≠ d) (l : List UInt8) : Lib.replaceAll l [c] [d] = l.map (rep1 c d) := by
 unfold Lib.replaceAll Lib.replace Lib.replaceNum
 have h1 : ([c] == [d]) = false := by simp [h]
 rw [h1, if_neg (by simp), if_pos (.inl (by decide))]
 exact replaceK_one c d _ l (Nat.le_refl _)
theorem sp_rep (l : List UInt8) : sp1 45 (l.map (rep1 95 45)) = spOf l := by
 induction l with
 | nil => rfl
 | cons x r ih =>
   rw [List.map_cons]
   unfold sp1 spOf
   rw [ih]
   by_cases h : isSep x = true
   ·rw [if_pos h, if_pos]
    simp [isSep] at h
    rcases h with h | h <;> subst h <;> decide
   ·have h1 : rep1 95 45 x = x := by simp [isSep] at h; simp [rep1, h]
    rw [if_neg h, h1, if_neg (by simp [isSep] at h; simp [h])]
theorem parts_eq (l : List UInt8) : Lib.split (Lib.replaceAll l [95] [45]) [45] = spOf l := by
 rw [replace_one _ _ (by decide), split_one, sp_rep]
theorem spOf_ne (l : List UInt8) : spOf l ≠ [] := by
 cases l with
 | nil => simp [spOf]
 | cons c r =>
   unfold spOf
   split
   ·simp
   ·split <;> simp
theorem spOf_len (l : List UInt8) : (spOf l).length ≤ l.length + 1 := by
 induction l with
 | nil => simp [spOf]
 | cons c r ih =>
   unfold spOf
   split
   ·simp; omega
   ·split
    ·simp
    ·next x xs h => rw [h] at ih; simp at ih ⊢; omega
theorem spOf_sum (l : List UInt8) : ((spOf l).map List.length).sum ≤ l.length := by
 induction l with
 | nil => simp [spOf]
 | cons c r ih =>
   unfold spOf
   split
   ·simp; omega
   ·split
    ·next h => simp
    ·next x xs h => rw [h] at ih; simp at ih ⊢; omega
theorem spOf_mem (l : List UInt8) : ∀ x ∈ spOf l, x.length ≤ l.length := by
 intro x hx
 have h := spOf_sum l
 obtain ⟨a, b, h1⟩ := List.append_of_mem hx
 rw [h1] at h
 simp at h
 omega
theorem cap_low (c : UInt8) : isSep (lowC c) = isSep c := by
 unfold lowC
 split
 ·next h =>
  simp [isCap, UInt8.le_iff_toNat_le] at h
  have h1 : (c + 32).toNat = c.toNat + 32 := by simp [UInt8.toNat_add]; omega
  have e1 : ∀ d : UInt8, (c + 32 == d) = decide (c.toNat + 32 = d.toNat) := fun d => by
   rw [Bool.eq_iff_iff]; simp [← UInt8.toNat_inj, h1]
  have e2 : ∀ d : UInt8, (c == d) = decide (c.toNat = d.toNat) := fun d => by
   rw [Bool.eq_iff_iff]; simp [← UInt8.toNat_inj]
  unfold isSep
  rw [e1, e1, e2, e2, Bool.eq_iff_iff]
  simp
  omega
 ·rfl
theorem spOf_low (l : List UInt8) : spOf (low l) = (spOf l).map low := by
 induction l with
 | nil => rfl
 | cons c r ih =>
   show spOf (lowC c :: low r) = _
   unfold spOf
   rw [cap_low, ih]
   cases h : spOf r with
   | nil => exact absurd h (spOf_ne r)
   | cons x xs => by_cases h2 : isSep c = true <;> simp [h2, low]
theorem low_small (c : UInt8) : isSmall (lowC c) = (isSmall c || isCap c) := by
 unfold lowC
 split
 ·next h =>
  rw [h]
  simp [isCap, UInt8.le_iff_toNat_le] at h
  have h1 : (c + 32).toNat = c.toNat + 32 := by simp [UInt8.toNat_add]; omega
  simp [isSmall, UInt8.le_iff_toNat_le, h1]
  omega
 ·next h => simp [h]
theorem up_cap (c : UInt8) : isCap (upC c) = (isSmall c || isCap c) := by
 unfold upC
 split
 ·next h =>
  rw [h]
  simp [isSmall, UInt8.le_iff_toNat_le] at h
  have h1 : (c - 32).toNat = c.toNat - 32 := by rw [UInt8.toNat_sub_of_le _ _ (by rw [UInt8.le_iff_toNat_le]; simp; omega)]; rfl
  simp [isCap, UInt8.le_iff_toNat_le, h1]
  omega
 ·next h => simp [h]
theorem low_dig (c : UInt8) : isDig (lowC c) = isDig c := by
 unfold lowC
 split
 ·next h =>
  simp [isCap, UInt8.le_iff_toNat_le] at h
  have h1 : (c + 32).toNat = c.toNat + 32 := by simp [UInt8.toNat_add]; omega
  rw [Bool.eq_iff_iff]
  simp [isDig, UInt8.le_iff_toNat_le, h1]
  omega
 ·rfl
theorem up_dig (c : UInt8) : isDig (upC c) = isDig c := by
 unfold upC
 split
 ·next h =>
  simp [isSmall, UInt8.le_iff_toNat_le] at h
  have h1 : (c - 32).toNat = c.toNat - 32 := by rw [UInt8.toNat_sub_of_le _ _ (by rw [UInt8.le_iff_toNat_le]; simp; omega)]; rfl
  rw [Bool.eq_iff_iff]
  simp [isDig, UInt8.le_iff_toNat_le, h1]
  omega
 ·rfl
theorem up_low (c : UInt8) : upC (lowC c) = upC c := by
 unfold lowC
 split
 ·next h =>
  simp [isCap, UInt8.le_iff_toNat_le] at h
  have h1 : (c + 32).toNat = c.toNat + 32 := by simp [UInt8.toNat_add]; omega
  have h2 : isSmall (c + 32) = true := by simp [isSmall, UInt8.le_iff_toNat_le, h1]; omega
  have h3 : isSmall c = false := by rw [Bool.eq_false_iff]; simp [isSmall, UInt8.le_iff_toNat_le]; omega
  unfold upC
  rw [if_pos h2, if_neg (by simp [h3])]
  rw [← UInt8.toNat_inj, UInt8.toNat_sub_of_le _ _ (by rw [UInt8.le_iff_toNat_le, h1]; simp), h1]
  simp
 ·rfl
theorem low_low (c : UInt8) : lowC (lowC c) = lowC c := by
 have h := low_small c
 unfold lowC at *
 split
 ·next h1 =>
  rw [if_pos h1] at h
  rw [if_neg]
  rw [h1] at h
  simp [isSmall, isCap, UInt8.le_iff_toNat_le] at *
  omega
 ·rfl
theorem low_up (c : UInt8) : lowC (upC c) = lowC c := by
 unfold upC
 split
 ·next h =>
  simp [isSmall, UInt8.le_iff_toNat_le] at h
  have h1 : (c - 32).toNat = c.toNat - 32 := by rw [UInt8.toNat_sub_of_le _ _ (by rw [UInt8.le_iff_toNat_le]; simp; omega)]; rfl
  have h2 : isCap (c - 32) = true := by simp [isCap, UInt8.le_iff_toNat_le, h1]; omega
  have h3 : isCap c = false := by rw [Bool.eq_false_iff]; simp [isCap, UInt8.le_iff_toNat_le]; omega
  unfold lowC
  rw [if_pos h2, if_neg (by simp [h3])]
  simp
 ·rfl
theorem script_eq (x : List UInt8) : scriptB (upOf (x.take 1) ++ low (x.drop 1)) = scriptL (low x) := by
 cases x with
 | nil => rfl
 | cons c r =>
   simp [scriptB, scriptL, upOf, low, up_cap, low_small]
   rw [Bool.eq_iff_iff]
   simp
   constructor
   ·rintro ⟨⟨h1, h2⟩, h3⟩; exact ⟨h1, h2, h3⟩
   ·rintro ⟨h1, h2, h3⟩; exact ⟨⟨h1, h2⟩, h3⟩
theorem title_eq (x : List UInt8) : upOf (x.take 1) ++ low (x.drop 1) = titleOf (low x) := by
 cases x with
 | nil => rfl
 | cons c r => simp [titleOf, upOf, low, up_low]
theorem region_eq (x : List UInt8) : regionB (upOf x) = regionL (low x) := by
 have h1 : (upOf x).all isCap = (low x).all isSmall := by
  unfold upOf low
  rw [List.all_map, List.all_map]
  congr 1
  funext c
  simp [up_cap, low_small]
 have h2 : (upOf x).all isDig = (low x).all isDig := by
  unfold upOf low
  rw [List.all_map, List.all_map]
  congr 1
  funext c
  simp [up_dig, low_dig]
 unfold regionB regionL
 rw [h1, h2]
 simp [upOf, low]
theorem upOf_low (x : List UInt8) : upOf (low x) = upOf x := by
 unfold upOf low
 rw [List.map_map]
 congr 1
 funext c
 exact up_low c
end Go.Proofs.YtljdlkonlnjadaaGreatDoor
namespace Go.Proofs.YtljdlkonlnjadaaGreatDoor
abbrev Srt (l : List (List UInt8)) : Prop := l.Pairwise fun x y => x ≤ y
theorem le_tot (a b : List UInt8) : a ≤ b ∨ b ≤ a := List.le_total a b
theorem le_tr (a b c : List UInt8) (h : a ≤ b) (k : b ≤ c) : a ≤ c := List.le_trans h k
theorem le_as (a b : List UInt8) (h : a ≤ b) (k : b ≤ a) : a = b := List.le_antisymm h k
theorem lt_le {a b : List UInt8} (h : a < b) : a ≤ b := fun h2 => List.lt_irrefl a (List.lt_trans h h2)
theorem nlt_le {a b : List UInt8} (h : ¬ a < b) : b ≤ a := h
theorem le_ne_lt {a b : List UInt8} (h : a ≤ b) (hn : a ≠ b) : a < b := Classical.byContradiction fun h2 => hn (le_as a b h (nlt_le h2))
theorem sortS_perm (l : List (List UInt8)) : (sortS l).Perm l := List.mergeSort_perm _ _
theorem sortS_srt (l : List (List UInt8)) : Srt (sortS l) := by
 have h := List.pairwise_mergeSort (le := fun x y : List UInt8 => decide (x ≤ y)) (fun a b c h1 h2 => by simp only [decide_eq_true_eq] at *; exact le_tr a b c h1 h2) (fun a b => by
  rcases le_tot a b with h | h <;> simp [h]) l
 exact h.imp (fun h => by simpa using h)
theorem srt_unique {a b : List (List UInt8)} (ha : Srt a) (hb : Srt b) (hp : a.Perm b) : a = b :=
 List.Perm.eq_of_pairwise (fun x y _ _ h1 h2 => le_as x y h1 h2) ha hb hp
theorem sortS_of {l a : List (List UInt8)} (ha : Srt a) (hp : a.Perm l) : sortS l = a :=
 srt_unique (sortS_srt l) ha ((sortS_perm l).trans hp.symm)
theorem sortS_len (l : List (List UInt8)) : (sortS l).length = l.length := (sortS_perm l).length_eq
def insK (l : List (List UInt8)) (x : List UInt8) : Nat := (l.takeWhile fun y => decide (y < x)).length
def insS (l : List (List UInt8)) (x : List UInt8) : List (List UInt8) := l.take (insK l x) ++ x :: l.drop (insK l x)
def insF (l : List (List UInt8)) (x : List UInt8) : Bool := match l.drop (insK l x) with
 | [] => false
 | y :: _ => y == x
theorem insK_cons (y : List UInt8) (r : List (List UInt8)) (x : List UInt8) : insK (y :: r) x = if y < x then insK r x + 1 else 0 := by
 unfold insK
 by_cases h : y < x <;> simp [List.takeWhile_cons, h]
theorem insK_at {l : List (List UInt8)} {x : List UInt8} {k : Nat} (h1 : ∀ j y, j < k → l[j]? = some y → y < x) (h2 : ∀ y, l[k]? = some y → ¬ y < x) (hk : k ≤ l.length) : insK l x = k := by
 induction l generalizing k with
 | nil => simp at hk; subst hk; rfl
 | cons y r ih =>
   rw [insK_cons]
   cases k with
   | zero => rw [if_neg (h2 y rfl)]
   | succ k =>
     rw [if_pos (h1 0 y (by omega) rfl), ih (k := k) (fun j z hj hz => h1 (j + 1) z (Nat.succ_lt_succ hj) (by simpa using hz)) (fun z hz => h2 z (by simpa using hz)) (by simpa using hk)]
theorem insS_perm (l : List (List UInt8)) (x : List UInt8) : (insS l x).Perm (x :: l) := by
 unfold insS
 refine List.perm_middle.trans ?_
 rw [List.take_append_drop]
theorem insS_srt {l : List (List UInt8)} (h : Srt l) (x : List UInt8) : Srt (insS l x) := by
 induction l with
 | nil => simp [insS, Srt]
 | cons y r ih =>
   unfold Srt at *
   rw [List.pairwise_cons] at h
   unfold insS
   rw [insK_cons]
   by_cases hy : y < x
   ·rw [if_pos hy]
    have h2 := ih h.2
    unfold insS at h2
    simp only [List.take_succ_cons, List.drop_succ_cons, List.cons_append, List.pairwise_cons]
    refine ⟨fun z hz => ?_, h2⟩
    rcases List.mem_append.1 hz with hz | hz
    ·exact h.1 z (List.mem_of_mem_take hz)
    ·rcases List.mem_cons.1 hz with rfl | hz
     ·exact lt_le hy
     ·exact h.1 z (List.mem_of_mem_drop hz)
   ·rw [if_neg hy]
    simp only [List.take_zero, List.drop_zero, List.nil_append, List.pairwise_cons]
    refine ⟨fun z hz => ?_, h.1, h.2⟩
    rcases List.mem_cons.1 hz with rfl | hz
    ·exact nlt_le hy
    ·exact le_tr _ _ _ (nlt_le hy) (h.1 z hz)
theorem insF_iff {l : List (List UInt8)} (h : Srt l) (x : List UInt8) : insF l x = true ↔ x ∈ l := by
 induction l with
 | nil => simp [insF]
 | cons y r ih =>
   unfold Srt at *
   rw [List.pairwise_cons] at h
   unfold insF
   rw [insK_cons]
   by_cases hy : y < x
   ·rw [if_pos hy]
    have h2 := ih h.2
    unfold insF at h2
    simp only [List.drop_succ_cons]
    rw [h2]
    have : x ≠ y := fun e => by subst e; exact List.lt_irrefl x hy
    simp [this]
   ·rw [if_neg hy]
    simp only [List.drop_zero, List.mem_cons, beq_iff_eq]
    constructor
    ·exact fun e => .inl e.symm
    ·rintro (e | hm)
     ·exact e.symm
     ·exact (le_as x y (nlt_le hy) (h.1 x hm)).symm
theorem insF_false {l : List (List UInt8)} (h : Srt l) (x : List UInt8) : insF l x = decide (x ∈ l) := by
 rw [Bool.eq_iff_iff, insF_iff h]; simp
theorem insS_sort (l : List (List UInt8)) (x : List UInt8) : insS (sortS l) x = sortS (l ++ [x]) := by
 refine (sortS_of (insS_srt (sortS_srt l) x) ?_).symm
 exact ((insS_perm _ _).trans ((sortS_perm l).cons x)).trans (List.perm_append_singleton x l).symm
theorem nodup_snoc (l : List (List UInt8)) (x : List UInt8) : isNodup (l ++ [x]) = (isNodup l && !insF (sortS l) x) := by
 rw [insF_false (sortS_srt l)]
 unfold isNodup
 rw [Bool.eq_iff_iff]
 have h1 : x ∈ sortS l ↔ x ∈ l := (sortS_perm l).mem_iff
 simp [List.nodup_append, h1]
 intro _
 exact ⟨fun h e => h x e rfl, fun h a ha e => h (e ▸ ha)⟩
theorem adj_srt {l : List (List UInt8)} (hs : Srt l) (ha : ∀ j, j + 1 < l.length → l[j]? ≠ l[j + 1]?) : l.Nodup := by
 induction l with
 | nil => simp
 | cons y r ih =>
   unfold Srt at hs
   rw [List.pairwise_cons] at hs
   rw [List.nodup_cons]
   refine ⟨fun hm => ?_, ih hs.2 (fun j hj => by have := ha (j + 1) (by simpa using hj); simpa using this)⟩
   cases r with
   | nil => simp at hm
   | cons z r =>
     have h0 := ha 0 (by simp)
     simp at h0
     have h1 : y ≤ z := hs.1 z (by simp)
     have h2 : z ≤ y := by
      rcases List.mem_cons.1 hm with rfl | hm
      ·exact absurd rfl h0
      ·have := hs.2
       rw [List.pairwise_cons] at this
       exact this.1 y hm
     exact h0 (le_as _ _ h1 h2)
theorem nodup_adj {l : List (List UInt8)} (h : l.Nodup) (j : Nat) (hj : j + 1 < l.length) : l[j]? ≠ l[j + 1]? := by
 intro e
 have := (List.getElem?_inj (by omega) h).1 e
 omega
theorem keeps_adj (l : List (List UInt8)) (j : Nat) (hj : j < l.length) : Lib.keeps l.toArray j = true ↔ (j = 0 ∨ l[j - 1]? ≠ l[j]?) := by
 unfold Lib.keeps
 rw [decide_eq_true_eq]
 have e1 : l.toArray[j]! = l[j] := by rw [getElem!_pos l.toArray j (by simpa using hj)]; simp
 have e2 : l.toArray[j - 1]! = l[j - 1] := by rw [getElem!_pos l.toArray (j - 1) (by simp; omega)]; simp
 rw [e1, e2, List.getElem?_eq_getElem hj, List.getElem?_eq_getElem (by omega : j - 1 < l.length)]
 simp only [ne_eq, Option.some.injEq]
 constructor
 ·rintro (h | h)
  ·exact .inl h
  ·exact .inr fun e => h e.symm
 ·rintro (h | h)
  ·exact .inl h
  ·exact .inr fun e => h e.symm
theorem compact_nodup {l : List (List UInt8)} (h : l.Nodup) : Lib.compact l = l := by
 refine Lib.compact_all l fun j hj => (keeps_adj l j hj).2 ?_
 cases j with
 | zero => exact .inl rfl
 | succ j => exact .inr (nodup_adj h j hj)
theorem compact_le (l : List (List UInt8)) : (Lib.compact l).length ≤ l.length := by
 unfold Lib.compact Lib.compactUpTo
 rw [List.length_map]
 refine Nat.le_trans (List.length_filter_le _ _) ?_
 simp
theorem compact_lt {l : List (List UInt8)} (hs : Srt l) (h : ¬ l.Nodup) : (Lib.compact l).length < l.length := by
 refine Nat.lt_of_le_of_ne (compact_le l) fun e => h (adj_srt hs fun j hj he => ?_)
 unfold Lib.compact Lib.compactUpTo at e
 rw [List.length_map] at e
 have h1 : ((List.range l.length).filter (Lib.keeps l.toArray)).length = (List.range l.length).length := by rw [e]; simp
 rw [List.length_filter_eq_length_iff] at h1
 have h2 := h1 (j + 1) (by simpa using hj)
 rw [keeps_adj l (j + 1) hj] at h2
 rcases h2 with h2 | h2
 ·omega
 ·exact h2 (by simpa using he)
theorem compact_sort (l : List (List UInt8)) : isNodup l = decide ((Lib.compact (sortS l)).length = l.length) := by
 have hn : (sortS l).Nodup ↔ l.Nodup := (sortS_perm l).nodup_iff
 unfold isNodup
 rw [Bool.eq_iff_iff]
 simp only [decide_eq_true_eq]
 constructor
 ·intro h; rw [compact_nodup (hn.2 h), sortS_len]
 ·intro h
  apply Classical.byContradiction
  intro h2
  have := compact_lt (sortS_srt l) (fun h3 => h2 (hn.1 h3))
  rw [sortS_len] at this
  omega
def incB : List (List UInt8) → Bool
 | [] => true
 | x :: r => (match r with | [] => true | y :: _ => decide (x < y)) && incB r
def validP (t : TagP) : Bool :=
 langB t.lang && (t.script == [] || scriptB t.script) && (t.region == [] || regionB t.region) && t.vars.all variantB && incB t.vars && decide (t.vars.length ≤ 4)
def partsP (t : TagP) : List (List UInt8) := (t.lang :: t.script :: t.region :: t.vars).filter fun x => !(x == [])
def textP (t : TagP) : List UInt8 := Lib.join (partsP t) [45]
def optP (x : List UInt8) : List UInt8 := if x == [] then [] else 45 :: x
def textR (t : TagP) : List UInt8 := t.lang ++ optP t.script ++ optP t.region ++ (t.vars.map fun x => 45 :: x).flatten
theorem incB_adj (l : List (List UInt8)) : incB l = true ↔ ∀ j x y, l[j]? = some x → l[j + 1]? = some y → x < y := by
 induction l with
 | nil => simp [incB]
 | cons a r ih =>
   unfold incB
   rw [Bool.and_eq_true, ih]
   constructor
   ·rintro ⟨h1, h2⟩ j x y hx hy
    cases j with
    | zero =>
      cases r with
      | nil => simp at hy
      | cons b r => simp at hx hy; subst hx; subst hy; simpa using h1
    | succ j => exact h2 j x y (by simpa using hx) (by simpa using hy)
   ·intro h
    refine ⟨?_, fun j x y hx hy => h (j + 1) x y (by simpa using hx) (by simpa using hy)⟩
    cases r with
    | nil => rfl
    | cons b r => simpa using h 0 a b (by simp) (by simp)
theorem incB_pw (l : List (List UInt8)) (h : incB l = true) : l.Pairwise fun x y => x < y := by
 induction l with
 | nil => exact List.Pairwise.nil
 | cons a r ih =>
   unfold incB at h
   rw [Bool.and_eq_true] at h
   have h2 := ih h.2
   refine List.pairwise_cons.2 ⟨fun z hz => ?_, h2⟩
   cases r with
   | nil => simp at hz
   | cons b r =>
     have h3 : a < b := by simpa using h.1
     rcases List.mem_cons.1 hz with rfl | hz
     ·exact h3
     ·exact List.lt_trans h3 ((List.pairwise_cons.1 h2).1 z hz)
theorem pw_incB (l : List (List UInt8)) (h : l.Pairwise fun x y => x < y) : incB l = true := by
 induction l with
 | nil => rfl
 | cons a r ih =>
   rw [List.pairwise_cons] at h
   unfold incB
   rw [ih h.2]
   cases r with
   | nil => rfl
   | cons b r => simpa using h.1 b (by simp)
theorem incB_iff (l : List (List UInt8)) : incB l = true ↔ Srt l ∧ l.Nodup := by
 constructor
 ·intro h
  have h2 := incB_pw l h
  exact ⟨h2.imp lt_le, h2.imp fun {a b} hab e => by subst e; exact List.lt_irrefl a hab⟩
 ·rintro ⟨h1, h2⟩
  exact pw_incB l ((h1.and h2).imp fun {a b} h => le_ne_lt h.1 h.2)
theorem lang_ne {x : List UInt8} (h : langB x = true) : x ≠ [] := by rintro rfl; simp [langB] at h
theorem variant_ne {x : List UInt8} (h : variantB x = true) : x ≠ [] := by rintro rfl; simp [variantB] at h
theorem join_tail (x : List UInt8) (r : List (List UInt8)) : Lib.join (x :: r) [45] = x ++ (r.map fun y => 45 :: y).flatten := by
 rw [Lib.join_cons]; rfl
theorem text_eq (t : TagP) (h : validP t = true) : textR t = textP t := by
 simp only [validP, Bool.and_eq_true] at h
 obtain ⟨⟨⟨⟨⟨h1, h2⟩, h3⟩, h4⟩, h5⟩, h6⟩ := h
 have hv : t.vars.filter (fun x => !(x == [])) = t.vars := by
  rw [List.filter_eq_self]
  intro x hx
  have := variant_ne (List.all_eq_true.1 h4 x hx)
  simpa using this
 unfold textR textP partsP
 have hl : (!(t.lang == [])) = true := by simpa using lang_ne h1
 rw [List.filter_cons, if_pos hl, join_tail, List.filter_cons, List.filter_cons, hv]
 unfold optP
 by_cases hs : t.script = [] <;> by_cases hr : t.region = [] <;> simp [hs, hr]
theorem scriptL_title {x : List UInt8} (h : scriptL x = true) : scriptB (titleOf x) = true := by
 cases x with
 | nil => simp [scriptL] at h
 | cons c r =>
   simp [scriptL] at h
   simp [scriptB, titleOf, up_cap, h]
   exact h.2.2
theorem regionL_up {x : List UInt8} (h : regionL x = true) : regionB (upOf x) = true := by
 have h2 := region_eq x
 rw [h2]
 unfold regionL at *
 have e1 : (low x).length = x.length := by simp [low]
 rw [e1]
 rcases Bool.or_eq_true_iff.1 h with h | h
 ·rw [Bool.and_eq_true] at h
  rw [h.1]
  have : (low x).all isSmall = true := by
   unfold low
   rw [List.all_map, List.all_eq_true]
   intro c hc
   have := List.all_eq_true.1 h.2 c hc
   simp [low_small, this]
  simp [this]
 ·rw [Bool.and_eq_true] at h
  rw [h.1]
  have : (low x).all isDig = true := by
   unfold low
   rw [List.all_map, List.all_eq_true]
   intro c hc
   have := List.all_eq_true.1 h.2 c hc
   simp [low_dig, this]
  simp [this]
def preP (t : TagP) : Bool := langB t.lang && (t.script == [] || scriptB t.script) && (t.region == [] || regionB t.region) && t.vars.all variantB
theorem finT_valid (E : Codes) (hE : E.dup ≠ 0 ∧ E.lim ≠ 0) (t u : TagP) (hp : preP t = true) (h : finT E t = (u, 0)) : validP u = true := by
 unfold finT at h
 split at h
 ·next hn =>
  split at h
  ·next h4 =>
   injection h with h1 h2
   subst h1
   simp only [preP, Bool.and_eq_true] at hp
   obtain ⟨⟨⟨h1, h2⟩, h3⟩, h5⟩ := hp
   have hi : incB (sortS t.vars) = true := (incB_iff _).2 ⟨sortS_srt _, (sortS_perm _).nodup_iff.2 (by simpa [isNodup] using hn)⟩
   have ha : (sortS t.vars).all variantB = true := by
    rw [List.all_eq_true] at h5 ⊢
    exact fun x hx => h5 x ((sortS_perm _).mem_iff.1 hx)
   simp [validP, h1, h2, h3, hi, ha, sortS_len, h4]
   simp at h2 h3
   exact ⟨h2, h3⟩
  ·injection h with h1 h2; exact absurd h2 hE.2
 ·injection h with h1 h2; exact absurd h2 hE.1
theorem c2_cons (E : Codes) (t : TagP) (x r) : c2 E t (x :: r) = if regionL x then c3 E { t with region := upOf x } r else c3 E t (x :: r) := rfl
theorem c1_cons (E : Codes) (t : TagP) (x r) : c1 E t (x :: r) = if scriptL x then c2 E { t with script := titleOf x } r else c2 E t (x :: r) := rfl
theorem c3_valid (E : Codes) (hE : E.dup ≠ 0 ∧ E.lim ≠ 0 ∧ E.syn ≠ 0) (t u : TagP) (r : List (List UInt8)) (hp : preP t = true) (h : c3 E t r = (u, 0)) : validP u = true := by
 unfold c3 at h
 split at h
 ·next ha =>
  refine finT_valid E ⟨hE.1, hE.2.1⟩ _ u ?_ h
  simp only [preP, Bool.and_eq_true] at hp ⊢
  exact ⟨hp.1, by rw [List.all_append, hp.2, ha]; rfl⟩
 ·injection h with h1 h2; exact absurd h2 hE.2.2
theorem c2_valid (E : Codes) (hE : E.dup ≠ 0 ∧ E.lim ≠ 0 ∧ E.syn ≠ 0) (t u : TagP) (r : List (List UInt8)) (hp : preP t = true) (h : c2 E t r = (u, 0)) : validP u = true := by
 cases r with
 | nil => exact c3_valid E hE t u [] hp h
 | cons x r =>
   rw [c2_cons] at h
   split at h
   ·next hx =>
    refine c3_valid E hE _ u r ?_ h
    simp only [preP, Bool.and_eq_true] at hp ⊢
    exact ⟨⟨hp.1.1, by simp [regionL_up hx]⟩, hp.2⟩
   ·exact c3_valid E hE t u _ hp h
theorem c1_valid (E : Codes) (hE : E.dup ≠ 0 ∧ E.lim ≠ 0 ∧ E.syn ≠ 0) (t u : TagP) (r : List (List UInt8)) (hp : preP t = true) (h : c1 E t r = (u, 0)) : validP u = true := by
 cases r with
 | nil => exact c2_valid E hE t u [] hp h
 | cons x r =>
   rw [c1_cons] at h
   split at h
   ·next hx =>
    refine c2_valid E hE _ u r ?_ h
    simp only [preP, Bool.and_eq_true] at hp ⊢
    exact ⟨⟨⟨hp.1.1.1, by simp [scriptL_title hx]⟩, hp.1.2⟩, hp.2⟩
   ·exact c2_valid E hE t u _ hp h
theorem parse_valid (E : Codes) (hE : E.dup ≠ 0 ∧ E.lim ≠ 0 ∧ E.syn ≠ 0) (s : List UInt8) (u : TagP) (h : parseP E s = (u, 0)) : validP u = true := by
 unfold parseP c0 at h
 split at h
 ·injection h with h1 h2; exact absurd h2 hE.2.2
 ·split at h
  ·next hl => exact c1_valid E hE _ u _ (by simp [preP, hl]) h
  ·injection h with h1 h2; exact absurd h2 hE.2.2
theorem finT_zero (E : Codes) (t : TagP) (h : (finT E t).2 ≠ 0) : (finT E t).1 = TagP.zero := by
 unfold finT at *
 split
 ·split
  ·next h1 h2 => rw [if_pos h1, if_pos h2] at h; exact absurd rfl h
  ·rfl
 ·rfl
theorem c3_zero (E : Codes) (t : TagP) (r) (h : (c3 E t r).2 ≠ 0) : (c3 E t r).1 = TagP.zero := by
 unfold c3 at *
 split
 ·next h1 => rw [if_pos h1] at h; exact finT_zero E _ h
 ·rfl
theorem c2_zero (E : Codes) (t : TagP) (r) (h : (c2 E t r).2 ≠ 0) : (c2 E t r).1 = TagP.zero := by
 cases r with
 | nil => exact c3_zero E t [] h
 | cons x r =>
   rw [c2_cons] at *
   split
   ·next h1 => rw [if_pos h1] at h; exact c3_zero E _ _ h
   ·next h1 => rw [if_neg h1] at h; exact c3_zero E _ _ h
theorem c1_zero (E : Codes) (t : TagP) (r) (h : (c1 E t r).2 ≠ 0) : (c1 E t r).1 = TagP.zero := by
 cases r with
 | nil => exact c2_zero E t [] h
 | cons x r =>
   rw [c1_cons] at *
   split
   ·next h1 => rw [if_pos h1] at h; exact c2_zero E _ _ h
   ·next h1 => rw [if_neg h1] at h; exact c2_zero E _ _ h
theorem parse_zero (E : Codes) (s : List UInt8) (h : (parseP E s).2 ≠ 0) : (parseP E s).1 = TagP.zero := by
 unfold parseP c0 at *
 split
 ·rfl
 ·next x r hx =>
  rw [hx] at h
  split
  ·next h1 => simp only [h1, if_true] at h; exact c1_zero E _ _ h
  ·rfl
end Go.Proofs.YtljdlkonlnjadaaGreatDoor
namespace Go.Proofs.YtljdlkonlnjadaaGreatDoor
theorem small_sep {c : UInt8} (h : isSmall c = true) : isSep c = false := by
 simp [isSmall, UInt8.le_iff_toNat_le] at h
 simp only [isSep, Bool.or_eq_false_iff, beq_eq_false_iff_ne, ne_eq]
 constructor <;> (rintro rfl; simp at h)
theorem cap_sep {c : UInt8} (h : isCap c = true) : isSep c = false := by
 simp [isCap, UInt8.le_iff_toNat_le] at h
 simp only [isSep, Bool.or_eq_false_iff, beq_eq_false_iff_ne, ne_eq]
 constructor <;> (rintro rfl; simp at h)
theorem dig_sep {c : UInt8} (h : isDig c = true) : isSep c = false := by
 simp [isDig, UInt8.le_iff_toNat_le] at h
 simp only [isSep, Bool.or_eq_false_iff, beq_eq_false_iff_ne, ne_eq]
 constructor <;> (rintro rfl; simp at h)
def noSep (x : List UInt8) : Prop := ∀ c ∈ x, isSep c = false
theorem lang_sep {x : List UInt8} (h : langB x = true) : noSep x := by
 unfold langB at h
 rw [Bool.and_eq_true] at h
 exact fun c hc => small_sep (List.all_eq_true.1 h.2 c hc)
theorem script_sep {x : List UInt8} (h : scriptB x = true) : noSep x := by
 cases x with
 | nil => intro c hc; simp at hc
 | cons a r =>
   simp [scriptB] at h
   intro c hc
   rcases List.mem_cons.1 hc with rfl | hc
   ·exact cap_sep h.1.2
   ·exact small_sep (h.2 c hc)
theorem region_sep {x : List UInt8} (h : regionB x = true) : noSep x := by
 unfold regionB at h
 rcases Bool.or_eq_true_iff.1 h with h | h <;> rw [Bool.and_eq_true] at h
 ·exact fun c hc => cap_sep (List.all_eq_true.1 h.2 c hc)
 ·exact fun c hc => dig_sep (List.all_eq_true.1 h.2 c hc)
theorem variant_eith {x : List UInt8} (h : variantB x = true) : x.all isEith = true := by
 unfold variantB at h; rw [Bool.and_eq_true] at h; exact h.1
theorem eith_sep {c : UInt8} (h : isEith c = true) : isSep c = false := by
 unfold isEith at h
 rcases Bool.or_eq_true_iff.1 h with h | h
 ·exact small_sep h
 ·exact dig_sep h
theorem variant_sep {x : List UInt8} (h : variantB x = true) : noSep x :=
 fun c hc => eith_sep (List.all_eq_true.1 (variant_eith h) c hc)
theorem spOf_one (x : List UInt8) (h : noSep x) : spOf x = [x] := by
 induction x with
 | nil => rfl
 | cons c r ih =>
   unfold spOf
   rw [if_neg (by simp [h c (by simp)]), ih (fun d hd => h d (by simp [hd]))]
theorem spOf_cons (c : UInt8) (r : List UInt8) : spOf (c :: r) = if isSep c then [] :: spOf r else match spOf r with
 | [] => [[c]]
 | x :: xs => (c :: x) :: xs := rfl
theorem spOf_app (x b : List UInt8) (d : UInt8) (hd : isSep d = true) : spOf (x ++ d :: b) = spOf x ++ spOf b := by
 induction x with
 | nil => simp [spOf, hd]
 | cons c r ih =>
   rw [List.cons_append, spOf_cons, spOf_cons, ih]
   by_cases hc : isSep c = true
   ·rw [if_pos hc, if_pos hc]; rfl
   ·rw [if_neg hc, if_neg hc]
    cases h : spOf r with
    | nil => exact absurd h (spOf_ne r)
    | cons y ys => rfl
theorem spOf_join (x : List UInt8) (r : List (List UInt8)) (h : ∀ y ∈ x :: r, noSep y) : spOf (x ++ (r.map fun y => 45 :: y).flatten) = x :: r := by
 induction r generalizing x with
 | nil => simpa using spOf_one x (h x (by simp))
 | cons y r ih =>
   rw [List.map_cons, List.flatten_cons, List.cons_append, spOf_app x _ 45 (by decide), spOf_one x (h x (by simp)), ih y (fun z hz => h z (by simp [hz]))]
   rfl
theorem partsP_eq (t : TagP) (h : validP t = true) : ∃ o q, partsP t = t.lang :: (o ++ (q ++ t.vars)) ∧ (t.script = [] ∧ o = [] ∨ scriptB t.script = true ∧ o = [t.script]) ∧ (t.region = [] ∧ q = [] ∨ regionB t.region = true ∧ q = [t.region]) := by
 simp only [validP, Bool.and_eq_true] at h
 obtain ⟨⟨⟨⟨⟨h1, h2⟩, h3⟩, h4⟩, h5⟩, h6⟩ := h
 have hv : t.vars.filter (fun x => !(x == [])) = t.vars := by
  rw [List.filter_eq_self]
  intro x hx
  have := variant_ne (List.all_eq_true.1 h4 x hx)
  simpa using this
 have hl : (!(t.lang == [])) = true := by simpa using lang_ne h1
 refine ⟨[t.script].filter fun x => !(x == []), [t.region].filter fun x => !(x == []), ?_, ?_, ?_⟩
 ·unfold partsP
  rw [List.filter_cons, if_pos hl, List.filter_cons, List.filter_cons, hv]
  by_cases hs : t.script = [] <;> by_cases hr : t.region = [] <;> simp [hs, hr]
 ·by_cases hs : t.script = []
  ·exact .inl ⟨hs, by simp [hs]⟩
  ·exact .inr ⟨by simpa [hs] using h2, by simp [hs]⟩
 ·by_cases hs : t.region = []
  ·exact .inl ⟨hs, by simp [hs]⟩
  ·exact .inr ⟨by simpa [hs] using h3, by simp [hs]⟩
theorem parts_sep (t : TagP) (h : validP t = true) : ∀ y ∈ partsP t, noSep y := by
 obtain ⟨o, q, h1, h2, h3⟩ := partsP_eq t h
 simp only [validP, Bool.and_eq_true] at h
 intro y hy
 rw [h1] at hy
 rcases List.mem_cons.1 hy with rfl | hy
 ·exact lang_sep h.1.1.1.1.1
 ·rcases List.mem_append.1 hy with hy | hy
  ·rcases h2 with ⟨_, rfl⟩ | ⟨h2, rfl⟩
   ·simp at hy
   ·simp at hy; subst hy; exact script_sep h2
  ·rcases List.mem_append.1 hy with hy | hy
   ·rcases h3 with ⟨_, rfl⟩ | ⟨h3, rfl⟩
    ·simp at hy
    ·simp at hy; subst hy; exact region_sep h3
   ·exact variant_sep (List.all_eq_true.1 h.1.1.2 y hy)
theorem spOf_text (t : TagP) (h : validP t = true) : spOf (textP t) = partsP t := by
 have hs := parts_sep t h
 obtain ⟨o, q, h1, _, _⟩ := partsP_eq t h
 unfold textP
 rw [h1] at hs ⊢
 rw [join_tail, spOf_join _ _ hs]
theorem small_low {c : UInt8} (h : isSmall c = true) : lowC c = c := by
 unfold lowC
 rw [if_neg]
 simp [isSmall, isCap, UInt8.le_iff_toNat_le] at *
 omega
theorem dig_low {c : UInt8} (h : isDig c = true) : lowC c = c := by
 unfold lowC
 rw [if_neg]
 simp [isDig, isCap, UInt8.le_iff_toNat_le] at *
 omega
theorem cap_up {c : UInt8} (h : isCap c = true) : upC c = c := by
 unfold upC
 rw [if_neg]
 simp [isSmall, isCap, UInt8.le_iff_toNat_le] at *
 omega
theorem dig_up {c : UInt8} (h : isDig c = true) : upC c = c := by
 unfold upC
 rw [if_neg]
 simp [isDig, isSmall, UInt8.le_iff_toNat_le] at *
 omega
theorem low_id {x : List UInt8} (h : ∀ c ∈ x, lowC c = c) : low x = x := by
 unfold low
 conv => rhs; rw [← List.map_id x]
 exact List.map_congr_left h
theorem up_id {x : List UInt8} (h : ∀ c ∈ x, upC c = c) : upOf x = x := by
 unfold upOf
 conv => rhs; rw [← List.map_id x]
 exact List.map_congr_left h
theorem lang_low {x : List UInt8} (h : langB x = true) : low x = x := by
 unfold langB at h
 rw [Bool.and_eq_true] at h
 exact low_id fun c hc => small_low (List.all_eq_true.1 h.2 c hc)
theorem variant_low {x : List UInt8} (h : variantB x = true) : low x = x := by
 refine low_id fun c hc => ?_
 have := List.all_eq_true.1 (variant_eith h) c hc
 unfold isEith at this
 rcases Bool.or_eq_true_iff.1 this with h | h
 ·exact small_low h
 ·exact dig_low h
theorem script_back {x : List UInt8} (h : scriptB x = true) : scriptL (low x) = true ∧ titleOf (low x) = x := by
 cases x with
 | nil => simp [scriptB] at h
 | cons a r =>
   have e : scriptB (upOf ((a :: r).take 1) ++ low ((a :: r).drop 1)) = scriptL (low (a :: r)) := script_eq _
   have h2 := h
   simp [scriptB] at h2
   have h3 : low r = r := low_id fun c hc => small_low (h2.2 c hc)
   have h4 : upOf ((a :: r).take 1) ++ low ((a :: r).drop 1) = a :: r := by simp [upOf, cap_up h2.1.2, h3]
   rw [h4] at e
   exact ⟨e.symm.trans h, by rw [← title_eq, h4]⟩
theorem region_back {x : List UInt8} (h : regionB x = true) : regionL (low x) = true ∧ upOf (low x) = x := by
 have h4 : upOf x = x := by
  refine up_id fun c hc => ?_
  unfold regionB at h
  rcases Bool.or_eq_true_iff.1 h with h | h <;> rw [Bool.and_eq_true] at h
  ·exact cap_up (List.all_eq_true.1 h.2 c hc)
  ·exact dig_up (List.all_eq_true.1 h.2 c hc)
 have e := region_eq x
 rw [h4] at e
 exact ⟨e.symm.trans h, by rw [upOf_low, h4]⟩
theorem script_iff (x : List UInt8) : scriptB x = (scriptL (low x) && titleOf (low x) == x) := by
 rw [Bool.eq_iff_iff, Bool.and_eq_true, beq_iff_eq]
 constructor
 ·exact script_back
 ·rintro ⟨h1, h2⟩
  rw [← h2]; exact scriptL_title h1
theorem region_iff (x : List UInt8) : regionB x = (regionL (low x) && upOf x == x) := by
 rw [Bool.eq_iff_iff, Bool.and_eq_true, beq_iff_eq]
 constructor
 ·intro h
  have := region_back h
  exact ⟨this.1, by rw [← upOf_low]; exact this.2⟩
 ·rintro ⟨h1, h2⟩
  have := regionL_up h1
  rw [upOf_low, h2] at this
  exact this
theorem variant_noscript {x : List UInt8} (h : variantB x = true) : scriptL x = false := by
 cases x with
 | nil => rfl
 | cons a r =>
   rw [Bool.eq_false_iff]
   intro h2
   simp [variantB] at h
   simp [scriptL] at h2
   have h3 := h2.2.1
   rcases h.2 with h4 | h4
   ·omega
   ·have h5 := h4.2
    simp [isSmall, isDig, UInt8.le_iff_toNat_le] at h3 h5
    omega
theorem variant_noregion {x : List UInt8} (h : variantB x = true) : regionL x = false := by
 rw [Bool.eq_false_iff]
 intro h2
 simp [variantB] at h
 simp [regionL] at h2
 omega
theorem region_noscript {x : List UInt8} (h : regionB x = true) : scriptL (low x) = false := by
 rw [Bool.eq_false_iff]
 intro h2
 simp [regionB] at h
 simp [scriptL, low] at h2
 omega
theorem finT_of (E : Codes) (t : TagP) (h : validP t = true) : finT E t = (t, 0) := by
 simp only [validP, Bool.and_eq_true] at h
 obtain ⟨⟨_, h5⟩, h6⟩ := h
 obtain ⟨h7, h8⟩ := (incB_iff _).1 h5
 unfold finT
 rw [if_pos (by simpa [isNodup] using h8), if_pos (by simpa using h6), sortS_of h7 (List.Perm.refl _)]
theorem low_vars {l : List (List UInt8)} (h : l.all variantB = true) : l.map low = l := by
 conv => rhs; rw [← List.map_id l]
 exact List.map_congr_left fun x hx => variant_low (List.all_eq_true.1 h x hx)
theorem c2_vars (E : Codes) (t : TagP) (v : List (List UInt8)) (h : v.all variantB = true) : c2 E t v = c3 E t v := by
 cases v with
 | nil => rfl
 | cons x r => rw [c2_cons, if_neg (by simp [variant_noregion (List.all_eq_true.1 h x (by simp))])]
theorem c1_vars (E : Codes) (t : TagP) (v : List (List UInt8)) (h : v.all variantB = true) : c1 E t v = c3 E t v := by
 cases v with
 | nil => rfl
 | cons x r => rw [c1_cons, if_neg (by simp [variant_noscript (List.all_eq_true.1 h x (by simp))]), c2_vars E t _ h]
theorem parse_text (E : Codes) (t : TagP) (h : validP t = true) : parseP E (textP t) = (t, 0) := by
 have hp := partsP_eq t h
 have hf := finT_of E t h
 have hv : t.vars.all variantB = true := by simp only [validP, Bool.and_eq_true] at h; exact h.1.1.2
 have hl : langB t.lang = true := by simp only [validP, Bool.and_eq_true] at h; exact h.1.1.1.1.1
 obtain ⟨o, q, h1, h2, h3⟩ := hp
 unfold parseP
 rw [spOf_text t h, h1, List.map_cons, List.map_append, List.map_append, low_vars hv, lang_low hl]
 show (if langB t.lang then _ else _) = _
 rw [if_pos hl]
 have hc3 : ∀ u : TagP, u.lang = t.lang → u.script = t.script → u.region = t.region → u.vars = [] → c3 E u t.vars = (t, 0) := by
  intro u e1 e2 e3 e4
  unfold c3
  rw [if_pos hv, e4, List.nil_append, ← hf]
  congr 1
  cases u; cases t
  simp_all
 have hc2 : ∀ u : TagP, u.lang = t.lang → u.script = t.script → u.region = [] → u.vars = [] → c2 E u (q.map low ++ t.vars) = (t, 0) := by
  intro u e1 e2 e3 e4
  rcases h3 with ⟨h3, rfl⟩ | ⟨h3, rfl⟩
  ·simp only [List.map_nil, List.nil_append]
   rw [c2_vars E u _ hv]
   exact hc3 u e1 e2 (e3.trans h3.symm) e4
  ·simp only [List.map_cons, List.map_nil, List.cons_append, List.nil_append]
   rw [c2_cons, if_pos (region_back h3).1]
   exact hc3 _ e1 e2 (region_back h3).2 e4
 rcases h2 with ⟨h2, rfl⟩ | ⟨h2, rfl⟩
 ·simp only [List.map_nil, List.nil_append]
  rcases h3 with ⟨h3, rfl⟩ | ⟨h3, rfl⟩
  ·simp only [List.map_nil, List.nil_append]
   rw [c1_vars E _ _ hv]
   exact hc3 _ rfl h2.symm h3.symm rfl
  ·simp only [List.map_cons, List.map_nil, List.cons_append, List.nil_append] at hc2 ⊢
   rw [c1_cons, if_neg (by simp [region_noscript h3])]
   exact hc2 _ rfl h2.symm rfl rfl
 ·simp only [List.map_cons, List.map_nil, List.cons_append, List.nil_append]
  rw [c1_cons, if_pos (script_back h2).1]
  exact hc2 _ rfl (script_back h2).2 rfl rfl
theorem text_inj (t u : TagP) (ht : validP t = true) (hu : validP u = true) (h : textP t = textP u) : t = u := by
 have h1 := parse_text ⟨1, 1, 1⟩ t ht
 rw [h, parse_text _ u hu] at h1
 injection h1 with h1 _
 exact h1.symm
def normC (c : UInt8) : UInt8 := if isSep c then 45 else lowC c
theorem spOf_norm (l : List UInt8) : (spOf l).map low = spOf (l.map normC) := by
 induction l with
 | nil => rfl
 | cons c r ih =>
   rw [List.map_cons]
   unfold spOf
   rw [← ih]
   by_cases hc : isSep c = true
   ·rw [if_pos hc, if_pos (by simp [normC, hc]; decide)]; rfl
   ·have e : normC c = lowC c := by simp [normC, hc]
    rw [if_neg hc, if_neg (by rw [e, cap_low]; exact hc), e]
    cases h : spOf r with
    | nil => exact absurd h (spOf_ne r)
    | cons y ys => rfl
def spellC (c : UInt8) (b : Nat) : UInt8 := if b % 2 = 1 then (if upC c == 45 then 95 else upC c) else lowC c
def spellL : List UInt8 → Nat → List UInt8
 | [], _ => []
 | c :: r, b => spellC c b :: spellL r (b / 2)
theorem up_sep (c : UInt8) : isSep (upC c) = isSep c := by
 rw [← cap_low (upC c), low_up, cap_low]
theorem norm_spell (c : UInt8) (b : Nat) : normC (spellC c b) = normC c := by
 unfold spellC
 split
 ·have e1 : normC (upC c) = normC c := by unfold normC; rw [up_sep, low_up]
  split
  ·next h =>
   rw [beq_iff_eq] at h
   rw [← e1, h]
   decide
  ·exact e1
 ·unfold normC
  rw [cap_low, low_low]
theorem spell_norm (l : List UInt8) (b : Nat) : (spellL l b).map normC = l.map normC := by
 induction l generalizing b with
 | nil => rfl
 | cons c r ih => simp [spellL, norm_spell, ih]
theorem parse_spell (E : Codes) (l : List UInt8) (b : Nat) : parseP E (spellL l b) = parseP E l := by
 unfold parseP
 rw [spOf_norm, spOf_norm, spell_norm]
def undP : List UInt8 := [117, 110, 100]
def upP (t : TagP) : Option TagP :=
 if t.vars ≠ [] then some { t with vars := t.vars.take (t.vars.length - 1) }
 else if t.region ≠ [] then some { t with region := [] }
 else if t.script ≠ [] then some { t with script := [] }
 else if t.lang ≠ undP then some { t with lang := undP }
 else none
def rankP (t : TagP) : Nat := t.vars.length + (if t.region = [] then 0 else 1) + (if t.script = [] then 0 else 1) + (if t.lang = undP then 0 else 1)
theorem rank_le {t : TagP} (h : validP t = true) : rankP t ≤ 7 := by
 simp only [validP, Bool.and_eq_true, decide_eq_true_eq] at h
 unfold rankP
 split <;> split <;> split <;> omega
theorem up_valid {t u : TagP} (h : validP t = true) (hu : upP t = some u) : validP u = true ∧ rankP u + 1 = rankP t := by
 simp only [validP, Bool.and_eq_true, decide_eq_true_eq] at h
 obtain ⟨⟨⟨⟨⟨v1, v2⟩, v3⟩, v4⟩, v5⟩, v6⟩ := h
 unfold upP at hu
 split at hu
 ·next hv =>
  injection hu with hu
  subst hu
  have hl : 0 < t.vars.length := List.length_pos_iff.2 hv
  constructor
  ·have e1 : (t.vars.take (t.vars.length - 1)).all variantB = true := by
    rw [List.all_eq_true] at v4 ⊢
    exact fun x hx => v4 x (List.mem_of_mem_take hx)
   have e2 : incB (t.vars.take (t.vars.length - 1)) = true := by
    refine pw_incB _ ((incB_pw _ v5).sublist (List.take_sublist _ _))
   simp only [validP, Bool.and_eq_true, decide_eq_true_eq]
   exact ⟨⟨⟨⟨⟨v1, v2⟩, v3⟩, e1⟩, e2⟩, by rw [List.length_take]; omega⟩
  ·simp only [rankP, List.length_take]
   omega
 ·next hv =>
  have hv : t.vars = [] := Classical.byContradiction hv
  split at hu
  ·next hr =>
   injection hu with hu
   subst hu
   constructor
   ·simp only [validP, Bool.and_eq_true, decide_eq_true_eq]
    exact ⟨⟨⟨⟨⟨v1, v2⟩, by simp⟩, v4⟩, v5⟩, v6⟩
   ·simp only [rankP, if_neg hr]; simp; omega
  ·next hr =>
   split at hu
   ·next hs =>
    injection hu with hu
    subst hu
    constructor
    ·simp only [validP, Bool.and_eq_true, decide_eq_true_eq]
     exact ⟨⟨⟨⟨⟨v1, by simp⟩, v3⟩, v4⟩, v5⟩, v6⟩
    ·simp only [rankP, if_neg hs]; simp; omega
   ·split at hu
    ·next hl =>
     injection hu with hu
     subst hu
     constructor
     ·simp only [validP, Bool.and_eq_true, decide_eq_true_eq]
      exact ⟨⟨⟨⟨⟨by decide, v2⟩, v3⟩, v4⟩, v5⟩, v6⟩
     ·simp only [rankP, if_neg hl]; simp
    ·cases hu
theorem up_none {t : TagP} (hu : upP t = none) : t = ⟨undP, [], [], []⟩ := by
 unfold upP at hu
 split at hu
 ·cases hu
 ·next h1 =>
  split at hu
  ·cases hu
  ·next h2 =>
   split at hu
   ·cases hu
   ·next h3 =>
    split at hu
    ·cases hu
    ·next h4 =>
     cases t
     simp only [Classical.not_not] at h1 h2 h3 h4
     simp_all
theorem rank_zero {t : TagP} : upP t = none ↔ rankP t = 0 := by
 constructor
 ·intro h
  rw [up_none h]; rfl
 ·intro h
  unfold rankP at h
  have h1 : t.vars = [] := List.eq_nil_of_length_eq_zero (by omega)
  have h2 : t.region = [] := Classical.byContradiction fun e => by rw [if_neg e] at h; omega
  have h3 : t.script = [] := Classical.byContradiction fun e => by rw [if_neg e] at h; omega
  have h4 : t.lang = undP := Classical.byContradiction fun e => by rw [if_neg e] at h; omega
  simp [upP, h1, h2, h3, h4]
def ancP : Nat → TagP → List TagP
 | 0, _ => []
 | n + 1, t => match upP t with
   | none => []
   | some u => u :: ancP n u
def ancs (t : TagP) : List TagP := ancP (rankP t) t
theorem ancs_up {t u : TagP} (h : validP t = true) (hu : upP t = some u) : ancs t = u :: ancs u := by
 unfold ancs
 rw [← (up_valid h hu).2]
 simp only [ancP, hu]
theorem ancs_none {t : TagP} (hu : upP t = none) : ancs t = [] := by
 unfold ancs
 rw [rank_zero.1 hu]
 rfl
theorem ancs_len : ∀ (n : Nat) (t : TagP), validP t = true → rankP t = n → (ancs t).length = n
 | 0, t, h, hn => by rw [ancs_none (rank_zero.2 hn)]; rfl
 | n + 1, t, h, hn => by
   cases hu : upP t with
   | none => rw [rank_zero.1 hu] at hn; omega
   | some u =>
     obtain ⟨h1, h2⟩ := up_valid h hu
     rw [ancs_up h hu, List.length_cons, ancs_len n u h1 (by omega)]
theorem ancs_chain (t : TagP) (h : validP t = true) (i : Nat) (hi : i < (ancs t).length) : ∃ a u, (t :: ancs t)[i]? = some a ∧ (ancs t)[i]? = some u ∧ upP a = some u ∧ validP u = true ∧ validP a = true ∧ rankP u + i + 1 = rankP t := by
 induction i generalizing t with
 | zero =>
   cases hu : upP t with
   | none => rw [ancs_none hu] at hi; simp at hi
   | some u =>
     rw [ancs_up h hu]
     have := up_valid h hu
     exact ⟨t, u, rfl, rfl, hu, this.1, h, by omega⟩
 | succ i ih =>
   cases hu : upP t with
   | none => rw [ancs_none hu] at hi; simp at hi
   | some u =>
     have h2 := up_valid h hu
     rw [ancs_up h hu] at hi ⊢
     obtain ⟨a, v, k1, k2, k3, k4, k5, k6⟩ := ih u h2.1 (by simpa using hi)
     exact ⟨a, v, by simpa using k1, by simpa using k2, k3, k4, k5, by omega⟩
theorem textP_len {t : TagP} (h : validP t = true) : (textP t).length ≤ 60 := by
 have e := text_eq t h
 rw [← e]
 simp only [validP, Bool.and_eq_true, decide_eq_true_eq] at h
 obtain ⟨⟨⟨⟨⟨v1, v2⟩, v3⟩, v4⟩, v5⟩, v6⟩ := h
 have l1 : t.lang.length ≤ 3 := by simp [langB] at v1; omega
 have l2 : (optP t.script).length ≤ 5 := by
  unfold optP
  split
  ·simp
  ·next hs => simp at hs; simp [hs, scriptB] at v2; simp; omega
 have l3 : (optP t.region).length ≤ 4 := by
  unfold optP
  split
  ·simp
  ·next hs => simp at hs; simp [hs, regionB] at v3; simp; omega
 have l4 : ∀ (l : List (List UInt8)), l.all variantB = true → ((l.map fun x => (45 : UInt8) :: x).flatten).length ≤ 9 * l.length := by
  intro l
  induction l with
  | nil => intro; simp
  | cons x r ih =>
    intro h
    rw [List.all_cons, Bool.and_eq_true] at h
    have := ih h.2
    have hx := h.1
    simp [variantB] at hx
    simp only [List.map_cons, List.flatten_cons, List.length_append, List.length_cons] at this ⊢
    omega
 have := l4 _ v4
 unfold textR
 simp only [List.length_append]
 omega
end Go.Proofs.YtljdlkonlnjadaaGreatDoor
namespace Go.Proofs.YtljdlkonlnjadaaGreatDoor
structure RuleP where
 f : TagP
 o : TagP
def fitsP (r : RuleP) (t : TagP) : Bool :=
 r.f.vars.all (fun v => t.vars.contains v) && (r.f.lang == undP || r.f.lang == t.lang) && (r.f.script == [] || r.f.script == t.script) && (r.f.region == [] || r.f.region == t.region)
def fieldP (f o t : List UInt8) : List UInt8 := if f != [] || t == [] then o else t
def varsP (f o t : List (List UInt8)) : List (List UInt8) := sortS ((t.filter fun v => !f.contains v && !o.contains v) ++ o)
def replP (r : RuleP) (t : TagP) : TagP :=
 ⟨if r.f.lang == undP && r.o.lang == undP then t.lang else r.o.lang, fieldP r.f.script r.o.script t.script, fieldP r.f.region r.o.region t.region, varsP r.f.vars r.o.vars t.vars⟩
def eqT (t u : TagP) : Bool := t.lang == u.lang && t.script == u.script && t.region == u.region && t.vars == u.vars
theorem eqT_iff (t u : TagP) : eqT t u = true ↔ t = u := by
 obtain ⟨a, b, c, d⟩ := t
 obtain ⟨a', b', c', d'⟩ := u
 simp [eqT, and_assoc]
def stepP : List RuleP → TagP → Option TagP
 | [], _ => none
 | r :: l, t => if fitsP r t && !eqT (replP r t) t then some (replP r t) else stepP l t
def stepsP (lim cyc : Int) (l : List RuleP) : Nat → TagP → List TagP × Int
 | k, t => match stepP l t with
   | none => ([t], 0)
   | some u => if 4 < u.vars.length then ([], lim) else match k with
     | 0 => ([], cyc)
     | k + 1 => if (stepsP lim cyc l k u).2 = 0 then (t :: (stepsP lim cyc l k u).1, 0) else ([], (stepsP lim cyc l k u).2)
def okR (r : RuleP) : Prop := validP r.f = true ∧ validP r.o = true
theorem valid_parts {t : TagP} (h : validP t = true) : langB t.lang = true ∧ (t.script = [] ∨ scriptB t.script = true) ∧ (t.region = [] ∨ regionB t.region = true) ∧ (∀ v ∈ t.vars, variantB v = true) ∧ Srt t.vars ∧ t.vars.Nodup ∧ t.vars.length ≤ 4 := by
 simp only [validP, Bool.and_eq_true, Bool.or_eq_true, decide_eq_true_eq, beq_iff_eq] at h
 obtain ⟨⟨⟨⟨⟨v1, v2⟩, v3⟩, v4⟩, v5⟩, v6⟩ := h
 obtain ⟨h1, h2⟩ := (incB_iff _).1 v5
 exact ⟨v1, v2, v3, List.all_eq_true.1 v4, h1, h2, v6⟩
theorem valid_of {t : TagP} (h1 : langB t.lang = true) (h2 : t.script = [] ∨ scriptB t.script = true) (h3 : t.region = [] ∨ regionB t.region = true) (h4 : ∀ v ∈ t.vars, variantB v = true) (h5 : Srt t.vars) (h6 : t.vars.Nodup) (h7 : t.vars.length ≤ 4) : validP t = true := by
 simp only [validP, Bool.and_eq_true, Bool.or_eq_true, decide_eq_true_eq, beq_iff_eq]
 exact ⟨⟨⟨⟨⟨h1, h2⟩, h3⟩, List.all_eq_true.2 h4⟩, (incB_iff _).2 ⟨h5, h6⟩⟩, h7⟩
theorem varsP_mem (f o t : List (List UInt8)) (v : List UInt8) : v ∈ varsP f o t ↔ (v ∈ t ∧ v ∉ f) ∨ v ∈ o := by
 unfold varsP
 rw [(sortS_perm _).mem_iff, List.mem_append, List.mem_filter]
 simp only [Bool.and_eq_true, Bool.not_eq_true', List.contains_eq_mem, decide_eq_false_iff_not]
 constructor
 ·rintro (⟨h1, h2, h3⟩ | h)
  ·exact .inl ⟨h1, h2⟩
  ·exact .inr h
 ·rintro (⟨h1, h2⟩ | h)
  ·by_cases ho : v ∈ o
   ·exact .inr ho
   ·exact .inl ⟨h1, h2, ho⟩
  ·exact .inr h
theorem varsP_nodup {f o t : List (List UInt8)} (ho : o.Nodup) (ht : t.Nodup) : (varsP f o t).Nodup := by
 unfold varsP
 rw [(sortS_perm _).nodup_iff, List.nodup_append]
 refine ⟨ht.filter _, ho, fun a ha b hb => ?_⟩
 rintro rfl
 rw [List.mem_filter] at ha
 simp only [Bool.and_eq_true, Bool.not_eq_true', List.contains_eq_mem, decide_eq_false_iff_not] at ha
 exact ha.2.2 hb
theorem varsP_of {f o t ks : List (List UInt8)} (ho : o.Nodup) (ht : t.Nodup) (hk : ks.Nodup) (h : ∀ v, v ∈ ks ↔ (v ∈ t ∧ v ∉ f) ∨ v ∈ o) : sortS ks = varsP f o t := by
 refine srt_unique (sortS_srt _) (sortS_srt _) ?_
 refine (sortS_perm _).trans (List.Perm.trans ?_ (sortS_perm _).symm)
 refine (List.perm_ext_iff_of_nodup hk ?_).2 fun v => ?_
 ·have := varsP_nodup (f := f) ho ht
  unfold varsP at this
  rwa [(sortS_perm _).nodup_iff] at this
 ·have := varsP_mem f o t v
  unfold varsP at this
  rw [(sortS_perm _).mem_iff] at this
  rw [this]
  exact h v
theorem varsP_len (f o t : List (List UInt8)) : (varsP f o t).length ≤ t.length + o.length := by
 unfold varsP
 rw [sortS_len, List.length_append]
 have := List.length_filter_le (fun v => !f.contains v && !o.contains v) t
 omega
theorem fieldP_or {P : List UInt8 → Prop} {f o t : List UInt8} (ho : P o) (ht : P t) : P (fieldP f o t) := by
 unfold fieldP
 split
 ·exact ho
 ·exact ht
theorem repl_valid {r : RuleP} {t : TagP} (hr : okR r) (ht : validP t = true) (h4 : (replP r t).vars.length ≤ 4) : validP (replP r t) = true := by
 obtain ⟨a1, a2, a3, a4, a5, a6, a7⟩ := valid_parts ht
 obtain ⟨b1, b2, b3, b4, b5, b6, b7⟩ := valid_parts hr.2
 refine valid_of ?_ (fieldP_or (P := fun x => x = [] ∨ scriptB x = true) b2 a2) (fieldP_or (P := fun x => x = [] ∨ regionB x = true) b3 a3) ?_ (sortS_srt _) (varsP_nodup b6 a6) h4
 ·unfold replP
  simp only
  split
  ·exact a1
  ·exact b1
 ·intro v hv
  rcases (varsP_mem _ _ _ v).1 hv with ⟨h, _⟩ | h
  ·exact a4 v h
  ·exact b4 v h
theorem repl_len {r : RuleP} {t : TagP} (hr : okR r) (ht : validP t = true) : (replP r t).vars.length ≤ 8 := by
 have := varsP_len r.f.vars r.o.vars t.vars
 have h1 := (valid_parts ht).2.2.2.2.2.2
 have h2 := (valid_parts hr.2).2.2.2.2.2.2
 show (varsP _ _ _).length ≤ 8
 omega
theorem stepP_some {l : List RuleP} {t u : TagP} (h : stepP l t = some u) : ∃ r ∈ l, fitsP r t = true ∧ u = replP r t ∧ u ≠ t := by
 induction l with
 | nil => cases h
 | cons r l ih =>
   unfold stepP at h
   split at h
   ·rename_i hc
    simp only [Bool.and_eq_true, Bool.not_eq_true'] at hc
    injection h with h
    refine ⟨r, by simp, hc.1, h.symm, ?_⟩
    subst h
    intro e
    rw [(eqT_iff _ _).2 e] at hc
    exact absurd hc.2 (by simp)
   ·obtain ⟨r', h1, h2⟩ := ih h
    exact ⟨r', by simp [h1], h2⟩
theorem stepP_app (l m : List RuleP) (t : TagP) : stepP (l ++ m) t = match stepP l t with
 | some u => some u
 | none => stepP m t := by
 induction l with
 | nil => rfl
 | cons r l ih =>
   rw [List.cons_append, stepP, stepP]
   split
   ·rfl
   ·exact ih
theorem stepP_valid {l : List RuleP} {t u : TagP} (hl : ∀ r ∈ l, okR r) (ht : validP t = true) (h : stepP l t = some u) (h4 : ¬ 4 < u.vars.length) : validP u = true := by
 obtain ⟨r, hr, _, rfl, _⟩ := stepP_some h
 exact repl_valid (hl r hr) ht (by omega)
end Go.Proofs.YtljdlkonlnjadaaGreatDoor
namespace Go.Proofs.YtljdlkonlnjadaaGreatDoor
section
variable {lim cyc : Int}
theorem steps_none {l : List RuleP} {k : Nat} {t : TagP} (h : stepP l t = none) : stepsP lim cyc l k t = ([t], 0) := by
 unfold stepsP
 rw [h]
theorem steps_many {l : List RuleP} {k : Nat} {t u : TagP} (h : stepP l t = some u) (h4 : 4 < u.vars.length) : stepsP lim cyc l k t = ([], lim) := by
 unfold stepsP
 rw [h]
 simp only
 rw [if_pos h4]
theorem steps_cyc {l : List RuleP} {t u : TagP} (h : stepP l t = some u) (h4 : ¬ 4 < u.vars.length) : stepsP lim cyc l 0 t = ([], cyc) := by
 unfold stepsP
 rw [h]
 simp only
 rw [if_neg h4]
theorem steps_go {l : List RuleP} {k : Nat} {t u : TagP} (h : stepP l t = some u) (h4 : ¬ 4 < u.vars.length) :
 stepsP lim cyc l (k + 1) t = if (stepsP lim cyc l k u).2 = 0 then (t :: (stepsP lim cyc l k u).1, 0) else ([], (stepsP lim cyc l k u).2) := by
 rw [stepsP, h]
 simp only
 rw [if_neg h4]
theorem steps_err (hl : lim ≠ 0) (hc : cyc ≠ 0) (l : List RuleP) : ∀ (k : Nat) (t : TagP), (stepsP lim cyc l k t).2 ≠ 0 → (stepsP lim cyc l k t).1 = [] := by
 intro k t h
 cases hs : stepP l t with
 | none => rw [steps_none hs] at h; exact absurd rfl h
 | some u =>
   by_cases h4 : 4 < u.vars.length
   ·rw [steps_many hs h4]
   ·cases k with
    | zero => rw [steps_cyc hs h4]
    | succ k =>
      rw [steps_go hs h4] at h ⊢
      split
      ·rename_i h0; rw [if_pos h0] at h; exact absurd rfl h
      ·rfl
theorem steps_end (hlim : lim ≠ 0) (hcyc : cyc ≠ 0) {l : List RuleP} (hl : ∀ r ∈ l, okR r) : ∀ (k : Nat) (t : TagP), validP t = true → (stepsP lim cyc l k t).2 = 0 →
 ∃ xs e, (stepsP lim cyc l k t).1 = xs ++ [e] ∧ xs.length ≤ k ∧ validP e = true ∧ stepP l e = none ∧ (∀ x ∈ xs, validP x = true) ∧ (xs ++ [e]).head? = some t := by
 intro k
 induction k with
 | zero =>
   intro t ht h
   cases hs : stepP l t with
   | none => exact ⟨[], t, by rw [steps_none hs]; rfl, by simp, ht, hs, by simp, rfl⟩
   | some u =>
     by_cases h4 : 4 < u.vars.length
     ·rw [steps_many hs h4] at h; exact absurd h hlim
     ·rw [steps_cyc hs h4] at h; exact absurd h hcyc
 | succ k ih =>
   intro t ht h
   cases hs : stepP l t with
   | none => exact ⟨[], t, by rw [steps_none hs]; rfl, by simp, ht, hs, by simp, rfl⟩
   | some u =>
     by_cases h4 : 4 < u.vars.length
     ·rw [steps_many hs h4] at h; exact absurd h hlim
     ·rw [steps_go hs h4] at h ⊢
      by_cases h0 : (stepsP lim cyc l k u).2 = 0
      ·rw [if_pos h0]
       obtain ⟨xs, e, h1, h2, h3, h5, h6, _⟩ := ih u (stepP_valid hl ht hs h4) h0
       refine ⟨t :: xs, e, by simp [h1], by simp; omega, h3, h5, ?_, rfl⟩
       intro x hx
       rcases List.mem_cons.1 hx with rfl | hx
       ·exact ht
       ·exact h6 x hx
      ·rw [if_neg h0] at h; exact absurd h h0
end
end Go.Proofs.YtljdlkonlnjadaaGreatDoor
