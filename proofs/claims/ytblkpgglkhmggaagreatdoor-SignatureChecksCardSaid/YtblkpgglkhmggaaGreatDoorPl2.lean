import Derived.Test.YtblkpgglkhmggaaGreatDoorPl
namespace Go.Proofs.YtblkpgglkhmggaaGreatDoor
set_option linter.unusedSimpArgs false
set_option linter.unusedVariables false

/-! The order of strings. -/
abbrev Srt (l : List (List UInt8)) : Prop := l.Pairwise fun x y => x ≤ y
theorem le_tot (a b : List UInt8) : a ≤ b ∨ b ≤ a := List.le_total a b
theorem le_tr (a b c : List UInt8) (h : a ≤ b) (k : b ≤ c) : a ≤ c := List.le_trans h k
theorem le_as (a b : List UInt8) (h : a ≤ b) (k : b ≤ a) : a = b := List.le_antisymm h k
theorem lt_le {a b : List UInt8} (h : a < b) : a ≤ b := fun h2 => List.lt_irrefl a (List.lt_trans h h2)
theorem nlt_le {a b : List UInt8} (h : ¬ a < b) : b ≤ a := h
theorem le_ne_lt {a b : List UInt8} (h : a ≤ b) (hn : a ≠ b) : a < b := Classical.byContradiction fun h2 => hn (le_as a b h (nlt_le h2))

theorem sortS_perm (l : List (List UInt8)) : (sortS l).Perm l := List.mergeSort_perm _ _
theorem sortS_srt (l : List (List UInt8)) : Srt (sortS l) := by
  have h := List.pairwise_mergeSort (le := fun x y : List UInt8 => decide (x ≤ y)) (fun a b c h1 h2 => by simp only [decide_eq_true_eq] at *; exact le_tr a b c h1 h2) (fun a b => by
    rcases le_tot a b with h | h <;> simp [h]) l
  exact h.imp (fun h => by simpa using h)
theorem srt_unique {a b : List (List UInt8)} (ha : Srt a) (hb : Srt b) (hp : a.Perm b) : a = b :=
  List.Perm.eq_of_pairwise (fun x y _ _ h1 h2 => le_as x y h1 h2) ha hb hp
theorem sortS_of {l a : List (List UInt8)} (ha : Srt a) (hp : a.Perm l) : sortS l = a :=
  srt_unique (sortS_srt l) ha ((sortS_perm l).trans hp.symm)
theorem sortS_len (l : List (List UInt8)) : (sortS l).length = l.length := (sortS_perm l).length_eq

/-- Where x goes in a sorted list. -/
def insK (l : List (List UInt8)) (x : List UInt8) : Nat := (l.takeWhile fun y => decide (y < x)).length
def insS (l : List (List UInt8)) (x : List UInt8) : List (List UInt8) := l.take (insK l x) ++ x :: l.drop (insK l x)
def insF (l : List (List UInt8)) (x : List UInt8) : Bool := match l.drop (insK l x) with
  | [] => false
  | y :: _ => y == x

theorem insK_le (l : List (List UInt8)) (x : List UInt8) : insK l x ≤ l.length := (List.takeWhile_sublist _).length_le
theorem insK_cons (y : List UInt8) (r : List (List UInt8)) (x : List UInt8) : insK (y :: r) x = if y < x then insK r x + 1 else 0 := by
  unfold insK
  by_cases h : y < x <;> simp [List.takeWhile_cons, h]
theorem insK_at {l : List (List UInt8)} {x : List UInt8} {k : Nat} (h1 : ∀ j y, j < k → l[j]? = some y → y < x) (h2 : ∀ y, l[k]? = some y → ¬ y < x) (hk : k ≤ l.length) : insK l x = k := by
  induction l generalizing k with
  | nil => simp at hk; subst hk; rfl
  | cons y r ih =>
    rw [insK_cons]
    cases k with
    | zero => rw [if_neg (h2 y rfl)]
    | succ k =>
      rw [if_pos (h1 0 y (by omega) rfl), ih (k := k) (fun j z hj hz => h1 (j + 1) z (Nat.succ_lt_succ hj) (by simpa using hz)) (fun z hz => h2 z (by simpa using hz)) (by simpa using hk)]

theorem insS_perm (l : List (List UInt8)) (x : List UInt8) : (insS l x).Perm (x :: l) := by
  unfold insS
  refine List.perm_middle.trans ?_
  rw [List.take_append_drop]
theorem insS_srt {l : List (List UInt8)} (h : Srt l) (x : List UInt8) : Srt (insS l x) := by
  induction l with
  | nil => simp [insS, Srt]
  | cons y r ih =>
    unfold Srt at *
    rw [List.pairwise_cons] at h
    unfold insS
    rw [insK_cons]
    by_cases hy : y < x
    · rw [if_pos hy]
      have h2 := ih h.2
      unfold insS at h2
      simp only [List.take_succ_cons, List.drop_succ_cons, List.cons_append, List.pairwise_cons]
      refine ⟨fun z hz => ?_, h2⟩
      rcases List.mem_append.1 hz with hz | hz
      · exact h.1 z (List.mem_of_mem_take hz)
      · rcases List.mem_cons.1 hz with rfl | hz
        · exact lt_le hy
        · exact h.1 z (List.mem_of_mem_drop hz)
    · rw [if_neg hy]
      simp only [List.take_zero, List.drop_zero, List.nil_append, List.pairwise_cons]
      refine ⟨fun z hz => ?_, h.1, h.2⟩
      rcases List.mem_cons.1 hz with rfl | hz
      · exact nlt_le hy
      · exact le_tr _ _ _ (nlt_le hy) (h.1 z hz)
theorem insF_iff {l : List (List UInt8)} (h : Srt l) (x : List UInt8) : insF l x = true ↔ x ∈ l := by
  induction l with
  | nil => simp [insF]
  | cons y r ih =>
    unfold Srt at *
    rw [List.pairwise_cons] at h
    unfold insF
    rw [insK_cons]
    by_cases hy : y < x
    · rw [if_pos hy]
      have h2 := ih h.2
      unfold insF at h2
      simp only [List.drop_succ_cons]
      rw [h2]
      have : x ≠ y := fun e => by subst e; exact List.lt_irrefl x hy
      simp [this]
    · rw [if_neg hy]
      simp only [List.drop_zero, List.mem_cons, beq_iff_eq]
      constructor
      · exact fun e => .inl e.symm
      · rintro (e | hm)
        · exact e.symm
        · exact (le_as x y (nlt_le hy) (h.1 x hm)).symm
theorem insF_false {l : List (List UInt8)} (h : Srt l) (x : List UInt8) : insF l x = decide (x ∈ l) := by
  rw [Bool.eq_iff_iff, insF_iff h]; simp

/-- Inserted one by one. -/
theorem insS_sort (l : List (List UInt8)) (x : List UInt8) : insS (sortS l) x = sortS (l ++ [x]) := by
  refine (sortS_of (insS_srt (sortS_srt l) x) ?_).symm
  exact ((insS_perm _ _).trans ((sortS_perm l).cons x)).trans (List.perm_append_singleton x l).symm
theorem nodup_snoc (l : List (List UInt8)) (x : List UInt8) : isNodup (l ++ [x]) = (isNodup l && !insF (sortS l) x) := by
  rw [insF_false (sortS_srt l)]
  unfold isNodup
  rw [Bool.eq_iff_iff]
  have h1 : x ∈ sortS l ↔ x ∈ l := (sortS_perm l).mem_iff
  simp [List.nodup_append, h1]
  intro _
  exact ⟨fun h e => h x e rfl, fun h a ha e => h (e ▸ ha)⟩

/-! What the program does instead: it sorts, and strikes neighbours that are equal. -/
theorem adj_srt {l : List (List UInt8)} (hs : Srt l) (ha : ∀ j, j + 1 < l.length → l[j]? ≠ l[j + 1]?) : l.Nodup := by
  induction l with
  | nil => simp
  | cons y r ih =>
    unfold Srt at hs
    rw [List.pairwise_cons] at hs
    rw [List.nodup_cons]
    refine ⟨fun hm => ?_, ih hs.2 (fun j hj => by have := ha (j + 1) (by simpa using hj); simpa using this)⟩
    cases r with
    | nil => simp at hm
    | cons z r =>
      have h0 := ha 0 (by simp)
      simp at h0
      have h1 : y ≤ z := hs.1 z (by simp)
      have h2 : z ≤ y := by
        rcases List.mem_cons.1 hm with rfl | hm
        · exact absurd rfl h0
        · have := hs.2
          rw [List.pairwise_cons] at this
          exact this.1 y hm
      exact h0 (le_as _ _ h1 h2)
theorem nodup_adj {l : List (List UInt8)} (h : l.Nodup) (j : Nat) (hj : j + 1 < l.length) : l[j]? ≠ l[j + 1]? := by
  intro e
  have := (List.getElem?_inj (by omega) h).1 e
  omega
theorem keeps_adj (l : List (List UInt8)) (j : Nat) (hj : j < l.length) : Lib.keeps l.toArray j = true ↔ (j = 0 ∨ l[j - 1]? ≠ l[j]?) := by
  unfold Lib.keeps
  rw [decide_eq_true_eq]
  have e1 : l.toArray[j]! = l[j] := by rw [getElem!_pos l.toArray j (by simpa using hj)]; simp
  have e2 : l.toArray[j - 1]! = l[j - 1] := by rw [getElem!_pos l.toArray (j - 1) (by simp; omega)]; simp
  rw [e1, e2, List.getElem?_eq_getElem hj, List.getElem?_eq_getElem (by omega : j - 1 < l.length)]
  simp only [ne_eq, Option.some.injEq]
  constructor
  · rintro (h | h)
    · exact .inl h
    · exact .inr fun e => h e.symm
  · rintro (h | h)
    · exact .inl h
    · exact .inr fun e => h e.symm
theorem compact_nodup {l : List (List UInt8)} (h : l.Nodup) : Lib.compact l = l := by
  refine Lib.compact_all l fun j hj => (keeps_adj l j hj).2 ?_
  cases j with
  | zero => exact .inl rfl
  | succ j => exact .inr (nodup_adj h j hj)
theorem compact_le (l : List (List UInt8)) : (Lib.compact l).length ≤ l.length := by
  unfold Lib.compact Lib.compactUpTo
  rw [List.length_map]
  refine Nat.le_trans (List.length_filter_le _ _) ?_
  simp
theorem compact_lt {l : List (List UInt8)} (hs : Srt l) (h : ¬ l.Nodup) : (Lib.compact l).length < l.length := by
  refine Nat.lt_of_le_of_ne (compact_le l) fun e => h (adj_srt hs fun j hj he => ?_)
  unfold Lib.compact Lib.compactUpTo at e
  rw [List.length_map] at e
  have h1 : ((List.range l.length).filter (Lib.keeps l.toArray)).length = (List.range l.length).length := by rw [e]; simp
  rw [List.length_filter_eq_length_iff] at h1
  have h2 := h1 (j + 1) (by simpa using hj)
  rw [keeps_adj l (j + 1) hj] at h2
  rcases h2 with h2 | h2
  · omega
  · exact h2 (by simpa using he)
theorem compact_sort (l : List (List UInt8)) : isNodup l = decide ((Lib.compact (sortS l)).length = l.length) := by
  have hn : (sortS l).Nodup ↔ l.Nodup := (sortS_perm l).nodup_iff
  unfold isNodup
  rw [Bool.eq_iff_iff]
  simp only [decide_eq_true_eq]
  constructor
  · intro h; rw [compact_nodup (hn.2 h), sortS_len]
  · intro h
    apply Classical.byContradiction
    intro h2
    have := compact_lt (sortS_srt l) (fun h3 => h2 (hn.1 h3))
    rw [sortS_len] at this
    omega

/-! Valid tags, and their texts. -/
def incB : List (List UInt8) → Bool
  | [] => true
  | x :: r => (match r with | [] => true | y :: _ => decide (x < y)) && incB r
def validP (t : TagP) : Bool :=
  langB t.lang && (t.script == [] || scriptB t.script) && (t.region == [] || regionB t.region) && t.vars.all variantB && incB t.vars && decide (t.vars.length ≤ 4)
def partsP (t : TagP) : List (List UInt8) := (t.lang :: t.script :: t.region :: t.vars).filter fun x => !(x == [])
def textP (t : TagP) : List UInt8 := Lib.join (partsP t) [45]
/-- As the document writes it. -/
def optP (x : List UInt8) : List UInt8 := if x == [] then [] else 45 :: x
def textR (t : TagP) : List UInt8 := t.lang ++ optP t.script ++ optP t.region ++ (t.vars.map fun x => 45 :: x).flatten

theorem incB_adj (l : List (List UInt8)) : incB l = true ↔ ∀ j x y, l[j]? = some x → l[j + 1]? = some y → x < y := by
  induction l with
  | nil => simp [incB]
  | cons a r ih =>
    unfold incB
    rw [Bool.and_eq_true, ih]
    constructor
    · rintro ⟨h1, h2⟩ j x y hx hy
      cases j with
      | zero =>
        cases r with
        | nil => simp at hy
        | cons b r => simp at hx hy; subst hx; subst hy; simpa using h1
      | succ j => exact h2 j x y (by simpa using hx) (by simpa using hy)
    · intro h
      refine ⟨?_, fun j x y hx hy => h (j + 1) x y (by simpa using hx) (by simpa using hy)⟩
      cases r with
      | nil => rfl
      | cons b r => simpa using h 0 a b (by simp) (by simp)
theorem incB_pw (l : List (List UInt8)) (h : incB l = true) : l.Pairwise fun x y => x < y := by
  induction l with
  | nil => exact List.Pairwise.nil
  | cons a r ih =>
    unfold incB at h
    rw [Bool.and_eq_true] at h
    have h2 := ih h.2
    refine List.pairwise_cons.2 ⟨fun z hz => ?_, h2⟩
    cases r with
    | nil => simp at hz
    | cons b r =>
      have h3 : a < b := by simpa using h.1
      rcases List.mem_cons.1 hz with rfl | hz
      · exact h3
      · exact List.lt_trans h3 ((List.pairwise_cons.1 h2).1 z hz)
theorem pw_incB (l : List (List UInt8)) (h : l.Pairwise fun x y => x < y) : incB l = true := by
  induction l with
  | nil => rfl
  | cons a r ih =>
    rw [List.pairwise_cons] at h
    unfold incB
    rw [ih h.2]
    cases r with
    | nil => rfl
    | cons b r => simpa using h.1 b (by simp)
theorem incB_iff (l : List (List UInt8)) : incB l = true ↔ Srt l ∧ l.Nodup := by
  constructor
  · intro h
    have h2 := incB_pw l h
    exact ⟨h2.imp lt_le, h2.imp fun {a b} hab e => by subst e; exact List.lt_irrefl a hab⟩
  · rintro ⟨h1, h2⟩
    exact pw_incB l ((h1.and h2).imp fun {a b} h => le_ne_lt h.1 h.2)

theorem lang_ne {x : List UInt8} (h : langB x = true) : x ≠ [] := by rintro rfl; simp [langB] at h
theorem script_ne {x : List UInt8} (h : scriptB x = true) : x ≠ [] := by rintro rfl; simp [scriptB] at h
theorem region_ne {x : List UInt8} (h : regionB x = true) : x ≠ [] := by rintro rfl; simp [regionB] at h
theorem variant_ne {x : List UInt8} (h : variantB x = true) : x ≠ [] := by rintro rfl; simp [variantB] at h

theorem join_tail (x : List UInt8) (r : List (List UInt8)) : Lib.join (x :: r) [45] = x ++ (r.map fun y => 45 :: y).flatten := by
  rw [Lib.join_cons]; rfl
/-- The two texts are one. -/
theorem text_eq (t : TagP) (h : validP t = true) : textR t = textP t := by
  simp only [validP, Bool.and_eq_true] at h
  obtain ⟨⟨⟨⟨⟨h1, h2⟩, h3⟩, h4⟩, h5⟩, h6⟩ := h
  have hv : t.vars.filter (fun x => !(x == [])) = t.vars := by
    rw [List.filter_eq_self]
    intro x hx
    have := variant_ne (List.all_eq_true.1 h4 x hx)
    simpa using this
  unfold textR textP partsP
  have hl : (!(t.lang == [])) = true := by simpa using lang_ne h1
  rw [List.filter_cons, if_pos hl, join_tail, List.filter_cons, List.filter_cons, hv]
  unfold optP
  by_cases hs : t.script = [] <;> by_cases hr : t.region = [] <;> simp [hs, hr]

/-! What is read is valid. -/
theorem scriptL_title {x : List UInt8} (h : scriptL x = true) : scriptB (titleOf x) = true := by
  cases x with
  | nil => simp [scriptL] at h
  | cons c r =>
    simp [scriptL] at h
    simp [scriptB, titleOf, up_cap, h]
    exact h.2.2
theorem regionL_up {x : List UInt8} (h : regionL x = true) : regionB (upOf x) = true := by
  have h2 := region_eq x
  rw [h2]
  unfold regionL at *
  have e1 : (low x).length = x.length := by simp [low]
  rw [e1]
  rcases Bool.or_eq_true_iff.1 h with h | h
  · rw [Bool.and_eq_true] at h
    rw [h.1]
    have : (low x).all isSmall = true := by
      unfold low
      rw [List.all_map, List.all_eq_true]
      intro c hc
      have := List.all_eq_true.1 h.2 c hc
      simp [low_small, this]
    simp [this]
  · rw [Bool.and_eq_true] at h
    rw [h.1]
    have : (low x).all isDig = true := by
      unfold low
      rw [List.all_map, List.all_eq_true]
      intro c hc
      have := List.all_eq_true.1 h.2 c hc
      simp [low_dig, this]
    simp [this]

/-- All of a tag but the order of its variants. -/
def preP (t : TagP) : Bool := langB t.lang && (t.script == [] || scriptB t.script) && (t.region == [] || regionB t.region) && t.vars.all variantB
theorem finT_valid (E : Codes) (hE : E.dup ≠ 0 ∧ E.lim ≠ 0) (t u : TagP) (hp : preP t = true) (h : finT E t = (u, 0)) : validP u = true := by
  unfold finT at h
  split at h
  · next hn =>
    split at h
    · next h4 =>
      injection h with h1 h2
      subst h1
      simp only [preP, Bool.and_eq_true] at hp
      obtain ⟨⟨⟨h1, h2⟩, h3⟩, h5⟩ := hp
      have hi : incB (sortS t.vars) = true := (incB_iff _).2 ⟨sortS_srt _, (sortS_perm _).nodup_iff.2 (by simpa [isNodup] using hn)⟩
      have ha : (sortS t.vars).all variantB = true := by
        rw [List.all_eq_true] at h5 ⊢
        exact fun x hx => h5 x ((sortS_perm _).mem_iff.1 hx)
      simp [validP, h1, h2, h3, hi, ha, sortS_len, h4]
      simp at h2 h3
      exact ⟨h2, h3⟩
    · injection h with h1 h2; exact absurd h2 hE.2
  · injection h with h1 h2; exact absurd h2 hE.1
theorem c2_cons (E : Codes) (t : TagP) (x r) : c2 E t (x :: r) = if regionL x then c3 E { t with region := upOf x } r else c3 E t (x :: r) := rfl
theorem c1_cons (E : Codes) (t : TagP) (x r) : c1 E t (x :: r) = if scriptL x then c2 E { t with script := titleOf x } r else c2 E t (x :: r) := rfl
theorem c3_valid (E : Codes) (hE : E.dup ≠ 0 ∧ E.lim ≠ 0 ∧ E.syn ≠ 0) (t u : TagP) (r : List (List UInt8)) (hp : preP t = true) (h : c3 E t r = (u, 0)) : validP u = true := by
  unfold c3 at h
  split at h
  · next ha =>
    refine finT_valid E ⟨hE.1, hE.2.1⟩ _ u ?_ h
    simp only [preP, Bool.and_eq_true] at hp ⊢
    exact ⟨hp.1, by rw [List.all_append, hp.2, ha]; rfl⟩
  · injection h with h1 h2; exact absurd h2 hE.2.2
theorem c2_valid (E : Codes) (hE : E.dup ≠ 0 ∧ E.lim ≠ 0 ∧ E.syn ≠ 0) (t u : TagP) (r : List (List UInt8)) (hp : preP t = true) (h : c2 E t r = (u, 0)) : validP u = true := by
  cases r with
  | nil => exact c3_valid E hE t u [] hp h
  | cons x r =>
    rw [c2_cons] at h
    split at h
    · next hx =>
      refine c3_valid E hE _ u r ?_ h
      simp only [preP, Bool.and_eq_true] at hp ⊢
      exact ⟨⟨hp.1.1, by simp [regionL_up hx]⟩, hp.2⟩
    · exact c3_valid E hE t u _ hp h
theorem c1_valid (E : Codes) (hE : E.dup ≠ 0 ∧ E.lim ≠ 0 ∧ E.syn ≠ 0) (t u : TagP) (r : List (List UInt8)) (hp : preP t = true) (h : c1 E t r = (u, 0)) : validP u = true := by
  cases r with
  | nil => exact c2_valid E hE t u [] hp h
  | cons x r =>
    rw [c1_cons] at h
    split at h
    · next hx =>
      refine c2_valid E hE _ u r ?_ h
      simp only [preP, Bool.and_eq_true] at hp ⊢
      exact ⟨⟨⟨hp.1.1.1, by simp [scriptL_title hx]⟩, hp.1.2⟩, hp.2⟩
    · exact c2_valid E hE t u _ hp h
theorem parse_valid (E : Codes) (hE : E.dup ≠ 0 ∧ E.lim ≠ 0 ∧ E.syn ≠ 0) (s : List UInt8) (u : TagP) (h : parseP E s = (u, 0)) : validP u = true := by
  unfold parseP c0 at h
  split at h
  · injection h with h1 h2; exact absurd h2 hE.2.2
  · split at h
    · next hl => exact c1_valid E hE _ u _ (by simp [preP, hl]) h
    · injection h with h1 h2; exact absurd h2 hE.2.2
/-- An error comes with the empty tag. -/
theorem finT_zero (E : Codes) (t : TagP) (h : (finT E t).2 ≠ 0) : (finT E t).1 = TagP.zero := by
  unfold finT at *
  split
  · split
    · next h1 h2 => rw [if_pos h1, if_pos h2] at h; exact absurd rfl h
    · rfl
  · rfl
theorem c3_zero (E : Codes) (t : TagP) (r) (h : (c3 E t r).2 ≠ 0) : (c3 E t r).1 = TagP.zero := by
  unfold c3 at *
  split
  · next h1 => rw [if_pos h1] at h; exact finT_zero E _ h
  · rfl
theorem c2_zero (E : Codes) (t : TagP) (r) (h : (c2 E t r).2 ≠ 0) : (c2 E t r).1 = TagP.zero := by
  cases r with
  | nil => exact c3_zero E t [] h
  | cons x r =>
    rw [c2_cons] at *
    split
    · next h1 => rw [if_pos h1] at h; exact c3_zero E _ _ h
    · next h1 => rw [if_neg h1] at h; exact c3_zero E _ _ h
theorem c1_zero (E : Codes) (t : TagP) (r) (h : (c1 E t r).2 ≠ 0) : (c1 E t r).1 = TagP.zero := by
  cases r with
  | nil => exact c2_zero E t [] h
  | cons x r =>
    rw [c1_cons] at *
    split
    · next h1 => rw [if_pos h1] at h; exact c2_zero E _ _ h
    · next h1 => rw [if_neg h1] at h; exact c2_zero E _ _ h
theorem parse_zero (E : Codes) (s : List UInt8) (h : (parseP E s).2 ≠ 0) : (parseP E s).1 = TagP.zero := by
  unfold parseP c0 at *
  split
  · rfl
  · next x r hx =>
    rw [hx] at h
    split
    · next h1 => simp only [h1, if_true] at h; exact c1_zero E _ _ h
    · rfl
end Go.Proofs.YtblkpgglkhmggaaGreatDoor
