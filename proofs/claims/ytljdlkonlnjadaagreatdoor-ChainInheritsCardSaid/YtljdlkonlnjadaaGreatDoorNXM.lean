import Derived.Test.YtljdlkonlnjadaaGreatDoorNX1
import Derived.Test.YtljdlkonlnjadaaGreatDoorNX2
set_option maxRecDepth 100000
set_option linter.unusedSimpArgs false
set_option linter.unusedVariables false
namespace Go.Proofs.YtljdlkonlnjadaaGreatDoor
structure NearP where
 f : List UInt8
 o : List UInt8
 c : Int
def kindP (s : List UInt8) : Int :=
 if validP ⟨s, [], [], []⟩ = true then 1 else if (!(s == []) && validP ⟨undP, s, [], []⟩) = true then 2 else if (!(s == []) && validP ⟨undP, [], s, []⟩) = true then 3 else 0
def pairB (x : NearP) (a b : List UInt8) : Bool := (x.f == a && x.o == b) || (x.f == b && x.o == a)
def properN (x : NearP) : Bool := !(kindP x.f == 0) && (kindP x.f == kindP x.o) && !(x.f == x.o) && decide (1 ≤ x.c) && decide (x.c ≤ 99)
def newN (l : List NearP) (x : NearP) : Bool := l.all fun y => !pairB y x.f x.o
def nearsB : List NearP → List NearP → Bool
 | _, [] => true
 | pre, x :: r => properN x && newN pre x && nearsB (pre ++ [x]) r
def validN (l : List NearP) : Bool := nearsB [] l && decide (l.length ≤ 200)
def subtagP (l : List NearP) (a b : List UInt8) (most : Int) : Int :=
 if a = b then 0 else match l.find? (fun x => pairB x a b) with
  | some x => x.c
  | none => most
def distP (l : List NearP) (a b : TagP) : Int :=
 subtagP l a.lang b.lang 100 + subtagP l a.script b.script 50 + subtagP l a.region b.region 5 + (if a.vars = b.vars then 0 else 1)
theorem pair_comm (x : NearP) (a b : List UInt8) : pairB x a b = pairB x b a := by unfold pairB; rw [Bool.or_comm]
theorem subtag_comm (l : List NearP) (a b : List UInt8) (m : Int) : subtagP l a b m = subtagP l b a m := by
 unfold subtagP
 by_cases h : a = b
 ·rw [if_pos h, if_pos h.symm]
 ·rw [if_neg h, if_neg (fun e => h e.symm)]
  have : (fun x => pairB x a b) = fun x => pairB x b a := by funext x; exact pair_comm x a b
  rw [this]
theorem dist_comm (l : List NearP) (a b : TagP) : distP l a b = distP l b a := by
 unfold distP
 rw [subtag_comm l a.lang, subtag_comm l a.script, subtag_comm l a.region]
 by_cases h : a.vars = b.vars
 ·rw [if_pos h, if_pos h.symm]
 ·rw [if_neg h, if_neg (fun e => h e.symm)]
theorem nears_proper : ∀ (r pre : List NearP), nearsB pre r = true → ∀ x ∈ r, properN x = true
 | [], _, _, x, hx => by cases hx
 | y :: r, pre, h, x, hx => by
   unfold nearsB at h
   simp only [Bool.and_eq_true] at h
   rcases List.mem_cons.1 hx with rfl | hx
   ·exact h.1.1
   ·exact nears_proper r _ h.2 x hx
theorem valid_costs {l : List NearP} (h : validN l = true) : ∀ x ∈ l, 1 ≤ x.c ∧ x.c ≤ 99 := by
 intro x hx
 unfold validN at h
 simp only [Bool.and_eq_true] at h
 have := nears_proper l [] h.1 x hx
 unfold properN at this
 simp only [Bool.and_eq_true, decide_eq_true_eq] at this
 exact ⟨this.1.2, this.2⟩
theorem subtag_bd {l : List NearP} (hl : ∀ x ∈ l, 1 ≤ x.c ∧ x.c ≤ 99) (a b : List UInt8) (m : Int) (hm : 1 ≤ m) : 0 ≤ subtagP l a b m ∧ subtagP l a b m ≤ max 99 m ∧ (subtagP l a b m = 0 ↔ a = b) := by
 unfold subtagP
 by_cases h : a = b
 ·rw [if_pos h]
  exact ⟨Int.le_refl _, by omega, by simp [h]⟩
 ·rw [if_neg h]
  cases hf : l.find? (fun x => pairB x a b) with
  | none => exact ⟨by simp only; omega, by simp only; omega, by simp only; constructor <;> intro h2 <;> first | exact absurd h2 h | omega⟩
  | some x =>
    obtain ⟨h1, h2⟩ := hl x (List.mem_of_find?_eq_some hf)
    exact ⟨by simp only; omega, by simp only; omega, by simp only; constructor <;> intro h3 <;> first | exact absurd h3 h | omega⟩
theorem dist_bd {l : List NearP} (hl : ∀ x ∈ l, 1 ≤ x.c ∧ x.c ≤ 99) (a b : TagP) : 0 ≤ distP l a b ∧ distP l a b ≤ 300 ∧ (distP l a b = 0 ↔ a = b) := by
 obtain ⟨h1, h2, h3⟩ := subtag_bd hl a.lang b.lang 100 (by decide)
 obtain ⟨g1, g2, g3⟩ := subtag_bd hl a.script b.script 50 (by decide)
 obtain ⟨k1, k2, k3⟩ := subtag_bd hl a.region b.region 5 (by decide)
 unfold distP
 by_cases hv : a.vars = b.vars
 ·rw [if_pos hv]
  refine ⟨by omega, by omega, ?_⟩
  constructor
  ·intro h
   have e1 := h3.1 (by omega)
   have e2 := g3.1 (by omega)
   have e3 := k3.1 (by omega)
   cases a; cases b
   simp only at e1 e2 e3 hv
   subst e1; subst e2; subst e3; subst hv
   rfl
  ·rintro rfl
   have := h3.2 rfl
   have := g3.2 rfl
   have := k3.2 rfl
   omega
 ·rw [if_neg hv]
  refine ⟨by omega, by omega, ?_⟩
  constructor
  ·intro h; omega
  ·rintro rfl; exact absurd rfl hv
def readP (E : Codes) : List (List UInt8) → List TagP × Int
 | [] => ([], 0)
 | s :: r => if (parseP E s).2 = 0 then (if (readP E r).2 = 0 then ((parseP E s).1 :: (readP E r).1, 0) else ([], (readP E r).2)) else ([], (parseP E s).2)
def ltB (l : List NearP) (t a b : TagP) : Bool := decide (distP l t a < distP l t b) || (distP l t a == distP l t b && decide (textP a < textP b))
theorem lt_irr (l : List NearP) (t a : TagP) : ltB l t a a = false := by
 unfold ltB
 simp [List.lt_irrefl]
theorem lt_tr {l : List NearP} {t a b c : TagP} (h : ltB l t a b = true) (k : ltB l t b c = true) : ltB l t a c = true := by
 unfold ltB at *
 simp only [Bool.or_eq_true, Bool.and_eq_true, decide_eq_true_eq, beq_iff_eq] at *
 rcases h with h | ⟨h1, h2⟩ <;> rcases k with k | ⟨k1, k2⟩
 ·left; omega
 ·left; omega
 ·left; omega
 ·right; exact ⟨by omega, List.lt_trans h2 k2⟩
theorem lt_as {l : List NearP} {t a b : TagP} (h : ltB l t a b = true) : ltB l t b a = false := by
 cases k : ltB l t b a with
 | false => rfl
 | true => have := lt_tr h k; rw [lt_irr] at this; cases this
theorem nlt_tr {l : List NearP} {t a b c : TagP} (h : ltB l t b a = false) (k : ltB l t c b = false) : ltB l t c a = false := by
 rw [← Bool.not_eq_true] at *
 unfold ltB at *
 simp only [Bool.or_eq_true, Bool.and_eq_true, decide_eq_true_eq, beq_iff_eq, not_or, not_and] at *
 obtain ⟨h1, h2⟩ := h
 obtain ⟨k1, k2⟩ := k
 refine ⟨by omega, fun e => ?_⟩
 have e1 : distP l t b = distP l t a := by omega
 have e2 : distP l t c = distP l t b := by omega
 intro hlt
 have g1 : textP a ≤ textP b := nlt_le (h2 e1)
 have g2 : textP b ≤ textP c := nlt_le (k2 e2)
 exact (le_tr _ _ _ g1 g2) hlt
theorem nlt_tot (l : List NearP) (t a b : TagP) : ltB l t b a = false ∨ ltB l t a b = false := by
 cases h : ltB l t b a with
 | false => exact .inl rfl
 | true => exact .inr (lt_as h)
theorem lt_of_ne {l : List NearP} {t a b : TagP} (h : ltB l t b a = false) (hn : textP a ≠ textP b) : ltB l t a b = true := by
 rw [← Bool.not_eq_true] at h
 unfold ltB at *
 simp only [Bool.or_eq_true, Bool.and_eq_true, decide_eq_true_eq, beq_iff_eq, not_or, not_and] at *
 obtain ⟨h1, h2⟩ := h
 by_cases hd : distP l t a < distP l t b
 ·exact .inl hd
 ·exact .inr ⟨by omega, le_ne_lt (nlt_le (h2 (by omega))) hn⟩
def atP (S : List TagP) (i : Nat) : TagP := S.getD i TagP.zero
def leI (l : List NearP) (t : TagP) (S : List TagP) (i j : Nat) : Bool := !ltB l t (atP S j) (atP S i)
def orderP (l : List NearP) (t : TagP) (S : List TagP) : List Nat := (List.range S.length).mergeSort (leI l t S)
theorem order_perm (l : List NearP) (t : TagP) (S : List TagP) : (orderP l t S).Perm (List.range S.length) := List.mergeSort_perm _ _
theorem order_srt (l : List NearP) (t : TagP) (S : List TagP) : (orderP l t S).Pairwise fun i j => ltB l t (atP S j) (atP S i) = false := by
 have h := List.pairwise_mergeSort (le := leI l t S) (fun a b c h k => by
  unfold leI at *
  simp only [Bool.not_eq_true'] at *
  exact nlt_tr h k) (fun a b => by
  unfold leI
  rcases nlt_tot l t (atP S a) (atP S b) with h | h
  ·rw [h]; rfl
  ·rw [h]; simp) (List.range S.length)
 refine h.imp fun {a b} h => ?_
 unfold leI at h
 simpa using h
theorem order_len (l : List NearP) (t : TagP) (S : List TagP) : (orderP l t S).length = S.length := by rw [(order_perm l t S).length_eq, List.length_range]
theorem order_unique {l : List NearP} {t : TagP} {S : List TagP} (hS : ∀ i j, i < S.length → j < S.length → textP (atP S i) = textP (atP S j) → i = j) {a b : List Nat} (ha : a.Pairwise fun i j => ltB l t (atP S j) (atP S i) = false) (hb : b.Pairwise fun i j => ltB l t (atP S j) (atP S i) = false)
 (hp : a.Perm b) (hr : ∀ i ∈ a, i < S.length) : a = b := by
 refine List.Perm.eq_of_pairwise (le := fun i j => ltB l t (atP S j) (atP S i) = false) (fun i j hi hj h1 h2 => ?_) ha hb hp
 have hi' := hr i hi
 have hj' := hr j (hp.mem_iff.2 hj)
 by_cases he : textP (atP S i) = textP (atP S j)
 ·exact hS i j hi' hj' he
 ·have := lt_of_ne h1 he
  rw [h2] at this
  cases this
def nearB (l : List NearP) (t : TagP) (S : List TagP) (k : Nat) : Bool :=
 decide (distP l t (atP S k) ≤ 60) && (List.range S.length).all fun j => j == k || ltB l t (atP S k) (atP S j)
def bestT (l : List NearP) (t : TagP) (S : List TagP) : Option Nat := (List.range S.length).find? (nearB l t S)
def bestL (l : List NearP) (T S : List TagP) : Option Nat := T.findSome? fun t => bestT l t S
theorem near_iff {l : List NearP} {t : TagP} {S : List TagP} {k : Nat} : nearB l t S k = true ↔ distP l t (atP S k) ≤ 60 ∧ ∀ j, j < S.length → j ≠ k → ltB l t (atP S k) (atP S j) = true := by
 unfold nearB
 simp only [Bool.and_eq_true, decide_eq_true_eq, List.all_eq_true, List.mem_range, Bool.or_eq_true, beq_iff_eq]
 constructor
 ·rintro ⟨h1, h2⟩
  exact ⟨h1, fun j hj hn => (h2 j hj).resolve_left hn⟩
 ·rintro ⟨h1, h2⟩
  exact ⟨h1, fun j hj => Classical.or_iff_not_imp_left.2 (h2 j hj)⟩
theorem near_one {l : List NearP} {t : TagP} {S : List TagP} {i k : Nat} (hi : i < S.length) (hk : k < S.length) (h : nearB l t S i = true) (g : nearB l t S k = true) : i = k := by
 refine Classical.byContradiction fun hn => ?_
 have h1 := (near_iff.1 h).2 k hk (fun e => hn e.symm)
 have h2 := (near_iff.1 g).2 i hi hn
 rw [lt_as h1] at h2
 cases h2
theorem best_some {l : List NearP} {t : TagP} {S : List TagP} {k : Nat} : bestT l t S = some k ↔ k < S.length ∧ nearB l t S k = true := by
 unfold bestT
 constructor
 ·intro h
  exact ⟨List.mem_range.1 (List.mem_of_find?_eq_some h), List.find?_some h⟩
 ·rintro ⟨hk, hn⟩
  cases hf : (List.range S.length).find? (nearB l t S) with
  | none =>
    rw [List.find?_eq_none] at hf
    exact absurd hn (hf k (List.mem_range.2 hk))
  | some i =>
    rw [near_one (List.mem_range.1 (List.mem_of_find?_eq_some hf)) hk (List.find?_some hf) hn]
theorem best_none {l : List NearP} {t : TagP} {S : List TagP} : bestT l t S = none ↔ ∀ k, k < S.length → nearB l t S k = false := by
 unfold bestT
 rw [List.find?_eq_none]
 simp only [List.mem_range, Bool.not_eq_true]
theorem order_head {l : List NearP} {t : TagP} {S : List TagP} (hS : ∀ i j, i < S.length → j < S.length → textP (atP S i) = textP (atP S j) → i = j) {h : Nat} {r : List Nat} (ho : orderP l t S = h :: r) :
 h < S.length ∧ ∀ j, j < S.length → j ≠ h → ltB l t (atP S h) (atP S j) = true := by
 have hp := order_perm l t S
 have hs := order_srt l t S
 rw [ho] at hp hs
 have hh : h < S.length := List.mem_range.1 (hp.mem_iff.1 (by simp))
 refine ⟨hh, fun j hj hn => ?_⟩
 have hm : j ∈ h :: r := hp.mem_iff.2 (List.mem_range.2 hj)
 have hjr : j ∈ r := (List.mem_cons.1 hm).resolve_left hn
 have h1 := (List.pairwise_cons.1 hs).1 j hjr
 refine lt_of_ne h1 fun e => hn (hS h j hh hj e).symm
theorem best_head {l : List NearP} {t : TagP} {S : List TagP} (hS : ∀ i j, i < S.length → j < S.length → textP (atP S i) = textP (atP S j) → i = j) {h : Nat} {r : List Nat} (ho : orderP l t S = h :: r) :
 bestT l t S = if distP l t (atP S h) ≤ 60 then some h else none := by
 obtain ⟨hh, hlt⟩ := order_head hS ho
 by_cases hd : distP l t (atP S h) ≤ 60
 ·rw [if_pos hd]
  exact best_some.2 ⟨hh, near_iff.2 ⟨hd, hlt⟩⟩
 ·rw [if_neg hd]
  refine best_none.2 fun k hk => ?_
  rw [← Bool.not_eq_true]
  intro hn
  obtain ⟨g1, g2⟩ := near_iff.1 hn
  by_cases he : k = h
  ·subst he; exact hd g1
  ·have h1 := g2 h hh (fun e => he e.symm)
   rw [lt_as (hlt k hk he)] at h1
   cases h1
theorem best_nil {l : List NearP} {t : TagP} : bestT l t [] = none := rfl
end Go.Proofs.YtljdlkonlnjadaaGreatDoor
namespace Go.Proofs.YtljdlkonlnjadaaGreatDoor
abbrev Bytes := List UInt8
def pairE (E : Codes) (a b : Bytes) : (TagP × TagP) × Int :=
 if (parseP E a).2 = 0 then (if (parseP E b).2 = 0 then (((parseP E a).1, (parseP E b).1), 0) else ((TagP.zero, TagP.zero), (parseP E b).2)) else ((TagP.zero, TagP.zero), (parseP E a).2)
def distL (E : Codes) (l : List NearP) (a b : Bytes) : Int × Int :=
 if validN l = true then (if (pairE E a b).2 = 0 then (distP l (pairE E a b).1.1 (pairE E a b).1.2, 0) else (0, (pairE E a b).2)) else (0, 1)
def apartT (S : List TagP) : Bool := decide (S.map textP).Nodup
def bothL (E : Codes) (l : List NearP) (R S : List Bytes) : (List TagP × List TagP) × Int :=
 if validN l = true then (if (readP E R).2 = 0 then (if (readP E S).2 = 0 then (if apartT (readP E S).1 = true then (((readP E R).1, (readP E S).1), 0) else (([], []), 9)) else (([], []), (readP E S).2)) else (([], []), (readP E R).2)) else (([], []), 1)
def bestR (E : Codes) (l : List NearP) (R S : List Bytes) : Int × Int :=
 if (bothL E l R S).2 = 0 then (match bestL l (bothL E l R S).1.1 (bothL E l R S).1.2 with
  | some k => ((k : Int), 0)
  | none => (0, 8)) else (0, (bothL E l R S).2)
def orderR (E : Codes) (l : List NearP) (r : Bytes) (S : List Bytes) : List Nat × Int :=
 if (bothL E l [r] S).2 = 0 then (orderP l ((bothL E l [r] S).1.1.headD TagP.zero) (bothL E l [r] S).1.2, 0) else ([], (bothL E l [r] S).2)
theorem read_cons (E : Codes) (s : Bytes) (r : List Bytes) : readP E (s :: r) = if (parseP E s).2 = 0 then (if (readP E r).2 = 0 then ((parseP E s).1 :: (readP E r).1, 0) else ([], (readP E r).2)) else ([], (parseP E s).2) := rfl
theorem read_ok {E : Codes} : ∀ {l : List Bytes}, (readP E l).2 = 0 ↔ ∀ s ∈ l, (parseP E s).2 = 0
 | [] => by simp [readP]
 | s :: r => by
   rw [read_cons]
   by_cases h : (parseP E s).2 = 0
   ·rw [if_pos h]
    by_cases h2 : (readP E r).2 = 0
    ·rw [if_pos h2]
     simp only [List.mem_cons, forall_eq_or_imp, true_iff]
     exact ⟨h, read_ok.1 h2⟩
    ·rw [if_neg h2]
     simp only [List.mem_cons, forall_eq_or_imp]
     constructor
     ·intro h3; exact absurd h3 h2
     ·rintro ⟨_, h3⟩; exact absurd (read_ok.2 h3) h2
   ·rw [if_neg h]
    simp only [List.mem_cons, forall_eq_or_imp]
    constructor
    ·intro h3; exact absurd h3 h
    ·rintro ⟨h3, _⟩; exact absurd h3 h
theorem read_eq {E : Codes} : ∀ {l : List Bytes}, (readP E l).2 = 0 → (readP E l).1 = l.map fun s => (parseP E s).1
 | [], _ => rfl
 | s :: r, h => by
   have h1 := read_ok.1 h
   have h2 : (readP E r).2 = 0 := read_ok.2 fun x hx => h1 x (by simp [hx])
   rw [read_cons, if_pos (h1 s (by simp)), if_pos h2]
   simp only [List.map_cons]
   rw [read_eq h2]
theorem read_bad {E : Codes} : ∀ {l : List Bytes}, (readP E l).2 ≠ 0 → (readP E l).1 = []
 | [], h => rfl
 | s :: r, h => by
   rw [read_cons] at h ⊢
   by_cases h1 : (parseP E s).2 = 0
   ·rw [if_pos h1] at h ⊢
    by_cases h2 : (readP E r).2 = 0
    ·rw [if_pos h2] at h; exact absurd rfl h
    ·rw [if_neg h2]
   ·rw [if_neg h1]
theorem read_app {E : Codes} {l : List Bytes} {m : Bytes} (h : (readP E l).2 = 0) (hm : (parseP E m).2 = 0) : readP E (l ++ [m]) = ((readP E l).1 ++ [(parseP E m).1], 0) := by
 have h2 : (readP E (l ++ [m])).2 = 0 := read_ok.2 fun s hs => by
  rcases List.mem_append.1 hs with h3 | h3
  ·exact read_ok.1 h s h3
  ·simp at h3; subst h3; exact hm
 refine Prod.ext ?_ h2
 rw [read_eq h2, read_eq h, List.map_append]
 rfl
theorem at_get {S : List TagP} {k : Nat} {x : TagP} (h : S[k]? = some x) : atP S k = x := by
 unfold atP
 rw [List.getD_eq_getElem?_getD, h]
 rfl
theorem apart_iff {S : List TagP} : apartT S = true ↔ ∀ i j, i < S.length → j < S.length → textP (atP S i) = textP (atP S j) → i = j := by
 unfold apartT
 rw [decide_eq_true_eq]
 constructor
 ·intro h i j hi hj he
  have h1 := at_get (List.getElem?_eq_getElem hi)
  have h2 := at_get (List.getElem?_eq_getElem hj)
  rw [h1, h2] at he
  have h3 := (List.nodup_iff_pairwise_ne.1 h)
  rw [List.pairwise_iff_getElem] at h3
  rcases Nat.lt_trichotomy i j with hl | hl | hl
  ·exact absurd (by rw [List.getElem_map, List.getElem_map]; exact he) (h3 i j (by simpa using hi) (by simpa using hj) hl)
  ·exact hl
  ·exact absurd (by rw [List.getElem_map, List.getElem_map]; exact he.symm) (h3 j i (by simpa using hj) (by simpa using hi) hl)
 ·intro h
  rw [List.nodup_iff_pairwise_ne, List.pairwise_iff_getElem]
  intro i j hi hj hl he
  simp only [List.length_map] at hi hj
  have h1 := at_get (List.getElem?_eq_getElem hi)
  have h2 := at_get (List.getElem?_eq_getElem hj)
  have := h i j hi hj (by rw [h1, h2]; simpa using he)
  omega
theorem both_ok {E : Codes} {l : List NearP} {R S : List Bytes} (h : (bothL E l R S).2 = 0) : validN l = true ∧ (readP E R).2 = 0 ∧ (readP E S).2 = 0 ∧ apartT (readP E S).1 = true ∧ (bothL E l R S).1 = ((readP E R).1, (readP E S).1) := by
 unfold bothL at h ⊢
 by_cases h1 : validN l = true
 ·rw [if_pos h1] at h ⊢
  by_cases h2 : (readP E R).2 = 0
  ·rw [if_pos h2] at h ⊢
   by_cases h3 : (readP E S).2 = 0
   ·rw [if_pos h3] at h ⊢
    by_cases h4 : apartT (readP E S).1 = true
    ·rw [if_pos h4]; exact ⟨h1, h2, h3, h4, rfl⟩
    ·rw [if_neg h4] at h; exact absurd h (by decide)
   ·rw [if_neg h3] at h; exact absurd h h3
  ·rw [if_neg h2] at h; exact absurd h h2
 ·rw [if_neg h1] at h; exact absurd h (by decide)
theorem both_of {E : Codes} {l : List NearP} {R S : List Bytes} (h1 : validN l = true) (h2 : (readP E R).2 = 0) (h3 : (readP E S).2 = 0) (h4 : apartT (readP E S).1 = true) : bothL E l R S = (((readP E R).1, (readP E S).1), 0) := by
 unfold bothL
 rw [if_pos h1, if_pos h2, if_pos h3, if_pos h4]
theorem best_exact {l : List NearP} (hl : ∀ x ∈ l, 1 ≤ x.c ∧ x.c ≤ 99) {t : TagP} {S : List TagP} (hS : ∀ i j, i < S.length → j < S.length → textP (atP S i) = textP (atP S j) → i = j) {k : Nat} (hk : k < S.length) (h : atP S k = t) : bestT l t S = some k := by
 have h0 : distP l t (atP S k) = 0 := (dist_bd hl t _).2.2.2 h.symm
 refine best_some.2 ⟨hk, near_iff.2 ⟨by omega, fun j hj hn => ?_⟩⟩
 unfold ltB
 simp only [Bool.or_eq_true, decide_eq_true_eq]
 left
 obtain ⟨b1, _, b3⟩ := dist_bd hl t (atP S j)
 have hne : distP l t (atP S j) ≠ 0 := fun e => by
  have := b3.1 e
  exact hn (hS j k hj hk (by rw [h, ← this]))
 omega
theorem at_rev {S : List TagP} {k : Nat} (hk : k < S.length) : atP S.reverse k = atP S (S.length - 1 - k) := by
 unfold atP
 rw [List.getD_eq_getElem?_getD, List.getD_eq_getElem?_getD, List.getElem?_reverse hk]
theorem near_rev {l : List NearP} {t : TagP} {S : List TagP} {k : Nat} (hk : k < S.length) : nearB l t S.reverse k = nearB l t S (S.length - 1 - k) := by
 rw [Bool.eq_iff_iff, near_iff, near_iff, at_rev hk]
 constructor
 ·rintro ⟨h1, h2⟩
  refine ⟨h1, fun j hj hn => ?_⟩
  have := h2 (S.length - 1 - j) (by rw [List.length_reverse]; omega) (by omega)
  rw [at_rev (by omega), show S.length - 1 - (S.length - 1 - j) = j from by omega] at this
  exact this
 ·rintro ⟨h1, h2⟩
  refine ⟨h1, fun j hj hn => ?_⟩
  rw [List.length_reverse] at hj
  rw [at_rev hj]
  exact h2 (S.length - 1 - j) (by omega) (by omega)
theorem best_rev (l : List NearP) (t : TagP) (S : List TagP) : bestT l t S.reverse = (bestT l t S).map fun k => S.length - 1 - k := by
 cases h : bestT l t S with
 | some k =>
   obtain ⟨hk, hn⟩ := best_some.1 h
   show bestT l t S.reverse = some (S.length - 1 - k)
   refine best_some.2 ⟨by rw [List.length_reverse]; omega, ?_⟩
   rw [near_rev (by omega), show S.length - 1 - (S.length - 1 - k) = k from by omega]
   exact hn
 | none =>
   refine best_none.2 fun k hk => ?_
   rw [List.length_reverse] at hk
   rw [near_rev hk]
   exact best_none.1 h _ (by omega)
theorem bestL_rev (l : List NearP) (T S : List TagP) : bestL l T S.reverse = (bestL l T S).map fun k => S.length - 1 - k := by
 unfold bestL
 induction T with
 | nil => rfl
 | cons t r ih =>
   rw [List.findSome?_cons, List.findSome?_cons, best_rev]
   cases bestT l t S with
   | none => exact ih
   | some k => rfl
theorem apart_rev (S : List TagP) : apartT S.reverse = apartT S := by
 unfold apartT
 rw [List.map_reverse, Bool.eq_iff_iff, decide_eq_true_eq, decide_eq_true_eq]
 exact (List.reverse_perm _).nodup_iff
theorem bestL_app {l : List NearP} {T S : List TagP} {m : TagP} {k : Nat} (h : bestL l T S = some k) : bestL l (T ++ [m]) S = some k := by
 unfold bestL at *
 rw [List.findSome?_append, h]
 rfl
theorem bestL_lt {l : List NearP} {T S : List TagP} {k : Nat} (h : bestL l T S = some k) : k < S.length := by
 unfold bestL at h
 obtain ⟨t, _, ht⟩ := List.exists_of_findSome?_eq_some h
 exact (best_some.1 ht).1
theorem bestL_one (l : List NearP) (t : TagP) (S : List TagP) : bestL l [t] S = bestT l t S := by
 unfold bestL
 rw [List.findSome?_cons]
 cases bestT l t S <;> rfl
theorem order_best {l : List NearP} {t : TagP} {S : List TagP} (hS : ∀ i j, i < S.length → j < S.length → textP (atP S i) = textP (atP S j) → i = j) {k : Nat} (h : bestT l t S = some k) : (orderP l t S).head? = some k := by
 cases ho : orderP l t S with
 | nil =>
   have := order_len l t S
   rw [ho] at this
   have hk := (best_some.1 h).1
   simp at this
   omega
 | cons a r =>
   rw [best_head hS ho] at h
   split at h
   ·exact h
   ·cases h
end Go.Proofs.YtljdlkonlnjadaaGreatDoor
namespace Go.Proofs.YtljdlkonlnjadaaGreatDoor
def newT (S : List TagP) (x : TagP) : Bool := S.all fun y => !(textP y == textP x)
theorem apart_app (S : List TagP) (x : TagP) : apartT (S ++ [x]) = (apartT S && newT S x) := by
 unfold apartT newT
 rw [Bool.eq_iff_iff]
 simp only [decide_eq_true_eq, Bool.and_eq_true, List.map_append, List.map_cons, List.map_nil, List.all_eq_true, List.nodup_append, Bool.not_eq_true', beq_eq_false_iff_ne]
 constructor
 ·rintro ⟨h1, _, h3⟩
  exact ⟨h1, fun y hy => h3 _ (List.mem_map.2 ⟨y, hy, rfl⟩) _ (by simp)⟩
 ·rintro ⟨h1, h2⟩
  refine ⟨h1, by simp, fun a ha b hb => ?_⟩
  obtain ⟨y, hy, rfl⟩ := List.mem_map.1 ha
  simp at hb
  subst hb
  exact h2 y hy
theorem apart_bad {S : List TagP} {j k : Nat} {x y : TagP} (hy : S[j]? = some y) (hx : S[k]? = some x) (hj : j < k) (h : textP y = textP x) : apartT S = false := by
 rw [← Bool.not_eq_true]
 intro ha
 have h1 := (List.getElem?_eq_some_iff.1 hy).1
 have h2 := (List.getElem?_eq_some_iff.1 hx).1
 have := apart_iff.1 ha j k h1 h2 (by rw [at_get hy, at_get hx]; exact h)
 omega
theorem apart_next {S : List TagP} {k : Nat} {x : TagP} (hx : S[k]? = some x) : apartT (S.take (k + 1)) = (apartT (S.take k) && newT (S.take k) x) := by
 rw [List.take_add_one, hx]
 exact apart_app _ _
variable {l : List NearP} {t : TagP} {S T : List TagP} {k i : Nat} {o : Option Nat}
theorem bestL_next (ht : T[k]? = some t) (h : bestL l (T.take k) S = none) : bestL l (T.take (k + 1)) S = bestT l t S := by
 rw [List.take_add_one, ht]
 unfold bestL at *
 rw [List.findSome?_append, h]
 simp
theorem bestL_found (ht : T[k]? = some t) (h : bestL l (T.take k) S = none) (hb : bestT l t S = some i) : bestL l T S = some i := by
 have h1 := bestL_next ht h
 rw [hb] at h1
 have h2 : T = T.take (k + 1) ++ T.drop (k + 1) := (List.take_append_drop _ _).symm
 rw [h2]
 unfold bestL at *
 rw [List.findSome?_append, h1]
 rfl
def OrdK (l : List NearP) (t : TagP) (S : List TagP) (k : Nat) (o : List Nat) : Prop := o.Perm (List.range k) ∧ o.Pairwise fun i j => ltB l t (atP S j) (atP S i) = false
theorem ordK_lt {o : List Nat} (h : OrdK l t S k o) {x : Nat} (hx : x ∈ o) : x < k := List.mem_range.1 (h.1.mem_iff.1 hx)
theorem ordK_end {o : List Nat} (hS : apartT S = true) (h : OrdK l t S S.length o) : o = orderP l t S :=
 order_unique (apart_iff.1 hS) h.2 (order_srt l t S) (h.1.trans (order_perm l t S).symm) fun i hi => ordK_lt h hi
def cmpI (a b : Int) : Int := if a < b then -1 else if b < a then 1 else 0
def cmpS (a b : Bytes) : Int := if a < b then -1 else if b < a then 1 else 0
def cfP (l : List NearP) (t : TagP) (S : List TagP) (i j : Nat) : Int :=
 if cmpI (distP l t (atP S i)) (distP l t (atP S j)) = 0 then cmpS (textP (atP S i)) (textP (atP S j)) else cmpI (distP l t (atP S i)) (distP l t (atP S j))
theorem cf_lt (l : List NearP) (t : TagP) (S : List TagP) (i j : Nat) : decide (cfP l t S i j < 0) = ltB l t (atP S i) (atP S j) := by
 unfold cfP ltB cmpI cmpS
 generalize distP l t (atP S i) = a
 generalize distP l t (atP S j) = b
 generalize textP (atP S i) = x
 generalize textP (atP S j) = y
 rcases Int.lt_trichotomy a b with h | h | h
 ·rw [if_pos h]
  simp [h]
 ·subst h
  by_cases h2 : x < y
  ·simp [h2]
  ·by_cases h3 : y < x
   ·simp [h2, h3]
   ·simp [h2, h3]
 ·have h1 : ¬ a < b := by omega
  have h2 : ¬ a = b := by omega
  rw [if_neg h1, if_pos h]
  simp [h1, h2]
def idxs (n : Nat) : List (Fin n) := (List.range n).pmap (fun a h => ⟨a, h⟩) fun a h => List.mem_range.1 h
theorem idxs_val (n : Nat) : (idxs n).map Fin.val = List.range n := by
 unfold idxs
 rw [List.map_pmap]
 simp
theorem fin_order (hS : apartT S = true) (le : Fin S.length → Fin S.length → Bool) (hle : ∀ x y, le x y = !ltB l t (atP S y) (atP S x)) : ((idxs S.length).mergeSort le).map Fin.val = orderP l t S := by
 have hs := List.pairwise_mergeSort (le := le) (fun a b c h k => by
  rw [hle] at *
  simp only [Bool.not_eq_true'] at *
  exact nlt_tr h k) (fun a b => by
  rw [hle, hle]
  rcases nlt_tot l t (atP S a) (atP S b) with h | h
  ·rw [h]; rfl
  ·rw [h]; simp) (idxs S.length)
 have hp : (((idxs S.length).mergeSort le).map Fin.val).Perm (List.range S.length) := by
  have h1 := (List.mergeSort_perm (idxs S.length) le).map Fin.val
  rwa [idxs_val] at h1
 refine ordK_end hS ⟨hp, ?_⟩
 rw [List.pairwise_map]
 refine hs.imp fun {a b} h => ?_
 rw [hle] at h
 simpa using h
theorem bestR_some {E : Codes} {R Q : List Bytes} (h : (bothL E l R Q).2 = 0) (hb : bestL l (bothL E l R Q).1.1 (bothL E l R Q).1.2 = some i) : bestR E l R Q = ((i : Int), 0) := by
 unfold bestR
 rw [if_pos h, hb]
theorem bestR_none {E : Codes} {R Q : List Bytes} (h : (bothL E l R Q).2 = 0) (hb : bestL l (bothL E l R Q).1.1 (bothL E l R Q).1.2 = none) : bestR E l R Q = (0, 8) := by
 unfold bestR
 rw [if_pos h, hb]
theorem bestR_bad {E : Codes} {R Q : List Bytes} (h : ¬ (bothL E l R Q).2 = 0) : bestR E l R Q = (0, (bothL E l R Q).2) := by
 unfold bestR
 rw [if_neg h]
theorem orderR_ok {E : Codes} {r : Bytes} {Q : List Bytes} (h : (bothL E l [r] Q).2 = 0) (ht : (bothL E l [r] Q).1.1 = [t]) : orderR E l r Q = (orderP l t (bothL E l [r] Q).1.2, 0) := by
 unfold orderR
 rw [if_pos h, ht]
 rfl
theorem orderR_bad {E : Codes} {r : Bytes} {Q : List Bytes} (h : ¬ (bothL E l [r] Q).2 = 0) : orderR E l r Q = ([], (bothL E l [r] Q).2) := by
 unfold orderR
 rw [if_neg h]
theorem both_one {E : Codes} {r : Bytes} {Q : List Bytes} (h : (bothL E l [r] Q).2 = 0) : ∃ t, (bothL E l [r] Q).1.1 = [t] := by
 obtain ⟨_, h2, _, _, h5⟩ := both_ok h
 refine ⟨(parseP E r).1, ?_⟩
 rw [h5, read_eq h2]
 rfl
theorem both_len {E : Codes} {R Q : List Bytes} (h : (bothL E l R Q).2 = 0) : (bothL E l R Q).1.1.length = R.length ∧ (bothL E l R Q).1.2.length = Q.length := by
 obtain ⟨_, h2, h3, _, h5⟩ := both_ok h
 rw [h5, read_eq h2, read_eq h3]
 simp
end Go.Proofs.YtljdlkonlnjadaaGreatDoor
namespace Go.Proofs.YtljdlkonlnjadaaGreatDoor
open Go.RowKit
def natV (j : Nat) : Value := .int .i64 (j : Int)
def RetOrd (w : World) (r : List Nat × Int) (e : Ending) (w' : World) : Prop :=
 ∃ A n c, e = .returned (.tuple #[.slice A n c, .int .i64 r.2]) ∧ Sl w' A n (r.1.map natV) ∧ n ≤ c ∧ Ext w w'
end Go.Proofs.YtljdlkonlnjadaaGreatDoor
