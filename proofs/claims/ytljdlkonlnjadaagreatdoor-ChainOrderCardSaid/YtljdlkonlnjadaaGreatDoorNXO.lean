import Derived.Test.YtljdlkonlnjadaaGreatDoorNXH
import Derived.Test.YtljdlkonlnjadaaGreatDoorNXM
import Derived.Test.YtljdlkonlnjadaaGreatDoorNX2
import Derived.Test.YtljdlkonlnjadaaGreatDoorNX6
import Derived.Test.YtljdlkonlnjadaaGreatDoorProg
import Derived.ChangeKeysEq
import Derived.Test.YtljdlkonlnjadaaGreatDoorNXC
import Derived.Lib.MinMaxS
import Derived.BigQuiet
import Derived.Test.YtljdlkonlnjadaaGreatDoorNX4
import Derived.Test.YtljdlkonlnjadaaGreatDoorNX3
import Derived.Test.YtljdlkonlnjadaaGreatDoorNX8
import Derived.Test.YtljdlkonlnjadaaGreatDoorSrtS
import Derived.Lib.OwnBridge
import Derived.Test.YtljdlkonlnjadaaGreatDoorRVal
import Derived.Test.YtljdlkonlnjadaaGreatDoorNZ0
import Derived.Test.YtljdlkonlnjadaaGreatDoorNZ6
import Derived.Test.YtljdlkonlnjadaaGreatDoorNZ4
import Derived.Test.YtljdlkonlnjadaaGreatDoorNXF
import Derived.Test.YtljdlkonlnjadaaGreatDoorNZ2
set_option maxRecDepth 100000
set_option linter.unusedSimpArgs false
set_option linter.unusedVariables false
open Go.Lib (hid)
namespace Go.Proofs.YtljdlkonlnjadaaGreatDoor
def turnL {α : Type} : List α → List α
 | [] => []
 | x :: r => x :: r.reverse
def turnI (n i : Nat) : Nat := if i = 0 then 0 else n - i
theorem turn_lt {n i : Nat} (h : i < n) : turnI n i < n := by unfold turnI; split <;> omega
theorem turn_turn {n i : Nat} (h : i < n) : turnI n (turnI n i) = i := by
 unfold turnI
 by_cases h0 : i = 0
 ·rw [if_pos h0, if_pos rfl, h0]
 ·rw [if_neg h0, if_neg (by omega)]; omega
theorem turn_zero {n i : Nat} (h : i < n) : turnI n i = 0 ↔ i = 0 := by unfold turnI; split <;> omega
theorem turn_inj {n i j : Nat} (hi : i < n) (hj : j < n) : turnI n i = turnI n j ↔ i = j := by unfold turnI; split <;> split <;> omega
theorem turn_len {α : Type} (T : List α) : (turnL T).length = T.length := by cases T <;> simp [turnL]
theorem turn_perm {α : Type} (T : List α) : (turnL T).Perm T := by
 cases T with
 | nil => exact List.Perm.refl _
 | cons x r => exact (List.reverse_perm r).cons x
theorem turn_map {α β : Type} (f : α → β) (T : List α) : turnL (T.map f) = (turnL T).map f := by
 cases T with
 | nil => rfl
 | cons x r => simp [turnL]
theorem turn_at {α : Type} {T : List α} {i : Nat} (h : i < T.length) : (turnL T)[turnI T.length i]? = T[i]? := by
 cases T with
 | nil => simp at h
 | cons x r =>
   cases i with
   | zero => rfl
   | succ i =>
     simp only [List.length_cons] at h
     have e : turnI (r.length + 1) (i + 1) = (r.length - 1 - i) + 1 := by unfold turnI; rw [if_neg (by omega)]; omega
     show (x :: r.reverse)[turnI (r.length + 1) (i + 1)]? = (x :: r)[i + 1]?
     rw [e, List.getElem?_cons_succ, List.getElem?_cons_succ, List.getElem?_reverse (by omega)]
     congr 1
     omega
section
variable {T : List LocP}
theorem tg_turn {i : Nat} (h : i < T.length) : tgC (turnL T) (turnI T.length i) = tgC T i := by
 unfold tgC
 rw [List.getD_eq_getElem?_getD, List.getD_eq_getElem?_getD, turn_at h]
theorem idx_turn (hn : (T.map (·.1)).Nodup) (s : BytesC) : idxC (turnL T) s = (idxC T s).map (turnI T.length) := by
 cases h : idxC T s with
 | some i =>
   obtain ⟨hi, h1⟩ := idx_some h
   have hx : (turnL T)[turnI T.length i]? = some T[i] := by rw [turn_at hi]; exact List.getElem?_eq_getElem hi
   rw [tg_get (List.getElem?_eq_getElem hi)] at h1
   have hn2 : ((turnL T).map (·.1)).Nodup := ((turn_perm T).map _).nodup_iff.2 hn
   have := idx_of hn2 hx
   rw [h1] at this
   exact this
 | none =>
   unfold idxC
   simp only [Option.map_none]
   rw [List.findIdx?_eq_none_iff]
   intro x hx
   have := idx_none h x ((turn_perm T).mem_iff.1 hx)
   simpa using this
theorem near_turn (hn : (T.map (·.1)).Nodup) (s : BytesC) : nearC (turnL T) s = turnI T.length (nearC T s) := by
 unfold nearC
 rw [idx_turn hn]
 cases idxC T s with
 | some i => rfl
 | none =>
   simp only [Option.map_none]
   have e : ∀ l : List BytesC, l.findSome? (idxC (turnL T)) = (l.findSome? (idxC T)).map (turnI T.length) := by
    intro l
    induction l with
    | nil => rfl
    | cons a r ih =>
      rw [List.findSome?_cons, List.findSome?_cons, idx_turn hn]
      cases idxC T a with
      | none => exact ih
      | some i => rfl
   rw [e]
   cases (ancL s).1.findSome? (idxC T) with
   | none => rfl
   | some i => rfl
theorem up_turn (hn : (T.map (·.1)).Nodup) {i : Nat} (h : i < T.length) : upC2 (turnL T) (turnI T.length i) = (upC2 T i).map (turnI T.length) := by
 unfold upC2
 rw [tg_turn h]
 split
 ·rw [near_turn hn]; rfl
 ·exact idx_turn hn _
theorem mem_turn {out : List Nat} {k : Nat} (ho : ∀ x ∈ out, x < T.length) (hk : k < T.length) : turnI T.length k ∈ out.map (turnI T.length) ↔ k ∈ out := by
 rw [List.mem_map]
 constructor
 ·rintro ⟨x, hx, e⟩
  rw [turn_inj (ho x hx) hk] at e
  exact e ▸ hx
 ·intro h; exact ⟨k, h, rfl⟩
theorem go_turn (hT : T ≠ []) (hn : (T.map (·.1)).Nodup) : ∀ (n : Nat) (out : List Nat) (i : Nat), GoK T n out i → goC (turnL T) n (out.map (turnI T.length)) (turnI T.length i) = ((goC T n out i).1.map (turnI T.length), (goC T n out i).2)
 | 0, out, i, h => by obtain ⟨m, hm⟩ := h.pos; omega
 | n + 1, out, i, h => by
   have hi := h.lt.1
   by_cases h0 : i = 0
   ·rw [go_zero h h0]
    subst h0
    rw [goC, if_pos (by rfl)]
   ·have h0' : turnI T.length i ≠ 0 := fun e => h0 ((turn_zero hi).1 e)
    cases hu : upC2 T i with
    | none =>
      rw [go_none h h0 hu, goC, if_neg h0', up_turn hn hi, hu]
      rfl
    | some k =>
      have hk := up_lt hT hu
      by_cases hm : k ∈ out
      ·rw [go_cycle h h0 hu hm, goC, if_neg h0', up_turn hn hi, hu]
       simp only [Option.map_some]
       rw [if_pos ((mem_turn h.2.2.1 hk).2 hm)]
       rfl
      ·obtain ⟨e, hg⟩ := go_on h h0 hu hm hT
       rw [e, goC, if_neg h0', up_turn hn hi, hu]
       simp only [Option.map_some]
       rw [if_neg fun q => hm ((mem_turn h.2.2.1 hk).1 q)]
       have := go_turn hT hn n (out ++ [k]) k hg
       rw [List.map_append] at this
       exact this
theorem usable_turn (al : List Ali) : usableC (turnL T) al = usableC T al := by
 unfold usableC
 have h1 : (turnL T).head? = T.head? := by cases T <;> rfl
 have h2 : (turnL T).all (fun x => isP x.1) = T.all (fun x => isP x.1) := by
  rw [Bool.eq_iff_iff, List.all_eq_true, List.all_eq_true]
  exact ⟨fun h x hx => h x ((turn_perm T).mem_iff.2 hx), fun h x hx => h x ((turn_perm T).mem_iff.1 hx)⟩
 have h3 : decide ((turnL T).map (·.1)).Nodup = decide (T.map (·.1)).Nodup := by
  rw [Bool.eq_iff_iff, decide_eq_true_eq, decide_eq_true_eq]
  exact ((turn_perm T).map _).nodup_iff
 rw [h1, h2, h3]
theorem locs_turn (al : List Ali) (s : BytesC) : locsC (turnL T) al s = ((locsC T al s).1.map (turnI T.length), (locsC T al s).2) := by
 unfold locsC
 rw [usable_turn]
 by_cases hu : usableC T al = true
 ·rw [if_pos hu, if_pos hu]
  obtain ⟨hT, _, _, hn, _⟩ := usable_ok hu
  by_cases hc : (canL al s).2 = 0
  ·rw [if_pos hc, if_pos hc, turn_len, near_turn hn]
   exact go_turn hT hn T.length [nearC T (canL al s).1] _ (GoK.start (near_lt hT _))
  ·rw [if_neg hc, if_neg hc]; rfl
 ·rw [if_neg hu, if_neg hu]; rfl
theorem of_turn (al : List Ali) (s : BytesC) : ofC (turnL T) al s = ofC T al s := by
 unfold ofC
 rw [locs_turn]
 simp only [List.map_map]
 congr 1
 by_cases hc : (locsC T al s).2 = 0
 ·obtain ⟨_, _, r, h1, _, h3, _⟩ := locs_ok hc
  refine List.map_congr_left fun x hx => ?_
  have hx' := h3 x (by rw [← h1]; exact hx)
  simp only [Function.comp]
  rw [tg_turn hx']
 ·rw [locs_bad hc]; rfl
end
theorem of_err {T : List LocP} {al : List Ali} {s : BytesC} (h : (ofC T al s).2 ≠ 0) : (ofC T al s).1 = [] := by
 unfold ofC at h ⊢
 simp only at h ⊢
 rw [locs_bad h]; rfl
theorem tag_inj {T : List LocP} (hn : (T.map (·.1)).Nodup) {i j : Nat} (hi : i < T.length) (hj : j < T.length) (h : (tgC T i).1 = (tgC T j).1) : i = j := by
 have h1 := idx_of hn (List.getElem?_eq_getElem hi)
 have h2 := idx_of hn (List.getElem?_eq_getElem hj)
 rw [tg_get (List.getElem?_eq_getElem hi), tg_get (List.getElem?_eq_getElem hj)] at h
 rw [h, h2] at h1
 injection h1 with h1
 exact h1.symm
theorem of_shape {T : List LocP} {al : List Ali} {s : BytesC} (h : (ofC T al s).2 = 0) : (ofC T al s).1.getLast? = some undP ∧ (ofC T al s).1.Nodup := by
 have h' : (locsC T al s).2 = 0 := h
 obtain ⟨hu, _, r, h1, h2, h3, h4, _⟩ := locs_ok h'
 obtain ⟨hT, h0, _, hn, _⟩ := usable_ok hu
 unfold ofC
 simp only
 rw [h1]
 constructor
 ·rw [List.getLast?_map, h4]
  show some (tgC T 0).1 = _
  rw [h0]
 ·unfold List.Nodup
  rw [List.pairwise_map]
  refine List.Pairwise.imp_of_mem ?_ h2
  intro a b ha hb hab he
  exact hab (tag_inj hn (h3 a ha) (h3 b hb) he)
theorem of_rest {T : List LocP} {s : BytesC} (h : (ofC T [] s).2 = 0) {j : Nat} {x : BytesC} (hj : (ofC T [] s).1[j]? = some x) : ofC T [] x = ((ofC T [] s).1.drop j, 0) := by
 unfold ofC at hj ⊢
 simp only at hj ⊢
 rw [List.getElem?_map] at hj
 cases hk : (locsC T [] s).1[j]? with
 | none => rw [hk] at hj; cases hj
 | some k =>
   rw [hk] at hj
   injection hj with hj
   subst hj
   rw [ends_rest h hk, List.map_drop]
abbrev EntP := BytesC × Int
def entB (id : BytesC) (x : EntP) : Bool := x.1 == id && (x.2 == 2 || x.2 == 3)
def inCat (x : BytesC) (id : BytesC) (c : BytesC × List EntP) : Option Nat := if c.1 = x then c.2.findIdx? (entB id) else none
def firstN {α β : Type} (f : α → Option β) : Nat → List α → Option (Nat × β)
 | _, [] => none
 | n, a :: r => match f a with
   | some b => some (n, b)
   | none => firstN f (n + 1) r
def findL (tags : List BytesC) (cats : List (BytesC × List EntP)) (id : BytesC) : Option (Nat × Nat) := tags.findSome? fun x => firstN (inCat x id) 0 cats
def findC (T : List LocP) (al : List Ali) (cats : List (BytesC × List EntP)) (s id : BytesC) : (Int × Int) × Int :=
 if (ofC T al s).2 = 0 then (match findL (ofC T al s).1 cats id with
  | some (c, k) => (((c : Int), (k : Int)), 0)
  | none => ((0, 0), 8)) else ((0, 0), (ofC T al s).2)
theorem first_take {α β : Type} {f : α → Option β} : ∀ {l : List α} {n k : Nat}, (∀ j x, j < k → l[j]? = some x → f x = none) → k ≤ l.length → firstN f n l = firstN f (n + k) (l.drop k)
 | l, n, 0, _, _ => by simp
 | [], n, k + 1, _, h => by simp at h
 | a :: r, n, k + 1, h, hk => by
   rw [firstN, h 0 a (by omega) rfl]
   simp only [List.drop_succ_cons]
   rw [first_take (l := r) (n := n + 1) (k := k) (fun j x hj hx => h (j + 1) x (by omega) (by simpa using hx)) (by simpa using hk)]
   congr 1
   omega
theorem first_none {α β : Type} {f : α → Option β} {l : List α} {n : Nat} (h : ∀ j x, j < l.length → l[j]? = some x → f x = none) : firstN f n l = none := by
 rw [first_take (k := l.length) (fun j x hj hx => h j x hj hx) (Nat.le_refl _), List.drop_length]
 rfl
theorem first_some {α β : Type} {f : α → Option β} {l : List α} {n k : Nat} {x : α} {b : β} (h : ∀ j x, j < k → l[j]? = some x → f x = none) (hx : l[k]? = some x) (hb : f x = some b) : firstN f n l = some (n + k, b) := by
 have hk := (List.getElem?_eq_some_iff.1 hx).1
 rw [first_take h (Nat.le_of_lt hk), List.drop_eq_getElem_cons hk, (List.getElem?_eq_some_iff.1 hx).2, firstN, hb]
def wantC (al : List Ali) : List BytesC → List BytesC × Int
 | [] => ([], 0)
 | s :: r => if (canL al s).2 = 0 then (if (wantC al r).2 = 0 then ((canL al s).1 :: (wantC al r).1, 0) else ([], (wantC al r).2)) else ([], (canL al s).2)
def negC (T : List LocP) (al : List Ali) (l : List NearP) (R : List BytesC) : BytesC × Int :=
 if (usableC T al && validN l) = true then (if (wantC al R).2 = 0 then (if (bestR EC l (wantC al R).1 (T.map (·.1))).2 = 0 then ((tgC T (bestR EC l (wantC al R).1 (T.map (·.1))).1.toNat).1, 0) else (undP, 0)) else ([], (wantC al R).2)) else ([], 1)
section
variable {l : List NearP}
theorem at_turn {S : List TagP} {k : Nat} (hk : k < S.length) : atP (turnL S) (turnI S.length k) = atP S k := by
 unfold atP
 rw [List.getD_eq_getElem?_getD, List.getD_eq_getElem?_getD, turn_at hk]
theorem at_turn2 {S : List TagP} {k : Nat} (hk : k < S.length) : atP (turnL S) k = atP S (turnI S.length k) := by
 have h := at_turn (turn_lt hk)
 rw [turn_turn hk] at h
 exact h
theorem nearB_turn {t : TagP} {S : List TagP} {k : Nat} (hk : k < S.length) : nearB l t (turnL S) k = nearB l t S (turnI S.length k) := by
 rw [Bool.eq_iff_iff, near_iff, near_iff, at_turn2 hk, turn_len]
 constructor
 ·rintro ⟨h1, h2⟩
  refine ⟨h1, fun j hj hn => ?_⟩
  have := h2 (turnI S.length j) (turn_lt hj) (fun e => hn (by rw [← e, turn_turn hj]))
  rw [at_turn hj] at this
  exact this
 ·rintro ⟨h1, h2⟩
  refine ⟨h1, fun j hj hn => ?_⟩
  rw [at_turn2 hj]
  exact h2 _ (turn_lt hj) fun e => hn ((turn_inj hj hk).1 e)
theorem bestT_turn (t : TagP) (S : List TagP) : bestT l t (turnL S) = (bestT l t S).map (turnI S.length) := by
 cases h : bestT l t S with
 | some k =>
   obtain ⟨hk, hn⟩ := best_some.1 h
   refine best_some.2 ⟨by rw [turn_len]; exact turn_lt hk, ?_⟩
   rw [nearB_turn (turn_lt hk), turn_turn hk]
   exact hn
 | none =>
   refine best_none.2 fun k hk => ?_
   rw [turn_len] at hk
   rw [nearB_turn hk]
   exact best_none.1 h _ (turn_lt hk)
theorem bestL_turn (T S : List TagP) : bestL l T (turnL S) = (bestL l T S).map (turnI S.length) := by
 unfold bestL
 induction T with
 | nil => rfl
 | cons t r ih =>
   rw [List.findSome?_cons, List.findSome?_cons, bestT_turn]
   cases bestT l t S with
   | none => exact ih
   | some k => rfl
theorem apart_turn (S : List TagP) : apartT (turnL S) = apartT S := by
 unfold apartT
 rw [Bool.eq_iff_iff, decide_eq_true_eq, decide_eq_true_eq]
 exact ((turn_perm S).map _).nodup_iff
theorem read_ok_turn {S : List BytesC} : (readP EC (turnL S)).2 = 0 ↔ (readP EC S).2 = 0 := by
 rw [read_ok, read_ok]
 exact ⟨fun h s hs => h s ((turn_perm S).mem_iff.2 hs), fun h s hs => h s ((turn_perm S).mem_iff.1 hs)⟩
theorem bestR_turn (R S : List BytesC) (hS : (readP EC S).2 = 0) : ((bestR EC l R (turnL S)).2 = 0 ↔ (bestR EC l R S).2 = 0) ∧ ((bestR EC l R S).2 = 0 → ∃ k : Nat, k < S.length ∧ (bestR EC l R S).1 = k ∧ (bestR EC l R (turnL S)).1 = (turnI S.length k : Nat)) := by
 have hS2 := read_ok_turn.2 hS
 have e1 : (readP EC (turnL S)).1 = turnL (readP EC S).1 := by rw [read_eq hS, read_eq hS2, turn_map]
 have hlen : (readP EC S).1.length = S.length := by rw [read_eq hS]; simp
 by_cases hb : (bothL EC l R S).2 = 0
 ·obtain ⟨h1, h2, _, h4, h5⟩ := both_ok hb
  have hb2 := both_of (E := EC) (l := l) (R := R) (S := turnL S) h1 h2 hS2 (by rw [e1, apart_turn]; exact h4)
  have hb2' : (bothL EC l R (turnL S)).2 = 0 := by rw [hb2]
  have hbt := bestL_turn (l := l) (readP EC R).1 (readP EC S).1
  cases hbl : bestL l (readP EC R).1 (readP EC S).1 with
  | none =>
    rw [hbl] at hbt
    rw [bestR_none hb (by rw [h5]; exact hbl), bestR_none hb2' (by rw [hb2]; simp only; rw [e1]; exact hbt)]
    exact ⟨Iff.rfl, fun h => absurd h (by decide)⟩
  | some k =>
    rw [hbl] at hbt
    have hk := bestL_lt hbl
    rw [bestR_some hb (by rw [h5]; exact hbl), bestR_some hb2' (i := turnI (readP EC S).1.length k) (by rw [hb2]; simp only; rw [e1]; exact hbt)]
    refine ⟨Iff.rfl, fun _ => ⟨k, by rw [← hlen]; exact hk, rfl, by rw [hlen]⟩⟩
 ·have hb2 : ¬ (bothL EC l R (turnL S)).2 = 0 := by
   intro h
   obtain ⟨h1, h2, h3, h4, _⟩ := both_ok h
   rw [e1, apart_turn] at h4
   exact hb (by rw [both_of h1 h2 hS h4])
  rw [bestR_bad hb, bestR_bad hb2]
  exact ⟨⟨fun h => absurd h hb2, fun h => absurd h hb⟩, fun h => absurd h hb⟩
theorem neg_turn (T : List LocP) (al : List Ali) (R : List BytesC) : negC (turnL T) al l R = negC T al l R := by
 unfold negC
 rw [usable_turn]
 by_cases hu : usableC T al = true
 ·obtain ⟨hT, _, hp, hn, _⟩ := usable_ok hu
  have hS : (readP EC (T.map (·.1))).2 = 0 := read_ok.2 fun s hs => by
   obtain ⟨x, hx, rfl⟩ := List.mem_map.1 hs
   have := hp x hx
   unfold isP canP at this
   simp only [Bool.and_eq_true, beq_iff_eq] at this
   exact this.1
  obtain ⟨q1, q2⟩ := bestR_turn (l := l) (wantC al R).1 (T.map (·.1)) hS
  rw [turn_map] at q1 q2
  by_cases hv : (usableC T al && validN l) = true
  ·rw [if_pos hv, if_pos hv]
   by_cases hw : (wantC al R).2 = 0
   ·rw [if_pos hw, if_pos hw]
    by_cases hb : (bestR EC l (wantC al R).1 (T.map (·.1))).2 = 0
    ·rw [if_pos hb, if_pos (q1.2 hb)]
     obtain ⟨k, hk, e1, e2⟩ := q2 hb
     rw [e1, e2]
     rw [List.length_map] at hk
     have := tg_turn (T := T) hk
     simp only [List.length_map, Int.toNat_natCast]
     rw [this]
    ·rw [if_neg hb, if_neg fun h => hb (q1.1 h)]
   ·rw [if_neg hw, if_neg hw]
  ·rw [if_neg hv, if_neg hv]
 ·have : ¬ (usableC T al && validN l) = true := by simp [hu]
  rw [if_neg this, if_neg this]
end
end Go.Proofs.YtljdlkonlnjadaaGreatDoor
namespace Go.Proofs.YtljdlkonlnjadaaGreatDoor
def codeB (e : Int) : Prop := e = 0 ∨ e = 3 ∨ e = 9 ∨ e = 6
theorem fin_code (t : TagP) : codeB (finT EC t).2 := by
 unfold finT codeB
 split
 ·split
  ·exact .inl rfl
  ·exact .inr (.inr (.inr rfl))
 ·exact .inr (.inr (.inl rfl))
theorem c3_code (t : TagP) (r : List (List UInt8)) : codeB (c3 EC t r).2 := by
 unfold c3
 split
 ·exact fin_code _
 ·exact .inr (.inl rfl)
theorem c2_code (t : TagP) (r : List (List UInt8)) : codeB (c2 EC t r).2 := by
 unfold c2
 split
 ·exact c3_code _ _
 ·split <;> exact c3_code _ _
theorem c1_code (t : TagP) (r : List (List UInt8)) : codeB (c1 EC t r).2 := by
 unfold c1
 split
 ·exact c2_code _ _
 ·split <;> exact c2_code _ _
theorem parse_code (s : List UInt8) : codeB (parseP EC s).2 := by
 unfold parseP c0
 split
 ·exact .inr (.inl rfl)
 ·split
  ·exact c1_code _ _
  ·exact .inr (.inl rfl)
theorem read_code : ∀ l : List Bytes, codeB (readP EC l).2
 | [] => .inl rfl
 | s :: r => by
   rw [read_cons]
   split
   ·split
    ·exact .inl rfl
    ·exact read_code r
   ·exact parse_code s
theorem both_code (l : List NearP) (R S : List Bytes) : codeB (bothL EC l R S).2 ∨ (bothL EC l R S).2 = 1 := by
 unfold bothL
 split
 ·split
  ·split
   ·split
    ·exact .inl (.inl rfl)
    ·exact .inl (.inr (.inr (.inl rfl)))
   ·exact .inl (read_code S)
  ·exact .inl (read_code R)
 ·exact .inr rfl
theorem both_ne8 (l : List NearP) (R S : List Bytes) : (bothL EC l R S).2 ≠ 8 := by
 rcases both_code l R S with h | h
 ·unfold codeB at h; omega
 ·omega
variable {l : List NearP} {R S : List Bytes}
theorem best_code : ((bestR EC l R S).2 = 0 ∨ (bestR EC l R S).2 = 8) ↔ (bothL EC l R S).2 = 0 := by
 constructor
 ·intro h
  refine Classical.byContradiction fun hn => ?_
  rw [bestR_bad hn] at h
  have := both_ne8 l R S
  simp only at h
  omega
 ·intro h
  cases hb : bestL l (bothL EC l R S).1.1 (bothL EC l R S).1.2 with
  | none => exact .inr (by rw [bestR_none h hb])
  | some i => exact .inl (by rw [bestR_some h hb])
theorem pairE_ok {a b : Bytes} (h : (pairE EC a b).2 = 0) : (parseP EC a).2 = 0 ∧ (parseP EC b).2 = 0 ∧ (pairE EC a b).1 = ((parseP EC a).1, (parseP EC b).1) := by
 unfold pairE at h ⊢
 by_cases h1 : (parseP EC a).2 = 0
 ·by_cases h2 : (parseP EC b).2 = 0
  ·simp [h1, h2]
  ·simp [h1, h2] at h
 ·simp [h1] at h
theorem distL_ok {a b : Bytes} (h : (distL EC l a b).2 = 0) : validN l = true ∧ (parseP EC a).2 = 0 ∧ (parseP EC b).2 = 0 ∧ distL EC l a b = (distP l (parseP EC a).1 (parseP EC b).1, 0) := by
 unfold distL at h ⊢
 by_cases h1 : validN l = true
 ·rw [if_pos h1] at h ⊢
  by_cases h2 : (pairE EC a b).2 = 0
  ·rw [if_pos h2]
   obtain ⟨k1, k2, k3⟩ := pairE_ok h2
   exact ⟨h1, k1, k2, by rw [k3]⟩
  ·rw [if_neg h2] at h
   exact absurd h h2
 ·rw [if_neg h1] at h
  exact absurd h (by decide)
theorem distL_of {a b : Bytes} (hv : validN l = true) (h1 : (parseP EC a).2 = 0) (h2 : (parseP EC b).2 = 0) : distL EC l a b = (distP l (parseP EC a).1 (parseP EC b).1, 0) := by
 have e : pairE EC a b = (((parseP EC a).1, (parseP EC b).1), 0) := by unfold pairE; rw [if_pos h1, if_pos h2]
 unfold distL
 rw [if_pos hv, e]
 rfl
theorem distL_comm {a b : Bytes} (h : (distL EC l a b).2 = 0) : distL EC l b a = distL EC l a b := by
 obtain ⟨hv, h1, h2, e⟩ := distL_ok h
 rw [e, distL_of hv h2 h1, dist_comm]
theorem canP_eq {a : Bytes} (h : (parseP EC a).2 = 0) : canP a = (textP (parseP EC a).1, 0) := by
 unfold canP
 rw [if_pos h, h]
theorem distL_zero {a b : Bytes} (h : (distL EC l a b).2 = 0) : ((distL EC l a b).1 == 0) = ((canP a).1 == (canP b).1) := by
 obtain ⟨hv, h1, h2, e⟩ := distL_ok h
 rw [e, canP_eq h1, canP_eq h2, Bool.eq_iff_iff]
 simp only [beq_iff_eq]
 rw [(dist_bd (valid_costs hv) _ _).2.2]
 constructor
 ·intro h; rw [h]
 ·intro h; exact text_inj _ _ (parse_ok h1) (parse_ok h2) h
theorem read_at {k : Nat} {s : Bytes} (h : (readP EC S).2 = 0) (hs : S[k]? = some s) : atP (readP EC S).1 k = (parseP EC s).1 ∧ (parseP EC s).2 = 0 ∧ k < (readP EC S).1.length := by
 have hk := (List.getElem?_eq_some_iff.1 hs).1
 refine ⟨?_, read_ok.1 h s (List.mem_of_getElem? hs), by rw [read_eq h, List.length_map]; exact hk⟩
 rw [read_eq h]
 exact at_get (by rw [List.getElem?_map, hs]; rfl)
theorem exact_best {r s : Bytes} {k : Nat} (h : (bestR EC l (r :: R) S).2 = 0 ∨ (bestR EC l (r :: R) S).2 = 8) (hs : S[k]? = some s) (he : (canP s).1 = (canP r).1) : bestR EC l (r :: R) S = ((k : Int), 0) := by
 have h0 := best_code.1 h
 obtain ⟨hv, h2, h3, hap, hb⟩ := both_ok h0
 obtain ⟨a1, a2, a3⟩ := read_at h3 hs
 have hr := read_ok.1 h2 r (by simp)
 rw [canP_eq a2, canP_eq hr] at he
 have ht : (parseP EC s).1 = (parseP EC r).1 := text_inj _ _ (parse_ok a2) (parse_ok hr) he
 refine bestR_some h0 ?_
 rw [hb, read_eq h2]
 unfold bestL
 rw [List.map_cons, List.findSome?_cons, best_exact (valid_costs hv) (apart_iff.1 hap) a3 (a1.trans ht)]
theorem best_range (h : (bestR EC l R S).2 = 0 ∨ (bestR EC l R S).2 = 8) : (bestR EC l R S).2 = 8 ∨ ∃ k : Nat, (bestR EC l R S).1 = (k : Int) ∧ k < S.length := by
 have h0 := best_code.1 h
 cases hb : bestL l (bothL EC l R S).1.1 (bothL EC l R S).1.2 with
 | none => exact .inl (by rw [bestR_none h0 hb])
 | some i =>
   refine .inr ⟨i, by rw [bestR_some h0 hb], ?_⟩
   have := bestL_lt hb
   rwa [(both_len h0).2] at this
def SpelledL (b : Nat) (S : List Bytes) : List Bytes := (S.map fun s => spellL s b).reverse
theorem spelled_ok (b : Nat) (S : List Bytes) : (readP EC (SpelledL b S)).2 = 0 ↔ (readP EC S).2 = 0 := by
 rw [read_ok, read_ok]
 unfold SpelledL
 simp only [List.mem_reverse, List.mem_map, forall_exists_index, and_imp, forall_apply_eq_imp_iff₂, parse_spell]
theorem spelled_eq {b : Nat} {S : List Bytes} (h : (readP EC S).2 = 0) : (readP EC (SpelledL b S)).1 = (readP EC S).1.reverse := by
 rw [read_eq ((spelled_ok b S).2 h), read_eq h]
 unfold SpelledL
 rw [List.map_reverse, List.map_map]
 congr 1
 refine List.map_congr_left fun s _ => ?_
 simp only [Function.comp_apply, parse_spell]
theorem both_spelled (b : Nat) (l : List NearP) (R S : List Bytes) : (bothL EC l R (SpelledL b S)).2 = 0 ↔ (bothL EC l R S).2 = 0 := by
 constructor
 ·intro h
  obtain ⟨hv, h2, h3, h4, _⟩ := both_ok h
  have h5 := (spelled_ok b S).1 h3
  rw [spelled_eq h5, apart_rev] at h4
  rw [both_of hv h2 h5 h4]
 ·intro h
  obtain ⟨hv, h2, h3, h4, _⟩ := both_ok h
  rw [both_of hv h2 ((spelled_ok b S).2 h3) (by rw [spelled_eq h3, apart_rev]; exact h4)]
theorem perm_bad (b : Nat) (h : ¬ ((bestR EC l R S).2 = 0 ∨ (bestR EC l R S).2 = 8)) : ¬ ((bestR EC l R (SpelledL b S)).2 = 0 ∨ (bestR EC l R (SpelledL b S)).2 = 8) := by
 rw [best_code] at h ⊢
 rw [both_spelled]
 exact h
theorem perm_ok (b : Nat) (h : (bestR EC l R S).2 = 0 ∨ (bestR EC l R S).2 = 8) : (bestR EC l R (SpelledL b S)).2 = (bestR EC l R S).2 ∧ ((bestR EC l R S).2 = 0 → (bestR EC l R S).1 = (S.length : Int) - 1 - (bestR EC l R (SpelledL b S)).1) := by
 have h0 := best_code.1 h
 have h1 := (both_spelled b l R S).2 h0
 obtain ⟨hv, h2, h3, h4, h5⟩ := both_ok h0
 obtain ⟨_, _, _, _, g5⟩ := both_ok h1
 have hrev : bestL l (bothL EC l R (SpelledL b S)).1.1 (bothL EC l R (SpelledL b S)).1.2 = (bestL l (bothL EC l R S).1.1 (bothL EC l R S).1.2).map fun k => (bothL EC l R S).1.2.length - 1 - k := by
  rw [g5, h5]
  simp only
  rw [spelled_eq h3, bestL_rev]
 have hl := (both_len h0).2
 cases hb : bestL l (bothL EC l R S).1.1 (bothL EC l R S).1.2 with
 | none =>
   rw [hb] at hrev
   rw [bestR_none h0 hb, bestR_none h1 hrev]
   exact ⟨rfl, fun h => absurd h (by decide)⟩
 | some i =>
   rw [hb] at hrev
   have hi := bestL_lt hb
   rw [hl] at hi hrev
   rw [bestR_some h0 hb, bestR_some h1 hrev]
   refine ⟨rfl, fun _ => ?_⟩
   simp only
   omega
theorem orderR_len (l : List NearP) (r : Bytes) (S : List Bytes) : (orderR EC l r S).1.length ≤ S.length := by
 by_cases h : (bothL EC l [r] S).2 = 0
 ·obtain ⟨t, ht⟩ := both_one h
  rw [orderR_ok h ht]
  simp only
  rw [order_len, (both_len h).2]
  exact Nat.le_refl _
 ·rw [orderR_bad h]
  exact Nat.zero_le _
theorem more_best {m : Bytes} (hm : isP m = true) (h : (bestR EC l R S).2 = 0) : bestR EC l (R ++ [m]) S = bestR EC l R S := by
 have hc : (parseP EC m).2 = 0 := by
  unfold isP canP at hm
  simp only [Bool.and_eq_true, beq_iff_eq] at hm
  exact hm.1
 have h0 := best_code.1 (.inl h)
 obtain ⟨hv, h2, h3, h4, h5⟩ := both_ok h0
 have hra := read_app h2 hc
 have h0' : bothL EC l (R ++ [m]) S = (((readP EC (R ++ [m])).1, (readP EC S).1), 0) := both_of hv (by rw [hra]) h3 h4
 cases hb : bestL l (bothL EC l R S).1.1 (bothL EC l R S).1.2 with
 | none => rw [bestR_none h0 hb] at h; exact absurd h (by decide)
 | some i =>
   rw [bestR_some h0 hb]
   refine bestR_some (by rw [h0']) ?_
   rw [h0', hra]
   rw [h5] at hb
   exact bestL_app hb
theorem order_first {m : Bytes} (h : (bestR EC l [m] S).2 = 0) : (orderR EC l m S).2 = 0 ∧ (orderR EC l m S).1.length = S.length ∧ ∃ k r, (orderR EC l m S).1 = k :: r ∧ (bestR EC l [m] S).1 = ((k : Nat) : Int) := by
 have h0 := best_code.1 (.inl h)
 obtain ⟨t, ht⟩ := both_one h0
 obtain ⟨hv, h2, h3, h4, h5⟩ := both_ok h0
 have hap : apartT (bothL EC l [m] S).1.2 = true := by rw [h5]; exact h4
 rw [orderR_ok h0 ht]
 cases hb : bestL l (bothL EC l [m] S).1.1 (bothL EC l [m] S).1.2 with
 | none => rw [bestR_none h0 hb] at h; exact absurd h (by decide)
 | some i =>
   rw [bestR_some h0 hb]
   rw [ht, bestL_one] at hb
   have ho := order_best (apart_iff.1 hap) hb
   refine ⟨rfl, by simp only; rw [order_len, (both_len h0).2], ?_⟩
   cases hr : orderP l t (bothL EC l [m] S).1.2 with
   | nil => rw [hr] at ho; cases ho
   | cons a r =>
     rw [hr] at ho
     simp at ho
     subst ho
     exact ⟨a, r, rfl, rfl⟩
end Go.Proofs.YtljdlkonlnjadaaGreatDoor
namespace Go.Proofs.YtljdlkonlnjadaaGreatDoor
open Go.RowKit
theorem eq_pairs (a b c d : ByteArray) (w : World) : (Op.equalIn 10000 136 (.agg #[.string a, .string b]) (.agg #[.string c, .string d])).run Tryz.prog w = .ok (a.toList == c.toList && b.toList == d.toList) w := by
 have u3 := Tryz.underlying9
 have a3 := Tryz.isAgg9
 have z3 := Tryz.sizeOf9
 have hc : Tryz.prog.cellsOf 9 = 1 := by kernel_rfl
 obtain ⟨i, hi⟩ : ∃ i, Tryz.prog.info? 9 = some i := Option.isSome_iff_exists.1 (by kernel_rfl)
 rw [show (10000 : Nat) = 9999 + 1 from rfl, run_equalIn_array w 9999 _ _ Tryz.underlying136 hi, hc]
 simp only [show List.range 2 = [0, 1] from rfl, Op.eqItems]
 go_simp
 by_cases h1 : a.toList = c.toList <;> by_cases h2 : b.toList = d.toList <;> simp [h1, h2]
end Go.Proofs.YtljdlkonlnjadaaGreatDoor
namespace Go.Proofs.YtljdlkonlnjadaaGreatDoor
open Go.RowKit
theorem barr_ext {x y : ByteArray} (h : x.data.toList = y.data.toList) : x = y := ByteArray.ext (Array.toList_inj.1 h)
theorem mm_cases (a b : ByteArray) : (Lib.minS a b = a ∧ Lib.maxS a b = b) ∨ (Lib.minS a b = b ∧ Lib.maxS a b = a) := by
 unfold Lib.minS Lib.maxS
 by_cases h : a.data.toList < b.data.toList
 ·left; simp [h]
 ·by_cases h2 : a.data.toList = b.data.toList
  ·have := barr_ext h2; subst this; left; simp
  ·right; simp [h, h2]
theorem mm_comm (a b : ByteArray) : Lib.minS a b = Lib.minS b a ∧ Lib.maxS a b = Lib.maxS b a := by
 unfold Lib.minS Lib.maxS
 by_cases h : a.data.toList < b.data.toList
 ·have h2 : ¬ b.data.toList < a.data.toList := fun k => List.lt_irrefl _ (List.lt_trans h k)
  have h3 : ¬ b.data.toList = a.data.toList := fun k => by rw [k] at h; exact List.lt_irrefl _ h
  simp [h, h2, h3]
 ·by_cases h2 : a.data.toList = b.data.toList
  ·have := barr_ext h2; subst this; simp
  ·have h3 : b.data.toList < a.data.toList := by
    rcases List.le_total a.data.toList b.data.toList with k | k
    ·rcases List.le_iff_lt_or_eq.1 k with k | k
     ·exact absurd k h
     ·exact absurd k h2
    ·rcases List.le_iff_lt_or_eq.1 k with k | k
     ·exact k
     ·exact absurd k.symm h2
   simp [h, h2, h3]
theorem mm_pair (f o a b : ByteArray) : (Lib.minS f o = Lib.minS a b ∧ Lib.maxS f o = Lib.maxS a b) ↔ (f = a ∧ o = b) ∨ (f = b ∧ o = a) := by
 constructor
 ·rintro ⟨h1, h2⟩
  rcases mm_cases f o with ⟨k1, k2⟩ | ⟨k1, k2⟩ <;> rcases mm_cases a b with ⟨g1, g2⟩ | ⟨g1, g2⟩ <;> rw [k1, g1] at h1 <;> rw [k2, g2] at h2
  ·exact Or.inl ⟨h1, h2⟩
  ·exact Or.inr ⟨h1, h2⟩
  ·exact Or.inr ⟨h2, h1⟩
  ·exact Or.inl ⟨h2, h1⟩
 ·rintro (⟨rfl, rfl⟩ | ⟨rfl, rfl⟩)
  ·exact ⟨rfl, rfl⟩
  ·exact mm_comm _ _
set_option maxHeartbeats 1000000 in
theorem of_any (a b : ByteArray) (w : World) :
 Calls Tryz.prog 82 #[.string a, .string b] w fun e w' => e = .returned (.agg #[.string (Lib.minS a b), .string (Lib.maxS a b)]) ∧ Ext w w' := by
 have hmx : ∀ (w : World) (ts : Array TypeId) (t : TypeId) (x y : ByteArray), (Builtin.max_ ts t #[.string x, .string y]).run Tryz.prog w = .ok (.string (Lib.maxS x y)) w := Lib.run_max_strs
 have hmn : ∀ (w : World) (ts : Array TypeId) (t : TypeId) (x y : ByteArray), (Builtin.min_ ts t #[.string x, .string y]).run Tryz.prog w = .ok (.string (Lib.minS x y)) w := Lib.run_min_strs
 go_enter Tryz.func82, Tryz.ntmps82
 go_wp2
 refine bodyPost_ret (v := .agg #[.string (Lib.minS a b), .string (Lib.maxS a b)]) ?_ rfl ⟨rfl, (Ext.refl w).alloc _⟩
 exact results_cell_row rfl _ _ w.heap.size 136 _ (0, 0) _ rfl (heap_alloc_new w _) Tryz.underlying136 rfl (by kernel_rfl)
theorem pairB_mm (x : Nr) (a b : ByteArray) : pairB (nearOf x) a.data.toList b.data.toList = ((Lib.minS x.f x.o).toList == (Lib.minS a b).toList && (Lib.maxS x.f x.o).toList == (Lib.maxS a b).toList) := by
 have e : ∀ u v : ByteArray, (u.toList == v.toList) = decide (u = v) := fun u v => by
  by_cases h : u = v
  ·subst h; simp
  ·rw [bytes_ne h]; simp [h]
 have e2 : ∀ u v : ByteArray, (u.data.toList == v.data.toList) = decide (u = v) := fun u v => by rw [← e, ByteArray.toList_eq, ByteArray.toList_eq]
 unfold pairB nearOf
 simp only [e, e2]
 rw [Bool.eq_iff_iff]
 have := mm_pair x.f x.o a b
 simp only [Bool.or_eq_true, Bool.and_eq_true, decide_eq_true_eq]
 exact this.symm
set_option maxHeartbeats 1000000 in
theorem betw_any (l : List Nr) (A : Option Addr) (n c : Nat) (a b : ByteArray) (m : Int) (w : World) (hA : Nrs w A n l) (hn : n ≤ maxLen) :
 Calls Tryz.prog 112 #[.slice A n c, .string a, .string b, .int .i64 m] w fun e w' => e = .returned (.int .i64 (subtagP (l.map nearOf) a.data.toList b.data.toList m)) ∧ Ext w w' := by
 unfold maxLen at hn
 have L1 := hid hA.len
 have H1 := hid hA
 clear hA
 have HO := hid of_any
 by_cases hab : a = b
 ·subst hab
  rw [sub_same]
  have hb : (a.toList == a.toList) = true := by simp
  go_enter Tryz.func112, Tryz.ntmps112
  go_wp2
  go_ret
  exact ⟨rfl, Ext.refl _⟩
 ·have hab2 : ¬ a.data.toList = b.data.toList := fun h => hab (ByteArray.ext (Array.toList_inj.1 h))
  have hb := bytes_ne hab
  have HAB := hid hab2
  clear hab hab2
  go_enter Tryz.func112, Tryz.ntmps112
  go_wp2
  go_loopw [16] (SubInv l a.data.toList b.data.toList w n) (fun i _ => n - (intOf i).toNat)
  case atStart => exact ⟨0, Nat.zero_le _, rfl, Ext.refl _, by simp⟩
  case round =>
   obtain ⟨k, hk, rfl, hw, ht⟩ := hrel
   have HT := hid ht
   have HW := hid hw
   clear ht hw
   by_cases hlt : k < n
   ·obtain ⟨x, hx⟩ : ∃ x, l[k]? = some x := ⟨_, List.getElem?_eq_getElem (by have := L1.out; omega)⟩
    obtain ⟨b', o', rfl, hb', c0, c1, c2⟩ := (H1.out.ext HW.out).at_ hx
    have HXX := hid hx
    clear hx
    have hkI : (k : Int) < (n : Int) := by omega
    have HE := hid (pairB_mm x a b)
    cases h1 : ((Lib.minS x.f x.o).toList == (Lib.minS a b).toList) <;> cases h2 : ((Lib.maxS x.f x.o).toList == (Lib.maxS a b).toList)
    all_goals
     have HQ := hid (HE.out.trans (by rw [h1, h2]))
     have hep := fun W => eq_pairs (Lib.minS x.f x.o) (Lib.maxS x.f x.o) (Lib.minS a b) (Lib.maxS a b) W
     rw [h1, h2] at hep
     go_wp2_with fail
     refine (HO.out _ _ _).mono ?_
     rintro e w1 ⟨rfl, hw1⟩
     have HN := ((AtC.new wr #[.string x.f, .string x.o, .int .i64 x.c] : AtC 106 _ _ _)).ext hw1
     have HW1 := hid ((HW.out.alloc _).trans hw1)
     clear hw1 c0 c1 c2
     go_wp2_with fail
     refine (HO.out _ _ _).mono ?_
     rintro e w2 ⟨rfl, hw2⟩
     have d2 := (HN.ext hw2).cell 2 _ rfl
     have HW2 := hid (HW1.out.trans hw2)
     clear hw2 HN
     go_wp2
     first
     | exact ⟨⟨k + 1, by omega, by go_num, HW2.out, nall_step HXX.out HT.out (by rw [HQ.out]; rfl)⟩, by simp [intOf]; omega⟩
     | all_goals go_ret
       exact ⟨by rw [sub_found HAB.out (find_at (q := fun x => pairB x a.data.toList b.data.toList) HXX.out HT.out HQ.out)]; rfl, HW2.out⟩
   ·go_wp2
    go_ret
    exact ⟨by rw [sub_none HAB.out (find_no (q := fun x => pairB x a.data.toList b.data.toList) (by have := L1.out; omega) HT.out)]; rfl, HW.out⟩
end Go.Proofs.YtljdlkonlnjadaaGreatDoor
namespace Go.Proofs.YtljdlkonlnjadaaGreatDoor
open Go.RowKit
set_option maxHeartbeats 1000000 in
theorem tdist_any (l : List Nr) (L : Option Addr) (ln lc : Nat) (t u : TagP) (A B : Option Addr) (n c m d : Nat) (w : World) (hL : Nrs w L ln l) (hln : ln ≤ maxLen) (hl : ∀ x ∈ l, 1 ≤ x.c ∧ x.c ≤ 99) (hA : Sl w A n (t.vars.map strv)) (hB : Sl w B m (u.vars.map strv)) (hn : n ≤ 60000) (hm : m ≤ 60000) :
 Calls Tryz.prog 87 #[.slice L ln lc, tagV t A n c, tagV u B m d] w fun e w' => e = .returned (.int .i64 (distP (l.map nearOf) t u)) ∧ Ext w w' := by
 obtain ⟨tl, ht1, ht2⟩ := strv_b t.lang
 obtain ⟨ts, hs1, hs2⟩ := strv_b t.script
 obtain ⟨tr, hr1, hr2⟩ := strv_b t.region
 obtain ⟨ul, ht3, ht4⟩ := strv_b u.lang
 obtain ⟨us, hs3, hs4⟩ := strv_b u.script
 obtain ⟨ur, hr3, hr4⟩ := strv_b u.region
 have hw0 : Ext w ((w.alloc (.cells #[.string tl, .string ts, .string tr, .slice A n c] 143)).alloc (.cells #[.string ul, .string us, .string ur, .slice B m d] 143)) := ((Ext.refl w).alloc _).alloc _
 have HB1 := (AtC.new w _ : AtC 143 _ _ #[.string tl, .string ts, .string tr, .slice A n c]).alloc (.cells #[.string ul, .string us, .string ur, .slice B m d] 143)
 have HB2 := (AtC.new (w.alloc (.cells #[.string tl, .string ts, .string tr, .slice A n c] 143)) _ : AtC 143 _ _ #[.string ul, .string us, .string ur, .slice B m d])
 rw [show (w.alloc (.cells #[.string tl, .string ts, .string tr, .slice A n c] 143)).heap.size = w.heap.size + 1 from by simp] at HB2
 have hd : distP (l.map nearOf) t u = subtagP (l.map nearOf) tl.data.toList ul.data.toList 100 + subtagP (l.map nearOf) ts.data.toList us.data.toList 50 + subtagP (l.map nearOf) tr.data.toList ur.data.toList 5 + (if (t.vars == u.vars) = true then 0 else 1) := by
  unfold distP
  rw [ht2, hs2, hr2, ht4, hs4, hr4]
  simp
 rw [hd]
 unfold tagV
 rw [ht1, hs1, hr1, ht3, hs3, hr3]
 have G1 := fun W (y : ExtW W) (hy : Ext w W) => betw_any l L ln lc tl ul 100 y.v (hL.ext (hy.trans y.h)) hln
 have G2 := fun W (y : ExtW W) (hy : Ext w W) => betw_any l L ln lc ts us 50 y.v (hL.ext (hy.trans y.h)) hln
 have G3 := fun W (y : ExtW W) (hy : Ext w W) => betw_any l L ln lc tr ur 5 y.v (hL.ext (hy.trans y.h)) hln
 have G4 := fun W (hy : Ext w W) => sleq_any _ _ _ _ _ _ c d W (hA.ext hy) (hB.ext hy) (by omega) (by omega)
 obtain ⟨k1, k2⟩ := dist_parts l hl tl.data.toList ul.data.toList 100 (by decide) (by decide)
 obtain ⟨k3, k4⟩ := dist_parts l hl ts.data.toList us.data.toList 50 (by decide) (by decide)
 obtain ⟨k5, k6⟩ := dist_parts l hl tr.data.toList ur.data.toList 5 (by decide) (by decide)
 generalize subtagP (l.map nearOf) tl.data.toList ul.data.toList 100 = d1 at *
 generalize subtagP (l.map nearOf) ts.data.toList us.data.toList 50 = d2 at *
 generalize subtagP (l.map nearOf) tr.data.toList ur.data.toList 5 = d3 at *
 generalize (t.vars == u.vars) = bv at *
 have q0 : IntKind.i64.wrap (d1 + d2) = d1 + d2 := IntWalk.i64_in _ (by omega)
 have q1 : IntKind.i64.wrap (d1 + d2 + d3) = d1 + d2 + d3 := IntWalk.i64_in _ (by omega)
 have q2 : IntKind.i64.wrap (d1 + d2 + d3 + 1) = d1 + d2 + d3 + 1 := IntWalk.i64_in _ (by omega)
 have b0 : ∀ y : ExtW _, y.v.cell? ⟨w.heap.size, 0, none⟩ = some (.string tl) := fun y => (HB1.ext y.h).cell 0 _ rfl
 have b1 : ∀ y : ExtW _, y.v.cell? ⟨w.heap.size, 1, none⟩ = some (.string ts) := fun y => (HB1.ext y.h).cell 1 _ rfl
 have b2 : ∀ y : ExtW _, y.v.cell? ⟨w.heap.size, 2, none⟩ = some (.string tr) := fun y => (HB1.ext y.h).cell 2 _ rfl
 have c0 : ∀ y : ExtW _, y.v.cell? ⟨w.heap.size + 1, 0, none⟩ = some (.string ul) := fun y => (HB2.ext y.h).cell 0 _ rfl
 have c1 : ∀ y : ExtW _, y.v.cell? ⟨w.heap.size + 1, 1, none⟩ = some (.string us) := fun y => (HB2.ext y.h).cell 1 _ rfl
 have c2 : ∀ y : ExtW _, y.v.cell? ⟨w.heap.size + 1, 2, none⟩ = some (.string ur) := fun y => (HB2.ext y.h).cell 2 _ rfl
 have K1 := hid (fun y => G1 _ y hw0)
 have K2 := hid (fun y => G2 _ y hw0)
 have K3 := hid (fun y => G3 _ y hw0)
 have K4 := hid G4
 have B1 := hid HB1
 have B2 := hid HB2
 have H0 := hid hw0
 clear G1 G2 G3 G4 HB1 HB2 hw0 ht1 hs1 hr1 ht2 hs2 hr2 ht3 hs3 hr3 ht4 hs4 hr4 hd hL hA hB hl hln hn hm k1 k2 k3 k4 k5 k6
 cases bv with
 | true =>
   go_enter Tryz.func87, Tryz.ntmps87
   go_wp2_with fail
   refine wp_region_ext (by kernel_rfl) (by kernel_rfl) ?_
   repeat (go_big_quiet_step ((go_at_call 112; with_reducible first | exact ExtW.call (K1.out _) | exact ExtW.call (K2.out _) | exact ExtW.call (K3.out _))))
   refine wpQuiet_nil ?_
   intro wx hx
   have hxx := ext_of hx
   clear hx b0 b1 b2 c0 c1 c2
   have r1 := (B1.out.ext hxx).cell 3 _ rfl
   have r2 := (B2.out.ext hxx).cell 3 _ rfl
   have HX := hid (H0.out.trans hxx)
   clear hxx
   go_wp2_with fail
   refine (K4.out _ HX.out).mono ?_
   rintro e w1 ⟨rfl, hw1⟩
   go_wp2
   go_ret
   exact ⟨by simp, HX.out.trans hw1⟩
 | false =>
   go_enter Tryz.func87, Tryz.ntmps87
   go_wp2_with fail
   refine wp_region_ext (by kernel_rfl) (by kernel_rfl) ?_
   repeat (go_big_quiet_step ((go_at_call 112; with_reducible first | exact ExtW.call (K1.out _) | exact ExtW.call (K2.out _) | exact ExtW.call (K3.out _))))
   refine wpQuiet_nil ?_
   intro wx hx
   have hxx := ext_of hx
   clear hx b0 b1 b2 c0 c1 c2
   have r1 := (B1.out.ext hxx).cell 3 _ rfl
   have r2 := (B2.out.ext hxx).cell 3 _ rfl
   have HX := hid (H0.out.trans hxx)
   clear hxx
   go_wp2_with fail
   refine (K4.out _ HX.out).mono ?_
   rintro e w1 ⟨rfl, hw1⟩
   go_wp2
   go_ret
   exact ⟨by simp, HX.out.trans hw1⟩
end Go.Proofs.YtljdlkonlnjadaaGreatDoor
namespace Go.Proofs.YtljdlkonlnjadaaGreatDoor
open Go.RowKit
structure TV where
 t : TagP
 A : Option Addr
 n : Nat
 c : Nat
def tvC (x : TV) : List Value := [strv x.t.lang, strv x.t.script, strv x.t.region, .slice x.A x.n x.c]
def TvOk (w : World) (x : TV) : Prop := Sl w x.A x.n (x.t.vars.map strv)
theorem TvOk.ext {w w' : World} {x : TV} (h : TvOk w x) (hw : Ext w w') : TvOk w' x := Sl.ext h hw
theorem TvOk.kept {w w' : World} {x : TV} {row : Option Nat} (h : TvOk w x) (hk : Kept row w w') (hA : ∀ ad, x.A = some ad → some ad.block ≠ row) : TvOk w' x := Sl.kept h hk hA
def Tgs (w : World) (A : Option Addr) (n : Nat) (xs : List TV) : Prop := SlN w A n 4 (xs.flatMap tvC) ∧ ∀ x ∈ xs, TvOk w x
theorem Tgs.ext {w w' : World} {A : Option Addr} {n : Nat} {xs : List TV} (h : Tgs w A n xs) (hw : Ext w w') : Tgs w' A n xs := ⟨h.1.ext hw, fun x hx => (h.2 x hx).ext hw⟩
theorem Tgs.len {w : World} {A : Option Addr} {n : Nat} {xs : List TV} (h : Tgs w A n xs) : xs.length = n := by
 have h1 := h.1.1
 rw [flat_len tvC 4 (fun _ => rfl)] at h1
 omega
theorem Tgs.at_ {w : World} {A : Option Addr} {n : Nat} {xs : List TV} (h : Tgs w A n xs) {k : Nat} {x : TV} (hx : xs[k]? = some x) :
 ∃ b o, A = some ⟨b, o, none⟩ ∧ b < w.heap.size ∧ w.cell? ⟨b, o + k * 4, none⟩ = some (strv x.t.lang) ∧ w.cell? ⟨b, o + k * 4 + 1, none⟩ = some (strv x.t.script) ∧ w.cell? ⟨b, o + k * 4 + 2, none⟩ = some (strv x.t.region) ∧ w.cell? ⟨b, o + k * 4 + 3, none⟩ = some (.slice x.A x.n x.c) := by
 have g0 := flat_get tvC 4 (fun _ => rfl) xs k 0 x hx (by omega)
 obtain ⟨b, o, rfl, hb, h0⟩ := h.1.2 _ _ g0
 have key : ∀ j u, (tvC x)[j]? = some u → w.cell? ⟨b, o + k * 4 + j, none⟩ = some u := by
  intro j u hu
  have hj : j < 4 := (List.getElem?_eq_some_iff.1 hu).1
  have g1 := flat_get tvC 4 (fun _ => rfl) xs k j x hx hj
  rw [hu] at g1
  obtain ⟨b', o', e, _, h1⟩ := h.1.2 _ _ g1
  injection e with e
  injection e with e1 e2 _
  subst e1; subst e2
  rw [Nat.add_assoc]
  exact h1
 exact ⟨b, o, rfl, hb, key 0 _ rfl, key 1 _ rfl, key 2 _ rfl, key 3 _ rfl⟩
theorem Tgs.ok {w : World} {A : Option Addr} {n : Nat} {xs : List TV} (h : Tgs w A n xs) {k : Nat} {x : TV} (hx : xs[k]? = some x) : TvOk w x := h.2 x (List.mem_of_getElem? hx)
theorem Tgs.nil (w : World) (A : Option Addr) : Tgs w A 0 [] := ⟨SlN.nil _ _ _, fun x hx => by cases hx⟩
theorem read_stop : ∀ {l : List (List UInt8)} {k : Nat} {s : List UInt8}, l[k]? = some s → (readP EC (l.take k)).2 = 0 → (parseP EC s).2 ≠ 0 → readP EC l = ([], (parseP EC s).2)
 | [], k, s, h, _, _ => by simp at h
 | x :: r, 0, s, h, _, hb => by
   simp at h
   subst h
   rw [read_cons, if_neg hb]
 | x :: r, k + 1, s, h, h0, hb => by
   rw [List.getElem?_cons_succ] at h
   rw [List.take_succ_cons] at h0
   have h1 := read_ok.1 h0
   have ih := read_stop h (read_ok.2 fun y hy => h1 y (by simp [hy])) hb
   rw [read_cons, if_pos (h1 x (by simp)), ih]
   simp only
   rw [if_neg hb]
def RetTags (w : World) (l : List (List UInt8)) (e : Ending) (w' : World) : Prop :=
 ∃ A n c xs, e = .returned (.tuple #[.slice A n c, .int .i64 (readP EC l).2]) ∧ Tgs w' A n xs ∧ xs.map (·.t) = (readP EC l).1 ∧ Ext w w'
def dl (l : List ByteArray) : List (List UInt8) := l.map fun b => b.data.toList
def TagsInv (T : TypeId) (w : World) (l : List (List UInt8)) (n : Nat) (out i : Value) (wr : World) : Prop :=
 ∃ (k : Nat) (xs : List TV), k ≤ n ∧ i = .int .i64 k ∧ wr.ownsRow w.heap.size T 4 out k (xs.flatMap tvC) ∧ (∀ x ∈ xs, ∀ W0, Kept out.ownBlock wr W0 → TvOk W0 x) ∧ readP EC (l.take k) = (xs.map (·.t), 0) ∧ Ext w wr
theorem Sl.two (w : World) (u v : Value) (t : TypeId) : Sl (w.alloc (.cells #[u, v] t)) (some ⟨w.heap.size, 0, none⟩) 2 [u, v] :=
 ⟨rfl, fun j x hx => by
  have hj : j < 2 := (List.getElem?_eq_some_iff.1 hx).1
  refine ⟨_, rfl, by simp, ?_⟩
  rw [add_flat, Nat.zero_add, cell_of_row _ w.heap.size j #[u, v] t (0, 0) (heap_alloc_new w _)]
  rw [← Array.getElem?_toList]
  exact hx⟩
theorem Tgs.cells {w : World} {b o n : Nat} {xs : List TV} (h : Tgs w (some ⟨b, o, none⟩) n xs) {k : Nat} {x : TV} (hx : xs[k]? = some x) (W : World) (hw : Ext w W) :
 W.cell? ⟨b, o + k * 4, none⟩ = some (strv x.t.lang) ∧ W.cell? ⟨b, o + k * 4 + 1, none⟩ = some (strv x.t.script) ∧ W.cell? ⟨b, o + k * 4 + 2, none⟩ = some (strv x.t.region) ∧ W.cell? ⟨b, o + k * 4 + 3, none⟩ = some (.slice x.A x.n x.c) := by
 obtain ⟨b', o', e, _, h0⟩ := (h.ext hw).at_ hx
 injection e with e
 injection e with e1 e2 _
 subst e1; subst e2
 exact h0
theorem Tgs.some_ {w : World} {A : Option Addr} {n : Nat} {xs : List TV} (h : Tgs w A n xs) {k : Nat} {x : TV} (hx : xs[k]? = some x) : ∃ b o, A = some ⟨b, o, none⟩ := by
 obtain ⟨b, o, e, _⟩ := h.at_ hx
 exact ⟨b, o, e⟩
end Go.Proofs.YtljdlkonlnjadaaGreatDoor
namespace Go.Proofs.YtljdlkonlnjadaaGreatDoor
open Go.RowKit
def GoodT (t : TagP) : Prop := TL t ∧ txtOf t = textP t ∧ validP t = true
theorem good_parse {s : List UInt8} (h : (parseP EC s).2 = 0) : GoodT (parseP EC s).1 := by
 have hv := parse_ok h
 refine ⟨TL_of hv, ?_, hv⟩
 unfold txtOf
 rw [if_pos hv]
theorem read_good {l : List (List UInt8)} {t : TagP} (h : t ∈ (readP EC l).1) : GoodT t := by
 by_cases h0 : (readP EC l).2 = 0
 ·rw [read_eq h0] at h
  obtain ⟨s, hs, rfl⟩ := List.mem_map.1 h
  exact good_parse (read_ok.1 h0 s hs)
 ·rw [read_bad h0] at h
  cases h
def RetBoth (w : World) (l : List NearP) (R S : List (List UInt8)) (e : Ending) (w' : World) : Prop :=
 ∃ A n c xs B m d ys, e = .returned (.tuple #[.slice A n c, .slice B m d, .int .i64 (bothL EC l R S).2]) ∧ Tgs w' A n xs ∧ Tgs w' B m ys ∧ xs.map (·.t) = (bothL EC l R S).1.1 ∧ ys.map (·.t) = (bothL EC l R S).1.2 ∧ Ext w w'
theorem both_none {w w' : World} {l : List NearP} {R S : List (List UInt8)} {code : Int} (h : bothL EC l R S = (([], []), code)) (hw : Ext w w') : RetBoth w l R S (.returned (.tuple #[.slice none 0 0, .slice none 0 0, .int .i64 code])) w' :=
 ⟨none, 0, 0, [], none, 0, 0, [], by rw [h], Tgs.nil _ _, Tgs.nil _ _, by rw [h]; rfl, by rw [h]; rfl, hw⟩
def TV.l (x : TV) : ByteArray := ⟨x.t.lang.toArray⟩
def TV.s (x : TV) : ByteArray := ⟨x.t.script.toArray⟩
def TV.r (x : TV) : ByteArray := ⟨x.t.region.toArray⟩
theorem Tgs.c0 {w : World} {b o n : Nat} {xs : List TV} (h : Tgs w (some ⟨b, o, none⟩) n xs) {k : Nat} {x : TV} (hx : xs[k]? = some x) (W : World) (hw : Ext w W) : W.cell? ⟨b, o + k * 4, none⟩ = some (.string x.l) := (h.cells hx W hw).1
theorem Tgs.c1 {w : World} {b o n : Nat} {xs : List TV} (h : Tgs w (some ⟨b, o, none⟩) n xs) {k : Nat} {x : TV} (hx : xs[k]? = some x) (W : World) (hw : Ext w W) : W.cell? ⟨b, o + k * 4 + 1, none⟩ = some (.string x.s) := (h.cells hx W hw).2.1
theorem Tgs.c2 {w : World} {b o n : Nat} {xs : List TV} (h : Tgs w (some ⟨b, o, none⟩) n xs) {k : Nat} {x : TV} (hx : xs[k]? = some x) (W : World) (hw : Ext w W) : W.cell? ⟨b, o + k * 4 + 2, none⟩ = some (.string x.r) := (h.cells hx W hw).2.2.1
theorem Tgs.c3 {w : World} {b o n : Nat} {xs : List TV} (h : Tgs w (some ⟨b, o, none⟩) n xs) {k : Nat} {x : TV} (hx : xs[k]? = some x) (W : World) (hw : Ext w W) : W.cell? ⟨b, o + k * 4 + 3, none⟩ = some (.slice x.A x.n x.c) := (h.cells hx W hw).2.2.2
def GoodV (w : World) (x : TV) : Prop := GoodT x.t ∧ TvOk w x
theorem GoodV.ext {w w' : World} {x : TV} (h : GoodV w x) (hw : Ext w w') : GoodV w' x := ⟨h.1, h.2.ext hw⟩
theorem GoodV.n {w : World} {x : TV} (h : GoodV w x) : x.n ≤ 60000 := n_le h.2 h.1.1
theorem both_good {l : List NearP} {R S : List (List UInt8)} {t : TagP} (h : (bothL EC l R S).2 = 0) (ht : t ∈ (bothL EC l R S).1.1 ∨ t ∈ (bothL EC l R S).1.2) : GoodT t := by
 obtain ⟨_, _, _, _, h5⟩ := both_ok h
 rw [h5] at ht
 rcases ht with ht | ht <;> exact read_good ht
theorem costs_of {l : List Nr} (h : validN (l.map nearOf) = true) : ∀ z ∈ l, 1 ≤ z.c ∧ z.c ≤ 99 := fun z hz => valid_costs h (nearOf z) (List.mem_map.2 ⟨z, hz, rfl⟩)
theorem at_tv {ys : List TV} {k : Nat} {x : TV} (h : ys[k]? = some x) : atP (ys.map (·.t)) k = x.t := at_get (by rw [List.getElem?_map, h]; rfl)
theorem map_tv {ys : List TV} {k : Nat} {x : TV} (h : ys[k]? = some x) : (ys.map (·.t))[k]? = some x.t := by rw [List.getElem?_map, h]; rfl
end Go.Proofs.YtljdlkonlnjadaaGreatDoor
namespace Go.Proofs.YtljdlkonlnjadaaGreatDoor
open Go.RowKit
section
variable (l : List Nr) (L : Option Addr) (ln lc : Nat) (w : World) (hL : Nrs w L ln l) (hln : ln ≤ maxLen) (hl : ∀ x ∈ l, 1 ≤ x.c ∧ x.c ≤ 99)
include hL hln hl
theorem tdist_tv (x y : TV) (hx : GoodV w x) (hy : GoodV w y) :
 Calls Tryz.prog 87 #[.slice L ln lc, .agg #[.string x.l, .string x.s, .string x.r, .slice x.A x.n x.c], .agg #[.string y.l, .string y.s, .string y.r, .slice y.A y.n y.c]] w fun e w' => e = .returned (.int .i64 (distP (l.map nearOf) x.t y.t)) ∧ Ext w w' :=
 tdist_any l L ln lc x.t y.t x.A y.A x.n x.c y.n y.c w hL hln hl hx.2 hy.2 hx.n hy.n
end
def TV.x (x : TV) : ByteArray := ⟨(textP x.t).toArray⟩
theorem TV.x_data (x : TV) : x.x.data.toList = textP x.t := by unfold TV.x; simp
theorem ttext_tv (x : TV) (w : World) (hx : GoodV w x) :
 Calls Tryz.prog 106 #[.agg #[.string x.l, .string x.s, .string x.r, .slice x.A x.n x.c]] w fun e w' => e = .returned (.string x.x) ∧ Ext w w' := by
 have h := tText_any x.t x.A x.n x.c w hx.2 hx.1.1
 rw [hx.1.2.1] at h
 exact h
set_option maxHeartbeats 4000000 in
theorem clo_any (l : List Nr) (L : Option Addr) (ln lc : Nat) (x : TV) (ys : List TV) (B : Option Addr) (m d g1 g2 g3 : Nat) (w : World) (hL : Nrs w L ln l) (hln : ln ≤ maxLen) (hl : ∀ x ∈ l, 1 ≤ x.c ∧ x.c ≤ 99)
 (hx : GoodV w x) (hY : Tgs w B m ys) (hg : ∀ y ∈ ys, GoodV w y) (T1 T2 T3 : TypeId) (h1 : AtC T1 w g1 #[.slice L ln lc]) (h2 : AtC T2 w g2 #[.string x.l, .string x.s, .string x.r, .slice x.A x.n x.c]) (h3 : AtC T3 w g3 #[.slice B m d])
 (i j : Nat) (hi : i < m) (hj : j < m) :
 Calls Tryz.prog 110 #[.int .i64 i, .int .i64 j, .pointer (some ⟨g1, 0, none⟩), .pointer (some ⟨g2, 0, none⟩), .pointer (some ⟨g3, 0, none⟩)] w fun e w' => e = .returned (.int .i64 (cfP (l.map nearOf) x.t (ys.map (·.t)) i j)) ∧ Ext w w' := by
 have hyl := hY.len
 obtain ⟨y, hy⟩ : ∃ y, ys[i]? = some y := ⟨_, List.getElem?_eq_getElem (by omega)⟩
 obtain ⟨z, hz⟩ : ∃ z, ys[j]? = some z := ⟨_, List.getElem?_eq_getElem (by omega)⟩
 obtain ⟨b, o, rfl⟩ := hY.some_ hy
 have gy := hg y (List.mem_of_getElem? hy)
 have gz := hg z (List.mem_of_getElem? hz)
 have hcf : cfP (l.map nearOf) x.t (ys.map (·.t)) i j = if cmpI (distP (l.map nearOf) x.t y.t) (distP (l.map nearOf) x.t z.t) = 0 then cmpS y.x.data.toList z.x.data.toList else cmpI (distP (l.map nearOf) x.t y.t) (distP (l.map nearOf) x.t z.t) := by
  unfold cfP
  rw [at_tv hy, at_tv hz, TV.x_data, TV.x_data]
 rw [hcf]
 have K1 := hid (fun (v : ExtW w) => tdist_tv l L ln lc v.v (hL.ext v.h) hln hl x y (hx.ext v.h) (gy.ext v.h))
 have K2 := hid (fun (v : ExtW w) => tdist_tv l L ln lc v.v (hL.ext v.h) hln hl x z (hx.ext v.h) (gz.ext v.h))
 have K3 := hid (fun (v : ExtW w) => ttext_tv y v.v (gy.ext v.h))
 have K4 := hid (fun (v : ExtW w) => ttext_tv z v.v (gz.ext v.h))
 have a0 := fun (v : ExtW w) => (h1.ext v.h).cell 0 _ rfl
 have b0 := fun (v : ExtW w) => (h2.ext v.h).cell 0 _ rfl
 have b1 := fun (v : ExtW w) => (h2.ext v.h).cell 1 _ rfl
 have b2 := fun (v : ExtW w) => (h2.ext v.h).cell 2 _ rfl
 have b3 := fun (v : ExtW w) => (h2.ext v.h).cell 3 _ rfl
 have c0 := fun (v : ExtW w) => (h3.ext v.h).cell 0 _ rfl
 have d0 := fun (v : ExtW w) => hY.c0 hy v.v v.h
 have d1 := fun (v : ExtW w) => hY.c1 hy v.v v.h
 have d2 := fun (v : ExtW w) => hY.c2 hy v.v v.h
 have d3 := fun (v : ExtW w) => hY.c3 hy v.v v.h
 have e0 := fun (v : ExtW w) => hY.c0 hz v.v v.h
 have e1 := fun (v : ExtW w) => hY.c1 hz v.v v.h
 have e2 := fun (v : ExtW w) => hY.c2 hz v.v v.h
 have e3 := fun (v : ExtW w) => hY.c3 hz v.v v.h
 have hiI : (i : Int) < (m : Int) := by omega
 have hjI : (j : Int) < (m : Int) := by omega
 clear hL hln hl hx hY hg h1 h2 h3 hy hz gy gz hcf
 generalize distP (l.map nearOf) x.t y.t = D1 at *
 generalize distP (l.map nearOf) x.t z.t = D2 at *
 have K5 := hid (fun (v : ExtW w) => cmpI_any D1 D2 v.v)
 have K6 := hid (fun (v : ExtW w) => cmpS_any y.x z.x v.v)
 generalize cmpI D1 D2 = r1 at *
 generalize cmpS y.x.data.toList z.x.data.toList = r2 at *
 have KR := fun (g c : Nat) (W : World) => or2_any r1 r2 g c W
 generalize (if r1 = 0 then r2 else r1) = R at *
 go_enter Tryz.func110, Tryz.ntmps110
 go_wp2_with fail
 refine wp_ext_tail 26 (by kernel_rfl) (by kernel_rfl) ?_
 simp only [List.take_succ_cons, List.take_zero, List.drop_succ_cons, List.drop_zero]
 repeat (go_big_quiet_step (first
  | (go_at_call 87; with_reducible first | exact ExtW.call (K1.out _) | exact ExtW.call (K2.out _))
  | (go_at_call 106; with_reducible first | exact ExtW.call (K3.out _) | exact ExtW.call (K4.out _))
  | (go_at_call 111; with_reducible exact ExtW.same (K5.out _))
  | (go_at_call 33; with_reducible exact ExtW.same (K6.out _))))
 refine wpQuiet_nil ?_
 intro wx hx
 have HX := hid (ext_of hx)
 clear hx a0 b0 b1 b2 b3 c0 d0 d1 d2 d3 e0 e1 e2 e3
 have c0 := (AtC.new wx #[.int .i64 r1, .int .i64 r2] : AtC 3 _ _ _).cell 0 _ rfl
 have c1 := (AtC.new wx #[.int .i64 r1, .int .i64 r2] : AtC 3 _ _ _).cell 1 _ rfl
 have KO := hid (KR wx.heap.size 2 _ c0 c1)
 go_wp2_with (go_at_call 39; refine KO.out.mono ?_; rintro e w2 ⟨rfl, rfl⟩)
 go_ret
 exact ⟨rfl, HX.out.alloc _⟩
end Go.Proofs.YtljdlkonlnjadaaGreatDoor
namespace Go.Proofs.YtljdlkonlnjadaaGreatDoor
open Go.RowKit Go.Sort Go.Shelf
theorem ext_growR {a w : World} (h : Ext a w) (os : Array Obj) : Ext a (grow w os) := by
 have h0 : Below a.heap.size a w := h
 refine ⟨h0.os, h0.tape, h0.output, Nat.le_trans h0.size (by simp [grow]), fun k hk => ?_⟩
 rw [heap_grow_old _ _ (Nat.lt_of_lt_of_le hk h0.size)]
 exact h0.block k hk
theorem ext_sortR {α : Type} [Inhabited α] {enc : α → Value} {a w : World} {g : Nat} (h : Ext a w) (hg : a.heap.size ≤ g) (n : Nat) (d : Array α) (os : Array Obj) : Ext a (sortWorld enc w g 0 n d os) := by
 unfold sortWorld
 exact ext_growR (Lib.below_putRow h hg) os
def encF {n : Nat} (i : Fin n) : Value := .int .i64 (i.val : Int)
theorem encF_idxs (n : Nat) : (idxs n).map encF = (List.range n).map natV := by
 rw [← idxs_val n, List.map_map]
 rfl
def cfF (l : List NearP) (t : TagP) (S : List TagP) (i j : Fin S.length) : Int := cfP l t S i.val j.val
theorem lt_F (l : List NearP) (t : TagP) (S : List TagP) (i j : Fin S.length) : ltOf (cfF l t S) i j = ltB l t (atP S i.val) (atP S j.val) := cf_lt l t S i.val j.val
theorem swoF (l : List NearP) (t : TagP) (S : List TagP) : SWO (ltOf (cfF l t S)) where
 irrefl x := by rw [lt_F]; exact lt_irr _ _ _
 trans x y z h1 h2 := by rw [lt_F] at *; exact lt_tr h1 h2
 ntrans x y z h1 h2 := by rw [lt_F] at *; exact nlt_tr h2 h1
theorem totF {l : List NearP} {t : TagP} {S : List TagP} (hS : apartT S = true) (x y : Fin S.length) (h1 : ltOf (cfF l t S) x y = false) (h2 : ltOf (cfF l t S) y x = false) : x = y := by
 rw [lt_F] at *
 refine Fin.ext (apart_iff.1 hS x.val y.val x.isLt y.isLt ?_)
 refine Classical.byContradiction fun hn => ?_
 rw [lt_of_ne h2 hn] at h1
 cases h1
set_option maxHeartbeats 4000000 in
theorem srt_any (l : List Nr) (L : Option Addr) (ln lc : Nat) (x : TV) (ys : List TV) (B : Option Addr) (m d g1 g2 g3 : Nat) (W0 w : World) (hL : Nrs W0 L ln l) (hln : ln ≤ maxLen) (hl : ∀ x ∈ l, 1 ≤ x.c ∧ x.c ≤ 99)
 (hx : GoodV W0 x) (hY : Tgs W0 B m ys) (hg : ∀ y ∈ ys, GoodV W0 y) (T1 T2 T3 : TypeId) (h1 : AtC T1 W0 g1 #[.slice L ln lc]) (h2 : AtC T2 W0 g2 #[.string x.l, .string x.s, .string x.r, .slice x.A x.n x.c]) (h3 : AtC T3 W0 g3 #[.slice B m d])
 (hap : apartT (ys.map (·.t)) = true) (hm : m ≤ 100000) (hw : Ext W0 w) (v : Value) (hown : w.ownsRow W0.heap.size 3 1 v m ((List.range m).map natV)) :
 Calls Tryz.prog 109 #[v, .func (.func 110) #[] #[.pointer (some ⟨g1, 0, none⟩), .pointer (some ⟨g2, 0, none⟩), .pointer (some ⟨g3, 0, none⟩)]] w
  fun e w' => e = .returned (.tuple #[]) ∧ w'.ownsRow W0.heap.size 3 1 v m ((orderP (l.map nearOf) x.t (ys.map (·.t))).map natV) ∧ Ext W0 w' := by
 have hyl := hY.len
 by_cases hm0 : m = 0
 ·subst hm0
  obtain ⟨A, c, rfl, _, _⟩ := own_sl hown
  have hys : ys = [] := List.eq_nil_of_length_eq_zero hyl
  subst hys
  have hS := AnyF.slices_SortFunc_none (P := Tryz.prog) (ρ := Tryz.sf_ren) { Tryz.sf with } A c (.func (.func 110) #[] #[.pointer (some ⟨g1, 0, none⟩), .pointer (some ⟨g2, 0, none⟩), .pointer (some ⟨g3, 0, none⟩)]) w
  change Calls Tryz.prog 109 _ _ _ at hS
  refine hS.mono ?_
  rintro e w' ⟨rfl, rfl⟩
  exact ⟨rfl, by simpa [orderP] using hown, hw⟩
 ·have hSl : (ys.map (·.t)).length = m := by simpa using hyl
  have hi : Inhabited (Fin (ys.map (·.t)).length) := ⟨⟨0, by omega⟩⟩
  have hnn : v ≠ .slice none 0 0 := by
   obtain ⟨g, cap, rfl, _⟩ := own_some hown (by omega)
   intro h
   injection h with h
   cases h
  have hown2 : w.ownsRow W0.heap.size 3 1 v m ((idxs (ys.map (·.t)).length).map encF) := by rw [encF_idxs, hSl]; exact hown
  obtain ⟨g, cap, rfl, hbase, hlt, hnc, hcm, hzl, hH⟩ := Lib.holds_of_ownsRow hown2 hnn
  have hcmp : CmpLays1 Tryz.prog 110 #[.pointer (some ⟨g1, 0, none⟩), .pointer (some ⟨g2, 0, none⟩), .pointer (some ⟨g3, 0, none⟩)] encF (cfF (l.map nearOf) x.t (ys.map (·.t))) g 0 (idxs (ys.map (·.t)).length).toArray.size w := by
   intro mm os dk hs i j
   have hE : Ext W0 (sortWorld encF w g 0 mm dk os) := ext_sortR hw hbase mm dk os
   exact calls_grow (clo_any l L ln lc x ys B m d g1 g2 g3 _ (hL.ext hE) hln hl (hx.ext hE) (hY.ext hE) (fun y hy => (hg y hy).ext hE) T1 T2 T3 (h1.ext hE) (h2.ext hE) (h3.ext hE) i.val j.val (by have := i.isLt; omega) (by have := j.isLt; omega))
  have hsz : (idxs (ys.map (·.t)).length).toArray.size = m := by simpa using hzl
  have eg : ∀ args w, (callFunc 110 args).run Tryz.prog w = .ok (.enter 110 args) w := enters_of Tryz.func110 (by kernel_rfl) rfl
  have hS := Any.slices_SortFunc_total Tryz.sf encF (fun _ => rfl) (cfF (l.map nearOf) x.t (ys.map (·.t))) (swoF _ _ _) 110 _ g 0 cap (idxs (ys.map (·.t)).length).toArray w eg hcmp hH hlt (by omega) (totF hap)
  rw [hsz] at hS
  change Calls Tryz.prog 109 _ _ _ at hS
  refine hS.mono ?_
  rintro e w' ⟨rfl, n, os, rfl⟩
  refine ⟨rfl, ?_, ext_sortR hw hbase n _ os⟩
  have hlen : ((idxs (ys.map (·.t)).length).mergeSort fun x' y' => !ltOf (cfF (l.map nearOf) x.t (ys.map (·.t))) y' x').length = m := by rw [List.length_mergeSort]; exact hzl
  have ho := own_ext (Lib.ownsRow_putRow (q := n) hown2 hlen (Nat.le_refl m)) (ext_growR (Ext.refl _) os)
  have hf := fin_order hap (l := l.map nearOf) (t := x.t) (fun x' y' => !ltOf (cfF (l.map nearOf) x.t (ys.map (·.t))) y' x') (fun a b => by rw [lt_F])
  rw [List.take_of_length_le (by omega)] at ho
  unfold sortWorld
  rw [← hf, List.map_map]
  exact ho
end Go.Proofs.YtljdlkonlnjadaaGreatDoor
namespace Go.Proofs.YtljdlkonlnjadaaGreatDoor
open Go.RowKit
def IdInv (W0 : World) (m : Nat) (out i : Value) (wr : World) : Prop :=
 ∃ k : Nat, k ≤ m ∧ i = .int .i64 k ∧ wr.ownsRow W0.heap.size 3 1 out k ((List.range k).map natV) ∧ Ext W0 wr
set_option maxHeartbeats 4000000 in
theorem tord_any (l : List Nr) (L : Option Addr) (ln lc : Nat) (x : TV) (ys : List TV) (B : Option Addr) (m d : Nat) (w : World) (hL : Nrs w L ln l) (hln : ln ≤ maxLen) (hl : ∀ x ∈ l, 1 ≤ x.c ∧ x.c ≤ 99)
 (hx : GoodV w x) (hY : Tgs w B m ys) (hg : ∀ y ∈ ys, GoodV w y) (hap : apartT (ys.map (·.t)) = true) (hm : m ≤ 100000) :
 Calls Tryz.prog 86 #[.slice L ln lc, .agg #[.string x.l, .string x.s, .string x.r, .slice x.A x.n x.c], .slice B m d] w fun e w' =>
  ∃ A c, e = .returned (.slice A m c) ∧ Sl w' A m ((orderP (l.map nearOf) x.t (ys.map (·.t))).map natV) ∧ m ≤ c ∧ Ext w w' := by
 obtain ⟨i0, hi, hz0, hz1, hz2⟩ := info_parts (show (Tryz.prog.info? 3).map (fun i => (i.zero, i.size, i.bytes)) = some (some (.int .i64 0), 1, 8) from by kernel_rfl)
 obtain ⟨W0, hW0⟩ : ∃ W0, W0 = ((w.alloc (.cells #[.slice L ln lc] 24)).alloc (.cells #[.string x.l, .string x.s, .string x.r, .slice x.A x.n x.c] 143)).alloc (.cells #[.slice B m d] 139) := ⟨_, rfl⟩
 have hE : Ext w W0 := by rw [hW0]; exact (((Ext.refl w).alloc _).alloc _).alloc _
 have h1 : AtC 24 W0 w.heap.size #[.slice L ln lc] := by rw [hW0]; exact ((AtC.new w _).alloc _).alloc _
 have h2 : AtC 143 W0 (w.heap.size + 1) #[.string x.l, .string x.s, .string x.r, .slice x.A x.n x.c] := by
  have h := (AtC.new (w.alloc (.cells #[.slice L ln lc] 24)) #[.string x.l, .string x.s, .string x.r, .slice x.A x.n x.c] : AtC 143 _ _ _).alloc (.cells #[.slice B m d] 139)
  rw [show (w.alloc (.cells #[.slice L ln lc] 24)).heap.size = w.heap.size + 1 from by simp] at h
  rw [hW0]; exact h
 have h3 : AtC 139 W0 (w.heap.size + 1 + 1) #[.slice B m d] := by
  have h := (AtC.new ((w.alloc (.cells #[.slice L ln lc] 24)).alloc (.cells #[.string x.l, .string x.s, .string x.r, .slice x.A x.n x.c] 143)) #[.slice B m d] : AtC 139 _ _ _)
  rw [show ((w.alloc (.cells #[.slice L ln lc] 24)).alloc (.cells #[.string x.l, .string x.s, .string x.r, .slice x.A x.n x.c] 143)).heap.size = w.heap.size + 1 + 1 from by simp] at h
  rw [hW0]; exact h
 have KS := hid (fun (W : World) (h : Ext W0 W) (v : Value) (ho : W.ownsRow W0.heap.size 3 1 v m ((List.range m).map natV)) => srt_any l L ln lc x ys B m d w.heap.size (w.heap.size + 1) (w.heap.size + 1 + 1) W0 W (hL.ext hE) hln hl (hx.ext hE) (hY.ext hE) (fun y hy => (hg y hy).ext hE) _ _ _ h1 h2 h3 hap hm h v ho)
 have hc3 := h3.cell 0 _ rfl
 have HE := hid hE
 have HW0 := hid hW0
 clear hE h1 h2 h3 hL hl hx hY hg hap
 rw [hW0] at hc3
 go_enter Tryz.func86, Tryz.ntmps86
 go_wp2_with fail
 go_loopw [7, 11] (IdInv W0 m) (fun _ i _ => m - (intOf i).toNat)
 case atStart => exact ⟨0, Nat.zero_le _, rfl, World.ownsRow_nil _ _ _ 1, by rw [HW0.out]; exact Ext.refl _⟩
 case round =>
  obtain ⟨k, hk, rfl, how, hw⟩ := hrel
  have HOW := hid how
  have HW := hid hw
  clear how hw
  by_cases hkm : k < m
  ·have hkI : (k : Int) < (m : Int) := by omega
   have HOX := hid (own_ext HOW.out ((Ext.refl wr).alloc (.cells #[.int .i64 (k : Int)] 3)))
   have HSO := hid (Sl.one wr (.int .i64 (k : Int)) 3)
   have HWA := hid (HW.out.alloc (.cells #[.int .i64 (k : Int)] 3))
   go_wp2_with (at_builtin; refine wpList_app _ rfl _ _ 43 rfl W0.heap.size 3 i0 _ 8 Tryz.underlying43 hi hz0 hz1 hz2 rfl _ k _ rfl HOX.out _ 1 1 _ rfl HSO.out (by simp [Value.oneCell']) (by unfold maxLen; omega) (by omega) HWA.out.size ?_; intro v' w3 hown' hgrow; have HO' := hid hown'; have HG' := hid hgrow; clear hown' hgrow)
   refine ⟨⟨k + 1, by omega, by go_num, ?_, HWA.out.grown HG'.out (own_lt HOX.out)⟩, by simp [intOf]; omega⟩
   have h := HO'.out
   rw [List.range_succ, List.map_append]
   exact h
  ·have hkk : k = m := by omega
   subst hkk
   go_wp2_with fail
   refine (KS.out _ HW.out _ HOW.out).mono ?_
   rintro e w2 ⟨rfl, ho2, hw2⟩
   obtain ⟨A4, c4, rfl, hs4, hc4⟩ := own_sl ho2
   have HS4 := hid hs4
   have HX := hid (HE.out.trans hw2)
   clear ho2 hw2 hs4
   go_wp2
   go_ret
   exact ⟨A4, c4, rfl, HS4.out, hc4, HX.out⟩
end Go.Proofs.YtljdlkonlnjadaaGreatDoor
namespace Go.Proofs.YtljdlkonlnjadaaGreatDoor
open Go.RowKit
theorem kempty_eq {x : ByteArray} {b : Bool} (h : (x.toList == []) = b) : x.toList.isEmpty = b := by
 rw [← h]; cases x.toList <;> rfl
theorem TL_one (s : ByteArray) (a b c : List UInt8) (ha : a.length ≤ 1000000) (hb : b.length ≤ 1000000) (hc : c.length ≤ 1000000) : TL ⟨a, b, c, []⟩ :=
 ⟨by simp only; omega, by simp only; omega, by simp only; omega, by simp, by simp⟩
set_option maxHeartbeats 1000000 in
theorem tkind_any (s : ByteArray) (w : World) (hs : s.size ≤ 1000000) :
 Calls Tryz.prog 83 #[.string s] w fun e w' => e = .returned (.int .i64 (kindP s.data.toList)) ∧ Ext w w' := by
 have hl : s.data.toList.length ≤ 1000000 := by rw [size_list]; exact hs
 have h1 := fun W => tvalid_any ⟨s.data.toList, [], [], []⟩ none 0 0 W (Sl.nil _ _) (TL_one s _ _ _ hl (by simp) (by simp))
 have h2 := fun W => tvalid_any ⟨undP, s.data.toList, [], []⟩ none 0 0 W (Sl.nil _ _) (TL_one s _ _ _ (by decide) hl (by simp))
 have h3 := fun W => tvalid_any ⟨undP, [], s.data.toList, []⟩ none 0 0 W (Sl.nil _ _) (TL_one s _ _ _ (by decide) (by simp) hl)
 unfold tagV at h1 h2 h3
 simp only [strv_mk] at h1 h2 h3
 unfold strv at h1 h2 h3
 unfold undP at h2 h3
 have hk : kindP s.data.toList = if validP ⟨s.data.toList, [], [], []⟩ = true then 1 else if (!(s.toList == []) && validP ⟨undP, s.data.toList, [], []⟩) = true then 2 else if (!(s.toList == []) && validP ⟨undP, [], s.data.toList, []⟩) = true then 3 else 0 := by
  unfold kindP
  rw [ByteArray.toList_eq]
 rw [hk]
 unfold undP
 generalize validP ⟨s.data.toList, [], [], []⟩ = v1 at h1 ⊢
 generalize validP ⟨[117, 110, 100], s.data.toList, [], []⟩ = v2 at h2 ⊢
 generalize validP ⟨[117, 110, 100], [], s.data.toList, []⟩ = v3 at h3 ⊢
 have H1 := hid h1
 have H2 := hid h2
 have H3 := hid h3
 have HAT := hid (AtT.new (T := 143) (v0 := .string ⟨#[117, 110, 100]⟩) (v1 := .string ⟨#[]⟩) (v2 := .string ⟨#[]⟩) (v3 := .slice none 0 0) w)
 have HX := hid ((Ext.refl w).alloc (.cells #[.string ⟨#[117, 110, 100]⟩, .string ⟨#[]⟩, .string ⟨#[]⟩, .slice none 0 0] 143))
 clear h1 h2 h3 hk hl
 cases v1 with
 | true =>
   simp only [if_true]
   go_enter Tryz.func83, Tryz.ntmps83
   go_wp2_with fail
   refine (H1.out _).mono ?_
   rintro e w1 ⟨rfl, hw1⟩
   have HW1 := hid (HX.out.trans hw1)
   clear hw1
   go_wp2
   go_ret
   exact ⟨rfl, HW1.out⟩
 | false =>
   simp only [Bool.false_eq_true, if_false]
   cases he : (s.toList == []) with
   | true =>
     simp only [Bool.not_true, Bool.false_and, Bool.false_eq_true, if_false]
     have he2 := kempty_eq he
     go_enter Tryz.func83, Tryz.ntmps83
     go_wp2_with fail
     refine (H1.out _).mono ?_
     rintro e w1 ⟨rfl, hw1⟩
     obtain ⟨⟨a0, a1, a2, a3⟩, ⟨f0, f1, f2, f3⟩⟩ := (HAT.out.ext hw1).cells
     have HW1 := hid (HX.out.trans hw1)
     clear hw1
     go_wp2
     go_ret
     exact ⟨rfl, ((HW1.out.setCell (Nat.le_refl _) _).setCell (Nat.le_refl _) _).setCell (Nat.le_refl _) _⟩
   | false =>
     simp only [Bool.not_false, Bool.true_and]
     have he2 := kempty_eq he
     cases v2 with
     | true =>
       simp only [if_true]
       go_enter Tryz.func83, Tryz.ntmps83
       go_wp2_with fail
       refine (H1.out _).mono ?_
       rintro e w1 ⟨rfl, hw1⟩
       obtain ⟨⟨a0, a1, a2, a3⟩, ⟨f0, f1, f2, f3⟩⟩ := (HAT.out.ext hw1).cells
       have HW1 := hid (HX.out.trans hw1)
       clear hw1
       go_wp2_with fail
       refine (H2.out _).mono ?_
       rintro e w2 ⟨rfl, hw2⟩
       have HW2 := hid ((HW1.out.setCell (Nat.le_refl _) _).trans hw2)
       clear hw2
       go_wp2
       go_ret
       exact ⟨rfl, HW2.out⟩
     | false =>
       cases v3
       all_goals
        simp only [Bool.false_eq_true, if_false, if_true]
        go_enter Tryz.func83, Tryz.ntmps83
        go_wp2_with fail
        refine (H1.out _).mono ?_
        rintro e w1 ⟨rfl, hw1⟩
        have hat1 := HAT.out.ext hw1
        obtain ⟨⟨a0, a1, a2, a3⟩, ⟨f0, f1, f2, f3⟩⟩ := hat1.cells
        have HAT1 := hid hat1
        have HW1 := hid (HX.out.trans hw1)
        clear hw1 hat1
        go_wp2_with fail
        refine (H2.out _).mono ?_
        rintro e w2 ⟨rfl, hw2⟩
        have hat2 := (HAT1.out.set1 (.string s)).ext hw2
        clear a0 a1 a2 a3 f0 f1 f2 f3
        obtain ⟨⟨a0, a1, a2, a3⟩, ⟨f0, f1, f2, f3⟩⟩ := hat2.cells
        have HW2 := hid ((HW1.out.setCell (Nat.le_refl _) _).trans hw2)
        clear hw2 hat2
        go_wp2_with fail
        refine (H3.out _).mono ?_
        rintro e w3 ⟨rfl, hw3⟩
        have HW3 := hid (((HW2.out.setCell (Nat.le_refl _) _).setCell (Nat.le_refl _) _).trans hw3)
        clear hw3
        go_wp2
        go_ret
        exact ⟨rfl, HW3.out⟩
end Go.Proofs.YtljdlkonlnjadaaGreatDoor
namespace Go.Proofs.YtljdlkonlnjadaaGreatDoor
open Go.RowKit
end Go.Proofs.YtljdlkonlnjadaaGreatDoor
namespace Go.Proofs.YtljdlkonlnjadaaGreatDoor
open Go.RowKit
theorem nears_app : ∀ (r pre : List NearP) (x : NearP), nearsB pre (r ++ [x]) = (nearsB pre r && (properN x && newN (pre ++ r) x))
 | [], pre, x => by simp [nearsB]
 | y :: r, pre, x => by
   show (properN y && newN pre y && nearsB (pre ++ [y]) (r ++ [x])) = _
   rw [nears_app r (pre ++ [y]) x]
   simp [nearsB, Bool.and_assoc]
theorem nears_pre {pre r s : List NearP} (h : nearsB pre (r ++ s) = true) : nearsB pre r = true := by
 induction r generalizing pre with
 | nil => rfl
 | cons y r ih =>
   rw [List.cons_append] at h
   unfold nearsB at h ⊢
   simp only [Bool.and_eq_true] at h ⊢
   exact ⟨h.1, ih h.2⟩
def goodN (l : List Nr) (k : Nat) (x : Nr) : Bool := properN (nearOf x) && newN ((l.take k).map nearOf) (nearOf x)
theorem nears_at {l : List Nr} {k : Nat} {x : Nr} (hx : l[k]? = some x) (h : nearsB [] ((l.take k).map nearOf) = true) : nearsB [] ((l.take (k + 1)).map nearOf) = goodN l k x := by
 rw [take_next hx, List.map_append, List.map_singleton, nears_app, h]
 simp [goodN]
theorem nears_bad {l : List Nr} {k : Nat} {x : Nr} (hx : l[k]? = some x) (h : nearsB [] ((l.take k).map nearOf) = true) (hb : goodN l k x = false) : validN (l.map nearOf) = false := by
 have e := nears_at hx h
 rw [hb] at e
 unfold validN
 cases hv : nearsB [] (l.map nearOf) with
 | false => rfl
 | true =>
   have h2 : l.map nearOf = (l.take (k + 1)).map nearOf ++ (l.drop (k + 1)).map nearOf := by rw [← List.map_append, List.take_append_drop]
   rw [h2] at hv
   rw [nears_pre hv] at e
   cases e
end Go.Proofs.YtljdlkonlnjadaaGreatDoor
namespace Go.Proofs.YtljdlkonlnjadaaGreatDoor
open Go.RowKit Go.WideMaps
def mmP (x : Nr) : ByteArray × ByteArray := (Lib.minS x.f x.o, Lib.maxS x.f x.o)
def pairsL (l : List Nr) : List (List UInt8 × List UInt8) := l.map fun x => bp (mmP x)
theorem pairs_new (l : List Nr) (x : Nr) : decide (bp (mmP x) ∈ pairsL l) = !newN (l.map nearOf) (nearOf x) := by
 have key : ∀ y : Nr, bp (mmP y) = bp (mmP x) ↔ pairB (nearOf y) (nearOf x).f (nearOf x).o = true := by
  intro y
  show _ ↔ pairB (nearOf y) x.f.data.toList x.o.data.toList = true
  rw [pairB_mm, ByteArray.toList_eq, ByteArray.toList_eq, ByteArray.toList_eq, ByteArray.toList_eq]
  unfold bp mmP
  simp
 unfold newN pairsL
 rw [Bool.eq_iff_iff]
 simp only [decide_eq_true_eq, List.mem_map, Bool.not_eq_true', List.all_eq_false]
 constructor
 ·rintro ⟨y, hy, h⟩
  exact ⟨nearOf y, ⟨y, hy, rfl⟩, by rw [(key y).1 h]; decide⟩
 ·rintro ⟨z, ⟨y, hy, rfl⟩, h⟩
  refine ⟨y, hy, (key y).2 ?_⟩
  cases hp : pairB (nearOf y) (nearOf x).f (nearOf x).o with
  | true => rfl
  | false => rw [hp] at h; exact absurd rfl h
theorem mm_ok {x : Nr} (h1 : x.f.size ≤ 1000000) (h2 : x.o.size ≤ 1000000) : okP (mmP x) := by
 unfold okP mmP maxLen
 rcases mm_cases x.f x.o with ⟨k1, k2⟩ | ⟨k1, k2⟩ <;> rw [k1, k2] <;> constructor <;> simp only <;> omega
theorem arrK : ArrKey Tryz.prog 136 9 2 := ⟨Tryz.underlying136, by kernel_rfl, by kernel_rfl, by kernel_rfl⟩
def TVInv (W1 : World) (l : List Nr) (n : Nat) (i : Value) (wr : World) : Prop :=
 ∃ k : Nat, k ≤ n ∧ i = .int .i64 k ∧ nearsB [] ((l.take k).map nearOf) = true ∧ MapA Tryz.prog 136 4 wr W1.heap.size k (pairsL (l.take k)) ∧ Ext W1 wr
theorem pairs_app {l : List Nr} {k : Nat} {x : Nr} (hx : l[k]? = some x) : pairsL (l.take (k + 1)) = pairsL (l.take k) ++ [bp (mmP x)] := by
 rw [take_next hx]
 unfold pairsL
 rw [List.map_append]
 rfl
set_option maxHeartbeats 8000000 in
theorem tvalN_any (l : List Nr) (A : Option Addr) (n c : Nat) (w : World) (hA : Nrs w A n l) (hn : n ≤ maxLen) (hz : ∀ a ∈ l, a.f.size ≤ 1000000 ∧ a.o.size ≤ 1000000) :
 Calls Tryz.prog 56 #[.slice A n c] w fun e w' => e = .returned (.bool (validN (l.map nearOf))) ∧ Ext w w' := by
 unfold maxLen at hn
 have HA := hid hA
 have HL := hid hA.len
 have HZ := hid hz
 clear hA hz
 have hmm := @run_makeMap Tryz.prog
 have hsz : ∃ m, Tryz.prog.types.size = m + 1 := ⟨Tryz.prog.types.size - 1, by kernel_rfl⟩
 have HSZ := hid hsz
 clear hsz
 go_enter Tryz.func56, Tryz.ntmps56
 go_wp2_with fail
 go_loopw [10] (TVInv w l n) (fun i _ => n - (intOf i).toNat)
 case atStart => exact ⟨0, Nat.zero_le _, rfl, rfl, MapA.made _ _ _ _, (Ext.refl w).alloc _⟩
 case round =>
  obtain ⟨k, hk, rfl, hall, hms, hw⟩ := hrel
  have HALL := hid hall
  have HMS := hid hms
  have HW := hid hw
  clear hall hms hw
  by_cases hkn : k < n
  ·obtain ⟨x, hx⟩ : ∃ x, l[k]? = some x := ⟨_, List.getElem?_eq_getElem (by have := HL.out; omega)⟩
   obtain ⟨b, o, rfl, hb, c0, c1, c2⟩ := (HA.out.ext HW.out).at_ hx
   obtain ⟨z1, z2⟩ := HZ.out _ (List.mem_of_getElem? hx)
   have HX := hid hx
   have hkI : (k : Int) < (n : Int) := by omega
   clear hx
   have hof := fun W => of_any x.f x.o W
   have HOK := hid (mm_ok z1 z2)
   have HPN := hid (pairs_new (l.take k) x)
   have HPA := hid (pairs_app HX.out)
   have hmp : mmP x = (Lib.minS x.f x.o, Lib.maxS x.f x.o) := rfl
   generalize mmP x = M at *
   obtain ⟨mi, ma⟩ := M
   injection hmp with hmi hma
   rw [← hmi, ← hma] at hof
   have HOF := hid hof
   clear hof hmi hma
   go_wp2_with fail
   refine (HOF.out _).mono ?_
   rintro e w1 ⟨rfl, hw1⟩
   have HB0 := ((AtC.new wr #[.string x.f, .string x.o, .int .i64 x.c] : AtC 106 _ _ _).ext hw1).alloc (.cells #[.string mi, .string ma] 136)
   have HP0 := (AtC.new w1 #[.string mi, .string ma] : AtC 136 _ _ _)
   have HMS6 := (HMS.out.ext ((Ext.refl wr).alloc (.cells #[.string x.f, .string x.o, .int .i64 x.c] 106) |>.trans hw1)).alloc (.cells #[.string mi, .string ma] 136)
   have HW6 := hid (((HW.out.alloc (.cells #[.string x.f, .string x.o, .int .i64 x.c] 106)).trans hw1).alloc (.cells #[.string mi, .string ma] 136))
   have G1 := hid (fun (y : ExtW (w1.alloc (.cells #[.string mi, .string ma] 136))) => tkind_any x.f y.v z1)
   have G2 := hid (fun (y : ExtW (w1.alloc (.cells #[.string mi, .string ma] 136))) => tkind_any x.o y.v z2)
   have b0 := fun y : ExtW (w1.alloc (.cells #[.string mi, .string ma] 136)) => (HB0.ext y.h).cell 0 _ rfl
   have b1 := fun y : ExtW (w1.alloc (.cells #[.string mi, .string ma] 136)) => (HB0.ext y.h).cell 1 _ rfl
   have b2 := fun y : ExtW (w1.alloc (.cells #[.string mi, .string ma] 136)) => (HB0.ext y.h).cell 2 _ rfl
   have e0 := fun y : ExtW (w1.alloc (.cells #[.string mi, .string ma] 136)) => (HP0.ext y.h).cell 0 _ rfl
   have e1 := fun y : ExtW (w1.alloc (.cells #[.string mi, .string ma] 136)) => (HP0.ext y.h).cell 1 _ rfl
   have hlk := fun y : ExtW (w1.alloc (.cells #[.string mi, .string ma] 136)) => MapA.lookup (HMS6.ext y.h) arrK Tryz.underlying9 HSZ.out Tryz.underlying4 Tryz.underlying135 (by kernel_rfl) (mi, ma) HOK.out
   rw [HPN.out] at hlk
   unfold kvP at hlk
   simp only at hlk
   have hpr : properN (nearOf x) = (!(kindP x.f.data.toList == 0) && (kindP x.f.data.toList == kindP x.o.data.toList) && !(x.f.toList == x.o.toList) && decide (1 ≤ x.c) && decide (x.c ≤ 99)) := by
    unfold properN nearOf
    simp only [ByteArray.toList_eq]
   have HP := hid HP0
   have HM6 := hid HMS6
   have HPR := hid hpr
   clear HB0 HP0 HMS6 hpr z1 z2 hw1 c0 c1 c2
   generalize kindP x.f.data.toList = k1 at *
   generalize kindP x.o.data.toList = k2 at *
   cases h0 : (k1 == 0)
   rotate_left
   ·have HBAD := hid (show goodN l k x = false from by unfold goodN; rw [HPR.out]; simp [h0])
    go_wp2_with fail
    refine wp_region_ext (by kernel_rfl) (by kernel_rfl) ?_
    repeat (go_big_quiet_step ((go_at_call 83; with_reducible first | exact ExtW.call (G1.out _) | exact ExtW.call (G2.out _))))
    refine wpQuiet_nil ?_
    intro wx hx
    have HXX := hid (HW6.out.trans (ext_of hx))
    clear hx
    go_wp2
    go_ret
    exact ⟨ret_bool (nears_bad HX.out HALL.out HBAD.out).symm, HXX.out⟩
   cases h1 : (k1 == k2)
   ·have g1 : (k1 != k2) = true := by rw [bne, h1]; rfl
    have HBAD := hid (show goodN l k x = false from by unfold goodN; rw [HPR.out]; simp [h0, h1])
    go_wp2_with fail
    refine wp_region_ext (by kernel_rfl) (by kernel_rfl) ?_
    repeat (go_big_quiet_step ((go_at_call 83; with_reducible first | exact ExtW.call (G1.out _) | exact ExtW.call (G2.out _))))
    refine wpQuiet_nil ?_
    intro wx hx
    have HXX := hid (HW6.out.trans (ext_of hx))
    clear hx
    go_wp2
    go_ret
    exact ⟨ret_bool (nears_bad HX.out HALL.out HBAD.out).symm, HXX.out⟩
   have g1 : (k1 != k2) = false := by rw [bne, h1]; rfl
   cases h2 : (x.f.toList == x.o.toList)
   rotate_left
   ·have HBAD := hid (show goodN l k x = false from by unfold goodN; rw [HPR.out]; simp [h0, h1, h2])
    go_wp2_with fail
    refine wp_region_ext (by kernel_rfl) (by kernel_rfl) ?_
    repeat (go_big_quiet_step ((go_at_call 83; with_reducible first | exact ExtW.call (G1.out _) | exact ExtW.call (G2.out _))))
    refine wpQuiet_nil ?_
    intro wx hx
    have HXX := hid (HW6.out.trans (ext_of hx))
    clear hx
    go_wp2
    go_ret
    exact ⟨ret_bool (nears_bad HX.out HALL.out HBAD.out).symm, HXX.out⟩
   by_cases h3 : x.c < 1
   ·have h3i : ¬ 1 ≤ x.c := by omega
    have g3 : decide (x.c < 1) = true := by simpa using h3
    have HBAD := hid (show goodN l k x = false from by unfold goodN; rw [HPR.out]; simp [h0, h1, h2, h3i])
    go_wp2_with fail
    refine wp_region_ext (by kernel_rfl) (by kernel_rfl) ?_
    repeat (go_big_quiet_step ((go_at_call 83; with_reducible first | exact ExtW.call (G1.out _) | exact ExtW.call (G2.out _))))
    refine wpQuiet_nil ?_
    intro wx hx
    have HXX := hid (HW6.out.trans (ext_of hx))
    clear hx
    go_wp2
    go_ret
    exact ⟨ret_bool (nears_bad HX.out HALL.out HBAD.out).symm, HXX.out⟩
   have g3 : decide (x.c < 1) = false := by simp; omega
   by_cases h4 : 99 < x.c
   ·have h4i : ¬ x.c ≤ 99 := by omega
    have g4 : decide (99 < x.c) = true := by simpa using h4
    have HBAD := hid (show goodN l k x = false from by unfold goodN; rw [HPR.out]; simp [h0, h1, h2, h4i])
    go_wp2_with fail
    refine wp_region_ext (by kernel_rfl) (by kernel_rfl) ?_
    repeat (go_big_quiet_step ((go_at_call 83; with_reducible first | exact ExtW.call (G1.out _) | exact ExtW.call (G2.out _))))
    refine wpQuiet_nil ?_
    intro wx hx
    have HXX := hid (HW6.out.trans (ext_of hx))
    clear hx
    go_wp2
    go_ret
    exact ⟨ret_bool (nears_bad HX.out HALL.out HBAD.out).symm, HXX.out⟩
   have g4 : decide (99 < x.c) = false := by simpa using h4
   have h5 : 1 ≤ x.c := by omega
   have h6 : x.c ≤ 99 := by omega
   cases hnew : newN ((l.take k).map nearOf) (nearOf x)
   ·rw [hnew] at hlk
    simp only [Bool.not_false] at hlk
    have HBAD := hid (show goodN l k x = false from by unfold goodN; rw [hnew, Bool.and_false])
    go_wp2_with fail
    refine wp_region_ext (by kernel_rfl) (by kernel_rfl) ?_
    repeat (go_big_quiet_step ((go_at_call 83; with_reducible first | exact ExtW.call (G1.out _) | exact ExtW.call (G2.out _))))
    refine wpQuiet_nil ?_
    intro wx hx
    have HXX := hid (HW6.out.trans (ext_of hx))
    clear hx
    go_wp2
    go_ret
    exact ⟨ret_bool (nears_bad HX.out HALL.out HBAD.out).symm, HXX.out⟩
   rw [hnew] at hlk
   simp only [Bool.not_true] at hlk
   have HG := hid (show goodN l k x = true from by unfold goodN; rw [HPR.out, hnew]; simp [h0, h1, h2, h5, h6])
   go_wp2_with fail
   refine wp_region_ext (by kernel_rfl) (by kernel_rfl) ?_
   repeat (go_big_quiet_step ((go_at_call 83; with_reducible first | exact ExtW.call (G1.out _) | exact ExtW.call (G2.out _))))
   refine wpQuiet_nil ?_
   intro wx hx
   have hxx := ext_of hx
   have HXX := hid (HW6.out.trans hxx)
   have e0' := (HP.out.ext hxx).cell 0 _ rfl
   have e1' := (HP.out.ext hxx).cell 1 _ rfl
   have HMX := hid (HM6.out.ext hxx)
   clear hx hxx b0 b1 b2 e0 e1 hlk
   go_wp2_with (at_mapUpdate; refine wpList_mapUpdateA rfl _ _ _ 135 136 4 rfl arrK Tryz.underlying9 HSZ.out Tryz.underlying4 Tryz.underlying135 w.heap.size k _ rfl HMX.out (by unfold maxLen; omega) (mi, ma) rfl rfl HOK.out ?_; intro w3 hm3 hg3; have HM3 := hid hm3; have HG3 := hid hg3; clear hm3 hg3)
   refine ⟨⟨k + 1, by omega, by go_num, by rw [nears_at HX.out HALL.out]; exact HG.out, ?_, HXX.out.grown HG3.out (fun q hq => by injection hq with hq; omega)⟩, by simp [intOf]; omega⟩
   rw [HPA.out]
   exact HM3.out
  ·have hkk : k = n := by omega
   subst hkk
   by_cases h200 : k ≤ 200
   all_goals
    have h200I : ((k : Int) ≤ 200) = (k ≤ 200) := by simp; omega
    go_wp2
    go_ret
    refine ⟨ret_bool ?_, HW.out⟩
    have h := HALL.out
    rw [List.take_of_length_le (by have := HL.out; omega)] at h
    unfold validN
    rw [h, List.length_map, HL.out]
    simp [h200]
end Go.Proofs.YtljdlkonlnjadaaGreatDoor
namespace Go.Proofs.YtljdlkonlnjadaaGreatDoor
open Go.RowKit
set_option maxHeartbeats 2000000 in
theorem ttags_any (l : List ByteArray) (A : Option Addr) (n c : Nat) (w : World) (hm : Mx w) (hA : Sl w A n (l.map .string)) (hn : n ≤ 100000) (hz : ∀ s ∈ l, s.size ≤ 60000) :
 Calls Tryz.prog 108 #[.slice A n c] w (RetTags w (dl l)) := by
 obtain ⟨i0, hi, hz0, hz1, hz2⟩ := info_parts (show (Tryz.prog.info? 143).map (fun i => (i.zero, i.size, i.bytes)) = some (some (.agg #[.string ⟨#[]⟩, .string ⟨#[]⟩, .string ⟨#[]⟩, .slice none 0 0]), 4, 72) from by kernel_rfl)
 have hla : l.length = n := by have := hA.1; simpa using this
 have hld : (dl l).length = n := by unfold dl; simpa using hla
 have HA := hid hA
 have HL := hid hla
 have HD := hid hld
 have HZ := hid hz
 clear hA hla hz hld
 go_enter Tryz.func108, Tryz.ntmps108
 go_wp2_with fail
 go_loopw [4, 11] (TagsInv 143 w (dl l) n) (fun _ i _ => n - (intOf i).toNat)
 case atStart => exact ⟨0, [], Nat.zero_le _, rfl, World.ownsRow_nil w w.heap.size _ 4, (fun x hx => by cases hx), by simp [readP], Ext.refl _⟩
 case round =>
  obtain ⟨k, xs, hk, rfl, how, htv, hrd, hw⟩ := hrel
  have HOW := hid how
  have HTV := hid htv
  have HRD := hid hrd
  have HW := hid hw
  clear how htv hrd hw
  by_cases hkn : k < n
  ·obtain ⟨ad, x, rfl, hu, hc⟩ := (HA.out.ext HW.out).at_map hkn
   have hx := HZ.out x (List.mem_of_getElem? hu)
   have HX := hid (show (dl l)[k]? = some x.data.toList from by unfold dl; rw [List.getElem?_map, hu]; rfl)
   clear hu
   have hp := fun W (h : Ext w W) => tparse_fresh x W (hm.ext h) hx
   obtain ⟨R, hR⟩ : ∃ R, R = parseP EC x.data.toList := ⟨_, rfl⟩
   rw [← hR] at hp
   obtain ⟨t, code⟩ := R
   obtain ⟨b0, hb0, _⟩ := strv_b t.lang
   obtain ⟨b1, hb1, _⟩ := strv_b t.script
   obtain ⟨b2, hb2, _⟩ := strv_b t.region
   unfold tagV at hp
   simp only [hb0, hb1, hb2] at hp
   have HB := hid (And.intro hb0 (And.intro hb1 hb2))
   have HP := hid hp
   have HR := hid hR
   clear hp hR hb0 hb1 hb2
   by_cases h0 : code = 0
   ·subst h0
    go_wp2_with fail
    refine (HP.out _ HW.out).mono ?_
    rintro e w2 ⟨A2, n2, c2, rfl, hs2, hn2, hw2, hf2⟩
    have hnews : ∀ j u, [Value.string b0, .string b1, .string b2, .slice A2 n2 c2][j]? = some u → ((w2.alloc (.cells #[.string b0, .string b1, .string b2, .slice A2 n2 c2] 143)).alloc (.cells #[.string b0, .string b1, .string b2, .slice A2 n2 c2] 143)).cell? ((⟨w2.heap.size + 1, 0, none⟩ : Addr).add j) = some u := by
     have h := new_cells (w2.alloc (.cells #[.string b0, .string b1, .string b2, .slice A2 n2 c2] 143)) #[.string b0, .string b1, .string b2, .slice A2 n2 c2] 143
     rw [show (w2.alloc (.cells #[.string b0, .string b1, .string b2, .slice A2 n2 c2] 143)).heap.size = w2.heap.size + 1 from by simp] at h
     exact h
    have HN := hid hnews
    have HONE := hid (show ∀ u ∈ [Value.string b0, .string b1, .string b2, .slice A2 n2 c2], u.oneCell' = true from by intro u hu; simp at hu; rcases hu with rfl | rfl | rfl | rfl <;> rfl)
    have HWX := hid (show Ext wr ((w2.alloc (.cells #[.string b0, .string b1, .string b2, .slice A2 n2 c2] 143)).alloc (.cells #[.string b0, .string b1, .string b2, .slice A2 n2 c2] 143)) from (hw2.alloc _).alloc _)
    have HOX := hid (own_ext HOW.out HWX.out)
    have HS2 := hid (hs2.ext (((Ext.refl w2).alloc (.cells #[.string b0, .string b1, .string b2, .slice A2 n2 c2] 143)).alloc (.cells #[.string b0, .string b1, .string b2, .slice A2 n2 c2] 143)))
    have HF2 := hid hf2
    clear hs2 hw2 hf2 hnews
    go_wp2_with (at_builtin; refine wpList_appN _ rfl _ _ 139 rfl w.heap.size 143 i0 _ 4 72 Tryz.underlying139 hi hz0 hz1 hz2 rfl (by decide) _ k _ rfl HOX.out ⟨w2.heap.size + 1, 0, none⟩ 1 1 _ rfl rfl HN.out HONE.out (by unfold maxLen; omega) (by omega) (HW.out.trans HWX.out).size ?_; intro v' w3 hown' hgrow hwhere; have HO' := hid hown'; have HG' := hid hgrow; have HWH := hid hwhere; clear hown' hgrow hwhere)
    have hkx : ∀ W0, Kept v'.ownBlock w3 W0 → Kept u4.ownBlock ((w2.alloc (.cells #[.string b0, .string b1, .string b2, .slice A2 n2 c2] 143)).alloc (.cells #[.string b0, .string b1, .string b2, .slice A2 n2 c2] 143)) W0 := fun W0 hk0 => Kept.trans (Kept.grown HG'.out) hk0 HWH.out
    refine ⟨⟨k + 1, xs ++ [⟨t, A2, n2, c2⟩], by omega, by go_num, ?_, ?_, ?_, (HW.out.trans HWX.out).grown HG'.out (own_lt HOW.out)⟩, by simp [intOf]; omega⟩
    ·have h := HO'.out
     rw [List.flatMap_append]
     have e1 : [(⟨t, A2, n2, c2⟩ : TV)].flatMap tvC = [.string b0, .string b1, .string b2, .slice A2 n2 c2] := by
      simp [tvC, HB.out.1, HB.out.2.1, HB.out.2.2]
     rw [e1]
     exact h
    ·intro x' hx' W0 hk0
     rcases List.mem_append.1 hx' with hx' | hx'
     ·exact HTV.out x' hx' W0 (Kept.trans (Kept.ext _ HWX.out) (hkx W0 hk0) (.inl rfl))
     ·obtain rfl := List.mem_singleton.1 hx'
      refine TvOk.kept (show TvOk _ _ from HS2.out) (hkx W0 hk0) (fun ad had hr => ?_)
      have h1 := (HOW.out.lt _ hr.symm).2
      have h2 := HF2.out ad had
      omega
    ·rw [take_next HX.out]
     have h1 := HRD.out
     rw [read_app (by rw [h1]) (by rw [← HR.out]), h1, ← HR.out]
     simp
   ·have hnz : (code == 0) = false := by simpa using h0
    go_wp2_with fail
    refine (HP.out _ HW.out).mono ?_
    rintro e w2 ⟨A2, n2, c2, rfl, hs2, hn2, hw2, hf2⟩
    have HW2 := hid (HW.out.trans hw2)
    clear hs2 hw2 hf2
    go_wp2
    go_ret2
    have hst := read_stop HX.out (by rw [HRD.out]) (by rw [← HR.out]; exact h0)
    rw [← HR.out] at hst
    exact ⟨none, 0, 0, [], by rw [hst]; rfl, Tgs.nil _ _, by rw [hst]; rfl, HW2.out.alloc _⟩
  ·have hkk : k = n := by omega
   subst hkk
   obtain ⟨A', c', hv, hsl⟩ := own_slN HOW.out
   subst hv
   have HSL := hid hsl
   have hrd : readP EC (dl l) = (xs.map (·.t), 0) := by
    have h := HRD.out
    rwa [List.take_of_length_le (by rw [HD.out]; exact Nat.le_refl _)] at h
   have HRD2 := hid hrd
   clear hsl hrd
   go_wp2
   go_ret2
   exact ⟨A', k, c', xs, by rw [HRD2.out]; rfl, ⟨HSL.out, fun x hx => HTV.out x hx wr (Kept.refl _ _)⟩, by rw [HRD2.out], HW.out⟩
end Go.Proofs.YtljdlkonlnjadaaGreatDoor
namespace Go.Proofs.YtljdlkonlnjadaaGreatDoor
open Go.RowKit
def PrInvT (W1 : World) (T : List TagP) (m : Nat) (X Y a b i : Value) (wr : World) : Prop :=
 ∃ k : Nat, a = X ∧ b = Y ∧ k ≤ m ∧ i = .int .i64 k ∧ apartT (T.take k) = true ∧ MapS Tryz.prog 9 4 wr W1.heap.size k ((T.take k).map textP) ∧ Ext W1 wr
theorem text_new (S : List TagP) (x : TagP) : decide (textP x ∈ S.map textP) = !newT S x := by
 unfold newT
 rw [Bool.eq_iff_iff]
 simp only [decide_eq_true_eq, List.mem_map, Bool.not_eq_true', List.all_eq_false, Bool.not_eq_true, Bool.not_eq_false', Bool.not_eq_false, beq_iff_eq]
theorem TV.x_size {x : TV} (h : GoodT x.t) : x.x.size ≤ 60 := by
 have h1 := textP_len h.2.2
 rw [← TV.x_data] at h1
 exact h1
theorem apart_new {S : List TagP} {k : Nat} {x : TagP} (hx : S[k]? = some x) (h : newT (S.take k) x = false) : apartT S = false := by
 unfold newT at h
 rw [List.all_eq_false] at h
 obtain ⟨y, hy, h⟩ := h
 obtain ⟨j, hj⟩ := List.getElem?_of_mem hy
 rw [List.getElem?_take] at hj
 split at hj
 ·next hjk => exact apart_bad hj hx hjk (by simpa using h)
 ·cases hj
set_option maxHeartbeats 4000000 in
theorem tprep_any (l : List Nr) (L : Option Addr) (ln lc : Nat) (R S : List ByteArray) (A B : Option Addr) (n c m d : Nat) (w : World) (hmx : Mx w) (hL : Nrs w L ln l) (hln : ln ≤ maxLen) (hz : ∀ x ∈ l, x.f.size ≤ 1000000 ∧ x.o.size ≤ 1000000)
 (hA : Sl w A n (R.map .string)) (hB : Sl w B m (S.map .string)) (hn : n ≤ 100000) (hm : m ≤ 100000) (hR : ∀ s ∈ R, s.size ≤ 60000) (hS : ∀ s ∈ S, s.size ≤ 60000) :
 Calls Tryz.prog 85 #[.slice L ln lc, .slice A n c, .slice B m d] w (RetBoth w (l.map nearOf) (dl R) (dl S)) := by
 have G1 := fun W (h : Ext w W) => tvalN_any l L ln lc W (hL.ext h) hln hz
 have K2 := hid (fun W (h : Ext w W) => ttags_any R A n c W (hmx.ext h) (hA.ext h) hn hR)
 have K3 := hid (fun W (h : Ext w W) => ttags_any S B m d W (hmx.ext h) (hB.ext h) hm hS)
 have hSl : S.length = m := by have := hB.1; simpa using this
 have HS := hid hSl
 have hmm := @run_makeMap Tryz.prog
 clear hL hA hB hSl
 cases hv : validN (l.map nearOf) with
 | false =>
   rw [hv] at G1
   have K1 := hid G1
   have HD2 := hid (show bothL EC (l.map nearOf) (dl R) (dl S) = (([], []), 1) from by unfold bothL; rw [if_neg (by rw [hv]; decide)])
   clear G1 hv
   go_enter Tryz.func85, Tryz.ntmps85
   go_wp2_with fail
   refine (K1.out _ (Ext.refl _)).mono ?_
   rintro e w1 ⟨rfl, hw1⟩
   have HW1 := hid hw1
   clear hw1
   go_wp2
   go_ret3
   exact both_none HD2.out HW1.out
 | true =>
   rw [hv] at G1
   have K1 := hid G1
   have HV := hid hv
   clear G1 hv
   go_enter Tryz.func85, Tryz.ntmps85
   go_wp2_with fail
   refine (K1.out _ (Ext.refl _)).mono ?_
   rintro e w1 ⟨rfl, hw1⟩
   have HW1 := hid hw1
   clear hw1
   go_wp2_with fail
   refine (K2.out _ HW1.out).mono ?_
   rintro e w2 ⟨A2, n2, c2, xs, rfl, htg, hmap, hw2⟩
   have HW2 := hid (HW1.out.trans hw2)
   have HTG := hid htg
   have HMAP := hid hmap
   clear hw2 htg hmap
   by_cases h0 : (readP EC (dl R)).2 = 0
   rotate_left
   ·have hnz : ((readP EC (dl R)).2 == 0) = false := by simpa using h0
    have HD2 := hid (show bothL EC (l.map nearOf) (dl R) (dl S) = (([], []), (readP EC (dl R)).2) from by unfold bothL; rw [if_pos HV.out, if_neg h0])
    go_wp2
    go_ret3
    exact both_none HD2.out HW2.out
   have h0' : ((readP EC (dl R)).2 == 0) = true := by simpa using h0
   go_wp2_with fail
   refine (K3.out _ HW2.out).mono ?_
   rintro e w3 ⟨B2, m2, d2, ys, rfl, htg3, hmap3, hw3⟩
   have HW3 := hid (HW2.out.trans hw3)
   have HTX := hid (HTG.out.ext hw3)
   have HTY := hid htg3
   have HMAPY := hid hmap3
   clear hw3 htg3 hmap3
   by_cases h1 : (readP EC (dl S)).2 = 0
   rotate_left
   ·have hnz : ((readP EC (dl S)).2 == 0) = false := by simpa using h1
    have HD2 := hid (show bothL EC (l.map nearOf) (dl R) (dl S) = (([], []), (readP EC (dl S)).2) from by unfold bothL; rw [if_pos HV.out, if_pos h0, if_neg h1])
    go_wp2
    go_ret3
    exact both_none HD2.out HW3.out
   have h1' : ((readP EC (dl S)).2 == 0) = true := by simpa using h1
   have h1'' : ((readP EC (dl S)).2 != 0) = false := by simp [h1]
   have HH0 := hid h0
   have HH1 := hid h1
   have hgood : ∀ x ∈ ys, GoodV w3 x := fun x hx => ⟨read_good (l := dl S) (by rw [← HMAPY.out]; exact List.mem_map.2 ⟨x, hx, rfl⟩), HTY.out.2 x hx⟩
   have HG := hid hgood
   have hylen := HTY.out.len
   have hm2 : m2 ≤ 100000 := by
    have h := congrArg List.length HMAPY.out
    rw [read_eq h1, List.length_map, List.length_map] at h
    have h2 : (dl S).length = S.length := by simp [dl]
    have h3 := HS.out
    omega
   clear h0 h1 hgood
   go_wp2_with fail
   go_loopw [6, 7, 34] (PrInvT w3 (ys.map (·.t)) m2 (.slice A2 n2 c2) (.slice B2 m2 d2)) (fun _ _ i _ => m2 - (intOf i).toNat)
   case atStart => exact ⟨0, rfl, rfl, Nat.zero_le _, rfl, rfl, MapS.made _ _ _ _, (Ext.refl w3).alloc _⟩
   case round =>
    obtain ⟨k, rfl, rfl, hk, rfl, hap, hms, hw⟩ := hrel
    have HAP := hid hap
    have HMS := hid hms
    have HWR := hid hw
    clear hap hms hw
    by_cases hkn : k < m2
    ·obtain ⟨x, hx⟩ : ∃ x, ys[k]? = some x := ⟨_, List.getElem?_eq_getElem (by omega)⟩
     have HX := hid (map_tv hx)
     have hkI : (k : Int) < (m2 : Int) := by omega
     obtain ⟨bb, oo, rfl⟩ := HTY.out.some_ hx
     have gx := HG.out x (List.mem_of_getElem? hx)
     have hsx := TV.x_size gx.1
     have HXS := hid (show x.x.size ≤ maxLen from by unfold maxLen; omega)
     have KT := hid (fun W (h : Ext w3 W) => ttext_tv x W (gx.ext h))
     have a0 := HTY.out.c0 hx wr HWR.out
     have a1 := HTY.out.c1 hx wr HWR.out
     have a2 := HTY.out.c2 hx wr HWR.out
     have a3 := HTY.out.c3 hx wr HWR.out
     have HTN := hid (text_new ((ys.map (·.t)).take k) x.t)
     have HXD := hid (TV.x_data x)
     clear hx gx hsx
     cases hnew : newT ((ys.map (·.t)).take k) x.t with
     | false =>
       have HD2 := hid (show bothL EC (l.map nearOf) (dl R) (dl S) = (([], []), 9) from by
        have hbad : apartT (readP EC (dl S)).1 = false := by
         rw [← HMAPY.out]
         exact apart_new HX.out hnew
        unfold bothL; rw [if_pos HV.out, if_pos HH0.out, if_pos HH1.out, if_neg (by rw [hbad]; decide)])
       go_wp2_with fail
       refine (KT.out _ (HWR.out.alloc _)).mono ?_
       rintro e w4 ⟨rfl, hw4⟩
       have hlk := MapS.lookup ((HMS.out.alloc _).ext hw4) Tryz.underlying9 Tryz.underlying4 Tryz.underlying121 (by kernel_rfl) x.x HXS.out
       rw [HXD.out, HTN.out, hnew] at hlk
       simp only [Bool.not_false] at hlk
       have HW4 := hid (HW3.out.trans ((HWR.out.alloc _).trans hw4))
       clear hw4 hnew
       go_wp2
       all_goals go_ret3
       exact both_none HD2.out HW4.out
     | true =>
       have HNX := hid (show apartT ((ys.map (·.t)).take (k + 1)) = true from by rw [apart_next HX.out, HAP.out, hnew]; rfl)
       go_wp2_with fail
       refine (KT.out _ (HWR.out.alloc _)).mono ?_
       rintro e w4 ⟨rfl, hw4⟩
       have hlk := MapS.lookup ((HMS.out.alloc _).ext hw4) Tryz.underlying9 Tryz.underlying4 Tryz.underlying121 (by kernel_rfl) x.x HXS.out
       rw [HXD.out, HTN.out, hnew] at hlk
       simp only [Bool.not_true] at hlk
       have hat := (AtC.new wr #[.string x.l, .string x.s, .string x.r, .slice x.A x.n x.c] : AtC 143 _ _ _).ext hw4
       have q0 := hat.cell 0 _ rfl
       have q1 := hat.cell 1 _ rfl
       have q2 := hat.cell 2 _ rfl
       have q3 := hat.cell 3 _ rfl
       have HW4 := hid ((HWR.out.alloc (.cells #[.string x.l, .string x.s, .string x.r, .slice x.A x.n x.c] 143)).trans hw4)
       have HM4 := hid ((HMS.out.alloc (.cells #[.string x.l, .string x.s, .string x.r, .slice x.A x.n x.c] 143)).ext hw4)
       clear hw4 hnew hat a0 a1 a2 a3
       go_wp2_with fail
       refine (KT.out _ HW4.out).mono ?_
       rintro e w5 ⟨rfl, hw5⟩
       have HW5 := hid (HW4.out.trans hw5)
       have HM5 := hid (HM4.out.ext hw5)
       clear hw5 hlk q0 q1 q2 q3
       go_wp2_with (at_mapUpdate; refine wpList_mapUpdateS rfl _ _ _ 121 9 4 rfl Tryz.underlying9 Tryz.underlying4 Tryz.underlying121 w3.heap.size k _ rfl HM5.out (by unfold maxLen; omega) x.x rfl rfl HXS.out ?_; intro w6 hm6 hg6; have HM6 := hid hm6; have HG6 := hid hg6; clear hm6 hg6)
       refine ⟨⟨k + 1, rfl, rfl, by omega, by go_num, HNX.out, ?_, HW5.out.grown HG6.out (fun q hq => by injection hq with hq; omega)⟩, by simp [intOf]; omega⟩
       have h := HM6.out
       rw [take_next HX.out, List.map_append, List.map_singleton, ← HXD.out]
       exact h
    ·have hkk : k = m2 := by omega
     subst hkk
     have hap : apartT (readP EC (dl S)).1 = true := by
      have h := HAP.out
      rw [List.take_of_length_le (by rw [List.length_map]; omega), HMAPY.out] at h
      exact h
     have HD2 := hid (both_of HV.out HH0.out HH1.out hap)
     clear hap
     go_wp2
     go_ret3
     exact ⟨A2, n2, c2, xs, B2, k, d2, ys, by rw [HD2.out]; rfl, HTX.out.ext HWR.out, HTY.out.ext HWR.out, by rw [HD2.out]; exact HMAP.out, by rw [HD2.out]; exact HMAPY.out, HW3.out.trans HWR.out⟩
end Go.Proofs.YtljdlkonlnjadaaGreatDoor
namespace Go.Proofs.YtljdlkonlnjadaaGreatDoor
open Go.RowKit
def BtInv (w : World) (l : List NearP) (T S : List TagP) (n : Nat) (best i : Value) (wr : World) : Prop := ∃ k : Nat, k ≤ n ∧ i = .int .i64 k ∧ best = .int .i64 (-1) ∧ bestL l (T.take k) S = none ∧ Ext w wr
set_option maxHeartbeats 8000000 in
theorem tbest_any (l : List Nr) (L : Option Addr) (ln lc : Nat) (R S : List ByteArray) (A B : Option Addr) (n c m d : Nat) (w : World) (hmx : Mx w) (hL : Nrs w L ln l) (hln : ln ≤ maxLen) (hz : ∀ x ∈ l, x.f.size ≤ 1000000 ∧ x.o.size ≤ 1000000)
 (hA : Sl w A n (R.map .string)) (hB : Sl w B m (S.map .string)) (hn : n ≤ 100000) (hm : m ≤ 100000) (hR : ∀ s ∈ R, s.size ≤ 60000) (hS : ∀ s ∈ S, s.size ≤ 60000) :
 Calls Tryz.prog 58 #[.slice L ln lc, .slice A n c, .slice B m d] w fun e w' => e = .returned (.tuple #[.int .i64 (bestR EC (l.map nearOf) (dl R) (dl S)).1, .int .i64 (bestR EC (l.map nearOf) (dl R) (dl S)).2]) ∧ Ext w w' := by
 obtain ⟨D, hD⟩ : ∃ D, D = bestR EC (l.map nearOf) (dl R) (dl S) := ⟨_, rfl⟩
 rw [← hD]
 have K1 := hid (tprep_any l L ln lc R S A B n c m d w hmx hL hln hz hA hB hn hm hR hS)
 have hRl : (dl R).length = n := by have := hA.1; unfold dl; simpa using this
 have hSl : (dl S).length = m := by have := hB.1; unfold dl; simpa using this
 have HD := hid hD
 have HL := hid hL
 have HN := hid hln
 have HLEN := hid (And.intro hRl hSl)
 clear hD hL hA hB hRl hSl hz hR hS
 go_enter Tryz.func58, Tryz.ntmps58
 go_wp2_with fail
 go_step3
 go_wp2_with fail
 refine K1.out.mono ?_
 rintro e w1 ⟨A2, n2, c2, xs, B2, m2, d2, ys, rfl, htx, hty, hmx, hmy, hw1⟩
 have HTX := hid htx
 have HTY := hid hty
 have HMX := hid hmx
 have HMY := hid hmy
 have HW1 := hid hw1
 clear htx hty hmx hmy hw1 K1
 by_cases h0 : (bothL EC (l.map nearOf) (dl R) (dl S)).2 = 0
 rotate_left
 ·have hnz : ((bothL EC (l.map nearOf) (dl R) (dl S)).2 == 0) = false := by simpa using h0
  have HD2 := hid (HD.out.trans (bestR_bad h0))
  go_wp2
  rw [Exit.noGoto_ret]
  go_ret2
  exact ⟨by rw [HD2.out]; rfl, HW1.out⟩
 have h0' : ((bothL EC (l.map nearOf) (dl R) (dl S)).2 == 0) = true := by simpa using h0
 have h0'' : ((bothL EC (l.map nearOf) (dl R) (dl S)).2 != 0) = false := by simp [h0]
 have HH := hid h0
 obtain ⟨hval, _, _, hapt, hbe⟩ := both_ok h0
 have hxl := HTX.out.len
 have hyl := HTY.out.len
 have hn2 : n2 ≤ 100000 := by
  have h := congrArg List.length HMX.out
  rw [(both_len h0).1, List.length_map, HLEN.out.1] at h
  omega
 have hm2 : m2 ≤ 100000 := by
  have h := congrArg List.length HMY.out
  rw [(both_len h0).2, List.length_map, HLEN.out.2] at h
  omega
 have HGX := hid (show ∀ x ∈ xs, GoodV w1 x from fun x hx => ⟨both_good h0 (.inl (by rw [← HMX.out]; exact List.mem_map.2 ⟨x, hx, rfl⟩)), HTX.out.2 x hx⟩)
 have HGY := hid (show ∀ x ∈ ys, GoodV w1 x from fun x hx => ⟨both_good h0 (.inr (by rw [← HMY.out]; exact List.mem_map.2 ⟨x, hx, rfl⟩)), HTY.out.2 x hx⟩)
 have HAP := hid (show apartT (ys.map (·.t)) = true from by rw [HMY.out, hbe]; exact hapt)
 have HC := hid (costs_of hval)
 clear h0 hval hapt hbe
 go_wp2
 go_step3
 go_wp2
 go_loopw [11, 28] (BtInv w1 (l.map nearOf) (xs.map (·.t)) (ys.map (·.t)) n2) (fun _ i _ => n2 - (intOf i).toNat)
 case atStart => exact ⟨0, Nat.zero_le _, rfl, rfl, rfl, Ext.refl _⟩
 case round =>
  obtain ⟨k, hk, rfl, rfl, hbl, hw⟩ := hrel
  have HBL := hid hbl
  have HWR := hid hw
  clear hbl hw
  by_cases hkn : k < n2
  ·obtain ⟨x, hx⟩ : ∃ x, xs[k]? = some x := ⟨_, List.getElem?_eq_getElem (by omega)⟩
   have HX := hid hx
   have hkI : (k : Int) < (n2 : Int) := by omega
   obtain ⟨b1, o1, rfl⟩ := HTX.out.some_ hx
   have HGX1 := hid (HGX.out x (List.mem_of_getElem? hx))
   have a0 := HTX.out.c0 hx wr HWR.out
   have a1 := HTX.out.c1 hx wr HWR.out
   have a2 := HTX.out.c2 hx wr HWR.out
   have a3 := HTX.out.c3 hx wr HWR.out
   have HAT := hid (AtC.new wr #[.string x.l, .string x.s, .string x.r, .slice x.A x.n x.c] : AtC 143 _ _ _)
   have HWA := hid (HWR.out.alloc (.cells #[.string x.l, .string x.s, .string x.r, .slice x.A x.n x.c] 143))
   have KO := hid (fun W (h : Ext w1 W) => tord_any l L ln lc x ys B2 m2 d2 W (HL.out.ext (HW1.out.trans h)) HN.out HC.out (HGX1.out.ext h) (HTY.out.ext h) (fun y hy => (HGY.out y hy).ext h) HAP.out hm2)
   clear hx
   go_wp2_with fail
   refine (KO.out _ HWA.out).mono ?_
   rintro e w2 ⟨A4, c4, rfl, hs4, hc4, hw2⟩
   have HS4 := hid hs4
   have HW2 := hid (HWA.out.trans hw2)
   have HAT2 := hid (HAT.out.ext hw2)
   clear hs4 hw2 a0 a1 a2 a3
   rcases Nat.eq_zero_or_pos m2 with hm0 | hm0
   ·subst hm0
    have hys : ys = [] := List.eq_nil_of_length_eq_zero hyl
    subst hys
    have HNX := hid ((bestL_next (map_tv HX.out) HBL.out).trans best_nil)
    go_wp2_with fail
    refine wp_region_ext (by kernel_rfl) (by kernel_rfl) ?_
    repeat (go_big_quiet_step (fail))
    refine wpQuiet_nil ?_
    intro wz hz
    have HZZ := hid (HW2.out.trans (ext_of hz))
    clear hz
    go_wp2
    exact ⟨⟨k + 1, by omega, by go_num, rfl, HNX.out, HZZ.out⟩, by simp [intOf]; omega⟩
   ·obtain ⟨ad, h, hA4, hh, _⟩ := HS4.out.at_map hm0
    subst hA4
    have hol := order_len (l.map nearOf) x.t (ys.map (·.t))
    rw [List.length_map, hyl] at hol
    obtain ⟨r, hr⟩ : ∃ r, orderP (l.map nearOf) x.t (ys.map (·.t)) = h :: r := by
     cases ho : orderP (l.map nearOf) x.t (ys.map (·.t)) with
     | nil => rw [ho] at hol; simp at hol; omega
     | cons a b => rw [ho] at hh; simp at hh; subst hh; exact ⟨b, rfl⟩
    have hhd := order_head (apart_iff.1 HAP.out) hr
    have hbh := best_head (apart_iff.1 HAP.out) hr
    have hhm : h < m2 := by have := hhd.1; rw [List.length_map] at this; omega
    obtain ⟨y, hy⟩ : ∃ y, ys[h]? = some y := ⟨_, List.getElem?_eq_getElem (by omega)⟩
    rw [at_tv hy] at hbh
    have HBH := hid hbh
    obtain ⟨b2, o2, rfl⟩ := HTY.out.some_ hy
    have gy := HGY.out y (List.mem_of_getElem? hy)
    have K2 := hid (fun (v : ExtW w2) => tdist_tv l L ln lc v.v (HL.out.ext (HW1.out.trans (HW2.out.trans v.h))) HN.out HC.out x y (HGX1.out.ext (HW2.out.trans v.h)) (gy.ext (HW2.out.trans v.h)))
    have hcv : ∀ v : ExtW w2, v.v.cell? ad = some (.int .i64 (h : Int)) := fun v => by
     obtain ⟨ad', q', e1, hq', hc⟩ := (HS4.out.ext v.h).at_map hm0
     injection e1 with e1
     subst e1
     rw [hr] at hq'
     simp at hq'
     subst hq'
     have e2 : ad.add 0 = ad := by unfold Addr.add; simp
     rw [e2] at hc
     exact hc
    have a0 := fun (v : ExtW w2) => (HAT2.out.ext v.h).cell 0 _ rfl
    have a1 := fun (v : ExtW w2) => (HAT2.out.ext v.h).cell 1 _ rfl
    have a2 := fun (v : ExtW w2) => (HAT2.out.ext v.h).cell 2 _ rfl
    have a3 := fun (v : ExtW w2) => (HAT2.out.ext v.h).cell 3 _ rfl
    have e0 := fun (v : ExtW w2) => HTY.out.c0 hy v.v (HW2.out.trans v.h)
    have e1 := fun (v : ExtW w2) => HTY.out.c1 hy v.v (HW2.out.trans v.h)
    have e2 := fun (v : ExtW w2) => HTY.out.c2 hy v.v (HW2.out.trans v.h)
    have e3 := fun (v : ExtW w2) => HTY.out.c3 hy v.v (HW2.out.trans v.h)
    have hhI : (h : Int) < (m2 : Int) := by omega
    have hm0I : (0 : Int) < (m2 : Int) := by omega
    have qm0 : decide ((0 : Int) < (m2 : Int)) = true := by simpa using hm0I
    clear hh hr hhd hbh hy gy hol
    by_cases h60 : distP (l.map nearOf) x.t y.t ≤ 60
    ·have hbt := HBH.out
     rw [if_pos h60] at hbt
     have hfd := bestL_found (map_tv HX.out) HBL.out hbt
     rw [HMX.out, HMY.out] at hfd
     have HD2 := hid (HD.out.trans (bestR_some HH.out hfd))
     have q60 : decide (distP (l.map nearOf) x.t y.t ≤ 60) = true := by simpa using h60
     clear hbt hfd
     generalize distP (l.map nearOf) x.t y.t = D0 at *
     go_wp2_with fail
     refine wp_region_ext (by kernel_rfl) (by kernel_rfl) ?_
     repeat (go_big_quiet_step ((go_at_call 87; with_reducible exact ExtW.call (K2.out _))))
     refine wpQuiet_nil ?_
     intro wz hz
     have HZZ := hid (HW1.out.trans (HW2.out.trans (ext_of hz)))
     have hcz := (hcv ⟨wz, ext_of hz⟩)
     simp only at hcz
     clear hz a0 a1 a2 a3 e0 e1 e2 e3 hcv
     go_wp2
     rw [Exit.noGoto_ret]
     go_ret2
     exact ⟨by rw [HD2.out]; rfl, HZZ.out⟩
    ·have hbt := HBH.out
     rw [if_neg h60] at hbt
     have HNX := hid ((bestL_next (map_tv HX.out) HBL.out).trans hbt)
     have q60 : decide (distP (l.map nearOf) x.t y.t ≤ 60) = false := by simpa using h60
     clear hbt
     generalize distP (l.map nearOf) x.t y.t = D0 at *
     go_wp2_with fail
     refine wp_region_ext (by kernel_rfl) (by kernel_rfl) ?_
     repeat (go_big_quiet_step ((go_at_call 87; with_reducible exact ExtW.call (K2.out _))))
     refine wpQuiet_nil ?_
     intro wz hz
     have HZZ := hid (HW2.out.trans (ext_of hz))
     clear hz a0 a1 a2 a3 e0 e1 e2 e3 hcv
     go_wp2
     exact ⟨⟨k + 1, by omega, by go_num, rfl, HNX.out, HZZ.out⟩, by simp [intOf]; omega⟩
  ·have hkk : k = n2 := by omega
   subst hkk
   have hbl := HBL.out
   rw [List.take_of_length_le (by rw [List.length_map]; omega), HMX.out, HMY.out] at hbl
   have HD2 := hid (HD.out.trans (bestR_none HH.out hbl))
   go_wp2
   go_ret2
   exact ⟨by rw [HD2.out]; rfl, HW1.out.trans HWR.out⟩
end Go.Proofs.YtljdlkonlnjadaaGreatDoor
namespace Go.Proofs.YtljdlkonlnjadaaGreatDoor
open Go.RowKit
theorem want_ok {al : List Ali} : ∀ {l : List BytesC}, (∀ s ∈ l, (canL al s).2 = 0) → wantC al l = (l.map fun s => (canL al s).1, 0)
 | [], _ => rfl
 | s :: r, h => by
   unfold wantC
   rw [if_pos (h s (by simp)), want_ok (l := r) fun x hx => h x (by simp [hx])]
   simp
theorem want_bad {al : List Ali} : ∀ {l : List BytesC} {k : Nat} {s : BytesC}, (∀ j x, j < k → l[j]? = some x → (canL al x).2 = 0) → l[k]? = some s → (canL al s).2 ≠ 0 → wantC al l = ([], (canL al s).2)
 | [], k, s, _, h, _ => by simp at h
 | x :: r, 0, s, _, h, hb => by
   simp at h
   subst h
   unfold wantC
   rw [if_neg hb]
 | x :: r, k + 1, s, hp, h, hb => by
   unfold wantC
   rw [if_pos (hp 0 x (by omega) rfl), want_bad (l := r) (k := k) (fun j y hj hy => hp (j + 1) y (by omega) (by simpa using hy)) (by simpa using h) hb, if_neg hb]
def canB (al : List Ali) (s : ByteArray) : ByteArray := ⟨(canL al s.data.toList).1.toArray⟩
theorem Sl.one2 (w : World) (X : Obj) (u : Value) (t : TypeId) : Sl ((w.alloc X).alloc (.cells #[u] t)) (some ⟨w.heap.size + 1, 0, none⟩) 1 [u] := by
 have h := Sl.one (w.alloc X) u t
 rwa [World.size_alloc] at h
def WantI (w2 : World) (al : List Ali) (R : List ByteArray) (n : Nat) (out i : Value) (wr : World) : Prop :=
 ∃ k : Nat, k ≤ n ∧ i = .int .i64 k ∧ (∀ j x, j < k → (dl R)[j]? = some x → (canL al x).2 = 0) ∧ wr.ownsRow w2.heap.size 9 1 out k (((R.take k).map (canB al)).map .string) ∧ Ext w2 wr
def HaveI (w2 : World) (l : List Lc) (n : Nat) (out i : Value) (wr : World) : Prop :=
 ∃ k : Nat, k ≤ n ∧ i = .int .i64 k ∧ wr.ownsRow w2.heap.size 9 1 out k (((l.take k).map Lc.t).map .string) ∧ Ext w2 wr
theorem canB_size (al : List Ali) (s : ByteArray) : (canB al s).size ≤ 60 := by
 show (canL al s.data.toList).1.toArray.size ≤ 60
 rw [List.size_toArray]
 by_cases h : (canL al s.data.toList).2 = 0
 ·obtain ⟨e, h1, h2, _⟩ := can_shape h
  rw [h1]; exact textP_len h2
 ·rw [can_bad h]; simp
theorem dl_get {R : List ByteArray} {k : Nat} {s : ByteArray} (h : R[k]? = some s) : (dl R)[k]? = some s.data.toList := by unfold dl; rw [List.getElem?_map, h]; rfl
theorem dl_want (al : List Ali) (R : List ByteArray) : dl (R.map (canB al)) = (dl R).map fun s => (canL al s).1 := by
 unfold dl
 rw [List.map_map, List.map_map]
 rfl
theorem dl_have (l : List Lc) : dl (l.map Lc.t) = (l.map locOf).map (·.1) := by
 unfold dl
 rw [List.map_map, List.map_map]
 rfl
def RetNeg (w : World) (F : BytesC × Int) (e : Ending) (w' : World) : Prop := ∃ b : ByteArray, e = .returned (.tuple #[.string b, .int .i64 F.2]) ∧ b.data.toList = F.1 ∧ Ext w w'
theorem ret_neg {w w' : World} {F : BytesC × Int} {b : ByteArray} {c : Int} (h : F = (b.data.toList, c)) (hw : Ext w w') : RetNeg w F (.returned (.tuple #[.string b, .int .i64 c])) w' := by subst h; exact ⟨b, rfl, rfl, hw⟩
theorem neg_no {T : List LocP} {al : List Ali} {l : List NearP} {R : List BytesC} (h : (usableC T al && validN l) = false) : negC T al l R = ([], 1) := by unfold negC; rw [if_neg (by rw [h]; decide)]
theorem neg_want {T : List LocP} {al : List Ali} {l : List NearP} {R : List BytesC} {e : Int} (h : (usableC T al && validN l) = true) (hw : wantC al R = ([], e)) (he : e ≠ 0) : negC T al l R = ([], e) := by
 unfold negC; rw [if_pos h, hw, if_neg he]
theorem neg_root {T : List LocP} {al : List Ali} {l : List NearP} {R W S : List BytesC} (h : (usableC T al && validN l) = true) (hw : wantC al R = (W, 0)) (hS : S = T.map (·.1)) (hb : (bestR EC l W S).2 ≠ 0) : negC T al l R = (undP, 0) := by
 subst hS
 unfold negC; rw [if_pos h, hw, if_pos rfl, if_neg hb]
theorem neg_best {T : List LocP} {al : List Ali} {l : List NearP} {R W S : List BytesC} {k : Nat} (h : (usableC T al && validN l) = true) (hw : wantC al R = (W, 0)) (hS : S = T.map (·.1)) (hb : (bestR EC l W S).2 = 0) (hk : (bestR EC l W S).1 = (k : Int)) : negC T al l R = ((tgC T k).1, 0) := by
 subst hS
 unfold negC; rw [if_pos h, hw, if_pos rfl, if_pos hb, hk, Int.toNat_natCast]
set_option maxHeartbeats 4000000 in
theorem tneg_any (l : List Lc) (al : List Ali) (nl : List Nr) (L A N : Option Addr) (ln lc n c m d : Nat) (R : List ByteArray) (E : Option Addr) (en ec : Nat) (w : World) (hm : Mx w) (hL : Lcs w L ln l) (hln : ln ≤ 100000) (hA : Als w A n al) (hn : n ≤ 100000) (hz : ∀ a ∈ al, a.1.size ≤ 60000 ∧ a.2.size ≤ 60000) (hs : ∀ x ∈ l, x.t.size ≤ 60000)
 (hN : Nrs w N m nl) (hmm : m ≤ maxLen) (hzn : ∀ x ∈ nl, x.f.size ≤ 1000000 ∧ x.o.size ≤ 1000000) (hR : Sl w E en (R.map .string)) (hen : en ≤ 100000) (hRs : ∀ s ∈ R, s.size ≤ 60000) :
 Calls Tryz.prog 15 #[.agg #[.slice L ln lc, .slice A n c, .slice N m d], .slice E en ec] w (RetNeg w (negC (l.map locOf) al (nl.map nearOf) (dl R))) := by
 obtain ⟨i0, hi, hz0, hz1, hz2⟩ := info_parts (show (Tryz.prog.info? 9).map (fun i => (i.zero, i.size, i.bytes)) = some (some (.string ⟨#[]⟩), 1, 16) from by kernel_rfl)
 have KB := hid (AtC.new w #[.slice L ln lc, .slice A n c, .slice N m d] : AtC 26 _ _ _)
 have HW0 := hid ((Ext.refl w).alloc (.cells #[.slice L ln lc, .slice A n c, .slice N m d] 26))
 have h0 := KB.out.cell 0 _ rfl
 have h1 := KB.out.cell 1 _ rfl
 have h2 := KB.out.cell 2 _ rfl
 have HM := hid hm
 have HL := hid hL
 have HLN := hid hL.len
 have HA := hid hA
 have HN := hid hN
 have HR := hid hR
 have hrl : R.length = en := by have h := hR.1; rwa [List.length_map] at h
 have HRL := hid hrl
 have HZ := hid hz
 have HS := hid hs
 have HZN := hid hzn
 have HRS := hid hRs
 have K1 := cusable_any l al L A N ln lc n c m d _ (hm.ext HW0.out) (hL.ext HW0.out) hln (hA.ext HW0.out) hn hz hs
 have K2 := fun W (h : Ext w W) => tvalN_any nl N m d W (HN.out.ext h) hmm HZN.out
 have f0 := fun h => neg_no (T := l.map locOf) (al := al) (l := nl.map nearOf) (R := dl R) h
 have f1 := fun e h => neg_want (T := l.map locOf) (al := al) (l := nl.map nearOf) (R := dl R) (e := e) h
 have f2 := fun W S h => neg_root (T := l.map locOf) (al := al) (l := nl.map nearOf) (R := dl R) (W := W) (S := S) h
 have f3 := fun W S k h => neg_best (T := l.map locOf) (al := al) (l := nl.map nearOf) (R := dl R) (W := W) (S := S) (k := k) h
 generalize negC (l.map locOf) al (nl.map nearOf) (dl R) = F at f0 f1 f2 f3
 generalize usableC (l.map locOf) al = u at K1 f0 f1 f2 f3
 generalize validN (nl.map nearOf) = v at K2 f0 f1 f2 f3
 have HF0 := hid f0
 have HF1 := hid f1
 have HF2 := hid f2
 have HF3 := hid f3
 have HK1 := hid K1
 have HK2 := hid K2
 clear hm hL hA hN hR hz hs hzn hRs hrl K1 K2 f0 f1 f2 f3
 go_enter Tryz.func15, Tryz.ntmps15
 cases u
 ·have HF := hid (HF0.out rfl)
  go_wp2_with fail
  refine HK1.out.mono ?_
  rintro e2 w2 ⟨rfl, hw2⟩
  have HW2 := hid (HW0.out.trans hw2)
  clear hw2 h0 h1 h2
  go_wp2
  go_ret2
  exact ret_neg HF.out HW2.out
 go_wp2_with fail
 refine HK1.out.mono ?_
 rintro e2 w2 ⟨rfl, hw2⟩
 have HW2 := hid (HW0.out.trans hw2)
 have KB2 := hid (KB.out.ext hw2)
 clear hw2 h0 h1 h2
 have h2 := KB2.out.cell 2 _ rfl
 cases v
 ·have HF := hid (HF0.out rfl)
  go_wp2_with fail
  refine (HK2.out _ HW2.out).mono ?_
  rintro e2 w3 ⟨rfl, hw3⟩
  have HW3 := hid (HW2.out.trans hw3)
  clear hw3 h2
  go_wp2
  go_ret2
  exact ret_neg HF.out HW3.out
 go_wp2_with fail
 refine (HK2.out _ HW2.out).mono ?_
 rintro e2 w3 ⟨rfl, hw3⟩
 have HW3 := hid (HW2.out.trans hw3)
 have KB3 := hid (KB2.out.ext hw3)
 clear hw3 h2
 go_wp2_with fail
 go_loopw [6, 27] (WantI w3 al R en) (fun _ i _ => en - (intOf i).toNat)
 case atStart => exact ⟨0, Nat.zero_le _, rfl, fun j x h _ => absurd h (Nat.not_lt_zero j), World.ownsRow_nil _ _ _ _, Ext.refl _⟩
 case round =>
  obtain ⟨k, hk, rfl, hok, how, hw⟩ := hrel
  have HOK := hid hok
  have HOW := hid how
  have HW := hid hw
  clear hok how hw
  by_cases hkn : k < en
  ·obtain ⟨ad, x, rfl, hx, hcx⟩ := (HR.out.ext (HW3.out.trans HW.out)).at_map hkn
   have g1 := (KB3.out.ext HW.out).cell 1 _ rfl
   have hkI : (k : Int) < (en : Int) := by omega
   have K3 := tacan_any al x A n c wr (HM.out.ext (HW3.out.trans HW.out)) (HA.out.ext (HW3.out.trans HW.out)) hn HZ.out (HRS.out x (List.mem_of_getElem? hx))
   rw [show strv (canL al x.data.toList).1 = .string (canB al x) from rfl] at K3
   have HX := hid hx
   have hbad := fun h => HF1.out (canL al x.data.toList).2 rfl (want_bad HOK.out (dl_get hx) h) h
   have hgo := HOK.out
   have hnx : (canL al x.data.toList).2 = 0 → ∀ j y, j < k + 1 → (dl R)[j]? = some y → (canL al y).2 = 0 := fun h j y hj hy => by
    by_cases e : j = k
    ·subst e
     rw [dl_get HX.out] at hy
     injection hy with hy
     rw [← hy]; exact h
    ·exact hgo j y (by omega) hy
   generalize (canL al x.data.toList).2 = ce at K3 hbad hnx
   have HBAD := hid hbad
   have HNX := hid hnx
   have HK3 := hid K3
   clear hx K3 hbad hgo hnx
   by_cases hce : ce = 0
   ·subst hce
    go_wp2_with fail
    refine HK3.out.mono ?_
    rintro e4 w4 ⟨rfl, hw4⟩
    have HW4 := hid (HW.out.trans hw4)
    have HOW4 := hid (own_ext HOW.out hw4)
    clear hw4 g1 hcx
    go_wp2_with (at_builtin; refine wpList_app2 _ rfl _ _ 35 rfl w3.heap.size 9 i0 _ 16 Tryz.underlying35 hi hz0 hz1 hz2 rfl _ k _ rfl (HOW4.out.alloc _) _ 1 _ _ rfl (Sl.one _ _ _) (by simp [Value.oneCell']) (by unfold maxLen; omega) (by omega) (by have := Ext.size HW4.out; simp; omega) ?_; intro v6 w6 hown6 hgrow6 hwh6; have HO6 := hid hown6; have HX6 := hid (ext_grown (a := w3) (B := w3.heap.size) (HW4.out.alloc _) (HOW4.out.alloc _) (Nat.le_refl _) hgrow6); clear hown6 hgrow6 hwh6)
    all_goals refine ⟨⟨k + 1, by omega, by go_num, HNX.out (by first | exact rfl | trivial), ?_, HX6.out⟩, by simp [intOf]; omega⟩
    all_goals rw [take_next HX.out, List.map_append, List.map_append]
    all_goals exact HO6.out
   ·have hnz : (ce == 0) = false := by simpa using hce
    have HF := hid (HBAD.out hce)
    go_wp2_with fail
    refine HK3.out.mono ?_
    rintro e4 w4 ⟨rfl, hw4⟩
    have HW4 := hid (HW.out.trans hw4)
    clear hw4 g1 hcx
    go_wp2
    go_ret2
    exact ret_neg HF.out (HW3.out.trans HW4.out)
  ·have hkk : k = en := by omega
   subst hkk
   have hwant : wantC al (dl R) = ((dl R).map fun s => (canL al s).1, 0) := want_ok fun s hs => by
    obtain ⟨j, hj, rfl⟩ := List.getElem_of_mem hs
    exact HOK.out j _ (by have : (dl R).length = R.length := by unfold dl; simp
                          have := HRL.out; omega) (List.getElem?_eq_getElem hj)
   obtain ⟨A5, c5, hv5, hs5, hc5⟩ := own_sl HOW.out
   subst hv5
   rw [List.take_of_length_le (by rw [HRL.out]; exact Nat.le_refl _)] at hs5
   have HS5 := hid hs5
   have HWT := hid hwant
   have KB4 := hid (KB3.out.ext HW.out)
   have HW4 := hid (HW3.out.trans HW.out)
   have g0 := KB4.out.cell 0 _ rfl
   obtain ⟨wo, rfl⟩ : ∃ wo : World, wo = wr := ⟨_, rfl⟩
   clear hwant hs5 HOW
   go_wp2_with fail
   go_loopw [7, 49] (HaveI wo l ln) (fun _ i _ => ln - (intOf i).toNat)
   case atStart => exact ⟨0, Nat.zero_le _, rfl, World.ownsRow_nil _ _ _ _, Ext.refl _⟩
   case round =>
    obtain ⟨q, hq, rfl, how, hw⟩ := hrel
    have HOW := hid how
    have HW9 := hid hw
    clear how hw g0
    by_cases hqn : q < ln
    ·obtain ⟨x, hx⟩ : ∃ x, l[q]? = some x := ⟨_, List.getElem?_eq_getElem (by have := HLN.out; omega)⟩
     obtain ⟨b, o, rfl, hb, hc⟩ := (HL.out.ext (HW4.out.trans HW9.out)).at_ hx
     have a0 := hc 0 _ rfl
     have a1 := hc 1 _ rfl
     have a2 := hc 2 _ rfl
     have a3 := hc 3 _ rfl
     have a4 := hc 4 _ rfl
     have a5 := hc 5 _ rfl
     have a6 := hc 6 _ rfl
     have a7 := hc 7 _ rfl
     have a8 := hc 8 _ rfl
     have a9 := hc 9 _ rfl
     have a10 := hc 10 _ rfl
     have a11 := hc 11 _ rfl
     have a12 := hc 12 _ rfl
     have a13 := hc 13 _ rfl
     have a14 := hc 14 _ rfl
     have a15 := hc 15 _ rfl
     rw [Nat.add_zero] at a0
     have hqI : (q : Int) < (ln : Int) := by omega
     have HX := hid hx
     have HOW9 := hid (HOW.out.alloc (.cells #[.string x.t, .string x.p, .string x.d, .slice (x.A 0) (x.n 0) (x.c 0), .slice (x.A 1) (x.n 1) (x.c 1), .string (x.s 0), .string (x.s 1), .string (x.s 2), .string (x.s 3), .int .i64 (x.i 0), .int .i64 (x.i 1), .slice (x.A 2) (x.n 2) (x.c 2), .slice (x.A 3) (x.n 3) (x.c 3), .slice (x.A 4) (x.n 4) (x.c 4), .slice (x.A 5) (x.n 5) (x.c 5), .slice (x.A 6) (x.n 6) (x.c 6)] 37))
     have HX9 := hid (HW9.out.alloc (.cells #[.string x.t, .string x.p, .string x.d, .slice (x.A 0) (x.n 0) (x.c 0), .slice (x.A 1) (x.n 1) (x.c 1), .string (x.s 0), .string (x.s 1), .string (x.s 2), .string (x.s 3), .int .i64 (x.i 0), .int .i64 (x.i 1), .slice (x.A 2) (x.n 2) (x.c 2), .slice (x.A 3) (x.n 3) (x.c 3), .slice (x.A 4) (x.n 4) (x.c 4), .slice (x.A 5) (x.n 5) (x.c 5), .slice (x.A 6) (x.n 6) (x.c 6)] 37))
     clear hx hc hb
     go_wp2_with (at_builtin; refine wpList_app2 _ rfl _ _ 35 rfl wo.heap.size 9 i0 _ 16 Tryz.underlying35 hi hz0 hz1 hz2 rfl _ q _ rfl (HOW9.out.alloc _) _ 1 _ _ rfl (Sl.one2 _ _ _ _) (by simp [Value.oneCell']) (by unfold maxLen; omega) (by omega) (by have := Ext.size HX9.out; simp at this ⊢; omega) ?_; intro v6 w6 hown6 hgrow6 hwh6; have HO6 := hid hown6; have HX6 := hid (ext_grown (a := wo) (B := wo.heap.size) (HX9.out.alloc _) (HOW9.out.alloc _) (Nat.le_refl _) hgrow6); clear hown6 hgrow6 hwh6)
     all_goals refine ⟨⟨q + 1, by omega, by go_num, ?_, HX6.out⟩, by simp [intOf]; omega⟩
     all_goals rw [take_next HX.out, List.map_append, List.map_append]
     all_goals exact HO6.out
    ·have hqq : q = ln := by omega
     subst hqq
     obtain ⟨A7, c7, hv7, hs7, hc7⟩ := own_sl HOW.out
     subst hv7
     rw [List.take_of_length_le (by rw [HLN.out]; exact Nat.le_refl _)] at hs7
     have g2 := (KB4.out.ext HW9.out).cell 2 _ rfl
     have K5 := tbest_any nl N m d (R.map (canB al)) (l.map Lc.t) A5 A7 k c5 q c7 _ (HM.out.ext (HW4.out.trans HW9.out)) (HN.out.ext (HW4.out.trans HW9.out)) hmm HZN.out (HS5.out.ext HW9.out) hs7 hen hln
      (fun s hs => by obtain ⟨y, _, rfl⟩ := List.mem_map.1 hs; have := canB_size al y; omega) (fun s hs => by obtain ⟨y, hy, rfl⟩ := List.mem_map.1 hs; exact HS.out y hy)
     have hrg := fun h => best_range (l := nl.map nearOf) (R := dl (R.map (canB al))) (S := dl (l.map Lc.t)) h
     have f2 := HF2.out (dl (R.map (canB al))) (dl (l.map Lc.t)) rfl (by rw [dl_want]; exact HWT.out) (dl_have l)
     have f3 := fun k => HF3.out (dl (R.map (canB al))) (dl (l.map Lc.t)) k rfl (by rw [dl_want]; exact HWT.out) (dl_have l)
     have hdl : (dl (l.map Lc.t)).length = q := by unfold dl; rw [List.length_map, List.length_map]; exact HLN.out
     rw [hdl] at hrg
     generalize bestR EC (nl.map nearOf) (dl (R.map (canB al))) (dl (l.map Lc.t)) = D at K5 hrg f2 f3
     obtain ⟨bi, be⟩ := D
     simp only at K5 hrg f2 f3
     have HK5 := hid K5
     have HS7 := hid hs7
     have HG2 := hid f2
     have HG3 := hid f3
     clear K5 hs7 f2 f3 hdl HOW
     by_cases hbe : be = 0
     ·subst hbe
      rcases hrg (.inl rfl) with h8 | ⟨kk, hkk1, hkk2⟩
      ·exact absurd h8 (by decide)
      subst hkk1
      have HF := hid (HG3.out kk rfl rfl)
      have hkkI : (kk : Int) < (q : Int) := by omega
      go_wp2_with fail
      refine HK5.out.mono ?_
      rintro e6 w6 ⟨rfl, hw6⟩
      have HW6 := hid (HW9.out.trans hw6)
      obtain ⟨ad7, x7, rfl, hx7, hc7⟩ := (HS7.out.ext hw6).at_map hkk2
      have HX7 := hid (show (tgC (l.map locOf) kk).1 = x7.data.toList from by
       rw [List.getElem?_map] at hx7
       cases hl7 : l[kk]? with
       | none => rw [hl7] at hx7; cases hx7
       | some y =>
         rw [hl7] at hx7
         injection hx7 with hx7
         rw [tg_get (show (l.map locOf)[kk]? = some (locOf y) from by rw [List.getElem?_map, hl7]; rfl), ← hx7]
         rfl)
      clear hw6 g2 hx7 hrg
      go_wp2
      go_ret2
      exact ret_neg (by rw [HF.out, HX7.out]) (HW4.out.trans HW6.out)
     ·have hnz : (be == 0) = false := by simpa using hbe
      have HF := hid (HG2.out hbe)
      go_wp2_with fail
      refine HK5.out.mono ?_
      rintro e6 w6 ⟨rfl, hw6⟩
      have HW6 := hid (HW9.out.trans hw6)
      clear hw6 g2 hrg
      go_wp2
      go_ret2
      exact ret_neg HF.out (HW4.out.trans HW6.out)
end Go.Proofs.YtljdlkonlnjadaaGreatDoor
