import Derived.Test.YtiijdojihleggaaGreatDoorQNPA
import Derived.Test.YtiijdojihleggaaGreatDoorQNPF
import Derived.Test.YtiijdojihleggaaGreatDoorQNB1
import Derived.Test.YtiijdojihleggaaGreatDoorQNZB
import Derived.Test.YtiijdojihleggaaGreatDoorQNP2
set_option maxRecDepth 100000
set_option linter.unusedSimpArgs false
set_option linter.unusedVariables false
namespace Go.Proofs.YtiijdojihleggaaGreatDoor
abbrev PlP := Int × By × By
abbrev NmP := By × By
def placesF : F → List PlP
 | .nil => []
 | .cons k t n s cs ps r => (if 2 ≤ k ∧ k ≤ 9 then [(k, s, n)] else []) ++ (placesF ps ++ (placesF cs ++ placesF r))
def misB (out : List NmP) (x y : By) : Bool := out.any fun p => (p.1 == x) != (p.2 == y)
def hasB (out : List NmP) (x : By) : Bool := out.any fun p => p.1 == x
def parStep (out : List NmP) (x y : PlP) : Option (List NmP) :=
 if x.1 ≠ y.1 ∨ x.2.1 ≠ y.2.1 then none else if misB out x.2.2 y.2.2 = true then none else if hasB out x.2.2 = true then some out else some (out ++ [(x.2.2, y.2.2)])
def parL : List PlP → List PlP → List NmP → Option (List NmP)
 | x :: xs, y :: ys, out => (parStep out x y).bind (parL xs ys)
 | _, _, out => some out
def parV (f g : F) : Option (List NmP) :=
 if validF false f = true ∧ validF false g = true ∧ (placesF f).length = (placesF g).length then parL (placesF f) (placesF g) [] else none
def swpN (p : NmP) : NmP := (p.2, p.1)
def OneN (out : List NmP) : Prop := ∀ p ∈ out, ∀ q ∈ out, p.1 = q.1 ↔ p.2 = q.2
theorem misB_iff {out : List NmP} {x y : By} : misB out x y = false ↔ ∀ p ∈ out, (p.1 = x ↔ p.2 = y) := by
 unfold misB
 rw [List.any_eq_false]
 constructor
 ·intro h p hp
  have h1 := h p hp
  by_cases h2 : p.1 = x <;> by_cases h3 : p.2 = y <;> simp_all
 ·intro h p hp
  have h1 := h p hp
  by_cases h2 : p.1 = x
  ·rw [beq_iff_eq.2 h2, beq_iff_eq.2 (h1.1 h2)]; decide
  ·have h3 : ¬ p.2 = y := fun e => h2 (h1.2 e)
   rw [beq_eq_false_iff_ne.2 h2, beq_eq_false_iff_ne.2 h3]; decide
theorem hasB_iff {out : List NmP} {x : By} : hasB out x = true ↔ ∃ p ∈ out, p.1 = x := by
 unfold hasB; simp
theorem mis_swp (out : List NmP) (x y : By) : misB (out.map swpN) y x = misB out x y := by
 unfold misB
 rw [List.any_map]
 congr 1
 funext p
 simp only [Function.comp, swpN]
 cases p.1 == x <;> cases p.2 == y <;> rfl
theorem has_swp {out : List NmP} {x y : By} (h : misB out x y = false) : hasB (out.map swpN) y = hasB out x := by
 rw [Bool.eq_iff_iff, hasB_iff, hasB_iff]
 rw [misB_iff] at h
 constructor
 ·rintro ⟨p, hp, e⟩
  obtain ⟨q, hq, rfl⟩ := List.mem_map.1 hp
  exact ⟨q, hq, (h q hq).2 e⟩
 ·rintro ⟨p, hp, e⟩
  exact ⟨swpN p, List.mem_map.2 ⟨p, hp, rfl⟩, (h p hp).1 e⟩
theorem step_swp (out : List NmP) (x y : PlP) : parStep (out.map swpN) y x = (parStep out x y).map (List.map swpN) := by
 unfold parStep
 rw [mis_swp]
 by_cases h1 : x.1 ≠ y.1 ∨ x.2.1 ≠ y.2.1
 ·rw [if_pos h1, if_pos (by rcases h1 with h | h; exact .inl h.symm; exact .inr h.symm)]; rfl
 ·rw [if_neg h1, if_neg (fun h => h1 (by rcases h with h | h; exact .inl h.symm; exact .inr h.symm))]
  cases h2 : misB out x.2.2 y.2.2 with
  | true => rw [if_pos rfl, if_pos rfl]; rfl
  | false =>
    rw [has_swp h2]
    simp only [Bool.false_eq_true, if_false]
    split
    ·rfl
    ·simp [swpN]
theorem par_swp : ∀ (xs ys : List PlP) (out : List NmP), parL ys xs (out.map swpN) = (parL xs ys out).map (List.map swpN)
 | [], [], out => rfl
 | [], _ :: _, out => rfl
 | _ :: _, [], out => rfl
 | x :: xs, y :: ys, out => by
   simp only [parL]
   rw [step_swp]
   cases parStep out x y with
   | none => rfl
   | some o => exact par_swp xs ys o
theorem parV_swp (f g : F) : parV g f = (parV f g).map (List.map swpN) := by
 unfold parV
 by_cases h : validF false f = true ∧ validF false g = true ∧ (placesF f).length = (placesF g).length
 ·rw [if_pos h, if_pos ⟨h.2.1, h.1, h.2.2.symm⟩]
  exact par_swp (placesF f) (placesF g) []
 ·rw [if_neg h, if_neg (fun q => h ⟨q.2.1, q.1, q.2.2.symm⟩)]; rfl
theorem step_one {out o : List NmP} {x y : PlP} (h1 : OneN out) (h : parStep out x y = some o) : OneN o ∧ (∀ p ∈ out, p ∈ o) ∧ (x.2.2, y.2.2) ∈ o ∧ (∀ p ∈ o, p ∈ out ∨ p = (x.2.2, y.2.2)) ∧ x.1 = y.1 ∧ x.2.1 = y.2.1 := by
 unfold parStep at h
 split at h
 ·cases h
 ·rename_i hk
  have hk1 : x.1 = y.1 := Classical.byContradiction fun e => hk (.inl e)
  have hk2 : x.2.1 = y.2.1 := Classical.byContradiction fun e => hk (.inr e)
  split at h
  ·cases h
  ·rename_i hm
   have hm : misB out x.2.2 y.2.2 = false := by simpa using hm
   rw [misB_iff] at hm
   split at h
   ·rename_i hh
    injection h with h
    subst h
    obtain ⟨p, hp, e⟩ := hasB_iff.1 hh
    refine ⟨h1, fun p h => h, ?_, fun p h => .inl h, hk1, hk2⟩
    have e2 := (hm p hp).1 e
    rw [show (x.2.2, y.2.2) = p from by rw [← e, ← e2]]
    exact hp
   ·injection h with h
    subst h
    refine ⟨fun p hp q hq => ?_, fun p h => List.mem_append_left _ h, by simp, fun p h => by simpa using h, hk1, hk2⟩
    rcases List.mem_append.1 hp with hp | hp
    ·rcases List.mem_append.1 hq with hq | hq
     ·exact h1 p hp q hq
     ·rw [List.mem_singleton.1 hq]; exact hm p hp
    ·rw [List.mem_singleton.1 hp]
     rcases List.mem_append.1 hq with hq | hq
     ·exact ⟨fun e => ((hm q hq).1 e.symm).symm, fun e => ((hm q hq).2 e.symm).symm⟩
     ·rw [List.mem_singleton.1 hq]; simp
theorem par_spec : ∀ (xs ys : List PlP) (out o : List NmP), xs.length = ys.length → OneN out → parL xs ys out = some o →
 OneN o ∧ (∀ p ∈ out, p ∈ o) ∧ (∀ (i : Nat) (x y : PlP), xs[i]? = some x → ys[i]? = some y → (x.2.2, y.2.2) ∈ o ∧ x.1 = y.1 ∧ x.2.1 = y.2.1) ∧ (∀ p ∈ o, p ∈ out ∨ (∃ x ∈ xs, x.2.2 = p.1) ∧ ∃ y ∈ ys, y.2.2 = p.2)
 | [], [], out, o, _, h1, h => by
   injection h with h
   subst h
   exact ⟨h1, fun p h => h, fun i x y hx => by simp at hx, fun p h => .inl h⟩
 | [], _ :: _, _, _, hl, _, _ => by simp at hl
 | _ :: _, [], _, _, hl, _, _ => by simp at hl
 | x :: xs, y :: ys, out, o, hl, h1, h => by
   simp only [parL] at h
   cases hs : parStep out x y with
   | none => rw [hs] at h; cases h
   | some o1 =>
     rw [hs] at h
     obtain ⟨a1, a2, a3, a4, a5, a6⟩ := step_one h1 hs
     obtain ⟨b1, b2, b3, b4⟩ := par_spec xs ys o1 o (by simpa using hl) a1 h
     refine ⟨b1, fun p hp => b2 p (a2 p hp), fun i u v hu hv => ?_, fun p hp => ?_⟩
     ·cases i with
      | zero =>
        simp at hu hv
        subst hu; subst hv
        exact ⟨b2 _ a3, a5, a6⟩
      | succ i => exact b3 i u v (by simpa using hu) (by simpa using hv)
     ·rcases b4 p hp with h | ⟨⟨u, hu, e1⟩, v, hv, e2⟩
      ·rcases a4 p h with h | h
       ·exact .inl h
       ·exact .inr ⟨⟨x, List.mem_cons_self .., by rw [h]⟩, y, List.mem_cons_self .., by rw [h]⟩
      ·exact .inr ⟨⟨u, List.mem_cons_of_mem _ hu, e1⟩, v, List.mem_cons_of_mem _ hv, e2⟩
theorem one_nil : OneN [] := fun p hp => by cases hp
def lookP (l : List NmP) (n : By) : Option By := (l.find? fun p => p.1 == n).map (·.2)
theorem look_some {l : List NmP} {n m : By} (h : lookP l n = some m) : (n, m) ∈ l := by
 unfold lookP at h
 rw [Option.map_eq_some_iff] at h
 obtain ⟨p, hp, rfl⟩ := h
 have h1 := List.find?_some hp
 have h2 := List.mem_of_find?_eq_some hp
 rw [show (n, p.2) = p from by rw [show n = p.1 from by simpa using (beq_iff_eq.1 h1).symm]]
 exact h2
theorem look_of {l : List NmP} (h1 : OneN l) {n m : By} (h : (n, m) ∈ l) : lookP l n = some m := by
 unfold lookP
 cases hf : l.find? fun p => p.1 == n with
 | none =>
   rw [List.find?_eq_none] at hf
   exact absurd (beq_self_eq_true n) (hf _ h)
 | some p =>
   have h2 := List.find?_some hf
   have h3 := List.mem_of_find?_eq_some hf
   have : p.2 = m := (h1 p h3 (n, m) h).1 (by simpa using h2)
   simp [this]
def nameR (l : List NmP) (k : Int) (n : By) : By := if 2 ≤ k ∧ k ≤ 9 then (lookP l n).getD [] else n
def renF (l : List NmP) : F → F
 | .nil => .nil
 | .cons k t n s cs ps r => .cons k t (nameR l k n) s (renF l cs) (renF l ps) (renF l r)
def knowF (l : List NmP) (f : F) : Bool := (usesF f).all fun n => (lookP l n).isSome
def fitP (s t x : By) : By × Int :=
 match parseR false s, parseR false t, parseR false x with
 | .ok a, .ok b, .ok c => match parV a c with
   | some l => if knowF l b = true then (if validF false (renF l b) = true then (txtP [32] (renF l b), 0) else ([], 6)) else ([], 8)
   | none => ([], 8)
 | _, _, _ => ([], 3)
end Go.Proofs.YtiijdojihleggaaGreatDoor
namespace Go.Proofs.YtiijdojihleggaaGreatDoor
open Go.RowKit
theorem nil_isNil {f : F} (h : f.isNil = true) : f = .nil := by
 cases f with
 | nil => rfl
 | cons => cases h
theorem form_sub {d : Nat} {c pt : Bool} {k : Int} {t n s : By} {cs ps r : F} (h : formB d c pt (.cons k t n s cs ps r) = true) :
 formB d c (k == 1) r = true ∧ (2 ≤ k ∧ k ≤ 9 → nameB n = true) ∧ 1 ≤ k ∧ k ≤ 11 ∧ ((cs = .nil ∧ (ps = .nil ∨ ∃ d' c', formB d' c' false ps = true)) ∨ (ps = .nil ∧ ∃ kind d' c', casB kind d' c' [] cs = true)) := by
 rw [formB] at h
 simp only [Bool.and_eq_true] at h
 obtain ⟨⟨_, h2⟩, h3⟩ := h
 refine ⟨h3, ?_⟩
 split at h2
 ·rename_i hk
  simp only [Bool.and_eq_true] at h2
  exact ⟨fun hh => by omega, by omega, by omega, .inl ⟨nil_isNil h2.1.2, .inl (nil_isNil h2.2)⟩⟩
 split at h2
 ·simp only [Bool.and_eq_true] at h2
  exact ⟨fun hh => by omega, by omega, by omega, .inl ⟨nil_isNil h2.1.2, .inl (nil_isNil h2.2)⟩⟩
 split at h2
 ·simp only [Bool.and_eq_true] at h2
  exact ⟨fun _ => h2.1.1.1.1, by omega, by omega, .inl ⟨nil_isNil h2.1.2, .inl (nil_isNil h2.2)⟩⟩
 split at h2
 ·simp only [Bool.and_eq_true] at h2
  exact ⟨fun _ => h2.1.1.1.1, by omega, by omega, .inl ⟨nil_isNil h2.1.2, .inl (nil_isNil h2.2)⟩⟩
 split at h2
 ·simp only [Bool.and_eq_true] at h2
  exact ⟨fun _ => h2.1.1.1.1, by omega, by omega, .inl ⟨nil_isNil h2.1.2, .inl (nil_isNil h2.2)⟩⟩
 split at h2
 ·simp only [Bool.and_eq_true] at h2
  exact ⟨fun _ => h2.1.1.1.1, by omega, by omega, .inl ⟨nil_isNil h2.1.2, .inl (nil_isNil h2.2)⟩⟩
 split at h2
 ·simp only [Bool.and_eq_true] at h2
  exact ⟨fun _ => h2.1.1.1.1.2, by omega, by omega, .inl ⟨nil_isNil h2.1.2, .inr ⟨_, _, h2.2⟩⟩⟩
 split at h2
 ·simp only [Bool.and_eq_true] at h2
  exact ⟨fun _ => h2.1.1.1.1.1.1.2, by omega, by omega, .inr ⟨nil_isNil h2.1.1.1.2, ⟨_, _, _, h2.1.1.2⟩⟩⟩
 ·cases h2
theorem cas_sub {kind d : Nat} {c : Bool} {seen : List By} {k : Int} {t n s : By} {cs ps r : F} (h : casB kind d c seen (.cons k t n s cs ps r) = true) :
 k = 0 ∧ cs = .nil ∧ formB d c false ps = true ∧ casB kind d c (seen ++ [n]) r = true := by
 rw [casB] at h
 simp only [Bool.and_eq_true, beq_iff_eq] at h
 exact ⟨h.1.1.1.1.1.1.1, nil_isNil h.1.1.1.1.2, h.1.2, h.2⟩
section
variable {P : Program} (w : World)
theorem wpList_appSl {ops : Array Oper} {rest : List Oper} {o : Oper} {a : Act} {Q : Exit → Act → World → Prop} (hgd : o.guard = none) (s x : Operand) (t : TypeId)
 (ho : o.op = .call { callee := .builtin .append, args := #[s, x], argTypes := #[t, t] })
 (base : Nat) (e : TypeId) (i : TypeInfo) (z : Value) (size bytes : Nat) (ht : P.underlying t = some (.slice e)) (hi : P.info? e = some i) (hz : i.zero = some z)
 (hsize : i.size = size) (hby : i.bytes = bytes) (hzs : z.cells.size = size) (hpos : 0 < size)
 (v : Value) (n : Nat) (xs : List Value) (hs : a.eval s = v) (hown : w.ownsRow base e size v n xs)
 (A : Option Addr) (m c : Nat) (news : List Value) (hx : a.eval x = .slice A m c) (hsl : SlN w A m size news) (h1 : ∀ u ∈ news, u.oneCell' = true)
 (h63 : n + m ≤ maxLen) (hbytes : (n + m) * bytes ≤ 140737488355328) (hbase : base ≤ w.heap.size)
 (h : ∀ v' w', w'.ownsRow base e size v' (n + m) (xs ++ news) → w.grownBy w' v.ownBlock → wpList P ops Q rest (a.put o.dst v') w') :
 wpList P ops Q (o :: rest) a w := by
 cases A with
 | none =>
   have hn : news = [] := by
    cases hl : news with
    | nil => rfl
    | cons u r =>
      obtain ⟨b, o', e', _⟩ := hsl.2 0 u (by rw [hl]; rfl)
      cases e'
   have hm : m = 0 := by
    have h2 := hsl.1
    rw [hn] at h2
    have h3 : m * size = 0 := by simpa using h2.symm
    rcases Nat.mul_eq_zero.1 h3 with h3 | h3
    ·exact h3
    ·omega
   subst hm
   subst hn
   refine wpList_plain hgd fun K hK => ?_
   have hrun := run_append_nil_any (P := P) w base t o.type e i size ht hi v n xs hown c
   unfold Oper.wp execOp
   simp only [ho, resolve, invoke, builtin, Sem.run_bind, Sem.run_pure, Result.andThen_ok, List.map_toArray, List.map_cons, List.map_nil, hs, hx, hrun]
   exact hK _ _ (h v w (by simpa using hown) (World.grownBy.refl w _))
 | some ad =>
   refine wpList_appN w hgd s x t ho base e i z size bytes ht hi hz hsize hby hzs hpos v n xs hs hown ad m c news hx hsl.1 (fun j u hu => ?_) h1 h63 hbytes hbase (fun v' w' a1 a2 _ => h v' w' a1 a2)
   obtain ⟨b, o', e', _, hc⟩ := hsl.2 j u hu
   injection e' with e'
   subst e'
   rw [add_none]
   exact hc
theorem wpList_appSW {ops : Array Oper} {rest : List Oper} {o : Oper} {a : Act} {Q : Exit → Act → World → Prop} (hgd : o.guard = none) (s x : Operand) (t : TypeId)
 (ho : o.op = .call { callee := .builtin .append, args := #[s, x], argTypes := #[t, t] })
 (base : Nat) (e : TypeId) (i : TypeInfo) (z : Value) (size bytes : Nat) (ht : P.underlying t = some (.slice e)) (hi : P.info? e = some i) (hz : i.zero = some z)
 (hsize : i.size = size) (hby : i.bytes = bytes) (hzs : z.cells.size = size) (hpos : 0 < size)
 (v : Value) (n : Nat) (xs : List Value) (hs : a.eval s = v) (hown : w.ownsRow base e size v n xs)
 (A : Option Addr) (m c : Nat) (news : List Value) (hx : a.eval x = .slice A m c) (hsl : SlN w A m size news) (h1 : ∀ u ∈ news, u.oneCell' = true)
 (h63 : n + m ≤ maxLen) (hbytes : (n + m) * bytes ≤ 140737488355328) (hbase : base ≤ w.heap.size)
 (h : ∀ v' w', w'.ownsRow base e size v' (n + m) (xs ++ news) → w.grownBy w' v.ownBlock → (v'.ownBlock = v.ownBlock ∨ ∀ b, v'.ownBlock = some b → w.heap.size ≤ b) → wpList P ops Q rest (a.put o.dst v') w') :
 wpList P ops Q (o :: rest) a w := by
 cases A with
 | none =>
   have hn : news = [] := by
    cases hl : news with
    | nil => rfl
    | cons u r =>
      obtain ⟨b, o', e', _⟩ := hsl.2 0 u (by rw [hl]; rfl)
      cases e'
   have hm : m = 0 := by
    have h2 := hsl.1
    rw [hn] at h2
    have h3 : m * size = 0 := by simpa using h2.symm
    rcases Nat.mul_eq_zero.1 h3 with h3 | h3
    ·exact h3
    ·omega
   subst hm
   subst hn
   refine wpList_plain hgd fun K hK => ?_
   have hrun := run_append_nil_any (P := P) w base t o.type e i size ht hi v n xs hown c
   unfold Oper.wp execOp
   simp only [ho, resolve, invoke, builtin, Sem.run_bind, Sem.run_pure, Result.andThen_ok, List.map_toArray, List.map_cons, List.map_nil, hs, hx, hrun]
   exact hK _ _ (h v w (by simpa using hown) (World.grownBy.refl w _) (.inl rfl))
 | some ad =>
   refine wpList_appN w hgd s x t ho base e i z size bytes ht hi hz hsize hby hzs hpos v n xs hs hown ad m c news hx hsl.1 (fun j u hu => ?_) h1 h63 hbytes hbase (fun v' w' a1 a2 a3 => h v' w' a1 a2 a3)
   obtain ⟨b, o', e', _, hc⟩ := hsl.2 j u hu
   injection e' with e'
   subst e'
   rw [add_none]
   exact hc
end
theorem own_form {w : World} {B : Nat} {e : TypeId} {size : Nat} {v : Value} {n : Nat} {xs : List Value} (h : w.ownsRow B e size v n xs) : ∃ A c, v = .slice A n c ∧ n ≤ c ∧ SlN w A n size xs ∧ (0 < n → ∃ g, A = some ⟨g, 0, none⟩ ∧ B ≤ g ∧ g < w.heap.size) := by
 obtain ⟨A, c, hv, hs⟩ := own_slN h
 obtain ⟨hl, h2⟩ := h
 rcases h2 with ⟨hv2, h0⟩ | ⟨g, cap, cur, hv2, hb, hg, hn, hm, hcs, ht⟩
 ·subst h0
  rw [hv] at hv2
  injection hv2 with e1 e2 e3
  subst e1 e3
  exact ⟨none, 0, hv, Nat.le_refl _, hs, fun h => by omega⟩
 ·rw [hv] at hv2
  injection hv2 with e1 e2 e3
  subst e1 e3
  exact ⟨_, _, hv, hn, hs, fun _ => ⟨g, rfl, hb, (Array.getElem?_eq_some_iff.1 hg).1⟩⟩
theorem cas_at28 {kind d : Nat} {c : Bool} {k : Int} {t n s : By} {cs ps r : F} : ∀ (ca : F) (j : Nat) (seen : List By), casB kind d c seen ca = true → fdrop ca j = .cons k t n s cs ps r → k = 0 ∧ cs = .nil ∧ formB d c false ps = true
 | .nil, j, _, _, h => by cases j <;> cases h
 | .cons _ _ _ _ _ _ _, 0, seen, hf, h => by
   rw [fdrop] at h
   injection h with e1 e2 e3 e4 e5 e6 e7
   subst e1 e2 e3 e4 e5 e6
   have := cas_sub hf
   exact ⟨this.1, this.2.1, this.2.2.1⟩
 | .cons _ _ _ _ _ _ r2, j + 1, seen, hf, h => by
   rw [fdrop] at h
   exact cas_at28 r2 j _ (cas_sub hf).2.2.2 h
theorem form_at28 {d : Nat} {c : Bool} {k : Int} {t n s : By} {ca pa r : F} : ∀ (f : F) (j : Nat) (pt : Bool), formB d c pt f = true → fdrop f j = .cons k t n s ca pa r → ∃ pt', formB d c pt' (.cons k t n s ca pa r) = true
 | .nil, j, _, _, h => by cases j <;> cases h
 | .cons _ _ _ _ _ _ _, 0, pt, hf, h => by
   rw [fdrop] at h
   rw [← h]
   exact ⟨pt, hf⟩
 | .cons _ _ _ _ _ _ r2, j + 1, pt, hf, h => by
   rw [fdrop] at h
   exact form_at28 r2 j _ (form_sub hf).1 h
theorem fmNodes : ∀ f : F, f.len ≤ f.nodes := by
 intro f
 induction f with
 | nil => exact Nat.le_refl _
 | cons k t n s c p r _ _ ih => rw [F.len, F.nodes]; omega
theorem AtC.grownA {T e : TypeId} {w w' : World} {g B size n : Nat} {cs : Array Value} {v : Value} {xs : List Value} (h : AtC T w g cs) (hr : w.ownsRow B e size v n xs) (hg : w.grownBy w' v.ownBlock) (hne : e ≠ T) : AtC T w' g cs := by
 refine (hg.block g h.lt fun e0 => ?_).trans h
 rcases hr.2 with ⟨hv, _⟩ | ⟨g', cap, cur, hv, _, hc, _⟩
 ·rw [hv] at e0; cases e0
 ·rw [hv] at e0
  obtain rfl : g = g' := by simpa [Value.ownBlock] using e0
  have h2 : w.heap[g]? = some (.cells cs T (0, 0)) := h
  rw [hc] at h2
  injection h2 with h2
  injection h2 with _ h3
  exact hne h3
theorem AtC.grownB {T : TypeId} {w w' : World} {g : Nat} {cs : Array Value} {v : Value} (h : AtC T w g cs) (hg : w.grownBy w' v.ownBlock) (hne : ∀ b, v.ownBlock = some b → b ≠ g) : AtC T w' g cs :=
 (hg.block g h.lt fun e => hne g e.symm rfl).trans h
theorem places_len : ∀ f : F, (placesF f).length ≤ f.nodes := by
 intro f
 induction f with
 | nil => exact Nat.zero_le _
 | cons k t n s cs ps r i1 i2 i3 =>
   rw [placesF, F.nodes]
   simp only [List.length_append]
   split <;> simp <;> omega
def plC (p : PlP) : List Value := [.int .i64 p.1, .string ⟨#[]⟩, .string ⟨p.2.2.toArray⟩, .string ⟨p.2.1.toArray⟩, .slice none 0 0, .slice none 0 0]
theorem plC_one (l : List PlP) : ∀ u ∈ l.flatMap plC, u.oneCell' = true := by
 intro u hu
 obtain ⟨p, _, hp⟩ := List.mem_flatMap.1 hu
 simp only [plC, List.mem_cons, List.not_mem_nil, or_false] at hp
 rcases hp with rfl | rfl | rfl | rfl | rfl | rfl <;> rfl
def prC (p : PlP) : List Value := [.int .i64 p.1, .string ⟨p.2.1.toArray⟩, .string ⟨p.2.2.toArray⟩]
theorem prC_one (l : List PlP) : ∀ u ∈ l.flatMap prC, u.oneCell' = true := by
 intro u hu
 obtain ⟨p, _, hp⟩ := List.mem_flatMap.1 hu
 simp only [prC, List.mem_cons, List.not_mem_nil, or_false] at hp
 rcases hp with rfl | rfl | rfl <;> rfl
end Go.Proofs.YtiijdojihleggaaGreatDoor
namespace Go.Proofs.YtiijdojihleggaaGreatDoor
open Go.RowKit Go.Maps Go.Sort Go.WideMaps
def bV (x : By) : Value := .string ⟨x.toArray⟩
def bO (o : Option By) : Value := bV (o.getD [])
section
variable {P : Program} {k e t : TypeId} {w w' : World} {b n : Nat} {f : By → Option By}
def MapO (P : Program) (k : TypeId) (w : World) (b n : Nat) (f : By → Option By) : Prop :=
 ∃ D : DataW Value, w.ownsMap P k valR b n D ∧ (∀ x : By, D.atKey (.string x) (.held (bV [])) = .held (bO (f x))) ∧ ∀ x : By, Maps.has D (.string x) = (f x).isSome
theorem MapO.lt (h : MapO P k w b n f) : b < w.heap.size := by obtain ⟨D, h, _⟩ := h; exact h.lt
theorem MapO.of (h : MapO P k w b n f) (hb : w'.heap[b]? = w.heap[b]?) : MapO P k w' b n f := by
 obtain ⟨D, ⟨es, clock, hh, r⟩, h2⟩ := h
 exact ⟨D, ⟨es, clock, hb.trans hh, r⟩, h2⟩
theorem MapO.isMap (h : MapO P k w b n f) : ∃ es clock, w.heap[b]? = some (.map es clock) := by
 obtain ⟨D, ⟨es, clock, hh, r⟩, h2⟩ := h
 exact ⟨es, clock, hh⟩
theorem MapO.mono {m : Nat} (h : MapO P k w b n f) (hm : n ≤ m) : MapO P k w b m f := by
 obtain ⟨D, h, r⟩ := h
 exact ⟨D, h.mono hm, r⟩
theorem MapO.made (P : Program) (k : TypeId) (w : World) : MapO P k (w.alloc (.map #[] 0)) w.heap.size 0 (fun _ => none) :=
 ⟨.map [], World.ownsMap_made w P k _, fun x => by simp [DataW.atKey, bO], fun x => by simp [Maps.has]⟩
theorem MapO.lookup (h : MapO P k w b n f) (hk : P.underlying k = some .string) (ht : P.underlying t = some (.map k e)) (hz : (zeroValue e).run P w = .ok (bV []) w)
 (s : By) (hs : s.length ≤ maxLen) : (Instr.lookup t (.map (some b)) (bV s) true).run P w = .ok (.tuple #[bO (f s), .bool (f s).isSome]) w := by
 obtain ⟨D, h, h1, h2⟩ := h
 obtain ⟨v, ps, hrun, hv⟩ := h.look_ok (string_keyed hk) ht hz (show valR (bV []) = some (.held (bV []), []) from rfl) (keyOf_string_mk (s := ⟨s.toArray⟩) hk (by show s.toArray.size ≤ maxLen; simpa using hs))
 rw [h1] at hv
 rw [h2] at hrun
 unfold valR at hv
 injection hv with hv
 injection hv with hv _
 injection hv with hv
 rw [hv] at hrun
 exact hrun
theorem MapO.update (h : MapO P k w b n f) (hk : P.underlying k = some .string) (ht : P.underlying t = some (.map k e)) (hn : n < maxLen)
 (s v : By) (hs : s.length ≤ maxLen) : ∃ w', (Instr.mapUpdate t (.map (some b)) (bV s) (bV v)).run P w = .ok () w' ∧ MapO P k w' b (n + 1) (fun x => if x = s then some v else f x) ∧ w.grownBy w' (some b) := by
 obtain ⟨D, h, h1, h2⟩ := h
 obtain ⟨w', hrun, h3, h4⟩ := h.update (string_keyed hk) ht hn (keyOf_string_mk (s := ⟨s.toArray⟩) hk (by show s.toArray.size ≤ maxLen; simpa using hs)) (show valR (bV v) = some (.held (bV v), []) from rfl)
 refine ⟨w', hrun, ⟨_, h3, fun x => ?_, fun x => ?_⟩, h4⟩
 ·by_cases hx : x = s
  ·subst hx
   rw [Maps.atKey_put_same h.isMap (by simp [WideAt.IsKeyLit])]; simp [bO]
  ·rw [Maps.atKey_put_other (by simpa using hx), h1]; simp [hx]
 ·by_cases hx : x = s
  ·subst hx
   rw [Maps.has_put_same h.isMap (by simp [WideAt.IsKeyLit])]; simp
  ·rw [Maps.has_put_other (by simpa using hx), h2]; simp [hx]
theorem wpList_lookupO {w : World} {ops : Array Oper} {rest : List Oper} {o : Oper} {a : Act} {Q : Exit → Act → World → Prop} (hg : o.guard = none) (m x : Operand) (t k e : TypeId) (hop : o.op = Op.lookup t m x true)
 (hk : P.underlying k = some .string) (ht : P.underlying t = some (.map k e)) (hz : (zeroValue e).run P w = .ok (bV []) w) (b n : Nat) (f : By → Option By)
 (hm : a.eval m = .map (some b)) (h : MapO P k w b n f) (s : By) (hx : a.eval x = .string ⟨s.toArray⟩) (hs : s.length ≤ maxLen)
 (hK : wpList P ops Q rest (a.put o.dst (.tuple #[.string ⟨((f s).getD []).toArray⟩, .bool (f s).isSome])) w) : wpList P ops Q (o :: rest) a w := by
 refine wpList_plain hg fun K' hK' => ?_
 have hrun := h.lookup hk ht hz s hs
 unfold bO bV at hrun
 generalize (Value.tuple #[.string ⟨((f s).getD []).toArray⟩, .bool (f s).isSome]) = B at hrun hK
 unfold Oper.wp
 simp [execOp, hop, hm, hx, hrun, Result.andThen]
 exact hK' _ _ hK
theorem wpList_mapUpdateO {w : World} {ops : Array Oper} {rest : List Oper} {o : Oper} {a : Act} {Q : Exit → Act → World → Prop} (hg : o.guard = none) (m x v : Operand) (t k e : TypeId) (hop : o.op = Op.mapUpdate t m x v)
 (hk : P.underlying k = some .string) (ht : P.underlying t = some (.map k e)) (b n : Nat) (f : By → Option By)
 (hm : a.eval m = .map (some b)) (h : MapO P k w b n f) (hn : n < maxLen) (s : By) (hx : a.eval x = .string ⟨s.toArray⟩) (u : By) (hv : a.eval v = .string ⟨u.toArray⟩) (hs : s.length ≤ maxLen)
 (hK : ∀ w', MapO P k w' b (n + 1) (fun x => if x = s then some u else f x) → w.grownBy w' (some b) → wpList P ops Q rest (a.put o.dst undef) w') : wpList P ops Q (o :: rest) a w := by
 refine wpList_plain hg fun K' hK' => ?_
 obtain ⟨w', hrun, r1, r2⟩ := h.update hk ht hn s u hs
 unfold bV at hrun
 unfold Oper.wp
 simp [execOp, hop, hm, hx, hv, hrun, Result.andThen]
 exact hK' _ _ (hK w' r1 r2)
end
theorem MapO.grown {P : Program} {k : TypeId} {w w' : World} {b n : Nat} {f : By → Option By} {row : Option Nat} (h : MapO P k w b n f) (hg : w.grownBy w' row) (hne : some b ≠ row) : MapO P k w' b n f := h.of (hg.block b h.lt hne)
theorem MapO.ext {P : Program} {k : TypeId} {w w' : World} {b n : Nat} {f : By → Option By} (h : MapO P k w b n f) (hw : Ext w w') : MapO P k w' b n f := h.of (Below.block hw b h.lt)
theorem own_neO {w : World} {B : Nat} {e k : TypeId} {size mb N : Nat} {v : Value} {n : Nat} {xs : List Value} {P : Program} {f : By → Option By} (h : w.ownsRow B e size v n xs) (h2 : MapO P k w mb N f) : some mb ≠ v.ownBlock := by
 intro hb
 obtain ⟨c1, h3⟩ := own_blk h hb.symm
 obtain ⟨es, cl, h4⟩ := h2.isMap
 rw [h3] at h4
 cases h4
theorem MapO.same {P : Program} {k : TypeId} {w : World} {b n : Nat} {f g : By → Option By} (h : MapO P k w b n f) (hfg : ∀ x, f x = g x) : MapO P k w b n g := by
 rw [← show f = g from funext hfg]
 exact h
def nmC (p : NmP) : List Value := [.string ⟨p.1.toArray⟩, .string ⟨p.2.toArray⟩]
theorem look_none {l : List NmP} {x : By} (h : lookP l x = none) : ∀ p ∈ l, p.1 ≠ x := by
 intro p hp e
 unfold lookP at h
 rw [Option.map_eq_none_iff, List.find?_eq_none] at h
 exact h p hp (by simpa using e)
theorem one_swp {l : List NmP} (h : OneN l) : OneN (l.map swpN) := by
 intro p hp q hq
 obtain ⟨p', hp', rfl⟩ := List.mem_map.1 hp
 obtain ⟨q', hq', rfl⟩ := List.mem_map.1 hq
 exact (h p' hp' q' hq').symm
def badM (l : List NmP) (x y : By) : Bool := (match lookP l x with | some m => m != y | none => false) || (match lookP (l.map swpN) y with | some m => m != x | none => false)
theorem bad_mis {l : List NmP} (h : OneN l) (x y : By) : badM l x y = misB l x y := by
 cases hm : misB l x y with
 | false =>
   rw [misB_iff] at hm
   unfold badM
   have h1 : (match lookP l x with | some m => m != y | none => false) = false := by
    cases hl : lookP l x with
    | none => rfl
    | some m => simpa using (hm _ (look_some hl)).1 rfl
   have h2 : (match lookP (l.map swpN) y with | some m => m != x | none => false) = false := by
    cases hl : lookP (l.map swpN) y with
    | none => rfl
    | some m =>
      obtain ⟨p, hp, e⟩ := List.mem_map.1 (look_some hl)
      unfold swpN at e
      injection e with e1 e2
      have := (hm p hp).2 e1
      simp only [bne_eq_false_iff_eq]
      rw [← e2, this]
   rw [h1, h2]; rfl
 | true =>
   unfold misB at hm
   rw [List.any_eq_true] at hm
   obtain ⟨p, hp, hne⟩ := hm
   unfold badM
   by_cases e : p.1 = x
   ·have e2 : p.2 ≠ y := fun q => by rw [e, q] at hne; simp at hne
    rw [show lookP l x = some p.2 from look_of h (by rw [← e]; exact hp)]
    simp [e2]
   ·have e2 : p.2 = y := by
     by_cases q : p.2 = y
     ·exact q
     ·rw [beq_eq_false_iff_ne.2 e, beq_eq_false_iff_ne.2 q] at hne; cases hne
    rw [show lookP (l.map swpN) y = some p.1 from look_of (one_swp h) (List.mem_map.2 ⟨p, hp, by unfold swpN; rw [e2]⟩)]
    simp [e]
theorem has_look (l : List NmP) (x : By) : hasB l x = (lookP l x).isSome := by
 unfold hasB lookP
 rw [Option.isSome_map, Bool.eq_iff_iff, List.any_eq_true, List.find?_isSome]
theorem par_bad {x y : PlP} {l : List NmP} (h1 : OneN l) (hb : (x.1 != y.1 || x.2.1 != y.2.1 || badM l x.2.2 y.2.2) = true) : parStep l x y = none := by
 unfold parStep
 by_cases hk : x.1 ≠ y.1 ∨ x.2.1 ≠ y.2.1
 ·rw [if_pos hk]
 ·rw [if_neg hk, ← bad_mis h1]
  have e1 : x.1 = y.1 := Classical.byContradiction fun e => hk (.inl e)
  have e2 : x.2.1 = y.2.1 := Classical.byContradiction fun e => hk (.inr e)
  rw [e1, e2] at hb
  simp at hb
  rw [if_pos hb]
theorem par_good {x y : PlP} {l : List NmP} (h1 : OneN l) (hb : (x.1 != y.1 || x.2.1 != y.2.1 || badM l x.2.2 y.2.2) = false) :
 parStep l x y = some (if (lookP l x.2.2).isSome = true then l else l ++ [(x.2.2, y.2.2)]) := by
 simp only [Bool.or_eq_false_iff, bne_eq_false_iff_eq] at hb
 unfold parStep
 rw [if_neg (by rintro (h | h); exact h hb.1.1; exact h hb.1.2), ← bad_mis h1, hb.2, if_neg (by decide), has_look]
 split <;> rfl
theorem look_put {l l' : List NmP} {x y : By} (h1 : OneN l) (hb : badM l x y = false) (hl : l' = if (lookP l x).isSome = true then l else l ++ [(x, y)]) :
 OneN l' ∧ (∀ z, lookP l' z = if z = x then some y else lookP l z) ∧ ∀ z, lookP (l'.map swpN) z = if z = y then some x else lookP (l.map swpN) z := by
 rw [bad_mis h1, misB_iff] at hb
 have hone : OneN l' := by
  rw [hl]
  split
  ·exact h1
  ·rename_i hn
   intro p hp q hq
   rcases List.mem_append.1 hp with hp | hp
   ·rcases List.mem_append.1 hq with hq | hq
    ·exact h1 p hp q hq
    ·rw [List.mem_singleton.1 hq]; exact hb p hp
   ·rw [List.mem_singleton.1 hp]
    rcases List.mem_append.1 hq with hq | hq
    ·exact ⟨fun e => ((hb q hq).1 e.symm).symm, fun e => ((hb q hq).2 e.symm).symm⟩
    ·rw [List.mem_singleton.1 hq]; simp
 have hmem : (x, y) ∈ l' := by
  rw [hl]
  split
  ·rename_i hs
   obtain ⟨m, hm⟩ := Option.isSome_iff_exists.1 hs
   have := (hb _ (look_some hm)).1 rfl
   simp only at this
   rw [← this]
   exact look_some hm
  ·simp
 have hsub : ∀ p, p ∈ l' ↔ p ∈ l ∨ p = (x, y) := by
  intro p
  constructor
  ·intro hp
   rw [hl] at hp
   split at hp
   ·exact .inl hp
   ·simpa using hp
  ·rintro (hp | rfl)
   ·rw [hl]
    split
    ·exact hp
    ·exact List.mem_append_left _ hp
   ·exact hmem
 refine ⟨hone, fun z => ?_, fun z => ?_⟩
 ·by_cases hz : z = x
  ·rw [if_pos hz, hz]; exact look_of hone hmem
  ·rw [if_neg hz]
   cases hq : lookP l z with
   | some m => exact look_of hone ((hsub _).2 (.inl (look_some hq)))
   | none =>
     cases hq2 : lookP l' z with
     | none => rfl
     | some m =>
       rcases (hsub _).1 (look_some hq2) with h | h
       ·exact absurd rfl (look_none hq _ h)
       ·injection h with h _; exact absurd h hz
 ·have hone2 := one_swp hone
  by_cases hz : z = y
  ·rw [if_pos hz, hz]; exact look_of hone2 (List.mem_map.2 ⟨_, hmem, rfl⟩)
  ·rw [if_neg hz]
   cases hq : lookP (l.map swpN) z with
   | some m =>
     obtain ⟨p, hp, e⟩ := List.mem_map.1 (look_some hq)
     exact look_of hone2 (List.mem_map.2 ⟨p, (hsub _).2 (.inl hp), e⟩)
   | none =>
     cases hq2 : lookP (l'.map swpN) z with
     | none => rfl
     | some m =>
       obtain ⟨p, hp, e⟩ := List.mem_map.1 (look_some hq2)
       rcases (hsub _).1 hp with h | h
       ·have := look_none hq (swpN p) (List.mem_map.2 ⟨p, h, rfl⟩)
        rw [e] at this
        exact absurd rfl this
       ·subst h
        unfold swpN at e
        injection e with e _
        exact absurd e.symm hz
theorem pl_at {w : World} {A : Option Addr} {L : List PlP} (h : SlN w A L.length 6 (L.flatMap plC)) {j : Nat} {p : PlP} (hp : L[j]? = some p) :
 ∃ b o, A = some ⟨b, o, none⟩ ∧ b < w.heap.size ∧ w.cell? ⟨b, o + j * 6, none⟩ = some (.int .i64 p.1) ∧ w.cell? ⟨b, o + j * 6 + 2, none⟩ = some (.string ⟨p.2.2.toArray⟩) ∧ w.cell? ⟨b, o + j * 6 + 3, none⟩ = some (.string ⟨p.2.1.toArray⟩) := by
 have g0 := flat_get plC 6 (fun _ => rfl) L j 0 p hp (by omega)
 have g2 := flat_get plC 6 (fun _ => rfl) L j 2 p hp (by omega)
 have g3 := flat_get plC 6 (fun _ => rfl) L j 3 p hp (by omega)
 obtain ⟨b, o, rfl, hb, h0⟩ := h.2 _ _ g0
 obtain ⟨b2, o2, e2, _, h2⟩ := h.2 _ _ g2
 obtain ⟨b3, o3, e3, _, h3⟩ := h.2 _ _ g3
 injection e2 with e2
 injection e2 with p2 q2 _
 injection e3 with e3
 injection e3 with p3 q3 _
 subst p2 q2 p3 q3
 exact ⟨b, o, rfl, hb, h0, by rw [Nat.add_assoc]; exact h2, by rw [Nat.add_assoc]; exact h3⟩
theorem places_can : ∀ f : F, (Can f → ∀ p ∈ placesF f, p.2.2.length ≤ 1048576 ∧ p.2.1.length ≤ 1048576) ∧ (CanC f → ∀ p ∈ placesF f, p.2.2.length ≤ 1048576 ∧ p.2.1.length ≤ 1048576) := by
 intro f
 induction f with
 | nil => exact ⟨fun _ p hp => (by cases hp), fun _ p hp => (by cases hp)⟩
 | cons k t n s ca pa r ihc ihp ihr =>
   constructor
   ·intro h p hp
    rw [Can] at h
    rw [placesF] at hp
    rcases List.mem_append.1 hp with hp | hp
    ·split at hp
     ·rw [List.mem_singleton.1 hp]; exact ⟨h.1, h.2.1⟩
     ·cases hp
    ·rcases List.mem_append.1 hp with hp | hp
     ·exact ihp.1 h.2.2.2.1 p hp
     ·rcases List.mem_append.1 hp with hp | hp
      ·exact ihc.2 h.2.2.1 p hp
      ·exact ihr.1 h.2.2.2.2 p hp
   ·intro h p hp
    rw [CanC] at h
    obtain ⟨rfl, _, _, rfl, h5, h6, h7⟩ := h
    rw [placesF, if_neg (by decide)] at hp
    simp only [placesF, List.nil_append] at hp
    rcases List.mem_append.1 hp with hp | hp
    ·exact ihp.1 h6 p hp
    ·exact ihr.2 h7 p hp
end Go.Proofs.YtiijdojihleggaaGreatDoor
