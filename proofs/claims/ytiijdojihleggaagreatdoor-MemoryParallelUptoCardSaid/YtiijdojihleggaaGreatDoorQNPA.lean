import Derived.Test.YtiijdojihleggaaGreatDoorQBaseg
import Derived.Lib.DecodeN
set_option maxRecDepth 100000
set_option linter.unusedSimpArgs false
set_option linter.unusedVariables false
namespace Go.Proofs.YtiijdojihleggaaGreatDoor
section
variable {ε α β : Type}
theorem bind_ok {x : Except ε α} {f : α → Except ε β} {b : β} : x.bind f = .ok b ↔ ∃ a, x = .ok a ∧ f a = .ok b := by cases x <;> simp [Except.bind]
theorem map_ok {x : Except ε α} {f : α → β} {b : β} : x.map f = .ok b ↔ ∃ a, x = .ok a ∧ f a = b := by cases x <;> simp [Except.map]
theorem bind_err {x : Except ε α} {f : α → Except ε β} {e : ε} : x.bind f = .error e ↔ x = .error e ∨ ∃ a, x = .ok a ∧ f a = .error e := by cases x <;> simp [Except.bind]
theorem map_err {x : Except ε α} {f : α → β} {e : ε} : x.map f = .error e ↔ x = .error e := by cases x <;> simp [Except.map]
end
theorem takeP_ok {E k : Nat} {l : List Tok} {x : By × List Tok} : takeP E k l = .ok x ↔ ∃ t r, l = t :: r ∧ t.k = k ∧ x = (t.t, r) := by
 cases l with
 | nil => simp [takeP]
 | cons t r =>
   simp only [takeP]
   split
   ·rename_i h
    constructor
    ·intro e; injection e with e; exact ⟨t, r, rfl, h, e.symm⟩
    ·rintro ⟨t', r', e, _, rfl⟩; injection e with e1 e2; subst e1 e2; rfl
   ·rename_i h
    constructor
    ·intro e; cases e
    ·rintro ⟨t', r', e, h2, rfl⟩; injection e with e1 e2; subst e1 e2; exact absurd h2 h
theorem wrdP_ok {E : Nat} {f : By → Bool} {l : List Tok} {x : By × List Tok} : wrdP E f l = .ok x ↔ ∃ t r, l = t :: r ∧ t.k = 9 ∧ f t.t = true ∧ x = (t.t, r) := by
 cases l with
 | nil => simp [wrdP]
 | cons t r =>
   simp only [wrdP]
   split
   ·rename_i h
    constructor
    ·intro e; injection e with e; exact ⟨t, r, rfl, h.1, h.2, e.symm⟩
    ·rintro ⟨t', r', e, _, _, rfl⟩; injection e with e1 e2; subst e1 e2; rfl
   ·rename_i h
    constructor
    ·intro e; cases e
    ·rintro ⟨t', r', e, h1, h2, rfl⟩; injection e with e1 e2; subst e1 e2; exact absurd ⟨h1, h2⟩ h
theorem namP_ok {E : Nat} {st : St} {x : By × St} : namP E st = .ok x ↔ ∃ t r, st.left = t :: r ∧ t.k = 9 ∧ nameB t.t = true ∧ ((t.t ∈ st.names ∧ x = (t.t, ⟨r, st.names⟩)) ∨ (t.t ∉ st.names ∧ st.names.length < 20 ∧ x = (t.t, ⟨r, st.names ++ [t.t]⟩))) := by
 obtain ⟨l, ns⟩ := st
 cases l with
 | nil => simp [namP]
 | cons t r =>
   simp only [namP]
   split
   ·rename_i h
    split
    ·rename_i h2
     constructor
     ·intro e; injection e with e; exact ⟨t, r, rfl, h.1, h.2, .inl ⟨h2, e.symm⟩⟩
     ·rintro ⟨t', r', e, _, _, h3⟩
      injection e with e1 e2; subst e1 e2
      rcases h3 with ⟨_, rfl⟩ | ⟨h3, _⟩
      ·rfl
      ·exact absurd h2 h3
    ·rename_i h2
     split
     ·rename_i h3
      constructor
      ·intro e; cases e
      ·rintro ⟨t', r', e, _, _, h4⟩
       injection e with e1 e2; subst e1 e2
       rcases h4 with ⟨h4, _⟩ | ⟨_, h4, _⟩
       ·exact absurd h4 h2
       ·omega
     ·rename_i h3
      constructor
      ·intro e; injection e with e; exact ⟨t, r, rfl, h.1, h.2, .inr ⟨h2, by omega, e.symm⟩⟩
      ·rintro ⟨t', r', e, _, _, h4⟩
       injection e with e1 e2; subst e1 e2
       rcases h4 with ⟨h4, _⟩ | ⟨_, _, rfl⟩
       ·exact absurd h4 h2
       ·rfl
   ·rename_i h
    constructor
    ·intro e; cases e
    ·rintro ⟨t', r', e, h1, h2, _⟩; injection e with e1 e2; subst e1 e2; exact absurd ⟨h1, h2⟩ h
theorem len_all (E : Nat) : ∀ n, (∀ d c st x, msgP E n d c st = .ok x → x.2.left.length ≤ st.left.length) ∧ (∀ d c st x, argP E n d c st = .ok x → x.2.left.length ≤ st.left.length) ∧
 (∀ k d c ks st x, casP E n k d c ks st = .ok x → x.2.left.length ≤ st.left.length) := by
 intro n
 induction n with
 | zero =>
   refine ⟨fun d c st x h => ?_, fun d c st x h => ?_, fun k d c ks st x h => ?_⟩
   ·rw [msgP] at h; injection h with h; subst h; exact Nat.le_refl _
   ·rw [argP] at h; injection h with h; subst h; exact Nat.le_refl _
   ·rw [casP] at h; injection h with h; subst h; exact Nat.le_refl _
 | succ n ih =>
   obtain ⟨i1, i2, i3⟩ := ih
   refine ⟨fun d c st x h => ?_, fun d c st x h => ?_, fun k d c ks st x h => ?_⟩
   ·obtain ⟨l, ns⟩ := st
    cases l with
    | nil => rw [msgP] at h; injection h with h; subst h; exact Nat.le_refl _
    | cons t r =>
      rw [msgP] at h
      simp only at h
      simp only [List.length_cons]
      split at h
      ·obtain ⟨y, hy, rfl⟩ := map_ok.1 h
       have := i1 _ _ _ _ hy
       simp only at this ⊢; omega
      split at h
      ·split at h
       ·obtain ⟨y, hy, rfl⟩ := map_ok.1 h
        have := i1 _ _ _ _ hy
        simp only at this ⊢; omega
       ·cases h
      split at h
      ·split at h
       ·obtain ⟨y, hy, rfl⟩ := map_ok.1 h
        have := i1 _ _ _ _ hy
        simp only at this ⊢; omega
       ·cases h
      split at h
      ·split at h
       ·obtain ⟨y, hy, h⟩ := bind_ok.1 h
        have e1 := i1 _ _ _ _ hy
        obtain ⟨f, ⟨yl, yn⟩⟩ := y
        cases yl with
        | nil => cases h
        | cons u q =>
          simp only at h
          split at h
          ·obtain ⟨z, hz, rfl⟩ := map_ok.1 h
           have := i1 _ _ _ _ hz
           simp only [List.length_cons] at e1 this ⊢; omega
          ·cases h
       ·cases h
      split at h
      ·obtain ⟨y, hy, h⟩ := bind_ok.1 h
       have e1 := i2 _ _ _ _ hy
       obtain ⟨z, hz, rfl⟩ := map_ok.1 h
       have := i1 _ _ _ _ hz
       simp only at e1 this ⊢; omega
      ·injection h with h; subst h; exact Nat.le_refl _
   ·rw [argP] at h
    obtain ⟨y, hy, h⟩ := bind_ok.1 h
    obtain ⟨t, r, hl, _, _, hn⟩ := namP_ok.1 hy
    have e1 : y.2.left = r := by rcases hn with ⟨_, rfl⟩ | ⟨_, _, rfl⟩ <;> rfl
    rw [e1] at h
    rw [hl]
    simp only [List.length_cons]
    cases r with
    | nil => cases h
    | cons u r =>
      simp only at h
      simp only [List.length_cons]
      split at h
      ·injection h with h; subst h; simp only; omega
      split at h
      ·cases r with
       | nil => cases h
       | cons v q =>
         simp only at h
         simp only [List.length_cons]
         split at h
         ·split at h
          ·split at h
           ·obtain ⟨z, hz, h⟩ := bind_ok.1 h
            obtain ⟨t1, r1, rfl, _, rfl⟩ := takeP_ok.1 hz
            obtain ⟨a, ha, h⟩ := bind_ok.1 h
            have e2 := i3 _ _ _ _ _ _ ha
            obtain ⟨b, hb, rfl⟩ := map_ok.1 h
            obtain ⟨t2, r2, hr2, _, rfl⟩ := takeP_ok.1 hb
            rw [hr2] at e2
            simp only [List.length_cons] at e2 ⊢; omega
           ·cases h
          split at h
          ·obtain ⟨b, hb, rfl⟩ := map_ok.1 h
           obtain ⟨t2, r2, rfl, _, rfl⟩ := takeP_ok.1 hb
           simp only [List.length_cons]; omega
          ·obtain ⟨z, hz, h⟩ := bind_ok.1 h
           obtain ⟨t1, r1, rfl, _, rfl⟩ := takeP_ok.1 hz
           obtain ⟨a, ha, h⟩ := bind_ok.1 h
           obtain ⟨t2, r2, e2, _, _, rfl⟩ := wrdP_ok.1 ha
           simp only at e2
           obtain ⟨b, hb, rfl⟩ := map_ok.1 h
           obtain ⟨t3, r3, e3, _, rfl⟩ := takeP_ok.1 hb
           simp only at e3
           subst e2 e3
           simp only [List.length_cons]; omega
         ·cases h
      ·cases h
   ·obtain ⟨l, ns⟩ := st
    cases l with
    | nil => rw [casP] at h; cases h
    | cons t r =>
      rw [casP] at h
      simp only at h
      simp only [List.length_cons]
      split at h
      ·split at h
       ·cases h
       split at h
       ·cases h
       obtain ⟨z, hz, h⟩ := bind_ok.1 h
       obtain ⟨t1, r1, rfl, _, rfl⟩ := takeP_ok.1 hz
       obtain ⟨a, ha, h⟩ := bind_ok.1 h
       have e2 := i1 _ _ _ _ ha
       obtain ⟨b, hb, h⟩ := bind_ok.1 h
       obtain ⟨t2, r2, hr2, _, rfl⟩ := takeP_ok.1 hb
       obtain ⟨g, hg, rfl⟩ := map_ok.1 h
       have e3 := i3 _ _ _ _ _ _ hg
       rw [hr2] at e2
       simp only [List.length_cons] at e2 e3 ⊢; omega
      split at h
      ·split at h
       ·injection h with h; subst h; exact Nat.le_refl _
       ·cases h
      ·cases h
theorem fuel_all (E : Nat) : ∀ n, (∀ m d c st, st.left.length < n → st.left.length < m → msgP E n d c st = msgP E m d c st) ∧ (∀ m d c st, st.left.length < n → st.left.length < m → argP E n d c st = argP E m d c st) ∧
 (∀ m k d c ks st, st.left.length < n → st.left.length < m → casP E n k d c ks st = casP E m k d c ks st) := by
 intro n
 induction n with
 | zero => exact ⟨fun m d c st h => absurd h (Nat.not_lt_zero _), fun m d c st h => absurd h (Nat.not_lt_zero _), fun m k d c ks st h => absurd h (Nat.not_lt_zero _)⟩
 | succ n ih =>
   obtain ⟨i1, i2, i3⟩ := ih
   refine ⟨fun m d c st h1 h2 => ?_, fun m d c st h1 h2 => ?_, fun m k d c ks st h1 h2 => ?_⟩
   ·cases m with
    | zero => omega
    | succ m =>
      obtain ⟨l, ns⟩ := st
      cases l with
      | nil => rw [msgP, msgP]
      | cons t r =>
        simp only [List.length_cons] at h1 h2
        have j1 : ∀ d, msgP E n d c ⟨r, ns⟩ = msgP E m d c ⟨r, ns⟩ := fun d => i1 m d c ⟨r, ns⟩ (by simp only; omega) (by simp only; omega)
        have j2 : argP E n d c ⟨r, ns⟩ = argP E m d c ⟨r, ns⟩ := i2 m d c ⟨r, ns⟩ (by simp only; omega) (by simp only; omega)
        rw [msgP, msgP]
        simp only [j1, j2]
        have q2 : ∀ y : F × St, argP E m d c ⟨r, ns⟩ = .ok y → msgP E n d c y.2 = msgP E m d c y.2 := fun y hy => by
         have e1 := (len_all E m).2.1 _ _ _ _ hy
         simp only at e1
         exact i1 m d c y.2 (by omega) (by omega)
        have q1 : ∀ y : F × St, msgP E m (d + 1) c ⟨r, ns⟩ = .ok y → ∀ u q, y.2.left = u :: q → msgP E n d c ⟨q, y.2.names⟩ = msgP E m d c ⟨q, y.2.names⟩ := fun y hy u q hu => by
         have e1 := (len_all E m).1 _ _ _ _ hy
         rw [hu] at e1
         simp only [List.length_cons] at e1
         exact i1 m d c ⟨q, y.2.names⟩ (by simp only; omega) (by simp only; omega)
        have z1 : ∀ g : F × St → Except Err (F × St), ∀ g' : F × St → Except Err (F × St), (∀ y, msgP E m (d + 1) c ⟨r, ns⟩ = .ok y → g y = g' y) → (msgP E m (d + 1) c ⟨r, ns⟩).bind g = (msgP E m (d + 1) c ⟨r, ns⟩).bind g' := fun g g' hg => by
         cases hm : msgP E m (d + 1) c ⟨r, ns⟩ with
         | error e => rfl
         | ok y => exact hg y hm
        have z2 : ∀ g : F × St → Except Err (F × St), ∀ g' : F × St → Except Err (F × St), (∀ y, argP E m d c ⟨r, ns⟩ = .ok y → g y = g' y) → (argP E m d c ⟨r, ns⟩).bind g = (argP E m d c ⟨r, ns⟩).bind g' := fun g g' hg => by
         cases hm : argP E m d c ⟨r, ns⟩ with
         | error e => rfl
         | ok y => exact hg y hm
        split
        ·rfl
        split
        ·rfl
        split
        ·rfl
        split
        ·split
         ·refine z1 _ _ fun y hy => ?_
          obtain ⟨f, ⟨yl, yn⟩⟩ := y
          cases yl with
          | nil => rfl
          | cons u q => simp only [q1 _ hy u q rfl]
         ·rfl
        split
        ·refine z2 _ _ fun y hy => ?_
         rw [q2 y hy]
        ·rfl
   ·cases m with
    | zero => omega
    | succ m =>
      rw [argP, argP]
      cases hn : namP E st with
      | error e => rfl
      | ok y =>
        obtain ⟨t, r, hl, _, _, hx⟩ := namP_ok.1 hn
        have e1 : y.2.left = r := by rcases hx with ⟨_, rfl⟩ | ⟨_, _, rfl⟩ <;> rfl
        rw [hl] at h1 h2
        simp only [List.length_cons] at h1 h2
        simp only [Except.bind, e1]
        cases r with
        | nil => rfl
        | cons u r =>
          simp only
          cases r with
          | nil => rfl
          | cons v q =>
            simp only
            split
            ·rfl
            split
            ·split
             ·split
              ·split
               ·cases hz : takeP E 8 q with
                | error e => rfl
                | ok z =>
                  obtain ⟨t1, r1, rfl, _, rfl⟩ := takeP_ok.1 hz
                  simp only [List.length_cons] at h1 h2
                  simp only [Except.bind]
                  rw [i3 m _ _ _ _ ⟨r1, y.2.names⟩ (by simp only; omega) (by simp only; omega)]
               ·rfl
              ·rfl
             ·rfl
            ·rfl
   ·cases m with
    | zero => omega
    | succ m =>
      obtain ⟨l, ns⟩ := st
      cases l with
      | nil => rw [casP, casP]
      | cons t r =>
        simp only [List.length_cons] at h1 h2
        rw [casP, casP]
        simp only
        split
        ·split
         ·rfl
         split
         ·rfl
         cases hz : takeP E 2 r with
         | error e => rfl
         | ok z =>
           obtain ⟨t1, r1, rfl, _, rfl⟩ := takeP_ok.1 hz
           simp only [List.length_cons] at h1 h2
           simp only [Except.bind]
           rw [i1 m _ _ ⟨r1, ns⟩ (by simp only; omega) (by simp only; omega)]
           cases hm : msgP E m (d + 1) c ⟨r1, ns⟩ with
           | error e => rfl
           | ok y =>
             have e1 := (len_all E m).1 _ _ _ _ hm
             simp only
             cases hb : takeP E 3 y.2.left with
             | error e => rfl
             | ok b =>
               obtain ⟨t2, r2, hr2, _, rfl⟩ := takeP_ok.1 hb
               rw [hr2] at e1
               simp only [List.length_cons] at e1
               simp only
               rw [i3 m _ _ _ _ ⟨r2, y.2.names⟩ (by simp only; omega) (by simp only; omega)]
        ·rfl
end Go.Proofs.YtiijdojihleggaaGreatDoor
namespace Go.Proofs.YtiijdojihleggaaGreatDoor
def msgC (E d : Nat) (c : Bool) (st : St) : Except Err (F × St) := msgP E (st.left.length + 1) d c st
def argC (E d : Nat) (c : Bool) (st : St) : Except Err (F × St) := argP E (st.left.length + 1) d c st
def casC (E k d : Nat) (c : Bool) (ks : List By) (st : St) : Except Err (F × St) := casP E (st.left.length + 1) k d c ks st
theorem msgC_of {E n d : Nat} {c : Bool} {st : St} (h : st.left.length < n) : msgP E n d c st = msgC E d c st := (fuel_all E n).1 _ _ _ _ h (Nat.lt_succ_self _)
theorem argC_of {E n d : Nat} {c : Bool} {st : St} (h : st.left.length < n) : argP E n d c st = argC E d c st := (fuel_all E n).2.1 _ _ _ _ h (Nat.lt_succ_self _)
theorem casC_of {E n k d : Nat} {c : Bool} {ks : List By} {st : St} (h : st.left.length < n) : casP E n k d c ks st = casC E k d c ks st := (fuel_all E n).2.2 _ _ _ _ _ _ h (Nat.lt_succ_self _)
theorem msgC_len {E d : Nat} {c : Bool} {st : St} {x : F × St} (h : msgC E d c st = .ok x) : x.2.left.length ≤ st.left.length := (len_all E _).1 _ _ _ _ h
theorem argC_len {E d : Nat} {c : Bool} {st : St} {x : F × St} (h : argC E d c st = .ok x) : x.2.left.length ≤ st.left.length := (len_all E _).2.1 _ _ _ _ h
theorem map_okE {ε α β : Type} (f : α → β) (a : α) : (Except.ok a : Except ε α).map f = .ok (f a) := rfl
theorem bind_okE {ε α β : Type} (f : α → Except ε β) (a : α) : (Except.ok a : Except ε α).bind f = f a := rfl
theorem bind_congr {ε α β : Type} {x : Except ε α} {g g' : α → Except ε β} (h : ∀ y, x = .ok y → g y = g' y) : x.bind g = x.bind g' := by
 cases x with
 | error e => rfl
 | ok y => exact h y rfl
def elK (E : Nat) (t : Tok) (k : St → Except Err (F × St)) (y : F × St) : Except Err (F × St) := match y.2.left with
 | [] => .error (3, E)
 | u :: q => if u.k = 6 ∧ u.t = t.t then (k ⟨q, y.2.names⟩).map fun x => (.cons 11 [] t.t [] .nil y.1 x.1, x.2) else .error (3, u.a)
theorem msgC_nil (E d : Nat) (c : Bool) (ns : List By) : msgC E d c ⟨[], ns⟩ = .ok (.nil, ⟨[], ns⟩) := by unfold msgC; rw [msgP]
theorem msgC_cons (E d : Nat) (c : Bool) (t : Tok) (r : List Tok) (ns : List By) : msgC E d c ⟨t :: r, ns⟩ =
 if t.k = 1 then (msgC E d c ⟨r, ns⟩).map fun x => (.cons 1 (unescP t.t) [] [] .nil .nil x.1, x.2)
 else if t.k = 4 then (if c = true then (msgC E d c ⟨r, ns⟩).map fun x => (.cons 10 [] [] [] .nil .nil x.1, x.2) else .error (3, t.a))
 else if t.k = 7 then (if d < 8 then (msgC E d c ⟨r, ns⟩).map fun x => (.cons 11 [] t.t [] .nil .nil x.1, x.2) else .error (6, t.a))
 else if t.k = 5 then (if d < 8 then (msgC E (d + 1) c ⟨r, ns⟩).bind (elK E t (msgC E d c)) else .error (6, t.a))
 else if t.k = 2 then (argC E d c ⟨r, ns⟩).bind fun y => (msgC E d c y.2).map fun x => (y.1.app x.1, x.2)
 else .ok (.nil, ⟨t :: r, ns⟩) := by
 conv => lhs; unfold msgC
 rw [msgP]
 simp only [List.length_cons]
 rw [argC_of (show (⟨r, ns⟩ : St).left.length < r.length + 1 from Nat.lt_succ_self _), msgC_of (show (⟨r, ns⟩ : St).left.length < r.length + 1 from Nat.lt_succ_self _)]
 split
 ·rfl
 split
 ·rfl
 split
 ·rfl
 split
 ·split
  ·rw [msgC_of (show (⟨r, ns⟩ : St).left.length < r.length + 1 from Nat.lt_succ_self _)]
   refine bind_congr fun y hy => ?_
   have e1 := msgC_len hy
   obtain ⟨f, ⟨yl, yn⟩⟩ := y
   unfold elK
   cases yl with
   | nil => rfl
   | cons u q =>
     simp only [List.length_cons] at e1
     simp only [msgC_of (E := E) (d := d) (c := c) (show (⟨q, yn⟩ : St).left.length < r.length + 1 from by simp only; omega)]
  ·rfl
 split
 ·refine bind_congr fun y hy => ?_
  have e1 := argC_len hy
  simp only at e1
  rw [msgC_of (show y.2.left.length < r.length + 1 from by omega)]
 ·rfl
def useK (E d : Nat) (c : Bool) (nm : By) (ns : List By) (u : Tok) (q : List Tok) : Except Err (F × St) :=
 if selB (useP u.t) = true then
  (if d < 8 then (takeP E 8 q).bind fun z => (casC E (useP u.t) d (c || useP u.t != 9) [] ⟨z.2, ns⟩).bind fun v =>
   (takeP E 3 v.2.left).map fun e => (.one (useP u.t) [] nm [] v.1 .nil, ⟨e.2, v.2.names⟩)
  else .error (6, u.a))
 else if useP u.t = 3 ∧ (q.head?.map (·.k)) ≠ some 8 then (takeP E 3 q).map fun e => (.one 3 [] nm [] .nil .nil, ⟨e.2, ns⟩)
 else (takeP E 8 q).bind fun z => (wrdP E (if useP u.t = 3 then numStyleB else if useP u.t = 5 then skelB else nameB) z.2).bind fun v =>
  (takeP E 3 v.2).map fun e => (.one (useP u.t) [] nm v.1 .nil .nil, ⟨e.2, ns⟩)
def useC (E d : Nat) (c : Bool) (nm : By) (ns : List By) : List Tok → Except Err (F × St)
 | [] => .error (3, E)
 | u :: q => if u.k = 9 ∧ ¬ useP u.t = 0 then useK E d c nm ns u q else .error (3, u.a)
def argN (E d : Nat) (c : Bool) (nm : By) (ns : List By) : List Tok → Except Err (F × St)
 | [] => .error (3, E)
 | t :: r => if t.k = 3 then .ok (.one 2 [] nm [] .nil .nil, ⟨r, ns⟩) else if t.k = 8 then useC E d c nm ns r else .error (3, t.a)
theorem argC_eq (E d : Nat) (c : Bool) (st : St) : argC E d c st = (namP E st).bind fun y => argN E d c y.1 y.2.names y.2.left := by
 conv => lhs; unfold argC
 rw [argP]
 refine bind_congr fun y hy => ?_
 obtain ⟨t, r, hl, _, _, hx⟩ := namP_ok.1 hy
 have e1 : y.2.left = r := by rcases hx with ⟨_, rfl⟩ | ⟨_, _, rfl⟩ <;> rfl
 simp only [e1, hl, List.length_cons]
 cases r with
 | nil => rfl
 | cons u r =>
   simp only [argN]
   split
   ·rfl
   split
   ·cases r with
    | nil => rfl
    | cons v q =>
      simp only [useC]
      split
      ·unfold useK
       split
       ·split
        ·refine bind_congr fun z hz => ?_
         obtain ⟨t1, r1, rfl, _, rfl⟩ := takeP_ok.1 hz
         rw [casC_of (show (⟨r1, y.2.names⟩ : St).left.length < _ from by simp only [List.length_cons]; omega)]
        ·rfl
       ·rfl
      ·rfl
   ·rfl
theorem casC_nil (E k d : Nat) (c : Bool) (ks ns : List By) : casC E k d c ks ⟨[], ns⟩ = .error (3, E) := by unfold casC; rw [casP]
theorem casC_cons (E k d : Nat) (c : Bool) (ks : List By) (t : Tok) (r : List Tok) (ns : List By) : casC E k d c ks ⟨t :: r, ns⟩ =
 if t.k = 9 ∧ keyB k t.t = true then
  (if 20 ≤ ks.length then .error (6, t.a) else if t.t ∈ ks then .error (9, t.a)
  else (takeP E 2 r).bind fun z => (msgC E (d + 1) c ⟨z.2, ns⟩).bind fun y => (takeP E 3 y.2.left).bind fun e =>
   (casC E k d c (ks ++ [t.t]) ⟨e.2, y.2.names⟩).map fun x => (.cons 0 [] t.t [] .nil y.1 x.1, x.2))
 else if ks ≠ [] ∧ t.k = 3 then (if otherP ∈ ks then .ok (.nil, ⟨t :: r, ns⟩) else .error (13, t.a))
 else .error (3, t.a) := by
 conv => lhs; unfold casC
 rw [casP]
 simp only [List.length_cons]
 split
 ·split
  ·rfl
  split
  ·rfl
  refine bind_congr fun z hz => ?_
  obtain ⟨t1, r1, rfl, _, rfl⟩ := takeP_ok.1 hz
  simp only [List.length_cons]
  rw [msgC_of (show (⟨r1, ns⟩ : St).left.length < _ from by simp only; omega)]
  refine bind_congr fun y hy => ?_
  have e1 := msgC_len hy
  refine bind_congr fun e he => ?_
  obtain ⟨t2, r2, hr2, _, rfl⟩ := takeP_ok.1 he
  rw [hr2] at e1
  simp only [List.length_cons] at e1
  rw [casC_of (show (⟨r2, y.2.names⟩ : St).left.length < _ from by simp only; omega)]
 ·rfl
theorem msgC_stop {E d : Nat} {c : Bool} {t : Tok} {r : List Tok} {ns : List By} (h : ¬ t.k = 1 ∧ ¬ t.k = 4 ∧ ¬ t.k = 7 ∧ ¬ t.k = 5 ∧ ¬ t.k = 2) : msgC E d c ⟨t :: r, ns⟩ = .ok (.nil, ⟨t :: r, ns⟩) := by
 rw [msgC_cons, if_neg h.1, if_neg h.2.1, if_neg h.2.2.1, if_neg h.2.2.2.1, if_neg h.2.2.2.2]
theorem map_map {ε α β γ : Type} (x : Except ε α) (f : α → β) (g : β → γ) : (x.map f).map g = x.map fun a => g (f a) := by cases x <;> rfl
theorem map_id2 {ε : Type} (x : Except ε (F × St)) : (x.map fun a => (F.nil.app a.1, a.2)) = x := by cases x <;> rfl
def PreM (N : Nat) : Prop := ∀ E d c l ns f l' ns', l.length ≤ N → msgC E d c ⟨l, ns⟩ = .ok (f, ⟨l', ns'⟩) →
 ∃ pre, l = pre ++ l' ∧ ∀ E' r, msgC E' d c ⟨pre ++ r, ns⟩ = (msgC E' d c ⟨r, ns'⟩).map fun x => (f.app x.1, x.2)
def PreG (N : Nat) : Prop := ∀ E d c l ns f l' ns', l.length ≤ N → argC E d c ⟨l, ns⟩ = .ok (f, ⟨l', ns'⟩) →
 ∃ p z, l = p ++ z :: l' ∧ z.k = 3 ∧ ∀ E' r, argC E' d c ⟨p ++ z :: r, ns⟩ = .ok (f, ⟨r, ns'⟩)
def PreK (N : Nat) : Prop := ∀ E k d c ks l ns f l' ns', l.length ≤ N → casC E k d c ks ⟨l, ns⟩ = .ok (f, ⟨l', ns'⟩) →
 ∃ pre z q, l' = z :: q ∧ z.k = 3 ∧ l = pre ++ z :: q ∧ ∀ E' r, casC E' k d c ks ⟨pre ++ z :: r, ns⟩ = .ok (f, ⟨z :: r, ns'⟩)
theorem pre_all : ∀ N, PreM N ∧ PreG N ∧ PreK N := by
 intro N
 induction N with
 | zero =>
   refine ⟨fun E d c l ns f l' ns' hl h => ?_, fun E d c l ns f l' ns' hl h => ?_, fun E k d c ks l ns f l' ns' hl h => ?_⟩
   ·obtain rfl := List.eq_nil_of_length_eq_zero (Nat.le_zero.1 hl)
    rw [msgC_nil] at h
    injection h with h
    injection h with h1 h2
    injection h2 with h2 h3
    subst h1 h2 h3
    exact ⟨[], rfl, fun E' r => (map_id2 _).symm⟩
   ·obtain rfl := List.eq_nil_of_length_eq_zero (Nat.le_zero.1 hl)
    rw [argC_eq] at h
    cases h
   ·obtain rfl := List.eq_nil_of_length_eq_zero (Nat.le_zero.1 hl)
    rw [casC_nil] at h
    cases h
 | succ N ih =>
   obtain ⟨i1, i2, i3⟩ := ih
   refine ⟨fun E d c l ns f l' ns' hl h => ?_, fun E d c l ns f l' ns' hl h => ?_, fun E k d c ks l ns f l' ns' hl h => ?_⟩
   ·cases l with
    | nil =>
      rw [msgC_nil] at h
      injection h with h
      injection h with h1 h2
      injection h2 with h2 h3
      subst h1 h2 h3
      exact ⟨[], rfl, fun E' r => (map_id2 _).symm⟩
    | cons t r =>
      simp only [List.length_cons] at hl
      have hl' : r.length ≤ N := by omega
      rw [msgC_cons] at h
      split at h
      ·rename_i hk
       obtain ⟨⟨g, ⟨l1, n1⟩⟩, hy, e⟩ := map_ok.1 h
       injection e with e1 e2
       injection e2 with e2 e3
       subst e1 e2 e3
       obtain ⟨pre, rfl, hp⟩ := i1 _ _ _ _ _ _ _ _ hl' hy
       refine ⟨t :: pre, rfl, fun E' q => ?_⟩
       rw [List.cons_append, msgC_cons, if_pos hk, hp, map_map]
       rfl
      rename_i hk1
      split at h
      ·rename_i hk
       split at h
       ·rename_i hc
        obtain ⟨⟨g, ⟨l1, n1⟩⟩, hy, e⟩ := map_ok.1 h
        injection e with e1 e2
        injection e2 with e2 e3
        subst e1 e2 e3
        obtain ⟨pre, rfl, hp⟩ := i1 _ _ _ _ _ _ _ _ hl' hy
        refine ⟨t :: pre, rfl, fun E' q => ?_⟩
        rw [List.cons_append, msgC_cons, if_neg hk1, if_pos hk, if_pos hc, hp, map_map]
        rfl
       ·cases h
      rename_i hk2
      split at h
      ·rename_i hk
       split at h
       ·rename_i hd
        obtain ⟨⟨g, ⟨l1, n1⟩⟩, hy, e⟩ := map_ok.1 h
        injection e with e1 e2
        injection e2 with e2 e3
        subst e1 e2 e3
        obtain ⟨pre, rfl, hp⟩ := i1 _ _ _ _ _ _ _ _ hl' hy
        refine ⟨t :: pre, rfl, fun E' q => ?_⟩
        rw [List.cons_append, msgC_cons, if_neg hk1, if_neg hk2, if_pos hk, if_pos hd, hp, map_map]
        rfl
       ·cases h
      rename_i hk3
      split at h
      ·rename_i hk
       split at h
       ·rename_i hd
        obtain ⟨⟨g, ⟨yl, n1⟩⟩, hy, h⟩ := bind_ok.1 h
        cases yl with
        | nil => cases h
        | cons u q0 =>
          simp only [elK] at h
          split at h
          ·rename_i hu
           obtain ⟨⟨g2, ⟨l1, n2⟩⟩, hz, e⟩ := map_ok.1 h
           injection e with e1 e2
           injection e2 with e2 e3
           subst e1 e2 e3
           obtain ⟨p1, rfl, hp1⟩ := i1 _ _ _ _ _ _ _ _ hl' hy
           simp only [List.length_append, List.length_cons] at hl'
           obtain ⟨p2, rfl, hp2⟩ := i1 _ _ _ _ _ _ _ _ (by omega) hz
           refine ⟨t :: p1 ++ u :: p2, by simp, fun E' q => ?_⟩
           rw [List.append_assoc, List.cons_append, List.cons_append, msgC_cons, if_neg hk1, if_neg hk2, if_neg hk3, if_pos hk, if_pos hd, hp1, msgC_stop (by omega)]
           rw [map_okE, bind_okE]
           simp only [elK]
           rw [if_pos hu, hp2, F.app_nil, map_map]
           rfl
          ·cases h
       ·cases h
      rename_i hk4
      split at h
      ·rename_i hk
       obtain ⟨⟨g, ⟨yl, n1⟩⟩, hy, h⟩ := bind_ok.1 h
       obtain ⟨⟨g2, ⟨l1, n2⟩⟩, hz, e⟩ := map_ok.1 h
       injection e with e1 e2
       injection e2 with e2 e3
       subst e1 e2 e3
       obtain ⟨p1, z, rfl, hz3, hp1⟩ := i2 _ _ _ _ _ _ _ _ hl' hy
       simp only [List.length_append, List.length_cons] at hl'
       obtain ⟨p2, rfl, hp2⟩ := i1 _ _ _ _ _ _ _ _ (by omega) hz
       refine ⟨t :: p1 ++ z :: p2, by simp, fun E' q => ?_⟩
       rw [List.append_assoc, List.cons_append, List.cons_append, msgC_cons, if_neg hk1, if_neg hk2, if_neg hk3, if_neg hk4, if_pos hk, hp1]
       simp only [Except.bind]
       rw [hp2, map_map]
       simp only [F.app_assoc]
      ·rename_i hk5
       injection h with h
       injection h with h1 h2
       injection h2 with h2 h3
       subst h1 h2 h3
       exact ⟨[], rfl, fun E' r => (map_id2 _).symm⟩
   ·rw [argC_eq] at h
    obtain ⟨y, hy, hh⟩ := bind_ok.1 h
    clear h
    obtain ⟨t, r, hlt, hk, hnm, hx⟩ := namP_ok.1 hy
    simp only at hlt
    subst hlt
    have h := hh
    clear hh
    simp only [List.length_cons] at hl
    have nmE : ∀ E' r', namP E' ⟨t :: r', ns⟩ = .ok (y.1, ⟨r', y.2.names⟩) := fun E' r' => by
     rcases hx with ⟨hm, rfl⟩ | ⟨hm, hlt, rfl⟩
     ·exact namP_ok.2 ⟨t, r', rfl, hk, hnm, .inl ⟨hm, rfl⟩⟩
     ·exact namP_ok.2 ⟨t, r', rfl, hk, hnm, .inr ⟨hm, hlt, rfl⟩⟩
    have yl : y.2.left = r := by rcases hx with ⟨_, rfl⟩ | ⟨_, _, rfl⟩ <;> rfl
    rw [yl] at h
    have argE : ∀ E' r', argC E' d c ⟨t :: r', ns⟩ = argN E' d c y.1 y.2.names r' := fun E' r' => by rw [argC_eq, nmE]; rfl
    generalize y.2.names = n1 at *
    generalize y.1 = nm at *
    cases r with
    | nil => cases h
    | cons u r =>
      simp only [argN] at h
      split at h
      ·rename_i hu
       injection h with h
       injection h with h1 h2
       injection h2 with h2 h3
       subst h1 h2 h3
       refine ⟨[t], u, rfl, hu, fun E' q => ?_⟩
       rw [List.cons_append, List.nil_append, argE, argN, if_pos hu]
      rename_i hu3
      split at h
      ·rename_i hu8
       cases r with
       | nil => cases h
       | cons v q0 =>
         simp only [useC] at h
         split at h
         ·rename_i hv
          unfold useK at h
          have useE : ∀ E' q', argC E' d c ⟨t :: u :: v :: q', ns⟩ = useK E' d c nm n1 v q' := fun E' q' => by rw [argE, argN, if_neg hu3, if_pos hu8, useC, if_pos hv]
          split at h
          ·rename_i hs
           split at h
           ·rename_i hd
            obtain ⟨z, hz, h⟩ := bind_ok.1 h
            obtain ⟨t1, r1, rfl, ht1, rfl⟩ := takeP_ok.1 hz
            obtain ⟨⟨g, ⟨vl, n2⟩⟩, ha, h⟩ := bind_ok.1 h
            obtain ⟨b, hb, e⟩ := map_ok.1 h
            obtain ⟨t2, r2, e2, ht2, rfl⟩ := takeP_ok.1 hb
            simp only at e2
            subst e2
            injection e with e1 e2
            injection e2 with e2 e3
            simp only at e1 e2 e3
            subst e1 e2 e3
            simp only [List.length_cons] at hl
            obtain ⟨p1, z, q1, ez, hz3, e4, hp1⟩ := i3 _ _ _ _ _ _ _ _ _ _ (by simp only; omega) ha
            injection ez with ez1 ez2
            subst ez1 ez2
            simp only at e4
            subst e4
            refine ⟨t :: u :: v :: t1 :: p1, t2, by simp, hz3, fun E' q => ?_⟩
            simp only [List.cons_append]
            rw [useE, useK, if_pos hs, if_pos hd, takeP_ok.2 ⟨t1, _, rfl, ht1, rfl⟩]
            simp only [Except.bind]
            rw [hp1]
            simp only
            rw [takeP_ok.2 ⟨t2, q, rfl, hz3, rfl⟩]
            rfl
           ·cases h
          rename_i hs
          split at h
          ·rename_i hn
           obtain ⟨b, hb, e⟩ := map_ok.1 h
           obtain ⟨t2, r2, rfl, ht2, rfl⟩ := takeP_ok.1 hb
           injection e with e1 e2
           injection e2 with e2 e3
           simp only at e1 e2 e3
           subst e1 e2 e3
           refine ⟨[t, u, v], t2, rfl, ht2, fun E' q => ?_⟩
           simp only [List.cons_append, List.nil_append]
           rw [useE, useK, if_neg hs, if_pos ⟨hn.1, by simp [ht2]⟩, takeP_ok.2 ⟨t2, q, rfl, ht2, rfl⟩]
           rfl
          ·rename_i hn
           obtain ⟨z, hz, h'⟩ := bind_ok.1 h
           clear h
           obtain ⟨t1, r1, rfl, ht1, rfl⟩ := takeP_ok.1 hz
           obtain ⟨a, ha, h''⟩ := bind_ok.1 h'
           clear h'
           obtain ⟨t2, r2, e2, ht2, hf2, rfl⟩ := wrdP_ok.1 ha
           simp only at e2
           subst e2
           obtain ⟨b, hb, e⟩ := map_ok.1 h''
           obtain ⟨t3, r3, e3, ht3, rfl⟩ := takeP_ok.1 hb
           simp only at e3
           subst e3
           injection e with e1 e2
           injection e2 with e2 e3
           simp only at e1 e2 e3
           subst e1 e2 e3
           refine ⟨[t, u, v, t1, t2], t3, rfl, ht3, fun E' q => ?_⟩
           simp only [List.cons_append, List.nil_append]
           rw [useE, useK, if_neg hs, if_neg (by simp [ht1]), takeP_ok.2 ⟨t1, _, rfl, ht1, rfl⟩]
           simp only [Except.bind]
           rw [wrdP_ok.2 ⟨t2, _, rfl, ht2, hf2, rfl⟩]
           simp only
           rw [takeP_ok.2 ⟨t3, q, rfl, ht3, rfl⟩]
           rfl
         ·cases h
      ·cases h
   ·cases l with
    | nil => rw [casC_nil] at h; cases h
    | cons t r =>
      simp only [List.length_cons] at hl
      rw [casC_cons] at h
      split at h
      ·rename_i hk
       split at h
       ·cases h
       rename_i h20
       split at h
       ·cases h
       rename_i hin
       obtain ⟨z, hz, h⟩ := bind_ok.1 h
       obtain ⟨t1, r1, rfl, ht1, rfl⟩ := takeP_ok.1 hz
       obtain ⟨⟨g, ⟨yl, n1⟩⟩, hy, h⟩ := bind_ok.1 h
       obtain ⟨b, hb, h⟩ := bind_ok.1 h
       obtain ⟨t2, r2, e2, ht2, rfl⟩ := takeP_ok.1 hb
       simp only at e2
       subst e2
       obtain ⟨⟨g2, ⟨l1, n2⟩⟩, hc, e⟩ := map_ok.1 h
       injection e with e1 e2
       injection e2 with e2 e3
       subst e1 e2 e3
       simp only [List.length_cons] at hl
       obtain ⟨p1, e4, hp1⟩ := i1 _ _ _ _ _ _ _ _ (by simp only; omega) hy
       simp only at e4
       subst e4
       simp only [List.length_append, List.length_cons] at hl
       obtain ⟨p2, z, q1, rfl, hz3, e5, hp2⟩ := i3 _ _ _ _ _ _ _ _ _ _ (by simp only; omega) hc
       subst e5
       refine ⟨t :: t1 :: p1 ++ t2 :: p2, z, q1, rfl, hz3, by simp, fun E' q => ?_⟩
       rw [List.append_assoc]
       simp only [List.cons_append]
       rw [casC_cons, if_pos hk, if_neg h20, if_neg hin, takeP_ok.2 ⟨t1, _, rfl, ht1, rfl⟩]
       simp only [Except.bind]
       rw [hp1, msgC_stop (by omega)]
       simp only [Except.map]
       rw [takeP_ok.2 ⟨t2, _, rfl, ht2, rfl⟩]
       simp only
       rw [hp2]
       simp only [F.app_nil]
      rename_i hk
      split at h
      ·rename_i h3
       split at h
       ·rename_i ho
        injection h with h
        injection h with h1 h2
        injection h2 with h2 h3'
        subst h1 h2 h3'
        refine ⟨[], t, r, rfl, h3.2, rfl, fun E' q => ?_⟩
        rw [List.nil_append, casC_cons, if_neg hk, if_pos h3, if_pos ho]
       ·cases h
      ·cases h
theorem msgC_pre {E d : Nat} {c : Bool} {l l' : List Tok} {ns ns' : List By} {f : F} (h : msgC E d c ⟨l, ns⟩ = .ok (f, ⟨l', ns'⟩)) :
 ∃ pre, l = pre ++ l' ∧ ∀ E' r, msgC E' d c ⟨pre ++ r, ns⟩ = (msgC E' d c ⟨r, ns'⟩).map fun x => (f.app x.1, x.2) := (pre_all l.length).1 _ _ _ _ _ _ _ _ (Nat.le_refl _) h
theorem argC_pre {E d : Nat} {c : Bool} {l l' : List Tok} {ns ns' : List By} {f : F} (h : argC E d c ⟨l, ns⟩ = .ok (f, ⟨l', ns'⟩)) :
 ∃ p z, l = p ++ z :: l' ∧ z.k = 3 ∧ ∀ E' r, argC E' d c ⟨p ++ z :: r, ns⟩ = .ok (f, ⟨r, ns'⟩) := (pre_all l.length).2.1 _ _ _ _ _ _ _ _ (Nat.le_refl _) h
end Go.Proofs.YtiijdojihleggaaGreatDoor
namespace Go.Proofs.YtiijdojihleggaaGreatDoor
def ErrAt (E : Nat) (l : List Tok) (e : Err) : Prop := (e.1 = 3 ∨ e.1 = 6 ∨ e.1 = 9 ∨ e.1 = 13) ∧ (e.2 = E ∨ ∃ t ∈ l, e.2 = t.a)
theorem ErrAt.mono {E : Nat} {l l' : List Tok} {e : Err} (h : ErrAt E l e) (hl : ∀ t ∈ l, t ∈ l') : ErrAt E l' e := ⟨h.1, h.2.imp id fun ⟨t, h1, h2⟩ => ⟨t, hl t h1, h2⟩⟩
theorem errAt_end (E : Nat) (l : List Tok) : ErrAt E l (3, E) := ⟨.inl rfl, .inl rfl⟩
theorem errAt_head {E : Nat} {t : Tok} {r : List Tok} {n : Int} (h : n = 3 ∨ n = 6 ∨ n = 9 ∨ n = 13) : ErrAt E (t :: r) (n, t.a) := ⟨h, .inr ⟨t, List.mem_cons_self, rfl⟩⟩
theorem takeP_err {E k : Nat} {l : List Tok} {e : Err} (h : takeP E k l = .error e) : ErrAt E l e := by
 cases l with
 | nil => injection h with h; subst h; exact errAt_end _ _
 | cons t r =>
   rw [takeP] at h
   split at h
   ·cases h
   ·injection h with h; subst h; exact errAt_head (.inl rfl)
theorem wrdP_err {E : Nat} {f : By → Bool} {l : List Tok} {e : Err} (h : wrdP E f l = .error e) : ErrAt E l e := by
 cases l with
 | nil => injection h with h; subst h; exact errAt_end _ _
 | cons t r =>
   rw [wrdP] at h
   split at h
   ·cases h
   ·injection h with h; subst h; exact errAt_head (.inl rfl)
theorem namP_err {E : Nat} {st : St} {e : Err} (h : namP E st = .error e) : ErrAt E st.left e := by
 obtain ⟨l, ns⟩ := st
 cases l with
 | nil => injection h with h; subst h; exact errAt_end _ _
 | cons t r =>
   simp only [namP] at h
   split at h
   ·split at h
    ·cases h
    split at h
    ·injection h with h; subst h; exact errAt_head (.inr (.inl rfl))
    ·cases h
   ·injection h with h; subst h; exact errAt_head (.inl rfl)
theorem msgC_suf {E d : Nat} {c : Bool} {l : List Tok} {ns : List By} {y : F × St} (h : msgC E d c ⟨l, ns⟩ = .ok y) : ∀ t ∈ y.2.left, t ∈ l := by
 obtain ⟨f, ⟨l', n'⟩⟩ := y
 obtain ⟨p, rfl, _⟩ := msgC_pre h
 intro t ht
 exact List.mem_append_right _ ht
theorem argC_suf {E d : Nat} {c : Bool} {l : List Tok} {ns : List By} {y : F × St} (h : argC E d c ⟨l, ns⟩ = .ok y) : ∀ t ∈ y.2.left, t ∈ l := by
 obtain ⟨f, ⟨l', n'⟩⟩ := y
 obtain ⟨p, z, rfl, _⟩ := argC_pre h
 intro t ht
 exact List.mem_append_right _ (List.mem_cons_of_mem _ ht)
theorem casC_suf {E k d : Nat} {c : Bool} {ks : List By} {l : List Tok} {ns : List By} {y : F × St} (h : casC E k d c ks ⟨l, ns⟩ = .ok y) : ∀ t ∈ y.2.left, t ∈ l := by
 obtain ⟨f, ⟨l', n'⟩⟩ := y
 obtain ⟨p, z, q, rfl, _, rfl, _⟩ := (pre_all l.length).2.2 _ _ _ _ _ _ _ _ _ _ (Nat.le_refl _) h
 intro t ht
 exact List.mem_append_right _ ht
theorem err_all : ∀ N, (∀ E d c l ns e, l.length ≤ N → msgC E d c ⟨l, ns⟩ = .error e → ErrAt E l e) ∧ (∀ E d c l ns e, l.length ≤ N → argC E d c ⟨l, ns⟩ = .error e → ErrAt E l e) ∧
 (∀ E k d c ks l ns e, l.length ≤ N → casC E k d c ks ⟨l, ns⟩ = .error e → ErrAt E l e) := by
 intro N
 induction N with
 | zero =>
   refine ⟨fun E d c l ns e hl h => ?_, fun E d c l ns e hl h => ?_, fun E k d c ks l ns e hl h => ?_⟩
   ·obtain rfl := List.eq_nil_of_length_eq_zero (Nat.le_zero.1 hl)
    rw [msgC_nil] at h; cases h
   ·obtain rfl := List.eq_nil_of_length_eq_zero (Nat.le_zero.1 hl)
    rw [argC_eq] at h; injection h with h; subst h; exact errAt_end _ _
   ·obtain rfl := List.eq_nil_of_length_eq_zero (Nat.le_zero.1 hl)
    rw [casC_nil] at h; injection h with h; subst h; exact errAt_end _ _
 | succ N ih =>
   obtain ⟨i1, i2, i3⟩ := ih
   refine ⟨fun E d c l ns e hl h => ?_, fun E d c l ns e hl h => ?_, fun E k d c ks l ns e hl h => ?_⟩
   ·cases l with
    | nil => rw [msgC_nil] at h; cases h
    | cons t r =>
      simp only [List.length_cons] at hl
      have hl' : r.length ≤ N := by omega
      have up : ∀ {e}, ErrAt E r e → ErrAt E (t :: r) e := fun h => h.mono fun u hu => List.mem_cons_of_mem _ hu
      rw [msgC_cons] at h
      split at h
      ·exact up (i1 _ _ _ _ _ _ hl' (map_err.1 h))
      split at h
      ·split at h
       ·exact up (i1 _ _ _ _ _ _ hl' (map_err.1 h))
       ·injection h with h; subst h; exact errAt_head (.inl rfl)
      split at h
      ·split at h
       ·exact up (i1 _ _ _ _ _ _ hl' (map_err.1 h))
       ·injection h with h; subst h; exact errAt_head (.inr (.inl rfl))
      split at h
      ·split at h
       ·rcases bind_err.1 h with h | ⟨y, hy, h⟩
        ·exact up (i1 _ _ _ _ _ _ hl' h)
        ·have hs := msgC_suf hy
         have e1 := msgC_len hy
         unfold elK at h
         split at h
         ·injection h with h; subst h; exact errAt_end _ _
         ·rename_i u q hq
          rw [hq] at hs e1
          simp only [List.length_cons] at e1
          split at h
          ·exact up ((i1 _ _ _ _ _ _ (by omega) (map_err.1 h)).mono fun v hv => hs v (List.mem_cons_of_mem _ hv))
          ·injection h with h; subst h; exact up ((errAt_head (r := q) (.inl rfl)).mono hs)
       ·injection h with h; subst h; exact errAt_head (.inr (.inl rfl))
      split at h
      ·rcases bind_err.1 h with h | ⟨⟨g, ⟨yl, n1⟩⟩, hy, h⟩
       ·exact up (i2 _ _ _ _ _ _ hl' h)
       ·have hs := argC_suf hy
        have e1 := argC_len hy
        simp only at e1
        exact up ((i1 _ _ _ _ _ _ (by omega) (map_err.1 h)).mono hs)
      ·cases h
   ·rw [argC_eq] at h
    rcases bind_err.1 h with h | ⟨y, hy, h⟩
    ·exact namP_err h
    obtain ⟨t, r, hlt, _, _, hx⟩ := namP_ok.1 hy
    have yl : y.2.left = r := by rcases hx with ⟨_, rfl⟩ | ⟨_, _, rfl⟩ <;> rfl
    rw [yl] at h
    simp only at hlt
    rw [hlt] at hl ⊢
    simp only [List.length_cons] at hl
    have up : ∀ {e}, ErrAt E r e → ErrAt E (t :: r) e := fun h => h.mono fun u hu => List.mem_cons_of_mem _ hu
    refine up ?_
    cases r with
    | nil => injection h with h; subst h; exact errAt_end _ _
    | cons u r =>
      simp only [argN] at h
      split at h
      ·cases h
      split at h
      ·refine ErrAt.mono (l := r) ?_ (fun v hv => List.mem_cons_of_mem _ hv)
       cases r with
       | nil => injection h with h; subst h; exact errAt_end _ _
       | cons v q =>
         simp only [useC] at h
         split at h
         ·have up2 : ∀ {e}, ErrAt E q e → ErrAt E (v :: q) e := fun h => h.mono fun u hu => List.mem_cons_of_mem _ hu
          unfold useK at h
          split at h
          ·split at h
           ·refine up2 ?_
            rcases bind_err.1 h with h | ⟨z, hz, h⟩
            ·exact takeP_err h
            obtain ⟨t1, r1, rfl, _, rfl⟩ := takeP_ok.1 hz
            simp only [List.length_cons] at hl
            refine ErrAt.mono (l := r1) ?_ (fun v hv => List.mem_cons_of_mem _ hv)
            rcases bind_err.1 h with h | ⟨a, ha, h⟩
            ·exact i3 _ _ _ _ _ _ _ _ (by first | omega | (simp only; omega)) h
            ·exact (takeP_err (map_err.1 h)).mono (casC_suf ha)
           ·injection h with h; subst h; exact errAt_head (.inr (.inl rfl))
          refine up2 ?_
          split at h
          ·exact takeP_err (map_err.1 h)
          ·rcases bind_err.1 h with h | ⟨z, hz, h'⟩
           ·exact takeP_err h
           clear h
           obtain ⟨t1, r1, rfl, _, rfl⟩ := takeP_ok.1 hz
           refine ErrAt.mono (l := r1) ?_ (fun v hv => List.mem_cons_of_mem _ hv)
           rcases bind_err.1 h' with h | ⟨a, ha, h''⟩
           ·exact wrdP_err h
           clear h'
           obtain ⟨t2, r2, e2, _, _, rfl⟩ := wrdP_ok.1 ha
           simp only at e2
           subst e2
           exact (takeP_err (map_err.1 h'')).mono (fun v hv => List.mem_cons_of_mem _ hv)
         ·injection h with h; subst h; exact errAt_head (.inl rfl)
      ·injection h with h; subst h; exact errAt_head (.inl rfl)
   ·cases l with
    | nil => rw [casC_nil] at h; injection h with h; subst h; exact errAt_end _ _
    | cons t r =>
      simp only [List.length_cons] at hl
      have up : ∀ {e}, ErrAt E r e → ErrAt E (t :: r) e := fun h => h.mono fun u hu => List.mem_cons_of_mem _ hu
      rw [casC_cons] at h
      split at h
      ·split at h
       ·injection h with h; subst h; exact errAt_head (.inr (.inl rfl))
       split at h
       ·injection h with h; subst h; exact errAt_head (.inr (.inr (.inl rfl)))
       refine up ?_
       rcases bind_err.1 h with h | ⟨z, hz, h⟩
       ·exact takeP_err h
       obtain ⟨t1, r1, rfl, _, rfl⟩ := takeP_ok.1 hz
       simp only [List.length_cons] at hl
       refine ErrAt.mono (l := r1) ?_ (fun v hv => List.mem_cons_of_mem _ hv)
       rcases bind_err.1 h with h | ⟨y, hy, h⟩
       ·exact i1 _ _ _ _ _ _ (by first | omega | (simp only; omega)) h
       have hs := msgC_suf hy
       have e1 := msgC_len hy
       refine ErrAt.mono (l := y.2.left) ?_ hs
       rcases bind_err.1 h with h | ⟨b, hb, h⟩
       ·exact takeP_err h
       obtain ⟨t2, r2, hr2, _, rfl⟩ := takeP_ok.1 hb
       rw [hr2] at e1 ⊢
       simp only [List.length_cons] at e1
       exact (i3 _ _ _ _ _ _ _ _ (by first | omega | (simp only; omega)) (map_err.1 h)).mono (fun v hv => List.mem_cons_of_mem _ hv)
      split at h
      ·split at h
       ·cases h
       ·injection h with h; subst h; exact errAt_head (.inr (.inr (.inr rfl)))
      ·injection h with h; subst h; exact errAt_head (.inl rfl)
theorem msgC_err {E d : Nat} {c : Bool} {l : List Tok} {ns : List By} {e : Err} (h : msgC E d c ⟨l, ns⟩ = .error e) : ErrAt E l e := (err_all l.length).1 _ _ _ _ _ _ (Nat.le_refl _) h
end Go.Proofs.YtiijdojihleggaaGreatDoor
namespace Go.Proofs.YtiijdojihleggaaGreatDoor
def ktT (l : List Tok) : List (Nat × By) := l.map fun t => (t.k, t.t)
end Go.Proofs.YtiijdojihleggaaGreatDoor
namespace Go.Proofs.YtiijdojihleggaaGreatDoor
def F.isNil : F → Bool
 | .nil => true
 | .cons .. => false
def F.keys : F → List By
 | .nil => []
 | .cons _ _ n _ _ _ r => n :: F.keys r
mutual
def formB (d : Nat) (c pt : Bool) : F → Bool
 | .nil => true
 | .cons k t n s cs ps r =>
   !(pt && k == 1) &&
   (if k = 1 then !t.isEmpty && n.isEmpty && s.isEmpty && cs.isNil && ps.isNil
   else if k = 10 then c && t.isEmpty && n.isEmpty && s.isEmpty && cs.isNil && ps.isNil
   else if k = 2 then nameB n && t.isEmpty && s.isEmpty && cs.isNil && ps.isNil
   else if k = 3 then nameB n && t.isEmpty && (s.isEmpty || numStyleB s) && cs.isNil && ps.isNil
   else if k = 5 then nameB n && t.isEmpty && skelB s && cs.isNil && ps.isNil
   else if k = 4 ∨ k = 6 then nameB n && t.isEmpty && nameB s && cs.isNil && ps.isNil
   else if k = 11 then decide (d < 8) && nameB n && t.isEmpty && s.isEmpty && cs.isNil && formB (d + 1) c false ps
   else if k = 7 ∨ k = 8 ∨ k = 9 then decide (d < 8) && nameB n && t.isEmpty && s.isEmpty && ps.isNil && casB k.toNat (d + 1) (c || k != 9) [] cs && decide (cs.len ≤ 20) && decide (otherP ∈ cs.keys)
   else false) && formB d c (k == 1) r
def casB (kind d : Nat) (c : Bool) (seen : List By) : F → Bool
 | .nil => true
 | .cons k t n s cs ps r => (k == 0) && t.isEmpty && s.isEmpty && cs.isNil && keyB kind n && !decide (n ∈ seen) && formB d c false ps && casB kind d c (seen ++ [n]) r
end
def usesF : F → List By
 | .nil => []
 | .cons k t n s cs ps r => (if 2 ≤ k ∧ k ≤ 9 then [n] else []) ++ (usesF ps ++ (usesF cs ++ usesF r))
def addN (ns : List By) (n : By) : List By := if n ∈ ns then ns else ns ++ [n]
def namesF (f : F) (ns : List By) : List By := (usesF f).foldl addN ns
theorem usesF_app (f g : F) : usesF (f.app g) = usesF f ++ usesF g := by
 induction f with
 | nil => rfl
 | cons k t n s cs ps r _ _ ih => simp only [F.app, usesF, ih, List.append_assoc]
theorem namesF_app (f g : F) (ns : List By) : namesF (f.app g) ns = namesF g (namesF f ns) := by unfold namesF; rw [usesF_app, List.foldl_append]
theorem namesF_nil (ns : List By) : namesF .nil ns = ns := rfl
theorem namesF_cons (k : Int) (t n s : By) (cs ps r : F) (ns : List By) : namesF (.cons k t n s cs ps r) ns = namesF r (namesF cs (namesF ps (if 2 ≤ k ∧ k ≤ 9 then addN ns n else ns))) := by
 unfold namesF
 rw [usesF, List.foldl_append, List.foldl_append, List.foldl_append]
 split <;> rfl
def escOK : By → Bool
 | [] => true
 | [c] => !specB c
 | c :: d :: r => if specB c then (c == 92 && specB d && escOK r) else escOK (d :: r)
def tokB (t : Tok) : Bool := if t.k = 1 then !t.t.isEmpty && escOK t.t else if t.k = 5 ∨ t.k = 6 ∨ t.k = 7 then nameB t.t else true
def noTT : List Tok → Bool
 | [] => true
 | [_] => true
 | t :: u :: r => !(t.k == 1 && u.k == 1) && noTT (u :: r)
def headT : List Tok → Bool
 | [] => false
 | t :: _ => t.k == 1
theorem noTT_cons {t : Tok} {r : List Tok} (h : noTT (t :: r) = true) : noTT r = true ∧ (t.k = 1 → headT r = false) := by
 cases r with
 | nil => exact ⟨rfl, fun _ => rfl⟩
 | cons u r =>
   simp only [noTT, Bool.and_eq_true, Bool.not_eq_true', Bool.and_eq_false_iff, beq_eq_false_iff_ne] at h
   refine ⟨h.2, fun h1 => ?_⟩
   rcases h.1 with h2 | h2
   ·exact absurd h1 h2
   ·unfold headT; simpa using h2
def okTs (l : List Tok) : Prop := (∀ t ∈ l, tokB t = true) ∧ noTT l = true
theorem okTs_cons {t : Tok} {r : List Tok} (h : okTs (t :: r)) : tokB t = true ∧ okTs r ∧ (t.k = 1 → headT r = false) :=
 ⟨h.1 t List.mem_cons_self, ⟨fun u hu => h.1 u (List.mem_cons_of_mem _ hu), (noTT_cons h.2).1⟩, (noTT_cons h.2).2⟩
theorem unescP_ne {s : By} (h : s ≠ []) : unescP s ≠ [] := by
 match s, h with
 | [c], _ => simp [unescP]
 | c :: d :: r, _ => rw [unescP]; split <;> simp
theorem F.app_len (f g : F) : (f.app g).len = f.len + g.len := F.len_app f g
theorem F.one_app (k : Int) (t n s : By) (cs ps g : F) : (F.one k t n s cs ps).app g = .cons k t n s cs ps g := rfl
theorem formB_false {d : Nat} {c : Bool} {f : F} (h : formB d c true f = true) : formB d c false f = true := by
 cases f with
 | nil => rfl
 | cons k t n s cs ps r =>
   rw [formB] at h ⊢
   simp only [Bool.and_eq_true] at h ⊢
   exact ⟨⟨by simp, h.1.2⟩, h.2⟩
theorem formB_pt {d : Nat} {c pt : Bool} {f : F} (h : formB d c false f = true) (hp : pt = true → ∀ k t n s cs ps r, f = .cons k t n s cs ps r → k ≠ 1) : formB d c pt f = true := by
 cases f with
 | nil => rfl
 | cons k t n s cs ps r =>
   rw [formB] at h ⊢
   simp only [Bool.and_eq_true] at h ⊢
   refine ⟨⟨?_, h.1.2⟩, h.2⟩
   cases pt with
   | false => rfl
   | true => have := hp rfl _ _ _ _ _ _ _ rfl; simpa using this
theorem useP_cases (u : By) : useP u = 0 ∨ useP u = 3 ∨ useP u = 4 ∨ useP u = 5 ∨ useP u = 6 ∨ useP u = 7 ∨ useP u = 8 ∨ useP u = 9 := by
 unfold useP
 repeat' split
 all_goals simp
def FoM (N : Nat) : Prop := ∀ E d c l ns f l' ns', l.length ≤ N → okTs l → ns.length ≤ 20 → msgC E d c ⟨l, ns⟩ = .ok (f, ⟨l', ns'⟩) → formB d c false f = true ∧ (headT l = false → formB d c true f = true) ∧ ns' = namesF f ns ∧ ns'.length ≤ 20 ∧ okTs l'
def FoG (N : Nat) : Prop := ∀ E d c l ns f l' ns', l.length ≤ N → okTs l → ns.length ≤ 20 → argC E d c ⟨l, ns⟩ = .ok (f, ⟨l', ns'⟩) → (∃ k n s cs, f = .one k [] n s cs .nil ∧ 2 ≤ k ∧ k ≤ 9) ∧ formB d c true f = true ∧ ns' = namesF f ns ∧ ns'.length ≤ 20 ∧ okTs l'
def FoK (N : Nat) : Prop := ∀ E k d c ks l ns f l' ns', l.length ≤ N → okTs l → ns.length ≤ 20 → casC E k d c ks ⟨l, ns⟩ = .ok (f, ⟨l', ns'⟩) → casB k (d + 1) c ks f = true ∧ (ks.length ≤ 20 → ks.length + f.len ≤ 20) ∧ otherP ∈ ks ++ f.keys ∧ ns' = namesF f ns ∧ ns'.length ≤ 20 ∧ okTs l'
theorem namP_form {E : Nat} {l : List Tok} {ns : List By} {y : By × St} (h : namP E ⟨l, ns⟩ = .ok y) (hn : ns.length ≤ 20) : nameB y.1 = true ∧ y.2.names = addN ns y.1 ∧ y.2.names.length ≤ 20 ∧ ∃ t, l = t :: y.2.left := by
 obtain ⟨t, r, hl, _, hnm, hx⟩ := namP_ok.1 h
 simp only at hl
 subst hl
 rcases hx with ⟨hm, rfl⟩ | ⟨hm, hlt, rfl⟩
 ·simp only at hm ⊢
  exact ⟨hnm, by unfold addN; rw [if_pos hm], hn, t, rfl⟩
 ·simp only at hm hlt ⊢
  refine ⟨hnm, by unfold addN; rw [if_neg hm], by simp; omega, t, rfl⟩
theorem form_all : ∀ N, FoM N ∧ FoG N ∧ FoK N := by
 have hm0 : ∀ E d c l ns f l' ns', l = [] → ns.length ≤ 20 → msgC E d c ⟨l, ns⟩ = .ok (f, ⟨l', ns'⟩) → formB d c false f = true ∧ (headT l = false → formB d c true f = true) ∧ ns' = namesF f ns ∧ ns'.length ≤ 20 ∧ okTs l' := by
  rintro E d c l ns f l' ns' rfl hn h
  rw [msgC_nil] at h
  injection h with h
  injection h with h1 h2
  injection h2 with h2 h3
  subst h1 h2 h3
  exact ⟨rfl, fun _ => rfl, rfl, hn, ⟨by simp, rfl⟩⟩
 intro N
 induction N with
 | zero =>
   refine ⟨fun E d c l ns f l' ns' hl ho hn h => ?_, fun E d c l ns f l' ns' hl ho hn h => ?_, fun E k d c ks l ns f l' ns' hl ho hn h => ?_⟩
   ·exact hm0 _ _ _ _ _ _ _ _ (List.eq_nil_of_length_eq_zero (Nat.le_zero.1 hl)) hn h
   ·obtain rfl := List.eq_nil_of_length_eq_zero (Nat.le_zero.1 hl)
    rw [argC_eq] at h; cases h
   ·obtain rfl := List.eq_nil_of_length_eq_zero (Nat.le_zero.1 hl)
    rw [casC_nil] at h; cases h
 | succ N ih =>
   obtain ⟨i1, i2, i3⟩ := ih
   refine ⟨fun E d c l ns f l' ns' hl ho hn h => ?_, fun E d c l ns f l' ns' hl ho hn h => ?_, fun E k d c ks l ns f l' ns' hl ho hn h => ?_⟩
   ·cases l with
    | nil => exact hm0 _ _ _ _ _ _ _ _ rfl hn h
    | cons t r =>
      simp only [List.length_cons] at hl
      have hl' : r.length ≤ N := by omega
      obtain ⟨htb, hor, hht⟩ := okTs_cons ho
      rw [msgC_cons] at h
      split at h
      ·rename_i hk
       obtain ⟨⟨g, ⟨l1, n1⟩⟩, hy, e⟩ := map_ok.1 h
       injection e with e1 e2
       injection e2 with e2 e3
       subst e1 e2 e3
       obtain ⟨f1, f2, f3, f4, f5⟩ := i1 _ _ _ _ _ _ _ _ hl' hor hn hy
       have hte : (unescP t.t).isEmpty = false := by
        unfold tokB at htb
        rw [if_pos hk, Bool.and_eq_true, Bool.not_eq_true'] at htb
        have h0 : t.t ≠ [] := fun e => by rw [e] at htb; cases htb.1
        have h1 := unescP_ne h0
        cases hu : unescP t.t with
        | nil => exact absurd hu h1
        | cons a b => rfl
       refine ⟨?_, fun h => ?_, ?_, f4, f5⟩
       ·rw [formB, if_pos rfl, hte]
        simp only [Bool.false_and, Bool.not_false, Bool.true_and, List.isEmpty_nil, F.isNil]
        exact f2 (hht hk)
       ·have h2 : (t.k == 1) = false := h
        rw [hk] at h2
        cases h2
       ·rw [namesF_cons, if_neg (by omega)]; exact f3
      rename_i hk1
      have hpt : ∀ {g : F} {k : Int} {x n s : By} {cs ps : F}, k ≠ 1 → formB d c false (.cons k x n s cs ps g) = true → formB d c true (.cons k x n s cs ps g) = true := fun hk h => formB_pt h (fun _ _ _ _ _ _ _ _ e => by injection e with e; rw [← e]; exact hk)
      split at h
      ·rename_i hk
       split at h
       ·rename_i hc
        obtain ⟨⟨g, ⟨l1, n1⟩⟩, hy, e⟩ := map_ok.1 h
        injection e with e1 e2
        injection e2 with e2 e3
        subst e1 e2 e3
        obtain ⟨f1, f2, f3, f4, f5⟩ := i1 _ _ _ _ _ _ _ _ hl' hor hn hy
        have hf : formB d c false (.cons 10 [] [] [] .nil .nil g) = true := by
         rw [formB, if_neg (by decide), if_pos rfl, hc]
         simp only [Bool.false_and, Bool.not_false, Bool.true_and, List.isEmpty_nil, F.isNil]
         rw [hc] at f1
         exact f1
        exact ⟨hf, fun _ => hpt (by decide) hf, by rw [namesF_cons, if_neg (by omega)]; exact f3, f4, f5⟩
       ·cases h
      split at h
      ·rename_i hk
       split at h
       ·rename_i hd
        obtain ⟨⟨g, ⟨l1, n1⟩⟩, hy, e⟩ := map_ok.1 h
        injection e with e1 e2
        injection e2 with e2 e3
        subst e1 e2 e3
        obtain ⟨f1, f2, f3, f4, f5⟩ := i1 _ _ _ _ _ _ _ _ hl' hor hn hy
        have hnm : nameB t.t = true := by
         unfold tokB at htb
         rw [if_neg hk1, if_pos (by omega)] at htb
         exact htb
        have hf : formB d c false (.cons 11 [] t.t [] .nil .nil g) = true := by
         rw [formB, if_neg (by decide), if_neg (by decide), if_neg (by decide), if_neg (by decide), if_neg (by decide), if_neg (by decide), if_pos rfl, hnm]
         simp only [Bool.false_and, Bool.not_false, Bool.true_and, List.isEmpty_nil, F.isNil, formB, Bool.and_true]
         rw [Bool.and_eq_true]
         exact ⟨by simpa using hd, f1⟩
        exact ⟨hf, fun _ => hpt (by decide) hf, by rw [namesF_cons, if_neg (by omega)]; exact f3, f4, f5⟩
       ·cases h
      split at h
      ·rename_i hk
       split at h
       ·rename_i hd
        obtain ⟨⟨g, ⟨yl, n1⟩⟩, hy, h⟩ := bind_ok.1 h
        have e1 := msgC_len hy
        obtain ⟨f1, f2, f3, f4, f5⟩ := i1 _ _ _ _ _ _ _ _ hl' hor hn hy
        cases yl with
        | nil => cases h
        | cons u q =>
          simp only [List.length_cons] at e1
          simp only [elK] at h
          split at h
          ·rename_i hu
           obtain ⟨⟨g2, ⟨l1, n2⟩⟩, hz, e⟩ := map_ok.1 h
           injection e with e1 e2
           injection e2 with e2 e3
           subst e1 e2 e3
           obtain ⟨q1, q2, q3, q4, q5⟩ := i1 _ _ _ _ _ _ _ _ (by omega) (okTs_cons f5).2.1 f4 hz
           have hnm : nameB t.t = true := by
            unfold tokB at htb
            rw [if_neg hk1, if_pos (by omega)] at htb
            exact htb
           have hf : formB d c false (.cons 11 [] t.t [] .nil g g2) = true := by
            rw [formB, if_neg (by decide), if_neg (by decide), if_neg (by decide), if_neg (by decide), if_neg (by decide), if_neg (by decide), if_pos rfl, hnm, f1]
            simp only [Bool.false_and, Bool.not_false, Bool.true_and, List.isEmpty_nil, F.isNil, formB, Bool.and_true]
            rw [Bool.and_eq_true]
            exact ⟨by simpa using hd, q1⟩
           exact ⟨hf, fun _ => hpt (by decide) hf, by rw [namesF_cons, if_neg (by omega), namesF_nil, ← f3]; exact q3, q4, q5⟩
          ·cases h
       ·cases h
      split at h
      ·rename_i hk
       obtain ⟨⟨g, ⟨yl, n1⟩⟩, hy, h⟩ := bind_ok.1 h
       have e1 := argC_len hy
       simp only at e1
       obtain ⟨⟨kk, nn, ss, ccs, rfl, hk2, hk9⟩, f1, f3, f4, f5⟩ := i2 _ _ _ _ _ _ _ _ hl' hor hn hy
       obtain ⟨⟨g2, ⟨l1, n2⟩⟩, hz, e⟩ := map_ok.1 h
       injection e with e1 e2
       injection e2 with e2 e3
       subst e1 e2 e3
       obtain ⟨q1, q2, q3, q4, q5⟩ := i1 _ _ _ _ _ _ _ _ (by omega) f5 f4 hz
       have hf : formB d c true ((F.one kk [] nn ss ccs .nil).app g2) = true := by
        rw [F.one_app]
        rw [F.one, formB] at f1
        rw [Bool.and_eq_true] at f1
        rw [formB, Bool.and_eq_true]
        refine ⟨f1.1, ?_⟩
        rw [show (kk == 1) = false from by rw [beq_eq_false_iff_ne]; omega]
        exact q1
       exact ⟨formB_false hf, fun _ => hf, by rw [namesF_app, ← f3]; exact q3, q4, q5⟩
      ·injection h with h
       injection h with h1 h2
       injection h2 with h2 h3
       subst h1 h2 h3
       exact ⟨rfl, fun _ => rfl, rfl, hn, ho⟩
   ·rw [argC_eq] at h
    obtain ⟨y, hy, h'⟩ := bind_ok.1 h
    clear h
    obtain ⟨hnm, hns, hn1, t, ht⟩ := namP_form hy hn
    obtain ⟨nm, ⟨r, n1⟩⟩ := y
    simp only at h' hnm hns hn1 ht
    subst ht
    obtain ⟨_, hor, _⟩ := okTs_cons ho
    simp only [List.length_cons] at hl
    clear hy
    cases r with
    | nil => cases h'
    | cons u r =>
      obtain ⟨_, hor2, _⟩ := okTs_cons hor
      simp only [argN] at h'
      split at h'
      ·injection h' with h
       injection h with h1 h2
       injection h2 with h2 h3
       subst h1 h2 h3
       refine ⟨⟨2, nm, [], .nil, rfl, by decide, by decide⟩, ?_, ?_, hn1, hor2⟩
       ·rw [F.one, formB, if_neg (by decide), if_neg (by decide), if_pos rfl, hnm]; rfl
       ·rw [F.one, namesF_cons, if_pos (by decide), namesF_nil, namesF_nil, namesF_nil]; exact hns
      split at h'
      ·cases r with
       | nil => cases h'
       | cons v q =>
         obtain ⟨_, hor3, _⟩ := okTs_cons hor2
         simp only [List.length_cons] at hl
         simp only [useC] at h'
         split at h'
         ·rename_i hv
          unfold useK at h'
          split at h'
          ·rename_i hs
           split at h'
           ·rename_i hd
            obtain ⟨z, hz, h⟩ := bind_ok.1 h'
            clear h'
            obtain ⟨t1, r1, rfl, _, rfl⟩ := takeP_ok.1 hz
            simp only [List.length_cons] at hl
            obtain ⟨_, hor4, _⟩ := okTs_cons hor3
            obtain ⟨⟨g, ⟨vl, n2⟩⟩, ha, h'⟩ := bind_ok.1 h
            clear h
            obtain ⟨c1, c2, c3, c4, c5, c6⟩ := i3 _ _ _ _ _ _ _ _ _ _ (by first | omega | (simp only; omega)) hor4 hn1 ha
            obtain ⟨b, hb, e⟩ := map_ok.1 h'
            obtain ⟨t2, r2, e2, ht2, rfl⟩ := takeP_ok.1 hb
            simp only at e2
            subst e2
            injection e with e1 e2
            injection e2 with e2 e3
            try simp only at e1 e2 e3
            subst e1 e2 e3
            have hu : (useP v.t : Int) = 7 ∨ (useP v.t : Int) = 8 ∨ (useP v.t : Int) = 9 := by
             unfold selB at hs
             simp at hs
             omega
            refine ⟨⟨useP v.t, nm, [], g, rfl, by omega, by omega⟩, ?_, ?_, c5, (okTs_cons c6).2.1⟩
            ·rw [F.one, formB, if_neg (by omega), if_neg (by omega), if_neg (by omega), if_neg (by omega), if_neg (by omega), if_neg (by omega), if_neg (by omega), if_pos hu, hnm]
             have e9 : ((useP v.t : Int) != 9) = (useP v.t != 9) := by rw [Bool.eq_iff_iff]; simp; omega
             have e0 : ((useP v.t : Int)).toNat = useP v.t := by omega
             have e1 : ((useP v.t : Int) == 1) = false := by rw [beq_eq_false_iff_ne]; omega
             rw [e9, e0, e1, c1]
             have h20 := c2 (by simp)
             simp only [List.nil_append] at c3
             simp only [List.length_nil, Nat.zero_add] at h20
             simp only [List.isEmpty_nil, F.isNil, formB, Bool.and_true, Bool.true_and, Bool.and_false, Bool.not_false]
             rw [Bool.and_eq_true, Bool.and_eq_true, decide_eq_true_iff, decide_eq_true_iff, decide_eq_true_iff]
             exact ⟨⟨hd, h20⟩, c3⟩
            ·rw [F.one, namesF_cons, if_pos (by omega), namesF_nil, namesF_nil, ← hns]; exact c4
           ·cases h'
          rename_i hs
          have hu : useP v.t = 3 ∨ useP v.t = 4 ∨ useP v.t = 5 ∨ useP v.t = 6 := by
           unfold selB at hs
           simp at hs
           rcases useP_cases v.t with h | h | h | h | h | h | h | h <;> omega
          have fin : ∀ (s : By), (useP v.t = 3 → s = [] ∨ numStyleB s = true) → (useP v.t = 5 → skelB s = true) → (useP v.t = 4 ∨ useP v.t = 6 → nameB s = true) →
           formB d c true (.one (useP v.t) [] nm s .nil .nil) = true ∧ n1 = namesF (.one (useP v.t) [] nm s .nil .nil) ns := fun s h3 h5 h46 => by
           refine ⟨?_, by rw [F.one, namesF_cons, if_pos (by omega), namesF_nil, namesF_nil, namesF_nil]; exact hns⟩
           rw [F.one, formB, if_neg (by omega), if_neg (by omega), if_neg (by omega), hnm]
           have e1 : ((useP v.t : Int) == 1) = false := by rw [beq_eq_false_iff_ne]; omega
           rw [e1]
           by_cases a3 : useP v.t = 3
           ·rw [if_pos (by omega)]
            rcases h3 a3 with rfl | h
            ·rfl
            ·rw [h]; simp [F.isNil, formB]
           rw [if_neg (by omega)]
           by_cases a5 : useP v.t = 5
           ·rw [if_pos (by omega), h5 a5]; rfl
           ·rw [if_neg (by omega), if_pos (by omega), h46 (by omega)]; rfl
          split at h'
          ·rename_i hh
           obtain ⟨b, hb, e⟩ := map_ok.1 h'
           obtain ⟨t2, r2, rfl, ht2, rfl⟩ := takeP_ok.1 hb
           injection e with e1 e2
           injection e2 with e2 e3
           try simp only at e1 e2 e3
           subst e1 e2 e3
           obtain ⟨g1, g2⟩ := fin [] (fun _ => .inl rfl) (fun h => by omega) (fun h => by omega)
           rw [hh.1] at g1 g2
           exact ⟨⟨3, nm, [], .nil, rfl, by decide, by decide⟩, g1, g2, hn1, (okTs_cons hor3).2.1⟩
          ·rename_i hh
           obtain ⟨z, hz, h⟩ := bind_ok.1 h'
           clear h'
           obtain ⟨t1, r1, rfl, _, rfl⟩ := takeP_ok.1 hz
           obtain ⟨a, ha, h'⟩ := bind_ok.1 h
           clear h
           obtain ⟨t2, r2, e2, ht2, hf2, rfl⟩ := wrdP_ok.1 ha
           simp only at e2
           subst e2
           obtain ⟨b, hb, e⟩ := map_ok.1 h'
           obtain ⟨t3, r3, e3, ht3, rfl⟩ := takeP_ok.1 hb
           simp only at e3
           subst e3
           injection e with e1 e2
           injection e2 with e2 e3
           try simp only at e1 e2 e3
           subst e1 e2 e3
           obtain ⟨g1, g2⟩ := fin t2.t (fun h => .inr (by rw [if_pos h] at hf2; exact hf2)) (fun h => by rw [if_neg (by omega), if_pos h] at hf2; exact hf2) (fun h => by rw [if_neg (by omega), if_neg (by omega)] at hf2; exact hf2)
           exact ⟨⟨useP v.t, nm, t2.t, .nil, rfl, by omega, by omega⟩, g1, g2, hn1, (okTs_cons (okTs_cons (okTs_cons hor3).2.1).2.1).2.1⟩
         ·cases h'
      ·cases h'
   ·cases l with
    | nil => rw [casC_nil] at h; cases h
    | cons t r =>
      simp only [List.length_cons] at hl
      obtain ⟨_, hor, _⟩ := okTs_cons ho
      rw [casC_cons] at h
      split at h
      ·rename_i hk
       split at h
       ·cases h
       rename_i h20
       split at h
       ·cases h
       rename_i hin
       obtain ⟨z, hz, h'⟩ := bind_ok.1 h
       clear h
       obtain ⟨t1, r1, rfl, _, rfl⟩ := takeP_ok.1 hz
       simp only [List.length_cons] at hl
       obtain ⟨_, hor2, _⟩ := okTs_cons hor
       obtain ⟨⟨g, ⟨yl, n1⟩⟩, hy, h⟩ := bind_ok.1 h'
       clear h'
       have e1 := msgC_len hy
       simp only at e1
       obtain ⟨f1, f2, f3, f4, f5⟩ := i1 _ _ _ _ _ _ _ _ (by first | omega | (simp only; omega)) hor2 hn hy
       obtain ⟨b, hb, h'⟩ := bind_ok.1 h
       clear h
       obtain ⟨u, q, hyl, hu3, rfl⟩ := takeP_ok.1 hb
       try simp only at hyl
       subst hyl
       simp only [List.length_cons] at e1
       obtain ⟨⟨g2, ⟨l1, n2⟩⟩, hc, e⟩ := map_ok.1 h'
       injection e with e1 e2
       injection e2 with e2 e3
       subst e1 e2 e3
       obtain ⟨c1, c2, c3, c4, c5, c6⟩ := i3 _ _ _ _ _ _ _ _ _ _ (by first | omega | (simp only; omega)) (okTs_cons f5).2.1 f4 hc
       refine ⟨?_, fun h => ?_, ?_, ?_, c5, c6⟩
       ·rw [casB, hk.2, f1, c1]
        simp [F.isNil, hin]
       ·have h2 := c2 (by simp; omega)
        simp only [List.length_append, List.length_cons, List.length_nil] at h2
        simp only [F.len]
        omega
       ·rw [F.keys]
        simpa using c3
       ·rw [namesF_cons, if_neg (by omega), namesF_nil, ← f3]; exact c4
      split at h
      ·split at h
       ·rename_i ho2
        injection h with h
        injection h with h1 h2
        injection h2 with h2 h3
        subst h1 h2 h3
        exact ⟨rfl, fun h => by simp only [F.len]; omega, by simpa [F.keys] using ho2, rfl, hn, ho⟩
       ·cases h
      ·cases h
theorem msgC_form {E d : Nat} {c : Bool} {l l' : List Tok} {ns ns' : List By} {f : F} (ho : okTs l) (hn : ns.length ≤ 20) (h : msgC E d c ⟨l, ns⟩ = .ok (f, ⟨l', ns'⟩)) :
 formB d c false f = true ∧ ns' = namesF f ns ∧ ns'.length ≤ 20 := by
 obtain ⟨h1, _, h2, h3, _⟩ := (form_all l.length).1 _ _ _ _ _ _ _ _ (Nat.le_refl _) ho hn h
 exact ⟨h1, h2, h3⟩
end Go.Proofs.YtiijdojihleggaaGreatDoor
namespace Go.Proofs.YtiijdojihleggaaGreatDoor
theorem wordN_le (s : By) : wordN s ≤ s.length := by
 unfold wordN
 have h := congrArg List.length (List.takeWhile_append_dropWhile (p := wordB) (l := s))
 rw [List.length_append] at h
 omega
theorem textN_le : ∀ s : By, textN s ≤ s.length
 | [] => Nat.le_refl _
 | [c] => by rw [textN]; split <;> simp
 | c :: d :: r => by
   have h1 := textN_le r
   have h2 := textN_le (d :: r)
   rw [textN]
   simp only [List.length_cons] at h2 ⊢
   repeat' split
   all_goals omega
theorem elemP_some {s : By} {k m : Nat} {n : By} (h : elemP s = some (k, n, m)) : (k = 5 ∨ k = 6 ∨ k = 7) ∧ nameB n = true ∧ 1 ≤ m ∧ m ≤ s.length + 1 := by
 unfold elemP at h
 simp only at h
 generalize he : (s.head? == some 47) = e at h
 have hq : (if e = true then s.drop 1 else s).length + (if e = true then 1 else 0) ≤ s.length := by
  cases e
  ·simp
  ·cases s with
   | nil => simp at he
   | cons a b => simp
 generalize (if e = true then s.drop 1 else s) = q at h hq
 have hw : (q.takeWhile innerB).length ≤ q.length := by
  have h := congrArg List.length (List.takeWhile_append_dropWhile (p := innerB) (l := q))
  rw [List.length_append] at h
  omega
 split at h
 ·rename_i hn
  have hn1 : 1 ≤ (q.takeWhile innerB).length := by
   unfold nameB at hn
   simp only [Bool.and_eq_true, decide_eq_true_iff] at hn
   exact hn.1.1.1
  split at h
  ·rename_i hh
   have hr : 1 ≤ (q.drop (q.takeWhile innerB).length).length := by
    cases hd : q.drop (q.takeWhile innerB).length with
    | nil => rw [hd] at hh; cases hh
    | cons a b => simp
   rw [List.length_drop] at hr
   cases e
   ·injection h with h
    injection h with h1 h2
    injection h2 with h2 h3
    simp at hq
    exact ⟨.inl h1.symm, by rw [← h2]; exact hn, by omega, by omega⟩
   ·injection h with h
    injection h with h1 h2
    injection h2 with h2 h3
    simp at hq
    exact ⟨.inr (.inl h1.symm), by rw [← h2]; exact hn, by omega, by omega⟩
  ·split at h
   ·rename_i hh
    obtain ⟨rfl, hh⟩ := hh
    have hr : 2 ≤ (q.drop (q.takeWhile innerB).length).length := by
     have h2 := congrArg List.length hh
     simp only [List.length_take, List.length_cons, List.length_nil] at h2
     omega
    rw [List.length_drop] at hr
    injection h with h
    injection h with h1 h2
    injection h2 with h2 h3
    simp at hq
    exact ⟨.inr (.inr h1.symm), by rw [← h2]; exact hn, by omega, by omega⟩
   ·cases h
 ·cases h
theorem nextP_some {s : By} {b : Bool} {k m : Nat} {x : By} (h : nextP s b = some (k, x, m)) : 1 ≤ m ∧ m ≤ s.length := by
 cases s with
 | nil => cases h
 | cons c r =>
   simp only [nextP] at h
   simp only [List.length_cons]
   split at h
   ·injection h with h; injection h with _ h; injection h with _ h; omega
   split at h
   ·injection h with h; injection h with _ h; injection h with _ h; omega
   split at h
   ·split at h
    ·injection h with h; injection h with _ h; injection h with _ h; omega
    split at h
    ·cases h
    ·injection h with h; injection h with _ h; injection h with _ h
     have := wordN_le (c :: r)
     simp only [List.length_cons] at this
     omega
   split at h
   ·injection h with h; injection h with _ h; injection h with _ h; omega
   split at h
   ·have := elemP_some h; omega
   split at h
   ·cases h
   ·injection h with h; injection h with _ h; injection h with _ h
    have := textN_le (c :: r)
    simp only [List.length_cons] at this
    omega
inductive TokR : By → Nat → Nat → List Tok → Prop where
 | nil (a : Nat) : TokR [] a 0 []
 | blank {c : UInt8} {r : By} {a d : Nat} {l : List Tok} (h : (d % 2 == 1 && blankB c) = true) (ht : TokR r (a + 1) d l) : TokR (c :: r) a d l
 | tok {c : UInt8} {r : By} {a d k m : Nat} {x : By} {l : List Tok} (h : (d % 2 == 1 && blankB c) = false) (hn : nextP (c :: r) (d % 2 == 1) = some (k, x, m)) (hk : ¬ (k = 3 ∧ d = 0))
  (ht : TokR ((c :: r).drop m) (a + m) (deepN k d) l) : TokR (c :: r) a d (⟨k, x, a, a + m⟩ :: l)
theorem tokR_of : ∀ (n : Nat) (s : By) (a d : Nat) (l : List Tok), s.length < n → (toksP n s a d).2.2 = 0 → (toksP n s a d).1 = l → TokR s a d l := by
 intro n
 induction n with
 | zero => intro s a d l h; omega
 | succ n ih =>
   intro s a d l hs h0 hl
   cases s with
   | nil =>
     rw [toksP] at h0 hl
     split at h0
     ·cases h0
     ·rename_i hd
      rw [if_neg hd] at hl
      obtain rfl : d = 0 := by omega
      subst hl
      exact .nil a
   | cons c r =>
     simp only [List.length_cons] at hs
     rw [toksP] at h0 hl
     split at h0
     ·rename_i hb
      rw [if_pos hb] at hl
      exact .blank hb (ih r _ _ _ (by omega) h0 hl)
     ·rename_i hb
      rw [if_neg hb] at hl
      cases hn : nextP (c :: r) (d % 2 == 1) with
      | none => rw [hn] at h0; cases h0
      | some y =>
        obtain ⟨k, x, m⟩ := y
        rw [hn] at h0 hl
        simp only at h0 hl
        split at h0
        ·cases h0
        rename_i hk
        rw [if_neg hk] at hl
        split at h0
        ·rename_i hz
         rw [if_pos hz] at hl
         subst hl
         have hm := nextP_some hn
         simp only [List.length_cons] at hm
         exact .tok (by simpa using hb) hn hk (ih _ _ _ _ (by rw [List.length_drop, List.length_cons]; omega) hz rfl)
        ·rename_i hz
         exact absurd h0 hz
theorem toksP_of {s : By} {a d : Nat} {l : List Tok} (h : TokR s a d l) : ∀ n, s.length < n → toksP n s a d = (l, 0, 0) := by
 induction h with
 | nil a =>
   intro n hn
   cases n with
   | zero => omega
   | succ n => rw [toksP]; rfl
 | blank hb ht ih =>
   intro n hn
   cases n with
   | zero => omega
   | succ n =>
     simp only [List.length_cons] at hn
     rw [toksP]
     rw [if_pos hb]
     exact ih n (by omega)
 | tok hb hn hk ht ih =>
   intro n hl
   cases n with
   | zero => omega
   | succ n =>
     have hm := nextP_some hn
     simp only [List.length_cons] at hl hm
     rw [toksP]
     rw [if_neg (by rw [hb]; decide), hn]
     simp only
     rw [if_neg hk, ih n (by rw [List.length_drop, List.length_cons]; omega)]
     simp
theorem tokensP_iff {s : By} (hs : s.length ≤ 4000) {l : List Tok} : ((tokensP s).2.2 = 0 ∧ (tokensP s).1 = l) ↔ TokR s 0 0 l := by
 unfold tokensP
 rw [if_neg (by omega)]
 constructor
 ·rintro ⟨h1, h2⟩; exact tokR_of _ _ _ _ _ (Nat.lt_succ_self _) h1 h2
 ·intro h; rw [toksP_of h _ (Nat.lt_succ_self _)]; exact ⟨rfl, rfl⟩
theorem textN_take : ∀ s : By, escOK (s.take (textN s)) = true
 | [] => rfl
 | [c] => by
   rw [textN]
   split
   ·rfl
   ·rename_i h; simp [escOK]; simpa using h
 | c :: d :: r => by
   have h1 := textN_take r
   have h2 := textN_take (d :: r)
   rw [textN]
   split
   ·rename_i hc
    split
    ·rename_i hd
     rw [show (c :: d :: r).take (textN r + 2) = c :: d :: r.take (textN r) from rfl, escOK, if_pos hc, hd, h1]
     rfl
    ·rfl
   ·rename_i hc
    rw [show (c :: d :: r).take (textN (d :: r) + 1) = c :: (d :: r).take (textN (d :: r)) from rfl]
    cases hx : (d :: r).take (textN (d :: r)) with
    | nil => simp [escOK]; simpa using hc
    | cons y z =>
      rw [hx] at h2
      rw [escOK, if_neg hc]
      exact h2
theorem textN_drop : ∀ s : By, textN (s.drop (textN s)) = 0
 | [] => rfl
 | [c] => by
   rw [textN]
   split
   ·rename_i h; simp [textN, h]
   ·rfl
 | c :: d :: r => by
   have h1 := textN_drop r
   have h2 := textN_drop (d :: r)
   by_cases hc : specB c = true
   ·by_cases hd : (c == 92 && specB d) = true
    ·have e : textN (c :: d :: r) = textN r + 2 := by rw [textN, if_pos hc, if_pos hd]
     rw [e]
     exact h1
    ·have e : textN (c :: d :: r) = 0 := by rw [textN, if_pos hc, if_neg hd]
     rw [e, List.drop_zero, e]
   ·have e : textN (c :: d :: r) = textN (d :: r) + 1 := by rw [textN, if_neg hc]
    rw [e]
    exact h2
theorem nextP_text {c : UInt8} {r : By} {k m : Nat} {x : By} (h : nextP (c :: r) false = some (k, x, m)) : (k = 1 → 0 < textN (c :: r) ∧ x = (c :: r).take (textN (c :: r)) ∧ m = textN (c :: r)) ∧ (k = 5 ∨ k = 6 ∨ k = 7 → nameB x = true) := by
 simp only [nextP] at h
 split at h
 ·injection h with h; injection h with h1 h2; exact ⟨fun h => by omega, fun h => by omega⟩
 split at h
 ·injection h with h; injection h with h1 h2; exact ⟨fun h => by omega, fun h => by omega⟩
 split at h
 ·rename_i hb; cases hb
 split at h
 ·injection h with h; injection h with h1 h2; exact ⟨fun h => by omega, fun h => by omega⟩
 split at h
 ·have h2 := elemP_some h
  exact ⟨fun h => by omega, fun _ => h2.2.1⟩
 split at h
 ·cases h
 ·injection h with h; injection h with h1 h2; injection h2 with h2 h3
  exact ⟨fun _ => ⟨by omega, h2.symm, h3.symm⟩, fun h => by omega⟩
theorem nextP_brace {c : UInt8} {r : By} {k m : Nat} {x : By} (h : nextP (c :: r) true = some (k, x, m)) : k ≠ 1 ∧ k ≠ 5 ∧ k ≠ 6 ∧ k ≠ 7 := by
 simp only [nextP] at h
 split at h
 ·injection h with h; injection h with h1 h2; omega
 split at h
 ·injection h with h; injection h with h1 h2; omega
 split at h
 ·split at h
  ·injection h with h; injection h with h1 h2; omega
  split at h
  ·cases h
  ·injection h with h; injection h with h1 h2; omega
 ·rename_i hb; exact absurd trivial hb
theorem tokR_ok {s : By} {a d : Nat} {l : List Tok} (h : TokR s a d l) : okTs l ∧ (d % 2 = 0 → textN s = 0 → headT l = false) := by
 induction h with
 | nil a => exact ⟨⟨by simp, rfl⟩, fun _ _ => rfl⟩
 | blank hb ht ih =>
   refine ⟨ih.1, fun hd _ => ?_⟩
   rw [Bool.and_eq_true, beq_iff_eq] at hb
   omega
 | @tok c r a d k m x l hb hn hk ht ih =>
   cases hd : (d % 2 == 1) with
   | true =>
     rw [hd] at hn
     have h1 := nextP_brace hn
     have hd1 : d % 2 = 1 := by simpa using hd
     refine ⟨⟨fun t ht => ?_, ?_⟩, fun h => by omega⟩
     ·rcases List.mem_cons.1 ht with rfl | ht
      ·unfold tokB
       simp only
       rw [if_neg h1.1, if_neg (by omega)]
      ·exact ih.1.1 t ht
     ·cases l with
      | nil => rfl
      | cons u l =>
        simp only [noTT]
        rw [show (k == 1) = false from by rw [beq_eq_false_iff_ne]; exact h1.1, ih.1.2]
        rfl
   | false =>
     rw [hd] at hn
     have h1 := nextP_text hn
     have hd1 : d % 2 = 0 := by
      rw [beq_eq_false_iff_ne] at hd
      omega
     refine ⟨⟨fun t ht => ?_, ?_⟩, fun _ h0 => ?_⟩
     ·rcases List.mem_cons.1 ht with rfl | ht
      ·unfold tokB
       simp only
       split
       ·rename_i hk1
        obtain ⟨h2, h3, h4⟩ := h1.1 hk1
        rw [Bool.and_eq_true, Bool.not_eq_true', h3]
        refine ⟨?_, textN_take _⟩
        cases hq : (c :: r).take (textN (c :: r)) with
        | nil =>
          have := congrArg List.length hq
          rw [List.length_take, List.length_nil, List.length_cons] at this
          omega
        | cons y z => rfl
       ·split
        ·rename_i h5; exact h1.2 h5
        ·rfl
      ·exact ih.1.1 t ht
     ·cases l with
      | nil => rfl
      | cons u l =>
        simp only [noTT]
        rw [ih.1.2, Bool.and_true, Bool.not_eq_true', Bool.and_eq_false_iff]
        by_cases hk1 : k = 1
        ·obtain ⟨h2, h3, h4⟩ := h1.1 hk1
         have h5 := ih.2 (by unfold deepN; rw [if_neg (by omega), if_neg (by omega)]; exact hd1) (by rw [h4]; exact textN_drop _)
         exact .inr h5
        ·exact .inl (by simpa using hk1)
     ·show (k == 1) = false
      rw [beq_eq_false_iff_ne]
      intro hk1
      have := (h1.1 hk1).1
      omega
theorem tokensP_ok {s : By} (hs : s.length ≤ 4000) (h : (tokensP s).2.2 = 0) : okTs (tokensP s).1 := (tokR_ok ((tokensP_iff hs).1 ⟨h, rfl⟩)).1
end Go.Proofs.YtiijdojihleggaaGreatDoor
namespace Go.Proofs.YtiijdojihleggaaGreatDoor
end Go.Proofs.YtiijdojihleggaaGreatDoor
namespace Go.Proofs.YtiijdojihleggaaGreatDoor
def Rd (P : By → Prop) (s : By) (D D' : Nat) (kts : List (Nat × By)) : Prop := ∀ rest a l, P rest → TokR rest (a + s.length) D' l → ∃ l2, ktT l2 = kts ∧ TokR (s ++ rest) a D (l2 ++ l)
theorem ktT_app (a b : List Tok) : ktT (a ++ b) = ktT a ++ ktT b := List.map_append
theorem Rd.seq {P Q : By → Prop} {s1 s2 : By} {D D1 D2 : Nat} {k1 k2 : List (Nat × By)} (h1 : Rd P s1 D D1 k1) (h2 : Rd Q s2 D1 D2 k2) (h : ∀ rest, Q rest → P (s2 ++ rest)) : Rd Q (s1 ++ s2) D D2 (k1 ++ k2) := by
 intro rest a l hq ht
 obtain ⟨l2, e2, t2⟩ := h2 rest (a + s1.length) l hq (by rw [List.length_append] at ht; rw [Nat.add_assoc]; exact ht)
 obtain ⟨l1, e1, t1⟩ := h1 (s2 ++ rest) a (l2 ++ l) (h rest hq) t2
 exact ⟨l1 ++ l2, by rw [ktT_app, e1, e2], by rw [List.append_assoc, List.append_assoc]; exact t1⟩
theorem Rd.mono {P Q : By → Prop} {s : By} {D D' : Nat} {k : List (Nat × By)} (h : Rd P s D D' k) (hq : ∀ rest, Q rest → P rest) : Rd Q s D D' k := fun rest a l h1 h2 => h rest a l (hq rest h1) h2
theorem Rd.nil (P : By → Prop) (D : Nat) : Rd P [] D D [] := fun rest a l _ ht => ⟨[], rfl, by simpa using ht⟩
theorem Rd.one {P : By → Prop} {s x : By} {D k : Nat} (hs : s ≠ []) (hb : ∀ c r, s = c :: r → (D % 2 == 1 && blankB c) = false) (hk : ¬ (k = 3 ∧ D = 0)) (hn : ∀ rest, P rest → nextP (s ++ rest) (D % 2 == 1) = some (k, x, s.length)) : Rd P s D (deepN k D) [(k, x)] := by
 intro rest a l hp ht
 cases s with
 | nil => exact absurd rfl hs
 | cons c r =>
   refine ⟨[⟨k, x, a, a + (c :: r).length⟩], rfl, ?_⟩
   have h := hn rest hp
   rw [List.cons_append] at h ⊢
   refine TokR.tok (hb c r rfl) h hk ?_
   rw [← List.cons_append, List.drop_left]
   exact ht
end Go.Proofs.YtiijdojihleggaaGreatDoor
namespace Go.Proofs.YtiijdojihleggaaGreatDoor
theorem use_uses {k : Int} (h : 3 ≤ k ∧ k ≤ 9) : (useP (usesP k) : Int) = k := by
 have : k = 3 ∨ k = 4 ∨ k = 5 ∨ k = 6 ∨ k = 7 ∨ k = 8 ∨ k = 9 := by omega
 rcases this with rfl | rfl | rfl | rfl | rfl | rfl | rfl <;> decide
end Go.Proofs.YtiijdojihleggaaGreatDoor
namespace Go.Proofs.YtiijdojihleggaaGreatDoor
theorem kind_cases {d : Nat} {c : Bool} {k : Int} {t n s : By} {cs ps : F} {k1 : Bool} {R : F} (h : formB d c k1 (.cons k t n s cs ps R) = true) (h1 : ¬ k = 1) (h10 : ¬ k = 10) (h11 : ¬ k = 11) (h2 : ¬ k = 2) : 3 ≤ k ∧ k ≤ 9 := by
 rcases Classical.em (3 ≤ k ∧ k ≤ 9) with h3 | h3
 ·exact h3
 ·rw [formB, if_neg h1, if_neg h10, if_neg h2, if_neg (by omega), if_neg (by omega), if_neg (by omega), if_neg h11, if_neg (by omega)] at h
  simp at h
theorem nil_of_len {f : F} (h : f.len = 0) : f = .nil := by cases f with
 | nil => rfl
 | cons => simp [F.len] at h
theorem isNil_eq {f : F} (h : f.isNil = true) : f = .nil := by cases f with
 | nil => rfl
 | cons => cases h
theorem isEmpty_eq {s : By} (h : s.isEmpty = true) : s = [] := by cases s with
 | nil => rfl
 | cons => cases h
end Go.Proofs.YtiijdojihleggaaGreatDoor
namespace Go.Proofs.YtiijdojihleggaaGreatDoor
def decP (s : By) : Nat × Nat := Go.Lib.decodeN s.length (s.getD 0 0).toNat (s.getD 1 0).toNat (s.getD 2 0).toNat (s.getD 3 0).toNat
def atL : Nat → By → Nat → Nat → Nat → Nat → Option (Nat × Nat)
 | 0, _, _, _, _, _ => none
 | n + 1, s, p, li, co, off => if p = off then some (li, co) else if s = [] then none
   else atL n (s.drop (decP s).2) (p + (decP s).2) (if (decP s).1 = 10 then li + 1 else li) (if (decP s).1 = 10 then 1 else co + 1) off
def atP (s : By) (off : Nat) : Option (Nat × Nat) := atL (s.length + 1) s 0 1 1 off
def AscAt (s : By) (p : Nat) : Prop := p = 0 ∨ s.length ≤ p ∨ (∃ c : UInt8, s[p]? = some c ∧ c.toNat < 128) ∨ (∃ c : UInt8, 0 < p ∧ s[p - 1]? = some c ∧ c.toNat < 128)
theorem decN_size (n b0 b1 b2 b3 : Nat) : 1 ≤ (Go.Lib.decodeN n b0 b1 b2 b3).2 ∧ (Go.Lib.decodeN n b0 b1 b2 b3).2 ≤ 4 ∧ ((Go.Lib.decodeN n b0 b1 b2 b3).2 = 1 ∨ (Go.Lib.decodeN n b0 b1 b2 b3).2 ≤ n) := by
 unfold Go.Lib.decodeN
 repeat' split
 all_goals first | (simp only; omega) | (simp; done) | (simp; omega)
theorem decP_pos (s : By) : 1 ≤ (decP s).2 := (decN_size _ _ _ _ _).1
theorem decP_le {s : By} (h : s ≠ []) : (decP s).2 ≤ s.length := by
 have := (decN_size s.length (s.getD 0 0).toNat (s.getD 1 0).toNat (s.getD 2 0).toNat (s.getD 3 0).toNat).2.2
 have h1 : 1 ≤ s.length := List.length_pos_iff.2 h
 unfold decP
 omega
def PreA (pre s : By) (d : Nat) : Prop := pre = [] ∨ (∃ p c, pre = p ++ [c] ∧ c.toNat < 128) ∨ (d % 2 = 0 ∧ textN s = 0)
theorem spec_low {c : UInt8} (h : specB c = true) : c.toNat < 128 := by
 unfold specB at h
 simp only [Bool.or_eq_true, beq_iff_eq] at h
 rcases h with ((((rfl | rfl) | rfl) | rfl) | rfl) | rfl <;> decide
theorem word_low {c : UInt8} (h : wordB c = true) : c.toNat < 128 := by
 unfold wordB innerB alnB lowB capB digB at h
 simp only [Bool.or_eq_true, Bool.and_eq_true, decide_eq_true_iff, beq_iff_eq, UInt8.le_iff_toNat_le] at h
 rcases h with (h | rfl) | rfl
 ·rcases h with (h | rfl) | rfl
  ·have e1 : (122 : UInt8).toNat = 122 := rfl
   have e2 : (90 : UInt8).toNat = 90 := rfl
   have e3 : (57 : UInt8).toNat = 57 := rfl
   omega
  ·decide
  ·decide
 all_goals decide
theorem blank_low {c : UInt8} (h : blankB c = true) : c.toNat < 128 := by
 unfold blankB at h
 simp only [Bool.or_eq_true, beq_iff_eq] at h
 rcases h with (rfl | rfl) | rfl <;> decide
theorem preA_asc {pre s : By} {d : Nat} (h : PreA pre s d) : AscAt (pre ++ s) pre.length := by
 rcases h with rfl | ⟨p, c, rfl, hc⟩ | ⟨_, h0⟩
 ·exact .inl rfl
 ·exact .inr (.inr (.inr ⟨c, by simp, by simp, hc⟩))
 ·cases s with
  | nil => exact .inr (.inl (by simp))
  | cons c r =>
    have hc : specB c = true := by
     cases hsp : specB c with
     | true => rfl
     | false =>
       cases r with
       | nil => rw [textN, if_neg (by rw [hsp]; decide)] at h0; cases h0
       | cons e r => rw [textN, if_neg (by rw [hsp]; decide)] at h0; omega
    exact .inr (.inr (.inl ⟨c, by simp, spec_low hc⟩))
theorem nextP_last {c : UInt8} {r : By} {b : Bool} {k m : Nat} {x : By} (h : nextP (c :: r) b = some (k, x, m)) (hk : k ≠ 1) : ∃ p z, (c :: r).take m = p ++ [z] ∧ z.toNat < 128 := by
 have one : ∀ (c : UInt8), c.toNat < 128 → ∃ p z, (c :: r).take 1 = p ++ [z] ∧ z.toNat < 128 := fun c hc => ⟨[], c, rfl, hc⟩
 have low : ∀ n : UInt8, (c == n) = true → n.toNat < 128 → c.toNat < 128 := fun n h h2 => by rw [eq_of_beq h]; exact h2
 simp only [nextP] at h
 split at h
 ·rename_i q; injection h with h; injection h with _ h; injection h with _ h; subst h; exact one c (low _ q (by decide))
 split at h
 ·rename_i q; injection h with h; injection h with _ h; injection h with _ h; subst h; exact one c (low _ q (by decide))
 split at h
 ·split at h
  ·rename_i q; injection h with h; injection h with _ h; injection h with _ h; subst h; exact one c (low _ q (by decide))
  split at h
  ·cases h
  ·rename_i q
   injection h with h; injection h with e1 e2; injection e2 with e2 e3
   subst e3
   have hw : (c :: r).take (wordN (c :: r)) = (c :: r).takeWhile wordB := by
    unfold wordN
    conv => lhs; rw [← List.takeWhile_append_dropWhile (p := wordB) (l := c :: r)]
    rw [show ((c :: r).takeWhile wordB ++ (c :: r).dropWhile wordB).takeWhile wordB = (c :: r).takeWhile wordB from by rw [List.takeWhile_append_dropWhile], List.take_left]
   have hne : (c :: r).takeWhile wordB ≠ [] := by
    intro e
    apply q
    unfold wordN
    rw [e]; rfl
   rw [hw]
   rcases List.eq_nil_or_concat ((c :: r).takeWhile wordB) with e | ⟨p, z, e⟩
   ·exact absurd e hne
   ·refine ⟨p, z, by rw [e]; simp, ?_⟩
    have hz : z ∈ (c :: r).takeWhile wordB := by rw [e]; simp
    exact word_low (List.all_eq_true.1 List.all_takeWhile z hz)
 split at h
 ·rename_i q; injection h with h; injection h with _ h; injection h with _ h; subst h; exact one c (low _ q (by decide))
 split at h
 ·-- an element ends with >
  rename_i q60
  have hm := elemP_some h
  unfold elemP at h
  simp only at h
  generalize he : (r.head? == some 47) = e at h
  have hr : r = (if e = true then [47] else []) ++ (if e = true then r.drop 1 else r) := by
   cases e
   ·rfl
   ·cases r with
    | nil => simp at he
    | cons a b => simp at he; subst he; rfl
  have hrl : r.length = (if e = true then 1 else 0) + (if e = true then r.drop 1 else r).length := by
   have := congrArg List.length hr
   rw [List.length_append] at this
   cases e
   ·simp
   ·simpa using this
  generalize (if e = true then r.drop 1 else r) = w at h hr hrl
  have hsplit : w = w.takeWhile innerB ++ w.drop (w.takeWhile innerB).length := by
   conv => lhs; rw [← List.take_append_drop (w.takeWhile innerB).length w]
   congr 1
   conv => lhs; rw [← List.takeWhile_append_dropWhile (p := innerB) (l := w)]
   rw [show (w.takeWhile innerB ++ w.dropWhile innerB).takeWhile innerB = w.takeWhile innerB from by rw [List.takeWhile_append_dropWhile], List.take_left]
  split at h
  ·split at h
   ·rename_i h62
    cases hd : w.drop (w.takeWhile innerB).length with
    | nil => rw [hd] at h62; cases h62
    | cons z rest =>
      rw [hd] at h62 hsplit
      have hz : z = 62 := by simpa using h62
      subst hz
      refine ⟨c :: ((if e = true then [47] else []) ++ w.takeWhile innerB), 62, ?_, by decide⟩
      have hm2 : m = (w.takeWhile innerB).length + 2 + (if e = true then 1 else 0) := by
       cases e
       ·injection h with h; injection h with _ h; injection h with _ h; simp; omega
       ·injection h with h; injection h with _ h; injection h with _ h; simp; omega
      have e3 : c :: r = (c :: ((if e = true then [47] else []) ++ w.takeWhile innerB) ++ [62]) ++ rest := by
       rw [hr, hsplit]
       simp only [List.cons_append, List.append_assoc, List.nil_append]
       rw [show (w.takeWhile innerB ++ 62 :: rest).takeWhile innerB = w.takeWhile innerB from by rw [← hsplit]]
      rw [e3, hm2, List.take_append_of_le_length (by cases e <;> simp), List.take_of_length_le (by cases e <;> simp)]
   ·split at h
    ·rename_i h2
     obtain ⟨rfl, h2⟩ := h2
     cases hd : w.drop (w.takeWhile innerB).length with
     | nil => rw [hd] at h2; simp at h2
     | cons z rest =>
       cases rest with
       | nil => rw [hd] at h2; simp at h2
       | cons y rest =>
         rw [hd] at h2 hsplit
         simp at h2
         obtain ⟨rfl, rfl⟩ := h2
         refine ⟨c :: (w.takeWhile innerB ++ [47]), 62, ?_, by decide⟩
         have hm2 : m = (w.takeWhile innerB).length + 3 := by
          injection h with h; injection h with _ h; injection h with _ h; omega
         have e3 : c :: r = (c :: (w.takeWhile innerB ++ [47]) ++ [62]) ++ rest := by
          rw [hr, hsplit]
          simp only [List.cons_append, List.append_assoc, List.nil_append]
          rw [show (w.takeWhile innerB ++ 47 :: 62 :: rest).takeWhile innerB = w.takeWhile innerB from by rw [← hsplit]]
          rfl
         rw [e3, hm2, List.take_append_of_le_length (by simp), List.take_of_length_le (by simp)]
    ·cases h
  ·cases h
 split at h
 ·cases h
 ·injection h with h; injection h with e1 e2; exact absurd e1.symm hk
theorem toks_asc : ∀ (n : Nat) (pre s : By) (d : Nat), s.length < n → PreA pre s d →
 (∀ t ∈ (toksP n s pre.length d).1, AscAt (pre ++ s) t.a ∧ t.a ≤ (pre ++ s).length) ∧ ((toksP n s pre.length d).2.2 ≠ 0 → (toksP n s pre.length d).2.2 = 3 ∧ AscAt (pre ++ s) (toksP n s pre.length d).2.1 ∧ (toksP n s pre.length d).2.1 ≤ (pre ++ s).length) := by
 intro n
 induction n with
 | zero => intro pre s d h; omega
 | succ n ih =>
   intro pre s d hn hp
   have hpa := preA_asc hp
   have hple : pre.length ≤ (pre ++ s).length := by rw [List.length_append]; omega
   cases s with
   | nil =>
     rw [toksP]
     split
     ·exact ⟨by simp, fun _ => ⟨rfl, hpa, hple⟩⟩
     ·exact ⟨by simp, fun h => absurd rfl h⟩
   | cons c r =>
     simp only [List.length_cons] at hn
     rw [toksP]
     split
     ·rename_i hb
      rw [Bool.and_eq_true] at hb
      have h := ih (pre ++ [c]) r d (by omega) (.inr (.inl ⟨pre, c, rfl, blank_low hb.2⟩))
      rw [List.length_append, List.append_assoc] at h
      exact h
     ·cases hnx : nextP (c :: r) (d % 2 == 1) with
      | none => exact ⟨by simp, fun _ => ⟨rfl, hpa, hple⟩⟩
      | some y =>
        obtain ⟨k, x, m⟩ := y
        simp only
        split
        ·exact ⟨by simp, fun _ => ⟨rfl, hpa, hple⟩⟩
        have hm := nextP_some hnx
        simp only [List.length_cons] at hm
        have hpre : PreA (pre ++ (c :: r).take m) ((c :: r).drop m) (deepN k d) := by
         by_cases hk1 : k = 1
         ·cases hd : (d % 2 == 1) with
          | true => rw [hd] at hnx; exact absurd hk1 (nextP_brace hnx).1
          | false =>
            rw [hd] at hnx
            have ht := (nextP_text hnx).1 hk1
            refine .inr (.inr ⟨?_, by rw [ht.2.2]; exact textN_drop _⟩)
            unfold deepN
            rw [if_neg (by omega), if_neg (by omega)]
            rw [beq_eq_false_iff_ne] at hd
            omega
         ·obtain ⟨p, z, e, hz⟩ := nextP_last hnx hk1
          exact .inr (.inl ⟨pre ++ p, z, by rw [e]; simp, hz⟩)
        have h := ih (pre ++ (c :: r).take m) ((c :: r).drop m) (deepN k d) (by rw [List.length_drop, List.length_cons]; omega) hpre
        rw [List.append_assoc, List.take_append_drop, List.length_append, List.length_take, List.length_cons, Nat.min_eq_left hm.2] at h
        split
        ·rename_i hz
         refine ⟨fun t ht => ?_, fun h => absurd rfl h⟩
         rcases List.mem_cons.1 ht with rfl | ht
         ·exact ⟨hpa, hple⟩
         ·exact h.1 t ht
        ·exact ⟨by simp, fun h0 => h.2 h0⟩
theorem tokensP_asc {s : By} (hs : s.length ≤ 4000) : (∀ t ∈ (tokensP s).1, AscAt s t.a ∧ t.a ≤ s.length) ∧ ((tokensP s).2.2 ≠ 0 → (tokensP s).2.2 = 3 ∧ AscAt s (tokensP s).2.1 ∧ (tokensP s).2.1 ≤ s.length) := by
 unfold tokensP
 rw [if_neg (by omega)]
 exact toks_asc (s.length + 1) [] s 0 (Nat.lt_succ_self _) (.inl rfl)
end Go.Proofs.YtiijdojihleggaaGreatDoor
namespace Go.Proofs.YtiijdojihleggaaGreatDoor
def parseR (c : Bool) (s : By) : Except (Int × Option Nat) F :=
 if 4000 < s.length then .error (6, none)
 else if (tokensP s).2.2 ≠ 0 then .error ((tokensP s).2.2, some (tokensP s).2.1)
 else match msgC s.length 0 c ⟨(tokensP s).1, []⟩ with
  | .error e => .error (e.1, some e.2)
  | .ok x => match x.2.left with
    | t :: _ => .error (3, some t.a)
    | [] => if 4000 < (txtP [32] x.1).length then .error (6, none) else .ok x.1
def validF (c : Bool) (f : F) : Bool := formB 0 c false f && decide ((namesF f []).length ≤ 20) && decide ((txtP [32] f).length ≤ 4000)
theorem validF_iff {c : Bool} {f : F} : validF c f = true ↔ formB 0 c false f = true ∧ (namesF f []).length ≤ 20 ∧ (txtP [32] f).length ≤ 4000 := by
 unfold validF
 simp only [Bool.and_eq_true, decide_eq_true_iff]
 exact ⟨fun h => ⟨h.1.1, h.1.2, h.2⟩, fun h => ⟨⟨h.1, h.2.1⟩, h.2.2⟩⟩
theorem parseR_ok {c : Bool} {s : By} {f : F} : parseR c s = .ok f ↔ s.length ≤ 4000 ∧ (tokensP s).2.2 = 0 ∧ (∃ ns, msgC s.length 0 c ⟨(tokensP s).1, []⟩ = .ok (f, ⟨[], ns⟩)) ∧ (txtP [32] f).length ≤ 4000 := by
 unfold parseR
 by_cases h1 : 4000 < s.length
 ·rw [if_pos h1]
  exact ⟨fun h => (by cases h), fun h => absurd h.1 (by omega)⟩
 rw [if_neg h1]
 by_cases h2 : (tokensP s).2.2 ≠ 0
 ·rw [if_pos h2]
  exact ⟨fun h => (by cases h), fun h => absurd h.2.1 h2⟩
 rw [if_neg h2]
 have h2' : (tokensP s).2.2 = 0 := Classical.not_not.1 h2
 cases hm : msgC s.length 0 c ⟨(tokensP s).1, []⟩ with
 | error e => exact ⟨fun h => (by cases h), fun ⟨_, _, ⟨ns, h⟩, _⟩ => (by cases h)⟩
 | ok x =>
   obtain ⟨g, ⟨l, ns⟩⟩ := x
   simp only
   cases l with
   | cons t l => exact ⟨fun h => (by cases h), fun ⟨_, _, ⟨ns, h⟩, _⟩ => (by injection h with h; injection h with _ h; injection h with h; cases h)⟩
   | nil =>
     simp only
     by_cases h4 : 4000 < (txtP [32] g).length
     ·rw [if_pos h4]
      exact ⟨fun h => (by cases h), fun ⟨_, _, ⟨ns, h⟩, h5⟩ => (by injection h with h; injection h with h; rw [← h] at h5; omega)⟩
     ·rw [if_neg h4]
      constructor
      ·intro h
       injection h with h
       subst h
       exact ⟨by omega, h2', ⟨ns, rfl⟩, by omega⟩
      ·rintro ⟨_, _, ⟨ns', h⟩, _⟩
       injection h with h
       injection h with h
       rw [h]
theorem parse_valid {c : Bool} {s : By} {f : F} (h : parseR c s = .ok f) : validF c f = true := by
 obtain ⟨h1, h2, ⟨ns, h3⟩, h4⟩ := parseR_ok.1 h
 obtain ⟨f1, f2, f3⟩ := msgC_form (tokensP_ok h1 h2) (by simp) h3
 exact validF_iff.2 ⟨f1, by rw [← f2]; exact f3, h4⟩
theorem parse_err {c : Bool} {s : By} {e : Int} {a : Nat} (h : parseR c s = .error (e, some a)) : s.length ≤ 4000 ∧ (e = 3 ∨ e = 6 ∨ e = 9 ∨ e = 13) ∧ a ≤ s.length ∧ AscAt s a := by
 unfold parseR at h
 by_cases h1 : 4000 < s.length
 ·rw [if_pos h1] at h; injection h with h; injection h with _ h; cases h
 rw [if_neg h1] at h
 have hs : s.length ≤ 4000 := by omega
 obtain ⟨ha1, ha2⟩ := tokensP_asc hs
 by_cases h2 : (tokensP s).2.2 ≠ 0
 ·rw [if_pos h2] at h
  injection h with h
  injection h with h3 h4
  injection h4 with h4
  obtain ⟨q1, q2, q3⟩ := ha2 h2
  exact ⟨hs, .inl (by rw [← h3]; exact q1), by rw [← h4]; exact q3, by rw [← h4]; exact q2⟩
 rw [if_neg h2] at h
 cases hm : msgC s.length 0 c ⟨(tokensP s).1, []⟩ with
 | error e' =>
   rw [hm] at h
   injection h with h
   injection h with h3 h4
   injection h4 with h4
   obtain ⟨q1, q2⟩ := msgC_err hm
   refine ⟨hs, by rw [← h3]; exact q1, ?_⟩
   rw [← h4]
   rcases q2 with q2 | ⟨t, ht, q2⟩
   ·rw [q2]; exact ⟨Nat.le_refl _, .inr (.inl (Nat.le_refl _))⟩
   ·rw [q2]; exact ⟨(ha1 t ht).2, (ha1 t ht).1⟩
 | ok x =>
   have hsf := msgC_suf hm
   obtain ⟨g, ⟨l, ns⟩⟩ := x
   rw [hm] at h
   simp only at h hsf
   cases l with
   | nil =>
     simp only at h
     split at h
     ·injection h with h; injection h with _ h; cases h
     ·cases h
   | cons t l =>
     injection h with h
     injection h with h3 h4
     injection h4 with h4
     have := ha1 t (hsf t List.mem_cons_self)
     exact ⟨hs, .inl h3.symm, by rw [← h4]; exact this.2, by rw [← h4]; exact this.1⟩
theorem parse_none {c : Bool} {s : By} {e : Int} (h : parseR c s = .error (e, none)) : e = 6 := by
 unfold parseR at h
 split at h
 ·injection h with h; injection h with h; exact h.symm
 split at h
 ·injection h with h; injection h with _ h; cases h
 split at h
 ·injection h with h; injection h with _ h; cases h
 ·split at h
  ·injection h with h; injection h with _ h; cases h
  ·split at h
   ·injection h with h; injection h with h; exact h.symm
   ·cases h
end Go.Proofs.YtiijdojihleggaaGreatDoor
namespace Go.Proofs.YtiijdojihleggaaGreatDoor
def F.part : F → Nat → Option (Int × By × By × By × F × F)
 | .nil, _ => none
 | .cons k t n s cs ps _, 0 => some (k, t, n, s, cs, ps)
 | .cons _ _ _ _ _ _ r, i + 1 => r.part i
theorem foldN_nodup : ∀ (l ns : List By), ns.Nodup → (l.foldl addN ns).Nodup ∧ ∀ x, x ∈ l.foldl addN ns ↔ x ∈ ns ∨ x ∈ l
 | [], ns, h => ⟨h, fun x => by simp⟩
 | n :: l, ns, h => by
   have hn : (addN ns n).Nodup := by
    unfold addN
    split
    ·exact h
    ·rename_i hm
     rw [List.nodup_append]
     exact ⟨h, by simp, fun a ha b hb e => by simp at hb; subst hb e; exact hm ha⟩
   obtain ⟨h1, h2⟩ := foldN_nodup l (addN ns n) hn
   refine ⟨h1, fun x => ?_⟩
   rw [List.foldl_cons, h2 x, List.mem_cons]
   unfold addN
   split
   ·rename_i hm
    constructor
    ·rintro (h | h); exact .inl h; exact .inr (.inr h)
    ·rintro (h | rfl | h); exact .inl h; exact .inl hm; exact .inr h
   ·simp only [List.mem_append, List.mem_cons, List.not_mem_nil, or_false]
    constructor
    ·rintro ((h | h) | h); exact .inl h; exact .inr (.inl h); exact .inr (.inr h)
    ·rintro (h | h | h); exact .inl (.inl h); exact .inl (.inr h); exact .inr h
inductive Inner : F → F → Prop where
 | elem {k : Int} {t n s : By} {cs ps r : F} : Inner ps (.cons k t n s cs ps r)
 | case {k : Int} {t n s : By} {cs ps r q : F} (h : Inner q cs) : Inner q (.cons k t n s cs ps r)
 | next {k : Int} {t n s : By} {cs ps r q : F} (h : Inner q r) : Inner q (.cons k t n s cs ps r)
end Go.Proofs.YtiijdojihleggaaGreatDoor
namespace Go.Proofs.YtiijdojihleggaaGreatDoor
end Go.Proofs.YtiijdojihleggaaGreatDoor
