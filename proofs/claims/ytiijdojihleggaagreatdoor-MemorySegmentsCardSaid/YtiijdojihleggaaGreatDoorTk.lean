set_option maxRecDepth 100000
set_option linter.unusedSimpArgs false
set_option linter.unusedVariables false
namespace Go.Proofs.YtiijdojihleggaaGreatDoor
abbrev By := List UInt8
def specB (c : UInt8) : Bool := c == 123 || c == 125 || c == 60 || c == 62 || c == 35 || c == 92
def lowB (c : UInt8) : Bool := decide (97 ≤ c) && decide (c ≤ 122)
def capB (c : UInt8) : Bool := decide (65 ≤ c) && decide (c ≤ 90)
def digB (c : UInt8) : Bool := decide (48 ≤ c) && decide (c ≤ 57)
def alnB (c : UInt8) : Bool := lowB c || capB c || digB c
def innerB (c : UInt8) : Bool := alnB c || c == 95 || c == 45
def wordB (c : UInt8) : Bool := innerB c || c == 46 || c == 61
def blankB (c : UInt8) : Bool := c == 32 || c == 9 || c == 10
def nameB (s : By) : Bool := decide (1 ≤ s.length) && decide (s.length ≤ 40) && lowB (s.headD 0) && s.all innerB
def textN : By → Nat
 | [] => 0
 | [c] => if specB c then 0 else 1
 | c :: d :: r => if specB c then (if c == 92 && specB d then textN r + 2 else 0) else textN (d :: r) + 1
def wordN (s : By) : Nat := (s.takeWhile wordB).length
def elemP (s : By) : Option (Nat × By × Nat) :=
 let e := s.head? == some 47
 let q := if e then s.drop 1 else s
 let name := q.takeWhile innerB
 let rest := q.drop name.length
 if nameB name = true then
  (if rest.head? = some 62 then some (if e then (6, name, name.length + 3) else (5, name, name.length + 2))
   else if e = false ∧ rest.take 2 = [47, 62] then some (7, name, name.length + 3) else none)
 else none
structure Tok where
 k : Nat
 t : By
 a : Nat
 b : Nat
def nextP (s : By) (brace : Bool) : Option (Nat × By × Nat) :=
 match s with
 | [] => none
 | c :: r =>
   if c == 123 then some (2, [123], 1)
   else if c == 125 then some (3, [125], 1)
   else if brace then (if c == 44 then some (8, [44], 1) else if wordN s = 0 then none else some (9, s.take (wordN s), wordN s))
   else if c == 35 then some (4, [35], 1)
   else if c == 60 then elemP r
   else if textN s = 0 then none else some (1, s.take (textN s), textN s)
def deepN (k d : Nat) : Nat := if k = 2 then d + 1 else if k = 3 then d - 1 else d
def toksP : Nat → By → Nat → Nat → List Tok × Nat × Int
 | 0, _, a, _ => ([], a, 3)
 | n + 1, s, a, d => match s with
   | [] => if 0 < d then ([], a, 3) else ([], 0, 0)
   | c :: r =>
     if (d % 2 == 1 && blankB c) = true then toksP n r (a + 1) d
     else match nextP s (d % 2 == 1) with
      | none => ([], a, 3)
      | some (k, x, m) =>
        if k = 3 ∧ d = 0 then ([], a, 3)
        else if (toksP n (s.drop m) (a + m) (deepN k d)).2.2 = 0 then (⟨k, x, a, a + m⟩ :: (toksP n (s.drop m) (a + m) (deepN k d)).1, 0, 0)
        else ([], (toksP n (s.drop m) (a + m) (deepN k d)).2)
def tokensP (s : By) : List Tok × Nat × Int := if 4000 < s.length then ([], 4000, 6) else toksP (s.length + 1) s 0 0
def escP (s : By) : By := s.flatMap fun c => if specB c then [92, c] else [c]
def unescP : By → By
 | [] => []
 | [c] => [c]
 | c :: d :: r => if c == 92 then d :: unescP r else c :: unescP (d :: r)
inductive F where
 | nil
 | cons (kind : Int) (text name style : By) (cases parts rest : F)
namespace F
def len : F → Nat
 | nil => 0
 | cons _ _ _ _ _ _ r => r.len + 1
def app : F → F → F
 | nil, g => g
 | cons k t n s c p r, g => cons k t n s c p (r.app g)
theorem app_nil (f : F) : f.app nil = f := by
 induction f with
 | nil => rfl
 | cons k t n s c p r _ _ ih => simp only [app]; rw [ih]
theorem app_assoc (f g h : F) : (f.app g).app h = f.app (g.app h) := by
 induction f with
 | nil => rfl
 | cons k t n s c p r _ _ ih => simp only [app]; rw [ih]
theorem len_app (f g : F) : (f.app g).len = f.len + g.len := by
 induction f with
 | nil => simp [app, len]
 | cons k t n s c p r _ _ ih => simp only [app, len]; rw [ih]; omega
def one (k : Int) (t n s : By) (c p : F) : F := cons k t n s c p nil
end F
abbrev Err := Int × Nat
structure St where
 left : List Tok
 names : List By
def plE (E : Nat) (l : List Tok) : Nat := match l with
 | [] => E
 | t :: _ => t.a
def useP (s : By) : Nat :=
 if s = [110, 117, 109, 98, 101, 114] then 3 else if s = [117, 110, 105, 116] then 4 else if s = [100, 97, 116, 101] then 5 else if s = [108, 105, 115, 116] then 6
 else if s = [112, 108, 117, 114, 97, 108] then 7 else if s = [111, 114, 100, 105, 110, 97, 108] then 8 else if s = [115, 101, 108, 101, 99, 116] then 9 else 0
def classB (s : By) : Bool := s == [122, 101, 114, 111] || s == [111, 110, 101] || s == [116, 119, 111] || s == [102, 101, 119] || s == [109, 97, 110, 121] || s == [111, 116, 104, 101, 114]
def otherP : By := [111, 116, 104, 101, 114]
def skelB (s : By) : Bool := s.all (fun c => lowB c || capB c) && decide (1 ≤ s.length) && decide (s.length ≤ 40)
def numStyleB (s : By) : Bool := s == [105, 110, 116, 101, 103, 101, 114] || s == [112, 101, 114, 99, 101, 110, 116]
def wholeB (s : By) : Bool := decide (1 ≤ s.length) && decide (s.length ≤ 15) && s.all digB && (decide (s.length = 1) || !(s.head? == some 48))
def fracB (s : By) : Bool := decide (1 ≤ s.length) && decide (s.length ≤ 6) && s.all digB
def decB (s : By) : Bool :=
 let g := s.head? == some 45
 let q := if g then s.drop 1 else s
 let w := q.takeWhile fun c => !(c == 46)
 let f := (q.drop (w.length + 1))
 wholeB w && (decide (q.length = w.length) || fracB f) && !(g && (w ++ f).all (· == 48))
def keyB (kind : Nat) (s : By) : Bool := if kind = 9 then nameB s else classB s || (s.head? == some 61 && decB (s.drop 1))
def selB (k : Nat) : Bool := k == 7 || k == 8 || k == 9
def takeP (E k : Nat) : List Tok → Except Err (By × List Tok)
 | [] => .error (3, E)
 | t :: r => if t.k = k then .ok (t.t, r) else .error (3, t.a)
def wrdP (E : Nat) (fits : By → Bool) : List Tok → Except Err (By × List Tok)
 | [] => .error (3, E)
 | t :: r => if t.k = 9 ∧ fits t.t = true then .ok (t.t, r) else .error (3, t.a)
def namP (E : Nat) (st : St) : Except Err (By × St) :=
 match st.left with
 | [] => .error (3, E)
 | t :: r => if t.k = 9 ∧ nameB t.t = true then
     (if t.t ∈ st.names then .ok (t.t, ⟨r, st.names⟩) else if 20 ≤ st.names.length then .error (6, t.a) else .ok (t.t, ⟨r, st.names ++ [t.t]⟩))
   else .error (3, t.a)
mutual
def msgP (E : Nat) : Nat → Nat → Bool → St → Except Err (F × St)
 | 0, _, _, st => .ok (.nil, st)
 | n + 1, d, c, st => match st.left with
   | [] => .ok (.nil, st)
   | t :: r =>
     if t.k = 1 then (msgP E n d c ⟨r, st.names⟩).map fun x => (.cons 1 (unescP t.t) [] [] .nil .nil x.1, x.2)
     else if t.k = 4 then (if c = true then (msgP E n d c ⟨r, st.names⟩).map fun x => (.cons 10 [] [] [] .nil .nil x.1, x.2) else .error (3, t.a))
     else if t.k = 7 then (if d < 8 then (msgP E n d c ⟨r, st.names⟩).map fun x => (.cons 11 [] t.t [] .nil .nil x.1, x.2) else .error (6, t.a))
     else if t.k = 5 then (if d < 8 then (msgP E n (d + 1) c ⟨r, st.names⟩).bind fun y =>
      match y.2.left with
      | [] => .error (3, E)
      | u :: q => if u.k = 6 ∧ u.t = t.t then (msgP E n d c ⟨q, y.2.names⟩).map fun x => (.cons 11 [] t.t [] .nil y.1 x.1, x.2) else .error (3, u.a)
      else .error (6, t.a))
     else if t.k = 2 then (argP E n d c ⟨r, st.names⟩).bind fun y => (msgP E n d c y.2).map fun x => (y.1.app x.1, x.2)
     else .ok (.nil, st)
def argP (E : Nat) : Nat → Nat → Bool → St → Except Err (F × St)
 | 0, _, _, st => .ok (.nil, st)
 | n + 1, d, c, st => (namP E st).bind fun y =>
   match y.2.left with
   | [] => .error (3, E)
   | t :: r =>
     if t.k = 3 then .ok (.one 2 [] y.1 [] .nil .nil, ⟨r, y.2.names⟩)
     else if t.k = 8 then
      (match r with
      | [] => .error (3, E)
      | u :: q =>
        if u.k = 9 ∧ ¬ useP u.t = 0 then
         (if selB (useP u.t) = true then
          (if d < 8 then (takeP E 8 q).bind fun z => (casP E n (useP u.t) d (c || useP u.t != 9) [] ⟨z.2, y.2.names⟩).bind fun v =>
           (takeP E 3 v.2.left).map fun e => (.one (useP u.t) [] y.1 [] v.1 .nil, ⟨e.2, v.2.names⟩)
          else .error (6, u.a))
         else if useP u.t = 3 ∧ (q.head?.map (·.k)) ≠ some 8 then (takeP E 3 q).map fun e => (.one 3 [] y.1 [] .nil .nil, ⟨e.2, y.2.names⟩)
         else (takeP E 8 q).bind fun z => (wrdP E (if useP u.t = 3 then numStyleB else if useP u.t = 5 then skelB else nameB) z.2).bind fun v =>
          (takeP E 3 v.2).map fun e => (.one (useP u.t) [] y.1 v.1 .nil .nil, ⟨e.2, y.2.names⟩))
        else .error (3, u.a))
     else .error (3, t.a)
def casP (E : Nat) : Nat → Nat → Nat → Bool → List By → St → Except Err (F × St)
 | 0, _, _, _, _, st => .ok (.nil, st)
 | n + 1, kind, d, c, ks, st => match st.left with
   | [] => .error (3, E)
   | t :: r =>
     if t.k = 9 ∧ keyB kind t.t = true then
      (if 20 ≤ ks.length then .error (6, t.a) else if t.t ∈ ks then .error (9, t.a)
      else (takeP E 2 r).bind fun z => (msgP E n (d + 1) c ⟨z.2, st.names⟩).bind fun y => (takeP E 3 y.2.left).bind fun e =>
       (casP E n kind d c (ks ++ [t.t]) ⟨e.2, y.2.names⟩).map fun x => (.cons 0 [] t.t [] .nil y.1 x.1, x.2))
     else if ks ≠ [] ∧ t.k = 3 then (if otherP ∈ ks then .ok (.nil, st) else .error (13, t.a))
     else .error (3, t.a)
end
def usesP (k : Int) : By :=
 if k = 3 then [110, 117, 109, 98, 101, 114] else if k = 4 then [117, 110, 105, 116] else if k = 5 then [100, 97, 116, 101] else if k = 6 then [108, 105, 115, 116]
 else if k = 7 then [112, 108, 117, 114, 97, 108] else if k = 8 then [111, 114, 100, 105, 110, 97, 108] else if k = 9 then [115, 101, 108, 101, 99, 116] else []
def styleP (gap s : By) : By := if s = [] then [] else [44] ++ gap ++ s
mutual
def txtP (gap : By) : F → By
 | .nil => []
 | .cons k t n s cs ps r =>
   (if k = 1 then escP t
   else if k = 10 then [35]
   else if k = 11 then (if ps.len = 0 then [60] ++ n ++ [47, 62] else [60] ++ n ++ [62] ++ txtP gap ps ++ [60, 47] ++ n ++ [62])
   else if k = 2 then [123] ++ n ++ [125]
   else if 3 ≤ k ∧ k ≤ 9 then [123] ++ n ++ [44] ++ gap ++ usesP k ++ styleP gap s ++ (if 7 ≤ k then [44] else []) ++ casT gap cs ++ [125]
   else []) ++ txtP gap r
def casT (gap : By) : F → By
 | .nil => []
 | .cons _ _ key _ _ ps r => gap ++ key ++ gap ++ [123] ++ txtP gap ps ++ [125] ++ casT gap r
end
end Go.Proofs.YtiijdojihleggaaGreatDoor
