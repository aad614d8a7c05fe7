import Derived.WalkKit
import Derived.WalkLawsBesides
import Derived.WalkSpells
import Derived.Lib.Hide
import Derived.Deep.QuietTactic
import Derived.BigQuiet
import Derived.Deep.Draws
import Derived.Laws.OwnMore
import Derived.StillTailTactics
import Derived.Deep.OwnRows
import Derived.Deep.DeepCutAuto
import Derived.Deep.CutBlock
import Derived.Deep.LoopGhost
import Derived.Laws.AppendOwn
set_option maxRecDepth 100000
set_option linter.unusedSimpArgs false
set_option linter.unusedVariables false
namespace Go.Proofs.YtiijdojihleggaaGreatDoor
open Go.RowKit
def Ext (w w' : World) : Prop := Below w.heap.size w w'
theorem Ext.refl (w : World) : Ext w w := Below.refl _ _
theorem Ext.size {w w' : World} (h : Ext w w') : w.heap.size ≤ w'.heap.size := Below.size h
theorem Ext.trans {a b c : World} (h : Ext a b) (k : Ext b c) : Ext a c := Below.trans h (k.mono (Below.size h))
theorem Ext.drew {a w : World} (h : Ext a w) : Ext a w.drew := Below.drew h
theorem Ext.drewN {a w : World} (h : Ext a w) (n : Nat) : Ext a (w.drewN n) := by
 have h0 : Below a.heap.size a w := h
 exact ⟨h0.os, h0.tape, h0.output, h0.size, h0.block⟩
theorem Ext.alloc {a w : World} (h : Ext a w) (o : Obj) : Ext a (w.alloc o) := Below.alloc h (Ext.size h) o
theorem Ext.setCell {a w : World} (h : Ext a w) {p : Addr} (hp : a.heap.size ≤ p.block) (u : Value) : Ext a (w.setCell p u) := Below.setCell h hp u
theorem Ext.grown {a w w' : World} {row : Option Nat} (h : Ext a w) (hg : w.grownBy w' row) (hr : ∀ k, row = some k → a.heap.size ≤ k) : Ext a w' :=
 Below.grown h hg (Ext.size h) hr
theorem Ext.cell {w w' : World} (h : Ext w w') {p : Addr} (hp : p.block < w.heap.size) : w'.cell? p = w.cell? p := Below.cell h hp
theorem addr_block (a : Addr) (n : Nat) : (a.add n).block = a.block := by
 unfold Addr.add
 split <;> rfl
def Sl (w : World) (A : Option Addr) (n : Nat) (xs : List Value) : Prop :=
 xs.length = n ∧ ∀ j u, xs[j]? = some u → ∃ ad, A = some ad ∧ ad.block < w.heap.size ∧ w.cell? (ad.add j) = some u
theorem Sl.len {w : World} {A : Option Addr} {n : Nat} {xs : List Value} (h : Sl w A n xs) : n = xs.length := h.1.symm
theorem Sl.ext {w w' : World} {A : Option Addr} {n : Nat} {xs : List Value} (h : Sl w A n xs) (hw : Ext w w') : Sl w' A n xs :=
 ⟨h.1, fun j u hu => by
  obtain ⟨ad, ha, hb, hc⟩ := h.2 j u hu
  exact ⟨ad, ha, Nat.lt_of_lt_of_le hb (Ext.size hw), (Ext.cell hw (by rw [addr_block]; exact hb)).trans hc⟩⟩
theorem Sl.at_ {w : World} {A : Option Addr} {n k : Nat} {xs : List Value} (h : Sl w A n xs) (hk : k < n) :
 ∃ ad u, A = some ad ∧ xs[k]? = some u ∧ w.cell? (ad.add k) = some u := by
 have hl : k < xs.length := by have := h.1; omega
 obtain ⟨ad, ha, _, hc⟩ := h.2 k xs[k] (List.getElem?_eq_getElem hl)
 exact ⟨ad, _, ha, List.getElem?_eq_getElem hl, hc⟩
theorem Sl.at_map {α : Type} {f : α → Value} {w : World} {A : Option Addr} {n k : Nat} {xs : List α} (h : Sl w A n (xs.map f)) (hk : k < n) :
 ∃ ad x, A = some ad ∧ xs[k]? = some x ∧ w.cell? (ad.add k) = some (f x) := by
 obtain ⟨ad, u, ha, hu, hc⟩ := h.at_ hk
 rw [List.getElem?_map] at hu
 cases hx : xs[k]? with
 | none => rw [hx] at hu; simp at hu
 | some x => rw [hx] at hu; simp at hu; subst hu; exact ⟨ad, x, ha, rfl, hc⟩
theorem Sl.nil (w : World) (A : Option Addr) : Sl w A 0 [] := ⟨rfl, fun j u h => by simp at h⟩
theorem own_sl {w : World} {B : Nat} {e : TypeId} {v : Value} {n : Nat} {xs : List Value} (h : w.ownsRow B e 1 v n xs) :
 ∃ A c, v = .slice A n c ∧ Sl w A n xs ∧ n ≤ c := by
 obtain ⟨hl, h⟩ := h
 rcases h with ⟨rfl, rfl⟩ | ⟨g, cap, cur, rfl, hb, hg, hn, hm, hs, ht⟩
 ·exact ⟨none, 0, rfl, ⟨by simpa using hl, fun j u hu => by
   have : xs = [] := List.eq_nil_of_length_eq_zero (by simpa using hl)
   subst this
   simp at hu⟩, Nat.le_refl _⟩
 ·refine ⟨some ⟨g, 0, none⟩, cap, rfl, ⟨by simpa using hl, fun j u hu => ⟨_, rfl, (Array.getElem?_eq_some_iff.1 hg).1, ?_⟩⟩, hn⟩
  have hj : j < xs.length := (List.getElem?_eq_some_iff.1 hu).1
  have e1 : (⟨g, 0, none⟩ : Addr).add j = ⟨g, j, none⟩ := by
   unfold Addr.add
   split
   ·subst_vars; rfl
   ·simp
  rw [e1, cell_of_row w g j cur e (0, 0) hg]
  have h2 : cur.toList[j]? = some u := by
   have h3 : (cur.toList.take (n * 1))[j]? = some u := by rw [ht]; exact hu
   rw [List.getElem?_take] at h3
   split at h3
   ·exact h3
   ·cases h3
  simpa using h2
theorem own_lt {w : World} {B : Nat} {e : TypeId} {size : Nat} {v : Value} {n : Nat} {xs : List Value} (h : w.ownsRow B e size v n xs) :
 ∀ k, v.ownBlock = some k → B ≤ k := fun k hk => (h.lt k hk).1
section
variable {P : Program} (w : World)
theorem run_append_nil_any (base : Nat) (t ty e : TypeId) (i : TypeInfo) (size : Nat) (ht : P.underlying t = some (.slice e)) (hi : P.info? e = some i)
 (v : Value) (n : Nat) (xs : List Value) (hown : w.ownsRow base e size v n xs) (c : Nat) : (Builtin.append_ #[t, t] ty #[v, .slice none 0 c]).run P w = .ok v w := by
 rcases hown.2 with ⟨rfl, rfl⟩ | ⟨g, cap, cur, rfl, _, _, hnc, _⟩
 ·simp [Builtin.append_, run_underlying ht, sizeOf, typeInfo, hi, Builtin.lenOf, Builtin.firstCells]
 ·simp [Builtin.append_, run_underlying ht, sizeOf, typeInfo, hi, Builtin.lenOf, Builtin.firstCells, hnc, storeCells]
theorem wpList_app {ops : Array Oper} {rest : List Oper} {o : Oper} {a : Act} {Q : Exit → Act → World → Prop} (hgd : o.guard = none) (s x : Operand) (t : TypeId)
 (ho : o.op = .call { callee := .builtin .append, args := #[s, x], argTypes := #[t, t] })
 (base : Nat) (e : TypeId) (i : TypeInfo) (z : Value) (bytes : Nat) (ht : P.underlying t = some (.slice e)) (hi : P.info? e = some i) (hz : i.zero = some z)
 (hsize : i.size = 1) (hby : i.bytes = bytes) (hzs : z.cells.size = 1)
 (v : Value) (n : Nat) (xs : List Value) (hs : a.eval s = v) (hown : w.ownsRow base e 1 v n xs)
 (A : Option Addr) (m c : Nat) (news : List Value) (hx : a.eval x = .slice A m c) (hsl : Sl w A m news) (h1 : ∀ u ∈ news, u.oneCell' = true)
 (h63 : n + m ≤ maxLen) (hbytes : (n + m) * bytes ≤ 140737488355328) (hbase : base ≤ w.heap.size)
 (h : ∀ v' w', w'.ownsRow base e 1 v' (n + m) (xs ++ news) → w.grownBy w' v.ownBlock → wpList P ops Q rest (a.put o.dst v') w') :
 wpList P ops Q (o :: rest) a w := by
 cases A with
 | none =>
   have hm : m = 0 := by
    rcases Nat.eq_zero_or_pos m with h0 | h0
    ·exact h0
    ·obtain ⟨ad, u, hA, _⟩ := hsl.at_ h0
     cases hA
   subst hm
   have hn : news = [] := List.eq_nil_of_length_eq_zero hsl.1
   subst hn
   refine wpList_plain hgd fun K hK => ?_
   have hrun := run_append_nil_any (P := P) w base t o.type e i 1 ht hi v n xs hown c
   unfold Oper.wp execOp
   simp only [ho, resolve, invoke, builtin, Sem.run_bind, Sem.run_pure, Result.andThen_ok, List.map_toArray, List.map_cons, List.map_nil, hs, hx, hrun]
   exact hK _ _ (h v w (by simpa using hown) (World.grownBy.refl w _))
 | some ad =>
   refine wpList_append_own w hgd s x t ho base e i z 1 bytes ht hi hz hsize hby hzs (by decide) v n xs hs hown ad m c news hx (by rw [hsl.1, Nat.mul_one])
    (fun j u hu => ?_) h1 h63 hbytes hbase (fun v' w' a1 a2 _ => h v' w' a1 a2)
   obtain ⟨ad', ha, _, hc⟩ := hsl.2 j u hu
   injection ha with ha
   subst ha
   exact hc
end
theorem Sl.one (w : World) (u : Value) (t : TypeId) : Sl (w.alloc (.cells #[u] t)) (some ⟨w.heap.size, 0, none⟩) 1 [u] :=
 ⟨rfl, fun j x hx => by
  refine ⟨_, rfl, by simp, ?_⟩
  have hj : j = 0 := by have := (List.getElem?_eq_some_iff.1 hx).1; simp at this; exact this
  subst hj
  simp at hx
  subst hx
  show (w.alloc (.cells #[u] t)).cell? ⟨w.heap.size, 0, none⟩ = some u
  rw [cell_of_row _ w.heap.size 0 #[u] t (0, 0) (heap_alloc_new w _)]
  rfl⟩
def strv (l : List UInt8) : Value := .string ⟨l.toArray⟩
theorem strv_extract (s : ByteArray) (a b : Nat) : Value.string (s.extract a b) = strv ((s.data.toList.drop a).take (b - a)) := by
 unfold strv
 congr 1
 apply ByteArray.ext
 apply Array.toList_inj.1
 simp [ByteArray.data_extract, List.extract_eq_take_drop]
theorem bytes_ne {x y : ByteArray} (h : x ≠ y) : (x.toList == y.toList) = false := by
 rw [beq_eq_false_iff_ne, ByteArray.toList_eq, ByteArray.toList_eq]
 intro e
 exact h (ByteArray.ext (Array.toList_inj.mp e))
theorem ret_bool {a b : Bool} (h : a = b) : Ending.returned (.bool a) = .returned (.bool b) := by rw [h]
theorem ret_int {k : IntKind} {a b : Int} (h : a = b) : Ending.returned (.int k a) = .returned (.int k b) := by rw [h]
theorem ret_val {a b : Value} (h : a = b) : Ending.returned a = .returned b := by rw [h]
theorem size_list (s : ByteArray) : s.data.toList.length = s.size := rfl
theorem get_list (s : ByteArray) (k : Nat) (h : k < s.size) : s.data.toList[k]'(by rw [size_list]; exact h) = s[k] := by
 simp; rfl
theorem take_next {α : Type} {xs : List α} {k : Nat} {x : α} (h : xs[k]? = some x) : xs.take (k + 1) = xs.take k ++ [x] := by
 rw [List.take_add_one, h]; rfl
theorem own_ext {w w' : World} {B : Nat} {e : TypeId} {size : Nat} {v : Value} {n : Nat} {xs : List Value} (h : w.ownsRow B e size v n xs) (hw : Ext w w') : w'.ownsRow B e size v n xs := by
 obtain ⟨h1, h2⟩ := h
 refine ⟨h1, ?_⟩
 rcases h2 with h2 | ⟨g, cap, cur, hv, hb, hg, r⟩
 ·exact .inl h2
 ·exact .inr ⟨g, cap, cur, hv, hb, (Below.block hw g (Array.getElem?_eq_some_iff.1 hg).1).trans hg, r⟩
theorem strv_one (l : List (List UInt8)) : ∀ u ∈ l.map strv, u.oneCell' = true := by
 intro u hu
 obtain ⟨x, _, rfl⟩ := List.mem_map.1 hu
 rfl
theorem string_one (l : List ByteArray) : ∀ u ∈ l.map Value.string, u.oneCell' = true := by
 intro u hu
 obtain ⟨x, _, rfl⟩ := List.mem_map.1 hu
 rfl
theorem own_empty (w : World) (e : TypeId) : (w.alloc (.cells #[] e)).ownsRow w.heap.size e 1 (.slice (some ⟨w.heap.size, 0, none⟩) 0 0) 0 [] :=
 World.ownsRow_made w #[] 0 (Nat.le_refl _) (Nat.zero_le _) rfl
theorem ext_grown {a w w' : World} {B : Nat} {e : TypeId} {size n : Nat} {v : Value} {xs : List Value} (h : Ext a w) (ho : w.ownsRow B e size v n xs) (hB : a.heap.size ≤ B) (hg : w.grownBy w' v.ownBlock) : Ext a w' :=
 h.grown hg (fun k hk => Nat.le_trans hB (own_lt ho k hk))
theorem own_sl' {w : World} {B : Nat} {e : TypeId} {A : Option Addr} {m c n : Nat} {xs : List Value} (h : w.ownsRow B e 1 (.slice A m c) n xs) : m = n ∧ Sl w A n xs := by
 obtain ⟨A', c', hv, hs, _⟩ := own_sl h
 injection hv with h1 h2 h3
 subst h1; subst h2
 exact ⟨rfl, hs⟩
end Go.Proofs.YtiijdojihleggaaGreatDoor
namespace Go.Proofs.YtiijdojihleggaaGreatDoor
abbrev By := List UInt8
def specB (c : UInt8) : Bool := c == 123 || c == 125 || c == 60 || c == 62 || c == 35 || c == 92
def lowB (c : UInt8) : Bool := decide (97 ≤ c) && decide (c ≤ 122)
def capB (c : UInt8) : Bool := decide (65 ≤ c) && decide (c ≤ 90)
def digB (c : UInt8) : Bool := decide (48 ≤ c) && decide (c ≤ 57)
def alnB (c : UInt8) : Bool := lowB c || capB c || digB c
def innerB (c : UInt8) : Bool := alnB c || c == 95 || c == 45
def wordB (c : UInt8) : Bool := innerB c || c == 46 || c == 61
def blankB (c : UInt8) : Bool := c == 32 || c == 9 || c == 10
def nameB (s : By) : Bool := decide (1 ≤ s.length) && decide (s.length ≤ 40) && lowB (s.headD 0) && s.all innerB
def textN : By → Nat
 | [] => 0
 | [c] => if specB c then 0 else 1
 | c :: d :: r => if specB c then (if c == 92 && specB d then textN r + 2 else 0) else textN (d :: r) + 1
def wordN (s : By) : Nat := (s.takeWhile wordB).length
def elemP (s : By) : Option (Nat × By × Nat) :=
 let e := s.head? == some 47
 let q := if e then s.drop 1 else s
 let name := q.takeWhile innerB
 let rest := q.drop name.length
 if nameB name = true then
  (if rest.head? = some 62 then some (if e then (6, name, name.length + 3) else (5, name, name.length + 2))
   else if e = false ∧ rest.take 2 = [47, 62] then some (7, name, name.length + 3) else none)
 else none
structure Tok where
 k : Nat
 t : By
 a : Nat
 b : Nat
def nextP (s : By) (brace : Bool) : Option (Nat × By × Nat) :=
 match s with
 | [] => none
 | c :: r =>
   if c == 123 then some (2, [123], 1)
   else if c == 125 then some (3, [125], 1)
   else if brace then (if c == 44 then some (8, [44], 1) else if wordN s = 0 then none else some (9, s.take (wordN s), wordN s))
   else if c == 35 then some (4, [35], 1)
   else if c == 60 then elemP r
   else if textN s = 0 then none else some (1, s.take (textN s), textN s)
def deepN (k d : Nat) : Nat := if k = 2 then d + 1 else if k = 3 then d - 1 else d
def toksP : Nat → By → Nat → Nat → List Tok × Nat × Int
 | 0, _, a, _ => ([], a, 3)
 | n + 1, s, a, d => match s with
   | [] => if 0 < d then ([], a, 3) else ([], 0, 0)
   | c :: r =>
     if (d % 2 == 1 && blankB c) = true then toksP n r (a + 1) d
     else match nextP s (d % 2 == 1) with
      | none => ([], a, 3)
      | some (k, x, m) =>
        if k = 3 ∧ d = 0 then ([], a, 3)
        else if (toksP n (s.drop m) (a + m) (deepN k d)).2.2 = 0 then (⟨k, x, a, a + m⟩ :: (toksP n (s.drop m) (a + m) (deepN k d)).1, 0, 0)
        else ([], (toksP n (s.drop m) (a + m) (deepN k d)).2)
def tokensP (s : By) : List Tok × Nat × Int := if 4000 < s.length then ([], 4000, 6) else toksP (s.length + 1) s 0 0
def escP (s : By) : By := s.flatMap fun c => if specB c then [92, c] else [c]
def unescP : By → By
 | [] => []
 | [c] => [c]
 | c :: d :: r => if c == 92 then d :: unescP r else c :: unescP (d :: r)
inductive F where
 | nil
 | cons (kind : Int) (text name style : By) (cases parts rest : F)
namespace F
def len : F → Nat
 | nil => 0
 | cons _ _ _ _ _ _ r => r.len + 1
def app : F → F → F
 | nil, g => g
 | cons k t n s c p r, g => cons k t n s c p (r.app g)
theorem app_nil (f : F) : f.app nil = f := by
 induction f with
 | nil => rfl
 | cons k t n s c p r _ _ ih => simp only [app]; rw [ih]
theorem app_assoc (f g h : F) : (f.app g).app h = f.app (g.app h) := by
 induction f with
 | nil => rfl
 | cons k t n s c p r _ _ ih => simp only [app]; rw [ih]
theorem len_app (f g : F) : (f.app g).len = f.len + g.len := by
 induction f with
 | nil => simp [app, len]
 | cons k t n s c p r _ _ ih => simp only [app, len]; rw [ih]; omega
def one (k : Int) (t n s : By) (c p : F) : F := cons k t n s c p nil
end F
abbrev Err := Int × Nat
structure St where
 left : List Tok
 names : List By
def plE (E : Nat) (l : List Tok) : Nat := match l with
 | [] => E
 | t :: _ => t.a
def useP (s : By) : Nat :=
 if s = [110, 117, 109, 98, 101, 114] then 3 else if s = [117, 110, 105, 116] then 4 else if s = [100, 97, 116, 101] then 5 else if s = [108, 105, 115, 116] then 6
 else if s = [112, 108, 117, 114, 97, 108] then 7 else if s = [111, 114, 100, 105, 110, 97, 108] then 8 else if s = [115, 101, 108, 101, 99, 116] then 9 else 0
def classB (s : By) : Bool := s == [122, 101, 114, 111] || s == [111, 110, 101] || s == [116, 119, 111] || s == [102, 101, 119] || s == [109, 97, 110, 121] || s == [111, 116, 104, 101, 114]
def otherP : By := [111, 116, 104, 101, 114]
def skelB (s : By) : Bool := s.all (fun c => lowB c || capB c) && decide (1 ≤ s.length) && decide (s.length ≤ 40)
def numStyleB (s : By) : Bool := s == [105, 110, 116, 101, 103, 101, 114] || s == [112, 101, 114, 99, 101, 110, 116]
def wholeB (s : By) : Bool := decide (1 ≤ s.length) && decide (s.length ≤ 15) && s.all digB && (decide (s.length = 1) || !(s.head? == some 48))
def fracB (s : By) : Bool := decide (1 ≤ s.length) && decide (s.length ≤ 6) && s.all digB
def decB (s : By) : Bool :=
 let g := s.head? == some 45
 let q := if g then s.drop 1 else s
 let w := q.takeWhile fun c => !(c == 46)
 let f := (q.drop (w.length + 1))
 wholeB w && (decide (q.length = w.length) || fracB f) && !(g && (w ++ f).all (· == 48))
def keyB (kind : Nat) (s : By) : Bool := if kind = 9 then nameB s else classB s || (s.head? == some 61 && decB (s.drop 1))
def selB (k : Nat) : Bool := k == 7 || k == 8 || k == 9
def takeP (E k : Nat) : List Tok → Except Err (By × List Tok)
 | [] => .error (3, E)
 | t :: r => if t.k = k then .ok (t.t, r) else .error (3, t.a)
def wrdP (E : Nat) (fits : By → Bool) : List Tok → Except Err (By × List Tok)
 | [] => .error (3, E)
 | t :: r => if t.k = 9 ∧ fits t.t = true then .ok (t.t, r) else .error (3, t.a)
def namP (E : Nat) (st : St) : Except Err (By × St) :=
 match st.left with
 | [] => .error (3, E)
 | t :: r => if t.k = 9 ∧ nameB t.t = true then
     (if t.t ∈ st.names then .ok (t.t, ⟨r, st.names⟩) else if 20 ≤ st.names.length then .error (6, t.a) else .ok (t.t, ⟨r, st.names ++ [t.t]⟩))
   else .error (3, t.a)
mutual
def msgP (E : Nat) : Nat → Nat → Bool → St → Except Err (F × St)
 | 0, _, _, st => .ok (.nil, st)
 | n + 1, d, c, st => match st.left with
   | [] => .ok (.nil, st)
   | t :: r =>
     if t.k = 1 then (msgP E n d c ⟨r, st.names⟩).map fun x => (.cons 1 (unescP t.t) [] [] .nil .nil x.1, x.2)
     else if t.k = 4 then (if c = true then (msgP E n d c ⟨r, st.names⟩).map fun x => (.cons 10 [] [] [] .nil .nil x.1, x.2) else .error (3, t.a))
     else if t.k = 7 then (if d < 8 then (msgP E n d c ⟨r, st.names⟩).map fun x => (.cons 11 [] t.t [] .nil .nil x.1, x.2) else .error (6, t.a))
     else if t.k = 5 then (if d < 8 then (msgP E n (d + 1) c ⟨r, st.names⟩).bind fun y =>
      match y.2.left with
      | [] => .error (3, E)
      | u :: q => if u.k = 6 ∧ u.t = t.t then (msgP E n d c ⟨q, y.2.names⟩).map fun x => (.cons 11 [] t.t [] .nil y.1 x.1, x.2) else .error (3, u.a)
      else .error (6, t.a))
     else if t.k = 2 then (argP E n d c ⟨r, st.names⟩).bind fun y => (msgP E n d c y.2).map fun x => (y.1.app x.1, x.2)
     else .ok (.nil, st)
def argP (E : Nat) : Nat → Nat → Bool → St → Except Err (F × St)
 | 0, _, _, st => .ok (.nil, st)
 | n + 1, d, c, st => (namP E st).bind fun y =>
   match y.2.left with
   | [] => .error (3, E)
   | t :: r =>
     if t.k = 3 then .ok (.one 2 [] y.1 [] .nil .nil, ⟨r, y.2.names⟩)
     else if t.k = 8 then
      (match r with
      | [] => .error (3, E)
      | u :: q =>
        if u.k = 9 ∧ ¬ useP u.t = 0 then
         (if selB (useP u.t) = true then
          (if d < 8 then (takeP E 8 q).bind fun z => (casP E n (useP u.t) d (c || useP u.t != 9) [] ⟨z.2, y.2.names⟩).bind fun v =>
           (takeP E 3 v.2.left).map fun e => (.one (useP u.t) [] y.1 [] v.1 .nil, ⟨e.2, v.2.names⟩)
          else .error (6, u.a))
         else if useP u.t = 3 ∧ (q.head?.map (·.k)) ≠ some 8 then (takeP E 3 q).map fun e => (.one 3 [] y.1 [] .nil .nil, ⟨e.2, y.2.names⟩)
         else (takeP E 8 q).bind fun z => (wrdP E (if useP u.t = 3 then numStyleB else if useP u.t = 5 then skelB else nameB) z.2).bind fun v =>
          (takeP E 3 v.2).map fun e => (.one (useP u.t) [] y.1 v.1 .nil .nil, ⟨e.2, y.2.names⟩))
        else .error (3, u.a))
     else .error (3, t.a)
def casP (E : Nat) : Nat → Nat → Nat → Bool → List By → St → Except Err (F × St)
 | 0, _, _, _, _, st => .ok (.nil, st)
 | n + 1, kind, d, c, ks, st => match st.left with
   | [] => .error (3, E)
   | t :: r =>
     if t.k = 9 ∧ keyB kind t.t = true then
      (if 20 ≤ ks.length then .error (6, t.a) else if t.t ∈ ks then .error (9, t.a)
      else (takeP E 2 r).bind fun z => (msgP E n (d + 1) c ⟨z.2, st.names⟩).bind fun y => (takeP E 3 y.2.left).bind fun e =>
       (casP E n kind d c (ks ++ [t.t]) ⟨e.2, y.2.names⟩).map fun x => (.cons 0 [] t.t [] .nil y.1 x.1, x.2))
     else if ks ≠ [] ∧ t.k = 3 then (if otherP ∈ ks then .ok (.nil, st) else .error (13, t.a))
     else .error (3, t.a)
end
def usesP (k : Int) : By :=
 if k = 3 then [110, 117, 109, 98, 101, 114] else if k = 4 then [117, 110, 105, 116] else if k = 5 then [100, 97, 116, 101] else if k = 6 then [108, 105, 115, 116]
 else if k = 7 then [112, 108, 117, 114, 97, 108] else if k = 8 then [111, 114, 100, 105, 110, 97, 108] else if k = 9 then [115, 101, 108, 101, 99, 116] else []
def styleP (gap s : By) : By := if s = [] then [] else [44] ++ gap ++ s
mutual
def txtP (gap : By) : F → By
 | .nil => []
 | .cons k t n s cs ps r =>
   (if k = 1 then escP t
   else if k = 10 then [35]
   else if k = 11 then (if ps.len = 0 then [60] ++ n ++ [47, 62] else [60] ++ n ++ [62] ++ txtP gap ps ++ [60, 47] ++ n ++ [62])
   else if k = 2 then [123] ++ n ++ [125]
   else if 3 ≤ k ∧ k ≤ 9 then [123] ++ n ++ [44] ++ gap ++ usesP k ++ styleP gap s ++ (if 7 ≤ k then [44] else []) ++ casT gap cs ++ [125]
   else []) ++ txtP gap r
def casT (gap : By) : F → By
 | .nil => []
 | .cons _ _ key _ _ ps r => gap ++ key ++ gap ++ [123] ++ txtP gap ps ++ [125] ++ casT gap r
end
end Go.Proofs.YtiijdojihleggaaGreatDoor
