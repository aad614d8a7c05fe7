import Derived.Test.YtljdlkonlnjadaaGreatDoorNX3
import Derived.Test.YtljdlkonlnjadaaGreatDoorNX4
import Derived.WalkKit
import Derived.Test.YtljdlkonlnjadaaGreatDoorNX2
import Derived.OrdersHeld
set_option maxRecDepth 100000
set_option linter.unusedSimpArgs false
set_option linter.unusedVariables false
namespace Go.Proofs.YtljdlkonlnjadaaGreatDoor
open Go.RowKit
def Kp (ok : Nat → Prop) (w w' : World) : Prop := w.heap.size ≤ w'.heap.size ∧ ∀ k, k < w.heap.size → ok k → w'.heap[k]? = w.heap[k]?
theorem Kp.refl (ok : Nat → Prop) (w : World) : Kp ok w w := ⟨Nat.le_refl _, fun _ _ _ => rfl⟩
theorem Kp.ext {ok : Nat → Prop} {w w' : World} (h : Ext w w') : Kp ok w w' := ⟨Ext.size h, fun k hk _ => Below.block h k hk⟩
theorem Kp.trans {ok : Nat → Prop} {a b c : World} (h : Kp ok a b) (k : Kp ok b c) : Kp ok a c := ⟨Nat.le_trans h.1 k.1, fun i hi ho => (k.2 i (Nat.lt_of_lt_of_le hi h.1) ho).trans (h.2 i hi ho)⟩
theorem Kp.mono {ok ok' : Nat → Prop} {w w' : World} (h : Kp ok w w') (ho : ∀ k, ok' k → ok k) : Kp ok' w w' := ⟨h.1, fun k hk hk2 => h.2 k hk (ho k hk2)⟩
theorem Kp.set {ok : Nat → Prop} (w : World) (a : Addr) (v : Value) (h : ¬ ok a.block) : Kp ok w (w.setCell a v) :=
 ⟨by simp, fun k hk ho => Below.heap_setCell _ _ _ _ (fun e => h (e ▸ ho))⟩
theorem Kp.grown {ok : Nat → Prop} {w w' : World} {b : Option Nat} (h : w.grownBy w' b) (hb : ∀ k, b = some k → ¬ ok k) : Kp ok w w' :=
 ⟨h.size, fun k hk ho => h.block k hk (fun e => hb k e.symm ho)⟩
def SlO (ok : Nat → Prop) (w : World) (A : Option Addr) (n m : Nat) (xs : List Value) : Prop := SlN w A n m xs ∧ (0 < n → ∀ a, A = some a → ok a.block)
theorem SlO.kp {ok : Nat → Prop} {w w' : World} {A : Option Addr} {n m : Nat} {xs : List Value} (h : SlO ok w A n m xs) (hk : Kp ok w w') : SlO ok w' A n m xs := by
 refine ⟨⟨h.1.1, fun j u hu => ?_⟩, h.2⟩
 obtain ⟨b, o, ha, hb, hc⟩ := h.1.2 j u hu
 have hn : 0 < n := by
  have := (List.getElem?_eq_some_iff.1 hu).1
  rw [h.1.1] at this
  exact Nat.pos_of_mul_pos_right (Nat.lt_of_le_of_lt (Nat.zero_le j) this)
 exact ⟨b, o, ha, Nat.lt_of_lt_of_le hb hk.1, (World.cell?_of_block (hk.2 b hb (h.2 hn _ ha))).trans hc⟩
theorem SlO.mono {ok ok' : Nat → Prop} {w : World} {A : Option Addr} {n m : Nat} {xs : List Value} (h : SlO ok w A n m xs) (ho : ∀ k, k < w.heap.size → ok k → ok' k) (hm : 0 < m) : SlO ok' w A n m xs := by
 refine ⟨h.1, fun hn a ha => ?_⟩
 have hx : 0 < xs.length := by rw [h.1.1]; exact Nat.mul_pos hn hm
 obtain ⟨b, o, ha2, hb, _⟩ := h.1.2 0 _ (List.getElem?_eq_getElem hx)
 rw [ha] at ha2
 injection ha2 with ha2
 subst ha2
 exact ho _ hb (h.2 hn _ ha)
def lim47 : Nat := 140737488355328
structure Rl where
 op : Int
 md : Int
 nt : Bool
 A : Option Addr
 n : Nat
 c : Nat
 sp : List (Int × Int)
def spC (s : Int × Int) : List Value := [.int .i64 s.1, .int .i64 s.2]
def rlC (x : Rl) : List Value := [.int .i64 x.op, .int .i64 x.md, .bool x.nt, .slice x.A x.n x.c]
structure Cj where
 A : Option Addr
 n : Nat
 c : Nat
 l : List Rl
def cjC (x : Cj) : List Value := [.slice x.A x.n x.c]
structure Ru where
 t : ByteArray
 A : Option Addr
 n : Nat
 c : Nat
 l : List Cj
def ruC (x : Ru) : List Value := [.string x.t, .slice x.A x.n x.c]
def RlM (ok : Nat → Prop) (w : World) (x : Rl) : Prop := SlO ok w x.A x.n 2 (x.sp.flatMap spC) ∧ x.n * 16 ≤ lim47
def CjM (ok : Nat → Prop) (w : World) (x : Cj) : Prop := (SlO ok w x.A x.n 4 (x.l.flatMap rlC) ∧ x.n * 48 ≤ lim47) ∧ ∀ y ∈ x.l, RlM ok w y
def RuM (ok : Nat → Prop) (w : World) (x : Ru) : Prop := (SlO ok w x.A x.n 1 (x.l.flatMap cjC) ∧ x.n * 24 ≤ lim47) ∧ ∀ y ∈ x.l, CjM ok w y
def RusM (ok : Nat → Prop) (w : World) (A : Option Addr) (n : Nat) (l : List Ru) : Prop := (SlO ok w A n 2 (l.flatMap ruC) ∧ n * 40 ≤ lim47) ∧ ∀ x ∈ l, RuM ok w x
abbrev RlP := Int × Int × Bool × List (Int × Int)
def rlP (x : Rl) : RlP := (x.op, x.md, x.nt, x.sp)
def cjP (x : Cj) : List RlP := x.l.map rlP
def ruP (x : Ru) : ByteArray × List (List RlP) := (x.t, x.l.map cjP)
section
variable {ok ok' : Nat → Prop} {w w' : World}
theorem RlM.kp {x : Rl} (h : RlM ok w x) (hk : Kp ok w w') : RlM ok w' x := ⟨h.1.kp hk, h.2⟩
theorem CjM.kp {x : Cj} (h : CjM ok w x) (hk : Kp ok w w') : CjM ok w' x := ⟨⟨h.1.1.kp hk, h.1.2⟩, fun y hy => (h.2 y hy).kp hk⟩
theorem RuM.kp {x : Ru} (h : RuM ok w x) (hk : Kp ok w w') : RuM ok w' x := ⟨⟨h.1.1.kp hk, h.1.2⟩, fun y hy => (h.2 y hy).kp hk⟩
theorem RusM.kp {A : Option Addr} {n : Nat} {l : List Ru} (h : RusM ok w A n l) (hk : Kp ok w w') : RusM ok w' A n l := ⟨⟨h.1.1.kp hk, h.1.2⟩, fun y hy => (h.2 y hy).kp hk⟩
theorem RusM.ext {A : Option Addr} {n : Nat} {l : List Ru} (h : RusM ok w A n l) (hw : Ext w w') : RusM ok w' A n l := h.kp (Kp.ext hw)
theorem RlM.mono {x : Rl} (h : RlM ok w x) (ho : ∀ k, k < w.heap.size → ok k → ok' k) : RlM ok' w x := ⟨h.1.mono ho (by decide), h.2⟩
theorem CjM.mono {x : Cj} (h : CjM ok w x) (ho : ∀ k, k < w.heap.size → ok k → ok' k) : CjM ok' w x := ⟨⟨h.1.1.mono ho (by decide), h.1.2⟩, fun y hy => (h.2 y hy).mono ho⟩
theorem RuM.mono {x : Ru} (h : RuM ok w x) (ho : ∀ k, k < w.heap.size → ok k → ok' k) : RuM ok' w x := ⟨⟨h.1.1.mono ho (by decide), h.1.2⟩, fun y hy => (h.2 y hy).mono ho⟩
theorem RusM.mono {A : Option Addr} {n : Nat} {l : List Ru} (h : RusM ok w A n l) (ho : ∀ k, k < w.heap.size → ok k → ok' k) : RusM ok' w A n l := ⟨⟨h.1.1.mono ho (by decide), h.1.2⟩, fun y hy => (h.2 y hy).mono ho⟩
theorem SlO.len {α : Type} {f : α → List Value} {m : Nat} (hf : ∀ a, (f a).length = m) (hm : 0 < m) {A : Option Addr} {n : Nat} {l : List α} (h : SlO ok w A n m (l.flatMap f)) : l.length = n := by
 have h1 := h.1.1
 rw [flat_len f m hf] at h1
 exact Nat.eq_of_mul_eq_mul_right hm h1
theorem SlO.nil (ok : Nat → Prop) (w : World) (A : Option Addr) (m : Nat) : SlO ok w A 0 m [] := ⟨SlN.nil w A m, fun h => absurd h (Nat.lt_irrefl 0)⟩
end
abbrev El := List ByteArray
def elC (x : El) : List Value := x.map .string
def ElM (m : Nat) (w : World) (A : Option Addr) (n : Nat) (l : List El) : Prop := SlN w A n m (l.flatMap elC) ∧ (∀ x ∈ l, x.length = m) ∧ ∀ x ∈ l, ∀ s ∈ x, s.size ≤ maxLen
theorem ElM.ext {m : Nat} {w w' : World} {A : Option Addr} {n : Nat} {l : List El} (h : ElM m w A n l) (hw : Ext w w') : ElM m w' A n l := ⟨h.1.ext hw, h.2⟩
theorem flat_len2 {m : Nat} : ∀ {l : List El}, (∀ x ∈ l, x.length = m) → (l.flatMap elC).length = l.length * m
 | [], _ => by simp
 | x :: l, h => by
   rw [List.flatMap_cons, List.length_append, flat_len2 (fun y hy => h y (List.mem_cons_of_mem _ hy)), List.length_cons, elC, List.length_map, h x (List.mem_cons_self ..), Nat.add_mul, Nat.one_mul, Nat.add_comm]
theorem flat_get2 {m : Nat} : ∀ {l : List El} {k j : Nat} {x : El}, (∀ x ∈ l, x.length = m) → l[k]? = some x → j < m → (l.flatMap elC)[k * m + j]? = (elC x)[j]?
 | [], k, j, x, _, h, _ => by simp at h
 | y :: l, 0, j, x, hl, h, hj => by
   simp at h
   subst h
   rw [List.flatMap_cons, Nat.zero_mul, Nat.zero_add, List.getElem?_append_left (by rw [elC, List.length_map, hl y (List.mem_cons_self ..)]; exact hj)]
 | y :: l, k + 1, j, x, hl, h, hj => by
   have hy : (elC y).length = m := by rw [elC, List.length_map, hl y (List.mem_cons_self ..)]
   rw [List.flatMap_cons, List.getElem?_append_right (by rw [hy, Nat.add_mul, Nat.one_mul]; omega), hy, show (k + 1) * m + j - m = k * m + j from by rw [Nat.add_mul, Nat.one_mul]; omega]
   exact flat_get2 (fun z hz => hl z (List.mem_cons_of_mem _ hz)) (by simpa using h) hj
theorem ElM.len {m : Nat} (hm : 0 < m) {w : World} {A : Option Addr} {n : Nat} {l : List El} (h : ElM m w A n l) : l.length = n := by
 have h1 := h.1.1
 rw [flat_len2 h.2.1] at h1
 exact Nat.eq_of_mul_eq_mul_right hm h1
theorem ElM.at_ {m : Nat} (hm : 0 < m) {w : World} {A : Option Addr} {n : Nat} {l : List El} (h : ElM m w A n l) {k : Nat} {x : El} (hx : l[k]? = some x) :
 x.length = m ∧ ∃ b o, A = some ⟨b, o, none⟩ ∧ b < w.heap.size ∧ ∀ j (u : ByteArray), x[j]? = some u → w.cell? ⟨b, o + k * m + j, none⟩ = some (.string u) := by
 have hxl := h.2.1 x (List.mem_of_getElem? hx)
 refine ⟨hxl, ?_⟩
 have g0 := flat_get2 h.2.1 hx hm
 have h0 : (elC x)[0]? = some (.string x[0]) := by rw [elC, List.getElem?_map, List.getElem?_eq_getElem (by omega)]; rfl
 rw [h0] at g0
 obtain ⟨b, o, rfl, hb, _⟩ := h.1.2 _ _ g0
 refine ⟨b, o, rfl, hb, fun j u hu => ?_⟩
 have hj : j < m := by have := (List.getElem?_eq_some_iff.1 hu).1; omega
 have g1 := flat_get2 h.2.1 hx hj
 rw [show (elC x)[j]? = some (.string u) from by rw [elC, List.getElem?_map, hu]; rfl] at g1
 obtain ⟨b', o', e, _, h1⟩ := h.1.2 _ _ g1
 injection e with e
 injection e with e1 e2 _
 subst e1; subst e2
 rw [Nat.add_assoc]
 exact h1
theorem ElM.nil (m : Nat) (w : World) (A : Option Addr) : ElM m w A 0 [] := ⟨SlN.nil w A m, fun x h => (by cases h), fun x h => (by cases h)⟩
end Go.Proofs.YtljdlkonlnjadaaGreatDoor
namespace Go.Proofs.YtljdlkonlnjadaaGreatDoor
section
variable {α κ : Type} [DecidableEq κ]
structure StoK (lt : κ → κ → Bool) : Prop where
 irr : ∀ a, lt a a = false
 tr : ∀ a b c, lt a b = true → lt b c = true → lt a c = true
 tot : ∀ a b, lt a b = false → lt b a = false → a = b
variable (key : α → κ) (lt : κ → κ → Bool)
def yAdd (out : List α) (x : α) : List α := if key x ∈ out.map key then out else out ++ [x]
def yIns (x : α) : List α → List α
 | [] => [x]
 | y :: r => if lt (key y) (key x) = true then y :: yIns x r else if key y = key x then y :: r else x :: y :: r
def yLe (x y : α) : Bool := !lt (key y) (key x)
def ySorted (l : List α) : Prop := l.Pairwise fun x y => lt (key x) (key y) = true
variable {key lt}
theorem yIns_mem {x z : α} : ∀ {q : List α}, z ∈ yIns key lt x q → z = x ∨ z ∈ q
 | [], h => by simp [yIns] at h; exact .inl h
 | y :: r, h => by
   unfold yIns at h
   split at h
   ·rcases List.mem_cons.1 h with rfl | h
    ·exact .inr (List.mem_cons_self ..)
    ·rcases yIns_mem h with rfl | h
     ·exact .inl rfl
     ·exact .inr (List.mem_cons_of_mem _ h)
   ·split at h
    ·exact .inr h
    ·rcases List.mem_cons.1 h with rfl | h
     ·exact .inl rfl
     ·exact .inr h
theorem yIns_sub {x z : α} : ∀ {q : List α}, z ∈ q → z ∈ yIns key lt x q
 | y :: r, h => by
   unfold yIns
   split
   ·rcases List.mem_cons.1 h with rfl | h
    ·exact List.mem_cons_self ..
    ·exact List.mem_cons_of_mem _ (yIns_sub h)
   ·split
    ·exact h
    ·exact List.mem_cons_of_mem _ h
theorem yIns_key {x : α} : ∀ {q : List α}, key x ∈ (yIns key lt x q).map key
 | [] => by simp [yIns]
 | y :: r => by
   unfold yIns
   split
   ·exact List.mem_cons_of_mem _ yIns_key
   ·split
    ·rename_i h; simp [h]
    ·simp
theorem yIns_sorted (h : StoK lt) {x : α} : ∀ {q : List α}, ySorted key lt q → ySorted key lt (yIns key lt x q)
 | [], _ => List.pairwise_singleton ..
 | y :: r, hq => by
   have h1 := (List.pairwise_cons.1 hq).1
   have h2 := (List.pairwise_cons.1 hq).2
   unfold yIns
   split
   ·rename_i hy
    refine List.pairwise_cons.2 ⟨?_, yIns_sorted h h2⟩
    intro z hz
    rcases yIns_mem hz with rfl | hz
    ·exact hy
    ·exact h1 z hz
   ·split
    ·exact hq
    ·rename_i hy hk
     have hxy : lt (key x) (key y) = true := by
      cases hx : lt (key x) (key y) with
      | true => rfl
      | false => exact absurd (h.tot _ _ (by simpa using hy) hx) hk
     refine List.pairwise_cons.2 ⟨?_, hq⟩
     intro z hz
     rcases List.mem_cons.1 hz with rfl | hz
     ·exact hxy
     ·exact h.tr _ _ _ hxy (h1 z hz)
theorem yIns_perm (h : StoK lt) {x : α} : ∀ {q : List α}, ySorted key lt q → (key x ∈ q.map key → yIns key lt x q = q) ∧ (key x ∉ q.map key → (yIns key lt x q).Perm (x :: q))
 | [], _ => ⟨fun h => by simp at h, fun _ => .refl _⟩
 | y :: r, hq => by
   have h1 := (List.pairwise_cons.1 hq).1
   have h2 := (List.pairwise_cons.1 hq).2
   obtain ⟨i1, i2⟩ := yIns_perm h (x := x) h2
   unfold yIns
   constructor
   ·intro hm
    rw [List.map_cons, List.mem_cons] at hm
    split
    ·rename_i hy
     rcases hm with hm | hm
     ·rw [hm, h.irr] at hy; cases hy
     ·rw [i1 hm]
    ·rename_i hy
     split
     ·rfl
     ·rename_i hk
      rcases hm with hm | hm
      ·exact absurd hm.symm hk
      ·obtain ⟨z, hz, e⟩ := List.mem_map.1 hm
       rw [← e, h1 z hz] at hy
       exact absurd rfl hy
   ·intro hm
    rw [List.map_cons, List.mem_cons, not_or] at hm
    split
    ·exact ((i2 hm.2).cons y).trans (List.Perm.swap x y r)
    ·split
     ·rename_i hk; exact absurd hk.symm hm.1
     ·exact .refl _
theorem yfold_both (h : StoK lt) : ∀ (L out q : List α), out.Perm q → ySorted key lt q → (L.foldl (yAdd key) out).Perm (L.foldl (fun o x => yIns key lt x o) q) ∧ ySorted key lt (L.foldl (fun o x => yIns key lt x o) q)
 | [], out, q, hp, hs => ⟨hp, hs⟩
 | x :: L, out, q, hp, hs => by
   rw [List.foldl_cons, List.foldl_cons]
   refine yfold_both h L _ _ ?_ (yIns_sorted h hs)
   have hk : key x ∈ out.map key ↔ key x ∈ q.map key := (hp.map key).mem_iff
   unfold yAdd
   split
   ·rename_i hm
    rw [(yIns_perm h hs).1 (hk.1 hm)]
    exact hp
   ·rename_i hm
    exact ((List.perm_append_comm.trans (.refl _)).trans (hp.cons x)).trans ((yIns_perm h hs).2 fun hq => hm (hk.2 hq)).symm
end
section
variable {α κ : Type} {key : α → κ} {lt : κ → κ → Bool}
theorem ysorted_once (h : StoK lt) : ∀ {a b : List α}, a.Perm b → ySorted key lt b → a.Pairwise (fun x y => yLe key lt x y = true) → a = b
 | [], b, hp, _, _ => (List.nil_perm.1 hp).symm
 | x :: a, b, hp, hs, ha => by
   cases b with
   | nil => exact absurd hp.length_eq (by simp)
   | cons y b =>
     have ha1 := (List.pairwise_cons.1 ha).1
     have hs1 := (List.pairwise_cons.1 hs).1
     have e : x = y := by
      have hx : x ∈ y :: b := hp.mem_iff.1 (List.mem_cons_self ..)
      have hy : y ∈ x :: a := hp.mem_iff.2 (List.mem_cons_self ..)
      rcases List.mem_cons.1 hx with e | hx
      ·exact e
      ·rcases List.mem_cons.1 hy with e | hy
       ·exact e.symm
       ·have h1 := hs1 x hx
        have h2 := ha1 y hy
        unfold yLe at h2
        rw [h1] at h2
        cases h2
     subst e
     rw [ysorted_once h (List.perm_cons x |>.1 hp) (List.pairwise_cons.1 hs).2 (List.pairwise_cons.1 ha).2]
end
section
variable {α κ : Type} [DecidableEq κ] (key : α → κ) (lt : κ → κ → Bool)
def yMrg (L : List α) : List α := L.foldl (fun o x => yIns key lt x o) []
variable {key lt}
theorem yMrg_sorted (h : StoK lt) (L : List α) : ySorted key lt (yMrg key lt L) := (yfold_both h L [] [] (.refl _) List.Pairwise.nil).2
theorem yfold_mem {z : α} : ∀ (L q : List α), z ∈ L.foldl (fun o x => yIns key lt x o) q → z ∈ q ∨ z ∈ L
 | [], q, h => .inl h
 | x :: L, q, h => by
   rcases yfold_mem L _ h with h | h
   ·rcases yIns_mem h with rfl | h
    ·exact .inr (List.mem_cons_self ..)
    ·exact .inl h
   ·exact .inr (List.mem_cons_of_mem _ h)
theorem yMrg_mem {z : α} {L : List α} (h : z ∈ yMrg key lt L) : z ∈ L := by
 rcases yfold_mem L _ h with h | h
 ·cases h
 ·exact h
theorem yfold_sub {z : α} : ∀ (L q : List α), z ∈ q → z ∈ L.foldl (fun o x => yIns key lt x o) q
 | [], q, h => h
 | x :: L, q, h => yfold_sub L _ (yIns_sub h)
theorem yfold_key {z : α} : ∀ (L q : List α), z ∈ L → key z ∈ (L.foldl (fun o x => yIns key lt x o) q).map key
 | x :: L, q, h => by
   rw [List.foldl_cons]
   rcases List.mem_cons.1 h with rfl | h
   ·obtain ⟨y, hy, e⟩ := List.mem_map.1 (yIns_key (key := key) (lt := lt) (x := z) (q := q))
    exact List.mem_map.2 ⟨y, yfold_sub L _ hy, e⟩
   ·exact yfold_key L _ h
theorem yMrg_key {z : α} {L : List α} (h : z ∈ L) : ∃ y ∈ yMrg key lt L, key y = key z := by
 obtain ⟨y, hy, e⟩ := List.mem_map.1 (yfold_key (key := key) (lt := lt) L [] h)
 exact ⟨y, hy, e⟩
theorem yAdd_len (out : List α) (x : α) : (yAdd key out x).length ≤ out.length + 1 := by
 unfold yAdd; split <;> simp
theorem yfold_len : ∀ (L out : List α), (L.foldl (yAdd key) out).length ≤ out.length + L.length
 | [], out => Nat.le_refl _
 | x :: L, out => by
   have h1 := yfold_len L (yAdd key out x)
   have h2 := yAdd_len (key := key) out x
   rw [List.foldl_cons, List.length_cons]
   omega
end
def ltK : List (List UInt8) → List (List UInt8) → Bool
 | a :: ar, b :: bs => decide (a < b) || (decide (a = b) && ltK ar bs)
 | [], _ :: _ => true
 | _, [] => false
theorem ltK_irr : ∀ a, ltK a a = false
 | [] => rfl
 | a :: ar => by simp [ltK, ltK_irr ar, List.lt_irrefl]
theorem ltK_tr : ∀ a b c, ltK a b = true → ltK b c = true → ltK a c = true
 | [], [], _, h, _ => by simp [ltK] at h
 | _, _ :: _, [], _, h => by simp [ltK] at h
 | _ :: _, [], _, h, _ => by simp [ltK] at h
 | [], _ :: _, _ :: _, _, _ => rfl
 | a :: ar, b :: bs, c :: cs, h1, h2 => by
   simp only [ltK, Bool.or_eq_true, Bool.and_eq_true, decide_eq_true_eq] at *
   rcases h1 with h1 | ⟨rfl, h1⟩
   ·rcases h2 with h2 | ⟨rfl, _⟩
    ·exact .inl (List.lt_trans h1 h2)
    ·exact .inl h1
   ·rcases h2 with h2 | ⟨rfl, h2⟩
    ·exact .inl h2
    ·exact .inr ⟨rfl, ltK_tr ar bs cs h1 h2⟩
theorem ltK_tot : ∀ a b, ltK a b = false → ltK b a = false → a = b
 | [], [], _, _ => rfl
 | [], _ :: _, h, _ => by simp [ltK] at h
 | _ :: _, [], _, h => by simp [ltK] at h
 | a :: ar, b :: bs, h1, h2 => by
   simp only [ltK, Bool.or_eq_false_iff, Bool.and_eq_false_iff, decide_eq_false_iff_not] at *
   have e : a = b := List.le_antisymm (List.not_lt.1 h2.1) (List.not_lt.1 h1.1)
   subst e
   have h3 : ltK ar bs = false := by rcases h1.2 with h | h; exact absurd rfl h; exact h
   have h4 : ltK bs ar = false := by rcases h2.2 with h | h; exact absurd rfl h; exact h
   rw [ltK_tot ar bs h3 h4]
theorem stoK : StoK ltK := ⟨ltK_irr, ltK_tr, ltK_tot⟩
end Go.Proofs.YtljdlkonlnjadaaGreatDoor
namespace Go.Proofs.YtljdlkonlnjadaaGreatDoor
open Go.RowKit
abbrev RuP := ByteArray × List (List RlP)
structure Ef where
 t : ByteArray
 p : ByteArray
 d : ByteArray
 c : List RuP
 o : List RuP
 s : List ByteArray × List Int
 e : Nat → List El
def eB : ByteArray := ⟨#[]⟩
def symZ : List ByteArray × List Int := ([eB, eB, eB, eB], [0, 0])
def symE (s : List ByteArray × List Int) : Bool := (s.1.headD eB).data.toList.isEmpty
def orF {α : Type} (l : List (List α)) : List α := l.foldl (fun o x => if o.length = 0 then x else o) []
def dirF (l : List ByteArray) : ByteArray := l.foldl (fun o x => if o = eB then x else o) eB
def stF (o x : List ByteArray × List Int) : List ByteArray × List Int := if symE o = true ∧ symE x = false then x else o
def stT (o x : List ByteArray × List Int) : List ByteArray × List Int := if symE o = true then x else o
def symF (l : List (List ByteArray × List Int)) : List ByteArray × List Int := l.foldl stF symZ
def symT (l : List (List ByteArray × List Int)) : List ByteArray × List Int := l.foldl stT symZ
def kyE (q : Nat) (x : El) : List (List UInt8) := (x.take q).map fun b => b.data.toList
def mrgE (q : Nat) (l : List (List El)) : List El := l.foldl (fun o x => x.foldl (fun o y => yIns (kyE q) ltK y o) o) []
def effP (l : List Ef) : Ef where
 t := (l.head?.map (·.t)).getD eB
 p := eB
 d := dirF (l.map (·.d))
 c := orF (l.map (·.c))
 o := orF (l.map (·.o))
 s := symF (l.map (·.s))
 e := fun j => if j = 0 then mrgE 1 (l.map (·.e 0)) else if j = 1 then mrgE 2 (l.map (·.e 1)) else if j = 2 then mrgE 1 (l.map (·.e 2)) else orF (l.map (·.e j))
theorem mrg_flat (q : Nat) (l : List (List El)) : mrgE q l = yMrg (kyE q) ltK l.flatten := by
 unfold mrgE yMrg
 rw [List.foldl_flatten]
theorem stF_stay : ∀ (l : List (List ByteArray × List Int)) (y : List ByteArray × List Int), symE y = false → l.foldl stF y = y
 | [], _, _ => rfl
 | z :: l, y, hy => by rw [List.foldl_cons, show stF y z = y from by unfold stF; rw [hy]; simp]; exact stF_stay l y hy
theorem stT_stay : ∀ (l : List (List ByteArray × List Int)) (y : List ByteArray × List Int), symE y = false → l.foldl stT y = y
 | [], _, _ => rfl
 | z :: l, y, hy => by rw [List.foldl_cons, show stT y z = y from by unfold stT; rw [hy]; simp]; exact stT_stay l y hy
theorem symT_F_aux : ∀ (l : List (List ByteArray × List Int)) (a b : List ByteArray × List Int), symE a = true → symE b = true →
 (symE (l.foldl stT b) = true → l.foldl stF a = a) ∧ (symE (l.foldl stT b) = false → l.foldl stF a = l.foldl stT b)
 | [], a, b, h, hb => ⟨fun _ => rfl, fun h1 => by rw [List.foldl_nil, hb] at h1; cases h1⟩
 | x :: l, a, b, h, hb => by
   rw [List.foldl_cons, List.foldl_cons, show stT b x = x from by unfold stT; rw [hb]; simp]
   cases hx : symE x with
   | true =>
     rw [show stF a x = a from by unfold stF; rw [h, hx]; simp]
     exact symT_F_aux l a x h hx
   | false =>
     rw [show stF a x = x from by unfold stF; rw [h, hx]; simp, stT_stay l x hx, stF_stay l x hx]
     exact ⟨fun h1 => (by rw [hx] at h1; cases h1), fun _ => rfl⟩
theorem symT_F (l : List (List ByteArray × List Int)) : symF l = if symE (symT l) = true then symZ else symT l := by
 have h := symT_F_aux l symZ symZ rfl rfl
 unfold symF symT
 split
 ·rename_i h1; exact h.1 h1
 ·rename_i h1; exact h.2 (by simpa using h1)
theorem or_stay {α : Type} : ∀ (l : List (List α)) (y : List α), y.length ≠ 0 → l.foldl (fun o x => if o.length = 0 then x else o) y = y
 | [], _, _ => rfl
 | z :: l, y, hy => by rw [List.foldl_cons, if_neg hy]; exact or_stay l y hy
theorem orF_at {α : Type} : ∀ {l : List (List α)} {i : Nat} {x : List α}, (∀ j y, j < i → l[j]? = some y → y.length = 0) → l[i]? = some x → x.length ≠ 0 → orF l = x := by
 have key : ∀ (l : List (List α)) (i : Nat) (x y : List α), y.length = 0 → (∀ j y, j < i → l[j]? = some y → y.length = 0) → l[i]? = some x → x.length ≠ 0 → l.foldl (fun o x => if o.length = 0 then x else o) y = x := by
  intro l
  induction l with
  | nil => intro i x y _ _ hx; simp at hx
  | cons z l ih =>
    intro i x y hy h hx hn
    rw [List.foldl_cons, if_pos hy]
    cases i with
    | zero =>
      simp at hx
      subst hx
      exact or_stay l z hn
    | succ i => exact ih i x z (h 0 z (by omega) rfl) (fun j y hj hy => h (j + 1) y (by omega) (by simpa using hy)) (by simpa using hx) hn
 intro l i x h hx hn
 exact key l i x [] rfl h hx hn
end Go.Proofs.YtljdlkonlnjadaaGreatDoor
namespace Go.Proofs.YtljdlkonlnjadaaGreatDoor
section
variable {α κ : Type} {key : α → κ} {lt : κ → κ → Bool}
def PreY (key : α → κ) (lt : κ → κ → Bool) (O : List α) (x : α) (k : Nat) : Prop := ∀ j (y : α), j < k → O[j]? = some y → lt (key y) (key x) = true
theorem preY_zero (O : List α) (x : α) : PreY key lt O x 0 := fun j y h => absurd h (Nat.not_lt_zero j)
theorem preY_next {O : List α} {x y : α} {k : Nat} (h : PreY key lt O x k) (hy : O[k]? = some y) (hl : lt (key y) (key x) = true) : PreY key lt O x (k + 1) := fun j z hj hz => by
 by_cases e : j = k
 ·subst e; rw [hy] at hz; injection hz with hz; rw [← hz]; exact hl
 ·exact h j z (by omega) hz
theorem preY_tail {O : List α} {x a : α} {k : Nat} (h : PreY key lt (a :: O) x (k + 1)) : lt (key a) (key x) = true ∧ PreY key lt O x k :=
 ⟨h 0 a (by omega) rfl, fun j y hj hy => h (j + 1) y (by omega) (by simpa using hy)⟩
end
section
variable {α κ : Type} [DecidableEq κ] {key : α → κ} {lt : κ → κ → Bool}
theorem yIns_end : ∀ {O : List α} {x : α} {k : Nat}, PreY key lt O x k → k = O.length → yIns key lt x O = O ++ [x]
 | [], x, k, _, _ => rfl
 | a :: O, x, k, h, hk => by
   cases k with
   | zero => simp at hk
   | succ k =>
     obtain ⟨h1, h2⟩ := preY_tail h
     rw [yIns, if_pos h1, yIns_end h2 (by simpa using hk)]
     rfl
theorem yIns_same : ∀ {O : List α} {x y : α} {k : Nat}, PreY key lt O x k → O[k]? = some y → lt (key y) (key x) = false → key y = key x → yIns key lt x O = O
 | [], x, y, k, _, hy, _, _ => by simp at hy
 | a :: O, x, y, k, h, hy, hl, hk => by
   cases k with
   | zero =>
     simp at hy
     subst hy
     rw [yIns, hl, if_neg (by decide), if_pos hk]
   | succ k =>
     obtain ⟨h1, h2⟩ := preY_tail h
     rw [yIns, if_pos h1, yIns_same h2 (by simpa using hy) hl hk]
theorem yIns_mid : ∀ {O : List α} {x y : α} {k : Nat}, PreY key lt O x k → O[k]? = some y → lt (key y) (key x) = false → key y ≠ key x → yIns key lt x O = O.take k ++ x :: O.drop k
 | [], x, y, k, _, hy, _, _ => by simp at hy
 | a :: O, x, y, k, h, hy, hl, hk => by
   cases k with
   | zero =>
     simp at hy
     subst hy
     rw [yIns, hl, if_neg (by decide), if_neg hk]
     rfl
   | succ k =>
     obtain ⟨h1, h2⟩ := preY_tail h
     rw [yIns, if_pos h1, yIns_mid h2 (by simpa using hy) hl hk]
     rfl
theorem yIns_len : ∀ (O : List α) (x : α), (yIns key lt x O).length ≤ O.length + 1
 | [], x => by simp [yIns]
 | a :: O, x => by
   have := yIns_len O x
   unfold yIns
   split
   ·simp; omega
   ·split <;> simp
end
end Go.Proofs.YtljdlkonlnjadaaGreatDoor
namespace Go.Proofs.YtljdlkonlnjadaaGreatDoor
open Go.RowKit
structure Exc (S : Nat → Prop) (w w' : World) : Prop where
 os : w'.os = w.os
 tape : w'.tape = w.tape
 output : w'.output = w.output
 size : w.heap.size ≤ w'.heap.size
 block : ∀ k, k < w.heap.size → ¬ S k → w'.heap[k]? = w.heap[k]?
section
variable {S : Nat → Prop} {a b c w w' : World}
theorem Exc.refl (S : Nat → Prop) (w : World) : Exc S w w := ⟨rfl, rfl, rfl, Nat.le_refl _, fun _ _ _ => rfl⟩
theorem Exc.trans (h : Exc S a b) (k : Exc S b c) : Exc S a c :=
 ⟨k.os.trans h.os, k.tape.trans h.tape, k.output.trans h.output, Nat.le_trans h.size k.size, fun i hi hs => (k.block i (Nat.lt_of_lt_of_le hi h.size) hs).trans (h.block i hi hs)⟩
theorem Exc.of_ext (h : Ext w w') : Exc S w w' := ⟨h.os, h.tape, h.output, h.size, fun k hk _ => Below.block h k hk⟩
theorem Exc.grown {r : Nat} (h : w.grownBy w' (some r)) (hr : S r) : Exc S w w' :=
 ⟨h.os, h.tape, h.output, h.size, fun k hk hs => h.block k hk (fun e => by injection e with e; subst e; exact hs hr)⟩
theorem Exc.setCell {p : Addr} (hp : S p.block) (u : Value) : Exc S w (w.setCell p u) := by
 refine ⟨rfl, rfl, rfl, by simp [World.setCell], fun k hk hs => Below.heap_setCell _ _ _ _ (fun e => hs (by first | exact e ▸ hp | exact e.symm ▸ hp))⟩
theorem Exc.below {B : Nat} (h : Exc S w w') (hS : ∀ k, S k → B ≤ k) (hB : B ≤ w.heap.size) : Below B w w' :=
 ⟨h.os, h.tape, h.output, h.size, fun k hk => h.block k (by omega) (fun s => by have := hS k s; omega)⟩
theorem Exc.ext (h : Exc S w w') (hS : ∀ k, S k → w.heap.size ≤ k) : Ext w w' := h.below hS (Nat.le_refl _)
theorem AtC.exc {T : TypeId} {g : Nat} {cs : Array Value} (h : AtC T w g cs) (hw : Exc S w w') (hg : ¬ S g) : AtC T w' g cs := (hw.block g h.lt hg).trans h
theorem Exc.cell {p : Addr} (h : Exc S w w') (hp : p.block < w.heap.size) (hs : ¬ S p.block) : w'.cell? p = w.cell? p := World.cell?_of_block (w := w) (h.block p.block hp hs)
end
theorem frz_of {T : TypeId} {w : World} {g : Nat} {cs : Array Value} (h : AtC T w g cs) (j : Nat) : w.frozen? ⟨g, j, none⟩ = false := by
 unfold AtC at h
 simp [World.frozen?, h]
theorem SlN.exc {S : Nat → Prop} {w w' : World} {A : Option Addr} {n size : Nat} {xs : List Value} (h : SlN w A n size xs) (hw : Exc S w w') (hs : ∀ ad, A = some ad → ¬ S ad.block) : SlN w' A n size xs :=
 ⟨h.1, fun j u hu => by
  obtain ⟨b, o, ha, hb, hc⟩ := h.2 j u hu
  exact ⟨b, o, ha, Nat.lt_of_lt_of_le hb hw.size, (Exc.cell (p := ⟨b, o + j, none⟩) hw hb (show ¬ S b from hs ⟨b, o, none⟩ ha)).trans hc⟩⟩
theorem Sl.exc {S : Nat → Prop} {w w' : World} {A : Option Addr} {n : Nat} {xs : List Value} (h : Sl w A n xs) (hw : Exc S w w') (hs : ∀ ad, A = some ad → ¬ S ad.block) : Sl w' A n xs :=
 ⟨h.1, fun j u hu => by
  obtain ⟨ad, ha, hb, hc⟩ := h.2 j u hu
  exact ⟨ad, ha, Nat.lt_of_lt_of_le hb hw.size, (Exc.cell hw (by rw [addr_block]; exact hb) (by rw [addr_block]; exact hs ad ha)).trans hc⟩⟩
end Go.Proofs.YtljdlkonlnjadaaGreatDoor
namespace Go.Proofs.YtljdlkonlnjadaaGreatDoor
open Go Go.RowKit
section
variable {P : Program} {ops : Array Oper} {Q : Exit → Act → World → Prop} {md : Region.Mode} {S : World → Prop}
def wpAnyT (P : Program) (md : Region.Mode) (ops : Array Oper) (Q : Exit → Act → World → Prop) (S : World → Prop) (n : Nat) : Nat → Array Bool → Act → World → Prop
 | 0, listed, a, w => Region.ready md ops listed = [] ∧ Q .normal a w
 | f + 1, listed, a, w => (Region.ready md ops listed = [] → Q .normal a w) ∧ ∀ i ∈ Region.ready md ops listed, wpOp P ops Q i (fun a' w' => (i < n → S w') ∧ wpAnyT P md ops Q S n f (listed.setIfInBounds i true) a' w') a w
theorem wpAny_of_T {n : Nat} : ∀ (f : Nat) (listed : Array Bool) (a : Act) (w : World), wpAnyT P md ops Q S n f listed a w → wpAny P md ops Q f listed a w
 | 0, _, _, _, h => h
 | f + 1, _, _, _, h => ⟨h.1, fun i hi => wpOp_mono (fun a' w' h' => wpAny_of_T f _ a' w' h'.2) (h.2 i hi)⟩
def reachB (md : Region.Mode) (ops : Array Oper) : Nat → Nat → Nat → Bool
 | 0, _, _ => false
 | f + 1, j, i => match ops[j]? with
   | some oj => oj.after.any fun e => Region.binds md e && (decide (e.on = i) || reachB md ops f e.on i)
   | none => false
def tailB (md : Region.Mode) (ops : Array Oper) (n : Nat) : Bool :=
 (List.range ops.size).all fun j => decide (j < n) || (List.range n).all fun i => reachB md ops 8 j i
theorem tailB_spec {n : Nat} (h : tailB md ops n = true) {j : Nat} {oj : Oper} (hj : ops[j]? = some oj) (hn : n ≤ j) {i : Nat} (hi : i < n) : reachB md ops 8 j i = true := by
 have hlt := (Array.getElem?_eq_some_iff.1 hj).1
 unfold tailB at h
 rw [List.all_eq_true] at h
 have h1 := h j (List.mem_range.2 hlt)
 simp only [Bool.or_eq_true, decide_eq_true_eq] at h1
 rcases h1 with h1 | h1
 ·omega
 ·rw [List.all_eq_true] at h1
  exact h1 i (List.mem_range.2 hi)
def InvT (md : Region.Mode) (ops : Array Oper) (listed : Array Bool) : Prop := ∀ j (oj : Oper), ops[j]? = some oj → listed.getD j true = true → ∀ e ∈ oj.after, Region.binds md e = true → listed.getD e.on false = true
def invB (md : Region.Mode) (ops : Array Oper) (listed : Array Bool) : Bool :=
 (List.range ops.size).all fun j => match ops[j]? with
  | some oj => !listed.getD j true || oj.after.all fun e => !Region.binds md e || listed.getD e.on false
  | none => true
theorem invB_spec {listed : Array Bool} (h : invB md ops listed = true) : InvT md ops listed := by
 intro j oj hj hl e he hb
 have hlt := (Array.getElem?_eq_some_iff.1 hj).1
 unfold invB at h
 rw [List.all_eq_true] at h
 have h1 := h j (List.mem_range.2 hlt)
 rw [hj] at h1
 simp only [hl, Bool.not_true, Bool.false_or] at h1
 rw [Array.all_eq_true] at h1
 obtain ⟨q, hq, rfl⟩ := Array.mem_iff_getElem.1 he
 have h2 := h1 q hq
 rw [hb] at h2
 simpa using h2
theorem getD_mono {listed : Array Bool} {i k : Nat} (h : listed.getD k false = true) : (listed.setIfInBounds i true).getD k false = true := by
 rw [Array.getD_eq_getD_getElem?] at h ⊢
 by_cases e : i = k
 ·subst e
  cases hi : listed[i]? with
  | none => rw [hi] at h; cases h
  | some b =>
    have hs := (Array.getElem?_eq_some_iff.1 hi).1
    simp [hs]
 ·rw [Array.getElem?_setIfInBounds_ne e]
  exact h
theorem getD_true_of {listed : Array Bool} {k : Nat} (h : listed.getD k false = true) : listed.getD k true = true := by
 rw [Array.getD_eq_getD_getElem?] at h ⊢
 cases hi : listed[k]? with
 | none => rfl
 | some b => rw [hi] at h; exact h
theorem InvT.set {listed : Array Bool} {i : Nat} (h : InvT md ops listed) (hr : i ∈ Region.ready md ops listed) : InvT md ops (listed.setIfInBounds i true) := by
 intro j oj hj hl e he hb
 refine getD_mono ?_
 by_cases hij : i = j
 ·subst hij
  obtain ⟨_, oi, hoi, hall⟩ := mem_ready.1 hr
  rw [hoi] at hj
  injection hj with hj
  subst hj
  exact hall e he hb
 ·rw [getD_set_ne true hij] at hl
  exact h j oj hj hl e he hb
theorem reach_spec {listed : Array Bool} {i : Nat} (h : InvT md ops listed) : ∀ (f j : Nat) (oj : Oper), ops[j]? = some oj → (∀ e ∈ oj.after, Region.binds md e = true → listed.getD e.on false = true) → reachB md ops f j i = true → listed.getD i false = true
 | 0, _, _, _, _, hr => by cases hr
 | f + 1, j, oj, hj, hall, hr => by
   unfold reachB at hr
   rw [hj] at hr
   simp only [Array.any_eq_true] at hr
   obtain ⟨q, hq, h3⟩ := hr
   rw [Bool.and_eq_true, Bool.or_eq_true, decide_eq_true_eq] at h3
   obtain ⟨hb, h4⟩ := h3
   have hm := hall _ (Array.getElem_mem hq) hb
   rcases h4 with h4 | h4
   ·rw [← h4]; exact hm
   ·cases ho : ops[(oj.after[q]).on]? with
    | none =>
      cases f with
      | zero => cases h4
      | succ f => unfold reachB at h4; rw [ho] at h4; cases h4
    | some oe => exact reach_spec h f _ oe ho (fun e he hb2 => h _ _ ho (getD_true_of hm) e he hb2) h4
theorem unlisted_not {listed : Array Bool} {i : Nat} (h : listed.getD i true = false) (h2 : listed.getD i false = true) : False := by
 rw [Array.getD_eq_getD_getElem?] at h h2
 cases hi : listed[i]? with
 | none => rw [hi] at h; cases h
 | some b => rw [hi] at h h2; simp at h h2; rw [h] at h2; cases h2
theorem wpAnyT_first {n i : Nat} {oi : Oper} {v : Value} (hi : ops[i]? = some oi) (hin : i < n) (ht : tailB md ops n = true) (hsel : ∀ (j : Nat) (o : Oper) cs b, ops[j]? = some o → o.op ≠ .select cs b)
 (hQ : ∀ c a w, Q (.panic c) (a.put oi.dst v) w → Q (.panic c) a w) :
 ∀ (f : Nat) (listed : Array Bool) (a : Act) (w : World),
   (∀ j oj, ops[j]? = some oj → j ≠ i → listed.getD j true = false → (∀ e ∈ oj.after, Region.binds md e = true → e.on ≠ i) → oi.apart ops oj = true) →
   InvT md ops listed → i ∈ Region.ready md ops listed → YieldsIf P ops S oi v a → S w →
   wpAnyT P md ops Q S n f (listed.setIfInBounds i true) (a.put oi.dst v) w → wpAnyT P md ops Q S n (f + 1) listed a w := by
 intro f
 induction f with
 | zero =>
   intro listed a w _ _ hr hy hS H
   refine ⟨fun h => absurd hr (by rw [h]; exact List.not_mem_nil), fun j hj => ?_⟩
   by_cases e : j = i
   ·subst e; exact hy.wpOp hi hS ⟨fun _ => hS, H⟩
   ·have h1 := ready_mono hj e
    rw [H.1] at h1
    cases h1
 | succ f ih =>
   intro listed a w hap hinv hr hy hS H
   refine ⟨fun h => absurd hr (by rw [h]; exact List.not_mem_nil), fun j hj => ?_⟩
   by_cases e : j = i
   ·subst e; exact hy.wpOp hi hS ⟨fun _ => hS, H⟩
   obtain ⟨hun, oj, hoj, hall⟩ := mem_ready.1 hj
   have hui := (mem_ready.1 hr).1
   have hno : ∀ e ∈ oj.after, Region.binds md e = true → e.on ≠ i := fun e he hb hq => unlisted_not hui (hq ▸ hall e he hb)
   have hjn : j < n := by
    rcases Nat.lt_or_ge j n with h | h
    ·exact h
    ·exact (unlisted_not hui (reach_spec hinv 8 j oj hoj hall (tailB_spec ht hoj h hin))).elim
   refine wpOp_mono (fun a' w' h => ?_) (wpOp_putIf hoj (hap j oj hoj e hun hno) (fun cs b => hsel i oi cs b hi) (fun cs b => hsel j oj cs b hoj) hQ hy (H.2 j (ready_mono hj e)))
   obtain ⟨hy', hS', H'⟩ := h
   refine ⟨hS', ih _ a' w' (fun k ok hk hki hku hkn => hap k ok hk hki ?_ hkn) (hinv.set hj) (ready_mono hr (Ne.symm e)) hy' (hS' hjn) ?_⟩
   ·by_cases hjk : j = k
    ·rw [← hjk]; exact hun
    ·rwa [getD_set_ne true hjk] at hku
   ·rw [Array.setIfInBounds_comm _ _ e]
    exact H'
theorem wpAnyT_take {n i : Nat} {oi : Oper} {v : Value} {f : Nat} {listed : Array Bool} {a : Act} {w : World} (hi : ops[i]? = some oi) (ht : tailB md ops n = true)
 (hs : Region.noSelect ops = true) (hf : (Region.free md ops listed i && (Region.ready md ops listed).contains i && decide (i < n) && invB md ops listed) = true)
 (hQ : ∀ c a w, Q (.panic c) (a.put oi.dst v) w → Q (.panic c) a w) (hS : S w) (hy : YieldsIf P ops S oi v a)
 (h : wpAnyT P md ops Q S n f (listed.setIfInBounds i true) (a.put oi.dst v) w) : wpAnyT P md ops Q S n (f + 1) listed a w := by
 simp only [Bool.and_eq_true, decide_eq_true_eq] at hf
 exact wpAnyT_first hi hf.1.2 ht (Region.noSelect_spec hs) hQ f listed a w (Region.free_spec hi hf.1.1.1) (invB_spec hf.2) (by simpa using hf.1.1.2) hy hS h
theorem wpAnyT_all {n : Nat} {rs : List Nat} {f : Nat} {listed : Array Bool} {a : Act} {w : World} (hr : Region.ready md ops listed = rs) (hne : rs ≠ [])
 (h : ∀ i ∈ rs, wpOp P ops Q i (fun a' w' => (i < n → S w') ∧ wpAnyT P md ops Q S n f (listed.setIfInBounds i true) a' w') a w) : wpAnyT P md ops Q S n (f + 1) listed a w :=
 ⟨fun h0 => absurd (hr ▸ h0) hne, hr ▸ h⟩
theorem wp_region_T {id n : Nat} {a : Act} {w : World} (hm : P.follows .mixedOrders = true)
 (h : wpAnyT P .any ops Q S n ops.size (Array.replicate ops.size false) a w.drew) : (Code.region id ops true).wp P Q a w :=
 wp_region_any hm (wpAny_of_T _ _ _ _ h)
end
end Go.Proofs.YtljdlkonlnjadaaGreatDoor
