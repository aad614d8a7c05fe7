import Derived.WalkKit
import Derived.WalkLawsBesides
import Derived.WalkSpells
import Derived.Lib.Hide
import Derived.Deep.QuietTactic
import Derived.BigQuiet
import Derived.Deep.Draws
import Derived.Laws.OwnMore
import Derived.StillTailTactics
import Derived.Deep.OwnRows
import Derived.Deep.DeepCutAuto
import Derived.Deep.CutBlock
import Derived.Deep.LoopGhost
import Derived.Laws.AppendOwn
import Derived.Deep.RegionLaw
import Derived.Deep.RegionWith
import Derived.Test.YtljdlkonlnjadaaGreatDoorNX1
import Derived.StillTail
import Derived.Deep.Quiet
set_option maxRecDepth 100000
set_option linter.unusedSimpArgs false
set_option linter.unusedVariables false
namespace Go.Proofs.YtljdlkonlnjadaaGreatDoor
open Go.RowKit
def Ext (w w' : World) : Prop := Below w.heap.size w w'
theorem Ext.refl (w : World) : Ext w w := Below.refl _ _
theorem Ext.size {w w' : World} (h : Ext w w') : w.heap.size ≤ w'.heap.size := Below.size h
theorem Ext.trans {a b c : World} (h : Ext a b) (k : Ext b c) : Ext a c := Below.trans h (k.mono (Below.size h))
theorem Ext.drew {a w : World} (h : Ext a w) : Ext a w.drew := Below.drew h
theorem Ext.drewN {a w : World} (h : Ext a w) (n : Nat) : Ext a (w.drewN n) := by
 have h0 : Below a.heap.size a w := h
 exact ⟨h0.os, h0.tape, h0.output, h0.size, h0.block⟩
theorem Ext.alloc {a w : World} (h : Ext a w) (o : Obj) : Ext a (w.alloc o) := Below.alloc h (Ext.size h) o
theorem Ext.setCell {a w : World} (h : Ext a w) {p : Addr} (hp : a.heap.size ≤ p.block) (u : Value) : Ext a (w.setCell p u) := Below.setCell h hp u
theorem Ext.grown {a w w' : World} {row : Option Nat} (h : Ext a w) (hg : w.grownBy w' row) (hr : ∀ k, row = some k → a.heap.size ≤ k) : Ext a w' :=
 Below.grown h hg (Ext.size h) hr
theorem Ext.cell {w w' : World} (h : Ext w w') {p : Addr} (hp : p.block < w.heap.size) : w'.cell? p = w.cell? p := Below.cell h hp
theorem addr_block (a : Addr) (n : Nat) : (a.add n).block = a.block := by
 unfold Addr.add
 split <;> rfl
def Sl (w : World) (A : Option Addr) (n : Nat) (xs : List Value) : Prop :=
 xs.length = n ∧ ∀ j u, xs[j]? = some u → ∃ ad, A = some ad ∧ ad.block < w.heap.size ∧ w.cell? (ad.add j) = some u
theorem Sl.len {w : World} {A : Option Addr} {n : Nat} {xs : List Value} (h : Sl w A n xs) : n = xs.length := h.1.symm
theorem Sl.ext {w w' : World} {A : Option Addr} {n : Nat} {xs : List Value} (h : Sl w A n xs) (hw : Ext w w') : Sl w' A n xs :=
 ⟨h.1, fun j u hu => by
  obtain ⟨ad, ha, hb, hc⟩ := h.2 j u hu
  exact ⟨ad, ha, Nat.lt_of_lt_of_le hb (Ext.size hw), (Ext.cell hw (by rw [addr_block]; exact hb)).trans hc⟩⟩
theorem Sl.at_ {w : World} {A : Option Addr} {n k : Nat} {xs : List Value} (h : Sl w A n xs) (hk : k < n) :
 ∃ ad u, A = some ad ∧ xs[k]? = some u ∧ w.cell? (ad.add k) = some u := by
 have hl : k < xs.length := by have := h.1; omega
 obtain ⟨ad, ha, _, hc⟩ := h.2 k xs[k] (List.getElem?_eq_getElem hl)
 exact ⟨ad, _, ha, List.getElem?_eq_getElem hl, hc⟩
theorem Sl.at_map {α : Type} {f : α → Value} {w : World} {A : Option Addr} {n k : Nat} {xs : List α} (h : Sl w A n (xs.map f)) (hk : k < n) :
 ∃ ad x, A = some ad ∧ xs[k]? = some x ∧ w.cell? (ad.add k) = some (f x) := by
 obtain ⟨ad, u, ha, hu, hc⟩ := h.at_ hk
 rw [List.getElem?_map] at hu
 cases hx : xs[k]? with
 | none => rw [hx] at hu; simp at hu
 | some x => rw [hx] at hu; simp at hu; subst hu; exact ⟨ad, x, ha, rfl, hc⟩
theorem Sl.nil (w : World) (A : Option Addr) : Sl w A 0 [] := ⟨rfl, fun j u h => by simp at h⟩
theorem own_sl {w : World} {B : Nat} {e : TypeId} {v : Value} {n : Nat} {xs : List Value} (h : w.ownsRow B e 1 v n xs) :
 ∃ A c, v = .slice A n c ∧ Sl w A n xs ∧ n ≤ c := by
 obtain ⟨hl, h⟩ := h
 rcases h with ⟨rfl, rfl⟩ | ⟨g, cap, cur, rfl, hb, hg, hn, hm, hs, ht⟩
 ·exact ⟨none, 0, rfl, ⟨by simpa using hl, fun j u hu => by
   have : xs = [] := List.eq_nil_of_length_eq_zero (by simpa using hl)
   subst this
   simp at hu⟩, Nat.le_refl _⟩
 ·refine ⟨some ⟨g, 0, none⟩, cap, rfl, ⟨by simpa using hl, fun j u hu => ⟨_, rfl, (Array.getElem?_eq_some_iff.1 hg).1, ?_⟩⟩, hn⟩
  have hj : j < xs.length := (List.getElem?_eq_some_iff.1 hu).1
  have e1 : (⟨g, 0, none⟩ : Addr).add j = ⟨g, j, none⟩ := by
   unfold Addr.add
   split
   ·subst_vars; rfl
   ·simp
  rw [e1, cell_of_row w g j cur e (0, 0) hg]
  have h2 : cur.toList[j]? = some u := by
   have h3 : (cur.toList.take (n * 1))[j]? = some u := by rw [ht]; exact hu
   rw [List.getElem?_take] at h3
   split at h3
   ·exact h3
   ·cases h3
  simpa using h2
theorem own_lt {w : World} {B : Nat} {e : TypeId} {size : Nat} {v : Value} {n : Nat} {xs : List Value} (h : w.ownsRow B e size v n xs) :
 ∀ k, v.ownBlock = some k → B ≤ k := fun k hk => (h.lt k hk).1
section
variable {P : Program} (w : World)
theorem run_append_nil_any (base : Nat) (t ty e : TypeId) (i : TypeInfo) (size : Nat) (ht : P.underlying t = some (.slice e)) (hi : P.info? e = some i)
 (v : Value) (n : Nat) (xs : List Value) (hown : w.ownsRow base e size v n xs) (c : Nat) : (Builtin.append_ #[t, t] ty #[v, .slice none 0 c]).run P w = .ok v w := by
 rcases hown.2 with ⟨rfl, rfl⟩ | ⟨g, cap, cur, rfl, _, _, hnc, _⟩
 ·simp [Builtin.append_, run_underlying ht, sizeOf, typeInfo, hi, Builtin.lenOf, Builtin.firstCells]
 ·simp [Builtin.append_, run_underlying ht, sizeOf, typeInfo, hi, Builtin.lenOf, Builtin.firstCells, hnc, storeCells]
theorem wpList_app {ops : Array Oper} {rest : List Oper} {o : Oper} {a : Act} {Q : Exit → Act → World → Prop} (hgd : o.guard = none) (s x : Operand) (t : TypeId)
 (ho : o.op = .call { callee := .builtin .append, args := #[s, x], argTypes := #[t, t] })
 (base : Nat) (e : TypeId) (i : TypeInfo) (z : Value) (bytes : Nat) (ht : P.underlying t = some (.slice e)) (hi : P.info? e = some i) (hz : i.zero = some z)
 (hsize : i.size = 1) (hby : i.bytes = bytes) (hzs : z.cells.size = 1)
 (v : Value) (n : Nat) (xs : List Value) (hs : a.eval s = v) (hown : w.ownsRow base e 1 v n xs)
 (A : Option Addr) (m c : Nat) (news : List Value) (hx : a.eval x = .slice A m c) (hsl : Sl w A m news) (h1 : ∀ u ∈ news, u.oneCell' = true)
 (h63 : n + m ≤ maxLen) (hbytes : (n + m) * bytes ≤ 140737488355328) (hbase : base ≤ w.heap.size)
 (h : ∀ v' w', w'.ownsRow base e 1 v' (n + m) (xs ++ news) → w.grownBy w' v.ownBlock → wpList P ops Q rest (a.put o.dst v') w') :
 wpList P ops Q (o :: rest) a w := by
 cases A with
 | none =>
   have hm : m = 0 := by
    rcases Nat.eq_zero_or_pos m with h0 | h0
    ·exact h0
    ·obtain ⟨ad, u, hA, _⟩ := hsl.at_ h0
     cases hA
   subst hm
   have hn : news = [] := List.eq_nil_of_length_eq_zero hsl.1
   subst hn
   refine wpList_plain hgd fun K hK => ?_
   have hrun := run_append_nil_any (P := P) w base t o.type e i 1 ht hi v n xs hown c
   unfold Oper.wp execOp
   simp only [ho, resolve, invoke, builtin, Sem.run_bind, Sem.run_pure, Result.andThen_ok, List.map_toArray, List.map_cons, List.map_nil, hs, hx, hrun]
   exact hK _ _ (h v w (by simpa using hown) (World.grownBy.refl w _))
 | some ad =>
   refine wpList_append_own w hgd s x t ho base e i z 1 bytes ht hi hz hsize hby hzs (by decide) v n xs hs hown ad m c news hx (by rw [hsl.1, Nat.mul_one])
    (fun j u hu => ?_) h1 h63 hbytes hbase (fun v' w' a1 a2 _ => h v' w' a1 a2)
   obtain ⟨ad', ha, _, hc⟩ := hsl.2 j u hu
   injection ha with ha
   subst ha
   exact hc
end
theorem Sl.one (w : World) (u : Value) (t : TypeId) : Sl (w.alloc (.cells #[u] t)) (some ⟨w.heap.size, 0, none⟩) 1 [u] :=
 ⟨rfl, fun j x hx => by
  refine ⟨_, rfl, by simp, ?_⟩
  have hj : j = 0 := by have := (List.getElem?_eq_some_iff.1 hx).1; simp at this; exact this
  subst hj
  simp at hx
  subst hx
  show (w.alloc (.cells #[u] t)).cell? ⟨w.heap.size, 0, none⟩ = some u
  rw [cell_of_row _ w.heap.size 0 #[u] t (0, 0) (heap_alloc_new w _)]
  rfl⟩
theorem region_tail {P : Program} {id : Nat} {Q : Exit → Act → World → Prop} {a : Act} {w : World} {l : List Oper} (n : Nat) (hm : P.follows .mixedOrders = true) (hB : Region.lexTailB .any l.toArray n = true)
 (h : wpStill P l.toArray w.drew (fun a' => wpList P l.toArray Q (l.drop n) a' w.drew) (l.take n) a) : (Code.region id l.toArray true).wp P Q a w :=
 wp_region_still_tail n hm hB h
def strv (l : List UInt8) : Value := .string ⟨l.toArray⟩
theorem bytes_ne {x y : ByteArray} (h : x ≠ y) : (x.toList == y.toList) = false := by
 rw [beq_eq_false_iff_ne, ByteArray.toList_eq, ByteArray.toList_eq]
 intro e
 exact h (ByteArray.ext (Array.toList_inj.mp e))
theorem ret_bool {a b : Bool} (h : a = b) : Ending.returned (.bool a) = .returned (.bool b) := by rw [h]
theorem size_list (s : ByteArray) : s.data.toList.length = s.size := rfl
theorem get_list (s : ByteArray) (k : Nat) (h : k < s.size) : s.data.toList[k]'(by rw [size_list]; exact h) = s[k] := by
 simp; rfl
theorem take_next {α : Type} {xs : List α} {k : Nat} {x : α} (h : xs[k]? = some x) : xs.take (k + 1) = xs.take k ++ [x] := by
 rw [List.take_add_one, h]; rfl
theorem own_ext {w w' : World} {B : Nat} {e : TypeId} {size : Nat} {v : Value} {n : Nat} {xs : List Value} (h : w.ownsRow B e size v n xs) (hw : Ext w w') : w'.ownsRow B e size v n xs := by
 obtain ⟨h1, h2⟩ := h
 refine ⟨h1, ?_⟩
 rcases h2 with h2 | ⟨g, cap, cur, hv, hb, hg, r⟩
 ·exact .inl h2
 ·exact .inr ⟨g, cap, cur, hv, hb, (Below.block hw g (Array.getElem?_eq_some_iff.1 hg).1).trans hg, r⟩
theorem strv_one (l : List (List UInt8)) : ∀ u ∈ l.map strv, u.oneCell' = true := by
 intro u hu
 obtain ⟨x, _, rfl⟩ := List.mem_map.1 hu
 rfl
theorem string_one (l : List ByteArray) : ∀ u ∈ l.map Value.string, u.oneCell' = true := by
 intro u hu
 obtain ⟨x, _, rfl⟩ := List.mem_map.1 hu
 rfl
theorem own_empty (w : World) (e : TypeId) : (w.alloc (.cells #[] e)).ownsRow w.heap.size e 1 (.slice (some ⟨w.heap.size, 0, none⟩) 0 0) 0 [] :=
 World.ownsRow_made w #[] 0 (Nat.le_refl _) (Nat.zero_le _) rfl
theorem ext_grown {a w w' : World} {B : Nat} {e : TypeId} {size n : Nat} {v : Value} {xs : List Value} (h : Ext a w) (ho : w.ownsRow B e size v n xs) (hB : a.heap.size ≤ B) (hg : w.grownBy w' v.ownBlock) : Ext a w' :=
 h.grown hg (fun k hk => Nat.le_trans hB (own_lt ho k hk))
theorem own_sl' {w : World} {B : Nat} {e : TypeId} {A : Option Addr} {m c n : Nat} {xs : List Value} (h : w.ownsRow B e 1 (.slice A m c) n xs) : m = n ∧ Sl w A n xs := by
 obtain ⟨A', c', hv, hs, _⟩ := own_sl h
 injection hv with h1 h2 h3
 subst h1; subst h2
 exact ⟨rfl, hs⟩
end Go.Proofs.YtljdlkonlnjadaaGreatDoor
namespace Go.Proofs.YtljdlkonlnjadaaGreatDoor
open Go.RowKit
section
variable {P : Program} (w : World)
theorem wp_app {o : Oper} {a : Act} {K : Act → World → Prop} {Q : Exit → Act → World → Prop} (s x : Operand) (t : TypeId)
 (ho : o.op = .call { callee := .builtin .append, args := #[s, x], argTypes := #[t, t] })
 (base : Nat) (e : TypeId) (i : TypeInfo) (z : Value) (bytes : Nat) (ht : P.underlying t = some (.slice e)) (hi : P.info? e = some i) (hz : i.zero = some z)
 (hsize : i.size = 1) (hby : i.bytes = bytes) (hzs : z.cells.size = 1)
 (v : Value) (n : Nat) (xs : List Value) (hs : a.eval s = v) (hown : w.ownsRow base e 1 v n xs)
 (A : Option Addr) (m c : Nat) (news : List Value) (hx : a.eval x = .slice A m c) (hsl : Sl w A m news) (h1 : ∀ u ∈ news, u.oneCell' = true)
 (h63 : n + m ≤ maxLen) (hbytes : (n + m) * bytes ≤ 140737488355328) (hbase : base ≤ w.heap.size)
 (h : ∀ v' w', w'.ownsRow base e 1 v' (n + m) (xs ++ news) → w.grownBy w' v.ownBlock → K (a.put o.dst v') w') : o.wp P a w K Q := by
 cases A with
 | none =>
   have hm : m = 0 := by
    rcases Nat.eq_zero_or_pos m with h0 | h0
    ·exact h0
    ·obtain ⟨ad, u, hA, _⟩ := hsl.at_ h0
     cases hA
   subst hm
   have hn : news = [] := List.eq_nil_of_length_eq_zero hsl.1
   subst hn
   have hrun := run_append_nil_any (P := P) w base t o.type e i 1 ht hi v n xs hown c
   unfold Oper.wp execOp
   simp only [ho, resolve, invoke, builtin, Sem.run_bind, Sem.run_pure, Result.andThen_ok, List.map_toArray, List.map_cons, List.map_nil, hs, hx, hrun]
   exact h v w (by simpa using hown) (World.grownBy.refl w _)
 | some ad =>
   refine wp_append_own w s x t ho base e i z 1 bytes ht hi hz hsize hby hzs (by decide) v n xs hs hown ad m c news hx (by rw [hsl.1, Nat.mul_one])
    (fun j u hu => ?_) h1 h63 hbytes hbase (fun v' w' a1 a2 _ => h v' w' a1 a2)
   obtain ⟨ad', ha, _, hc⟩ := hsl.2 j u hu
   injection ha with ha
   subst ha
   exact hc
theorem step_app {ops : Array Oper} {o : Oper} {a : Act} {K : Act → World → Prop} {Q : Exit → Act → World → Prop} {E : Prop} (hgd : o.guard = none) (s x : Operand) (t : TypeId)
 (ho : o.op = .call { callee := .builtin .append, args := #[s, x], argTypes := #[t, t] })
 (base : Nat) (e : TypeId) (i : TypeInfo) (z : Value) (bytes : Nat) (ht : P.underlying t = some (.slice e)) (hi : P.info? e = some i) (hz : i.zero = some z)
 (hsize : i.size = 1) (hby : i.bytes = bytes) (hzs : z.cells.size = 1)
 (v : Value) (n : Nat) (xs : List Value) (hs : a.eval s = v) (hown : w.ownsRow base e 1 v n xs)
 (A : Option Addr) (m c : Nat) (news : List Value) (hx : a.eval x = .slice A m c) (hsl : Sl w A m news) (h1 : ∀ u ∈ news, u.oneCell' = true)
 (h63 : n + m ≤ maxLen) (hbytes : (n + m) * bytes ≤ 140737488355328) (hbase : base ≤ w.heap.size)
 (h : ∀ v' w', w'.ownsRow base e 1 v' (n + m) (xs ++ news) → w.grownBy w' v.ownBlock → K (a.put o.dst v') w') :
 if Region.wanted o (yielded ops a.tmps) = true then Oper.wp P o a w K Q else E := by
 have hw : Region.wanted o (yielded ops a.tmps) = true := by simp [Region.wanted, hgd]
 rw [if_pos hw]
 exact wp_app w s x t ho base e i z bytes ht hi hz hsize hby hzs v n xs hs hown A m c news hx hsl h1 h63 hbytes hbase h
end
end Go.Proofs.YtljdlkonlnjadaaGreatDoor
namespace Go.Proofs.YtljdlkonlnjadaaGreatDoor
open Go.RowKit
theorem strv_mk (s : ByteArray) : strv s.data.toList = .string s := by
 unfold strv; rfl
theorem mk_app (a : List UInt8) (s : ByteArray) : (⟨a.toArray⟩ : ByteArray) ++ s = ⟨(a ++ s.data.toList).toArray⟩ := by
 apply ByteArray.ext
 apply Array.toList_inj.1
 simp
theorem own_some {w : World} {B : Nat} {e : TypeId} {v : Value} {n : Nat} {xs : List Value} (h : w.ownsRow B e 1 v n xs) (hn : 0 < n) : ∃ g cap, v = .slice (some ⟨g, 0, none⟩) n cap ∧ B ≤ g ∧ g < w.heap.size ∧ n ≤ cap := by
 rcases h.2 with ⟨hv, hx⟩ | ⟨g, cap, cur, hv, hb, hg, hn', _⟩
 ·have := h.1; rw [hx] at this; simp at this; omega
 ·exact ⟨g, cap, hv, hb, (Array.getElem?_eq_some_iff.1 hg).1, hn'⟩
theorem less_eq : ∀ (x y : List UInt8), Op.bytesLess x y = decide (x < y)
 | [], [] => by simp [Op.bytesLess]
 | _ :: _, [] => by simp [Op.bytesLess]
 | [], _ :: _ => by simp [Op.bytesLess]
 | a :: x, b :: y => by
   rw [Op.bytesLess, less_eq x y, Bool.eq_iff_iff]
   simp [List.cons_lt_cons_iff]
theorem less_b (x y : ByteArray) : Op.bytesLess x.toList y.toList = decide (x.data.toList < y.data.toList) := by
 rw [less_eq, ByteArray.toList_eq, ByteArray.toList_eq]
theorem eq_b (x y : ByteArray) : (x.toList == y.toList) = (x.data.toList == y.data.toList) := by
 rw [ByteArray.toList_eq, ByteArray.toList_eq]
theorem strv_b (y : List UInt8) : ∃ yb : ByteArray, strv y = .string yb ∧ yb.data.toList = y := ⟨⟨y.toArray⟩, rfl, by simp⟩
theorem Sl.take {w : World} {A : Option Addr} {n : Nat} {xs : List Value} (h : Sl w A n xs) (k : Nat) (hk : k ≤ n) : Sl w A k (xs.take k) :=
 ⟨by rw [List.length_take, h.1]; omega, fun j u hu => by
  rw [List.getElem?_take] at hu
  split at hu
  ·exact h.2 j u hu
  ·cases hu⟩
def EC : Codes := ⟨3, 9, 6⟩
def tagV (t : TagP) (A : Option Addr) (n c : Nat) : Value := .agg #[strv t.lang, strv t.script, strv t.region, .slice A n c]
theorem c3_bad {E : Codes} {tg : TagP} {r : List (List UInt8)} {k : Nat} {x : List UInt8} (hx : r[k]? = some x) (hv : variantB x = false) : c3 E tg r = (TagP.zero, E.syn) := by
 unfold c3
 rw [if_neg]
 intro h
 have := List.all_eq_true.1 h x (List.mem_of_getElem? hx)
 rw [hv] at this
 cases this
theorem add_add (a : Addr) (i j : Nat) : (a.add i).add j = a.add (i + j) := by
 unfold Addr.add
 by_cases hi : i = 0
 ·subst hi; simp
 ·by_cases hj : j = 0
  ·subst hj; simp
  ·simp [hi, hj, Nat.add_assoc]
theorem Sl.drop {w : World} {ad : Addr} {n : Nat} {xs : List Value} (h : Sl w (some ad) n xs) (k : Nat) (hk : k ≤ n) : Sl w (some (ad.add k)) (n - k) (xs.drop k) :=
 ⟨by rw [List.length_drop, h.1], fun j u hu => by
  rw [List.getElem?_drop] at hu
  obtain ⟨ad', he, hb, hc⟩ := h.2 (k + j) u hu
  injection he with he
  subst he
  exact ⟨_, rfl, by rw [addr_block]; exact hb, by rw [add_add]; exact hc⟩⟩
theorem two_new (w : World) (a b : Obj) : ((w.alloc a).alloc b).drew.heap[w.heap.size + 1]? = some b := by
 have h := heap_alloc_new (w.alloc a) b
 have e : (w.alloc a).heap.size = w.heap.size + 1 := by simp
 rw [e] at h
 exact h
theorem two_old (w : World) (a b : Obj) : ((w.alloc a).alloc b).drew.heap[w.heap.size]? = some a := by
 have h := heap_alloc_new w a
 have h2 := Below.heap_alloc (w.alloc a) b w.heap.size (by simp)
 exact h2.trans h
end Go.Proofs.YtljdlkonlnjadaaGreatDoor
namespace Go.Proofs.YtljdlkonlnjadaaGreatDoor
open Go.RowKit
structure ExtW (w : World) where
 v : World
 h : Ext w v
instance ExtW.some (w : World) : Nonempty (ExtW w) := ⟨⟨w, Ext.refl w⟩⟩
theorem ExtW.call {P : Program} {f : FuncId} {args : Array Value} {w : World} {x : ExtW w} {v : Value} (h : Calls P f args x.v fun e w' => e = .returned v ∧ Ext x.v w') :
 Calls P f args x.v fun e w'' => e = .returned v ∧ ∃ y : ExtW w, w'' = y.v := h.mono fun _ _ ⟨he, hw⟩ => ⟨he, ⟨_, x.h.trans hw⟩, rfl⟩
theorem ExtW.same {P : Program} {f : FuncId} {args : Array Value} {w : World} {x : ExtW w} {v : Value} (h : Calls P f args x.v fun e w' => e = .returned v ∧ x.v = w') :
 Calls P f args x.v fun e w'' => e = .returned v ∧ ∃ y : ExtW w, w'' = y.v := h.mono fun _ _ ⟨he, hw⟩ => ⟨he, x, hw.symm⟩
theorem wp_region_ext {P : Program} {id : Nat} {Q : Exit → Act → World → Prop} {a : Act} {w : World} {l : List Oper} (hm : P.follows .mixedOrders = true) (hB : Region.lexB .any l.toArray = true)
 (h : wpQuiet P l.toArray (fun w' => ∃ x : ExtW w, w' = x.v) (fun a' => ∀ w', (∃ x : ExtW w, w' = x.v) → Q .normal a' w') l a) : (Code.region id l.toArray true).wp P Q a w :=
 wp_region_quiet (C := fun w' => ∃ x : ExtW w, w' = x.v) hm hB ⟨⟨w.drew, (Ext.refl w).drew⟩, rfl⟩ (by simpa using h)
end Go.Proofs.YtljdlkonlnjadaaGreatDoor
namespace Go.Proofs.YtljdlkonlnjadaaGreatDoor
open Go
section
variable {P : Program} {ops : Array Oper} {md : Region.Mode} {C : World → Prop} {n i : Nat} {oi : Oper} {v : Value} {L : Array Bool → Act → Prop}
def headQ (P : Program) (md : Region.Mode) (ops : Array Oper) (C : World → Prop) (n : Nat) (L : Array Bool → Act → Prop) : Nat → Array Bool → Act → Prop
 | 0 => L
 | f + 1 => fun s a => Region.ready md ops s ≠ [] ∧ ∀ i ∈ Region.ready md ops s, i < n ∧ qOp P ops C i (headQ P md ops C n L f (s.setIfInBounds i true)) a
theorem headQ_run {g : Nat} {Q' : Exit → Act → World → Prop} (hL : ∀ s a, L s a → ∀ w, C w → wpAny P md ops Q' g s a w) (f : Nat) : ∀ s a w, C w → headQ P md ops C n L f s a → wpAny P md ops Q' (f + g) s a w := by
 induction f with
 | zero => intro s a w hw h; rw [Nat.zero_add]; exact hL s a h w hw
 | succ f ih =>
   intro s a w hw h
   obtain ⟨h1, h2⟩ := h
   rw [Nat.add_right_comm f 1 g]
   exact ⟨fun h0 => absurd h0 h1, fun i hi => wpOp_of_qOp hw (fun a' w' hw' h' => ih _ a' w' hw' h') (h2 i hi).2⟩
theorem headQ_first (hi : ops[i]? = some oi) (hsel : ∀ (j : Nat) (o : Oper) cs b, ops[j]? = some o → o.op ≠ .select cs b)
 (hs : Region.sinkB md ops n = true) (hc : Region.chainB md ops n = true) (hn : n < ops.size) (hin : i < n) (hdone : ∀ s a, L s a → ∀ j ∈ Region.ready md ops s, n ≤ j) (f : Nat) :
 ∀ s a, HeadInv md ops n s → (∀ j oj, ops[j]? = some oj → j ≠ i → s.getD j true = false → (∀ e ∈ oj.after, Region.binds md e = true → e.on ≠ i) → oi.apart ops oj = true) →
   i ∈ Region.ready md ops s → YieldsIn P ops C oi v a → headQ P md ops C n L f (s.setIfInBounds i true) (a.put oi.dst v) → headQ P md ops C n L (f + 1) s a := by
 induction f with
 | zero =>
   intro s a inv _ hr hy H
   refine ⟨List.ne_nil_of_mem hr, fun j hj => ?_⟩
   have hjn : j < n := Classical.byContradiction fun h => tail_waits hs hc hn inv _ i rfl hin (mem_ready.1 hr).1 j (by omega) hj
   by_cases hji : j = i
   ·subst hji; exact ⟨hjn, hy.qOp hi H⟩
   ·have := hdone _ _ H j (ready_mono hj hji)
    omega
 | succ f ih =>
   intro s a inv hfree hr hy H
   have hun := (mem_ready.1 hr).1
   refine ⟨List.ne_nil_of_mem hr, fun j hj => ?_⟩
   have hjn : j < n := Classical.byContradiction fun h => tail_waits hs hc hn inv _ i rfl hin hun j (by omega) hj
   refine ⟨hjn, ?_⟩
   by_cases hji : j = i
   ·subst hji; exact hy.qOp hi H
   obtain ⟨hjun, oj, hoj, hall⟩ := mem_ready.1 hj
   have hno : ∀ e ∈ oj.after, Region.binds md e = true → e.on ≠ i := fun e he hb heq => by
    have h1 := hall e he hb
    rw [heq, getD_both hun] at h1
    cases h1
   have h2 := qOp_put hoj (hfree j oj hoj hji hjun hno) (fun cs b => hsel i oi cs b hi) (fun cs b => hsel j oj cs b hoj) hy (H.2 j (ready_mono hj hji)).2
   refine qOp_mono (fun a' h3 => ih _ a' (inv.set hj hjn) (fun k ok hk hki hku hkn => hfree k ok hk hki ?_ hkn) (ready_mono hr (Ne.symm hji)) h3.1 ?_) h2
   ·by_cases hjk : j = k
    ·subst hjk; exact hjun
    ·rwa [getD_set_ne true hjk] at hku
   ·rw [Array.setIfInBounds_comm _ _ hji]
    exact h3.2
theorem headQ_lex {g : Nat} {Lq : Act → Prop} (hsel : Region.noSelect ops = true) (hs : Region.sinkB md ops n = true) (hc : Region.chainB md ops n = true) (hn : n < ops.size) (l : List Oper) :
 ∀ (k : Nat) (s : Array Bool) (a : Act), (∀ j, j < l.length → l[j]? = ops[k + j]?) → k + l.length = n → HeadInv md ops n s →
 Region.lexHead md ops g l.length k s = true → wpQuiet P ops C Lq l a → headQ P md ops C n (fun s' a' => Region.seqB md ops g n s' = true ∧ Lq a') l.length s a := by
 induction l with
 | nil =>
   intro k s a _ hk _ hB h
   have hkn : k = n := by simpa using hk
   subst hkn
   exact ⟨by simpa [Region.lexHead] using hB, h⟩
 | cons o l ih =>
   intro k s a hl hk inv hB h
   have h0 : ops[k]? = some o := by simpa using (hl 0 (by simp)).symm
   simp only [List.length_cons] at hk
   simp only [List.length_cons, Region.lexHead, Bool.and_eq_true] at hB
   obtain ⟨⟨hr, hf⟩, hB'⟩ := hB
   have hkr : k ∈ Region.ready md ops s := by simpa using hr
   obtain ⟨v, hy, hK⟩ := yieldsIn_of_qOp (i := k) (K := wpQuiet P ops C Lq l) h0 (by unfold qOp; simp only [h0]; exact h)
   refine headQ_first h0 (Region.noSelect_spec hsel) hs hc hn (by omega) (fun s' a' hL => seqB_ready hL.1) l.length s a inv (Region.free_spec h0 hf) hkr hy ?_
   exact ih (k + 1) _ _ (fun j hj => by have := hl (j + 1) (by simp; omega); simpa [Nat.add_assoc, Nat.add_comm 1 j] using this) (by omega) (inv.set hkr (by omega)) hB' hK
theorem wp_quiet_tail {id : Nat} {Q : Exit → Act → World → Prop} {a : Act} {w : World} {l : List Oper} (n : Nat) (hm : P.follows .mixedOrders = true) (hB : Region.lexTailB .any l.toArray n = true) (hC : C { w with drawn := w.drawn + 1 })
 (h : wpQuiet P l.toArray C (fun a' => ∀ w', C w' → wpList P l.toArray Q (l.drop n) a' w') (l.take n) a) : (Code.region id l.toArray true).wp P Q a w := by
 simp only [Region.lexTailB, Bool.and_eq_true, decide_eq_true_eq] at hB
 obtain ⟨⟨⟨⟨hsel, hn⟩, hs⟩, hc⟩, hlex⟩ := hB
 have hn' : n < l.length := by simpa using hn
 have htl : (l.take n).length = n := by rw [List.length_take]; omega
 have hdl : (l.drop n).length = l.toArray.size - n := by simp
 have inv0 : HeadInv .any l.toArray n (Array.replicate l.toArray.size false) :=
  ⟨by simp, fun j oj _ hl => (by rw [getD_replicate_false] at hl; cases hl), fun t _ ht => getD_in (by simpa using ht) (getD_replicate_false _ _)⟩
 have H := headQ_lex (md := .any) (g := l.toArray.size - n) hsel hs hc hn (l.take n) 0 _ a (fun j hj => by
  rw [htl] at hj
  simp [hj]) (by rw [htl, Nat.zero_add]) inv0 (by rw [htl]; exact hlex) h
 refine wp_region_any hm ?_
 have h3 := headQ_run (Q' := Q) (g := l.toArray.size - n) (fun s a' hL w' hw' => by
  have h4 := wpAny_of_seq (md := .any) (Q' := Q) (l.drop n) n s a' w' (fun j => by simp [List.getElem?_drop]) (by rw [hdl]; exact hL.1) (hL.2 w' hw')
  rwa [hdl] at h4) _ _ _ _ hC H
 rw [htl, show n + (l.toArray.size - n) = l.toArray.size by omega] at h3
 exact h3
end
theorem wp_ext_tail {P : Program} {id : Nat} {Q : Exit → Act → World → Prop} {a : Act} {w : World} {l : List Oper} (n : Nat) (hm : P.follows .mixedOrders = true) (hB : Region.lexTailB .any l.toArray n = true)
 (h : wpQuiet P l.toArray (fun w' => ∃ x : ExtW w, w' = x.v) (fun a' => ∀ w', (∃ x : ExtW w, w' = x.v) → wpList P l.toArray Q (l.drop n) a' w') (l.take n) a) : (Code.region id l.toArray true).wp P Q a w :=
 wp_quiet_tail n hm hB ⟨⟨w.drew, (Ext.refl w).drew⟩, rfl⟩ h
end Go.Proofs.YtljdlkonlnjadaaGreatDoor
