import Derived.WalkKit
import Derived.WalkLawsBesides
import Derived.WalkSpells
import Derived.Lib.Hide
import Derived.Deep.QuietTactic
import Derived.BigQuiet
import Derived.Deep.Draws
import Derived.Laws.OwnMore
import Derived.StillTailTactics
import Derived.Deep.OwnRows
import Derived.Deep.DeepCutAuto
import Derived.Deep.CutBlock
import Derived.Deep.LoopGhost
import Derived.Laws.AppendOwn
set_option maxRecDepth 100000
set_option linter.unusedSimpArgs false
set_option linter.unusedVariables false
namespace Go.Proofs.YtiijdojihleggaaGreatDoor
open Go.RowKit
def Ext (w w' : World) : Prop := Below w.heap.size w w'
theorem Ext.refl (w : World) : Ext w w := Below.refl _ _
theorem Ext.size {w w' : World} (h : Ext w w') : w.heap.size ≤ w'.heap.size := Below.size h
theorem Ext.trans {a b c : World} (h : Ext a b) (k : Ext b c) : Ext a c := Below.trans h (k.mono (Below.size h))
theorem Ext.drew {a w : World} (h : Ext a w) : Ext a w.drew := Below.drew h
theorem Ext.drewN {a w : World} (h : Ext a w) (n : Nat) : Ext a (w.drewN n) := by
 have h0 : Below a.heap.size a w := h
 exact ⟨h0.os, h0.tape, h0.output, h0.size, h0.block⟩
theorem Ext.alloc {a w : World} (h : Ext a w) (o : Obj) : Ext a (w.alloc o) := Below.alloc h (Ext.size h) o
theorem Ext.setCell {a w : World} (h : Ext a w) {p : Addr} (hp : a.heap.size ≤ p.block) (u : Value) : Ext a (w.setCell p u) := Below.setCell h hp u
theorem Ext.grown {a w w' : World} {row : Option Nat} (h : Ext a w) (hg : w.grownBy w' row) (hr : ∀ k, row = some k → a.heap.size ≤ k) : Ext a w' :=
 Below.grown h hg (Ext.size h) hr
theorem Ext.cell {w w' : World} (h : Ext w w') {p : Addr} (hp : p.block < w.heap.size) : w'.cell? p = w.cell? p := Below.cell h hp
theorem addr_block (a : Addr) (n : Nat) : (a.add n).block = a.block := by
 unfold Addr.add
 split <;> rfl
def Sl (w : World) (A : Option Addr) (n : Nat) (xs : List Value) : Prop :=
 xs.length = n ∧ ∀ j u, xs[j]? = some u → ∃ ad, A = some ad ∧ ad.block < w.heap.size ∧ w.cell? (ad.add j) = some u
theorem Sl.len {w : World} {A : Option Addr} {n : Nat} {xs : List Value} (h : Sl w A n xs) : n = xs.length := h.1.symm
theorem Sl.ext {w w' : World} {A : Option Addr} {n : Nat} {xs : List Value} (h : Sl w A n xs) (hw : Ext w w') : Sl w' A n xs :=
 ⟨h.1, fun j u hu => by
  obtain ⟨ad, ha, hb, hc⟩ := h.2 j u hu
  exact ⟨ad, ha, Nat.lt_of_lt_of_le hb (Ext.size hw), (Ext.cell hw (by rw [addr_block]; exact hb)).trans hc⟩⟩
theorem Sl.at_ {w : World} {A : Option Addr} {n k : Nat} {xs : List Value} (h : Sl w A n xs) (hk : k < n) :
 ∃ ad u, A = some ad ∧ xs[k]? = some u ∧ w.cell? (ad.add k) = some u := by
 have hl : k < xs.length := by have := h.1; omega
 obtain ⟨ad, ha, _, hc⟩ := h.2 k xs[k] (List.getElem?_eq_getElem hl)
 exact ⟨ad, _, ha, List.getElem?_eq_getElem hl, hc⟩
theorem Sl.at_map {α : Type} {f : α → Value} {w : World} {A : Option Addr} {n k : Nat} {xs : List α} (h : Sl w A n (xs.map f)) (hk : k < n) :
 ∃ ad x, A = some ad ∧ xs[k]? = some x ∧ w.cell? (ad.add k) = some (f x) := by
 obtain ⟨ad, u, ha, hu, hc⟩ := h.at_ hk
 rw [List.getElem?_map] at hu
 cases hx : xs[k]? with
 | none => rw [hx] at hu; simp at hu
 | some x => rw [hx] at hu; simp at hu; subst hu; exact ⟨ad, x, ha, rfl, hc⟩
theorem Sl.nil (w : World) (A : Option Addr) : Sl w A 0 [] := ⟨rfl, fun j u h => by simp at h⟩
theorem own_sl {w : World} {B : Nat} {e : TypeId} {v : Value} {n : Nat} {xs : List Value} (h : w.ownsRow B e 1 v n xs) :
 ∃ A c, v = .slice A n c ∧ Sl w A n xs ∧ n ≤ c := by
 obtain ⟨hl, h⟩ := h
 rcases h with ⟨rfl, rfl⟩ | ⟨g, cap, cur, rfl, hb, hg, hn, hm, hs, ht⟩
 ·exact ⟨none, 0, rfl, ⟨by simpa using hl, fun j u hu => by
   have : xs = [] := List.eq_nil_of_length_eq_zero (by simpa using hl)
   subst this
   simp at hu⟩, Nat.le_refl _⟩
 ·refine ⟨some ⟨g, 0, none⟩, cap, rfl, ⟨by simpa using hl, fun j u hu => ⟨_, rfl, (Array.getElem?_eq_some_iff.1 hg).1, ?_⟩⟩, hn⟩
  have hj : j < xs.length := (List.getElem?_eq_some_iff.1 hu).1
  have e1 : (⟨g, 0, none⟩ : Addr).add j = ⟨g, j, none⟩ := by
   unfold Addr.add
   split
   ·subst_vars; rfl
   ·simp
  rw [e1, cell_of_row w g j cur e (0, 0) hg]
  have h2 : cur.toList[j]? = some u := by
   have h3 : (cur.toList.take (n * 1))[j]? = some u := by rw [ht]; exact hu
   rw [List.getElem?_take] at h3
   split at h3
   ·exact h3
   ·cases h3
  simpa using h2
theorem own_lt {w : World} {B : Nat} {e : TypeId} {size : Nat} {v : Value} {n : Nat} {xs : List Value} (h : w.ownsRow B e size v n xs) :
 ∀ k, v.ownBlock = some k → B ≤ k := fun k hk => (h.lt k hk).1
section
variable {P : Program} (w : World)
theorem run_append_nil_any (base : Nat) (t ty e : TypeId) (i : TypeInfo) (size : Nat) (ht : P.underlying t = some (.slice e)) (hi : P.info? e = some i)
 (v : Value) (n : Nat) (xs : List Value) (hown : w.ownsRow base e size v n xs) (c : Nat) : (Builtin.append_ #[t, t] ty #[v, .slice none 0 c]).run P w = .ok v w := by
 rcases hown.2 with ⟨rfl, rfl⟩ | ⟨g, cap, cur, rfl, _, _, hnc, _⟩
 ·simp [Builtin.append_, run_underlying ht, sizeOf, typeInfo, hi, Builtin.lenOf, Builtin.firstCells]
 ·simp [Builtin.append_, run_underlying ht, sizeOf, typeInfo, hi, Builtin.lenOf, Builtin.firstCells, hnc, storeCells]
theorem wpList_app {ops : Array Oper} {rest : List Oper} {o : Oper} {a : Act} {Q : Exit → Act → World → Prop} (hgd : o.guard = none) (s x : Operand) (t : TypeId)
 (ho : o.op = .call { callee := .builtin .append, args := #[s, x], argTypes := #[t, t] })
 (base : Nat) (e : TypeId) (i : TypeInfo) (z : Value) (bytes : Nat) (ht : P.underlying t = some (.slice e)) (hi : P.info? e = some i) (hz : i.zero = some z)
 (hsize : i.size = 1) (hby : i.bytes = bytes) (hzs : z.cells.size = 1)
 (v : Value) (n : Nat) (xs : List Value) (hs : a.eval s = v) (hown : w.ownsRow base e 1 v n xs)
 (A : Option Addr) (m c : Nat) (news : List Value) (hx : a.eval x = .slice A m c) (hsl : Sl w A m news) (h1 : ∀ u ∈ news, u.oneCell' = true)
 (h63 : n + m ≤ maxLen) (hbytes : (n + m) * bytes ≤ 140737488355328) (hbase : base ≤ w.heap.size)
 (h : ∀ v' w', w'.ownsRow base e 1 v' (n + m) (xs ++ news) → w.grownBy w' v.ownBlock → wpList P ops Q rest (a.put o.dst v') w') :
 wpList P ops Q (o :: rest) a w := by
 cases A with
 | none =>
   have hm : m = 0 := by
    rcases Nat.eq_zero_or_pos m with h0 | h0
    ·exact h0
    ·obtain ⟨ad, u, hA, _⟩ := hsl.at_ h0
     cases hA
   subst hm
   have hn : news = [] := List.eq_nil_of_length_eq_zero hsl.1
   subst hn
   refine wpList_plain hgd fun K hK => ?_
   have hrun := run_append_nil_any (P := P) w base t o.type e i 1 ht hi v n xs hown c
   unfold Oper.wp execOp
   simp only [ho, resolve, invoke, builtin, Sem.run_bind, Sem.run_pure, Result.andThen_ok, List.map_toArray, List.map_cons, List.map_nil, hs, hx, hrun]
   exact hK _ _ (h v w (by simpa using hown) (World.grownBy.refl w _))
 | some ad =>
   refine wpList_append_own w hgd s x t ho base e i z 1 bytes ht hi hz hsize hby hzs (by decide) v n xs hs hown ad m c news hx (by rw [hsl.1, Nat.mul_one])
    (fun j u hu => ?_) h1 h63 hbytes hbase (fun v' w' a1 a2 _ => h v' w' a1 a2)
   obtain ⟨ad', ha, _, hc⟩ := hsl.2 j u hu
   injection ha with ha
   subst ha
   exact hc
end
theorem Sl.one (w : World) (u : Value) (t : TypeId) : Sl (w.alloc (.cells #[u] t)) (some ⟨w.heap.size, 0, none⟩) 1 [u] :=
 ⟨rfl, fun j x hx => by
  refine ⟨_, rfl, by simp, ?_⟩
  have hj : j = 0 := by have := (List.getElem?_eq_some_iff.1 hx).1; simp at this; exact this
  subst hj
  simp at hx
  subst hx
  show (w.alloc (.cells #[u] t)).cell? ⟨w.heap.size, 0, none⟩ = some u
  rw [cell_of_row _ w.heap.size 0 #[u] t (0, 0) (heap_alloc_new w _)]
  rfl⟩
def strv (l : List UInt8) : Value := .string ⟨l.toArray⟩
theorem strv_extract (s : ByteArray) (a b : Nat) : Value.string (s.extract a b) = strv ((s.data.toList.drop a).take (b - a)) := by
 unfold strv
 congr 1
 apply ByteArray.ext
 apply Array.toList_inj.1
 simp [ByteArray.data_extract, List.extract_eq_take_drop]
theorem bytes_ne {x y : ByteArray} (h : x ≠ y) : (x.toList == y.toList) = false := by
 rw [beq_eq_false_iff_ne, ByteArray.toList_eq, ByteArray.toList_eq]
 intro e
 exact h (ByteArray.ext (Array.toList_inj.mp e))
theorem ret_bool {a b : Bool} (h : a = b) : Ending.returned (.bool a) = .returned (.bool b) := by rw [h]
theorem ret_int {k : IntKind} {a b : Int} (h : a = b) : Ending.returned (.int k a) = .returned (.int k b) := by rw [h]
theorem ret_val {a b : Value} (h : a = b) : Ending.returned a = .returned b := by rw [h]
theorem size_list (s : ByteArray) : s.data.toList.length = s.size := rfl
theorem get_list (s : ByteArray) (k : Nat) (h : k < s.size) : s.data.toList[k]'(by rw [size_list]; exact h) = s[k] := by
 simp; rfl
theorem take_next {α : Type} {xs : List α} {k : Nat} {x : α} (h : xs[k]? = some x) : xs.take (k + 1) = xs.take k ++ [x] := by
 rw [List.take_add_one, h]; rfl
theorem own_ext {w w' : World} {B : Nat} {e : TypeId} {size : Nat} {v : Value} {n : Nat} {xs : List Value} (h : w.ownsRow B e size v n xs) (hw : Ext w w') : w'.ownsRow B e size v n xs := by
 obtain ⟨h1, h2⟩ := h
 refine ⟨h1, ?_⟩
 rcases h2 with h2 | ⟨g, cap, cur, hv, hb, hg, r⟩
 ·exact .inl h2
 ·exact .inr ⟨g, cap, cur, hv, hb, (Below.block hw g (Array.getElem?_eq_some_iff.1 hg).1).trans hg, r⟩
theorem strv_one (l : List (List UInt8)) : ∀ u ∈ l.map strv, u.oneCell' = true := by
 intro u hu
 obtain ⟨x, _, rfl⟩ := List.mem_map.1 hu
 rfl
theorem string_one (l : List ByteArray) : ∀ u ∈ l.map Value.string, u.oneCell' = true := by
 intro u hu
 obtain ⟨x, _, rfl⟩ := List.mem_map.1 hu
 rfl
theorem own_empty (w : World) (e : TypeId) : (w.alloc (.cells #[] e)).ownsRow w.heap.size e 1 (.slice (some ⟨w.heap.size, 0, none⟩) 0 0) 0 [] :=
 World.ownsRow_made w #[] 0 (Nat.le_refl _) (Nat.zero_le _) rfl
theorem ext_grown {a w w' : World} {B : Nat} {e : TypeId} {size n : Nat} {v : Value} {xs : List Value} (h : Ext a w) (ho : w.ownsRow B e size v n xs) (hB : a.heap.size ≤ B) (hg : w.grownBy w' v.ownBlock) : Ext a w' :=
 h.grown hg (fun k hk => Nat.le_trans hB (own_lt ho k hk))
theorem own_sl' {w : World} {B : Nat} {e : TypeId} {A : Option Addr} {m c n : Nat} {xs : List Value} (h : w.ownsRow B e 1 (.slice A m c) n xs) : m = n ∧ Sl w A n xs := by
 obtain ⟨A', c', hv, hs, _⟩ := own_sl h
 injection hv with h1 h2 h3
 subst h1; subst h2
 exact ⟨rfl, hs⟩
end Go.Proofs.YtiijdojihleggaaGreatDoor
