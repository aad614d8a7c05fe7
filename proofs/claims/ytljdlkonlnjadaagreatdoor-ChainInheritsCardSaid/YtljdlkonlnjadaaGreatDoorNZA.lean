import Derived.Test.YtljdlkonlnjadaaGreatDoorNX4
import Derived.Test.YtljdlkonlnjadaaGreatDoorNXD
import Derived.Test.YtljdlkonlnjadaaGreatDoorNXE
import Derived.Test.YtljdlkonlnjadaaGreatDoorNX2
import Derived.Deep.RegionLaw
import Derived.Deep.RegionWith
import Derived.Test.YtljdlkonlnjadaaGreatDoorNZ9
set_option maxRecDepth 100000
set_option linter.unusedSimpArgs false
set_option linter.unusedVariables false
namespace Go.Proofs.YtljdlkonlnjadaaGreatDoor
open Go.RowKit
section
variable {P : Program} (w : World)
theorem wp_appN {o : Oper} {a : Act} {K : Act → World → Prop} {Q : Exit → Act → World → Prop} (s x : Operand) (t : TypeId)
 (ho : o.op = .call { callee := .builtin .append, args := #[s, x], argTypes := #[t, t] })
 (base : Nat) (e : TypeId) (i : TypeInfo) (z : Value) (size bytes : Nat) (ht : P.underlying t = some (.slice e)) (hi : P.info? e = some i) (hz : i.zero = some z)
 (hsize : i.size = size) (hby : i.bytes = bytes) (hzs : z.cells.size = size) (hpos : 0 < size)
 (v : Value) (n : Nat) (xs : List Value) (hs : a.eval s = v) (hown : w.ownsRow base e size v n xs)
 (A : Option Addr) (m c : Nat) (news : List Value) (hx : a.eval x = .slice A m c) (hsl : SlN w A m size news) (h1 : ∀ u ∈ news, u.oneCell' = true)
 (h63 : n + m ≤ maxLen) (hbytes : (n + m) * bytes ≤ 140737488355328) (hbase : base ≤ w.heap.size)
 (h : ∀ v' w', w'.ownsRow base e size v' (n + m) (xs ++ news) → w.grownBy w' v.ownBlock → K (a.put o.dst v') w') : o.wp P a w K Q := by
 have hm0 : A = none → m = 0 ∧ news = [] := by
  rintro rfl
  have hl := hsl.1
  rcases Nat.eq_zero_or_pos m with h0 | h0
  ·subst h0
   exact ⟨rfl, List.eq_nil_of_length_eq_zero (by simpa using hl)⟩
  ·have hlt : 0 < news.length := by rw [hl]; exact Nat.mul_pos h0 hpos
   obtain ⟨b, o', hA, _⟩ := hsl.2 0 _ (List.getElem?_eq_getElem hlt)
   cases hA
 cases A with
 | none =>
   obtain ⟨rfl, rfl⟩ := hm0 rfl
   have hrun := run_append_nil_any (P := P) w base t o.type e i size ht hi v n xs hown c
   unfold Oper.wp execOp
   simp only [ho, resolve, invoke, builtin, Sem.run_bind, Sem.run_pure, Result.andThen_ok, List.map_toArray, List.map_cons, List.map_nil, hs, hx, hrun]
   exact h v w (by simpa using hown) (World.grownBy.refl w _)
 | some ad =>
   refine wp_append_own w s x t ho base e i z size bytes ht hi hz hsize hby hzs hpos v n xs hs hown ad m c news hx hsl.1
    (fun j u hu => ?_) h1 h63 hbytes hbase (fun v' w' a1 a2 _ => h v' w' a1 a2)
   obtain ⟨b, o', ha, _, hc⟩ := hsl.2 j u hu
   injection ha with ha
   subst ha
   have ea : (⟨b, o', none⟩ : Addr).add j = ⟨b, o' + j, none⟩ := by
    unfold Addr.add
    split
    ·subst_vars; rfl
    ·rfl
   rw [ea]
   exact hc
theorem step_appN {ops : Array Oper} {o : Oper} {a : Act} {K : Act → World → Prop} {Q : Exit → Act → World → Prop} {E : Prop} (hgd : o.guard = none) (s x : Operand) (t : TypeId)
 (ho : o.op = .call { callee := .builtin .append, args := #[s, x], argTypes := #[t, t] })
 (base : Nat) (e : TypeId) (i : TypeInfo) (z : Value) (size bytes : Nat) (ht : P.underlying t = some (.slice e)) (hi : P.info? e = some i) (hz : i.zero = some z)
 (hsize : i.size = size) (hby : i.bytes = bytes) (hzs : z.cells.size = size) (hpos : 0 < size)
 (v : Value) (n : Nat) (xs : List Value) (hs : a.eval s = v) (hown : w.ownsRow base e size v n xs)
 (A : Option Addr) (m c : Nat) (news : List Value) (hx : a.eval x = .slice A m c) (hsl : SlN w A m size news) (h1 : ∀ u ∈ news, u.oneCell' = true)
 (h63 : n + m ≤ maxLen) (hbytes : (n + m) * bytes ≤ 140737488355328) (hbase : base ≤ w.heap.size)
 (h : ∀ v' w', w'.ownsRow base e size v' (n + m) (xs ++ news) → w.grownBy w' v.ownBlock → K (a.put o.dst v') w') :
 if Region.wanted o (yielded ops a.tmps) = true then Oper.wp P o a w K Q else E := by
 have hw : Region.wanted o (yielded ops a.tmps) = true := by simp [Region.wanted, hgd]
 rw [if_pos hw]
 exact wp_appN w s x t ho base e i z size bytes ht hi hz hsize hby hzs hpos v n xs hs hown A m c news hx hsl h1 h63 hbytes hbase h
end
theorem own_emptyN (w : World) (e : TypeId) (size : Nat) : (w.alloc (.cells #[] e)).ownsRow w.heap.size e size (.slice (some ⟨w.heap.size, 0, none⟩) 0 0) 0 [] :=
 ⟨by simp, .inr ⟨w.heap.size, 0, #[], rfl, Nat.le_refl _, heap_alloc_new w _, Nat.le_refl _, Nat.zero_le _, by simp, by simp⟩⟩
theorem own_empty2 (w : World) (o : Obj) (e : TypeId) (size : Nat) : ((w.alloc o).alloc (.cells #[] e)).drew.ownsRow w.heap.size e size (.slice (some ⟨w.heap.size + 1, 0, none⟩) 0 0) 0 [] := by
 have h := ((own_emptyN (w.alloc o) e size).drew)
 rw [show (w.alloc o).heap.size = w.heap.size + 1 from by simp] at h
 obtain ⟨h1, h2⟩ := h
 refine ⟨h1, ?_⟩
 rcases h2 with h2 | ⟨g, cap, cur, hv, hb, r⟩
 ·exact .inl h2
 ·exact .inr ⟨g, cap, cur, hv, by omega, r⟩
theorem slN_at {T : TypeId} {w : World} {g : Nat} {cs : Array Value} {n size : Nat} (h : AtC T w g cs) (hn : cs.size = n * size) : SlN w (some ⟨g, 0, none⟩) n size cs.toList :=
 ⟨by simpa using hn, fun j u hu => ⟨g, 0, rfl, h.lt, by
  rw [Nat.zero_add]
  exact h.cell j u (by simpa using hu)⟩⟩
end Go.Proofs.YtljdlkonlnjadaaGreatDoor
namespace Go.Proofs.YtljdlkonlnjadaaGreatDoor
open Go.RowKit
theorem two_newY (w : World) (a b : Obj) : ((w.alloc a).alloc b).drew.heap[w.heap.size + 1]? = some b := by
 have h := heap_alloc_new (w.alloc a) b
 rw [World.size_alloc] at h
 exact h
theorem two_oldY (w : World) (a b : Obj) : ((w.alloc a).alloc b).drew.heap[w.heap.size]? = some a := by
 have h := heap_alloc_new w a
 have h2 := Below.heap_alloc (w.alloc a) b w.heap.size (by simp)
 exact h2.trans h
theorem slN_keptY {W w' : World} {g : Nat} {cs : Array Value} {T : TypeId} {row : Option Nat} {n size : Nat} (hg : W.grownBy w' row) (hW : W.heap[g]? = some (.cells cs T (0, 0))) (hne : some g ≠ row) (hn : cs.size = n * size) : SlN w' (some ⟨g, 0, none⟩) n size cs.toList :=
 slN_at (T := T) ((hg.block g (Array.getElem?_eq_some_iff.1 hW).1 hne).trans hW) hn
theorem slN_newY (w : World) (cs : Array Value) (T : TypeId) (n size : Nat) (hn : cs.size = n * size) : SlN (w.alloc (.cells cs T)) (some ⟨w.heap.size, 0, none⟩) n size cs.toList := slN_at (AtC.new w cs) hn
theorem SlN.takeY {w : World} {A : Option Addr} {n size : Nat} {xs : List Value} (h : SlN w A n size xs) (k : Nat) (hk : k ≤ n) : SlN w A k size (xs.take (k * size)) :=
 ⟨by rw [List.length_take, h.1]; exact Nat.min_eq_left (Nat.mul_le_mul_right _ hk), fun j u hu => by
  rw [List.getElem?_take] at hu
  split at hu
  ·exact h.2 j u hu
  ·cases hu⟩
theorem SlN.dropY {w : World} {b o n size : Nat} {xs : List Value} (h : SlN w (some ⟨b, o, none⟩) n size xs) (k : Nat) (hk : k ≤ n) : SlN w (some ⟨b, o + k * size, none⟩) (n - k) size (xs.drop (k * size)) :=
 ⟨by rw [List.length_drop, h.1, Nat.sub_mul], fun j u hu => by
  rw [List.getElem?_drop] at hu
  obtain ⟨b', o', hA, hb, hc⟩ := h.2 _ u hu
  injection hA with hA
  injection hA with h1 h2
  subst h1 h2
  exact ⟨_, _, rfl, hb, by rw [Nat.add_assoc]; exact hc⟩⟩
theorem flat_take2 {m : Nat} : ∀ (l : List El) (k : Nat), (∀ x ∈ l, x.length = m) → (l.flatMap elC).take (k * m) = (l.take k).flatMap elC
 | [], k, _ => by simp
 | x :: l, 0, _ => by simp
 | x :: l, k + 1, h => by
   have hx : (elC x).length = m := by rw [elC, List.length_map]; exact h x (List.mem_cons_self ..)
   rw [List.flatMap_cons, List.take_succ_cons, List.flatMap_cons, List.take_append, hx, List.take_of_length_le (by rw [hx, Nat.succ_mul]; omega), Nat.succ_mul, Nat.add_sub_cancel, flat_take2 l k fun y hy => h y (List.mem_cons_of_mem _ hy)]
theorem flat_drop2 {m : Nat} : ∀ (l : List El) (k : Nat), (∀ x ∈ l, x.length = m) → (l.flatMap elC).drop (k * m) = (l.drop k).flatMap elC
 | [], k, _ => by simp
 | x :: l, 0, _ => by simp
 | x :: l, k + 1, h => by
   have hx : (elC x).length = m := by rw [elC, List.length_map]; exact h x (List.mem_cons_self ..)
   rw [List.flatMap_cons, List.drop_succ_cons, List.drop_append, hx, List.drop_eq_nil_of_le (by rw [hx, Nat.succ_mul]; omega), Nat.succ_mul, Nat.add_sub_cancel, flat_drop2 l k fun y hy => h y (List.mem_cons_of_mem _ hy), List.nil_append]
theorem el_one (l : List El) : ∀ u ∈ l.flatMap elC, u.oneCell' = true := fun u hu => by
 obtain ⟨x, _, hx⟩ := List.mem_flatMap.1 hu
 obtain ⟨s, _, rfl⟩ := List.mem_map.1 hx
 rfl
theorem el_oneX (x : El) : ∀ u ∈ elC x, u.oneCell' = true := fun u hu => by
 obtain ⟨s, _, rfl⟩ := List.mem_map.1 hu
 rfl
theorem own_capY {w : World} {B : Nat} {e : TypeId} {size : Nat} {A : Option Addr} {n c : Nat} {xs : List Value} (h : w.ownsRow B e size (.slice A n c) n xs) : n ≤ c := by
 rcases h.2 with ⟨hv, hn⟩ | ⟨g, cap, cur, hv, hb, hg, hn, _⟩
 ·omega
 ·injection hv with _ _ h3; omega
theorem extY {a w w' : World} {B : Nat} {e : TypeId} {size : Nat} {v : Value} {n : Nat} {xs : List Value} (h : Ext a w) (ho : w.ownsRow B e size v n xs) (hg : w.grownBy w' v.ownBlock) (hB : a.heap.size ≤ B := by exact Nat.le_refl _) : Ext a w' := h.grown hg fun q hq => Nat.le_trans hB (ho.lt q hq).1
end Go.Proofs.YtljdlkonlnjadaaGreatDoor
