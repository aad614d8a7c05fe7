import Derived.Test.YtblkpgglkhmggaaGreatDoorSn
import Derived.Test.YtblkpgglkhmggaaGreatDoorExtW
import Derived.Deep.RegionLaw
import Derived.Deep.RegionWith
import Derived.Laws.OwnMore
namespace Go.Proofs.YtblkpgglkhmggaaGreatDoor
open Go.RowKit
set_option linter.unusedSimpArgs false
set_option linter.unusedVariables false

/-! Appends of structs in a region that draws; slices of slices of structs. -/
section
variable {P : Program} (w : World)
theorem wp_appN {o : Oper} {a : Act} {K : Act → World → Prop} {Q : Exit → Act → World → Prop} (s x : Operand) (t : TypeId)
    (ho : o.op = .call { callee := .builtin .append, args := #[s, x], argTypes := #[t, t] })
    (base : Nat) (e : TypeId) (i : TypeInfo) (z : Value) (size bytes : Nat) (ht : P.underlying t = some (.slice e)) (hi : P.info? e = some i) (hz : i.zero = some z)
    (hsize : i.size = size) (hby : i.bytes = bytes) (hzs : z.cells.size = size) (hpos : 0 < size)
    (v : Value) (n : Nat) (xs : List Value) (hs : a.eval s = v) (hown : w.ownsRow base e size v n xs)
    (A : Option Addr) (m c : Nat) (news : List Value) (hx : a.eval x = .slice A m c) (hsl : SlN w A m size news) (h1 : ∀ u ∈ news, u.oneCell' = true)
    (h63 : n + m ≤ maxLen) (hbytes : (n + m) * bytes ≤ 140737488355328) (hbase : base ≤ w.heap.size)
    (h : ∀ v' w', w'.ownsRow base e size v' (n + m) (xs ++ news) → w.grownBy w' v.ownBlock → K (a.put o.dst v') w') : o.wp P a w K Q := by
  have hm0 : A = none → m = 0 ∧ news = [] := by
    rintro rfl
    have hl := hsl.1
    rcases Nat.eq_zero_or_pos m with h0 | h0
    · subst h0
      exact ⟨rfl, List.eq_nil_of_length_eq_zero (by simpa using hl)⟩
    · have hlt : 0 < news.length := by rw [hl]; exact Nat.mul_pos h0 hpos
      obtain ⟨b, o', hA, _⟩ := hsl.2 0 _ (List.getElem?_eq_getElem hlt)
      cases hA
  cases A with
  | none =>
    obtain ⟨rfl, rfl⟩ := hm0 rfl
    have hrun := run_append_nil_any (P := P) w base t o.type e i size ht hi v n xs hown c
    unfold Oper.wp execOp
    simp only [ho, resolve, invoke, builtin, Sem.run_bind, Sem.run_pure, Result.andThen_ok, List.map_toArray, List.map_cons, List.map_nil, hs, hx, hrun]
    exact h v w (by simpa using hown) (World.grownBy.refl w _)
  | some ad =>
    refine wp_append_own w s x t ho base e i z size bytes ht hi hz hsize hby hzs hpos v n xs hs hown ad m c news hx hsl.1
      (fun j u hu => ?_) h1 h63 hbytes hbase (fun v' w' a1 a2 _ => h v' w' a1 a2)
    obtain ⟨b, o', ha, _, hc⟩ := hsl.2 j u hu
    injection ha with ha
    subst ha
    have ea : (⟨b, o', none⟩ : Addr).add j = ⟨b, o' + j, none⟩ := by
      unfold Addr.add
      split
      · subst_vars; rfl
      · rfl
    rw [ea]
    exact hc
theorem step_appN {ops : Array Oper} {o : Oper} {a : Act} {K : Act → World → Prop} {Q : Exit → Act → World → Prop} {E : Prop} (hgd : o.guard = none) (s x : Operand) (t : TypeId)
    (ho : o.op = .call { callee := .builtin .append, args := #[s, x], argTypes := #[t, t] })
    (base : Nat) (e : TypeId) (i : TypeInfo) (z : Value) (size bytes : Nat) (ht : P.underlying t = some (.slice e)) (hi : P.info? e = some i) (hz : i.zero = some z)
    (hsize : i.size = size) (hby : i.bytes = bytes) (hzs : z.cells.size = size) (hpos : 0 < size)
    (v : Value) (n : Nat) (xs : List Value) (hs : a.eval s = v) (hown : w.ownsRow base e size v n xs)
    (A : Option Addr) (m c : Nat) (news : List Value) (hx : a.eval x = .slice A m c) (hsl : SlN w A m size news) (h1 : ∀ u ∈ news, u.oneCell' = true)
    (h63 : n + m ≤ maxLen) (hbytes : (n + m) * bytes ≤ 140737488355328) (hbase : base ≤ w.heap.size)
    (h : ∀ v' w', w'.ownsRow base e size v' (n + m) (xs ++ news) → w.grownBy w' v.ownBlock → K (a.put o.dst v') w') :
    if Region.wanted o (yielded ops a.tmps) = true then Oper.wp P o a w K Q else E := by
  have hw : Region.wanted o (yielded ops a.tmps) = true := by simp [Region.wanted, hgd]
  rw [if_pos hw]
  exact wp_appN w s x t ho base e i z size bytes ht hi hz hsize hby hzs hpos v n xs hs hown A m c news hx hsl h1 h63 hbytes hbase h
end
theorem own_emptyN (w : World) (e : TypeId) (size : Nat) : (w.alloc (.cells #[] e)).ownsRow w.heap.size e size (.slice (some ⟨w.heap.size, 0, none⟩) 0 0) 0 [] :=
  ⟨by simp, .inr ⟨w.heap.size, 0, #[], rfl, Nat.le_refl _, heap_alloc_new w _, Nat.le_refl _, Nat.zero_le _, by simp, by simp⟩⟩
theorem own_empty2 (w : World) (o : Obj) (e : TypeId) (size : Nat) : ((w.alloc o).alloc (.cells #[] e)).drew.ownsRow w.heap.size e size (.slice (some ⟨w.heap.size + 1, 0, none⟩) 0 0) 0 [] := by
  have h := ((own_emptyN (w.alloc o) e size).drew)
  rw [show (w.alloc o).heap.size = w.heap.size + 1 from by simp] at h
  obtain ⟨h1, h2⟩ := h
  refine ⟨h1, ?_⟩
  rcases h2 with h2 | ⟨g, cap, cur, hv, hb, r⟩
  · exact .inl h2
  · exact .inr ⟨g, cap, cur, hv, by omega, r⟩
theorem slN_at {T : TypeId} {w : World} {g : Nat} {cs : Array Value} {n size : Nat} (h : AtC T w g cs) (hn : cs.size = n * size) : SlN w (some ⟨g, 0, none⟩) n size cs.toList :=
  ⟨by simpa using hn, fun j u hu => ⟨g, 0, rfl, h.lt, by
    rw [Nat.zero_add]
    exact h.cell j u (by simpa using hu)⟩⟩
theorem own3N (w : World) (o : Obj) (T : TypeId) (size : Nat) : ((w.alloc o).alloc (.cells #[] T)).drew.ownsRow w.heap.size T size (.slice (some ⟨w.heap.size + 1, 0, none⟩) 0 0) 0 [] := own_empty2 w o T size
theorem slN_kept {W w' : World} {g : Nat} {cs : Array Value} {T : TypeId} {row : Option Nat} {n size : Nat} (hg : W.grownBy w' row) (hW : W.heap[g]? = some (.cells cs T (0, 0))) (hne : some g ≠ row) (hn : cs.size = n * size) : SlN w' (some ⟨g, 0, none⟩) n size cs.toList :=
  slN_at (T := T) ((hg.block g (Array.getElem?_eq_some_iff.1 hW).1 hne).trans hW) hn
theorem slN_new (w : World) (cs : Array Value) (T : TypeId) (n size : Nat) (hn : cs.size = n * size) : SlN (w.alloc (.cells cs T)) (some ⟨w.heap.size, 0, none⟩) n size cs.toList := slN_at (AtC.new w cs) hn
theorem SlN.take {w : World} {A : Option Addr} {n size : Nat} {xs : List Value} (h : SlN w A n size xs) (k : Nat) (hk : k ≤ n) : SlN w A k size (xs.take (k * size)) :=
  ⟨by rw [List.length_take, h.1]; exact Nat.min_eq_left (Nat.mul_le_mul_right _ hk), fun j u hu => by
    rw [List.getElem?_take] at hu
    split at hu
    · exact h.2 j u hu
    · cases hu⟩
theorem SlN.drop {w : World} {b o n size : Nat} {xs : List Value} (h : SlN w (some ⟨b, o, none⟩) n size xs) (k : Nat) (hk : k ≤ n) : SlN w (some ⟨b, o + k * size, none⟩) (n - k) size (xs.drop (k * size)) :=
  ⟨by rw [List.length_drop, h.1, Nat.sub_mul], fun j u hu => by
    rw [List.getElem?_drop] at hu
    obtain ⟨b', o', hA, hb, hc⟩ := h.2 _ u hu
    injection hA with hA
    injection hA with h1 h2
    subst h1 h2
    exact ⟨_, _, rfl, hb, by rw [Nat.add_assoc]; exact hc⟩⟩
theorem flat_take {α : Type} {f : α → List Value} {m : Nat} (hf : ∀ a, (f a).length = m) : ∀ (l : List α) (k : Nat), (l.flatMap f).take (k * m) = (l.take k).flatMap f
  | [], k => by simp
  | x :: l, 0 => by simp
  | x :: l, k + 1 => by
    rw [List.flatMap_cons, List.take_succ_cons, List.flatMap_cons, List.take_append, hf, List.take_of_length_le (by rw [hf, Nat.succ_mul]; omega), Nat.succ_mul, Nat.add_sub_cancel, flat_take hf l k]
theorem flat_drop {α : Type} {f : α → List Value} {m : Nat} (hf : ∀ a, (f a).length = m) : ∀ (l : List α) (k : Nat), (l.flatMap f).drop (k * m) = (l.drop k).flatMap f
  | [], k => by simp
  | x :: l, 0 => by simp
  | x :: l, k + 1 => by
    rw [List.flatMap_cons, List.drop_succ_cons, List.drop_append, hf, List.drop_eq_nil_of_le (by rw [hf, Nat.succ_mul]; omega), Nat.succ_mul, Nat.add_sub_cancel, flat_drop hf l k, List.nil_append]
/-- What a row's slice is. -/
theorem own_form {w : World} {B : Nat} {e : TypeId} {size : Nat} {v : Value} {n : Nat} {xs : List Value} (h : w.ownsRow B e size v n xs) : ∃ A c, v = .slice A n c ∧ n ≤ c ∧ SlN w A n size xs ∧ (0 < n → ∃ g, A = some ⟨g, 0, none⟩ ∧ B ≤ g ∧ g < w.heap.size) := by
  obtain ⟨A, c, hv, hs⟩ := own_slN h
  obtain ⟨hl, h2⟩ := h
  rcases h2 with ⟨hv2, h0⟩ | ⟨g, cap, cur, hv2, hb, hg, hn, hm, hcs, ht⟩
  · subst h0
    rw [hv] at hv2
    injection hv2 with e1 e2 e3
    subst e1 e3
    exact ⟨none, 0, hv, Nat.le_refl _, hs, fun h => by omega⟩
  · rw [hv] at hv2
    injection hv2 with e1 e2 e3
    subst e1 e3
    exact ⟨_, _, hv, hn, hs, fun _ => ⟨g, rfl, hb, (Array.getElem?_eq_some_iff.1 hg).1⟩⟩
/-! Put, in plain words. -/
def PreA (L : List ArgP) (x : By) (k : Nat) : Prop := ∀ j y, j < k → L[j]? = some y → y.1 ≠ x ∧ ¬ x < y.1
theorem preA_zero (L : List ArgP) (x : By) : PreA L x 0 := fun j y hj => absurd hj (Nat.not_lt_zero _)
theorem preA_next {L : List ArgP} {x : By} {k : Nat} {y : ArgP} (h : PreA L x k) (hy : L[k]? = some y) (h1 : y.1 ≠ x) (h2 : ¬ x < y.1) : PreA L x (k + 1) := fun j z hj hz => by
  by_cases hk : j = k
  · subst hk; rw [hy] at hz; injection hz with hz; subst hz; exact ⟨h1, h2⟩
  · exact h j z (by omega) hz
theorem put_scan : ∀ (L : List ArgP) (x : ArgP) (k : Nat), k ≤ L.length → PreA L x.1 k → putA L x = (L.take k ++ (putA (L.drop k) x).1, (putA (L.drop k) x).2)
  | L, x, 0, _, _ => by simp
  | [], x, k + 1, h, _ => by simp at h
  | y :: L, x, k + 1, h, hp => by
    have h0 := hp 0 y (by omega) rfl
    have ih := put_scan L x k (by simpa using h) (fun j z hj hz => hp (j + 1) z (by omega) (by simpa using hz))
    rw [List.take_succ_cons, List.drop_succ_cons, putA, if_neg h0.1, if_neg h0.2, ih]
    rfl
theorem put_end {L : List ArgP} {x : ArgP} (hp : PreA L x.1 L.length) : putA L x = (L ++ [x], true) := by
  rw [put_scan L x L.length (Nat.le_refl _) hp, List.drop_length, List.take_length]
  rfl
theorem put_gt {L : List ArgP} {x y : ArgP} {k : Nat} (hp : PreA L x.1 k) (hy : L[k]? = some y) (h1 : y.1 ≠ x.1) (h2 : x.1 < y.1) : putA L x = (L.take k ++ x :: L.drop k, true) := by
  have hk : k < L.length := (List.getElem?_eq_some_iff.1 hy).1
  have hd : L.drop k = y :: L.drop (k + 1) := by rw [List.drop_eq_getElem_cons hk]; congr 1; exact (List.getElem?_eq_some_iff.1 hy).2
  rw [put_scan L x k (Nat.le_of_lt hk) hp, hd, putA, if_neg h1, if_pos h2]
theorem put_eq {L : List ArgP} {x y : ArgP} {k : Nat} (hp : PreA L x.1 k) (hy : L[k]? = some y) (h1 : y.1 = x.1) : putA L x = (L.set k (y.1, (comA y.2 x.2).1), (comA y.2 x.2).2) := by
  have hk : k < L.length := (List.getElem?_eq_some_iff.1 hy).1
  have hd : L.drop k = y :: L.drop (k + 1) := by rw [List.drop_eq_getElem_cons hk]; congr 1; exact (List.getElem?_eq_some_iff.1 hy).2
  rw [put_scan L x k (Nat.le_of_lt hk) hp, hd, putA, if_pos h1, List.set_eq_take_append_cons_drop, if_pos hk]
theorem agP_back {l : List Ag} {M : List ArgP} (h : l.map agOf = M) : l = M.map agP := by
  subst h
  rw [List.map_map]
  conv => lhs; rw [← List.map_id l]
  refine List.map_congr_left fun x _ => ?_
  unfold agOf agP
  simp
theorem set_flat : ∀ (l : List Ag) (k : Nat) (x : Ag) (t : Int), l[k]? = some x → (l.flatMap agC).set (k * 2 + 1) (.int .i64 t) = (l.set k ⟨x.n, t⟩).flatMap agC
  | [], k, x, t, h => by simp at h
  | y :: l, 0, x, t, h => by
    simp at h
    subst h
    rfl
  | y :: l, k + 1, x, t, h => by
    have ih := set_flat l k x t (by simpa using h)
    rw [List.set_cons_succ, List.flatMap_cons, List.flatMap_cons, ← ih]
    have e : (k + 1) * 2 + 1 = k * 2 + 1 + 1 + 1 := by omega
    rw [e]
    rfl
theorem set_of {l : List Ag} {k : Nat} {x : Ag} {t : Int} : (l.set k ⟨x.n, t⟩).map agOf = (l.map agOf).set k ((agOf x).1, t) := by
  rw [List.map_set]
  rfl
def RetPut (w : World) (M : List ArgP × Bool) (e : Ending) (w' : World) : Prop := ∃ A n c, e = .returned (.tuple #[.slice A n c, .bool M.2]) ∧ Ags w' A n (M.1.map agP) ∧ n ≤ c ∧ Ext w w'
end Go.Proofs.YtblkpgglkhmggaaGreatDoor
