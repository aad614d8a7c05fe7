import Derived.Test.YtpfmojeigjmlfaaGreatDoorFlat
import Derived.Test.YtpfmojeigjmlfaaGreatDoorOpenA
namespace Go.Proofs.YtpfmojeigjmlfaaGreatDoor
open Go.RowKit
set_option linter.unusedSimpArgs false
set_option linter.unusedVariables false

theorem own_slN {w : World} {B : Nat} {e : TypeId} {size : Nat} {v : Value} {n : Nat} {xs : List Value} (h : w.ownsRow B e size v n xs) :
    ∃ A c, v = .slice A n c ∧ SlN w A n size xs := by
  obtain ⟨hl, h⟩ := h
  rcases h with ⟨rfl, rfl⟩ | ⟨g, cap, cur, rfl, hb, hg, hn, hm, hs, ht⟩
  · exact ⟨none, 0, rfl, hl, fun j u hu => by
      have : xs = [] := List.eq_nil_of_length_eq_zero (by simpa using hl)
      subst this
      simp at hu⟩
  · refine ⟨some ⟨g, 0, none⟩, cap, rfl, hl, fun j u hu => ⟨g, 0, rfl, (Array.getElem?_eq_some_iff.1 hg).1, ?_⟩⟩
    rw [cell_of_row w g (0 + j) cur e (0, 0) hg]
    have h3 : (cur.toList.take (n * size))[j]? = some u := by rw [ht]; exact hu
    rw [List.getElem?_take] at h3
    rw [Nat.zero_add]
    split at h3
    · simpa using h3
    · cases h3

section
variable {P : Program} (w : World)
/-- Where an append leaves its slice: in its own row, or in a new one. -/
theorem appN_where (base : Nat) (t ty e : TypeId) (i : TypeInfo) (z : Value) (size bytes : Nat) (ht : P.underlying t = some (.slice e)) (hi : P.info? e = some i) (hz : i.zero = some z)
    (hsize : i.size = size) (hby : i.bytes = bytes) (hzs : z.cells.size = size) (hpos : 0 < size) (v : Value) (n : Nat) (xs : List Value) (hown : w.ownsRow base e size v n xs)
    (ad : Addr) (m c : Nat) (news : List Value) (hl : news.length = m * size) (hnews : ∀ j u, news[j]? = some u → w.cell? (ad.add j) = some u) (h1 : ∀ u ∈ news, u.oneCell' = true)
    (h63 : n + m ≤ maxLen) (hbytes : (n + m) * bytes ≤ 140737488355328) {v' : Value} {w' : World} (hr : (Builtin.append_ #[t, t] ty #[v, .slice (some ad) m c]).run P w = .ok v' w') :
    v'.ownBlock = v.ownBlock ∨ ∀ b, v'.ownBlock = some b → w.heap.size ≤ b := by
  have hlen := hown.1
  rcases hown.2 with ⟨hv, hx⟩ | ⟨g, cap, cur, rfl, hb, hg, hn, hm, hs, htk⟩
  · subst hx
    subst hv
    have hx0 : xs = [] := List.eq_nil_of_length_eq_zero (by simpa using hlen)
    subst hx0
    obtain ⟨v1, w1, hr1, ho1, _, _⟩ := run_append_own (P := P) w w.heap.size t ty e i z size bytes ht hi hz hsize hby hzs hpos _ 0 [] (World.ownsRow_nil w w.heap.size e size) ad m c news hl hnews h1 h63 hbytes (Nat.le_refl _)
    rw [hr] at hr1
    injection hr1 with e1 e2
    subst e1; subst e2
    exact .inr fun b hb => (ho1.lt b hb).1
  · by_cases hroom : n + m ≤ cap
    · have hr1 := run_append_room (P := P) w t ty e i ht hi g n cap cur hg ad m c news (by rw [hsize]; exact hl) hnews h1 hroom (by rw [hsize, hl, hs, ← Nat.add_mul]; exact Nat.mul_le_mul_right _ hroom)
      rw [hr] at hr1
      injection hr1 with e1 e2
      subst e1
      exact .inl rfl
    · obtain ⟨v1, w1, hr1, ho1, _⟩ := run_append_arg_grows (P := P) w t ty e i z size bytes ht hi hz hsize hby hzs hpos ⟨g, 0, none⟩ n cap xs hown.1 (fun j u hu => hown.cells rfl j u hu) ad m c news hl hnews (by omega) h63 hbytes
      rw [hr] at hr1
      injection hr1 with e1 e2
      subst e1; subst e2
      exact .inr fun b hb => (ho1.lt b hb).1

theorem wpList_appN {ops : Array Oper} {rest : List Oper} {o : Oper} {a : Act} {Q : Exit → Act → World → Prop} (hgd : o.guard = none) (s x : Operand) (t : TypeId)
    (ho : o.op = .call { callee := .builtin .append, args := #[s, x], argTypes := #[t, t] })
    (base : Nat) (e : TypeId) (i : TypeInfo) (z : Value) (size bytes : Nat) (ht : P.underlying t = some (.slice e)) (hi : P.info? e = some i) (hz : i.zero = some z)
    (hsize : i.size = size) (hby : i.bytes = bytes) (hzs : z.cells.size = size) (hpos : 0 < size)
    (v : Value) (n : Nat) (xs : List Value) (hs : a.eval s = v) (hown : w.ownsRow base e size v n xs)
    (ad : Addr) (m c : Nat) (news : List Value) (hx : a.eval x = .slice (some ad) m c) (hl : news.length = m * size) (hnews : ∀ j u, news[j]? = some u → w.cell? (ad.add j) = some u) (h1 : ∀ u ∈ news, u.oneCell' = true)
    (h63 : n + m ≤ maxLen) (hbytes : (n + m) * bytes ≤ 140737488355328) (hbase : base ≤ w.heap.size)
    (h : ∀ v' w', w'.ownsRow base e size v' (n + m) (xs ++ news) → w.grownBy w' v.ownBlock → (v'.ownBlock = v.ownBlock ∨ ∀ b, v'.ownBlock = some b → w.heap.size ≤ b) → wpList P ops Q rest (a.put o.dst v') w') :
    wpList P ops Q (o :: rest) a w := by
  obtain ⟨v', w', hr, h2, h3, _⟩ := run_append_own (P := P) w base t o.type e i z size bytes ht hi hz hsize hby hzs hpos v n xs hown ad m c news hl hnews h1 h63 hbytes hbase
  have hw := appN_where w base t o.type e i z size bytes ht hi hz hsize hby hzs hpos v n xs hown ad m c news hl hnews h1 h63 hbytes hr
  refine wpList_plain hgd fun K hK => ?_
  unfold Oper.wp execOp
  simp only [ho, resolve, invoke, builtin, Sem.run_bind, Sem.run_pure, Result.andThen_ok, List.map_toArray, List.map_cons, List.map_nil, hs, hx, hr]
  exact hK _ _ (h v' w' h2 h3 hw)
end
theorem new_cells (w : World) (cs : Array Value) (t : TypeId) : ∀ j u, cs.toList[j]? = some u → (w.alloc (.cells cs t)).cell? ((⟨w.heap.size, 0, none⟩ : Addr).add j) = some u := by
  intro j u hu
  rw [add_flat, Nat.zero_add, cell_of_row _ w.heap.size j cs t (0, 0) (heap_alloc_new w _)]
  simpa using hu
end Go.Proofs.YtpfmojeigjmlfaaGreatDoor
