import Derived.Test.YtpfmojeigjmlfaaGreatDoorBase
import Derived.ArgAppend
namespace Go.Proofs.YtpfmojeigjmlfaaGreatDoor
open Go.RowKit
set_option linter.unusedSimpArgs false
set_option linter.unusedVariables false

theorem none_nil {w : World} {n : Nat} {xs : List Value} (h : Sl w none n xs) : n = 0 := by
  rcases Nat.eq_zero_or_pos n with h0 | h0
  · exact h0
  · obtain ⟨ad, u, hA, _⟩ := h.at_ h0
    cases hA
theorem addr_flat {w : World} {ad : Addr} {n : Nat} {xs : List Value} (h : Sl w (some ad) n xs) (hn : 0 < n) : ∃ b o, ad = ⟨b, o, none⟩ ∧ b < w.heap.size := by
  obtain ⟨ad', u, ha, _, hc⟩ := h.at_ hn
  injection ha with ha
  subst ha
  have hb := World.block_lt_of_cell? w _ hc
  have hs := World.cell?_spot hc
  obtain ⟨b, o, sp⟩ := ad
  refine ⟨b, o, ?_, by rwa [addr_block] at hb⟩
  simp [Addr.add] at hs
  rw [hs]
theorem add_flat (b o j : Nat) : (⟨b, o, none⟩ : Addr).add j = ⟨b, o + j, none⟩ := by
  unfold Addr.add
  split
  · subst_vars; rfl
  · rfl

/-- What was new in w' stands in W0. -/
def Later (w w' W0 : World) : Prop := w'.heap.size ≤ W0.heap.size ∧ ∀ b, w.heap.size ≤ b → b < w'.heap.size → W0.heap[b]? = w'.heap[b]?
theorem Later.refl (w w' : World) : Later w w' w' := ⟨Nat.le_refl _, fun _ _ _ => rfl⟩
theorem Sl.later {w w' W0 : World} {A : Option Addr} {n : Nat} {xs : List Value} (h : Sl w' A n xs) (hA : ∀ ad, A = some ad → w.heap.size ≤ ad.block) (hl : Later w w' W0) : Sl W0 A n xs :=
  ⟨h.1, fun j u hu => by
    obtain ⟨ad, ha, hb, hc⟩ := h.2 j u hu
    refine ⟨ad, ha, Nat.lt_of_lt_of_le hb hl.1, ?_⟩
    rw [← hc]
    exact World.cell?_of_block (by rw [addr_block]; exact hl.2 ad.block (hA ad ha) hb)⟩

section
variable {P : Program} (w : World)
/-- Where an append leaves its slice: in its own row, or in a new one. -/
theorem app_where (base : Nat) (t ty e : TypeId) (i : TypeInfo) (z : Value) (bytes : Nat) (ht : P.underlying t = some (.slice e)) (hi : P.info? e = some i) (hz : i.zero = some z)
    (hsize : i.size = 1) (hby : i.bytes = bytes) (hzs : z.cells.size = 1) (v : Value) (n : Nat) (xs : List Value) (hown : w.ownsRow base e 1 v n xs)
    (ad : Addr) (m c : Nat) (news : List Value) (hl : news.length = m * 1) (hnews : ∀ j u, news[j]? = some u → w.cell? (ad.add j) = some u) (h1 : ∀ u ∈ news, u.oneCell' = true)
    (h63 : n + m ≤ maxLen) (hbytes : (n + m) * bytes ≤ 140737488355328) {v' : Value} {w' : World} (hr : (Builtin.append_ #[t, t] ty #[v, .slice (some ad) m c]).run P w = .ok v' w') :
    v'.ownBlock = v.ownBlock ∨ ∀ b, v'.ownBlock = some b → w.heap.size ≤ b := by
  have hlen := hown.1
  rcases hown.2 with ⟨hv, hx⟩ | ⟨g, cap, cur, rfl, hb, hg, hn, hm, hs, htk⟩
  · subst hx
    subst hv
    have hx0 : xs = [] := List.eq_nil_of_length_eq_zero (by simpa using hlen)
    subst hx0
    obtain ⟨v1, w1, hr1, ho1, _, _⟩ := run_append_own (P := P) w w.heap.size t ty e i z 1 bytes ht hi hz hsize hby hzs (by decide) _ 0 [] (World.ownsRow_nil w w.heap.size e 1) ad m c news hl hnews h1 h63 hbytes (Nat.le_refl _)
    rw [hr] at hr1
    injection hr1 with e1 e2
    subst e1; subst e2
    exact .inr fun b hb => (ho1.lt b hb).1
  · by_cases hroom : n + m ≤ cap
    · have hr1 := run_append_room (P := P) w t ty e i ht hi g n cap cur hg ad m c news (by rw [hsize]; exact hl) hnews h1 hroom (by rw [hsize]; omega)
      rw [hr] at hr1
      injection hr1 with e1 e2
      subst e1
      exact .inl rfl
    · obtain ⟨v1, w1, hr1, ho1, _⟩ := run_append_arg_grows (P := P) w t ty e i z 1 bytes ht hi hz hsize hby hzs (by decide) ⟨g, 0, none⟩ n cap xs hown.1 (fun j u hu => hown.cells rfl j u hu) ad m c news hl hnews (by omega) h63 hbytes
      rw [hr] at hr1
      injection hr1 with e1 e2
      subst e1; subst e2
      exact .inr fun b hb => (ho1.lt b hb).1

theorem wpList_app2 {ops : Array Oper} {rest : List Oper} {o : Oper} {a : Act} {Q : Exit → Act → World → Prop} (hgd : o.guard = none) (s x : Operand) (t : TypeId)
    (ho : o.op = .call { callee := .builtin .append, args := #[s, x], argTypes := #[t, t] })
    (base : Nat) (e : TypeId) (i : TypeInfo) (z : Value) (bytes : Nat) (ht : P.underlying t = some (.slice e)) (hi : P.info? e = some i) (hz : i.zero = some z)
    (hsize : i.size = 1) (hby : i.bytes = bytes) (hzs : z.cells.size = 1)
    (v : Value) (n : Nat) (xs : List Value) (hs : a.eval s = v) (hown : w.ownsRow base e 1 v n xs)
    (ad : Addr) (m c : Nat) (news : List Value) (hx : a.eval x = .slice (some ad) m c) (hsl : Sl w (some ad) m news) (h1 : ∀ u ∈ news, u.oneCell' = true)
    (h63 : n + m ≤ maxLen) (hbytes : (n + m) * bytes ≤ 140737488355328) (hbase : base ≤ w.heap.size)
    (h : ∀ v' w', w'.ownsRow base e 1 v' (n + m) (xs ++ news) → w.grownBy w' v.ownBlock → (v'.ownBlock = v.ownBlock ∨ ∀ b, v'.ownBlock = some b → w.heap.size ≤ b) → wpList P ops Q rest (a.put o.dst v') w') :
    wpList P ops Q (o :: rest) a w := by
  have hnews : ∀ j u, news[j]? = some u → w.cell? (ad.add j) = some u := fun j u hu => by
    obtain ⟨ad', ha, _, hc⟩ := hsl.2 j u hu
    injection ha with ha
    subst ha
    exact hc
  obtain ⟨v', w', hr, h2, h3, _⟩ := run_append_own (P := P) w base t o.type e i z 1 bytes ht hi hz hsize hby hzs (by decide) v n xs hown ad m c news (by rw [hsl.1, Nat.mul_one]) hnews h1 h63 hbytes hbase
  have hw := app_where w base t o.type e i z bytes ht hi hz hsize hby hzs v n xs hown ad m c news (by rw [hsl.1, Nat.mul_one]) hnews h1 h63 hbytes hr
  refine wpList_plain hgd fun K hK => ?_
  unfold Oper.wp execOp
  simp only [ho, resolve, invoke, builtin, Sem.run_bind, Sem.run_pure, Result.andThen_ok, List.map_toArray, List.map_cons, List.map_nil, hs, hx, hr]
  exact hK _ _ (h v' w' h2 h3 hw)
end

/-- All blocks of w but one row stand in W0. -/
def Kept (row : Option Nat) (w W0 : World) : Prop := w.heap.size ≤ W0.heap.size ∧ ∀ b, b < w.heap.size → some b ≠ row → W0.heap[b]? = w.heap[b]?
theorem Kept.refl (row : Option Nat) (w : World) : Kept row w w := ⟨Nat.le_refl _, fun _ _ _ => rfl⟩
theorem Kept.ext {w W0 : World} (row : Option Nat) (h : Ext w W0) : Kept row w W0 := ⟨Ext.size h, fun b hb _ => Below.block h b hb⟩
theorem Kept.grown {w W0 : World} {row : Option Nat} (h : w.grownBy W0 row) : Kept row w W0 := ⟨h.size, fun b hb hn => h.block b hb hn⟩
theorem Kept.trans {row row' : Option Nat} {a b c : World} (h : Kept row a b) (k : Kept row' b c) (hr : row' = row ∨ ∀ x, row' = some x → a.heap.size ≤ x) : Kept row a c :=
  ⟨Nat.le_trans h.1 k.1, fun x hx hn => by
    refine (k.2 x (Nat.lt_of_lt_of_le hx h.1) fun e => ?_).trans (h.2 x hx hn)
    rcases hr with hr | hr
    · exact hn (e.trans hr)
    · have := hr x e.symm; omega⟩

theorem Sl.kept {w W0 : World} {row : Option Nat} {A : Option Addr} {n : Nat} {xs : List Value} (h : Sl w A n xs) (hk : Kept row w W0) (hr : ∀ ad, A = some ad → some ad.block ≠ row) : Sl W0 A n xs :=
  ⟨h.1, fun j u hu => by
    obtain ⟨ad, ha, hb, hc⟩ := h.2 j u hu
    refine ⟨ad, ha, Nat.lt_of_lt_of_le hb hk.1, ?_⟩
    rw [← hc]
    exact World.cell?_of_block (by rw [addr_block]; exact hk.2 ad.block hb (hr ad ha))⟩

theorem Sl.lit (w : World) (cs : Array Value) (t : TypeId) (n : Nat) (hn : cs.size = n) : Sl (w.alloc (.cells cs t)) (some ⟨w.heap.size, 0, none⟩) n cs.toList :=
  ⟨by simpa using hn, fun j u hu => ⟨_, rfl, by simp, by
    have e1 : (⟨w.heap.size, 0, none⟩ : Addr).add j = ⟨w.heap.size, j, none⟩ := by
      unfold Addr.add
      split
      · subst_vars; rfl
      · simp
    rw [e1, cell_of_row _ w.heap.size j cs t (0, 0) (heap_alloc_new w _)]
    simpa using hu⟩⟩

end Go.Proofs.YtpfmojeigjmlfaaGreatDoor
