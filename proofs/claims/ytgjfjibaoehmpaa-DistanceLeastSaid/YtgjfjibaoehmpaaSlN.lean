import Derived.Test.YtgjfjibaoehmpaaStep
import Derived.Test.YtgjfjibaoehmpaaAlignP
namespace Go.Proofs.Ytgjfjibaoehmpaa
open Go.RowKit

/-- The slice value with address A and length n shows the cells xs, size cells an element. -/
def SlN (w : World) (A : Option Addr) (n size : Nat) (xs : List Value) : Prop :=
  xs.length = n * size ∧ ∀ j u, xs[j]? = some u → ∃ ad, A = some ad ∧ ad.block < w.heap.size ∧ w.cell? (ad.add j) = some u

theorem SlN.ext {w w' : World} {A : Option Addr} {n size : Nat} {xs : List Value} (h : SlN w A n size xs) (hw : Ext w w') : SlN w' A n size xs :=
  ⟨h.1, fun j u hu => by
    obtain ⟨ad, ha, hb, hc⟩ := h.2 j u hu
    exact ⟨ad, ha, Nat.lt_of_lt_of_le hb (Ext.size hw), (Ext.cell hw (by rw [addr_block]; exact hb)).trans hc⟩⟩
theorem SlN.nil (w : World) (A : Option Addr) (size : Nat) : SlN w A 0 size [] := ⟨by simp, fun j u h => by simp at h⟩

theorem add_zero (g j : Nat) : (⟨g, 0, none⟩ : Addr).add j = ⟨g, j, none⟩ := by
  unfold Addr.add
  split
  · subst_vars; rfl
  · simp

theorem own_slN {w : World} {B : Nat} {e : TypeId} {size : Nat} {v : Value} {n : Nat} {xs : List Value} (h : w.ownsRow B e size v n xs) :
    ∃ A c, v = .slice A n c ∧ SlN w A n size xs := by
  obtain ⟨hl, h⟩ := h
  rcases h with ⟨rfl, rfl⟩ | ⟨g, cap, cur, rfl, hb, hg, hn, hm, hs, ht⟩
  · exact ⟨none, 0, rfl, hl, fun j u hu => by
      have : xs = [] := List.eq_nil_of_length_eq_zero (by simpa using hl)
      subst this
      simp at hu⟩
  · refine ⟨some ⟨g, 0, none⟩, cap, rfl, hl, fun j u hu => ⟨_, rfl, (Array.getElem?_eq_some_iff.1 hg).1, ?_⟩⟩
    rw [add_zero, cell_of_row w g j cur e (0, 0) hg]
    have h3 : (cur.toList.take (n * size))[j]? = some u := by rw [ht]; exact hu
    rw [List.getElem?_take] at h3
    split at h3
    · simpa using h3
    · cases h3

theorem SlN.steps {w : World} {A : Option Addr} {l : List (Int × Int)} (h : SlN w A l.length 2 (stepCells l)) : StepsAt w A l := by
  intro j hj
  have hget : ∀ j, j < l.length → (stepCells l)[j * 2]? = some (.int .i64 (l.getD j (0, 0)).1) ∧ (stepCells l)[j * 2 + 1]? = some (.int .i64 (l.getD j (0, 0)).2) := by
    clear h hj
    induction l with
    | nil => intro j h; simp at h
    | cons a r ih =>
      intro j h
      rw [← stepCells_cons]
      cases j with
      | zero => simp
      | succ j =>
        have h1 := ih j (by simpa using h)
        rw [show (j + 1) * 2 = j * 2 + 1 + 1 from by omega]
        simpa using h1
  obtain ⟨g0, _⟩ := hget 0 (by omega)
  obtain ⟨⟨b, o, sp⟩, rfl, hb, hc0⟩ := h.2 _ _ g0
  have hs : sp = none := by simpa [Addr.add] using World.cell?_spot hc0
  subst hs
  obtain ⟨g1, g2⟩ := hget j hj
  obtain ⟨ad', he, _, hc⟩ := h.2 _ _ g1
  injection he with he
  subst he
  obtain ⟨ad', he, _, hc'⟩ := h.2 _ _ g2
  injection he with he
  subst he
  have e0 : l.getD j (0, 0) = l[j] := by simp [List.getD_eq_getElem?_getD, hj]
  rw [e0] at hc hc'
  have ea : ∀ t, (⟨b, o, none⟩ : Addr).add t = ⟨b, o + t, none⟩ := by
    intro t
    unfold Addr.add
    split
    · subst_vars; rfl
    · rfl
  rw [ea] at hc hc'
  exact ⟨b, o, rfl, hb, hc, hc'⟩

section
variable {P : Program} (w : World)
theorem wpList_appN {ops : Array Oper} {rest : List Oper} {o : Oper} {a : Act} {Q : Exit → Act → World → Prop} (hgd : o.guard = none) (s x : Operand) (t : TypeId)
    (ho : o.op = .call { callee := .builtin .append, args := #[s, x], argTypes := #[t, t] })
    (base : Nat) (e : TypeId) (i : TypeInfo) (z : Value) (size bytes : Nat) (ht : P.underlying t = some (.slice e)) (hi : P.info? e = some i) (hz : i.zero = some z)
    (hsize : i.size = size) (hby : i.bytes = bytes) (hzs : z.cells.size = size) (hsz : 0 < size)
    (v : Value) (n : Nat) (xs : List Value) (hs : a.eval s = v) (hown : w.ownsRow base e size v n xs)
    (A : Option Addr) (m c : Nat) (news : List Value) (hx : a.eval x = .slice A m c) (hsl : SlN w A m size news) (h1 : ∀ u ∈ news, u.oneCell' = true)
    (h63 : n + m ≤ maxLen) (hbytes : (n + m) * bytes ≤ 140737488355328) (hbase : base ≤ w.heap.size)
    (h : ∀ v' w', w'.ownsRow base e size v' (n + m) (xs ++ news) → w.grownBy w' v.ownBlock → wpList P ops Q rest (a.put o.dst v') w') :
    wpList P ops Q (o :: rest) a w := by
  cases A with
  | none =>
    have hn : news = [] := by
      rcases news with _ | ⟨u, r⟩
      · rfl
      · obtain ⟨ad, hA, _⟩ := hsl.2 0 u (by simp)
        cases hA
    subst hn
    have hm : m = 0 := by
      have h5 : m * size = 0 := hsl.1.symm
      rcases Nat.mul_eq_zero.1 h5 with h5 | h5
      · exact h5
      · omega
    subst hm
    refine wpList_plain hgd fun K hK => ?_
    have hrun := run_append_nil_any (P := P) w base t o.type e i size ht hi v n xs hown c
    unfold Oper.wp execOp
    simp only [ho, resolve, invoke, builtin, Sem.run_bind, Sem.run_pure, Result.andThen_ok, List.map_toArray, List.map_cons, List.map_nil, hs, hx, hrun]
    exact hK _ _ (h v w (by simpa using hown) (World.grownBy.refl w _))
  | some ad =>
    refine wpList_append_own w hgd s x t ho base e i z size bytes ht hi hz hsize hby hzs hsz v n xs hs hown ad m c news hx hsl.1
      (fun j u hu => ?_) h1 h63 hbytes hbase (fun v' w' a1 a2 _ => h v' w' a1 a2)
    obtain ⟨ad', ha, _, hc⟩ := hsl.2 j u hu
    injection ha with ha
    subst ha
    exact hc
end

theorem step_one (l : List (Int × Int)) : ∀ u ∈ stepCells l, u.oneCell' = true := by
  intro u hu
  unfold stepCells at hu
  obtain ⟨x, _, hx⟩ := List.mem_flatMap.1 hu
  simp at hx
  rcases hx with rfl | rfl <;> rfl

end Go.Proofs.Ytgjfjibaoehmpaa
