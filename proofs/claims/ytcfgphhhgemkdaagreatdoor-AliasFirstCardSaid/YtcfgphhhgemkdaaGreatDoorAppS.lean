import Derived.Test.YtcfgphhhgemkdaaGreatDoorAX3
import Derived.Test.YtcfgphhhgemkdaaGreatDoorAX2
import Derived.Test.YtcfgphhhgemkdaaGreatDoorExtW
import Derived.Deep.RegionLaw
import Derived.Deep.RegionWith
namespace Go.Proofs.YtcfgphhhgemkdaaGreatDoor
open Go.RowKit
set_option linter.unusedSimpArgs false
set_option linter.unusedVariables false

section
variable {P : Program} (w : World)
theorem wp_appN {o : Oper} {a : Act} {K : Act → World → Prop} {Q : Exit → Act → World → Prop} (s x : Operand) (t : TypeId)
    (ho : o.op = .call { callee := .builtin .append, args := #[s, x], argTypes := #[t, t] })
    (base : Nat) (e : TypeId) (i : TypeInfo) (z : Value) (size bytes : Nat) (ht : P.underlying t = some (.slice e)) (hi : P.info? e = some i) (hz : i.zero = some z)
    (hsize : i.size = size) (hby : i.bytes = bytes) (hzs : z.cells.size = size) (hpos : 0 < size)
    (v : Value) (n : Nat) (xs : List Value) (hs : a.eval s = v) (hown : w.ownsRow base e size v n xs)
    (A : Option Addr) (m c : Nat) (news : List Value) (hx : a.eval x = .slice A m c) (hsl : SlN w A m size news) (h1 : ∀ u ∈ news, u.oneCell' = true)
    (h63 : n + m ≤ maxLen) (hbytes : (n + m) * bytes ≤ 140737488355328) (hbase : base ≤ w.heap.size)
    (h : ∀ v' w', w'.ownsRow base e size v' (n + m) (xs ++ news) → w.grownBy w' v.ownBlock → K (a.put o.dst v') w') : o.wp P a w K Q := by
  have hm0 : A = none → m = 0 ∧ news = [] := by
    rintro rfl
    have hl := hsl.1
    rcases Nat.eq_zero_or_pos m with h0 | h0
    · subst h0
      exact ⟨rfl, List.eq_nil_of_length_eq_zero (by simpa using hl)⟩
    · have hlt : 0 < news.length := by rw [hl]; exact Nat.mul_pos h0 hpos
      obtain ⟨b, o', hA, _⟩ := hsl.2 0 _ (List.getElem?_eq_getElem hlt)
      cases hA
  cases A with
  | none =>
    obtain ⟨rfl, rfl⟩ := hm0 rfl
    have hrun := run_append_nil_any (P := P) w base t o.type e i size ht hi v n xs hown c
    unfold Oper.wp execOp
    simp only [ho, resolve, invoke, builtin, Sem.run_bind, Sem.run_pure, Result.andThen_ok, List.map_toArray, List.map_cons, List.map_nil, hs, hx, hrun]
    exact h v w (by simpa using hown) (World.grownBy.refl w _)
  | some ad =>
    refine wp_append_own w s x t ho base e i z size bytes ht hi hz hsize hby hzs hpos v n xs hs hown ad m c news hx hsl.1
      (fun j u hu => ?_) h1 h63 hbytes hbase (fun v' w' a1 a2 _ => h v' w' a1 a2)
    obtain ⟨b, o', ha, _, hc⟩ := hsl.2 j u hu
    injection ha with ha
    subst ha
    have ea : (⟨b, o', none⟩ : Addr).add j = ⟨b, o' + j, none⟩ := by
      unfold Addr.add
      split
      · subst_vars; rfl
      · rfl
    rw [ea]
    exact hc
theorem step_appN {ops : Array Oper} {o : Oper} {a : Act} {K : Act → World → Prop} {Q : Exit → Act → World → Prop} {E : Prop} (hgd : o.guard = none) (s x : Operand) (t : TypeId)
    (ho : o.op = .call { callee := .builtin .append, args := #[s, x], argTypes := #[t, t] })
    (base : Nat) (e : TypeId) (i : TypeInfo) (z : Value) (size bytes : Nat) (ht : P.underlying t = some (.slice e)) (hi : P.info? e = some i) (hz : i.zero = some z)
    (hsize : i.size = size) (hby : i.bytes = bytes) (hzs : z.cells.size = size) (hpos : 0 < size)
    (v : Value) (n : Nat) (xs : List Value) (hs : a.eval s = v) (hown : w.ownsRow base e size v n xs)
    (A : Option Addr) (m c : Nat) (news : List Value) (hx : a.eval x = .slice A m c) (hsl : SlN w A m size news) (h1 : ∀ u ∈ news, u.oneCell' = true)
    (h63 : n + m ≤ maxLen) (hbytes : (n + m) * bytes ≤ 140737488355328) (hbase : base ≤ w.heap.size)
    (h : ∀ v' w', w'.ownsRow base e size v' (n + m) (xs ++ news) → w.grownBy w' v.ownBlock → K (a.put o.dst v') w') :
    if Region.wanted o (yielded ops a.tmps) = true then Oper.wp P o a w K Q else E := by
  have hw : Region.wanted o (yielded ops a.tmps) = true := by simp [Region.wanted, hgd]
  rw [if_pos hw]
  exact wp_appN w s x t ho base e i z size bytes ht hi hz hsize hby hzs hpos v n xs hs hown A m c news hx hsl h1 h63 hbytes hbase h
end
theorem own_emptyN (w : World) (e : TypeId) (size : Nat) : (w.alloc (.cells #[] e)).ownsRow w.heap.size e size (.slice (some ⟨w.heap.size, 0, none⟩) 0 0) 0 [] :=
  ⟨by simp, .inr ⟨w.heap.size, 0, #[], rfl, Nat.le_refl _, heap_alloc_new w _, Nat.le_refl _, Nat.zero_le _, by simp, by simp⟩⟩
theorem own_empty2 (w : World) (o : Obj) (e : TypeId) (size : Nat) : ((w.alloc o).alloc (.cells #[] e)).drew.ownsRow w.heap.size e size (.slice (some ⟨w.heap.size + 1, 0, none⟩) 0 0) 0 [] := by
  have h := ((own_emptyN (w.alloc o) e size).drew)
  rw [show (w.alloc o).heap.size = w.heap.size + 1 from by simp] at h
  obtain ⟨h1, h2⟩ := h
  refine ⟨h1, ?_⟩
  rcases h2 with h2 | ⟨g, cap, cur, hv, hb, r⟩
  · exact .inl h2
  · exact .inr ⟨g, cap, cur, hv, by omega, r⟩
theorem slN_at {T : TypeId} {w : World} {g : Nat} {cs : Array Value} {n size : Nat} (h : AtC T w g cs) (hn : cs.size = n * size) : SlN w (some ⟨g, 0, none⟩) n size cs.toList :=
  ⟨by simpa using hn, fun j u hu => ⟨g, 0, rfl, h.lt, by
    rw [Nat.zero_add]
    exact h.cell j u (by simpa using hu)⟩⟩
theorem own_als {w : World} {B : Nat} {e : TypeId} {v : Value} {n : Nat} {l : List (ByteArray × ByteArray)} (h : w.ownsRow B e 2 v n (l.flatMap aliC)) : ∃ A c, v = .slice A n c ∧ Als w A n l := own_slN h
theorem ali_one (l : List (ByteArray × ByteArray)) : ∀ u ∈ l.flatMap aliC, u.oneCell' = true := by
  intro u hu
  obtain ⟨x, _, hx⟩ := List.mem_flatMap.1 hu
  unfold aliC at hx
  simp at hx
  rcases hx with rfl | rfl <;> rfl
end Go.Proofs.YtcfgphhhgemkdaaGreatDoor
