import Derived.Test.YtgjfjibaoehmpaaBase
namespace Go.Proofs.Ytgjfjibaoehmpaa
open Go.RowKit

theorem own_ext {w w' : World} {B : Nat} {e : TypeId} {size : Nat} {v : Value} {n : Nat} {xs : List Value} (h : w.ownsRow B e size v n xs) (hw : Ext w w') : w'.ownsRow B e size v n xs := by
  obtain ⟨h1, h2⟩ := h
  refine ⟨h1, ?_⟩
  rcases h2 with h2 | ⟨g, cap, cur, hv, hb, hg, r⟩
  · exact .inl h2
  · exact .inr ⟨g, cap, cur, hv, hb, (Below.block hw g (Array.getElem?_eq_some_iff.1 hg).1).trans hg, r⟩

/-- Strings are one cell each. -/
theorem strv_one (l : List (List UInt8)) : ∀ u ∈ l.map strv, u.oneCell' = true := by
  intro u hu
  obtain ⟨x, _, rfl⟩ := List.mem_map.1 hu
  rfl
theorem string_one (l : List ByteArray) : ∀ u ∈ l.map Value.string, u.oneCell' = true := by
  intro u hu
  obtain ⟨x, _, rfl⟩ := List.mem_map.1 hu
  rfl

/-- The empty slice that a literal makes. -/
theorem own_empty (w : World) (e : TypeId) : (w.alloc (.cells #[] e)).ownsRow w.heap.size e 1 (.slice (some ⟨w.heap.size, 0, none⟩) 0 0) 0 [] :=
  World.ownsRow_made w #[] 0 (Nat.le_refl _) (Nat.zero_le _) rfl

theorem ext_grown {a w w' : World} {B : Nat} {e : TypeId} {size n : Nat} {v : Value} {xs : List Value} (h : Ext a w) (ho : w.ownsRow B e size v n xs) (hB : a.heap.size ≤ B) (hg : w.grownBy w' v.ownBlock) : Ext a w' :=
  h.grown hg (fun k hk => Nat.le_trans hB (own_lt ho k hk))

theorem own_sl' {w : World} {B : Nat} {e : TypeId} {A : Option Addr} {m c n : Nat} {xs : List Value} (h : w.ownsRow B e 1 (.slice A m c) n xs) : m = n ∧ Sl w A n xs := by
  obtain ⟨A', c', hv, hs, _⟩ := own_sl h
  injection hv with h1 h2 h3
  subst h1; subst h2
  exact ⟨rfl, hs⟩

end Go.Proofs.Ytgjfjibaoehmpaa
