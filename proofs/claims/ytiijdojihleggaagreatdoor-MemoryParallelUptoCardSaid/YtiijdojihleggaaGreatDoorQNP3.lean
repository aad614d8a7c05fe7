import Derived.Test.YtiijdojihleggaaGreatDoorQBaseg
import Derived.Test.YtiijdojihleggaaGreatDoorQNPE
import Derived.Maps.OwnOps
import Derived.Maps.OwnSet
import Derived.Sort.KeysCollected
import Derived.StringKeys
set_option maxRecDepth 100000
set_option linter.unusedSimpArgs false
set_option linter.unusedVariables false
namespace Go.Proofs.YtiijdojihleggaaGreatDoor
open Go.RowKit Go.Maps Go.Sort Go.WideMaps
section
variable {P : Program} {k e t : TypeId} {w w' : World} {b n : Nat} {m : List ArgP}
def MapI (P : Program) (k e : TypeId) (w : World) (b n : Nat) (m : List ArgP) : Prop :=
 ∃ D : DataW Unit, w.ownsMap P k (plainElem P e) b n D ∧ (∀ x, D.atKey (.string x) (.lit (.int .i64 0)) = .lit (.int .i64 ((getA m x).getD 0))) ∧ (∀ x, Maps.has D (.string x) = (getA m x).isSome)
theorem MapI.lt (h : MapI P k e w b n m) : b < w.heap.size := by obtain ⟨D, h, _⟩ := h; exact h.lt
theorem MapI.below {B : Nat} (h : MapI P k e w b n m) (hw : Below B w w') (hb : b < B) : MapI P k e w' b n m := by
 obtain ⟨D, ⟨es, clock, hh, r⟩, h2⟩ := h
 exact ⟨D, ⟨es, clock, (Below.block hw b hb).trans hh, r⟩, h2⟩
theorem MapI.ext (h : MapI P k e w b n m) (hw : Ext w w') : MapI P k e w' b n m := h.below hw h.lt
theorem MapI.kept {row : Option Nat} (h : MapI P k e w b n m) (hg : w.grownBy w' row) (hne : some b ≠ row) : MapI P k e w' b n m := by
 obtain ⟨D, h, r⟩ := h
 exact ⟨D, h.kept hg hne, r⟩
theorem MapI.alloc (h : MapI P k e w b n m) (o : Obj) : MapI P k e (w.alloc o) b n m := by
 obtain ⟨D, h, r⟩ := h
 exact ⟨D, h.alloc o, r⟩
theorem MapI.setCell (h : MapI P k e w b n m) {a : Addr} (ha : b ≠ a.block) (u : Value) : MapI P k e (w.setCell a u) b n m := by
 obtain ⟨D, h, r⟩ := h
 exact ⟨D, h.setCell ha u, r⟩
theorem MapI.mono {j : Nat} (h : MapI P k e w b n m) (hm : n ≤ j) : MapI P k e w b j m := by
 obtain ⟨D, h, r⟩ := h
 exact ⟨D, h.mono hm, r⟩
theorem MapI.made (P : Program) (k e : TypeId) (w : World) : MapI P k e (w.alloc (.map #[] 0)) w.heap.size 0 [] :=
 ⟨.map [], World.ownsMap_made w P k _, fun x => by simp [DataW.atKey, getA], fun x => by simp [Maps.has, getA]⟩
theorem MapI.lookup (h : MapI P k e w b n m) (hk : P.underlying k = some .string) (he : P.underlying e = some (.int .i64)) (ht : P.underlying t = some (.map k e)) (hz : (zeroValue e).run P w = .ok (.int .i64 0) w)
 (s : ByteArray) (hs : s.size ≤ maxLen) : (Instr.lookup t (.map (some b)) (.string s) false).run P w = .ok (.int .i64 ((getA m s.data.toList).getD 0)) w := by
 obtain ⟨D, h, h1, _⟩ := h
 obtain ⟨c, hrun, hat, _⟩ := h.lookup_int (string_keyed hk) ht he hz (keyOf_string_mk hk hs)
 rw [h1] at hat
 injection hat with hat
 injection hat with _ hat
 rw [hat]
 exact hrun
theorem MapI.update (h : MapI P k e w b n m) (hk : P.underlying k = some .string) (he : P.underlying e = some (.int .i64)) (ht : P.underlying t = some (.map k e)) (hn : n < maxLen)
 (s : ByteArray) (hs : s.size ≤ maxLen) (c : Int) (hc : (Lit.int .i64 c).wf = true) : ∃ w', (Instr.mapUpdate t (.map (some b)) (.string s) (.int .i64 c)).run P w = .ok () w' ∧ MapI P k e w' b (n + 1) ((s.data.toList, c) :: m) ∧ w.grownBy w' (some b) := by
 obtain ⟨D, h, h1, h2⟩ := h
 obtain ⟨w', hrun, h3, h4⟩ := h.update (string_keyed hk) ht hn (keyOf_string_mk hk hs) (plainElem_int he hc)
 refine ⟨w', hrun, ⟨_, h3, fun x => ?_, fun x => ?_⟩, h4⟩
 ·by_cases hx : x = s.data.toList
  ·subst hx
   rw [Maps.atKey_put_same h.isMap (by simp [WideAt.IsKeyLit])]
   simp [getA]
  ·rw [Maps.atKey_put_other (by simpa using hx), h1]
   rw [getA, if_neg fun q => hx q.symm]
 ·by_cases hx : x = s.data.toList
  ·subst hx
   rw [Maps.has_put_same h.isMap (by simp [WideAt.IsKeyLit])]
   simp [getA]
  ·rw [Maps.has_put_other (by simpa using hx), h2]
   rw [getA, if_neg fun q => hx q.symm]
theorem MapI.keys (h : MapI P k e w b n m) (hk : P.underlying k = some .string) : ∃ D : DataW Unit, w.ownsMap P k (plainElem P e) b n D ∧ Maps.size D ≤ n ∧ (strKeys D).Nodup ∧ (strKeys D).length = Maps.size D ∧ ∀ x, x ∈ strKeys D ↔ (getA m x).isSome = true := by
 obtain ⟨D, h, _, h2⟩ := h
 refine ⟨D, h, h.size_le, ?_⟩
 obtain ⟨es, hD, hpw, _⟩ := h.entries (string_keyed hk)
 obtain ⟨es', hD', hko⟩ := h.keysOf
 obtain rfl : es = es' := by rw [hD] at hD'; simpa using hD'
 subst hD
 have hstr : ∀ p ∈ es, ∃ x, p.1 = .string x := fun p hp => by
  obtain ⟨v, hv⟩ := hko p hp
  obtain ⟨x, _, hx, _⟩ := Maps.keyOf_str hk hv
  exact ⟨x, hx⟩
 have hnd : (strKeys (.map es : DataW Unit)).Nodup := by
  show (es.map fun p => strOf p.1).Nodup
  refine List.pairwise_map.2 (hpw.imp_of_mem fun {p q} hp' hq' hne e => hne ?_)
  obtain ⟨a, ha⟩ := hstr p hp'
  obtain ⟨b, hb⟩ := hstr q hq'
  rw [ha, hb] at e ⊢
  exact congrArg _ e
 refine ⟨hnd, by show (es.map fun p => strOf p.1).length = es.length; simp, fun x => ?_⟩
 have h3 := h2 x
 rw [Maps.has_eq] at h3
 constructor
 ·intro hx
  obtain ⟨p, hp, hpx⟩ := List.mem_map.1 (show x ∈ es.map fun p => strOf p.1 from hx)
  obtain ⟨a, ha⟩ := hstr p hp
  have : (es.any fun p => p.1.sameKey (.string x)) = true := List.any_eq_true.2 ⟨p, hp, by rw [ha] at hpx ⊢; simpa [Lit.sameKey, strOf] using hpx⟩
  rw [this] at h3
  exact h3.symm
 ·intro hx
  have : (es.any fun p => p.1.sameKey (.string x)) = true := by rw [h3]; exact hx
  obtain ⟨p, hp, hs⟩ := List.any_eq_true.1 this
  obtain ⟨a, ha⟩ := hstr p hp
  refine List.mem_map.2 ⟨p, hp, ?_⟩
  rw [ha] at hs ⊢
  simpa [Lit.sameKey, strOf] using hs
theorem wpList_lookupI {w : World} {ops : Array Oper} {rest : List Oper} {o : Oper} {a : Act} {Q : Exit → Act → World → Prop} (hg : o.guard = none) (m x : Operand) (t k e : TypeId) (hop : o.op = Op.lookup t m x false)
 (hk : P.underlying k = some .string) (he : P.underlying e = some (.int .i64)) (ht : P.underlying t = some (.map k e)) (hz : (zeroValue e).run P w = .ok (.int .i64 0) w) (b n : Nat) (l : List ArgP)
 (hm : a.eval m = .map (some b)) (h : MapI P k e w b n l) (s : ByteArray) (hx : a.eval x = .string s) (hs : s.size ≤ maxLen)
 (hK : wpList P ops Q rest (a.put o.dst (.int .i64 ((getA l s.data.toList).getD 0))) w) : wpList P ops Q (o :: rest) a w := by
 refine wpList_plain hg fun K' hK' => ?_
 have hrun := h.lookup hk he ht hz s hs
 generalize (getA l s.data.toList).getD 0 = B at hrun hK
 unfold Oper.wp
 simp [execOp, hop, hm, hx, hrun, Result.andThen]
 exact hK' _ _ hK
end
end Go.Proofs.YtiijdojihleggaaGreatDoor
