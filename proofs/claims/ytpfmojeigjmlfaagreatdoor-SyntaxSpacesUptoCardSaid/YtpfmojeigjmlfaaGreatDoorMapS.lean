import Derived.Test.YtpfmojeigjmlfaaGreatDoorBase
import Derived.Maps.OwnOps
import Derived.Maps.OwnSet
import Derived.Sort.KeysCollected
import Derived.StringKeys
namespace Go.Proofs.YtpfmojeigjmlfaaGreatDoor
open Go.RowKit Go.Maps Go.Sort Go.WideMaps
set_option linter.unusedSimpArgs false
set_option linter.unusedVariables false

/-! A set of strings, as a map to bools. -/
section
variable {P : Program} {k e t : TypeId} {w w' : World} {b n : Nat} {ks : List (List UInt8)}

theorem plainElem_bool_inv {H : Type} (he : P.underlying e = some .bool) {v : Value} {x : Bool} {ps : List MemPlace} (h : plainElem (H := H) P e v = some (.lit (.bool x), ps)) : v = .bool x := by
  unfold plainElem at h
  rw [he] at h
  cases v <;> simp at h
  rw [h.1]

/-- Block b is a map of at most n entries: the set of the strings ks. -/
def MapS (P : Program) (k e : TypeId) (w : World) (b n : Nat) (ks : List (List UInt8)) : Prop :=
  ∃ D : DataW Unit, w.ownsMap P k (plainElem P e) b n D ∧ (∀ x, D.atKey (.string x) (.lit (.bool false)) = .lit (.bool (decide (x ∈ ks)))) ∧ (∀ x, Maps.has D (.string x) = decide (x ∈ ks))

theorem MapS.lt (h : MapS P k e w b n ks) : b < w.heap.size := by obtain ⟨D, h, _⟩ := h; exact h.lt
theorem MapS.below {B : Nat} (h : MapS P k e w b n ks) (hw : Below B w w') (hb : b < B) : MapS P k e w' b n ks := by
  obtain ⟨D, ⟨es, clock, hh, r⟩, h2⟩ := h
  exact ⟨D, ⟨es, clock, (Below.block hw b hb).trans hh, r⟩, h2⟩
theorem MapS.ext (h : MapS P k e w b n ks) (hw : Ext w w') : MapS P k e w' b n ks := h.below hw h.lt
theorem MapS.kept {row : Option Nat} (h : MapS P k e w b n ks) (hg : w.grownBy w' row) (hne : some b ≠ row) : MapS P k e w' b n ks := by
  obtain ⟨D, h, r⟩ := h
  exact ⟨D, h.kept hg hne, r⟩
theorem MapS.alloc (h : MapS P k e w b n ks) (o : Obj) : MapS P k e (w.alloc o) b n ks := by
  obtain ⟨D, h, r⟩ := h
  exact ⟨D, h.alloc o, r⟩
theorem MapS.setCell (h : MapS P k e w b n ks) {a : Addr} (ha : b ≠ a.block) (u : Value) : MapS P k e (w.setCell a u) b n ks := by
  obtain ⟨D, h, r⟩ := h
  exact ⟨D, h.setCell ha u, r⟩
theorem MapS.mono {m : Nat} (h : MapS P k e w b n ks) (hm : n ≤ m) : MapS P k e w b m ks := by
  obtain ⟨D, h, r⟩ := h
  exact ⟨D, h.mono hm, r⟩
theorem MapS.made (P : Program) (k e : TypeId) (w : World) : MapS P k e (w.alloc (.map #[] 0)) w.heap.size 0 [] :=
  ⟨.map [], World.ownsMap_made w P k _, fun x => by simp [DataW.atKey], fun x => by simp [Maps.has]⟩
theorem MapS.made_le (P : Program) (k e : TypeId) (w : World) (n : Nat) : MapS P k e (w.alloc (.map #[] 0)) w.heap.size n [] := (MapS.made P k e w).mono (Nat.zero_le n)
theorem MapS.same {ks' : List (List UInt8)} (h : MapS P k e w b n ks) (hm : ∀ x, x ∈ ks' ↔ x ∈ ks) : MapS P k e w b n ks' := by
  obtain ⟨D, h, h1, h2⟩ := h
  exact ⟨D, h, fun x => by rw [h1]; simp [hm x], fun x => by rw [h2]; simp [hm x]⟩

theorem MapS.lookup (h : MapS P k e w b n ks) (hk : P.underlying k = some .string) (he : P.underlying e = some .bool) (ht : P.underlying t = some (.map k e)) (hz : (zeroValue e).run P w = .ok (.bool false) w)
    (s : ByteArray) (hs : s.size ≤ maxLen) : (Instr.lookup t (.map (some b)) (.string s) false).run P w = .ok (.bool (decide (s.data.toList ∈ ks))) w := by
  obtain ⟨D, h, h1, _⟩ := h
  obtain ⟨v, ps, hrun, hv⟩ := h.lookup (string_keyed hk) ht hz (plainElem_bool he false) (keyOf_string_mk hk hs)
  rw [h1] at hv
  rw [plainElem_bool_inv he hv] at hrun
  exact hrun
theorem MapS.update (h : MapS P k e w b n ks) (hk : P.underlying k = some .string) (he : P.underlying e = some .bool) (ht : P.underlying t = some (.map k e)) (hn : n < maxLen)
    (s : ByteArray) (hs : s.size ≤ maxLen) : ∃ w', (Instr.mapUpdate t (.map (some b)) (.string s) (.bool true)).run P w = .ok () w' ∧ MapS P k e w' b (n + 1) (ks ++ [s.data.toList]) ∧ w.grownBy w' (some b) := by
  obtain ⟨D, h, h1, h2⟩ := h
  obtain ⟨w', hrun, h3, h4⟩ := h.update (string_keyed hk) ht hn (keyOf_string_mk hk hs) (plainElem_bool he true)
  refine ⟨w', hrun, ⟨_, h3, fun x => ?_, fun x => ?_⟩, h4⟩
  · by_cases hx : x = s.data.toList
    · subst hx
      rw [Maps.atKey_put_same h.isMap (by simp [WideAt.IsKeyLit])]
      simp
    · rw [Maps.atKey_put_other (by simpa using hx), h1]
      simp [hx]
  · by_cases hx : x = s.data.toList
    · subst hx
      rw [Maps.has_put_same h.isMap (by simp [WideAt.IsKeyLit])]
      simp
    · rw [Maps.has_put_other (by simpa using hx), h2]
      simp [hx]
/-- The keys, in whatever order. -/
theorem MapS.keys (h : MapS P k e w b n ks) (hk : P.underlying k = some .string) : ∃ D : DataW Unit, w.ownsMap P k (plainElem P e) b n D ∧ Maps.size D ≤ n ∧ (strKeys D).Nodup ∧ ∀ x, x ∈ strKeys D ↔ x ∈ ks := by
  obtain ⟨D, h, _, h2⟩ := h
  refine ⟨D, h, h.size_le, ?_⟩
  obtain ⟨es, hD, hpw, _⟩ := h.entries (string_keyed hk)
  obtain ⟨es', hD', hko⟩ := h.keysOf
  obtain rfl : es = es' := by rw [hD] at hD'; simpa using hD'
  subst hD
  have hstr : ∀ p ∈ es, ∃ x, p.1 = .string x := fun p hp => by
    obtain ⟨v, hv⟩ := hko p hp
    obtain ⟨x, _, hx, _⟩ := Maps.keyOf_str hk hv
    exact ⟨x, hx⟩
  have hnd : (strKeys (.map es : DataW Unit)).Nodup := by
    show (es.map fun p => strOf p.1).Nodup
    refine List.pairwise_map.2 (hpw.imp_of_mem fun {p q} hp' hq' hne e => hne ?_)
    obtain ⟨a, ha⟩ := hstr p hp'
    obtain ⟨b, hb⟩ := hstr q hq'
    rw [ha, hb] at e ⊢
    exact congrArg _ e
  refine ⟨hnd, fun x => ?_⟩
  have h3 := h2 x
  rw [Maps.has_eq] at h3
  constructor
  · intro hx
    obtain ⟨p, hp, hpx⟩ := List.mem_map.1 (show x ∈ es.map fun p => strOf p.1 from hx)
    obtain ⟨a, ha⟩ := hstr p hp
    have : (es.any fun p => p.1.sameKey (.string x)) = true := List.any_eq_true.2 ⟨p, hp, by rw [ha] at hpx ⊢; simpa [Lit.sameKey, strOf] using hpx⟩
    rw [this] at h3
    simpa using h3.symm
  · intro hx
    have : (es.any fun p => p.1.sameKey (.string x)) = true := by rw [h3]; simpa using hx
    obtain ⟨p, hp, hs⟩ := List.any_eq_true.1 this
    obtain ⟨a, ha⟩ := hstr p hp
    refine List.mem_map.2 ⟨p, hp, ?_⟩
    rw [ha] at hs ⊢
    simpa [Lit.sameKey, strOf] using hs

/-- The operations, for the walk. -/
theorem wpList_lookupS {w : World} {ops : Array Oper} {rest : List Oper} {o : Oper} {a : Act} {Q : Exit → Act → World → Prop} (hg : o.guard = none) (m x : Operand) (t k e : TypeId) (hop : o.op = Op.lookup t m x false)
    (hk : P.underlying k = some .string) (he : P.underlying e = some .bool) (ht : P.underlying t = some (.map k e)) (hz : (zeroValue e).run P w = .ok (.bool false) w) (b n : Nat) (ks : List (List UInt8))
    (hm : a.eval m = .map (some b)) (h : MapS P k e w b n ks) (s : ByteArray) (hx : a.eval x = .string s) (hs : s.size ≤ maxLen)
    (hK : wpList P ops Q rest (a.put o.dst (.bool (decide (s.data.toList ∈ ks)))) w) : wpList P ops Q (o :: rest) a w := by
  refine wpList_plain hg fun K' hK' => ?_
  have hrun := h.lookup hk he ht hz s hs
  generalize decide (s.data.toList ∈ ks) = B at hrun hK
  unfold Oper.wp
  simp [execOp, hop, hm, hx, hrun, Result.andThen]
  exact hK' _ _ hK
theorem wpList_mapUpdateS {w : World} {ops : Array Oper} {rest : List Oper} {o : Oper} {a : Act} {Q : Exit → Act → World → Prop} (hg : o.guard = none) (m x v : Operand) (t k e : TypeId) (hop : o.op = Op.mapUpdate t m x v)
    (hk : P.underlying k = some .string) (he : P.underlying e = some .bool) (ht : P.underlying t = some (.map k e)) (b n : Nat) (ks : List (List UInt8))
    (hm : a.eval m = .map (some b)) (h : MapS P k e w b n ks) (hn : n < maxLen) (s : ByteArray) (hx : a.eval x = .string s) (hv : a.eval v = .bool true) (hs : s.size ≤ maxLen)
    (hK : ∀ w', MapS P k e w' b (n + 1) (ks ++ [s.data.toList]) → w.grownBy w' (some b) → wpList P ops Q rest (a.put o.dst undef) w') : wpList P ops Q (o :: rest) a w := by
  refine wpList_plain hg fun K' hK' => ?_
  obtain ⟨w', hrun, r1, r2⟩ := h.update hk he ht hn s hs
  unfold Oper.wp
  simp [execOp, hop, hm, hx, hv, hrun, Result.andThen]
  exact hK' _ _ (hK w' r1 r2)
end
end Go.Proofs.YtpfmojeigjmlfaaGreatDoor
