import Derived.Test.YtpfmojeigjmlfaaDoorTk
import Derived.Lib.Replace
import Derived.Lib.SlicesCompact
import Derived.Lib.Join
import Derived.Test.YtpfmojeigjmlfaaDoorBase
import Derived.Test.YtpfmojeigjmlfaaDoorNPE
import Derived.Maps.OwnOps
import Derived.Maps.OwnSet
import Derived.Sort.KeysCollected
import Derived.StringKeys
namespace Go.Proofs.YtpfmojeigjmlfaaDoor
set_option linter.unusedSimpArgs false
set_option linter.unusedVariables false

/-! Sorted names. -/
def sortS (l : List (List UInt8)) : List (List UInt8) := l.mergeSort fun x y => decide (x ≤ y)
abbrev Srt (l : List (List UInt8)) : Prop := l.Pairwise fun x y => x ≤ y
theorem le_tot (a b : List UInt8) : a ≤ b ∨ b ≤ a := List.le_total a b
theorem le_tr (a b c : List UInt8) (h : a ≤ b) (k : b ≤ c) : a ≤ c := List.le_trans h k
theorem le_as (a b : List UInt8) (h : a ≤ b) (k : b ≤ a) : a = b := List.le_antisymm h k
theorem lt_le {a b : List UInt8} (h : a < b) : a ≤ b := fun h2 => List.lt_irrefl a (List.lt_trans h h2)
theorem sortS_perm (l : List (List UInt8)) : (sortS l).Perm l := List.mergeSort_perm _ _
theorem sortS_srt (l : List (List UInt8)) : Srt (sortS l) := by
  have h := List.pairwise_mergeSort (le := fun x y : List UInt8 => decide (x ≤ y)) (fun a b c h1 h2 => by simp only [decide_eq_true_eq] at *; exact le_tr a b c h1 h2) (fun a b => by
    rcases le_tot a b with h | h <;> simp [h]) l
  exact h.imp (fun h => by simpa using h)
theorem srt_unique {a b : List (List UInt8)} (ha : Srt a) (hb : Srt b) (hp : a.Perm b) : a = b :=
  List.Perm.eq_of_pairwise (fun x y _ _ h1 h2 => le_as x y h1 h2) ha hb hp
theorem sortS_of {l a : List (List UInt8)} (ha : Srt a) (hp : a.Perm l) : sortS l = a :=
  srt_unique (sortS_srt l) ha ((sortS_perm l).trans hp.symm)
theorem sortS_len (l : List (List UInt8)) : (sortS l).length = l.length := (sortS_perm l).length_eq
end Go.Proofs.YtpfmojeigjmlfaaDoor
namespace Go.Proofs.YtpfmojeigjmlfaaDoor
open Go.RowKit Go.Maps Go.Sort Go.WideMaps
set_option linter.unusedSimpArgs false
set_option linter.unusedVariables false

/-! A map from strings to numbers. -/
section
variable {P : Program} {k e t : TypeId} {w w' : World} {b n : Nat} {m : List ArgP}

/-- Block b is a map of at most n entries: it answers as the list m, where what stands ahead counts. -/
def MapI (P : Program) (k e : TypeId) (w : World) (b n : Nat) (m : List ArgP) : Prop :=
  ∃ D : DataW Unit, w.ownsMap P k (plainElem P e) b n D ∧ (∀ x, D.atKey (.string x) (.lit (.int .i64 0)) = .lit (.int .i64 ((getA m x).getD 0))) ∧ (∀ x, Maps.has D (.string x) = (getA m x).isSome)

theorem MapI.lt (h : MapI P k e w b n m) : b < w.heap.size := by obtain ⟨D, h, _⟩ := h; exact h.lt
theorem MapI.below {B : Nat} (h : MapI P k e w b n m) (hw : Below B w w') (hb : b < B) : MapI P k e w' b n m := by
  obtain ⟨D, ⟨es, clock, hh, r⟩, h2⟩ := h
  exact ⟨D, ⟨es, clock, (Below.block hw b hb).trans hh, r⟩, h2⟩
theorem MapI.ext (h : MapI P k e w b n m) (hw : Ext w w') : MapI P k e w' b n m := h.below hw h.lt
theorem MapI.kept {row : Option Nat} (h : MapI P k e w b n m) (hg : w.grownBy w' row) (hne : some b ≠ row) : MapI P k e w' b n m := by
  obtain ⟨D, h, r⟩ := h
  exact ⟨D, h.kept hg hne, r⟩
theorem MapI.alloc (h : MapI P k e w b n m) (o : Obj) : MapI P k e (w.alloc o) b n m := by
  obtain ⟨D, h, r⟩ := h
  exact ⟨D, h.alloc o, r⟩
theorem MapI.setCell (h : MapI P k e w b n m) {a : Addr} (ha : b ≠ a.block) (u : Value) : MapI P k e (w.setCell a u) b n m := by
  obtain ⟨D, h, r⟩ := h
  exact ⟨D, h.setCell ha u, r⟩
theorem MapI.mono {j : Nat} (h : MapI P k e w b n m) (hm : n ≤ j) : MapI P k e w b j m := by
  obtain ⟨D, h, r⟩ := h
  exact ⟨D, h.mono hm, r⟩
theorem MapI.made (P : Program) (k e : TypeId) (w : World) : MapI P k e (w.alloc (.map #[] 0)) w.heap.size 0 [] :=
  ⟨.map [], World.ownsMap_made w P k _, fun x => by simp [DataW.atKey, getA], fun x => by simp [Maps.has, getA]⟩
theorem MapI.lookup (h : MapI P k e w b n m) (hk : P.underlying k = some .string) (he : P.underlying e = some (.int .i64)) (ht : P.underlying t = some (.map k e)) (hz : (zeroValue e).run P w = .ok (.int .i64 0) w)
    (s : ByteArray) (hs : s.size ≤ maxLen) : (Instr.lookup t (.map (some b)) (.string s) false).run P w = .ok (.int .i64 ((getA m s.data.toList).getD 0)) w := by
  obtain ⟨D, h, h1, _⟩ := h
  obtain ⟨c, hrun, hat, _⟩ := h.lookup_int (string_keyed hk) ht he hz (keyOf_string_mk hk hs)
  rw [h1] at hat
  injection hat with hat
  injection hat with _ hat
  rw [hat]
  exact hrun
theorem MapI.lookup_ok (h : MapI P k e w b n m) (hk : P.underlying k = some .string) (he : P.underlying e = some (.int .i64)) (ht : P.underlying t = some (.map k e)) (hz : (zeroValue e).run P w = .ok (.int .i64 0) w)
    (s : ByteArray) (hs : s.size ≤ maxLen) : (Instr.lookup t (.map (some b)) (.string s) true).run P w = .ok (.tuple #[.int .i64 ((getA m s.data.toList).getD 0), .bool (getA m s.data.toList).isSome]) w := by
  obtain ⟨D, h, h1, h2⟩ := h
  obtain ⟨v, ps, hrun, hv⟩ := h.look_ok (string_keyed hk) ht hz (plainElem_int he (by decide)) (keyOf_string_mk hk hs)
  rw [h1] at hv
  obtain ⟨c, rfl, hc, _⟩ := plainElem_int_inv he hv
  injection hc with hc _
  injection hc with hc
  injection hc with _ hc
  rw [← hc, h2] at hrun
  exact hrun
theorem MapI.update (h : MapI P k e w b n m) (hk : P.underlying k = some .string) (he : P.underlying e = some (.int .i64)) (ht : P.underlying t = some (.map k e)) (hn : n < maxLen)
    (s : ByteArray) (hs : s.size ≤ maxLen) (c : Int) (hc : (Lit.int .i64 c).wf = true) : ∃ w', (Instr.mapUpdate t (.map (some b)) (.string s) (.int .i64 c)).run P w = .ok () w' ∧ MapI P k e w' b (n + 1) ((s.data.toList, c) :: m) ∧ w.grownBy w' (some b) := by
  obtain ⟨D, h, h1, h2⟩ := h
  obtain ⟨w', hrun, h3, h4⟩ := h.update (string_keyed hk) ht hn (keyOf_string_mk hk hs) (plainElem_int he hc)
  refine ⟨w', hrun, ⟨_, h3, fun x => ?_, fun x => ?_⟩, h4⟩
  · by_cases hx : x = s.data.toList
    · subst hx
      rw [Maps.atKey_put_same h.isMap (by simp [WideAt.IsKeyLit])]
      simp [getA]
    · rw [Maps.atKey_put_other (by simpa using hx), h1]
      rw [getA, if_neg fun q => hx q.symm]
  · by_cases hx : x = s.data.toList
    · subst hx
      rw [Maps.has_put_same h.isMap (by simp [WideAt.IsKeyLit])]
      simp [getA]
    · rw [Maps.has_put_other (by simpa using hx), h2]
      rw [getA, if_neg fun q => hx q.symm]
/-- The keys, in whatever order. -/
theorem MapI.keys (h : MapI P k e w b n m) (hk : P.underlying k = some .string) : ∃ D : DataW Unit, w.ownsMap P k (plainElem P e) b n D ∧ Maps.size D ≤ n ∧ (strKeys D).Nodup ∧ (strKeys D).length = Maps.size D ∧ ∀ x, x ∈ strKeys D ↔ (getA m x).isSome = true := by
  obtain ⟨D, h, _, h2⟩ := h
  refine ⟨D, h, h.size_le, ?_⟩
  obtain ⟨es, hD, hpw, _⟩ := h.entries (string_keyed hk)
  obtain ⟨es', hD', hko⟩ := h.keysOf
  obtain rfl : es = es' := by rw [hD] at hD'; simpa using hD'
  subst hD
  have hstr : ∀ p ∈ es, ∃ x, p.1 = .string x := fun p hp => by
    obtain ⟨v, hv⟩ := hko p hp
    obtain ⟨x, _, hx, _⟩ := Maps.keyOf_str hk hv
    exact ⟨x, hx⟩
  have hnd : (strKeys (.map es : DataW Unit)).Nodup := by
    show (es.map fun p => strOf p.1).Nodup
    refine List.pairwise_map.2 (hpw.imp_of_mem fun {p q} hp' hq' hne e => hne ?_)
    obtain ⟨a, ha⟩ := hstr p hp'
    obtain ⟨b, hb⟩ := hstr q hq'
    rw [ha, hb] at e ⊢
    exact congrArg _ e
  refine ⟨hnd, by show (es.map fun p => strOf p.1).length = es.length; simp, fun x => ?_⟩
  have h3 := h2 x
  rw [Maps.has_eq] at h3
  constructor
  · intro hx
    obtain ⟨p, hp, hpx⟩ := List.mem_map.1 (show x ∈ es.map fun p => strOf p.1 from hx)
    obtain ⟨a, ha⟩ := hstr p hp
    have : (es.any fun p => p.1.sameKey (.string x)) = true := List.any_eq_true.2 ⟨p, hp, by rw [ha] at hpx ⊢; simpa [Lit.sameKey, strOf] using hpx⟩
    rw [this] at h3
    exact h3.symm
  · intro hx
    have : (es.any fun p => p.1.sameKey (.string x)) = true := by rw [h3]; exact hx
    obtain ⟨p, hp, hs⟩ := List.any_eq_true.1 this
    obtain ⟨a, ha⟩ := hstr p hp
    refine List.mem_map.2 ⟨p, hp, ?_⟩
    rw [ha] at hs ⊢
    simpa [Lit.sameKey, strOf] using hs

/-- The operations, for the walk. -/
theorem wpList_lookupI {w : World} {ops : Array Oper} {rest : List Oper} {o : Oper} {a : Act} {Q : Exit → Act → World → Prop} (hg : o.guard = none) (m x : Operand) (t k e : TypeId) (hop : o.op = Op.lookup t m x false)
    (hk : P.underlying k = some .string) (he : P.underlying e = some (.int .i64)) (ht : P.underlying t = some (.map k e)) (hz : (zeroValue e).run P w = .ok (.int .i64 0) w) (b n : Nat) (l : List ArgP)
    (hm : a.eval m = .map (some b)) (h : MapI P k e w b n l) (s : ByteArray) (hx : a.eval x = .string s) (hs : s.size ≤ maxLen)
    (hK : wpList P ops Q rest (a.put o.dst (.int .i64 ((getA l s.data.toList).getD 0))) w) : wpList P ops Q (o :: rest) a w := by
  refine wpList_plain hg fun K' hK' => ?_
  have hrun := h.lookup hk he ht hz s hs
  generalize (getA l s.data.toList).getD 0 = B at hrun hK
  unfold Oper.wp
  simp [execOp, hop, hm, hx, hrun, Result.andThen]
  exact hK' _ _ hK
theorem wpList_lookupIok {w : World} {ops : Array Oper} {rest : List Oper} {o : Oper} {a : Act} {Q : Exit → Act → World → Prop} (hg : o.guard = none) (m x : Operand) (t k e : TypeId) (hop : o.op = Op.lookup t m x true)
    (hk : P.underlying k = some .string) (he : P.underlying e = some (.int .i64)) (ht : P.underlying t = some (.map k e)) (hz : (zeroValue e).run P w = .ok (.int .i64 0) w) (b n : Nat) (l : List ArgP)
    (hm : a.eval m = .map (some b)) (h : MapI P k e w b n l) (s : ByteArray) (hx : a.eval x = .string s) (hs : s.size ≤ maxLen) (c : Int) (f : Bool) (hc : (getA l s.data.toList).getD 0 = c) (hf : (getA l s.data.toList).isSome = f)
    (hK : wpList P ops Q rest (a.put o.dst (.tuple #[.int .i64 c, .bool f])) w) : wpList P ops Q (o :: rest) a w := by
  refine wpList_plain hg fun K' hK' => ?_
  have hrun := h.lookup_ok hk he ht hz s hs
  rw [hc, hf] at hrun
  unfold Oper.wp
  simp [execOp, hop, hm, hx, hrun, Result.andThen]
  exact hK' _ _ hK
theorem wpList_mapUpdateI {w : World} {ops : Array Oper} {rest : List Oper} {o : Oper} {a : Act} {Q : Exit → Act → World → Prop} (hg : o.guard = none) (m x v : Operand) (t k e : TypeId) (hop : o.op = Op.mapUpdate t m x v)
    (hk : P.underlying k = some .string) (he : P.underlying e = some (.int .i64)) (ht : P.underlying t = some (.map k e)) (b n : Nat) (l : List ArgP)
    (hm : a.eval m = .map (some b)) (h : MapI P k e w b n l) (hn : n < maxLen) (s : ByteArray) (hx : a.eval x = .string s) (c : Int) (hv : a.eval v = .int .i64 c) (hs : s.size ≤ maxLen) (hc : (Lit.int .i64 c).wf = true)
    (hK : ∀ w', MapI P k e w' b (n + 1) ((s.data.toList, c) :: l) → w.grownBy w' (some b) → wpList P ops Q rest (a.put o.dst undef) w') : wpList P ops Q (o :: rest) a w := by
  refine wpList_plain hg fun K' hK' => ?_
  obtain ⟨w', hrun, r1, r2⟩ := h.update hk he ht hn s hs c hc
  unfold Oper.wp
  simp [execOp, hop, hm, hx, hv, hrun, Result.andThen]
  exact hK' _ _ (hK w' r1 r2)
end

/-! The table of a signature: what adding a use does, in plain words. -/
structure TabP where
  m : List ArgP
  wrong : Bool
def addT (t : TabP) (x : ArgP) : TabP := match getA t.m x.1 with
  | none => ⟨x :: t.m, t.wrong⟩
  | some s => ⟨(x.1, (comA s x.2).1) :: t.m, t.wrong || !(comA s x.2).2⟩
end Go.Proofs.YtpfmojeigjmlfaaDoor
namespace Go.Proofs.YtpfmojeigjmlfaaDoor
set_option linter.unusedSimpArgs false
set_option linter.unusedVariables false

/-! The table of a signature and the sorted list. -/
theorem fold_app : ∀ (a b o : List ArgP), foldA o (a ++ b) = (foldA o a).bind fun p => foldA p b
  | [], b, o => rfl
  | x :: r, b, o => by
    show (if (putA o x).2 = true then foldA (putA o x).1 (r ++ b) else none) = ((if (putA o x).2 = true then foldA (putA o x).1 r else none).bind _)
    by_cases h : (putA o x).2 = true
    · rw [if_pos h, if_pos h]; exact fold_app r b _
    · rw [if_neg h, if_neg h]; rfl
theorem fold_self {a : List ArgP} (ha : a.Pairwise fun x y => x.1 < y.1) : foldA [] a = some a := by
  obtain ⟨o, e1, e2, e3⟩ := (fold_spec (a := []) (by simp) ha).1 (fun n s t hs _ => by simp [getA] at hs)
  rw [e1]
  congr 1
  refine asc_ext e2 ha fun n => ?_
  rw [e3]
  cases hg : getA a n <;> simp [getA, joinO, hg]
theorem add_wrong {t : TabP} {x : ArgP} (h : t.wrong = true) : (addT t x).wrong = true := by
  unfold addT
  cases getA t.m x.1 with
  | none => exact h
  | some s => simp [h]
theorem adds_wrong : ∀ (l : List ArgP) {t : TabP}, t.wrong = true → (l.foldl addT t).wrong = true
  | [], _, h => h
  | x :: r, t, h => adds_wrong r (add_wrong h)
/-- What the table and the sorted list have in common. -/
def TabO (t : TabP) (o : List ArgP) : Prop := (o.Pairwise fun x y => x.1 < y.1) ∧ (∀ n, getA t.m n = getA o n) ∧ t.wrong = false
theorem tab_step {t : TabP} {o : List ArgP} (h : TabO t o) (x : ArgP) : ((putA o x).2 = true → TabO (addT t x) (putA o x).1) ∧ ((putA o x).2 = false → (addT t x).wrong = true) := by
  obtain ⟨ha, hg, hw⟩ := h
  have hok := put_ok ha x
  unfold addT
  cases hx : getA t.m x.1 with
  | none =>
    have ho : getA o x.1 = none := by rw [← hg]; exact hx
    refine ⟨fun _ => ⟨put_asc ha x, fun n => ?_, hw⟩, fun h => ?_⟩
    · rw [put_get ha]
      show (if x.1 = n then some x.2 else getA t.m n) = _
      by_cases e : x.1 = n
      · subst e; rw [if_pos rfl, if_pos rfl, ho]; rfl
      · rw [if_neg e, if_neg e]; exact hg n
    · rw [hok.2 fun s hs => by rw [ho] at hs; cases hs] at h
      cases h
  | some s =>
    have ho : getA o x.1 = some s := by rw [← hg]; exact hx
    refine ⟨fun h => ⟨put_asc ha x, fun n => ?_, ?_⟩, fun h => ?_⟩
    · rw [put_get ha]
      show (if x.1 = n then some (comA s x.2).1 else getA t.m n) = _
      by_cases e : x.1 = n
      · subst e; rw [if_pos rfl, if_pos rfl, ho]; rfl
      · rw [if_neg e, if_neg e]; exact hg n
    · show (t.wrong || !(comA s x.2).2) = false
      rw [hw, hok.1 h s ho]; rfl
    · show (t.wrong || !(comA s x.2).2) = true
      rw [hw]
      cases hc : (comA s x.2).2 with
      | false => rfl
      | true =>
        rw [hok.2 fun u hu => by rw [ho] at hu; injection hu with hu; rw [← hu]; exact hc] at h
        cases h
theorem tab_fold : ∀ (l : List ArgP) {t : TabP} {o : List ArgP}, TabO t o → (∀ p, foldA o l = some p → TabO (l.foldl addT t) p) ∧ (foldA o l = none → (l.foldl addT t).wrong = true)
  | [], t, o, h => ⟨fun p hp => by simp only [foldA] at hp; injection hp with hp; subst hp; exact h, fun hp => by cases hp⟩
  | x :: r, t, o, h => by
    obtain ⟨h1, h2⟩ := tab_step h x
    show (∀ p, (if (putA o x).2 = true then foldA (putA o x).1 r else none) = some p → _) ∧ ((if (putA o x).2 = true then foldA (putA o x).1 r else none) = none → _)
    cases hp : (putA o x).2 with
    | true =>
      obtain ⟨i1, i2⟩ := tab_fold r (h1 hp)
      exact ⟨fun p q => i1 p (by simpa using q), fun q => i2 (by simpa using q)⟩
    | false => exact ⟨fun p q => by simp at q, fun _ => adds_wrong r (h2 hp)⟩
theorem tab_start : TabO ⟨[], false⟩ [] := ⟨by simp, fun n => rfl, rfl⟩
/-- What a merge is, by the table. -/
theorem merge_tab {a b : List ArgP} (ha : validA a = true) (hb : validA b = true) :
    (((a ++ b).foldl addT ⟨[], false⟩).wrong = true → mergeA a b = ([], 11)) ∧
    (((a ++ b).foldl addT ⟨[], false⟩).wrong = false → ∃ o, TabO ((a ++ b).foldl addT ⟨[], false⟩) o ∧ mergeA a b = if o.length ≤ 20 then (o, 0) else ([], 6)) := by
  obtain ⟨h1, h2⟩ := tab_fold (a ++ b) tab_start
  rw [fold_app, fold_self (sig_ok ha).2.1] at h1 h2
  simp only [Option.bind_some] at h1 h2
  unfold mergeA
  rw [if_pos (by rw [ha, hb]; rfl)]
  cases hf : foldA a b with
  | none =>
    have := h2 hf
    exact ⟨fun _ => rfl, fun h => by rw [this] at h; cases h⟩
  | some o =>
    have := h1 o hf
    exact ⟨fun h => (by rw [this.2.2] at h; cases h), fun _ => ⟨o, this, rfl⟩⟩
/-- The names of a list in their order are the sorted keys. -/
theorem names_sort {o : List ArgP} {ss : List By} (ha : o.Pairwise fun x y => x.1 < y.1) (hn : ss.Nodup) (hm : ∀ x, x ∈ ss ↔ (getA o x).isSome = true) : sortS ss = o.map (·.1) := by
  have hp : (o.map (·.1)).Pairwise (· < ·) := List.pairwise_map.2 ha
  have hnd : (o.map (·.1)).Nodup := hp.imp fun {a b} h e => by subst e; exact by_irr _ h
  refine sortS_of (hp.imp lt_le) ?_
  refine (List.perm_ext_iff_of_nodup hnd hn).2 fun x => ?_
  rw [hm, List.mem_map]
  constructor
  · rintro ⟨y, hy, rfl⟩
    rw [mem_get ha hy]; rfl
  · intro h
    cases hg : getA o x with
    | none => rw [hg] at h; cases h
    | some t => exact ⟨_, get_mem hg, rfl⟩
theorem names_len {o : List ArgP} {ss : List By} (ha : o.Pairwise fun x y => x.1 < y.1) (hn : ss.Nodup) (hm : ∀ x, x ∈ ss ↔ (getA o x).isSome = true) : ss.length = o.length := by
  have h := congrArg List.length (names_sort ha hn hm)
  rw [sortS_len, List.length_map] at h
  exact h
end Go.Proofs.YtpfmojeigjmlfaaDoor
