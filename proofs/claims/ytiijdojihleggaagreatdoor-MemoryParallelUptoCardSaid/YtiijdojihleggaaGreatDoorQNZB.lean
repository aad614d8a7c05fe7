import Derived.Test.YtiijdojihleggaaGreatDoorQNB1
import Derived.Test.YtiijdojihleggaaGreatDoorQNZA
import Derived.Test.YtiijdojihleggaaGreatDoorQBaseg
import Derived.OrdersHeld
import Derived.Deep.RegionHeld3
set_option maxRecDepth 100000
set_option linter.unusedSimpArgs false
set_option linter.unusedVariables false
open Go.Lib (hid)
namespace Go.Proofs.YtiijdojihleggaaGreatDoor
open Go.RowKit Go.Maps Go.Sort Go.WideMaps
def valR (v : Value) : Option (DataW Value × List MemPlace) := some (.held v, [])
def nilV : Value := .slice none 0 0
section
variable {P : Program} {k e t : TypeId} {w w' : World} {b n : Nat} {f : ByteArray → Value}
def MapV (P : Program) (k : TypeId) (w : World) (b n : Nat) (f : ByteArray → Value) : Prop :=
 ∃ D : DataW Value, w.ownsMap P k valR b n D ∧ ∀ x : ByteArray, D.atKey (.string x.data.toList) (.held nilV) = .held (f x)
theorem MapV.lt (h : MapV P k w b n f) : b < w.heap.size := by obtain ⟨D, h, _⟩ := h; exact h.lt
theorem MapV.of (h : MapV P k w b n f) (hb : w'.heap[b]? = w.heap[b]?) : MapV P k w' b n f := by
 obtain ⟨D, ⟨es, clock, hh, r⟩, h2⟩ := h
 exact ⟨D, ⟨es, clock, hb.trans hh, r⟩, h2⟩
theorem MapV.isMap (h : MapV P k w b n f) : ∃ es clock, w.heap[b]? = some (.map es clock) := by
 obtain ⟨D, ⟨es, clock, hh, r⟩, h2⟩ := h
 exact ⟨es, clock, hh⟩
theorem MapV.mono {m : Nat} (h : MapV P k w b n f) (hm : n ≤ m) : MapV P k w b m f := by
 obtain ⟨D, h, r⟩ := h
 exact ⟨D, h.mono hm, r⟩
theorem MapV.made (P : Program) (k : TypeId) (w : World) : MapV P k (w.alloc (.map #[] 0)) w.heap.size 0 (fun _ => nilV) :=
 ⟨.map [], World.ownsMap_made w P k _, fun x => by simp [DataW.atKey]⟩
theorem byte_ext {x y : ByteArray} (h : x.data.toList = y.data.toList) : x = y := ByteArray.ext (Array.toList_inj.mp h)
theorem MapV.lookup (h : MapV P k w b n f) (hk : P.underlying k = some .string) (ht : P.underlying t = some (.map k e)) (hz : (zeroValue e).run P w = .ok nilV w)
 (s : ByteArray) (hs : s.size ≤ maxLen) : (Instr.lookup t (.map (some b)) (.string s) false).run P w = .ok (f s) w := by
 obtain ⟨D, h, h1⟩ := h
 obtain ⟨v, ps, hrun, hv⟩ := h.lookup (string_keyed hk) ht hz (show valR nilV = some (.held nilV, []) from rfl) (keyOf_string_mk hk hs)
 rw [h1] at hv
 unfold valR at hv
 injection hv with hv
 injection hv with hv _
 injection hv with hv
 rw [hrun, hv]
theorem MapV.update (h : MapV P k w b n f) (hk : P.underlying k = some .string) (ht : P.underlying t = some (.map k e)) (hn : n < maxLen)
 (s : ByteArray) (hs : s.size ≤ maxLen) (v : Value) : ∃ w', (Instr.mapUpdate t (.map (some b)) (.string s) v).run P w = .ok () w' ∧ MapV P k w' b (n + 1) (fun x => if x = s then v else f x) ∧ w.grownBy w' (some b) := by
 obtain ⟨D, h, h1⟩ := h
 obtain ⟨w', hrun, h3, h4⟩ := h.update (string_keyed hk) ht hn (keyOf_string_mk hk hs) (show valR v = some (.held v, []) from rfl)
 refine ⟨w', hrun, ⟨_, h3, fun x => ?_⟩, h4⟩
 by_cases hx : x = s
 ·subst hx
  rw [Maps.atKey_put_same h.isMap (by simp [WideAt.IsKeyLit])]; simp
 ·rw [Maps.atKey_put_other (by simpa using fun e => hx (byte_ext e)), h1]; simp [hx]
theorem wpList_lookupV {w : World} {ops : Array Oper} {rest : List Oper} {o : Oper} {a : Act} {Q : Exit → Act → World → Prop} (hg : o.guard = none) (m x : Operand) (t k e : TypeId) (hop : o.op = Op.lookup t m x false)
 (hk : P.underlying k = some .string) (ht : P.underlying t = some (.map k e)) (hz : (zeroValue e).run P w = .ok nilV w) (b n : Nat) (f : ByteArray → Value)
 (hm : a.eval m = .map (some b)) (h : MapV P k w b n f) (s : ByteArray) (hx : a.eval x = .string s) (hs : s.size ≤ maxLen)
 (hK : wpList P ops Q rest (a.put o.dst (f s)) w) : wpList P ops Q (o :: rest) a w := by
 refine wpList_plain hg fun K' hK' => ?_
 have hrun := h.lookup hk ht hz s hs
 generalize f s = B at hrun hK
 unfold Oper.wp
 simp [execOp, hop, hm, hx, hrun, Result.andThen]
 exact hK' _ _ hK
end
theorem own_blk {w : World} {B : Nat} {e : TypeId} {size : Nat} {v : Value} {n : Nat} {xs : List Value} (h : w.ownsRow B e size v n xs) {b : Nat} (hb : v.ownBlock = some b) : ∃ cur, w.heap[b]? = some (.cells cur e (0, 0)) := by
 rcases h.2 with ⟨rfl, _⟩ | ⟨g, cap, cur, rfl, _, hg, _⟩
 ·cases hb
 ·simp [Value.ownBlock] at hb
  subst hb
  exact ⟨cur, hg⟩
theorem own_of {w w' : World} {B : Nat} {e : TypeId} {size : Nat} {v : Value} {n : Nat} {xs : List Value} (h : w.ownsRow B e size v n xs) (hb : ∀ b, v.ownBlock = some b → w'.heap[b]? = w.heap[b]?) : w'.ownsRow B e size v n xs := by
 obtain ⟨h1, h2⟩ := h
 refine ⟨h1, ?_⟩
 rcases h2 with h2 | ⟨g, cap, cur, rfl, hB, hg, r⟩
 ·exact .inl h2
 ·exact .inr ⟨g, cap, cur, rfl, hB, (hb g rfl).trans hg, r⟩
def sgC (p : SgP × Value) : List Value := [.string p.1.1, .string p.1.2, p.2]
def iV (i : Nat) : Value := .int .i64 i
def WdV (T : Nat → Prop) (w : World) (p : SgP × Value) : Prop := ∃ A n c, p.2 = .slice A n c ∧ Sl w A n ((wsB p.1.1).map .string) ∧ ∀ ad, A = some ad → ad.block < w.heap.size ∧ ¬ T ad.block
theorem WdV.exc {T S : Nat → Prop} {w w' : World} {p : SgP × Value} (h : WdV T w p) (hw : Exc S w w') (hS : ∀ b, S b → T b) : WdV T w' p := by
 obtain ⟨A, n, c, h1, h2, h3⟩ := h
 exact ⟨A, n, c, h1, h2.exc hw (fun ad ha hs => (h3 ad ha).2 (hS _ hs)), fun ad ha => ⟨Nat.lt_of_lt_of_le (h3 ad ha).1 hw.size, (h3 ad ha).2⟩⟩
structure GrpW (T : Nat → Prop) (w : World) (N : Nat) (f : ByteArray → Value) (g : ByteArray → List Nat) : Prop where
 own : ∀ k, w.ownsRow 0 3 1 (f k) (g k).length ((g k).map iV)
 len : ∀ k, (g k).length ≤ N
 ne : ∀ k j, k ≠ j → (f k).ownBlock = none ∨ (f k).ownBlock ≠ (f j).ownBlock
 blk : ∀ k b, (f k).ownBlock = some b → T b
structure MemT (T : Nat → Prop) (w : World) (gm : Nat) (m : List SgP) : Prop where
 ex : ∃ (v : Value) (mb : Nat) (f : ByteArray → Value) (g : ByteArray → List Nat) (L : List (SgP × Value)),
  AtC 81 w gm #[v, .map (some mb)] ∧ L.map (·.1) = m ∧ w.ownsRow 0 83 3 v L.length (L.flatMap sgC) ∧ (∀ p ∈ L, WdV T w p) ∧
  MapV Tryz.prog 9 w mb (402 * m.length) f ∧ GrpW T w (402 * m.length) f g ∧ GrpM m g ∧ T mb ∧ (∀ b, v.ownBlock = some b → T b)
 mine : T gm
 lt : ∀ b, T b → b < w.heap.size
theorem GrpW.of {T : Nat → Prop} {w w' : World} {N : Nat} {f : ByteArray → Value} {g : ByteArray → List Nat} (h : GrpW T w N f g) (hb : ∀ k b, (f k).ownBlock = some b → w'.heap[b]? = w.heap[b]?) : GrpW T w' N f g :=
 ⟨fun k => own_of (h.own k) (hb k), h.len, h.ne, h.blk⟩
theorem MemT.ext {T : Nat → Prop} {w w' : World} {gm : Nat} {m : List SgP} (h : MemT T w gm m) (hw : Ext w w') : MemT T w' gm m := by
 obtain ⟨⟨v, mb, f, g, L, h1, h2, h3, h4, h5, h6, h7, h8, h9⟩, hm, hl⟩ := h
 exact ⟨⟨v, mb, f, g, L, h1.ext hw, h2, own_ext h3 hw, fun p hp => (h4 p hp).exc (Exc.of_ext (S := fun _ => False) hw) (fun _ h => h.elim), h5.of (Below.block hw mb h5.lt),
  h6.of (fun k b hb => Below.block hw b (hl b (h6.blk k b hb))), h7, h8, h9⟩, hm, fun b hb => Nat.lt_of_lt_of_le (hl b hb) (Ext.size hw)⟩
end Go.Proofs.YtiijdojihleggaaGreatDoor
namespace Go.Proofs.YtiijdojihleggaaGreatDoor
open Go Go.RowKit
section
variable {P : Program} {ops : Array Oper} {Q : Exit → Act → World → Prop} {md : Region.Mode} {S : World → Prop}
def wpAnyT (P : Program) (md : Region.Mode) (ops : Array Oper) (Q : Exit → Act → World → Prop) (S : World → Prop) (n : Nat) : Nat → Array Bool → Act → World → Prop
 | 0, listed, a, w => Region.ready md ops listed = [] ∧ Q .normal a w
 | f + 1, listed, a, w => (Region.ready md ops listed = [] → Q .normal a w) ∧ ∀ i ∈ Region.ready md ops listed, wpOp P ops Q i (fun a' w' => (i < n → S w') ∧ wpAnyT P md ops Q S n f (listed.setIfInBounds i true) a' w') a w
theorem wpAny_of_T {n : Nat} : ∀ (f : Nat) (listed : Array Bool) (a : Act) (w : World), wpAnyT P md ops Q S n f listed a w → wpAny P md ops Q f listed a w
 | 0, _, _, _, h => h
 | f + 1, _, _, _, h => ⟨h.1, fun i hi => wpOp_mono (fun a' w' h' => wpAny_of_T f _ a' w' h'.2) (h.2 i hi)⟩
def reachB (md : Region.Mode) (ops : Array Oper) : Nat → Nat → Nat → Bool
 | 0, _, _ => false
 | f + 1, j, i => match ops[j]? with
   | some oj => oj.after.any fun e => Region.binds md e && (decide (e.on = i) || reachB md ops f e.on i)
   | none => false
def tailB (md : Region.Mode) (ops : Array Oper) (n : Nat) : Bool :=
 (List.range ops.size).all fun j => decide (j < n) || (List.range n).all fun i => reachB md ops 8 j i
theorem tailB_spec {n : Nat} (h : tailB md ops n = true) {j : Nat} {oj : Oper} (hj : ops[j]? = some oj) (hn : n ≤ j) {i : Nat} (hi : i < n) : reachB md ops 8 j i = true := by
 have hlt := (Array.getElem?_eq_some_iff.1 hj).1
 unfold tailB at h
 rw [List.all_eq_true] at h
 have h1 := h j (List.mem_range.2 hlt)
 simp only [Bool.or_eq_true, decide_eq_true_eq] at h1
 rcases h1 with h1 | h1
 ·omega
 ·rw [List.all_eq_true] at h1
  exact h1 i (List.mem_range.2 hi)
def InvT (md : Region.Mode) (ops : Array Oper) (listed : Array Bool) : Prop := ∀ j (oj : Oper), ops[j]? = some oj → listed.getD j true = true → ∀ e ∈ oj.after, Region.binds md e = true → listed.getD e.on false = true
def invB (md : Region.Mode) (ops : Array Oper) (listed : Array Bool) : Bool :=
 (List.range ops.size).all fun j => match ops[j]? with
  | some oj => !listed.getD j true || oj.after.all fun e => !Region.binds md e || listed.getD e.on false
  | none => true
theorem invB_spec {listed : Array Bool} (h : invB md ops listed = true) : InvT md ops listed := by
 intro j oj hj hl e he hb
 have hlt := (Array.getElem?_eq_some_iff.1 hj).1
 unfold invB at h
 rw [List.all_eq_true] at h
 have h1 := h j (List.mem_range.2 hlt)
 rw [hj] at h1
 simp only [hl, Bool.not_true, Bool.false_or] at h1
 rw [Array.all_eq_true] at h1
 obtain ⟨q, hq, rfl⟩ := Array.mem_iff_getElem.1 he
 have h2 := h1 q hq
 rw [hb] at h2
 simpa using h2
theorem getD_mono {listed : Array Bool} {i k : Nat} (h : listed.getD k false = true) : (listed.setIfInBounds i true).getD k false = true := by
 rw [Array.getD_eq_getD_getElem?] at h ⊢
 by_cases e : i = k
 ·subst e
  cases hi : listed[i]? with
  | none => rw [hi] at h; cases h
  | some b =>
    have hs := (Array.getElem?_eq_some_iff.1 hi).1
    simp [hs]
 ·rw [Array.getElem?_setIfInBounds_ne e]
  exact h
theorem getD_true_of {listed : Array Bool} {k : Nat} (h : listed.getD k false = true) : listed.getD k true = true := by
 rw [Array.getD_eq_getD_getElem?] at h ⊢
 cases hi : listed[k]? with
 | none => rfl
 | some b => rw [hi] at h; exact h
theorem InvT.set {listed : Array Bool} {i : Nat} (h : InvT md ops listed) (hr : i ∈ Region.ready md ops listed) : InvT md ops (listed.setIfInBounds i true) := by
 intro j oj hj hl e he hb
 refine getD_mono ?_
 by_cases hij : i = j
 ·subst hij
  obtain ⟨_, oi, hoi, hall⟩ := mem_ready.1 hr
  rw [hoi] at hj
  injection hj with hj
  subst hj
  exact hall e he hb
 ·rw [getD_set_ne true hij] at hl
  exact h j oj hj hl e he hb
theorem reach_spec {listed : Array Bool} {i : Nat} (h : InvT md ops listed) : ∀ (f j : Nat) (oj : Oper), ops[j]? = some oj → (∀ e ∈ oj.after, Region.binds md e = true → listed.getD e.on false = true) → reachB md ops f j i = true → listed.getD i false = true
 | 0, _, _, _, _, hr => by cases hr
 | f + 1, j, oj, hj, hall, hr => by
   unfold reachB at hr
   rw [hj] at hr
   simp only [Array.any_eq_true] at hr
   obtain ⟨q, hq, h3⟩ := hr
   rw [Bool.and_eq_true, Bool.or_eq_true, decide_eq_true_eq] at h3
   obtain ⟨hb, h4⟩ := h3
   have hm := hall _ (Array.getElem_mem hq) hb
   rcases h4 with h4 | h4
   ·rw [← h4]; exact hm
   ·cases ho : ops[(oj.after[q]).on]? with
    | none =>
      cases f with
      | zero => cases h4
      | succ f => unfold reachB at h4; rw [ho] at h4; cases h4
    | some oe => exact reach_spec h f _ oe ho (fun e he hb2 => h _ _ ho (getD_true_of hm) e he hb2) h4
theorem unlisted_not {listed : Array Bool} {i : Nat} (h : listed.getD i true = false) (h2 : listed.getD i false = true) : False := by
 rw [Array.getD_eq_getD_getElem?] at h h2
 cases hi : listed[i]? with
 | none => rw [hi] at h; cases h
 | some b => rw [hi] at h h2; simp at h h2; rw [h] at h2; cases h2
theorem wpAnyT_first {n i : Nat} {oi : Oper} {v : Value} (hi : ops[i]? = some oi) (hin : i < n) (ht : tailB md ops n = true) (hsel : ∀ (j : Nat) (o : Oper) cs b, ops[j]? = some o → o.op ≠ .select cs b)
 (hQ : ∀ c a w, Q (.panic c) (a.put oi.dst v) w → Q (.panic c) a w) :
 ∀ (f : Nat) (listed : Array Bool) (a : Act) (w : World),
   (∀ j oj, ops[j]? = some oj → j ≠ i → listed.getD j true = false → (∀ e ∈ oj.after, Region.binds md e = true → e.on ≠ i) → oi.apart ops oj = true) →
   InvT md ops listed → i ∈ Region.ready md ops listed → YieldsIf P ops S oi v a → S w →
   wpAnyT P md ops Q S n f (listed.setIfInBounds i true) (a.put oi.dst v) w → wpAnyT P md ops Q S n (f + 1) listed a w := by
 intro f
 induction f with
 | zero =>
   intro listed a w _ _ hr hy hS H
   refine ⟨fun h => absurd hr (by rw [h]; exact List.not_mem_nil), fun j hj => ?_⟩
   by_cases e : j = i
   ·subst e; exact hy.wpOp hi hS ⟨fun _ => hS, H⟩
   ·have h1 := ready_mono hj e
    rw [H.1] at h1
    cases h1
 | succ f ih =>
   intro listed a w hap hinv hr hy hS H
   refine ⟨fun h => absurd hr (by rw [h]; exact List.not_mem_nil), fun j hj => ?_⟩
   by_cases e : j = i
   ·subst e; exact hy.wpOp hi hS ⟨fun _ => hS, H⟩
   obtain ⟨hun, oj, hoj, hall⟩ := mem_ready.1 hj
   have hui := (mem_ready.1 hr).1
   have hno : ∀ e ∈ oj.after, Region.binds md e = true → e.on ≠ i := fun e he hb hq => unlisted_not hui (hq ▸ hall e he hb)
   have hjn : j < n := by
    rcases Nat.lt_or_ge j n with h | h
    ·exact h
    ·exact (unlisted_not hui (reach_spec hinv 8 j oj hoj hall (tailB_spec ht hoj h hin))).elim
   refine wpOp_mono (fun a' w' h => ?_) (wpOp_putIf hoj (hap j oj hoj e hun hno) (fun cs b => hsel i oi cs b hi) (fun cs b => hsel j oj cs b hoj) hQ hy (H.2 j (ready_mono hj e)))
   obtain ⟨hy', hS', H'⟩ := h
   refine ⟨hS', ih _ a' w' (fun k ok hk hki hku hkn => hap k ok hk hki ?_ hkn) (hinv.set hj) (ready_mono hr (Ne.symm e)) hy' (hS' hjn) ?_⟩
   ·by_cases hjk : j = k
    ·rw [← hjk]; exact hun
    ·rwa [getD_set_ne true hjk] at hku
   ·rw [Array.setIfInBounds_comm _ _ e]
    exact H'
theorem wpAnyT_take {n i : Nat} {oi : Oper} {v : Value} {f : Nat} {listed : Array Bool} {a : Act} {w : World} (hi : ops[i]? = some oi) (ht : tailB md ops n = true)
 (hs : Region.noSelect ops = true) (hf : (Region.free md ops listed i && (Region.ready md ops listed).contains i && decide (i < n) && invB md ops listed) = true)
 (hQ : ∀ c a w, Q (.panic c) (a.put oi.dst v) w → Q (.panic c) a w) (hS : S w) (hy : YieldsIf P ops S oi v a)
 (h : wpAnyT P md ops Q S n f (listed.setIfInBounds i true) (a.put oi.dst v) w) : wpAnyT P md ops Q S n (f + 1) listed a w := by
 simp only [Bool.and_eq_true, decide_eq_true_eq] at hf
 exact wpAnyT_first hi hf.1.2 ht (Region.noSelect_spec hs) hQ f listed a w (Region.free_spec hi hf.1.1.1) (invB_spec hf.2) (by simpa using hf.1.1.2) hy hS h
theorem wpAnyT_all {n : Nat} {rs : List Nat} {f : Nat} {listed : Array Bool} {a : Act} {w : World} (hr : Region.ready md ops listed = rs) (hne : rs ≠ [])
 (h : ∀ i ∈ rs, wpOp P ops Q i (fun a' w' => (i < n → S w') ∧ wpAnyT P md ops Q S n f (listed.setIfInBounds i true) a' w') a w) : wpAnyT P md ops Q S n (f + 1) listed a w :=
 ⟨fun h0 => absurd (hr ▸ h0) hne, hr ▸ h⟩
theorem wp_region_T {id n : Nat} {a : Act} {w : World} (hm : P.follows .mixedOrders = true)
 (h : wpAnyT P .any ops Q S n ops.size (Array.replicate ops.size false) a w.drew) : (Code.region id ops true).wp P Q a w :=
 wp_region_any hm (wpAny_of_T _ _ _ _ h)
end
end Go.Proofs.YtiijdojihleggaaGreatDoor
namespace Go.Proofs.YtiijdojihleggaaGreatDoor
open Go.RowKit
theorem wpOp_step15 {P : Program} {ops : Array Oper} {Q : Exit → Act → World → Prop} {i : Nat} {o : Oper} {K : Act → World → Prop} {a : Act} {w : World} (ho : ops[i]? = some o) (hw : Region.wanted o (yielded ops a.tmps) = true)
 (h : ∀ K' : Act → World → Prop, RowKit.Hid (∀ a w, K a w → K' a w) → Oper.wp P o a w K' Q) : wpOp P ops Q i K a w := by
 unfold wpOp
 rw [ho]
 simp only [hw, if_true]
 exact .inl (h K (hid fun _ _ h => h))
def regOf15 (n : Nat) : Code → Option Code
 | .region k o b => if k = n then some (.region k o b) else none
 | .loop c => regOf15 n c
 | .seq a b => match regOf15 n a with
   | some c => some c
   | none => regOf15 n b
 | .block _ c => regOf15 n c
 | .scope c => regOf15 n c
 | .cond _ a b => match regOf15 n a with
   | some c => some c
   | none => regOf15 n b
 | _ => none
section
variable {P : Program} (w : World)
theorem wp_appW {o : Oper} {a : Act} {K : Act → World → Prop} {Q : Exit → Act → World → Prop} (s x : Operand) (t : TypeId)
 (ho : o.op = .call { callee := .builtin .append, args := #[s, x], argTypes := #[t, t] })
 (base : Nat) (e : TypeId) (i : TypeInfo) (z : Value) (size bytes : Nat) (ht : P.underlying t = some (.slice e)) (hi : P.info? e = some i) (hz : i.zero = some z)
 (hsize : i.size = size) (hby : i.bytes = bytes) (hzs : z.cells.size = size) (hpos : 0 < size)
 (v : Value) (n : Nat) (xs : List Value) (hs : a.eval s = v) (hown : w.ownsRow base e size v n xs)
 (ad : Addr) (m c : Nat) (news : List Value) (hx : a.eval x = .slice (some ad) m c) (hl : news.length = m * size) (hnews : ∀ j u, news[j]? = some u → w.cell? (ad.add j) = some u) (h1 : ∀ u ∈ news, u.oneCell' = true)
 (h63 : n + m ≤ maxLen) (hbytes : (n + m) * bytes ≤ 140737488355328) (hbase : base ≤ w.heap.size)
 (h : ∀ v' w', w'.ownsRow base e size v' (n + m) (xs ++ news) → w.grownBy w' v.ownBlock → (v'.ownBlock = v.ownBlock ∨ ∀ b, v'.ownBlock = some b → w.heap.size ≤ b) → K (a.put o.dst v') w') : o.wp P a w K Q := by
 obtain ⟨v', w', hr, h2, h3, _⟩ := run_append_own (P := P) w base t o.type e i z size bytes ht hi hz hsize hby hzs hpos v n xs hown ad m c news hl hnews h1 h63 hbytes hbase
 have hw := appN_where w base t o.type e i z size bytes ht hi hz hsize hby hzs hpos v n xs hown ad m c news hl hnews h1 h63 hbytes hr
 unfold Oper.wp execOp
 simp only [ho, resolve, invoke, builtin, Sem.run_bind, Sem.run_pure, Result.andThen_ok, List.map_toArray, List.map_cons, List.map_nil, hs, hx, hr]
 exact h v' w' h2 h3 hw
end
def RS15 (gm mb : Nat) (A : Option Addr) (n c : Nat) (kx : ByteArray) (fk : Value) (w' : World) : Prop :=
 w'.cell? ⟨gm, 1, none⟩ = some (.map (some mb)) ∧ w'.cell? ⟨gm, 0, none⟩ = some (.slice A n c) ∧ (Instr.lookup 79 (.map (some mb)) (.string kx) false).run Tryz.prog w' = .ok fk w'
noncomputable def regA15 : Code := ((Tryz.f27).body.bind (regOf15 15)).getD .skip
set_option maxHeartbeats 4000000 in
theorem areg15 {u1 u2 u3 u4 u5 u6 u7 u8 u9 u10 u12 u13 u14 u15 u16 u17 u18 u19 u20 u21 u22 u23 u24 u25 u26 u27 u28 u29 u30 u31 u32 u33 u34 u35 u36 u37 u38 u39 u40 u41 u42 u43 u44 u45 u46 u47 u48 u49 u50 u51 u52 u53 u54 u55 u56 u57 u58 u59 u60 u61 u62 u63 u64 u65 u66 u67 u68 u69 u70 u71 u72 u73 u74 u75 u76 u77 u78 u79 u80 u81 u82 u83 u84 u85 u86 u87 u88 u89 u90 u91 u92 u93 u94 u95 : Value} {gm mb n c N : Nat} {A : Option Addr} {kx : ByteArray} {f : ByteArray → Value} {zs : List Nat} {w : World} {Q : Exit → Act → World → Prop} {C : Code} (hC : C = regA15)
 (hg : AtC 81 w gm #[.slice A n c, .map (some mb)]) (hm : MapV Tryz.prog 9 w mb N f) (hN : N < maxLen) (hk : kx.size ≤ maxLen) (ho : w.ownsRow 0 3 1 (f kx) zs.length (zs.map iV)) (hz : zs.length ≤ 1000000000)
 (hQ : ∀ v' w', MapV Tryz.prog 9 w' mb (N + 1) (fun x => if x = kx then v' else f x) → w'.ownsRow 0 3 1 v' (zs ++ [n]).length ((zs ++ [n]).map iV) → (v'.ownBlock = (f kx).ownBlock ∨ ∀ b, v'.ownBlock = some b → w.heap.size ≤ b) →
  Exc (fun b => b = mb ∨ (f kx).ownBlock = some b) w w' → Q .normal ⟨#[.pointer (some ⟨gm, 0, none⟩), u1, u2, u3, u4, u5, u6, u7, u8, u9, u10, .string kx, u12, u13, u14, u15, u16, u17, u18, u19, u20, u21, u22, u23, u24, u25, u26, u27, u28, u29, u30, u31, u32, u33, u34, u35, u36, u37, u38, u39, u40, u41, u42, u43, u44, u45, u46, u47, u48, u49, u50, u51, u52, u53, u54, u55, u56, u57, u58, u59, u60, u61, u62, u63, .pointer (some ⟨gm, 0, none⟩), .pointer (some ⟨gm, 0, none⟩), .pointer (some ⟨gm, 1, none⟩), .map (some mb), .string kx, .pointer (some ⟨gm, 0, none⟩), .pointer (some ⟨gm, 0, none⟩), .pointer (some ⟨gm, 1, none⟩), .map (some mb), .string kx, (f kx), .pointer (some ⟨gm, 0, none⟩), .pointer (some ⟨gm, 0, none⟩), .pointer (some ⟨gm, 0, none⟩), .slice A n c, .int .i64 n, .slice (some ⟨w.heap.size, 0, none⟩) 1 1, v', u82, u83, u84, u85, u86, u87, u88, u89, u90, u91, u92, u93, u94, u95], []⟩ w') :
 Code.wp Tryz.prog C Q ⟨#[.pointer (some ⟨gm, 0, none⟩), u1, u2, u3, u4, u5, u6, u7, u8, u9, u10, .string kx, u12, u13, u14, u15, u16, u17, u18, u19, u20, u21, u22, u23, u24, u25, u26, u27, u28, u29, u30, u31, u32, u33, u34, u35, u36, u37, u38, u39, u40, u41, u42, u43, u44, u45, u46, u47, u48, u49, u50, u51, u52, u53, u54, u55, u56, u57, u58, u59, u60, u61, u62, u63, u64, u65, u66, u67, u68, u69, u70, u71, u72, u73, u74, u75, u76, u77, u78, u79, u80, u81, u82, u83, u84, u85, u86, u87, u88, u89, u90, u91, u92, u93, u94, u95], []⟩ w := by
 subst hC
 conv => arg 2; whnf
 obtain ⟨i0, hi, hz0, hz1, hz2⟩ := info_parts (show (Tryz.prog.info? 3).map (fun i => (i.zero, i.size, i.bytes)) = some (some (.int .i64 0), 1, 8) from by kernel_rfl)
 have hzE : ∀ w : World, (zeroValue 84).run Tryz.prog w = .ok nilV w := fun w => by kernel_rfl
 obtain ⟨fk, hfk⟩ : ∃ fk, fk = f kx := ⟨_, rfl⟩
 rw [← hfk] at ho hQ
 have HQ := hid hQ
 have HSX := hid (show ∀ W, W.heap[mb]? = w.heap[mb]? → AtC 81 W gm #[.slice A n c, .map (some mb)] → RS15 gm mb A n c kx fk W from fun W h1 h2 => ⟨h2.cell 1 _ rfl, h2.cell 0 _ rfl, by rw [hfk]; exact (hm.of h1).lookup Tryz.underlying9 Tryz.underlying79 (hzE W) kx hk⟩)
 have HG := hid hg
 have HM := hid hm
 have HO := hid ho
 have HZ := hid hz
 have HN := hid hN
 have HK := hid hk
 have HFK := hid hfk
 clear hQ hg hm ho hfk hN hk hz
 refine wp_region_noPanic ?_
 refine wp_region_T (n := 18) (S := RS15 gm mb A n c kx fk) (by kernel_rfl) ?_
 have hS := HSX.out w.drew rfl HG.out
 refine wpAnyT_take (i := 0) (v := .pointer (some ⟨gm, 0, none⟩)) rfl (by kernel_rfl) (by kernel_rfl) (by kernel_rfl) (fun _ _ _ h => h) hS (Or.inl ⟨by rfl, ?_⟩) ?_
 ·intro w1 hSw
  unfold RS15 at hSw
  obtain ⟨q1, q2, q3⟩ := hSw
  go_simp
 simp only [Act.put, List.setIfInBounds_toArray, List.set_cons_zero, List.set_cons_succ]
 refine wpAnyT_take (i := 1) (v := .pointer (some ⟨gm, 0, none⟩)) rfl (by kernel_rfl) (by kernel_rfl) (by kernel_rfl) (fun _ _ _ h => h) hS (Or.inl ⟨by rfl, ?_⟩) ?_
 ·intro w1 hSw
  unfold RS15 at hSw
  obtain ⟨q1, q2, q3⟩ := hSw
  go_simp
 simp only [Act.put, List.setIfInBounds_toArray, List.set_cons_zero, List.set_cons_succ]
 refine wpAnyT_take (i := 2) (v := .pointer (some ⟨gm, 1, none⟩)) rfl (by kernel_rfl) (by kernel_rfl) (by kernel_rfl) (fun _ _ _ h => h) hS (Or.inl ⟨by rfl, ?_⟩) ?_
 ·intro w1 hSw
  unfold RS15 at hSw
  obtain ⟨q1, q2, q3⟩ := hSw
  go_simp
 simp only [Act.put, List.setIfInBounds_toArray, List.set_cons_zero, List.set_cons_succ]
 refine wpAnyT_take (i := 3) (v := .map (some mb)) rfl (by kernel_rfl) (by kernel_rfl) (by kernel_rfl) (fun _ _ _ h => h) hS (Or.inl ⟨by rfl, ?_⟩) ?_
 ·intro w1 hSw
  unfold RS15 at hSw
  obtain ⟨q1, q2, q3⟩ := hSw
  go_simp
 simp only [Act.put, List.setIfInBounds_toArray, List.set_cons_zero, List.set_cons_succ]
 refine wpAnyT_take (i := 4) (v := .string kx) rfl (by kernel_rfl) (by kernel_rfl) (by kernel_rfl) (fun _ _ _ h => h) hS (Or.inl ⟨by rfl, ?_⟩) ?_
 ·intro w1 hSw
  unfold RS15 at hSw
  obtain ⟨q1, q2, q3⟩ := hSw
  go_simp
 simp only [Act.put, List.setIfInBounds_toArray, List.set_cons_zero, List.set_cons_succ]
 refine wpAnyT_take (i := 5) (v := .pointer (some ⟨gm, 0, none⟩)) rfl (by kernel_rfl) (by kernel_rfl) (by kernel_rfl) (fun _ _ _ h => h) hS (Or.inl ⟨by rfl, ?_⟩) ?_
 ·intro w1 hSw
  unfold RS15 at hSw
  obtain ⟨q1, q2, q3⟩ := hSw
  go_simp
 simp only [Act.put, List.setIfInBounds_toArray, List.set_cons_zero, List.set_cons_succ]
 refine wpAnyT_take (i := 6) (v := .pointer (some ⟨gm, 0, none⟩)) rfl (by kernel_rfl) (by kernel_rfl) (by kernel_rfl) (fun _ _ _ h => h) hS (Or.inl ⟨by rfl, ?_⟩) ?_
 ·intro w1 hSw
  unfold RS15 at hSw
  obtain ⟨q1, q2, q3⟩ := hSw
  go_simp
 simp only [Act.put, List.setIfInBounds_toArray, List.set_cons_zero, List.set_cons_succ]
 refine wpAnyT_take (i := 7) (v := .pointer (some ⟨gm, 1, none⟩)) rfl (by kernel_rfl) (by kernel_rfl) (by kernel_rfl) (fun _ _ _ h => h) hS (Or.inl ⟨by rfl, ?_⟩) ?_
 ·intro w1 hSw
  unfold RS15 at hSw
  obtain ⟨q1, q2, q3⟩ := hSw
  go_simp
 simp only [Act.put, List.setIfInBounds_toArray, List.set_cons_zero, List.set_cons_succ]
 refine wpAnyT_take (i := 8) (v := .map (some mb)) rfl (by kernel_rfl) (by kernel_rfl) (by kernel_rfl) (fun _ _ _ h => h) hS (Or.inl ⟨by rfl, ?_⟩) ?_
 ·intro w1 hSw
  unfold RS15 at hSw
  obtain ⟨q1, q2, q3⟩ := hSw
  go_simp
 simp only [Act.put, List.setIfInBounds_toArray, List.set_cons_zero, List.set_cons_succ]
 refine wpAnyT_take (i := 9) (v := .string kx) rfl (by kernel_rfl) (by kernel_rfl) (by kernel_rfl) (fun _ _ _ h => h) hS (Or.inl ⟨by rfl, ?_⟩) ?_
 ·intro w1 hSw
  unfold RS15 at hSw
  obtain ⟨q1, q2, q3⟩ := hSw
  go_simp
 simp only [Act.put, List.setIfInBounds_toArray, List.set_cons_zero, List.set_cons_succ]
 refine wpAnyT_take (i := 10) (v := fk) rfl (by kernel_rfl) (by kernel_rfl) (by kernel_rfl) (fun _ _ _ h => h) hS (Or.inl ⟨by rfl, ?_⟩) ?_
 ·intro w1 hSw
  unfold RS15 at hSw
  obtain ⟨q1, q2, q3⟩ := hSw
  go_simp
 simp only [Act.put, List.setIfInBounds_toArray, List.set_cons_zero, List.set_cons_succ]
 refine wpAnyT_take (i := 11) (v := .pointer (some ⟨gm, 0, none⟩)) rfl (by kernel_rfl) (by kernel_rfl) (by kernel_rfl) (fun _ _ _ h => h) hS (Or.inl ⟨by rfl, ?_⟩) ?_
 ·intro w1 hSw
  unfold RS15 at hSw
  obtain ⟨q1, q2, q3⟩ := hSw
  go_simp
 simp only [Act.put, List.setIfInBounds_toArray, List.set_cons_zero, List.set_cons_succ]
 refine wpAnyT_take (i := 12) (v := .pointer (some ⟨gm, 0, none⟩)) rfl (by kernel_rfl) (by kernel_rfl) (by kernel_rfl) (fun _ _ _ h => h) hS (Or.inl ⟨by rfl, ?_⟩) ?_
 ·intro w1 hSw
  unfold RS15 at hSw
  obtain ⟨q1, q2, q3⟩ := hSw
  go_simp
 simp only [Act.put, List.setIfInBounds_toArray, List.set_cons_zero, List.set_cons_succ]
 refine wpAnyT_take (i := 13) (v := .pointer (some ⟨gm, 0, none⟩)) rfl (by kernel_rfl) (by kernel_rfl) (by kernel_rfl) (fun _ _ _ h => h) hS (Or.inl ⟨by rfl, ?_⟩) ?_
 ·intro w1 hSw
  unfold RS15 at hSw
  obtain ⟨q1, q2, q3⟩ := hSw
  go_simp
 simp only [Act.put, List.setIfInBounds_toArray, List.set_cons_zero, List.set_cons_succ]
 refine wpAnyT_take (i := 14) (v := .slice A n c) rfl (by kernel_rfl) (by kernel_rfl) (by kernel_rfl) (fun _ _ _ h => h) hS (Or.inl ⟨by rfl, ?_⟩) ?_
 ·intro w1 hSw
  unfold RS15 at hSw
  obtain ⟨q1, q2, q3⟩ := hSw
  go_simp
 simp only [Act.put, List.setIfInBounds_toArray, List.set_cons_zero, List.set_cons_succ]
 refine wpAnyT_take (i := 15) (v := .int .i64 n) rfl (by kernel_rfl) (by kernel_rfl) (by kernel_rfl) (fun _ _ _ h => h) hS (Or.inl ⟨by rfl, ?_⟩) ?_
 ·intro w1 hSw
  unfold RS15 at hSw
  obtain ⟨q1, q2, q3⟩ := hSw
  go_simp
 simp only [Act.put, List.setIfInBounds_toArray, List.set_cons_zero, List.set_cons_succ]
 refine wpAnyT_all (rs := [16]) (by kernel_rfl) (by simp) ?_
 intro i_ hi_
 rw [List.mem_singleton] at hi_
 subst hi_
 refine wpOp_step15 rfl (by rfl) fun K' hK' => ?_
 go_simp
 obtain ⟨wa, hwa⟩ : ∃ wa, wa = (w.alloc (.cells #[.int .i64 n] 3)).drew := ⟨_, rfl⟩
 rw [← hwa]
 have hxa : Ext w wa := by rw [hwa]; exact ((Ext.refl w).alloc _).drew
 have HGA := hid (HG.out.ext hxa)
 have HMA := hid (HM.out.of (Below.block hxa mb HM.out.lt))
 have HSA := hid (HSX.out wa (Below.block hxa mb HM.out.lt) HGA.out)
 refine hK'.out _ _ ⟨fun _ => HSA.out, ?_⟩
 clear hK'
 try simp only [Act.put, List.setIfInBounds_toArray, List.set_cons_zero, List.set_cons_succ]
 refine wpAnyT_all (rs := [17]) (by kernel_rfl) (by simp) ?_
 intro i_ hi_
 rw [List.mem_singleton] at hi_
 subst hi_
 refine wpOp_step15 rfl (by rfl) fun K' hK' => ?_
 refine wp_appW wa _ _ 84 rfl 0 3 i0 _ 1 8 Tryz.underlying84 hi hz0 hz1 hz2 rfl (by decide) fk _ _ rfl (own_ext HO.out hxa) ⟨w.heap.size, 0, none⟩ 1 1 [.int .i64 n] rfl rfl (by rw [hwa]; exact new_cells w #[.int .i64 n] 3) (by simp [Value.oneCell']) (by have := HZ.out; unfold maxLen; omega) (by have := HZ.out; omega) (Nat.zero_le _) ?_
 intro v' wb ho' hg' hw'
 have HEB := hid (show Exc (fun b => b = mb ∨ fk.ownBlock = some b) w wb from (Exc.of_ext hxa).trans (by
  rcases hfo : fk.ownBlock with _ | r
  ·rw [hfo] at hg'
   exact ⟨hg'.os, hg'.tape, hg'.output, hg'.size, fun k hk _ => hg'.block k hk (by simp)⟩
  ·rw [hfo] at hg'
   exact Exc.grown hg' (.inr rfl)))
 have hne : ∀ b, fk.ownBlock = some b → b ≠ mb := fun b hb e => by
  obtain ⟨cur, hc⟩ := own_blk HO.out hb
  obtain ⟨es, cl, hc2⟩ := HM.out.isMap
  rw [e, hc2] at hc
  cases hc
 have hne2 : ∀ b, fk.ownBlock = some b → b ≠ gm := fun b hb e => by
  obtain ⟨cur, hc⟩ := own_blk HO.out hb
  have h2 := HG.out
  unfold AtC at h2
  rw [e, h2] at hc
  injection hc with hc
  injection hc with _ hc
  exact absurd hc (by decide)
 have hmb : wb.heap[mb]? = wa.heap[mb]? := hg'.block mb (Nat.lt_of_lt_of_le HM.out.lt (Ext.size hxa)) (fun e => hne mb e.symm rfl)
 have HMB := hid (HMA.out.of hmb)
 have HGB := hid (show AtC 81 wb gm #[.slice A n c, .map (some mb)] from (hg'.block gm (Nat.lt_of_lt_of_le HG.out.lt (Ext.size hxa)) (fun e => hne2 gm e.symm rfl)).trans HGA.out)
 have HOB := hid (show wb.ownsRow 0 3 1 v' (zs ++ [n]).length ((zs ++ [n]).map iV) from by rw [List.map_append, List.length_append]; exact ho')
 have HWB := hid (show v'.ownBlock = fk.ownBlock ∨ ∀ b, v'.ownBlock = some b → w.heap.size ≤ b from hw'.imp id fun h b hb => Nat.le_trans (Ext.size hxa) (h b hb))
 refine hK'.out _ _ ⟨fun _ => HSX.out wb (hmb.trans (Below.block hxa mb HM.out.lt)) HGB.out, ?_⟩
 clear hK' ho' hg' hw' hne hne2 hmb
 try simp only [Act.put, List.setIfInBounds_toArray, List.set_cons_zero, List.set_cons_succ]
 obtain ⟨wc, hrun, hm3, hg3⟩ := HMB.out.update (t := 79) Tryz.underlying9 Tryz.underlying79 HN.out kx HK.out v'
 have hvb : ∀ b, v'.ownBlock = some b → b ≠ mb := fun b hb e => by
  obtain ⟨cur, hc⟩ := own_blk HOB.out hb
  obtain ⟨es, cl, hc2⟩ := HMB.out.isMap
  rw [e, hc2] at hc
  cases hc
 have HOC := hid (own_of HOB.out fun b hb => hg3.block b (by obtain ⟨cur, hc⟩ := own_blk HOB.out hb; exact (Array.getElem?_eq_some_iff.1 hc).1) (fun e => hvb b hb (by injection e)))
 have HEC := hid (HEB.out.trans (Exc.grown (S := fun b => b = mb ∨ fk.ownBlock = some b) hg3 (.inl rfl)))
 have HMC := hid hm3
 clear hm3 hg3 hvb
 refine wpAnyT_all (rs := [18]) (by kernel_rfl) (by simp) ?_
 intro i_ hi_
 rw [List.mem_singleton] at hi_
 subst hi_
 refine wpOp_step15 rfl (by rfl) fun K' hK' => ?_
 go_simp
 refine hK'.out _ _ ⟨fun h => absurd h (by decide), ?_⟩
 clear hK'
 try simp only [Act.put, List.setIfInBounds_toArray, List.set_cons_zero, List.set_cons_succ]
 refine ⟨by kernel_rfl, ?_⟩
 show Q _ _ _
 exact HQ.out v' wc HMC.out HOC.out HWB.out HEC.out
end Go.Proofs.YtiijdojihleggaaGreatDoor
