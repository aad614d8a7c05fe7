import Derived.Test.YtljdlkonlnjadaaGreatDoorNZ1
import Derived.Test.YtljdlkonlnjadaaGreatDoorNZ7
import Derived.Test.YtljdlkonlnjadaaGreatDoorNX8
import Derived.Test.YtljdlkonlnjadaaGreatDoorNX4
import Derived.Lib.OwnBridge
import Derived.Shelf.SlSortCmp.NoneTotal
set_option maxRecDepth 100000
set_option linter.unusedSimpArgs false
set_option linter.unusedVariables false
namespace Go.Proofs.YtljdlkonlnjadaaGreatDoor
open Go.RowKit
structure Lk where
 x : Lc
 r : Nat → List Ru
 e : Nat → List El
def wdE (j : Nat) : Nat := if j = 0 then 5 else if j = 1 then 3 else if j = 2 then 2 else 1
def LkM (ok : Nat → Prop) (w : World) (y : Lk) : Prop := RusM ok w (y.x.A 0) (y.x.n 0) (y.r 0) ∧ RusM ok w (y.x.A 1) (y.x.n 1) (y.r 1) ∧ ∀ j, j < 5 → ElM (wdE j) w (y.x.A (j + 2)) (y.x.n (j + 2)) (y.e j)
theorem LkM.ext {ok : Nat → Prop} {w w' : World} {y : Lk} (h : LkM ok w y) (hw : Ext w w') : LkM ok w' y := ⟨h.1.ext hw, h.2.1.ext hw, fun j hj => (h.2.2 j hj).ext hw⟩
def lkP (y : Lk) : Ef := ⟨y.x.t, y.x.p, y.x.d, (y.r 0).map ruP, (y.r 1).map ruP, ([y.x.s 0, y.x.s 1, y.x.s 2, y.x.s 3], [y.x.i 0, y.x.i 1]), y.e⟩
end Go.Proofs.YtljdlkonlnjadaaGreatDoor
namespace Go.Proofs.YtljdlkonlnjadaaGreatDoor
open Go.RowKit Go.Sort Go.Shelf
section
variable {α : Type} [Inhabited α]
theorem flatK_list (enc : α → List Value) (k : Nat) (hk : ∀ x, (enc x).length = k) (hp : 0 < k) (l : List α) : (flatK enc k l.toArray).toList = l.flatMap enc := by
 apply List.ext_getElem?
 intro j
 have hz : (l.flatMap enc).length = l.length * k := flat_len enc k hk l
 by_cases hj : j < l.length * k
 ·have h1 : j / k < l.length := Nat.div_lt_of_lt_mul (by rw [Nat.mul_comm]; exact hj)
  have h2 : j % k < k := Nat.mod_lt _ hp
  have h3 := flat_get enc k hk l (j / k) (j % k) l[j / k] (List.getElem?_eq_getElem h1) h2
  rw [show j / k * k + j % k = j from by rw [Nat.mul_comm]; exact Nat.div_add_mod j k] at h3
  rw [h3, Array.getElem?_toList]
  have h4 : j < (flatK enc k l.toArray).size := by simpa using hj
  rw [Array.getElem?_eq_getElem h4]
  have h5 := get_flatK enc k l.toArray j (by simpa using hj)
  rw [getElem!_pos _ j h4] at h5
  rw [h5]
  have h6 : (l.toArray)[j / k]! = l[j / k] := by rw [getElem!_pos _ _ (by simpa using h1)]; simp
  rw [h6, getElem!_pos _ _ (by rw [hk]; exact h2), List.getElem?_eq_getElem (by rw [hk]; exact h2)]
 ·rw [show (l.flatMap enc)[j]? = none from List.getElem?_eq_none (by rw [hz]; omega), Array.getElem?_toList, Array.getElem?_eq_none (by simpa using hj)]
theorem holdsK_own {enc : α → List Value} {k : Nat} (hk : ∀ x, (enc x).length = k) (hp : 0 < k) {w : World} {B : Nat} {e : TypeId} {g n cap : Nat} {zs : List α} (h : w.ownsRow B e k (.slice (some ⟨g, 0, none⟩) n cap) n (zs.flatMap enc)) : HoldsK enc k w g 0 zs.toArray := by
 intro j hj
 have hz : (zs.flatMap enc).length = zs.length * k := flat_len enc k hk zs
 have hl := h.1
 have hj2 : j < zs.length * k := by simpa using hj
 have hjn : j < n * k := by omega
 rw [Nat.zero_add]
 refine ⟨?_, h.frozenAt j⟩
 rw [h.cellAt j hjn, ← flatK_list enc k hk hp, Array.getElem?_toList, Array.getElem?_eq_getElem hj, getElem!_pos _ j hj]
 rfl
theorem own_putK {w : World} {B : Nat} {e : TypeId} {k g n cap q : Nat} {xs : List Value} {F : Array Value} (h : w.ownsRow B e k (.slice (some ⟨g, 0, none⟩) n cap) n xs) (hF : F.size = n * k) :
 (putRow id (Sort.ahead w q) g 0 F).ownsRow B e k (.slice (some ⟨g, 0, none⟩) n cap) n F.toList := by
 rcases h.2 with ⟨e0, _⟩ | ⟨g', cap', cur, e0, hb, hg, hn, hm, hs, ht⟩
 ·cases e0
 ·injection e0 with e1 _ e3
  injection e1 with e1
  injection e1 with e1
  subst e1; subst e3
  have hle : n * k ≤ cap * k := Nat.mul_le_mul_right _ hn
  refine ⟨by simp; omega, .inr ⟨g, cap, putCells id 0 F cur, rfl, hb, ?_, hn, hm, by simpa [putCells] using hs, ?_⟩⟩
  ·simp [putRow, mapBlock, Sort.ahead, Array.getElem?_modify, hg, onCells]
  ·apply List.ext_getElem?
   intro j
   rw [List.getElem?_take, Array.getElem?_toList]
   by_cases hj : j < n * k
   ·have hjc : j < cur.size := by omega
    simp only [if_pos hj, putCells, Array.getElem?_mapIdx, Array.getElem?_eq_getElem hjc, Option.map_some]
    rw [if_pos (by simp; omega), Array.getElem?_toList, Array.getElem?_eq_getElem (by omega)]
    simp [getElem!_pos, show j < F.size by omega]
   ·rw [if_neg hj, Array.getElem?_toList, Array.getElem?_eq_none (by omega)]
theorem ext_growY {a w : World} (h : Ext a w) (os : Array Obj) : Ext a (grow w os) := by
 have h0 : Below a.heap.size a w := h
 refine ⟨h0.os, h0.tape, h0.output, Nat.le_trans h0.size (by simp [grow]), fun k hk => ?_⟩
 rw [heap_grow_old _ _ (Nat.lt_of_lt_of_le hk h0.size)]
 exact h0.block k hk
theorem ext_sortK {enc : α → List Value} {k : Nat} {a w : World} {g : Nat} (h : Ext a w) (hg : a.heap.size ≤ g) (n : Nat) (d : Array α) (os : Array Obj) : Ext a (sortWorldK enc k w g 0 n d os) := by
 unfold sortWorldK putRowK
 exact ext_growY (Lib.below_putRow h hg) os
theorem own_sortK {enc : α → List Value} {k : Nat} (hk : ∀ x, (enc x).length = k) (hp : 0 < k) {w : World} {B : Nat} {e : TypeId} {g n cap q : Nat} {xs : List Value} {ys : List α} (h : w.ownsRow B e k (.slice (some ⟨g, 0, none⟩) n cap) n xs) (hy : ys.length = n) (os : Array Obj) :
 (sortWorldK enc k w g 0 q ys.toArray os).ownsRow B e k (.slice (some ⟨g, 0, none⟩) n cap) n (ys.flatMap enc) := by
 have h1 := own_putK (q := q) (F := flatK enc k ys.toArray) h (by simp [hy])
 rw [flatK_list enc k hk hp] at h1
 have h2 := own_ext h1 (ext_growY (Ext.refl _) os)
 exact h2
end
end Go.Proofs.YtljdlkonlnjadaaGreatDoor
namespace Go.Proofs.YtljdlkonlnjadaaGreatDoor
open Go.RowKit Go.Sort Go.Shelf
def atE (x : El) (i : Nat) : List UInt8 := (x.getD i eB).data.toList
def cmpE (q : Nat) (x y : El) : Int := if q = 1 then cmpS (atE x 0) (atE y 0) else if cmpS (atE x 0) (atE y 0) = 0 then cmpS (atE x 1) (atE y 1) else cmpS (atE x 0) (atE y 0)
theorem cmpS_lt (a b : List UInt8) : cmpS a b < 0 ↔ a < b := by
 unfold cmpS
 by_cases h1 : a < b
 ·simp [h1]
 ·by_cases h2 : b < a <;> simp [h1, h2]
theorem cmpS_zero (a b : List UInt8) : cmpS a b = 0 ↔ a = b := by
 unfold cmpS
 by_cases h1 : a < b
 ·rw [if_pos h1]
  exact ⟨fun h => by omega, fun h => by subst h; exact absurd h1 (List.lt_irrefl a)⟩
 ·rw [if_neg h1]
  by_cases h2 : b < a
  ·rw [if_pos h2]
   exact ⟨fun h => by omega, fun h => by subst h; exact absurd h2 (List.lt_irrefl a)⟩
  ·rw [if_neg h2]
   exact ⟨fun _ => List.le_antisymm (List.not_lt.1 h2) (List.not_lt.1 h1), fun _ => rfl⟩
theorem ky_one {x : El} (h : 1 ≤ x.length) : kyE 1 x = [atE x 0] := by
 cases x with
 | nil => simp at h
 | cons a r => rfl
theorem ky_two {x : El} (h : 2 ≤ x.length) : kyE 2 x = [atE x 0, atE x 1] := by
 match x, h with
 | a :: b :: r, _ => rfl
theorem cmpE_lt {q : Nat} (hq : q = 1 ∨ q = 2) {x y : El} (hx : q ≤ x.length) (hy : q ≤ y.length) : decide (cmpE q x y < 0) = ltK (kyE q x) (kyE q y) := by
 rcases hq with rfl | rfl
 ·rw [ky_one hx, ky_one hy]
  unfold cmpE
  rw [if_pos rfl, Bool.eq_iff_iff, decide_eq_true_iff, cmpS_lt]
  simp [ltK]
 ·rw [ky_two hx, ky_two hy]
  unfold cmpE
  rw [if_neg (by decide), Bool.eq_iff_iff, decide_eq_true_iff]
  by_cases h0 : cmpS (atE x 0) (atE y 0) = 0
  ·rw [if_pos h0, cmpS_lt]
   rw [cmpS_zero] at h0
   rw [h0]
   simp [ltK, List.lt_irrefl]
  ·rw [if_neg h0, cmpS_lt]
   have h1 : atE x 0 ≠ atE y 0 := fun e => h0 ((cmpS_zero _ _).2 e)
   simp [ltK, h1]
abbrev Ey (m : Nat) := { x : El // x.length = m }
instance (m : Nat) : Inhabited (Ey m) := ⟨⟨List.replicate m eB, by simp⟩⟩
def encY {m : Nat} (x : Ey m) : List Value := elC x.val
theorem encY_len {m : Nat} (x : Ey m) : (encY x).length = m := by unfold encY elC; rw [List.length_map]; exact x.2
theorem encY_one {m : Nat} (x : Ey m) : ∀ v ∈ encY x, v.oneCell' = true := fun v hv => by
 unfold encY elC at hv
 obtain ⟨s, _, rfl⟩ := List.mem_map.1 hv
 rfl
def cfY (q : Nat) {m : Nat} (x y : Ey m) : Int := cmpE q x.val y.val
theorem ltY {q m : Nat} (hq : q = 1 ∨ q = 2) (hm : q ≤ m) (x y : Ey m) : ltOf (cfY q) x y = ltK (kyE q x.val) (kyE q y.val) := cmpE_lt hq (by rw [x.2]; exact hm) (by rw [y.2]; exact hm)
theorem swoY {q m : Nat} (hq : q = 1 ∨ q = 2) (hm : q ≤ m) : SWO (ltOf (cfY q (m := m))) where
 irrefl x := by rw [ltY hq hm]; exact ltK_irr _
 trans x y z h1 h2 := by rw [ltY hq hm] at *; exact ltK_tr _ _ _ h1 h2
 ntrans x y z h1 h2 := by
  rw [ltY hq hm] at *
  cases h3 : ltK (kyE q x.val) (kyE q z.val) with
  | false => rfl
  | true =>
    cases h4 : ltK (kyE q y.val) (kyE q x.val) with
    | true => rw [ltK_tr _ _ _ h4 h3] at h2; cases h2
    | false => rw [← ltK_tot _ _ h1 h4, h3] at h2; cases h2
def liftY {m : Nat} (O : List El) (h : ∀ x ∈ O, x.length = m) : List (Ey m) := O.pmap (fun x hx => ⟨x, hx⟩) h
theorem liftY_val {m : Nat} (O : List El) (h : ∀ x ∈ O, x.length = m) : (liftY O h).map (·.val) = O := by
 unfold liftY
 rw [List.map_pmap]
 simp
theorem encY_flat {m : Nat} (l : List (Ey m)) : l.flatMap encY = (l.map (·.val)).flatMap elC := by
 rw [List.flatMap_map]; rfl
theorem srt_pair {q m : Nat} (hq : q = 1 ∨ q = 2) (hm : q ≤ m) {d : Array (Ey m)} {n : Nat} (hn : d.size = n) (h : SortedIn (ltOf (cfY q)) 0 n d) : (d.toList.map (·.val)).Pairwise fun x y => yLe (kyE q) ltK x y = true := by
 rw [List.pairwise_map, List.pairwise_iff_getElem]
 intro i j hi hj hij
 have hi' : i < d.size := by simpa using hi
 have hj' : j < d.size := by simpa using hj
 have h1 := h i j (Nat.zero_le _) hij (by omega)
 rw [ltY hq hm, getElem!_pos d j hj', getElem!_pos d i hi'] at h1
 unfold yLe
 simp only [Array.getElem_toList]
 rw [h1]
 rfl
theorem flat_leY {L : List (List El)} {k p : Nat} {E : List El} (hE : L[k]? = some E) : ((L.take k).flatten ++ E.take p).length ≤ L.flatten.length := by
 have e : L = L.take k ++ E :: L.drop (k + 1) := by
  obtain ⟨h1, h2⟩ := List.getElem?_eq_some_iff.1 hE
  rw [← h2, List.getElem_cons_drop, List.take_append_drop]
 rw [e, List.flatten_append, List.flatten_cons]
 simp only [List.length_append, List.length_take]
 rw [← e]
 simp
 omega
theorem flat_nextY {L : List (List El)} {k : Nat} {E : List El} (hE : L[k]? = some E) : (L.take (k + 1)).flatten = (L.take k).flatten ++ E := by
 rw [List.take_add_one, hE]
 simp
theorem foldl_snocY {α β : Type} (f : β → α → β) (b : β) (l m : List α) (x : α) : (l ++ (m ++ [x])).foldl f b = f ((l ++ m).foldl f b) x := by
 rw [← List.append_assoc, List.foldl_append]; rfl
theorem srt_res {q : Nat} {L : List (List El)} {O O' : List El} (hO : O = L.flatten.foldl (yAdd (kyE q)) []) (hp : O'.Perm O) (hs : O'.Pairwise fun x y => yLe (kyE q) ltK x y = true) : O' = mrgE q L := by
 rw [mrg_flat]
 obtain ⟨h1, h2⟩ := yfold_both (key := kyE q) stoK L.flatten [] [] (.refl _) List.Pairwise.nil
 exact ysorted_once stoK ((hp.trans (by rw [hO])).trans h1) h2 hs
theorem mrg_memY {q : Nat} {L : List (List El)} {x : El} (h : x ∈ mrgE q L) : ∃ E ∈ L, x ∈ E := by
 rw [mrg_flat] at h
 exact List.mem_flatten.1 (yMrg_mem h)
end Go.Proofs.YtljdlkonlnjadaaGreatDoor
