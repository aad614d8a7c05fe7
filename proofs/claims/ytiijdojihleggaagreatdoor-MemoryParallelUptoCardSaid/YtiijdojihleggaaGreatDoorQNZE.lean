import Derived.Test.YtiijdojihleggaaGreatDoorQNZA
import Derived.Sort.Defs
import Derived.Test.YtiijdojihleggaaGreatDoorQNZD
import Derived.Test.YtiijdojihleggaaGreatDoorSrtM
import Derived.Lib.OwnBridge
set_option maxRecDepth 100000
set_option linter.unusedSimpArgs false
set_option linter.unusedVariables false
open Go.Lib (hid)
namespace Go.Proofs.YtiijdojihleggaaGreatDoor
open Go.Sort
section
variable {α : Type} [Inhabited α]
theorem arr_get {d : Array α} {L R : List α} {x : α} (h : d.toList = L ++ x :: R) : d[L.length]! = x := by
 have hl : L.length < d.size := by rw [← Array.length_toList, h]; simp
 rw [getElem!_pos d _ hl, ← Array.getElem_toList]
 simp [h]
theorem swp_toList (d : Array α) (i j : Nat) : (swp d i j).toList = (d.toList.set i d[j]!).set j d[i]! := by
 unfold swp
 rw [Array.toList_setIfInBounds, Array.toList_setIfInBounds]
theorem swp_next {d : Array α} {L R : List α} {u v : α} (h : d.toList = L ++ u :: v :: R) : (swp d (L.length + 1) L.length).toList = L ++ v :: u :: R := by
 have h1 : d[L.length]! = u := arr_get h
 have h2 : d[L.length + 1]! = v := by
  have := arr_get (L := L ++ [u]) (x := v) (R := R) (by simpa using h)
  simpa using this
 rw [swp_toList, h1, h2, h]
 rw [List.set_append_right _ _ (by omega), show L.length + 1 - L.length = 1 from by omega, List.set_cons_succ, List.set_cons_zero, List.set_append_right _ _ (Nat.le_refl _), Nat.sub_self, List.set_cons_zero]
variable (lt : α → α → Bool)
def leO (a b : α) : Bool := !lt b a
theorem inner_list (a : Nat) (x : α) (R : List α) : ∀ (Z X : List α) (W : List α) (d : Array α), d.toList = X ++ Z ++ x :: W → a ≤ X.length → (∀ z ∈ Z, lt x z = true) → (X.length = a ∨ ∃ X0 y, X = X0 ++ [y] ∧ lt x y = false) →
 (insInner lt a (X.length + Z.length) d).toList = X ++ x :: (Z ++ W) := by
 intro Z
 induction hn : Z.length generalizing Z with
 | zero =>
   intro X W d hd ha hz hx
   have hZ : Z = [] := List.eq_nil_of_length_eq_zero hn
   subst hZ
   simp only [List.append_nil, List.nil_append, Nat.add_zero] at hd ⊢
   cases hX : X.length with
   | zero => rw [insInner]; exact hd
   | succ j =>
     rw [insInner]
     rcases hx with hx | ⟨X0, y, rfl, hy⟩
     ·rw [if_neg (by simp; try (intro h; omega))]; exact hd
     ·have hj : X0.length = j := by simpa using hX
      have h1 : d[j + 1]! = x := by rw [← hX]; exact arr_get hd
      have h2 : d[j]! = y := by rw [← hj]; exact arr_get (R := x :: W) (by simpa using hd)
      rw [h1, h2, hy, if_neg (by simp)]; exact hd
 | succ n ih =>
   intro X W d hd ha hz hx
   obtain ⟨Z0, z, rfl⟩ : ∃ Z0 z, Z = Z0 ++ [z] := by
    rcases List.eq_nil_or_concat Z with rfl | ⟨Z0, z, rfl⟩
    ·simp at hn
    ·exact ⟨Z0, z, by simp⟩
   have hl : Z0.length = n := by simpa using hn
   have h1 : d[X.length + n + 1]! = x := by
    have := arr_get (L := X ++ (Z0 ++ [z])) (x := x) (R := W) hd
    simpa [hl, Nat.add_assoc] using this
   have h2 : d[X.length + n]! = z := by
    have := arr_get (L := X ++ Z0) (x := z) (R := x :: W) (by simpa using hd)
    simpa [hl] using this
   rw [show X.length + (n + 1) = X.length + n + 1 from by omega, insInner, h1, h2, hz z (by simp), if_pos (by simp; omega)]
   have h3 : (swp d (X.length + n + 1) (X.length + n)).toList = X ++ Z0 ++ x :: (z :: W) := by
    have := swp_next (L := X ++ Z0) (u := z) (v := x) (R := W) (d := d) (by simpa using hd)
    simpa [hl] using this
   have := ih Z0 hl X (z :: W) _ h3 ha (fun y hy => hz y (by simp [hy])) hx
   simpa using this
variable {lt}
theorem outer_list (hp : PreO (leO lt)) (a b : Nat) (pre post : List α) (ha : pre.length = a) : ∀ (Y S : List α) (d : Array α), d.toList = pre ++ S ++ Y ++ post → SortedS (leO lt) S → a + S.length + Y.length = b →
 (insOuter lt a b (a + S.length) d).toList = pre ++ Y.foldl (insS (leO lt)) S ++ post
 | [], S, d, hd, hs, hb => by
   rw [insOuter, if_neg (by simp at hb; omega)]
   simpa using hd
 | y :: Y, S, d, hd, hs, hb => by
   simp only [List.length_cons] at hb
   rw [insOuter, if_pos (by omega), List.foldl_cons]
   obtain ⟨X1, X2, rfl, h1, h2, h3⟩ := insS_cut hp hs y
   have hi := inner_list lt a y [] X2 (pre ++ X1) (Y ++ post) d (by simpa using hd) (by simp; omega) (fun z hz => by have := h2 z hz; simpa [leO] using this) (by
    rcases List.eq_nil_or_concat X1 with rfl | ⟨X0, u, rfl⟩
    ·left; simpa using ha
    ·right
     refine ⟨pre ++ X0, u, by simp, ?_⟩
     have := h1 u (by simp)
     simpa [leO] using this)
   rw [show a + (X1 ++ X2).length = (pre ++ X1).length + X2.length from by simp; omega]
   have := outer_list hp a b pre post ha Y (insS (leO lt) (X1 ++ X2) y) (insInner lt a ((pre ++ X1).length + X2.length) d) (by rw [hi, h3]; simp) (insS_sorted hp hs y) (by rw [h3]; simp at hb ⊢; omega)
   rw [show (pre ++ X1).length + X2.length + 1 = a + (insS (leO lt) (X1 ++ X2) y).length from by rw [h3]; simp; omega]
   exact this
theorem isort_list (hp : PreO (leO lt)) {pre M post : List α} {d : Array α} {a b : Nat} (hd : d.toList = pre ++ M ++ post) (ha : pre.length = a) (hb : a + M.length = b) : (insertionSort lt d a b).toList = pre ++ isoS (leO lt) M ++ post := by
 cases M with
 | nil =>
   unfold insertionSort
   rw [insOuter, if_neg (by simp at hb; omega)]
   simpa [isoS] using hd
 | cons x M =>
   have := outer_list hp a b pre post ha M [x] d (by simpa using hd) (List.pairwise_singleton ..) (by simp at hb ⊢; omega)
   unfold insertionSort isoS
   rw [List.foldl_cons, show insS (leO lt) [] x = [x] from by simp [insS]]
   exact this
end
end Go.Proofs.YtiijdojihleggaaGreatDoor
namespace Go.Proofs.YtiijdojihleggaaGreatDoor
open Go.RowKit Go.Sort Go.Shelf
section
variable {α : Type} [Inhabited α]
theorem flatK_list (enc : α → List Value) (k : Nat) (hk : ∀ x, (enc x).length = k) (hp : 0 < k) (l : List α) : (flatK enc k l.toArray).toList = l.flatMap enc := by
 apply List.ext_getElem?
 intro j
 have hz : (l.flatMap enc).length = l.length * k := flat_len enc k hk l
 by_cases hj : j < l.length * k
 ·have h1 : j / k < l.length := Nat.div_lt_of_lt_mul (by rw [Nat.mul_comm]; exact hj)
  have h2 : j % k < k := Nat.mod_lt _ hp
  have h3 := flat_get enc k hk l (j / k) (j % k) l[j / k] (List.getElem?_eq_getElem h1) h2
  rw [show j / k * k + j % k = j from by rw [Nat.mul_comm]; exact Nat.div_add_mod j k] at h3
  rw [h3, Array.getElem?_toList]
  have h4 : j < (flatK enc k l.toArray).size := by simpa using hj
  rw [Array.getElem?_eq_getElem h4]
  have h5 := get_flatK enc k l.toArray j (by simpa using hj)
  rw [getElem!_pos _ j h4] at h5
  rw [h5]
  have h6 : (l.toArray)[j / k]! = l[j / k] := by rw [getElem!_pos _ _ (by simpa using h1)]; simp
  rw [h6, getElem!_pos _ _ (by rw [hk]; exact h2), List.getElem?_eq_getElem (by rw [hk]; exact h2)]
 ·rw [show (l.flatMap enc)[j]? = none from List.getElem?_eq_none (by rw [hz]; omega), Array.getElem?_toList, Array.getElem?_eq_none (by simpa using hj)]
theorem holdsK_own {enc : α → List Value} {k : Nat} (hk : ∀ x, (enc x).length = k) (hp : 0 < k) {w : World} {B : Nat} {e : TypeId} {g n cap : Nat} {zs : List α} (h : w.ownsRow B e k (.slice (some ⟨g, 0, none⟩) n cap) n (zs.flatMap enc)) : HoldsK enc k w g 0 zs.toArray := by
 intro j hj
 have hz : (zs.flatMap enc).length = zs.length * k := flat_len enc k hk zs
 have hl := h.1
 have hj2 : j < zs.length * k := by simpa using hj
 have hjn : j < n * k := by omega
 rw [Nat.zero_add]
 refine ⟨?_, h.frozenAt j⟩
 rw [h.cellAt j hjn, ← flatK_list enc k hk hp, Array.getElem?_toList, Array.getElem?_eq_getElem hj, getElem!_pos _ j hj]
 rfl
theorem own_putK {w : World} {B : Nat} {e : TypeId} {k g n cap q : Nat} {xs : List Value} {F : Array Value} (h : w.ownsRow B e k (.slice (some ⟨g, 0, none⟩) n cap) n xs) (hF : F.size = n * k) :
 (putRow id (Sort.ahead w q) g 0 F).ownsRow B e k (.slice (some ⟨g, 0, none⟩) n cap) n F.toList := by
 rcases h.2 with ⟨e0, _⟩ | ⟨g', cap', cur, e0, hb, hg, hn, hm, hs, ht⟩
 ·cases e0
 ·injection e0 with e1 _ e3
  injection e1 with e1
  injection e1 with e1
  subst e1; subst e3
  have hle : n * k ≤ cap * k := Nat.mul_le_mul_right _ hn
  refine ⟨by simp; omega, .inr ⟨g, cap, putCells id 0 F cur, rfl, hb, ?_, hn, hm, by simpa [putCells] using hs, ?_⟩⟩
  ·simp [putRow, mapBlock, Sort.ahead, Array.getElem?_modify, hg, onCells]
  ·apply List.ext_getElem?
   intro j
   rw [List.getElem?_take, Array.getElem?_toList]
   by_cases hj : j < n * k
   ·have hjc : j < cur.size := by omega
    simp only [if_pos hj, putCells, Array.getElem?_mapIdx, Array.getElem?_eq_getElem hjc, Option.map_some]
    rw [if_pos (by simp; omega), Array.getElem?_toList, Array.getElem?_eq_getElem (by omega)]
    simp [getElem!_pos, show j < F.size by omega]
   ·rw [if_neg hj, Array.getElem?_toList, Array.getElem?_eq_none (by omega)]
theorem ext_growY {a w : World} (h : Ext a w) (os : Array Obj) : Ext a (grow w os) := by
 have h0 : Below a.heap.size a w := h
 refine ⟨h0.os, h0.tape, h0.output, Nat.le_trans h0.size (by simp [grow]), fun k hk => ?_⟩
 rw [heap_grow_old _ _ (Nat.lt_of_lt_of_le hk h0.size)]
 exact h0.block k hk
theorem own_sortK {enc : α → List Value} {k : Nat} (hk : ∀ x, (enc x).length = k) (hp : 0 < k) {w : World} {B : Nat} {e : TypeId} {g n cap q : Nat} {xs : List Value} {ys : List α} (h : w.ownsRow B e k (.slice (some ⟨g, 0, none⟩) n cap) n xs) (hy : ys.length = n) (os : Array Obj) :
 (sortWorldK enc k w g 0 q ys.toArray os).ownsRow B e k (.slice (some ⟨g, 0, none⟩) n cap) n (ys.flatMap enc) := by
 have h1 := own_putK (q := q) (F := flatK enc k ys.toArray) h (by simp [hy])
 rw [flatK_list enc k hk hp] at h1
 have h2 := own_ext h1 (ext_growY (Ext.refl _) os)
 exact h2
end
theorem below_sortM {α : Type} [Inhabited α] {enc : α → List Value} {k : Nat} {w : World} {g B : Nat} (hB : B ≤ g) (hg : g < w.heap.size) (n : Nat) (d : Array α) (os : Array Obj) : Below B w (sortWorldK enc k w g 0 n d os) := by
 unfold sortWorldK putRowK
 have h0 : Below B w (putRow id (Sort.ahead w n) g 0 (flatK enc k d)) := Lib.below_putRow (Below.refl B w) hB
 refine ⟨h0.os, h0.tape, h0.output, Nat.le_trans h0.size (by simp [grow]), fun k hk => ?_⟩
 rw [heap_grow_old _ _ (Nat.lt_of_lt_of_le (by omega) h0.size)]
 exact h0.block k hk
def Mb : Type := {x : Mt // -1 ≤ x.n ∧ x.n ≤ 1000}
instance : Inhabited Mb := ⟨⟨⟨0, 0, ⟨#[]⟩, ⟨#[]⟩⟩, by decide, by decide⟩⟩
def mtC (x : Mt) : List Value := [.int .i64 x.i, .int .i64 x.n, .string x.s, .string x.t]
def mbC (x : Mb) : List Value := mtC x.1
def leB (a b : Mb) : Bool := leM a.1 b.1
def cfB (a b : Mb) : Int := b.1.n - a.1.n
theorem mbC_len (x : Mb) : (mbC x).length = 4 := rfl
theorem mbC_one (x : Mb) : ∀ v ∈ mbC x, v.oneCell' = true := by
 intro v hv
 simp only [mbC, mtC, List.mem_cons, List.not_mem_nil, or_false] at hv
 rcases hv with rfl | rfl | rfl | rfl <;> rfl
theorem leO_B : leO (ltOf cfB) = leB := by
 funext a b
 unfold leO ltOf cfB leB leM
 rw [Bool.eq_iff_iff]
 simp
theorem preB : PreO leB := ⟨fun a b c => preM.1 a.1 b.1 c.1, fun a b => preM.2 a.1 b.1⟩
theorem insB_map (l : List Mb) (x : Mb) : (insS leB l x).map (·.1) = insS leM (l.map (·.1)) x.1 := by
 unfold insS
 rw [List.map_merge (r := leB) (s := leM) (f := fun x : Mb => x.1) (fun a _ b _ => rfl)]
 rfl
theorem isoB_map (l : List Mb) : (isoS leB l).map (·.1) = isoS leM (l.map (·.1)) := by
 have key : ∀ (l : List Mb) (o : List Mb), (l.foldl (insS leB) o).map (·.1) = (l.map (·.1)).foldl (insS leM) (o.map (·.1)) := by
  intro l
  induction l with
  | nil => intro o; rfl
  | cons x l ih =>
    intro o
    rw [List.foldl_cons, ih, insB_map]
    rfl
 exact key l []
theorem cmp_any (x y : Mb) (w : World) : Calls Tryz.prog 35 #[.agg (mbC x).toArray, .agg (mbC y).toArray] w fun e w' => e = .returned (.int .i64 (cfB x y)) ∧ ∃ q os, w' = grow (w.drewN q) os := by
 obtain ⟨⟨xi, xn, xs, xt⟩, hx1, hx2⟩ := x
 obtain ⟨⟨yi, yn, ys, yt⟩, hy1, hy2⟩ := y
 simp only at hx1 hx2 hy1 hy2
 unfold mbC mtC cfB
 simp only
 go_enter Tryz.func35, Tryz.ntmps35
 go_wp2
 go_ret
 exact ⟨ret_int (by first | rfl | (rw [IntKind.wrap_i64]; omega)), 0, #[.cells #[.int .i64 xi, .int .i64 xn, .string xs, .string xt] 39, .cells #[.int .i64 yi, .int .i64 yn, .string ys, .string yt] 39], by rw [alloc_eq_grow, alloc_eq_grow, grow_grow]; rfl⟩
theorem insM_any {pre M post : List Mb} {a b g c n : Nat} {B : Nat} {w : World} (ho : w.ownsRow B 39 4 (.slice (some ⟨g, 0, none⟩) n c) n ((pre ++ M ++ post).flatMap mbC)) (hB : B ≤ g) (hg : g < w.heap.size) (ha : pre.length = a) (hb : a + M.length = b) (hn : n ≤ 1000000) :
 Calls Tryz.prog 76 #[.slice (some ⟨g, 0, none⟩) n c, .int .i64 a, .int .i64 b, .func (.func 35) #[] #[]] w fun e w' =>
  e = .returned (.tuple #[]) ∧ w'.ownsRow B 39 4 (.slice (some ⟨g, 0, none⟩) n c) n ((pre ++ isoS leB M ++ post).flatMap mbC) ∧ Below B w w' := by
 have hl : (pre ++ M ++ post).length = n := by
  have h1 := ho.1
  rw [flat_len mbC 4 mbC_len] at h1
  omega
 have hH := holdsK_own mbC_len (by decide) ho
 have hsz : (pre ++ M ++ post).toArray.size = n := by simpa using hl
 have hcmp : CmpLays Tryz.prog 35 #[] mbC 4 cfB g 0 (pre ++ M ++ post).toArray.size w := fun mm os dk _ x y => cmp_any x y _
 have eg : ∀ args w, (callFunc 35 args).run Tryz.prog w = .ok (.enter 35 args) w := enters_of Tryz.func35 (by kernel_rfl) rfl
 have hab : a ≤ b := by omega
 have hbn : b ≤ n := by simp at hl; omega
 have hS := AnyQ.insertionSortCmpFunc (α := Mb) Tryz.insM 4 Tryz.isAgg39 Tryz.sizeOf39 mbC mbC_len mbC_one cfB 35 #[] g 0 c a b (pre ++ M ++ post).toArray w eg hcmp hH hg hab (by rw [hsz]; exact hbn) (by rw [hsz]; omega)
 rw [hsz] at hS
 change Calls Tryz.prog 76 _ _ _ at hS
 refine hS.mono ?_
 rintro e w' ⟨rfl, q, os, rfl⟩
 have hi := isort_list (lt := ltOf cfB) (by rw [leO_B]; exact preB) (pre := pre) (M := M) (post := post) (d := (pre ++ M ++ post).toArray) (by simp) ha hb
 rw [leO_B] at hi
 have hya : insertionSort (ltOf cfB) (pre ++ M ++ post).toArray a b = (pre ++ isoS leB M ++ post).toArray := by
  rw [← hi]
 rw [hya]
 refine ⟨rfl, own_sortK mbC_len (by decide) ho (by have := isoS_len leB M; simp at hl ⊢; omega) os, ?_⟩
 exact below_sortM hB hg q _ os
end Go.Proofs.YtiijdojihleggaaGreatDoor
namespace Go.Proofs.YtiijdojihleggaaGreatDoor
open Go.RowKit
theorem insN_any (c : Nat) (w : World) : Calls Tryz.prog 76 #[.slice none 0 c, .int .i64 0, .int .i64 0, .func (.func 35) #[] #[]] w fun e w' => e = .returned (.tuple #[]) ∧ w' = w := by
 go_enter Tryz.func76, Tryz.ntmps76
 go_wp2
 refine wp_loop_rounds 1 ?_
 rw [rounds_succ]
 go_wp2
 go_end0
 exact ⟨rfl, rfl⟩
def StabM (N : Nat) : Prop := ∀ (l : List Mb) (A : Option Addr) (n c B : Nat) (w : World), l.length ≤ N → w.ownsRow B 39 4 (.slice A n c) n (l.flatMap mbC) →
 Calls Tryz.prog 34 #[.slice A n c, .func (.func 35) #[] #[]] w fun e w' =>
  e = .returned (.tuple #[]) ∧ w'.ownsRow B 39 4 (.slice A n c) n ((isoS leB l).flatMap mbC) ∧ Below B w w'
set_option maxHeartbeats 1000000 in
theorem stab_small : StabM 19 := by
 intro l A n c B w hl ho
 have hn : l.length = n := by
  have h1 := ho.1
  rw [flat_len mbC 4 mbC_len] at h1
  omega
 have KI : Calls Tryz.prog 76 #[.slice A n c, .int .i64 0, .int .i64 n, .func (.func 35) #[] #[]] w fun e w' => e = .returned (.tuple #[]) ∧ w'.ownsRow B 39 4 (.slice A n c) n ((isoS leB l).flatMap mbC) ∧ Below B w w' := by
  rcases ho.2 with ⟨hv, hx⟩ | ⟨g, cap, cur, hv, hbase, hb, _⟩
  ·injection hv with hv1 hv2 hv3
   subst hv1; subst hv2; subst hv3
   have hl0 : l = [] := List.eq_nil_of_length_eq_zero hn
   subst hl0
   refine (insN_any 0 w).mono ?_
   rintro e w' ⟨rfl, rfl⟩
   exact ⟨rfl, ho, Below.refl _ _⟩
  ·injection hv with hv1 hv2 hv3
   subst hv1
   have h := insM_any (pre := []) (M := l) (post := []) (a := 0) (b := n) (by simpa using ho) hbase (Array.getElem?_eq_some_iff.1 hb).1 rfl (by omega) (by omega)
   refine h.mono ?_
   rintro e w' ⟨rfl, h1, h2⟩
   exact ⟨rfl, by simpa using h1, h2⟩
 have HK := hid KI
 have K2 : Calls Tryz.prog 56 #[.slice A n c, .int .i64 n, .func (.func 35) #[] #[]] w fun e w' => e = .returned (.tuple #[]) ∧ w'.ownsRow B 39 4 (.slice A n c) n ((isoS leB l).flatMap mbC) ∧ Below B w w' := by
  clear KI ho
  go_enter Tryz.func56, Tryz.ntmps56
  go_wp2
  refine wp_loop_rounds 1 ?_
  rw [rounds_succ]
  go_wp2_with (go_at_call 76; refine HK.out.mono ?_; rintro e w1 ⟨rfl, h1, h2⟩; have H1 := hid h1; have H2 := hid h2; clear h1 h2)
  refine wp_loop_rounds 1 ?_
  rw [rounds_succ]
  go_wp2
  all_goals first | (exfalso; omega) | (go_end0; exact ⟨rfl, H1.out, H2.out⟩)
 have HK2 := hid K2
 clear KI K2 ho HK
 go_enter Tryz.func34, Tryz.ntmps34
 go_wp2_with (go_at_call 56; refine HK2.out.mono ?_; rintro e w1 ⟨rfl, h1, h2⟩; have H1 := hid h1; have H2 := hid h2; clear h1 h2)
 go_end0
 exact ⟨rfl, H1.out, H2.out⟩
end Go.Proofs.YtiijdojihleggaaGreatDoor
