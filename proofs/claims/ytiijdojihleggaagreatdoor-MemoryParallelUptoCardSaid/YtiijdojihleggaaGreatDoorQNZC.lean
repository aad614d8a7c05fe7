import Derived.Test.YtiijdojihleggaaGreatDoorQNB1
import Derived.Test.YtiijdojihleggaaGreatDoorShelf
import Derived.Test.YtiijdojihleggaaGreatDoorQNZA
import Derived.Sort.OwnSortedInts
import Derived.Lib.SlicesCompact
import Derived.Test.YtiijdojihleggaaGreatDoorProg
import Derived.Test.YtiijdojihleggaaGreatDoorQBaseg
import Derived.Test.YtiijdojihleggaaGreatDoorQNZB
set_option maxRecDepth 100000
set_option linter.unusedSimpArgs false
set_option linter.unusedVariables false
open Go.Lib (hid)
namespace Go.Proofs.YtiijdojihleggaaGreatDoor
open Go.RowKit Go.Sort
section
variable {α : Type} [Inhabited α] [DecidableEq α]
theorem cmp_mem (l : List α) (x : α) : x ∈ Lib.compact l ↔ x ∈ l := by
 unfold Lib.compact Lib.compactUpTo
 rw [List.mem_map]
 constructor
 ·rintro ⟨j, hj, rfl⟩
  have h := List.mem_range.1 (List.mem_filter.1 hj).1
  rw [getElem!_pos l.toArray j (by simpa using h)]
  simp
 ·intro h
  obtain ⟨n, hn, e⟩ := List.getElem_of_mem h
  have key : ∀ n, (hn : n < l.length) → l[n] = x → ∃ j, j ∈ (List.range l.length).filter (Lib.keeps l.toArray) ∧ l.toArray[j]! = x := by
   intro n
   induction n with
   | zero =>
     intro hn e
     refine ⟨0, List.mem_filter.2 ⟨List.mem_range.2 hn, by simp [Lib.keeps]⟩, ?_⟩
     rw [getElem!_pos l.toArray 0 (by simpa using hn)]; simpa using e
   | succ n ih =>
     intro hn e
     by_cases h2 : l[n]'(by omega) = x
     ·exact ih (by omega) h2
     ·refine ⟨n + 1, List.mem_filter.2 ⟨List.mem_range.2 hn, ?_⟩, ?_⟩
      ·unfold Lib.keeps
       rw [decide_eq_true_eq]
       right
       rw [getElem!_pos l.toArray (n + 1) (by simpa using hn), getElem!_pos l.toArray (n + 1 - 1) (by simp; omega)]
       simp only [List.getElem_toArray, Nat.add_sub_cancel]
       rw [e]
       exact fun q => h2 q.symm
      ·rw [getElem!_pos l.toArray (n + 1) (by simpa using hn)]; simpa using e
  exact key n hn e
theorem cmp_le (l : List α) : (Lib.compact l).length ≤ l.length := by
 unfold Lib.compact Lib.compactUpTo
 rw [List.length_map]
 have := List.length_filter_le (Lib.keeps l.toArray) (List.range l.length)
 simpa using this
end
theorem cmp_lt {l : List Int} (h : l.Pairwise (· ≤ ·)) : (Lib.compact l).Pairwise (· < ·) := by
 have hp := List.pairwise_iff_getElem.1 h
 unfold Lib.compact Lib.compactUpTo
 rw [List.pairwise_map]
 refine List.Pairwise.imp_of_mem ?_ (List.Pairwise.filter _ List.pairwise_lt_range)
 intro i j hi hj hij
 obtain ⟨_, h2⟩ := List.mem_filter.1 hi
 obtain ⟨h3, h4⟩ := List.mem_filter.1 hj
 have h3 := List.mem_range.1 h3
 unfold Lib.keeps at h4
 rw [decide_eq_true_eq] at h4
 rw [getElem!_pos l.toArray j (by simpa using h3), getElem!_pos l.toArray (j - 1) (by simp; omega)] at h4
 rw [getElem!_pos l.toArray j (by simpa using h3), getElem!_pos l.toArray i (by simp; omega)]
 simp only [List.getElem_toArray] at h4 ⊢
 have h5 : l[j]'h3 ≠ l[j - 1]'(by omega) := by
  rcases h4 with h4 | h4
  ·omega
  ·exact h4
 have h6 : l[j - 1]'(by omega) ≤ l[j]'h3 := hp (j - 1) j (by omega) h3 (by omega)
 have h7 : l[i]'(by omega) ≤ l[j - 1]'(by omega) := by
  by_cases e : i = j - 1
  ·subst e; exact Int.le_refl _
  ·exact hp i (j - 1) (by omega) (by omega) (by omega)
 omega
theorem Sl.takeZ {w : World} {A : Option Addr} {n : Nat} {xs : List Value} (h : Sl w A n xs) (k : Nat) (hk : k ≤ n) : Sl w A k (xs.take k) :=
 ⟨by rw [List.length_take, h.1]; omega, fun j u hu => h.2 j u (by rw [List.getElem?_take] at hu; split at hu; exact hu; cases hu)⟩
def srtI (l : List Int) : List Int := l.mergeSort fun x y => decide (x ≤ y)
theorem srtI_sorted (l : List Int) : (srtI l).Pairwise (· ≤ ·) := by
 have := List.pairwise_mergeSort (le := fun (x y : Int) => decide (x ≤ y)) (fun a b c h1 h2 => by simp at *; omega) (fun a b => by simp; omega) l
 exact this.imp fun h => by simpa using h
theorem srtI_mem (l : List Int) (x : Int) : x ∈ srtI l ↔ x ∈ l := (List.mergeSort_perm l _).mem_iff
def srtT (l : List (List UInt8)) : List (List UInt8) := l.mergeSort fun x y => decide (x ≤ y)
theorem srtT_mem (l : List (List UInt8)) (x : List UInt8) : x ∈ srtT l ↔ x ∈ l := (List.mergeSort_perm l _).mem_iff
theorem sortT_any (l : List (List UInt8)) (A : Option Addr) (n c B : Nat) (w : World) (ho : w.ownsRow B 9 1 (.slice A n c) l.length (l.map strv)) (hl : l.length ≤ 1048576) (hB : B ≤ w.heap.size) :
 Calls Tryz.prog 72 #[.slice A n c] w fun e w' => e = .returned (.tuple #[]) ∧ w'.ownsRow B 9 1 (.slice A n c) l.length ((srtT l).map strv) ∧ Below B w w' := by
 rcases ho.2 with ⟨hv, hx⟩ | ⟨g, cap, cur, hv, hbase, hb, h1, h2, h3, h4⟩
 ·injection hv with hv1 hv2 hv3
  subst hv1; subst hv2; subst hv3
  have hl0 : l = [] := by simpa using hx
  subst hl0
  refine (Tryz.slices_Sort_string_none none 0 w).mono ?_
  rintro e w' ⟨rfl, rfl⟩
  exact ⟨rfl, by simpa [srtT] using ho, Below.refl _ _⟩
 ·injection hv with hv1 hv2 hv3
  subst hv1; subst hv2; subst hv3
  have hH : Holds encStr w g 0 l.toArray := holds_of_block hb (by rw [Nat.mul_one] at h4; exact h4)
  refine (Tryz.slices_Sort_string g 0 c l w hH (Array.getElem?_eq_some_iff.1 hb).1 (by omega)).mono ?_
  rintro e w' ⟨rfl, nn, os, rfl⟩
  refine ⟨rfl, ?_, ?_⟩
  ·exact ownsRow_sorted (ss := l) (ts := srtT l) (List.mergeSort_perm l _).length_eq hbase hb h1 h2 h3
  ·exact Below.grown (Below.refl B w) (grownBy_sorted _) hB (fun k hk => by injection hk with hk; omega)
theorem compT_any (l : List (List UInt8)) (A : Option Addr) (n c B : Nat) (w : World) (ho : w.ownsRow B 9 1 (.slice A n c) l.length (l.map strv)) (hl : l.length ≤ 1048576) (hB : B ≤ w.heap.size) :
 Calls Tryz.prog 73 #[.slice A n c] w fun e w' => ∃ A' c', e = .returned (.slice A' (Lib.compact l).length c') ∧ Sl w' A' (Lib.compact l).length ((Lib.compact l).map strv) ∧ Below B w w' ∧ ∀ ad, A' = some ad → B ≤ ad.block := by
 rcases ho.2 with ⟨hv, hx⟩ | ⟨g, cap, cur, hv, hbase, hb, h1, h2, h3, h4⟩
 ·injection hv with hv1 hv2 hv3
  subst hv1; subst hv2; subst hv3
  have hl0 : l = [] := by simpa using hx
  subst hl0
  refine (Tryz.slices_Compact_string_empty none 0 w).mono ?_
  rintro e w' ⟨rfl, rfl⟩
  exact ⟨none, 0, rfl, Sl.nil _ _, Below.refl _ _, fun ad h => by cases h⟩
 ·injection hv with hv1 hv2 hv3
  subst hv1; subst hv2; subst hv3
  have hH : Holds encStr w g 0 l.toArray := holds_of_block hb (by rw [Nat.mul_one] at h4; exact h4)
  refine (Tryz.slices_Compact_string g 0 c l w hH (by omega) h1).mono ?_
  rintro e w' ⟨rfl, q, rfl⟩
  have hle := cmp_le l
  have hts : (Lib.compact l ++ List.replicate (l.length - (Lib.compact l).length) []).length = l.length := by simp; omega
  have ho2 := ownsRow_sorted (w := w) (n := q) (os := #[]) (ss := l) (ts := Lib.compact l ++ List.replicate (l.length - (Lib.compact l).length) []) hts hbase hb h1 h2 h3
  rw [grow_empty] at ho2
  have hg2 := grownBy_sorted (w := w) (g := g) (n := q) (os := #[]) (Lib.compact l ++ List.replicate (l.length - (Lib.compact l).length) []).toArray
  rw [grow_empty] at hg2
  obtain ⟨_, hs⟩ := own_sl' ho2
  have hs2 := hs.takeZ (Lib.compact l).length hle
  rw [← List.map_take, List.take_left] at hs2
  exact ⟨_, c, rfl, hs2, Below.grown (Below.refl B w) hg2 hB (fun k hk => by injection hk with hk; omega), fun ad h => by injection h with h; subst h; exact hbase⟩
theorem sortI_any (l : List Int) (A : Option Addr) (n c B : Nat) (w : World) (ho : w.ownsRow B 3 1 (.slice A n c) l.length (l.map (Value.int .i64))) (hl : l.length ≤ 1073741824) (hB : B ≤ w.heap.size) :
 Calls Tryz.prog 53 #[.slice A n c] w fun e w' => e = .returned (.tuple #[]) ∧ w'.ownsRow B 3 1 (.slice A n c) l.length ((srtI l).map (Value.int .i64)) ∧ Below B w w' := by
 rcases ho.2 with ⟨hv, hx⟩ | ⟨g, cap, cur, hv, hbase, hb, h1, h2, h3, h4⟩
 ·injection hv with hv1 hv2 hv3
  subst hv1; subst hv2; subst hv3
  have hl0 : l = [] := by simpa using hx
  subst hl0
  refine (Tryz.slices_Sort_int_none none 0 w).mono ?_
  rintro e w' ⟨rfl, rfl⟩
  exact ⟨rfl, by simpa [srtI] using ho, Below.refl _ _⟩
 ·injection hv with hv1 hv2 hv3
  subst hv1; subst hv2; subst hv3
  have hH : Holds (Value.int .i64) w g 0 l.toArray := holds_of_blockI hb (by rw [Nat.mul_one] at h4; exact h4)
  refine (Tryz.slices_Sort_int g 0 c l w hH (Array.getElem?_eq_some_iff.1 hb).1 (by omega)).mono ?_
  rintro e w' ⟨rfl, nn, os, rfl⟩
  refine ⟨rfl, ?_, ?_⟩
  ·exact ownsRow_sortedI (ss := l) (ts := srtI l) (List.mergeSort_perm l _).length_eq hbase hb h1 h2 h3
  ·exact Below.grown (Below.refl B w) (grownBy_sortedI _) hB (fun k hk => by injection hk with hk; omega)
theorem compI_any (l : List Int) (A : Option Addr) (n c B : Nat) (w : World) (ho : w.ownsRow B 3 1 (.slice A n c) l.length (l.map (Value.int .i64))) (hl : l.length ≤ 1073741824) (hB : B ≤ w.heap.size) :
 Calls Tryz.prog 54 #[.slice A n c] w fun e w' => ∃ A' c', e = .returned (.slice A' (Lib.compact l).length c') ∧ Sl w' A' (Lib.compact l).length ((Lib.compact l).map (Value.int .i64)) ∧ Below B w w' ∧ ∀ ad, A' = some ad → B ≤ ad.block := by
 rcases ho.2 with ⟨hv, hx⟩ | ⟨g, cap, cur, hv, hbase, hb, h1, h2, h3, h4⟩
 ·injection hv with hv1 hv2 hv3
  subst hv1; subst hv2; subst hv3
  have hl0 : l = [] := by simpa using hx
  subst hl0
  refine (Tryz.slices_Compact_int_empty none 0 w).mono ?_
  rintro e w' ⟨rfl, rfl⟩
  exact ⟨none, 0, rfl, Sl.nil _ _, Below.refl _ _, fun ad h => by cases h⟩
 ·injection hv with hv1 hv2 hv3
  subst hv1; subst hv2; subst hv3
  have hH : Holds (Value.int .i64) w g 0 l.toArray := holds_of_blockI hb (by rw [Nat.mul_one] at h4; exact h4)
  refine (Tryz.slices_Compact_int g 0 c l w hH (by omega) h1).mono ?_
  rintro e w' ⟨rfl, q, rfl⟩
  have hle := cmp_le l
  have hts : (Lib.compact l ++ List.replicate (l.length - (Lib.compact l).length) 0).length = l.length := by simp; omega
  have ho2 := ownsRow_sortedI (w := w) (n := q) (os := #[]) (ss := l) (ts := Lib.compact l ++ List.replicate (l.length - (Lib.compact l).length) 0) hts hbase hb h1 h2 h3
  rw [grow_empty] at ho2
  have hg2 := grownBy_sortedI (w := w) (g := g) (n := q) (os := #[]) (Lib.compact l ++ List.replicate (l.length - (Lib.compact l).length) 0).toArray
  rw [grow_empty] at hg2
  obtain ⟨_, hs⟩ := own_sl' ho2
  have hs2 := hs.takeZ (Lib.compact l).length hle
  rw [← List.map_take, List.take_left] at hs2
  exact ⟨_, c, rfl, hs2, Below.grown (Below.refl B w) hg2 hB (fun k hk => by injection hk with hk; omega), fun ad h => by injection h with h; subst h; exact hbase⟩
set_option maxHeartbeats 2000000 in
theorem clSt_any (xs : List Value) (A : Option Addr) (n c : Nat) (w : World) (hs : SlN w A n 1 xs) (h1 : ∀ u ∈ xs, u.oneCell' = true) (hn : n * 16 ≤ 140737488355328) :
 Calls Tryz.prog 71 #[.slice A n c] w fun e w' => ∃ v', e = .returned v' ∧ w'.ownsRow w.heap.size 9 1 v' n xs ∧ Ext w w' := by
 obtain ⟨i0, hi, hz0, hz1, hz2⟩ := info_parts (show (Tryz.prog.info? 9).map (fun i => (i.zero, i.size, i.bytes)) = some (some (.string ⟨#[]⟩), 1, 16) from by kernel_rfl)
 have hno : A.isNone = true → n = 0 ∧ xs = [] := fun hq => by
  cases A with
  | some ad => cases hq
  | none =>
    cases hy : xs with
    | nil => exact ⟨by have := hs.1; rw [hy] at this; simp at this; omega, rfl⟩
    | cons x r =>
      obtain ⟨b, o, ha, _⟩ := hs.2 0 x (by rw [hy]; rfl)
      cases ha
 have hfl : ∀ ad, A = some ad → ∀ j u, xs[j]? = some u → (w.alloc (.cells #[] 9)).cell? (ad.add j) = some u := fun ad ha j u hu => by
  obtain ⟨b, o, ha2, hb, hc⟩ := (hs.ext ((Ext.refl w).alloc _)).2 j u hu
  rw [ha] at ha2
  injection ha2 with ha2
  subst ha2
  rw [add_flat]
  exact hc
 have HN := hid hno
 have HF := hid hfl
 have HL := hid hs.1
 have HLM := hid hn
 clear hs hno hfl hn
 have q24 : ∀ (w : World) (a : Option Addr) (n c n' c' : Nat), (binOp .eql 44 (.slice a n c) (.slice none n' c')).run Tryz.prog w = .ok (.bool a.isNone) w := fun w a n c n' c' => Lib.run_eql_slice_nil w _ _ a n c n' c' Tryz.underlying44
 cases hq : A.isNone
 ·obtain ⟨ad, rfl⟩ : ∃ ad, A = some ad := by cases A with | none => cases hq | some ad => exact ⟨ad, rfl⟩
  have hl47 : n * 16 ≤ 140737488355328 := HLM.out
  have hl63 : n ≤ maxLen := by unfold maxLen; omega
  have HL3 := hid hl47
  have HM3 := hid hl63
  clear hl47 hl63
  go_enter Tryz.func71, Tryz.ntmps71
  go_wp2_with (at_builtin; refine wpList_appN _ rfl _ _ 44 rfl w.heap.size 9 i0 _ 1 16 Tryz.underlying44 hi hz0 hz1 hz2 rfl (by decide) _ 0 [] rfl (World.ownsRow_made w #[] 0 (Nat.le_refl _) (Nat.zero_le _) rfl) ad n c _ rfl HL.out (HF.out ad rfl) h1 (by rw [Nat.zero_add]; exact HM3.out) (by rw [Nat.zero_add]; exact HL3.out) (by simp) ?_)
  intro v' w' ho hg hwh
  try rw [List.nil_append] at ho
  try rw [Nat.zero_add] at ho
  obtain ⟨A5, c5, hv5, hs5⟩ := own_slN ho
  subst hv5
  have HO := hid ho
  have HW5 := hid (((Ext.refl w).alloc _).grown hg (by intro k hk; simp [Value.ownBlock] at hk; omega))
  clear ho hs5 hg hwh
  go_wp2
  go_ret
  exact ⟨_, rfl, HO.out, HW5.out⟩
 ·obtain ⟨rfl, rfl⟩ := HN.out hq
  go_enter Tryz.func71, Tryz.ntmps71
  go_wp2
  go_ret
  exact ⟨_, rfl, World.ownsRow_nil _ _ _ _, Ext.refl w⟩
theorem Ext.trans_below {a b c : World} (h : Ext a b) (k : Below a.heap.size b c) : Ext a c := by
 have h0 : Below a.heap.size a b := h
 exact h0.trans k
theorem sl_slN {w : World} {A : Option Addr} {n : Nat} {xs : List Value} (h : Sl w A n xs) : SlN w A n 1 xs :=
 ⟨by rw [h.1, Nat.mul_one], fun j u hu => by
  obtain ⟨ad, rfl, hb, hc⟩ := h.2 j u hu
  have hj : j < n := by have := (List.getElem?_eq_some_iff.1 hu).1; rw [h.1] at this; exact this
  obtain ⟨b, o, rfl, hb2⟩ := addr_flat h (by omega)
  exact ⟨b, o, rfl, hb2, by rw [add_flat] at hc; exact hc⟩⟩
def keysL (ws : List ByteArray) : List ByteArray := if ws = [] then [⟨#[]⟩] else (Lib.compact (srtT (ws.map fun x => x.data.toList))).map fun x => ⟨x.toArray⟩
theorem keys_mem (ws : List ByteArray) (k : ByteArray) : k ∈ keysL ws ↔ KeyW ws k := by
 unfold keysL KeyW
 split
 ·rename_i h
  subst h
  simp
 ·rename_i h
  rw [List.mem_map]
  constructor
  ·rintro ⟨x, hx, rfl⟩
   rw [cmp_mem, srtT_mem, List.mem_map] at hx
   obtain ⟨y, hy, rfl⟩ := hx
   exact .inr hy
  ·rintro (⟨h2, _⟩ | h2)
   ·exact absurd h2 h
   ·exact ⟨k.data.toList, by rw [cmp_mem, srtT_mem]; exact List.mem_map_of_mem h2, rfl⟩
theorem keys_len (ws : List ByteArray) : (keysL ws).length ≤ ws.length + 1 := by
 unfold keysL
 split
 ·simp
 ·rw [List.length_map]
  have h1 := cmp_le (srtT (ws.map fun x => x.data.toList))
  have h2 := (List.mergeSort_perm (ws.map fun x => x.data.toList) fun x y => decide (x ≤ y)).length_eq
  unfold srtT at h1 ⊢
  rw [List.length_map] at h2
  omega
set_option maxHeartbeats 2000000 in
theorem tkeys_any (ws : List ByteArray) (A : Option Addr) (n c : Nat) (w : World) (hs : Sl w A n (ws.map .string)) (hn : n ≤ 100000) :
 Calls Tryz.prog 51 #[.slice A n c] w fun e w' => ∃ B d, e = .returned (.slice B (keysL ws).length d) ∧ Sl w' B (keysL ws).length ((keysL ws).map .string) ∧ Ext w w' ∧ ∀ ad, B = some ad → w.heap.size ≤ ad.block := by
 have hl : n = ws.length := by have := hs.1; rw [List.length_map] at this; exact this.symm
 by_cases h0 : ws = []
 ·subst h0
  have hl0 : n = 0 := hl
  subst hl0
  clear hs hl hn
  go_enter Tryz.func51, Tryz.ntmps51
  go_wp2
  go_ret
  exact ⟨some ⟨w.heap.size, 0, none⟩, 1, rfl, Sl.one w (.string ⟨#[]⟩) 9, (Ext.refl w).alloc _, fun ad h => by injection h with h; subst h; exact Nat.le_refl _⟩
 ·have hpos : 0 < n := by
   rw [hl]
   exact List.length_pos_iff.2 h0
  have HS := hid (clSt_any (ws.map .string) A n c w (sl_slN hs) (string_one ws) (by omega))
  have hkl : keysL ws = (Lib.compact (srtT (ws.map fun x => x.data.toList))).map fun x => ⟨x.toArray⟩ := if_neg h0
  have hst : ws.map Value.string = (ws.map fun x => x.data.toList).map strv := by
   rw [List.map_map]
   exact List.map_congr_left fun x _ => rfl
  have hll : (ws.map fun x => x.data.toList).length = n := by rw [List.length_map]; exact hl.symm
  obtain ⟨K, hK⟩ : ∃ K, K = keysL ws := ⟨_, rfl⟩
  rw [← hK] at hkl ⊢
  have HKL := hid hkl
  have HST := hid hst
  have HLL := hid hll
  have hb : ((n : Int) == 0) = false := by simp; omega
  have hsl : (srtT (ws.map fun x => x.data.toList)).length = n := by unfold srtT; rw [(List.mergeSort_perm _ _).length_eq]; exact hll
  have HSL := hid hsl
  clear hs hl h0 hkl hst hll hK hsl
  go_enter Tryz.func51, Tryz.ntmps51
  go_wp2_with (first
   | (go_at_call 71; refine HS.out.mono ?_; rintro e w1 ⟨v1, rfl, ho1, hx1⟩; obtain ⟨A1, c1, rfl, _⟩ := own_sl ho1; have HO1 := hid (show w1.ownsRow w.heap.size 9 1 (.slice A1 n c1) (ws.map fun x => x.data.toList).length ((ws.map fun x => x.data.toList).map strv) from by rw [HLL.out, ← HST.out]; exact ho1); have HX1 := hid hx1; clear ho1 hx1)
   | (go_at_call 72; refine (sortT_any _ _ _ _ _ _ HO1.out (by rw [HLL.out]; omega) (Ext.size HX1.out)).mono ?_; rintro e w2 ⟨rfl, ho2, hx2⟩; have HO2 := hid (show w2.ownsRow w.heap.size 9 1 (.slice A1 n c1) (srtT (ws.map fun x => x.data.toList)).length ((srtT (ws.map fun x => x.data.toList)).map strv) from by rw [HSL.out.trans HLL.out.symm]; exact ho2); have HX2 := hid (HX1.out.trans_below hx2); clear ho2 hx2)
   | (go_at_call 73; refine (compT_any _ _ _ _ _ _ HO2.out (by rw [HSL.out]; omega) (Ext.size HX2.out)).mono ?_; rintro e w3 ⟨A3, c3, rfl, hs3, hx3, hb3⟩; have HS3 := hid hs3; have HX3 := hid (HX2.out.trans_below hx3); have HB3 := hid hb3; clear hs3 hx3 hb3))
  go_ret
  have hlen : K.length = (Lib.compact (srtT (ws.map fun x => x.data.toList))).length := by rw [HKL.out, List.length_map]
  rw [hlen]
  refine ⟨A3, c3, rfl, ?_, HX3.out, HB3.out⟩
  rw [HKL.out, List.map_map]
  exact HS3.out
end Go.Proofs.YtiijdojihleggaaGreatDoor
namespace Go.Proofs.YtiijdojihleggaaGreatDoor.D6
open Go.RowKit
theorem part_any (c : Int) (w : World) :
 Calls Tryz.prog 52 #[.int .u8 c] w fun e w' => e = .returned (.bool (isPart c)) ∧ w = w' := by
 go_enter Tryz.func52, Tryz.ntmps52
 go_wp2
 all_goals (go_ret; exact ⟨ret_bool (by unfold isPart; rw [Bool.eq_iff_iff]; simp; omega), rfl⟩)
theorem words_any (s : ByteArray) (w : World) (hs : s.size ≤ 1048576) :
 Calls Tryz.prog 31 #[.string s] w fun e w' => ∃ A n c, e = .returned (.slice A n c) ∧ Sl w' A n ((wordsOf s.data.toList).map strv) ∧ Ext w w' ∧ ∀ ad, A = some ad → w.heap.size ≤ ad.block ∧ ad.block < w'.heap.size := by
 obtain ⟨i0, hi, hz0, hz1, hz2⟩ := info_parts (show (Tryz.prog.info? 9).map (fun i => (i.zero, i.size, i.bytes)) = some (some (.string ⟨#[]⟩), 1, 16) from by kernel_rfl)
 go_enter Tryz.func31, Tryz.ntmps31
 go_wp2
 go_loopw [3, 4] (fun v i wr => Hid (∃ (k n : Nat) (xs : List (List UInt8)), k ≤ s.size ∧ n ≤ k ∧ i = .int .i64 k ∧ wr.ownsRow w.heap.size 9 1 v n (xs.map strv) ∧ xs ++ wordsOf (s.data.toList.drop k) = wordsOf s.data.toList ∧ Ext w wr)) (fun _ i _ => s.size - (intOf i).toNat)
 case atStart => exact ⟨0, 0, [], Nat.zero_le _, Nat.le_refl _, rfl, World.ownsRow_nil _ _ _ _, rfl, Ext.refl _⟩
 case round =>
  obtain ⟨k, n, xs, hk, hnk, rfl, hown, hxs, hw⟩ := hrel
  have HX := hid hxs
  have HW := hid hw
  have HO := hid hown
  clear hxs hw hown
  by_cases hlt : k < s.size
  ·go_upto_block 2 with (fail)
   go_cut [4, 5] (fun i j wc => Hid (∃ e : Nat, k < e ∧ e ≤ s.size ∧ i = .int .i64 k ∧ j = .int .i64 e ∧ wc = wr ∧ wordsOf (s.data.toList.drop k) = (s.data.toList.drop k).take (e - k) :: wordsOf (s.data.toList.drop e)))
   case first =>
    go_wp2_with (go_at_call 52; refine (part_any _ _).mono ?_; rintro e w' ⟨rfl, rfl⟩)
    ·have h1 := wrd_sp s k hlt (by omega)
     exact ⟨⟨k + 1, n, xs, by omega, by omega, by go_num, HO.out, by rw [← h1]; exact HX.out, HW.out⟩, by simp [intOf]; omega⟩
    ·have h1 := wrd_sp s k hlt (by omega)
     exact ⟨⟨k + 1, n, xs, by omega, by omega, by go_num, HO.out, by rw [← h1]; exact HX.out, HW.out⟩, by simp [intOf]; omega⟩
    ·rename_i h10
     have h1 := wrd_sp s k hlt (by simp only [beq_iff_eq] at h10; omega)
     exact ⟨⟨k + 1, n, xs, by omega, by omega, by go_num, HO.out, by rw [← h1]; exact HX.out, HW.out⟩, by simp [intOf]; omega⟩
    ·have hpk : isPart (s[k].toNat : Int) = true := by assumption
     simp only [hpk]
     have HPK := hid hpk
     go_loopw [5] (fun j wx => Hid (∃ e : Nat, k < e ∧ e ≤ s.size ∧ j = .int .i64 e ∧ wx = wr ∧ ∀ i, k ≤ i → i < e → (hs : i < s.size) → isPart (s[i].toNat : Int) = true)) (fun j _ => s.size - (intOf j).toNat)
     case atStart => exact ⟨k + 1, by omega, by omega, by go_num, rfl, fun i h1 h2 h3 => by have hik : i = k := (by omega); subst hik; exact HPK.out⟩
     case round =>
      obtain ⟨e, hke, hes, rfl, rfl, hall⟩ := hrel
      have HA := hid hall
      clear hall
      by_cases hlt2 : e < s.size
      ·go_wp2_with (go_at_call 52; refine (part_any _ _).mono ?_; rintro e w' ⟨rfl, rfl⟩)
       ·have hpe : isPart (s[e].toNat : Int) = true := by assumption
        refine ⟨⟨e + 1, by omega, by omega, by go_num, by first | rfl | trivial, fun i h1 h2 h3 => by
         by_cases hi : i = e
         ·subst hi; exact hpe
         ·exact HA.out i h1 (by omega) h3⟩, by simp [intOf]; omega⟩
       ·have hpe : isPart (s[e].toNat : Int) = false := by assumption
        go_meet
        exact ⟨e, hke, hes, rfl, rfl, rfl, wrd_run s k e hke hes HA.out (fun _ => hpe)⟩
      ·go_wp2
       go_meet
       exact ⟨e, hke, hes, rfl, rfl, rfl, wrd_run s k e hke hes HA.out (fun h => absurd h hlt2)⟩
    ·have h9 : (((s[k].toNat : Int) == 32) = false ∧ ((s[k].toNat : Int) == 9) = false) ∧ ((s[k].toNat : Int) == 10) = false := by assumption
     have hpk : isPart (s[k].toNat : Int) = false := by assumption
     go_meet
     exact ⟨k + 1, by omega, by omega, rfl, by go_num, rfl, wrd_one s k hlt h9 hpk⟩
   case rest =>
    obtain ⟨e, hke, hes, rfl, rfl, rfl, hwd⟩ := hcut
    have HD := hid hwd
    have hke' : k ≤ e := by omega
    clear hwd
    go_wp2_with (at_builtin; refine wpList_app _ rfl _ _ 44 rfl w.heap.size 9 i0 _ 16 Tryz.underlying44 hi hz0 hz1 hz2 rfl _ _ _ rfl (HO.out.alloc _) _ _ _ _ rfl (Sl.one _ _ _) (by simp [Value.oneCell']) (by unfold maxLen; omega) (by omega) (by have := Ext.size HW.out; simp; omega) ?_; intro v' w1 hown' hgrow; have HO' := hid hown'; have HG := hid hgrow; clear hown' hgrow)
    refine ⟨⟨e, n + 1, xs ++ [(s.data.toList.drop k).take (e - k)], hes, by omega, rfl, ?_, words_take HX.out HD.out, ?_⟩, by simp [intOf]; omega⟩
    ·have h1 := HO'.out
     rw [strv_extract] at h1
     simpa using h1
    ·exact ((HW.out.alloc _).grown HG.out (own_lt HO.out))
  ·go_wp2
   go_ret
   obtain ⟨A, c, rfl, hsl, _⟩ := own_sl HO.out
   refine ⟨_, _, _, rfl, ?_, HW.out, fun ad h => by subst h; exact HO.out.lt ad.block rfl⟩
   have h1 : wordsOf s.data.toList = xs := by rw [← HX.out, List.drop_of_length_le (by rw [size_list]; omega)]; simp [wordsOf]
   rw [h1]
   exact hsl
end Go.Proofs.YtiijdojihleggaaGreatDoor.D6
namespace Go.Proofs.YtiijdojihleggaaGreatDoor
open Go.RowKit
def RetMem (w : World) (m : List SgP) (e : Ending) (w' : World) : Prop := ∃ gm T, e = .returned (.pointer (some ⟨gm, 0, none⟩)) ∧ MemT T w' gm m ∧ (∀ b, T b → w.heap.size ≤ b) ∧ Ext w w'
theorem tNew_any (w : World) : Calls Tryz.prog 29 #[] w (RetMem w []) := by
 have hmm := @run_makeMap Tryz.prog
 go_enter Tryz.func29, Tryz.ntmps29
 go_wp2
 go_ret
 have h1 : AtC 81 ((w.alloc (.map #[] 0)).alloc (.cells #[.slice none 0 0, .map (some w.heap.size)] 81)) (w.heap.size + 1) #[.slice none 0 0, .map (some w.heap.size)] := by
  have := AtC.new (T := 81) (w.alloc (.map #[] 0)) #[.slice none 0 0, .map (some w.heap.size)]
  rw [show (w.alloc (.map #[] 0)).heap.size = w.heap.size + 1 from by simp] at this
  exact this
 have h2 := (MapV.made Tryz.prog 9 w)
 have h3 : MapV Tryz.prog 9 ((w.alloc (.map #[] 0)).alloc (.cells #[.slice none 0 0, .map (some w.heap.size)] 81)) w.heap.size 0 (fun _ => nilV) := h2.of (Below.block ((Ext.refl _).alloc _) _ h2.lt)
 refine ⟨w.heap.size + 1, fun b => w.heap.size ≤ b ∧ b < w.heap.size + 2, rfl, ⟨⟨.slice none 0 0, w.heap.size, fun _ => nilV, fun _ => [], [], h1, rfl, World.ownsRow_nil _ _ _ _, fun p hp => (by cases hp), h3, ?_, grp_nil, ⟨Nat.le_refl _, by omega⟩, fun b hb => (by cases hb)⟩, ⟨by omega, by omega⟩, fun b hb => by simp; omega⟩, fun b hb => hb.1, ((Ext.refl w).alloc _).alloc _⟩
 exact ⟨fun k => World.ownsRow_nil _ _ _ _, fun k => Nat.zero_le _, fun k j _ => .inl rfl, fun k b hb => (by cases hb)⟩
theorem tLen_any {T : Nat → Prop} {w : World} {gm : Nat} {m : List SgP} (h : MemT T w gm m) :
 Calls Tryz.prog 28 #[.pointer (some ⟨gm, 0, none⟩)] w fun e w' => e = .returned (.int .i64 m.length) ∧ w' = w := by
 obtain ⟨⟨v, mb, f, g, L, h1, h2, h3, h4, h5, h6, h7, h8, h9⟩, hm, hl⟩ := h
 obtain ⟨A, c, rfl, hs⟩ := own_slN h3
 have c0 := h1.cell 0 _ rfl
 rw [show m.length = L.length from by rw [← h2, List.length_map]]
 clear h1 h2 h3 h4 h5 h6 h7 h8 h9 hs hm hl
 go_enter Tryz.func28, Tryz.ntmps28
 go_wp2
 go_ret
 exact ⟨rfl, rfl⟩
end Go.Proofs.YtiijdojihleggaaGreatDoor
