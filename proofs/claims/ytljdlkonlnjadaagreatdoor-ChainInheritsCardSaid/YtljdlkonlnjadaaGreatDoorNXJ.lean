import Derived.Test.YtljdlkonlnjadaaGreatDoorNX2
import Derived.Test.YtljdlkonlnjadaaGreatDoorNXI
import Derived.Test.YtljdlkonlnjadaaGreatDoorShelf
import Derived.Sort.OwnSorted
set_option maxRecDepth 100000
set_option linter.unusedSimpArgs false
set_option linter.unusedVariables false
namespace Go.Proofs.YtljdlkonlnjadaaGreatDoor
open Go.RowKit
def AtT (T : TypeId) (w : World) (g : Nat) (v0 v1 v2 v3 : Value) : Prop := w.heap[g]? = some (.cells #[v0, v1, v2, v3] T (0, 0))
section
variable {T : TypeId} {w w' : World} {g : Nat} {v0 v1 v2 v3 : Value}
theorem AtT.lt (h : AtT T w g v0 v1 v2 v3) : g < w.heap.size := (Array.getElem?_eq_some_iff.1 h).1
theorem AtT.cells (h : AtT T w g v0 v1 v2 v3) :
 (w.cell? ⟨g, 0, none⟩ = some v0 ∧ w.cell? ⟨g, 1, none⟩ = some v1 ∧ w.cell? ⟨g, 2, none⟩ = some v2 ∧ w.cell? ⟨g, 3, none⟩ = some v3) ∧
  (w.frozen? ⟨g, 0, none⟩ = false ∧ w.frozen? ⟨g, 1, none⟩ = false ∧ w.frozen? ⟨g, 2, none⟩ = false ∧ w.frozen? ⟨g, 3, none⟩ = false) := by
 unfold AtT at h
 refine ⟨⟨?_, ?_, ?_, ?_⟩, ?_, ?_, ?_, ?_⟩ <;> simp [World.cell?, World.frozen?, h]
theorem AtT.below {B : Nat} (h : AtT T w g v0 v1 v2 v3) (hw : Below B w w') (hg : g < B) : AtT T w' g v0 v1 v2 v3 := (Below.block hw g hg).trans h
theorem AtT.ext (h : AtT T w g v0 v1 v2 v3) (hw : Ext w w') : AtT T w' g v0 v1 v2 v3 := h.below hw h.lt
theorem AtT.set0 (h : AtT T w g v0 v1 v2 v3) (u : Value) : AtT T (w.setCell ⟨g, 0, none⟩ u) g u v1 v2 v3 := heap_setCell_same w g 0 _ _ u h
theorem AtT.set1 (h : AtT T w g v0 v1 v2 v3) (u : Value) : AtT T (w.setCell ⟨g, 1, none⟩ u) g v0 u v2 v3 := heap_setCell_same w g 1 _ _ u h
theorem AtT.set2 (h : AtT T w g v0 v1 v2 v3) (u : Value) : AtT T (w.setCell ⟨g, 2, none⟩ u) g v0 v1 u v3 := heap_setCell_same w g 2 _ _ u h
theorem AtT.set3 (h : AtT T w g v0 v1 v2 v3) (u : Value) : AtT T (w.setCell ⟨g, 3, none⟩ u) g v0 v1 v2 u := heap_setCell_same w g 3 _ _ u h
theorem AtT.other (h : AtT T w g v0 v1 v2 v3) (p : Addr) (hp : g ≠ p.block) (u : Value) : AtT T (w.setCell p u) g v0 v1 v2 v3 := (heap_setCell_other w p g u hp).trans h
theorem AtT.new (w : World) : AtT T (w.alloc (.cells #[v0, v1, v2, v3] T)) w.heap.size v0 v1 v2 v3 := heap_alloc_new w _
end
theorem Sl.below {w w' : World} {B : Nat} {A : Option Addr} {n : Nat} {xs : List Value} (h : Sl w A n xs) (hw : Below B w w') (hA : ∀ ad, A = some ad → ad.block < B) : Sl w' A n xs :=
 ⟨h.1, fun j u hu => by
  obtain ⟨ad, ha, hb, hc⟩ := h.2 j u hu
  exact ⟨ad, ha, Nat.lt_of_lt_of_le hb (Below.size hw), (Below.cell hw (p := ad.add j) (by rw [addr_block]; exact hA ad ha)).trans hc⟩⟩
def Mx (w : World) : Prop := ∃ m : Int, w.cell? ⟨0, 0, none⟩ = some (.int .i64 m)
theorem Mx.ext {w w' : World} (h : Mx w) (hw : Ext w w') : Mx w' := by
 obtain ⟨m, hm⟩ := h
 exact ⟨m, (Ext.cell hw (World.block_lt_of_cell? w ⟨0, 0, none⟩ hm)).trans hm⟩
theorem split_vals (s : ByteArray) : (Lib.splitB ⟨#[45]⟩ 0 (Lib.countB s ⟨#[45]⟩) s).map Value.string = ((Lib.split s.data.toList [45]).map strv) := by
 have h := Lib.splitB_data ⟨#[45]⟩ 0 (Lib.countB s ⟨#[45]⟩) s
 have h2 : Lib.split s.data.toList [45] = (Lib.splitB ⟨#[45]⟩ 0 (Lib.countB s ⟨#[45]⟩) s).map (·.data.toList) := h.symm
 rw [h2, List.map_map]
 congr 1
theorem repl_any (s : ByteArray) (w : World) (hm : Mx w) (hs : s.size ≤ 1048576) :
 Calls Tryz.prog 163 #[.string s, .string ⟨#[95]⟩, .string ⟨#[45]⟩] w fun e w' => e = .returned (strv (Lib.replaceAll s.data.toList [95] [45])) ∧ Ext w w' := by
 obtain ⟨m, hm⟩ := hm
 have h1 := Lib.count_le s.data.toList [95]
 rw [size_list] at h1
 exact Tryz.strings_ReplaceAll s ⟨#[95]⟩ ⟨#[45]⟩ m w (by omega) hm (Nat.le_refl _) (by show s.size + Lib.count s.data.toList [95] * 1 ≤ _; omega)
theorem parts_any (s : List UInt8) (w : World) (hm : Mx w) (hs : s.length ≤ 1048576) :
 Calls Tryz.prog 162 #[.string ⟨(Lib.replaceAll s [95] [45]).toArray⟩, .string ⟨#[45]⟩] w fun e w' => ∃ n, e = .returned (.slice (some ⟨w.heap.size, 0, none⟩) n n) ∧ Sl w' (some ⟨w.heap.size, 0, none⟩) n ((spOf s).map strv) ∧ Ext w w' := by
 obtain ⟨m, hm⟩ := hm
 have hl : (⟨(Lib.replaceAll s [95] [45]).toArray⟩ : ByteArray).size = s.length := by
  show (Lib.replaceAll s [95] [45]).toArray.size = _
  rw [replace_one _ _ (by decide)]
  simp
 refine (Tryz.strings_Split ⟨(Lib.replaceAll s [95] [45]).toArray⟩ ⟨#[45]⟩ m w (by omega) hm (Nat.le_refl _)).mono ?_
 rintro e w' ⟨rfl, rfl⟩
 have hv := split_vals ⟨(Lib.replaceAll s [95] [45]).toArray⟩
 have hp : Lib.split (⟨(Lib.replaceAll s [95] [45]).toArray⟩ : ByteArray).data.toList [45] = spOf s := parts_eq s
 rw [hp] at hv
 have hn : ((spOf s).map strv).length = Lib.countB ⟨(Lib.replaceAll s [95] [45]).toArray⟩ ⟨#[45]⟩ + 1 := by
  rw [← hv, List.length_map]
  exact Lib.splitB_all ⟨#[45]⟩ (Nat.le_refl _) 0 _ _ rfl
 refine ⟨_, rfl, ?_, (Ext.refl w).alloc _⟩
 rw [hv]
 refine ⟨hn, fun j u hu => ⟨_, rfl, by simp, ?_⟩⟩
 rw [add_at, cell_of_row _ w.heap.size j _ 9 (0, 0) (heap_alloc_new w _)]
 simpa using hu
theorem lang_low_any (xb : ByteArray) (b : Bool) (hb : langB (low xb.data.toList) = b) (w : World) (hs : xb.size ≤ 9223372036854775807) :
 Calls Tryz.prog 158 #[.string ⟨(xb.data.toList.map lowC).toArray⟩] w fun e w' => e = .returned (.bool b) ∧ w = w' := by
 rw [← hb]
 exact lang_any ⟨(xb.data.toList.map lowC).toArray⟩ w (by show (xb.data.toList.map lowC).toArray.size ≤ _; simpa using hs)
theorem variant_low_any (xb : ByteArray) (b : Bool) (hb : variantB (low xb.data.toList) = b) (w : World) (hs : xb.size ≤ 9223372036854775807) :
 Calls Tryz.prog 157 #[.string ⟨(xb.data.toList.map lowC).toArray⟩] w fun e w' => e = .returned (.bool b) ∧ w = w' := by
 rw [← hb]
 exact variant_any ⟨(xb.data.toList.map lowC).toArray⟩ w (by show (xb.data.toList.map lowC).toArray.size ≤ _; simpa using hs)
theorem region_up_any (xb : ByteArray) (b : Bool) (hb : regionL (low xb.data.toList) = b) (w : World) (hs : xb.size ≤ 9223372036854775807) :
 Calls Tryz.prog 160 #[.string ⟨(xb.data.toList.map upC).toArray⟩] w fun e w' => e = .returned (.bool b) ∧ w = w' := by
 rw [← hb, ← region_eq]
 exact region_any ⟨(xb.data.toList.map upC).toArray⟩ w (by show (xb.data.toList.map upC).toArray.size ≤ _; simpa using hs)
theorem script_mix_any (xb y : ByteArray) (b : Bool) (hb : scriptL (low xb.data.toList) = b) (hy : y.data.toList = upOf (xb.data.toList.take 1) ++ low (xb.data.toList.drop 1)) (w : World) (hs : xb.size ≤ 9223372036854775807) :
 Calls Tryz.prog 159 #[.string y] w fun e w' => e = .returned (.bool b) ∧ w = w' := by
 rw [← hb, ← script_eq, ← hy]
 have hl : y.data.toList.length ≤ 9223372036854775807 := by
  rw [hy]
  simp [upOf, low, size_list]
  omega
 exact script_any y w hl
theorem Sl.othr {w : World} {A : Option Addr} {n : Nat} {xs : List Value} (h : Sl w A n xs) (p : Addr) (hp : ∀ ad, A = some ad → ad.block ≠ p.block) (u : Value) : Sl (w.setCell p u) A n xs :=
 ⟨h.1, fun j x hx => by
  obtain ⟨ad, ha, hb, hc⟩ := h.2 j x hx
  refine ⟨ad, ha, by simpa using hb, ?_⟩
  rw [World.cell?_setCell_other _ _ _ _ (by intro e; have := hp ad ha; rw [← addr_block ad j, ← e] at this; exact this rfl)]
  exact hc⟩
end Go.Proofs.YtljdlkonlnjadaaGreatDoor
namespace Go.Proofs.YtljdlkonlnjadaaGreatDoor
open Go.RowKit Go.Sort
theorem sort_any (l : List (List UInt8)) (A : Option Addr) (n c B : Nat) (w : World) (ho : w.ownsRow B 9 1 (.slice A n c) l.length (l.map strv)) (hl : l.length ≤ 1048576) (hB : B ≤ w.heap.size) :
 Calls Tryz.prog 166 #[.slice A n c] w fun e w' => e = .returned (.tuple #[]) ∧ w'.ownsRow B 9 1 (.slice A n c) l.length ((sortS l).map strv) ∧ Below B w w' := by
 rcases ho.2 with ⟨hv, hx⟩ | ⟨g, cap, cur, hv, hbase, hb, h1, h2, h3, h4⟩
 ·injection hv with hv1 hv2 hv3
  subst hv1; subst hv2; subst hv3
  have hl0 : l = [] := by simpa using hx
  subst hl0
  refine (Tryz.slices_Sort_string_none none 0 w).mono ?_
  rintro e w' ⟨rfl, rfl⟩
  exact ⟨rfl, by simpa [sortS] using ho, Below.refl _ _⟩
 ·injection hv with hv1 hv2 hv3
  subst hv1; subst hv2; subst hv3
  have hH : Holds encStr w g 0 l.toArray := holds_of_block hb (by rw [Nat.mul_one] at h4; exact h4)
  refine (Tryz.slices_Sort_string g 0 c l w hH (Array.getElem?_eq_some_iff.1 hb).1 (by omega)).mono ?_
  rintro e w' ⟨rfl, nn, os, rfl⟩
  refine ⟨rfl, ?_, ?_⟩
  ·exact ownsRow_sorted (ss := l) (ts := sortS l) (sortS_len l) hbase hb h1 h2 h3
  ·exact Below.grown (Below.refl B w) (grownBy_sorted _) hB (fun k hk => by injection hk with hk; omega)
theorem compact_any (l : List (List UInt8)) (A : Option Addr) (n c B : Nat) (w : World) (ho : w.ownsRow B 9 1 (.slice A n c) l.length (l.map strv)) (hl : l.length ≤ 1048576) (hB : B ≤ w.heap.size) :
 Calls Tryz.prog 167 #[.slice A n c] w fun e w' => ∃ A' c', e = .returned (.slice A' (Lib.compact l).length c') ∧ Sl w' A' (Lib.compact l).length ((Lib.compact l).map strv) ∧ (Lib.compact l).length ≤ c' ∧ Below B w w' ∧ ∀ ad, A' = some ad → B ≤ ad.block := by
 rcases ho.2 with ⟨hv, hx⟩ | ⟨g, cap, cur, hv, hbase, hb, h1, h2, h3, h4⟩
 ·injection hv with hv1 hv2 hv3
  subst hv1; subst hv2; subst hv3
  have hl0 : l = [] := by simpa using hx
  subst hl0
  refine (Tryz.slices_Compact_string_empty none 0 w).mono ?_
  rintro e w' ⟨rfl, rfl⟩
  exact ⟨none, 0, rfl, Sl.nil _ _, Nat.le_refl _, Below.refl _ _, fun ad h => by cases h⟩
 ·injection hv with hv1 hv2 hv3
  subst hv1; subst hv2; subst hv3
  have hH : Holds encStr w g 0 l.toArray := holds_of_block hb (by rw [Nat.mul_one] at h4; exact h4)
  refine (Tryz.slices_Compact_string g 0 c l w hH (by omega) h1).mono ?_
  rintro e w' ⟨rfl, q, rfl⟩
  have hle := compact_le l
  have hts : (Lib.compact l ++ List.replicate (l.length - (Lib.compact l).length) []).length = l.length := by simp; omega
  have ho2 := ownsRow_sorted (w := w) (n := q) (os := #[]) (ss := l) (ts := Lib.compact l ++ List.replicate (l.length - (Lib.compact l).length) []) hts hbase hb h1 h2 h3
  rw [grow_empty] at ho2
  have hg2 := grownBy_sorted (w := w) (g := g) (n := q) (os := #[]) (Lib.compact l ++ List.replicate (l.length - (Lib.compact l).length) []).toArray
  rw [grow_empty] at hg2
  obtain ⟨_, hs⟩ := own_sl' ho2
  have hs2 := hs.take (Lib.compact l).length hle
  rw [← List.map_take, List.take_left] at hs2
  refine ⟨_, c, rfl, hs2, Nat.le_trans hle h1, Below.grown (Below.refl B w) hg2 hB (fun k hk => by injection hk with hk; omega), fun ad h => by injection h with h; subst h; exact hbase⟩
end Go.Proofs.YtljdlkonlnjadaaGreatDoor
