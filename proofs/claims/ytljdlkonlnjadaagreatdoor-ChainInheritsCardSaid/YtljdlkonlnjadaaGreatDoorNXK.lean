import Derived.Test.YtljdlkonlnjadaaGreatDoorNX9
import Derived.Outline
set_option maxRecDepth 100000
set_option linter.unusedSimpArgs false
set_option linter.unusedVariables false
open Go.Lib (hid)
namespace Go.Proofs.YtljdlkonlnjadaaGreatDoor
open Go.RowKit
theorem own3 (w : World) (o : Obj) : ((w.alloc o).alloc (.cells #[] 9)).drew.ownsRow w.heap.size 9 1 (.slice (some ⟨w.heap.size + 1, 0, none⟩) 0 0) 0 [] :=
 ⟨rfl, .inr ⟨w.heap.size + 1, 0, #[], rfl, by omega, two_new w _ _, Nat.le_refl _, Nat.zero_le _, rfl, rfl⟩⟩
theorem one_kept {W w' : World} {g : Nat} {u : Value} {row : Option Nat} (hg : W.grownBy w' row) (hW : W.heap[g]? = some (.cells #[u] 9)) (hne : some g ≠ row) : Sl w' (some ⟨g, 0, none⟩) 1 [u] := by
 have hlt : g < W.heap.size := (Array.getElem?_eq_some_iff.1 hW).1
 have h1 := (hg.block g hlt hne).trans hW
 refine ⟨rfl, fun j x hx => ⟨_, rfl, (Array.getElem?_eq_some_iff.1 h1).1, ?_⟩⟩
 have hj : j = 0 := by have := (List.getElem?_eq_some_iff.1 hx).1; simp at this; exact this
 subst hj
 simp at hx
 subst hx
 show w'.cell? ⟨g, 0, none⟩ = some u
 rw [cell_of_row w' g 0 #[u] 9 (0, 0) h1]
 rfl
theorem ins_end {w3 : World} {B k n : Nat} {v : Value} {l : List (List UInt8)} {s : ByteArray} {xs : List Value} (h : w3.ownsRow B 9 1 v (0 + k + 1 + (n - k)) xs) (hx : xs = [] ++ (l.take k).map strv ++ [.string s] ++ (l.drop k).map strv) (hk : k ≤ n) (hK : insK l s.data.toList = k) :
 w3.ownsRow B 9 1 v (n + 1) ((insS l s.data.toList).map strv) := by
 subst hx
 unfold insS
 rw [hK, List.map_append, List.map_cons, strv_mk]
 rw [show 0 + k + 1 + (n - k) = n + 1 from by omega] at h
 simpa using h
def InsInv (w : World) (l : List (List UInt8)) (x : List UInt8) (i : Value) (wr : World) : Prop :=
 ∃ k : Nat, k ≤ l.length ∧ i = .int .i64 k ∧ w = wr ∧ ∀ j y, j < k → l[j]? = some y → y < x
set_option maxHeartbeats 1000000 in
theorem rinsert_any (l : List (List UInt8)) (s : ByteArray) (A : Option Addr) (n c : Nat) (w : World) (hA : Sl w A n (l.map strv)) (hn : n ≤ 2000001) (hnc : n ≤ c) :
 Calls Tryz.prog 153 #[.slice A n c, .string s] w fun e w' => ∃ v, e = .returned (.tuple #[v, .bool (insF l s.data.toList)]) ∧ w'.ownsRow w.heap.size 9 1 v (n + 1) ((insS l s.data.toList).map strv) ∧ Ext w w' := by
 obtain ⟨i0, hi, hz0, hz1, hz2⟩ := info_parts (show (Tryz.prog.info? 9).map (fun i => (i.zero, i.size, i.bytes)) = some (some (.string ⟨#[]⟩), 1, 16) from by kernel_rfl)
 have hla : l.length = n := by have := hA.1; simpa using this
 have H1 := hid hA
 have L1 := hid hla
 clear hA hla
 go_enter Tryz.func153, Tryz.ntmps153
 go_wp2
 go_loopw [6] (InsInv w l s.data.toList) (fun i _ => n - (intOf i).toNat)
 case atStart => exact ⟨0, Nat.zero_le _, rfl, rfl, fun j y hj => absurd hj (Nat.not_lt_zero _)⟩
 case round =>
  obtain ⟨k, hk, rfl, rfl, hall⟩ := hrel
  have HA := hid hall
  rw [L1.out] at hk
  clear hall
  by_cases hlt : k < n
  ·obtain ⟨ad, y, rfl, hu, hc⟩ := H1.out.at_map hlt
   obtain ⟨yb, hy1, hy2⟩ := strv_b y
   rw [hy1] at hc
   have HU := hid hu
   have HY := hid hy2
   clear hu hy1 hy2
   by_cases hxy : yb.data.toList < s.data.toList
   ·have hb : Op.bytesLess yb.toList s.toList = true := by rw [less_b]; simpa using hxy
    have HXY := hid hxy
    clear hxy
    go_wp2
    refine ⟨⟨k + 1, by rw [L1.out]; omega, by go_num, rfl, fun j z hj hz => ?_⟩, by simp [intOf]; omega⟩
    by_cases hjk : j = k
    ·subst hjk
     rw [HU.out] at hz
     injection hz with hz
     rw [← hz, ← HY.out]
     exact HXY.out
    ·exact HA.out j z (by omega) hz
   ·have hb : Op.bytesLess yb.toList s.toList = false := by rw [less_b]; simpa using hxy
    have hK : insK l s.data.toList = k := insK_at HA.out (fun z hz => by rw [HU.out] at hz; injection hz with hz; rw [← hz, ← HY.out]; exact hxy) (by rw [L1.out]; omega)
    have HK := hid hK
    clear hxy hK
    have hF : insF l s.data.toList = (yb.data.toList == s.data.toList) := by
     unfold insF
     rw [HK.out, List.drop_eq_getElem_cons (by rw [L1.out]; exact hlt)]
     have h1 := HU.out
     rw [List.getElem?_eq_getElem (by rw [L1.out]; exact hlt)] at h1
     injection h1 with h1
     simp only
     rw [h1, HY.out]
    rw [← eq_b] at hF
    have HF := hid hF
    clear hF
    have hkc : (k : Int) ≤ (c : Int) := by omega
    have hck : ¬ c = k := by omega
    have S1 := hid (show Sl w (some ad) k ((l.take k).map strv) from by rw [List.map_take]; exact H1.out.take k (by omega))
    have S3 := hid (show Sl w (some (ad.add k)) (n - k) ((l.drop k).map strv) from by rw [List.map_drop]; exact H1.out.drop k (by omega))
    have HS := hid (strv_mk s)
    cases heq : (yb.toList == s.toList)
    all_goals
     go_wp2
     have tok1 : True := trivial
     have tok2 : True := trivial
     have tok3 : True := trivial
     go_region_law (first
      | (have _t := tok1; refine step_app _ rfl _ _ 35 rfl w.heap.size 9 i0 _ 16 Tryz.underlying35 hi hz0 hz1 hz2 rfl _ 0 [] rfl (by first | exact (own_empty w 9).drew | exact ((own_empty w 9).alloc _).drew | exact own3 w _) _ k _ ((l.take k).map strv) rfl (S1.out.ext (by first | exact ((Ext.refl w).alloc _).drew | exact (((Ext.refl w).alloc _).alloc _).drew)) (strv_one _) (by unfold maxLen; omega) (by omega) (by simp; try omega) ?_; intro v1 w1 hown1 hgrow1; have HX1 := hid (ext_grown (a := w) (B := w.heap.size) (by first | exact ((Ext.refl w).alloc _).drew | exact (((Ext.refl w).alloc _).alloc _).drew) (by first | exact (own_empty w 9).drew | exact ((own_empty w 9).alloc _).drew | exact own3 w _) (Nat.le_refl _) hgrow1); (first | have HZ1 := hid (one_kept (row := some w.heap.size) hgrow1 (two_new w _ _) (by simp)) | have HZ1 := hid (one_kept (row := some (w.heap.size + 1)) hgrow1 (two_old w _ _) (by simp)) | skip); have HO1 := hid hown1; clear hown1 hgrow1 tok1)
      | (have _t := tok2; (refine step_app _ rfl _ _ 35 rfl w.heap.size 9 i0 _ 16 Tryz.underlying35 hi hz0 hz1 hz2 rfl _ (0 + k) _ rfl (by first | exact HO1.out | exact HO1.out.alloc _) _ 1 _ [.string s] rfl (by first | exact HZ1.out | exact Sl.one _ _ _) (by simp [Value.oneCell']) (by unfold maxLen; omega) (by omega) (by have := Ext.size HX1.out; first | omega | (simp; omega)) ?_); intro v2 w2 hown2 hgrow2; have HX2 := hid (ext_grown (a := w) (B := w.heap.size) (by first | exact HX1.out | exact HX1.out.alloc _) (by first | exact HO1.out | exact HO1.out.alloc _) (Nat.le_refl _) hgrow2); have HO2 := hid hown2; clear hown2 hgrow2 tok2)
      | (have _t := tok3; refine step_app _ rfl _ _ 35 rfl w.heap.size 9 i0 _ 16 Tryz.underlying35 hi hz0 hz1 hz2 rfl _ (0 + k + 1) _ rfl HO2.out _ (n - k) _ ((l.drop k).map strv) rfl (S3.out.ext HX2.out) (strv_one _) (by unfold maxLen; omega) (by omega) (by have := Ext.size HX2.out; first | omega | (simp; omega)) ?_; intro v3 w3 hown3 hgrow3; have HX3 := hid (ext_grown (a := w) (B := w.heap.size) HX2.out HO2.out (Nat.le_refl _) hgrow3); have HO3 := hid hown3; clear hown3 hgrow3 tok3))
     all_goals
      go_wp2
      go_ret2
      exact ⟨v3, by rw [HF.out, heq]; try rfl, ins_end HO3.out rfl (by omega) HK.out, HX3.out⟩
  ·have hkn : k = n := by omega
   subst hkn
   have hK : insK l s.data.toList = k := insK_at HA.out (fun z hz => by rw [List.getElem?_eq_none (by rw [L1.out]; exact Nat.le_refl _)] at hz; cases hz) (by rw [L1.out]; exact Nat.le_refl _)
   have hF : insF l s.data.toList = false := by
    unfold insF
    rw [hK, List.drop_of_length_le (by rw [L1.out]; exact Nat.le_refl _)]
   have fin : ∀ (w3 : World) (v : Value), w3.ownsRow w.heap.size 9 1 v (0 + k + 1 + 0) ([] ++ l.map strv ++ [.string s] ++ []) → w3.ownsRow w.heap.size 9 1 v (k + 1) ((insS l s.data.toList).map strv) := by
    intro w3 v h
    refine ins_end (k := k) (n := k) (by rw [Nat.sub_self]; exact h) ?_ (Nat.le_refl _) hK
    rw [List.take_of_length_le (by rw [L1.out]; exact Nat.le_refl _), List.drop_of_length_le (by rw [L1.out]; exact Nat.le_refl _)]
    rfl
   have FIN := hid fin
   have HF := hid hF
   have S1 := H1
   have hkc : (k : Int) ≤ (c : Int) := by omega
   clear fin hF hK
   rcases A with _ | ad
   ·have hk0 : k = 0 := by
     rcases Nat.eq_zero_or_pos k with h0 | h0
     ·exact h0
     ·obtain ⟨ad, u, hA, _⟩ := H1.out.at_ h0
      cases hA
    subst hk0
    go_wp2
    have tok1 : True := trivial
    have tok2 : True := trivial
    have tok3 : True := trivial
    go_region_law (first
     | (have _t := tok1; refine step_app _ rfl _ _ 35 rfl w.heap.size 9 i0 _ 16 Tryz.underlying35 hi hz0 hz1 hz2 rfl _ 0 [] rfl (by first | exact (own_empty w 9).drew | exact ((own_empty w 9).alloc _).drew | exact own3 w _) _ 0 _ (l.map strv) rfl (S1.out.ext (by first | exact ((Ext.refl w).alloc _).drew | exact (((Ext.refl w).alloc _).alloc _).drew)) (strv_one _) (by unfold maxLen; omega) (by omega) (by simp; try omega) ?_; intro v1 w1 hown1 hgrow1; have HX1 := hid (ext_grown (a := w) (B := w.heap.size) (by first | exact ((Ext.refl w).alloc _).drew | exact (((Ext.refl w).alloc _).alloc _).drew) (by first | exact (own_empty w 9).drew | exact ((own_empty w 9).alloc _).drew | exact own3 w _) (Nat.le_refl _) hgrow1); (first | have HZ1 := hid (one_kept (row := some w.heap.size) hgrow1 (two_new w _ _) (by simp)) | have HZ1 := hid (one_kept (row := some (w.heap.size + 1)) hgrow1 (two_old w _ _) (by simp)) | skip); have HO1 := hid hown1; clear hown1 hgrow1 tok1)
     | (have _t := tok2; (refine step_app _ rfl _ _ 35 rfl w.heap.size 9 i0 _ 16 Tryz.underlying35 hi hz0 hz1 hz2 rfl _ (0 + 0) _ rfl (by first | exact HO1.out | exact HO1.out.alloc _) _ 1 _ [.string s] rfl (by first | exact HZ1.out | exact Sl.one _ _ _) (by simp [Value.oneCell']) (by unfold maxLen; omega) (by omega) (by have := Ext.size HX1.out; first | omega | (simp; omega)) ?_); intro v2 w2 hown2 hgrow2; have HX2 := hid (ext_grown (a := w) (B := w.heap.size) (by first | exact HX1.out | exact HX1.out.alloc _) (by first | exact HO1.out | exact HO1.out.alloc _) (Nat.le_refl _) hgrow2); have HO2 := hid hown2; clear hown2 hgrow2 tok2)
     | (have _t := tok3; refine step_app _ rfl _ _ 35 rfl w.heap.size 9 i0 _ 16 Tryz.underlying35 hi hz0 hz1 hz2 rfl _ (0 + 0 + 1) _ rfl HO2.out _ 0 _ [] rfl (Sl.nil _ _) (by simp) (by unfold maxLen; omega) (by omega) (by have := Ext.size HX2.out; first | omega | (simp; omega)) ?_; intro v3 w3 hown3 hgrow3; have HX3 := hid (ext_grown (a := w) (B := w.heap.size) HX2.out HO2.out (Nat.le_refl _) hgrow3); have HO3 := hid hown3; clear hown3 hgrow3 tok3))
    all_goals
     go_wp2
     go_ret2
     exact ⟨v3, by rw [HF.out]; try rfl, FIN.out _ _ HO3.out, HX3.out⟩
   ·by_cases hck : c = k
    all_goals
     go_wp2
     have tok1 : True := trivial
     have tok2 : True := trivial
     have tok3 : True := trivial
     go_region_law (first
      | (have _t := tok1; refine step_app _ rfl _ _ 35 rfl w.heap.size 9 i0 _ 16 Tryz.underlying35 hi hz0 hz1 hz2 rfl _ 0 [] rfl (by first | exact (own_empty w 9).drew | exact ((own_empty w 9).alloc _).drew | exact own3 w _) _ k _ (l.map strv) rfl (S1.out.ext (by first | exact ((Ext.refl w).alloc _).drew | exact (((Ext.refl w).alloc _).alloc _).drew)) (strv_one _) (by unfold maxLen; omega) (by omega) (by simp; try omega) ?_; intro v1 w1 hown1 hgrow1; have HX1 := hid (ext_grown (a := w) (B := w.heap.size) (by first | exact ((Ext.refl w).alloc _).drew | exact (((Ext.refl w).alloc _).alloc _).drew) (by first | exact (own_empty w 9).drew | exact ((own_empty w 9).alloc _).drew | exact own3 w _) (Nat.le_refl _) hgrow1); (first | have HZ1 := hid (one_kept (row := some w.heap.size) hgrow1 (two_new w _ _) (by simp)) | have HZ1 := hid (one_kept (row := some (w.heap.size + 1)) hgrow1 (two_old w _ _) (by simp)) | skip); have HO1 := hid hown1; clear hown1 hgrow1 tok1)
      | (have _t := tok2; (refine step_app _ rfl _ _ 35 rfl w.heap.size 9 i0 _ 16 Tryz.underlying35 hi hz0 hz1 hz2 rfl _ (0 + k) _ rfl (by first | exact HO1.out | exact HO1.out.alloc _) _ 1 _ [.string s] rfl (by first | exact HZ1.out | exact Sl.one _ _ _) (by simp [Value.oneCell']) (by unfold maxLen; omega) (by omega) (by have := Ext.size HX1.out; first | omega | (simp; omega)) ?_); intro v2 w2 hown2 hgrow2; have HX2 := hid (ext_grown (a := w) (B := w.heap.size) (by first | exact HX1.out | exact HX1.out.alloc _) (by first | exact HO1.out | exact HO1.out.alloc _) (Nat.le_refl _) hgrow2); have HO2 := hid hown2; clear hown2 hgrow2 tok2)
      | (have _t := tok3; refine step_app _ rfl _ _ 35 rfl w.heap.size 9 i0 _ 16 Tryz.underlying35 hi hz0 hz1 hz2 rfl _ (0 + k + 1) _ rfl HO2.out _ 0 _ [] rfl (Sl.nil _ _) (by simp) (by unfold maxLen; omega) (by omega) (by have := Ext.size HX2.out; first | omega | (simp; omega)) ?_; intro v3 w3 hown3 hgrow3; have HX3 := hid (ext_grown (a := w) (B := w.heap.size) HX2.out HO2.out (Nat.le_refl _) hgrow3); have HO3 := hid hown3; clear hown3 hgrow3 tok3))
     all_goals
      go_wp2
      go_ret2
      exact ⟨v3, by rw [HF.out]; try rfl, FIN.out _ _ HO3.out, HX3.out⟩
end Go.Proofs.YtljdlkonlnjadaaGreatDoor
namespace Go.Proofs.YtljdlkonlnjadaaGreatDoor
open Go.RowKit
def At4 (w : World) (g : Nat) (v0 v1 v2 v3 : Value) : Prop := w.heap[g]? = some (.cells #[v0, v1, v2, v3] 153 (0, 0))
theorem At4.lt {w : World} {g : Nat} {v0 v1 v2 v3 : Value} (h : At4 w g v0 v1 v2 v3) : g < w.heap.size := (Array.getElem?_eq_some_iff.1 h).1
theorem At4.cells {w : World} {g : Nat} {v0 v1 v2 v3 : Value} (h : At4 w g v0 v1 v2 v3) :
 (w.cell? ⟨g, 0, none⟩ = some v0 ∧ w.cell? ⟨g, 1, none⟩ = some v1 ∧ w.cell? ⟨g, 2, none⟩ = some v2 ∧ w.cell? ⟨g, 3, none⟩ = some v3) ∧
  (w.frozen? ⟨g, 0, none⟩ = false ∧ w.frozen? ⟨g, 1, none⟩ = false ∧ w.frozen? ⟨g, 2, none⟩ = false ∧ w.frozen? ⟨g, 3, none⟩ = false) := by
 unfold At4 at h
 refine ⟨⟨?_, ?_, ?_, ?_⟩, ?_, ?_, ?_, ?_⟩ <;> simp [World.cell?, World.frozen?, h]
theorem At4.ext {w w' : World} {g : Nat} {v0 v1 v2 v3 : Value} (h : At4 w g v0 v1 v2 v3) (hw : Ext w w') : At4 w' g v0 v1 v2 v3 :=
 (Below.block hw g h.lt).trans h
theorem At4.set1 {w : World} {g : Nat} {v0 v1 v2 v3 : Value} (h : At4 w g v0 v1 v2 v3) (u : Value) : At4 (w.setCell ⟨g, 1, none⟩ u) g v0 u v2 v3 := heap_setCell_same w g 1 _ _ u h
theorem At4.set2 {w : World} {g : Nat} {v0 v1 v2 v3 : Value} (h : At4 w g v0 v1 v2 v3) (u : Value) : At4 (w.setCell ⟨g, 2, none⟩ u) g v0 v1 u v3 := heap_setCell_same w g 2 _ _ u h
theorem At4.set3 {w : World} {g : Nat} {v0 v1 v2 v3 : Value} (h : At4 w g v0 v1 v2 v3) (u : Value) : At4 (w.setCell ⟨g, 3, none⟩ u) g v0 v1 v2 u := heap_setCell_same w g 3 _ _ u h
theorem At4.other {w : World} {g : Nat} {v0 v1 v2 v3 : Value} (h : At4 w g v0 v1 v2 v3) (p : Addr) (hp : g ≠ p.block) (u : Value) : At4 (w.setCell p u) g v0 v1 v2 v3 := (heap_setCell_other w p g u hp).trans h
theorem At4.drew {w : World} {g : Nat} {v0 v1 v2 v3 : Value} (h : At4 w g v0 v1 v2 v3) : At4 w.drew g v0 v1 v2 v3 := h
theorem Sl.other {w : World} {A : Option Addr} {n : Nat} {xs : List Value} (h : Sl w A n xs) (p : Addr) (hp : ∀ ad, A = some ad → ad.block ≠ p.block) (u : Value) : Sl (w.setCell p u) A n xs :=
 ⟨h.1, fun j x hx => by
  obtain ⟨ad, ha, hb, hc⟩ := h.2 j x hx
  refine ⟨ad, ha, by simpa using hb, ?_⟩
  rw [World.cell?_setCell_other _ _ _ _ (by intro e; have := hp ad ha; rw [← addr_block ad j, ← e] at this; exact this rfl)]
  exact hc⟩
def PSt (w : World) (R : TagP × Int) (cont : TagP → List (List UInt8) → TagP × Int) (N : Nat) (l t : Value) (wc : World) : Prop :=
 ∃ (tg : TagP) (r : List (List UInt8)) (gt : Nat) (A : Option Addr) (n c : Nat), l = .slice A n c ∧ t = .pointer (some ⟨gt, 0, none⟩) ∧ Sl wc A n (r.map strv) ∧ n ≤ c ∧ n ≤ N ∧ (∀ x ∈ r, x.length ≤ N) ∧
   (∀ ad, A = some ad → ad.block ≠ gt) ∧ At4 wc w.heap.size (strv []) (strv []) (strv []) (.slice none 0 0) ∧ At4 wc gt (strv tg.lang) (strv tg.script) (strv tg.region) (.slice none 0 0) ∧ w.heap.size < gt ∧ Ext w wc ∧ tg.vars = [] ∧ R = cont tg r
def LSt (w : World) (tg : TagP) (gt : Nat) (A : Option Addr) (n : Nat) (r : List (List UInt8)) (tw i : Value) (wr : World) : Prop :=
 ∃ (k : Nat) (Av : Option Addr) (nv cv : Nat), k ≤ n ∧ i = .int .i64 k ∧ tw = .bool (!isNodup (r.take k)) ∧ Sl wr A n (r.map strv) ∧ At4 wr w.heap.size (strv []) (strv []) (strv []) (.slice none 0 0) ∧
   At4 wr gt (strv tg.lang) (strv tg.script) (strv tg.region) (.slice Av nv cv) ∧ Sl wr Av nv ((sortS (r.take k)).map strv) ∧ nv ≤ cv ∧ (r.take k).all variantB = true ∧ Ext w wr ∧ ∀ ad, Av = some ad → w.heap.size < ad.block
set_option maxHeartbeats 1000000 in
theorem rparse_fresh (s : ByteArray) (w : World) (hs : s.size ≤ 2000000) :
 Calls Tryz.prog 97 #[.string s] w fun e w' => ∃ A n c, e = .returned (.tuple #[tagV (parseP EC s.data.toList).1 A n c, .int .i64 (parseP EC s.data.toList).2]) ∧ Sl w' A n ((parseP EC s.data.toList).1.vars.map strv) ∧ n ≤ c ∧ Ext w w' ∧ ∀ ad, A = some ad → w.heap.size ≤ ad.block := by
 obtain ⟨R, hR⟩ : ∃ R, R = parseP EC s.data.toList := ⟨_, rfl⟩
 rw [← hR]
 have HR := hid hR
 clear hR
 go_enter Tryz.func97, Tryz.ntmps97
 go_wp2_with fail
 refine (rlower_any _ _ (by omega)).mono ?_
 rintro e w1 ⟨rfl, hw1⟩
 have HW1 := hid hw1
 clear hw1
 unfold strv
 go_wp2_with fail
 have hsz : (⟨(s.data.toList.map lowC).toArray⟩ : ByteArray).size ≤ 2000000 := by
  show (s.data.toList.map lowC).toArray.size ≤ _
  simp; omega
 refine (rsplit_any _ _ hsz).mono ?_
 rintro e w2 ⟨v, rfl, ho, hw2⟩
 have hP : spOf (⟨(s.data.toList.map lowC).toArray⟩ : ByteArray).data.toList = (spOf s.data.toList).map low := spOf_low s.data.toList
 rw [hP] at ho
 have HW2 := hid (HW1.out.trans hw2)
 have hlen : ((spOf s.data.toList).map low).length ≤ s.size + 1 := by rw [List.length_map]; exact spOf_len _
 have hmem : ∀ x ∈ (spOf s.data.toList).map low, x.length ≤ s.size := by
  intro x hx
  obtain ⟨y, hy, rfl⟩ := List.mem_map.1 hx
  rw [show (low y).length = y.length from by simp [low]]
  exact spOf_mem _ y hy
 have hne : (spOf s.data.toList).map low ≠ [] := by simp [spOf_ne]
 have hR : R = c0 EC ((spOf s.data.toList).map low) := HR.out
 generalize (spOf s.data.toList).map low = P at ho hlen hmem hne hR
 obtain ⟨x, r, rfl⟩ : ∃ x r, P = x :: r := by
  cases P with
  | nil => exact absurd rfl hne
  | cons x r => exact ⟨x, r, rfl⟩
 clear hP hne hw2 HR
 generalize hn : (x :: r).length = n at ho hlen
 have hn0 : 0 < n := by rw [← hn]; simp
 have hnr : r.length = n - 1 := by rw [← hn]; simp
 obtain ⟨g, c, rfl, hg1, hg2, hnc⟩ := own_some ho hn0
 obtain ⟨_, hsl⟩ := own_sl' ho
 have hc := ho.cellAt 0 (by omega)
 obtain ⟨xb, hx1, hx2⟩ := strv_b x
 simp only [List.map_cons, List.getElem?_cons_zero, hx1] at hc
 have hxs : xb.size ≤ s.size := by rw [← size_list, hx2]; exact hmem x (by simp)
 have HX := hid hx2
 have HS := hid hsl
 have HM := hid hmem
 have HR := hid hR
 have HNR := hid hnr
 have h1n : (1 : Int) ≤ (n : Int) := by omega
 clear ho hx1 hx2 hsl hmem hR hn hnr
 obtain ⟨⟨q0, q1, q2, q3⟩, ⟨f0, f1, f2, f3⟩⟩ := ((show At4 (w.alloc (.cells #[.string ⟨#[]⟩, .string ⟨#[]⟩, .string ⟨#[]⟩, .slice none 0 0] 153)) w.heap.size _ _ _ _ from heap_alloc_new w _).ext HW2.out).cells
 cases hl : langB x with
 | false =>
   have HL := hid hl
   clear hl
   go_wp2_with (go_at_call 147; refine (rlang_any _ _ (by omega)).mono ?_; rintro e w' ⟨rfl, rfl⟩; rw [HX.out, HL.out])
   refine bodyPost_ret (v := .tuple #[tagV R.1 none 0 0, .int .i64 R.2]) ?_ rfl ⟨none, 0, 0, rfl, ?_⟩
   ·have e : R = (TagP.zero, 3) := by
     rw [HR.out]
     show (if langB x then _ else _) = _
     rw [if_neg (by simp [HL.out])]
     rfl
    rw [e]
    simp [results, Tryz.results97, go_sem, q0, q1, q2, q3, f0, f1, f2, f3]
    rfl
   ·have e : R = (TagP.zero, 3) := by
     rw [HR.out]
     show (if langB x then _ else _) = _
     rw [if_neg (by simp [HL.out])]
     rfl
    rw [e]
    exact ⟨Sl.nil _ _, Nat.le_refl _, ((((((Ext.refl w).alloc _).trans HW2.out).setCell (Nat.le_refl _) _).setCell (Nat.le_refl _) _).setCell (Nat.le_refl _) _).setCell (Nat.le_refl _) _, fun ad h => by cases h⟩
 | true =>
   have HL := hid hl
   clear hl
   go_upto_region 5 with (go_at_call 147; refine (rlang_any _ _ (by omega)).mono ?_; rintro e w' ⟨rfl, rfl⟩; rw [HX.out, HL.out])
   go_cut [4, 5] (PSt w R (c1 EC) 2000001)
   case first =>
    have fin : ∀ c' A, (A = some (⟨g, 0, none⟩ : Addr) ∧ n = 1 ∨ A = some ⟨g, 1, none⟩) → n - 1 ≤ c' → PSt w R (c1 EC) 2000001 (.slice A (n - 1) c') (.pointer (some ⟨w2.heap.size, 0, none⟩)) (w2.alloc (.cells #[.string xb, .string ⟨#[]⟩, .string ⟨#[]⟩, .slice none 0 0] 153)) := by
     intro c' A hA hc'
     have hsl : Sl w2 A (n - 1) (r.map strv) := by
      rcases hA with ⟨rfl, h1⟩ | rfl
      ·have h2 := HNR.out
       rw [h1] at h2
       rw [h1, List.eq_nil_of_length_eq_zero h2]
       exact Sl.nil _ _
      ·have h2 := HS.out.drop 1 (by omega)
       rw [add_at] at h2
       exact h2
     refine ⟨⟨x, [], [], []⟩, r, w2.heap.size, A, n - 1, c', rfl, rfl, hsl.ext ((Ext.refl w2).alloc _), hc', by omega, fun y hy => by have := HM.out y (by simp [hy]); omega, ?_, ?_, ?_, ?_, ?_, rfl, ?_⟩
     ·intro ad had
      rcases hA with ⟨rfl, _⟩ | rfl <;> (injection had with had; subst had; show g ≠ _; omega)
     ·exact At4.ext (show At4 (w.alloc (.cells #[.string ⟨#[]⟩, .string ⟨#[]⟩, .string ⟨#[]⟩, .slice none 0 0] 153)) w.heap.size _ _ _ _ from heap_alloc_new w _) (HW2.out.alloc _)
     ·have h2 := heap_alloc_new w2 (.cells #[.string xb, .string ⟨#[]⟩, .string ⟨#[]⟩, .slice none 0 0] 153)
      rw [← HX.out]
      exact h2
     ·have := Ext.size HW2.out
      simp at this
      omega
     ·exact ((Ext.refl w).alloc _).trans (HW2.out.alloc _)
     ·rw [HR.out]
      show (if langB x then _ else _) = _
      rw [if_pos HL.out]
    have FIN := hid fin
    clear fin
    by_cases hc1 : c = 1
    ·have hn1 : n = 1 := by omega
     have FIN2 := hid (FIN.out 0 _ (.inl ⟨rfl, hn1⟩) (by omega))
     clear hn1
     go_wp2
     go_meet
     exact FIN2.out
    ·have FIN2 := hid (FIN.out (c - 1) _ (.inr rfl) (by omega))
     go_wp2
     go_meet
     exact FIN2.out
   case rest =>
    clear hg1 hg2 hnc hc hxs HX HS HM HR HNR HL q0 q1 q2 q3 f0 f1 f2 f3 hn0 h1n hlen
    clear HW1 HW2 hsz
    obtain ⟨tg, r, gt, A, n, c, rfl, rfl, hsl, hnc, hnN, hmem, hAg, hres, hat, hgt, hw, hv, hR⟩ := hcut
    have HSL := hid hsl
    have HM := hid hmem
    have HAG := hid hAg
    have HRES := hid hres
    have HAT := hid hat
    have HW := hid hw
    have HV := hid hv
    have HR := hid hR
    have hrn : r.length = n := by have := hsl.1; rw [List.length_map] at this; exact this
    have HRN := hid hrn
    clear hsl hmem hAg hres hat hw hv hR hrn
    go_step
    go_step
    go_cut [4, 5] (PSt w R (c2 EC) 2000001)
    case first =>
     cases r with
     | nil =>
       have hn0 : n = 0 := HRN.out.symm
       subst hn0
       have FIN := hid (show PSt w R (c2 EC) 2000001 (.slice A 0 c) (.pointer (some ⟨gt, 0, none⟩)) wc from ⟨tg, [], gt, A, 0, c, rfl, rfl, HSL.out, hnc, hnN, HM.out, HAG.out, HRES.out, HAT.out, hgt, HW.out, HV.out, HR.out⟩)
       go_wp2
       go_meet
       exact FIN.out
     | cons x r =>
       have hn0 : 0 < n := by have := HRN.out; simp at this; omega
       obtain ⟨ad, x', rfl, hx', hc⟩ := HSL.out.at_map hn0
       injection hx' with hx'
       subst hx'
       have had : ad = ⟨ad.block, ad.off, none⟩ := by
        obtain ⟨b, o, sp⟩ := ad
        have := World.cell?_spot hc
        simp [Addr.add] at this
        rw [this]
       generalize ad.block = g at had
       generalize ad.off = o at had
       subst had
       have hadd : (⟨g, o, none⟩ : Addr).add 0 = ⟨g, o, none⟩ := by simp [Addr.add]
       rw [hadd] at hc
       clear hadd
       obtain ⟨xb, hx1, hx2⟩ := strv_b x
       rw [hx1] at hc
       have hxs : xb.size ≤ 2000001 := by rw [← size_list, hx2]; exact HM.out x (by simp)
       have HX := hid hx2
       have h0n : (0 : Int) < (n : Int) := by omega
       have h1n : (1 : Int) ≤ (n : Int) := by omega
       obtain ⟨⟨q0, q1, q2, q3⟩, ⟨f0, f1, f2, f3⟩⟩ := HAT.out.cells
       clear hx1 hx2
       cases hl : scriptL x with
       | false =>
         have HL := hid hl
         clear hl
         have FIN := hid (show PSt w R (c2 EC) 2000001 (.slice (some ⟨g, o, none⟩) n c) (.pointer (some ⟨gt, 0, none⟩)) wc from ⟨tg, x :: r, gt, _, n, c, rfl, rfl, HSL.out, hnc, hnN, HM.out, HAG.out, HRES.out, HAT.out, hgt, HW.out, HV.out, by rw [HR.out, c1_cons, if_neg (by simp [HL.out])]⟩)
         go_wp2_with (go_at_call 148; refine (rscript_any _ _ (by omega)).mono ?_; rintro e w' ⟨rfl, rfl⟩; rw [HX.out, HL.out])
         go_meet
         exact FIN.out
       | true =>
         have hx0 : 1 ≤ xb.size := by
          rw [← size_list, HX.out]
          cases x with
          | nil => cases hl
          | cons _ _ => simp
         have HL := hid hl
         clear hl
         have fin : ∀ A' c' w3, (A' = some (⟨g, o, none⟩ : Addr) ∧ n = 1 ∨ A' = some ⟨g, o + 1, none⟩) → n - 1 ≤ c' → Ext wc w3 → PSt w R (c2 EC) 2000001 (.slice A' (n - 1) c') (.pointer (some ⟨gt, 0, none⟩)) (w3.setCell ⟨gt, 1, none⟩ (strv (titleOf x))) := by
          intro A' c' w3 hA hc' hw3
          have hrl : r.length = n - 1 := by have := HRN.out; simp at this; omega
          have hsl : Sl wc A' (n - 1) (r.map strv) := by
           rcases hA with ⟨rfl, h1⟩ | rfl
           ·rw [h1] at hrl ⊢
            rw [List.eq_nil_of_length_eq_zero hrl]
            exact Sl.nil _ _
           ·have h2 := HSL.out.drop 1 (by omega)
            have h3 : (⟨g, o, none⟩ : Addr).add 1 = ⟨g, o + 1, none⟩ := by simp [Addr.add]
            rw [h3] at h2
            exact h2
          have hne : ∀ ad, A' = some ad → ad.block ≠ gt := by
           intro ad had
           have := HAG.out _ rfl
           rcases hA with ⟨rfl, _⟩ | rfl <;> (injection had with had; subst had; exact this)
          refine ⟨{ tg with script := titleOf x }, r, gt, A', n - 1, c', rfl, rfl, (hsl.ext hw3).other _ hne _, hc', by omega, fun y hy => HM.out y (by simp [hy]), hne, ?_, ?_, hgt, ?_, HV.out, ?_⟩
          ·exact (HRES.out.ext hw3).other _ (by show w.heap.size ≠ gt; omega) _
          ·exact (HAT.out.ext hw3).set1 _
          ·exact (HW.out.trans hw3).setCell (by show w.heap.size ≤ gt; omega) _
          ·rw [HR.out, c1_cons, if_pos HL.out]
         have FIN := hid fin
         clear fin
         have gf : ∀ w3, Ext wc w3 → (w3.cell? ⟨gt, 1, none⟩ = some (strv tg.script) ∧ w3.frozen? ⟨gt, 1, none⟩ = false) := by
          intro w3 hw3
          have := (HAT.out.ext hw3).cells
          exact ⟨this.1.2.1, this.2.2.1⟩
         have GF := hid gf
         clear gf
         by_cases hc1 : c = 1
         all_goals
          go_wp2_with (first
           | (go_at_call 148; refine (rscript_any _ _ (by omega)).mono ?_; rintro e w' ⟨rfl, rfl⟩; rw [HX.out, HL.out])
           | (go_at_call 149; refine (rtitle_any _ _ (by omega) hx0).mono ?_; rintro e w3 ⟨rfl, hw3⟩; unfold strv; obtain ⟨c3, d3⟩ := GF.out w3 hw3; have HW3 := hid hw3; clear hw3))
          go_meet
          first
           | (have FIN3 := FIN.out _ 0 w3 (.inl ⟨rfl, by omega⟩) (by omega) HW3.out; rw [← HX.out] at FIN3; exact FIN3)
           | (have FIN3 := FIN.out _ (c - 1) w3 (.inr rfl) (by omega) HW3.out; rw [← HX.out] at FIN3; exact FIN3)
    case rest =>
     clear HSL HM HAG HRES HAT HW HV HR HRN hnc hnN hgt
     obtain ⟨tg, r, gt, A, n, c, rfl, rfl, hsl, hnc, hnN, hmem, hAg, hres, hat, hgt, hw, hv, hR⟩ := hcut
     have HSL := hid hsl
     have HM := hid hmem
     have HAG := hid hAg
     have HRES := hid hres
     have HAT := hid hat
     have HW := hid hw
     have HV := hid hv
     have HR := hid hR
     have hrn : r.length = n := by have := hsl.1; rw [List.length_map] at this; exact this
     have HRN := hid hrn
     clear hsl hmem hAg hres hat hw hv hR hrn
     go_step
     go_step
     go_cut [4, 5] (PSt w R (c3 EC) 2000001)
     case first =>
      cases r with
      | nil =>
        have hn0 : n = 0 := HRN.out.symm
        subst hn0
        have FIN := hid (show PSt w R (c3 EC) 2000001 (.slice A 0 c) (.pointer (some ⟨gt, 0, none⟩)) wc from ⟨tg, [], gt, A, 0, c, rfl, rfl, HSL.out, hnc, hnN, HM.out, HAG.out, HRES.out, HAT.out, hgt, HW.out, HV.out, HR.out⟩)
        go_wp2
        go_meet
        exact FIN.out
      | cons x r =>
        have hn0 : 0 < n := by have := HRN.out; simp at this; omega
        obtain ⟨ad, x', rfl, hx', hc⟩ := HSL.out.at_map hn0
        injection hx' with hx'
        subst hx'
        have had : ad = ⟨ad.block, ad.off, none⟩ := by
         obtain ⟨b, o, sp⟩ := ad
         have := World.cell?_spot hc
         simp [Addr.add] at this
         rw [this]
        generalize ad.block = g at had
        generalize ad.off = o at had
        subst had
        have hadd : (⟨g, o, none⟩ : Addr).add 0 = ⟨g, o, none⟩ := by simp [Addr.add]
        rw [hadd] at hc
        clear hadd
        obtain ⟨xb, hx1, hx2⟩ := strv_b x
        rw [hx1] at hc
        have hxs : xb.size ≤ 2000001 := by rw [← size_list, hx2]; exact HM.out x (by simp)
        have HX := hid hx2
        have h0n : (0 : Int) < (n : Int) := by omega
        have h1n : (1 : Int) ≤ (n : Int) := by omega
        obtain ⟨⟨q0, q1, q2, q3⟩, ⟨f0, f1, f2, f3⟩⟩ := HAT.out.cells
        clear hx1 hx2
        cases hl : regionL x with
        | false =>
          have HL := hid hl
          clear hl
          have FIN := hid (show PSt w R (c3 EC) 2000001 (.slice (some ⟨g, o, none⟩) n c) (.pointer (some ⟨gt, 0, none⟩)) wc from ⟨tg, x :: r, gt, _, n, c, rfl, rfl, HSL.out, hnc, hnN, HM.out, HAG.out, HRES.out, HAT.out, hgt, HW.out, HV.out, by rw [HR.out, c2_cons, if_neg (by simp [HL.out])]⟩)
          go_wp2_with (go_at_call 150; refine (rregion_any _ _ (by omega)).mono ?_; rintro e w' ⟨rfl, rfl⟩; rw [HX.out, HL.out])
          go_meet
          exact FIN.out
        | true =>
          have hx0 : 1 ≤ xb.size := by
           rw [← size_list, HX.out]
           cases x with
           | nil => cases hl
           | cons _ _ => simp
          have HL := hid hl
          clear hl
          have fin : ∀ A' c' w3, (A' = some (⟨g, o, none⟩ : Addr) ∧ n = 1 ∨ A' = some ⟨g, o + 1, none⟩) → n - 1 ≤ c' → Ext wc w3 → PSt w R (c3 EC) 2000001 (.slice A' (n - 1) c') (.pointer (some ⟨gt, 0, none⟩)) (w3.setCell ⟨gt, 2, none⟩ (strv (upOf x))) := by
           intro A' c' w3 hA hc' hw3
           have hrl : r.length = n - 1 := by have := HRN.out; simp at this; omega
           have hsl : Sl wc A' (n - 1) (r.map strv) := by
            rcases hA with ⟨rfl, h1⟩ | rfl
            ·rw [h1] at hrl ⊢
             rw [List.eq_nil_of_length_eq_zero hrl]
             exact Sl.nil _ _
            ·have h2 := HSL.out.drop 1 (by omega)
             have h3 : (⟨g, o, none⟩ : Addr).add 1 = ⟨g, o + 1, none⟩ := by simp [Addr.add]
             rw [h3] at h2
             exact h2
           have hne : ∀ ad, A' = some ad → ad.block ≠ gt := by
            intro ad had
            have := HAG.out _ rfl
            rcases hA with ⟨rfl, _⟩ | rfl <;> (injection had with had; subst had; exact this)
           refine ⟨{ tg with region := upOf x }, r, gt, A', n - 1, c', rfl, rfl, (hsl.ext hw3).other _ hne _, hc', by omega, fun y hy => HM.out y (by simp [hy]), hne, ?_, ?_, hgt, ?_, HV.out, ?_⟩
           ·exact (HRES.out.ext hw3).other _ (by show w.heap.size ≠ gt; omega) _
           ·exact (HAT.out.ext hw3).set2 _
           ·exact (HW.out.trans hw3).setCell (by show w.heap.size ≤ gt; omega) _
           ·rw [HR.out, c2_cons, if_pos HL.out]
          have FIN := hid fin
          clear fin
          have gf : ∀ w3, Ext wc w3 → (w3.cell? ⟨gt, 2, none⟩ = some (strv tg.region) ∧ w3.frozen? ⟨gt, 2, none⟩ = false) := by
           intro w3 hw3
           have := (HAT.out.ext hw3).cells
           exact ⟨this.1.2.2.1, this.2.2.2.1⟩
          have GF := hid gf
          clear gf
          by_cases hc1 : c = 1
          all_goals
           go_wp2_with (first
            | (go_at_call 150; refine (rregion_any _ _ (by omega)).mono ?_; rintro e w' ⟨rfl, rfl⟩; rw [HX.out, HL.out])
            | (go_at_call 151; refine (rupper_any _ _ (by omega)).mono ?_; rintro e w3 ⟨rfl, hw3⟩; unfold strv; obtain ⟨c3, d3⟩ := GF.out w3 hw3; have HW3 := hid hw3; clear hw3))
           go_meet
           first
            | (have FIN3 := FIN.out _ 0 w3 (.inl ⟨rfl, by omega⟩) (by omega) HW3.out; rw [← HX.out] at FIN3; exact FIN3)
            | (have FIN3 := FIN.out _ (c - 1) w3 (.inr rfl) (by omega) HW3.out; rw [← HX.out] at FIN3; exact FIN3)
     case rest =>
      clear HSL HM HAG HRES HAT HW HV HR HRN hnc hnN hgt
      obtain ⟨tg, r, gt, A, n, c, rfl, rfl, hsl, hnc, hnN, hmem, hAg, hres, hat, hgt, hw, hv, hR⟩ := hcut
      have HSL := hid hsl
      have HM := hid hmem
      have HAG := hid hAg
      have HRES := hid hres
      have HAT := hid hat
      have HW := hid hw
      have HV := hid hv
      have HR := hid hR
      have hrn : r.length = n := by have := hsl.1; rw [List.length_map] at this; exact this
      have HRN := hid hrn
      clear hsl hmem hAg hres hat hw hv hR hrn
      go_wp2
      go_loopw [6, 7] (LSt w tg gt A n r) (fun _ i _ => n - (intOf i).toNat)
      case atStart => exact ⟨0, none, 0, 0, Nat.zero_le _, rfl, rfl, HSL.out, HRES.out, HAT.out, by rw [show sortS (List.take 0 r) = [] from by simp [sortS]]; exact Sl.nil _ _, Nat.le_refl _, rfl, HW.out, fun ad h => by cases h⟩
      case round =>
       obtain ⟨k, Av, nv, cv, hk, rfl, rfl, hsl, hres, hat, hvs, hcv, hall, hw, hav⟩ := hrel
       have HAV := hid hav
       clear hav
       have hnv : (sortS (r.take k)).length = nv := by have := hvs.1; rw [List.length_map] at this; exact this
       have hnk : nv = k := by rw [← hnv, sortS_len, List.length_take, HRN.out]; omega
       subst hnk
       obtain ⟨⟨q0, q1, q2, q3⟩, ⟨f0, f1, f2, f3⟩⟩ := hres.cells
       obtain ⟨⟨p0, p1, p2, p3⟩, ⟨e0, e1, e2, e3⟩⟩ := hat.cells
       have HS2 := hid hsl
       have HRES2 := hid hres
       have HAT2 := hid hat
       have HVS := hid hvs
       have HALL := hid hall
       have HW2 := hid hw
       clear hsl hres hat hvs hall hw hnv
       by_cases hlt : nv < n
       ·obtain ⟨ad, x, rfl, hu, hc⟩ := HS2.out.at_map hlt
        obtain ⟨xb, hx1, hx2⟩ := strv_b x
        rw [hx1] at hc
        have hxs : xb.size ≤ 2000001 := by rw [← size_list, hx2]; exact HM.out x (List.mem_of_getElem? hu)
        have HX := hid hx2
        have HU := hid hu
        clear hx1 hx2 hu
        cases hl : variantB x with
        | false =>
          have HR2 := hid (HR.out.trans (c3_bad HU.out hl))
          have HL := hid hl
          clear hl
          generalize (!isNodup (r.take nv)) = tw
          go_wp2_with (go_at_call 152; refine (rvariant_any _ _ (by omega)).mono ?_; rintro e w' ⟨rfl, rfl⟩; rw [HX.out, HL.out])
          refine bodyPost_ret (v := .tuple #[tagV R.1 none 0 0, .int .i64 R.2]) ?_ rfl ⟨none, 0, 0, rfl, ?_⟩
          ·rw [HR2.out]
           simp [results, Tryz.results97, go_sem, q0, q1, q2, q3, f0, f1, f2, f3]
           exact ⟨rfl, rfl⟩
          ·rw [HR2.out]
           exact ⟨Sl.nil _ _, Nat.le_refl _, (((HW2.out.setCell (Nat.le_refl _) _).setCell (Nat.le_refl _) _).setCell (Nat.le_refl _) _).setCell (Nat.le_refl _) _, fun ad h => by cases h⟩
        | true =>
          have HL := hid hl
          clear hl
          have hnd : isNodup (r.take (nv + 1)) = (isNodup (r.take nv) && !insF (sortS (r.take nv)) x) := by rw [take_next HU.out, nodup_snoc]
          have hss : insS (sortS (r.take nv)) x = sortS (r.take (nv + 1)) := by rw [take_next HU.out, insS_sort]
          have hva : (r.take (nv + 1)).all variantB = true := by rw [take_next HU.out, List.all_append, HALL.out]; simp [HL.out]
          have ins : ∀ W : World, Ext wr W → Calls Tryz.prog 153 #[.slice Av nv cv, .string xb] W fun e w' => ∃ g3 c3, e = .returned (.tuple #[.slice (some ⟨g3, 0, none⟩) (nv + 1) c3, .bool (insF (sortS (r.take nv)) x)]) ∧ Sl w' (some ⟨g3, 0, none⟩) (nv + 1) ((sortS (r.take (nv + 1))).map strv) ∧ nv + 1 ≤ c3 ∧ gt < g3 ∧ Ext W w' := by
           intro W hW
           refine (rinsert_any _ _ _ _ _ W (HVS.out.ext hW) (by omega) hcv).mono ?_
           rintro e w' ⟨v, rfl, ho, hw'⟩
           obtain ⟨g3, c3, rfl, hg, _, hc3⟩ := own_some ho (by omega)
           obtain ⟨_, hs3⟩ := own_sl' ho
           rw [HX.out, hss] at hs3
           have h1 := (HAT2.out.ext hW).lt
           exact ⟨g3, c3, by rw [HX.out], hs3, hc3, by omega, hw'⟩
          have fin : ∀ W w3 g3 c3, Ext wr W → Sl w3 (some ⟨g3, 0, none⟩) (nv + 1) ((sortS (r.take (nv + 1))).map strv) → nv + 1 ≤ c3 → gt < g3 → Ext W w3 →
           LSt w tg gt (some ad) n r (.bool (!isNodup (r.take nv) || insF (sortS (r.take nv)) x)) (.int .i64 ((nv + 1 : Nat) : Int)) (w3.setCell ⟨gt, 3, none⟩ (.slice (some ⟨g3, 0, none⟩) (nv + 1) c3)) := by
           intro W w3 g3 c3 hW hs3 hc3 hg3 hw3
           have hx : Ext wr w3 := hW.trans hw3
           refine ⟨nv + 1, _, nv + 1, c3, by omega, rfl, ?_, (HS2.out.ext hx).other _ HAG.out _, (HRES2.out.ext hx).other _ (by show w.heap.size ≠ gt; omega) _, (HAT2.out.ext hx).set3 _, hs3.other _ ?_ _, hc3, hva, (HW2.out.trans hx).setCell (by show w.heap.size ≤ gt; omega) _, fun ad' had => by injection had with had; subst had; show w.heap.size < g3; omega⟩
           ·rw [hnd]
            cases isNodup (r.take nv) <;> cases insF (sortS (r.take nv)) x <;> rfl
           ·intro ad' had
            injection had with had
            subst had
            show g3 ≠ gt
            omega
          have gf : ∀ W w3, Ext wr W → Ext W w3 → (w3.cell? ⟨gt, 3, none⟩ = some (.slice Av nv cv) ∧ w3.frozen? ⟨gt, 3, none⟩ = false) := by
           intro W w3 hW hw3
           have := (HAT2.out.ext (hW.trans hw3)).cells
           exact ⟨this.1.2.2.2, this.2.2.2.2⟩
          have INS := hid ins
          have FIN := hid fin
          have GF := hid gf
          clear ins fin gf hnd hss hva
          have hkI : (nv : Int) < (n : Int) := by omega
          cases hN : isNodup (r.take nv)
          all_goals
           have HN := hid hN
           clear hN
           simp only [Bool.not_false, Bool.not_true]
           go_wp2_with (go_at_call 152; refine (rvariant_any _ _ (by omega)).mono ?_; rintro e w' ⟨rfl, rfl⟩; rw [HX.out, HL.out])
           go_region_with (go_at_call 153; refine (INS.out _ (Ext.refl wr).drew).mono ?_; rintro e w3 ⟨g3, c3, rfl, hs3, hc3, hg3, hw3⟩; obtain ⟨y0, y1⟩ := GF.out _ w3 (Ext.refl wr).drew hw3; have HW3 := hid hw3; have HS3 := hid hs3; clear hw3 hs3)
           all_goals go_wp2
           all_goals
            refine ⟨?_, by simp [intOf]; omega⟩
            have h := FIN.out _ w3 g3 c3 (Ext.refl wr).drew HS3.out hc3 hg3 HW3.out
            rw [HN.out] at h
            simp only [Bool.not_false, Bool.true_or, Bool.not_true, Bool.false_or] at h
            exact h
       ·have hnn : nv = n := by omega
        subst hnn
        have htk : r.take nv = r := by rw [List.take_of_length_le (by rw [HRN.out]; exact Nat.le_refl _)]
        have hall := HALL.out
        have hvs := HVS.out
        rw [htk] at hall hvs ⊢
        have hR2 : R = finT EC { tg with vars := r } := by
         rw [HR.out]
         unfold c3
         rw [if_pos hall, HV.out]
         rfl
        have HR2 := hid hR2
        have HVS2 := hid hvs
        have HR3 := HRN.out
        clear hall hvs hR2 htk
        have errs : ∀ e : Int, R = (TagP.zero, e) → ∀ w' : World, Ext w w' → (∃ A n c, Ending.returned (.tuple #[tagV TagP.zero none 0 0, .int .i64 e]) = Ending.returned (.tuple #[tagV R.1 A n c, .int .i64 R.2]) ∧ Sl w' A n (R.1.vars.map strv) ∧ n ≤ c ∧ Ext w w' ∧ ∀ ad, A = some ad → w.heap.size ≤ ad.block) := by
         intro e he w' hw'
         subst he
         exact ⟨none, 0, 0, rfl, Sl.nil _ _, Nat.le_refl _, hw', fun ad h => by cases h⟩
        have ERR := hid errs
        clear errs
        cases hN : isNodup r with
        | false =>
          have h9 : R = (TagP.zero, 9) := by
           rw [HR2.out]
           unfold finT
           rw [if_neg (by simp [hN])]
           rfl
          have H9 := hid h9
          clear h9 hN
          simp only [Bool.not_false]
          go_wp2
          refine bodyPost_ret (v := .tuple #[tagV TagP.zero none 0 0, .int .i64 9]) ?_ rfl (ERR.out 9 H9.out _ ((((HW2.out.setCell (Nat.le_refl _) _).setCell (Nat.le_refl _) _).setCell (Nat.le_refl _) _).setCell (Nat.le_refl _) _))
          simp [results, Tryz.results97, go_sem, q0, q1, q2, q3, f0, f1, f2, f3]
          rfl
        | true =>
          by_cases h4 : nv ≤ 4
          ·have hok : R = ({ tg with vars := sortS r }, 0) := by
            rw [HR2.out]
            unfold finT
            rw [if_pos (by exact hN), if_pos (by rw [show ({ tg with vars := r } : TagP).vars = r from rfl, HR3]; exact h4)]
           have HOK := hid hok
           clear hok hN
           unfold strv at p0 p1 p2
           simp only [Bool.not_true]
           go_wp2
           refine bodyPost_ret (v := .tuple #[tagV { tg with vars := sortS r } Av nv cv, .int .i64 0]) ?_ rfl ?_
           ·simp [results, Tryz.results97, go_sem, q0, q1, q2, q3, f0, f1, f2, f3, p0, p1, p2, p3]
            rfl
           ·rw [HOK.out]
            have ne : ∀ j ad, Av = some ad → ad.block ≠ (⟨w.heap.size, j, none⟩ : Addr).block := fun j ad h => Nat.ne_of_gt (HAV.out ad h)
            exact ⟨Av, nv, cv, rfl, (((HVS2.out.other _ (ne 0) _).other _ (ne 1) _).other _ (ne 2) _).other _ (ne 3) _, hcv, (((HW2.out.setCell (Nat.le_refl _) _).setCell (Nat.le_refl _) _).setCell (Nat.le_refl _) _).setCell (Nat.le_refl _) _, fun ad h => Nat.le_of_lt (HAV.out ad h)⟩
          ·have h6 : R = (TagP.zero, 6) := by
            rw [HR2.out]
            unfold finT
            rw [if_pos (by exact hN), if_neg (by rw [show ({ tg with vars := r } : TagP).vars = r from rfl, HR3]; exact h4)]
            rfl
           have H6 := hid h6
           clear h6 hN
           simp only [Bool.not_true]
           go_wp2
           refine bodyPost_ret (v := .tuple #[tagV TagP.zero none 0 0, .int .i64 6]) ?_ rfl (ERR.out 6 H6.out _ ((((HW2.out.setCell (Nat.le_refl _) _).setCell (Nat.le_refl _) _).setCell (Nat.le_refl _) _).setCell (Nat.le_refl _) _))
           simp [results, Tryz.results97, go_sem, q0, q1, q2, q3, f0, f1, f2, f3]
           rfl
theorem rparse_any (s : ByteArray) (w : World) (hs : s.size ≤ 2000000) :
 Calls Tryz.prog 97 #[.string s] w fun e w' => ∃ A n c, e = .returned (.tuple #[tagV (parseP EC s.data.toList).1 A n c, .int .i64 (parseP EC s.data.toList).2]) ∧ Sl w' A n ((parseP EC s.data.toList).1.vars.map strv) ∧ n ≤ c ∧ Ext w w' :=
 (rparse_fresh s w hs).mono fun _ _ ⟨A, n, c, h1, h2, h3, h4, _⟩ => ⟨A, n, c, h1, h2, h3, h4⟩
end Go.Proofs.YtljdlkonlnjadaaGreatDoor
