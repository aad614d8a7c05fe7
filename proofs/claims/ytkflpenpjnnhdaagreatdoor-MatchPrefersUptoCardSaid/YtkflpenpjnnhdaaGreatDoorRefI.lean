import Derived.Test.YtkflpenpjnnhdaaGreatDoorMQ9
namespace Go.Proofs.YtkflpenpjnnhdaaGreatDoor
open Go.RowKit
set_option linter.unusedSimpArgs false
set_option linter.unusedVariables false

theorem own3 (w : World) (o : Obj) : ((w.alloc o).alloc (.cells #[] 9)).drew.ownsRow w.heap.size 9 1 (.slice (some ⟨w.heap.size + 1, 0, none⟩) 0 0) 0 [] :=
  ⟨rfl, .inr ⟨w.heap.size + 1, 0, #[], rfl, by omega, two_new w _ _, Nat.le_refl _, Nat.zero_le _, rfl, rfl⟩⟩
theorem one_kept {W w' : World} {g : Nat} {u : Value} {row : Option Nat} (hg : W.grownBy w' row) (hW : W.heap[g]? = some (.cells #[u] 9)) (hne : some g ≠ row) : Sl w' (some ⟨g, 0, none⟩) 1 [u] := by
  have hlt : g < W.heap.size := (Array.getElem?_eq_some_iff.1 hW).1
  have h1 := (hg.block g hlt hne).trans hW
  refine ⟨rfl, fun j x hx => ⟨_, rfl, (Array.getElem?_eq_some_iff.1 h1).1, ?_⟩⟩
  have hj : j = 0 := by have := (List.getElem?_eq_some_iff.1 hx).1; simp at this; exact this
  subst hj
  simp at hx
  subst hx
  show w'.cell? ⟨g, 0, none⟩ = some u
  rw [cell_of_row w' g 0 #[u] 9 (0, 0) h1]
  rfl

theorem ins_end {w3 : World} {B k n : Nat} {v : Value} {l : List (List UInt8)} {s : ByteArray} {xs : List Value} (h : w3.ownsRow B 9 1 v (0 + k + 1 + (n - k)) xs) (hx : xs = [] ++ (l.take k).map strv ++ [.string s] ++ (l.drop k).map strv) (hk : k ≤ n) (hK : insK l s.data.toList = k) :
    w3.ownsRow B 9 1 v (n + 1) ((insS l s.data.toList).map strv) := by
  subst hx
  unfold insS
  rw [hK, List.map_append, List.map_cons, strv_mk]
  rw [show 0 + k + 1 + (n - k) = n + 1 from by omega] at h
  simpa using h

def InsInv (w : World) (l : List (List UInt8)) (x : List UInt8) (i : Value) (wr : World) : Prop :=
  ∃ k : Nat, k ≤ l.length ∧ i = .int .i64 k ∧ w = wr ∧ ∀ j y, j < k → l[j]? = some y → y < x

set_option maxHeartbeats 1000000 in
set_option maxRecDepth 100000 in
theorem rinsert_any (l : List (List UInt8)) (s : ByteArray) (A : Option Addr) (n c : Nat) (w : World) (hA : Sl w A n (l.map strv)) (hn : n ≤ 2000001) (hnc : n ≤ c) :
    Calls Tryz.prog 79 #[.slice A n c, .string s] w fun e w' => ∃ v, e = .returned (.tuple #[v, .bool (insF l s.data.toList)]) ∧ w'.ownsRow w.heap.size 9 1 v (n + 1) ((insS l s.data.toList).map strv) ∧ Ext w w' := by
  obtain ⟨i0, hi, hz0, hz1, hz2⟩ := info_parts (show (Tryz.prog.info? 9).map (fun i => (i.zero, i.size, i.bytes)) = some (some (.string ⟨#[]⟩), 1, 16) from by kernel_rfl)
  have hla : l.length = n := by have := hA.1; simpa using this
  have H1 := Lib.hid hA
  have L1 := Lib.hid hla
  clear hA hla
  go_enter Tryz.func79, Tryz.ntmps79
  go_wp2
  go_loopw [6] (InsInv w l s.data.toList) (fun i _ => n - (intOf i).toNat)
  case atStart => exact ⟨0, Nat.zero_le _, rfl, rfl, fun j y hj => absurd hj (Nat.not_lt_zero _)⟩
  case round =>
    obtain ⟨k, hk, rfl, rfl, hall⟩ := hrel
    have HA := Lib.hid hall
    rw [L1.out] at hk
    clear hall
    by_cases hlt : k < n
    · obtain ⟨ad, y, rfl, hu, hc⟩ := H1.out.at_map hlt
      obtain ⟨yb, hy1, hy2⟩ := strv_b y
      rw [hy1] at hc
      have HU := Lib.hid hu
      have HY := Lib.hid hy2
      clear hu hy1 hy2
      by_cases hxy : yb.data.toList < s.data.toList
      · have hb : Op.bytesLess yb.toList s.toList = true := by rw [less_b]; simpa using hxy
        have HXY := Lib.hid hxy
        clear hxy
        go_wp2
        refine ⟨⟨k + 1, by rw [L1.out]; omega, by go_num, rfl, fun j z hj hz => ?_⟩, by simp [intOf]; omega⟩
        by_cases hjk : j = k
        · subst hjk
          rw [HU.out] at hz
          injection hz with hz
          rw [← hz, ← HY.out]
          exact HXY.out
        · exact HA.out j z (by omega) hz
      · have hb : Op.bytesLess yb.toList s.toList = false := by rw [less_b]; simpa using hxy
        have hK : insK l s.data.toList = k := insK_at HA.out (fun z hz => by rw [HU.out] at hz; injection hz with hz; rw [← hz, ← HY.out]; exact hxy) (by rw [L1.out]; omega)
        have HK := Lib.hid hK
        clear hxy hK
        have hF : insF l s.data.toList = (yb.data.toList == s.data.toList) := by
          unfold insF
          rw [HK.out, List.drop_eq_getElem_cons (by rw [L1.out]; exact hlt)]
          have h1 := HU.out
          rw [List.getElem?_eq_getElem (by rw [L1.out]; exact hlt)] at h1
          injection h1 with h1
          simp only
          rw [h1, HY.out]
        rw [← eq_b] at hF
        have HF := Lib.hid hF
        clear hF
        have hkc : (k : Int) ≤ (c : Int) := by omega
        have hck : ¬ c = k := by omega
        have S1 := Lib.hid (show Sl w (some ad) k ((l.take k).map strv) from by rw [List.map_take]; exact H1.out.take k (by omega))
        have S3 := Lib.hid (show Sl w (some (ad.add k)) (n - k) ((l.drop k).map strv) from by rw [List.map_drop]; exact H1.out.drop k (by omega))
        have HS := Lib.hid (strv_mk s)
        cases heq : (yb.toList == s.toList)
        all_goals
          go_wp2
          have tok1 : True := trivial
          have tok2 : True := trivial
          have tok3 : True := trivial
          go_region_law (first
            | (have _t := tok1; refine step_app _ rfl _ _ 23 rfl w.heap.size 9 i0 _ 16 Tryz.underlying23 hi hz0 hz1 hz2 rfl _ 0 [] rfl (by first | exact (own_empty w 9).drew | exact ((own_empty w 9).alloc _).drew | exact own3 w _) _ k _ ((l.take k).map strv) rfl (S1.out.ext (by first | exact ((Ext.refl w).alloc _).drew | exact (((Ext.refl w).alloc _).alloc _).drew)) (strv_one _) (by unfold maxLen; omega) (by omega) (by simp; try omega) ?_; intro v1 w1 hown1 hgrow1; have HX1 := Lib.hid (ext_grown (a := w) (B := w.heap.size) (by first | exact ((Ext.refl w).alloc _).drew | exact (((Ext.refl w).alloc _).alloc _).drew) (by first | exact (own_empty w 9).drew | exact ((own_empty w 9).alloc _).drew | exact own3 w _) (Nat.le_refl _) hgrow1); (first | have HZ1 := Lib.hid (one_kept (row := some w.heap.size) hgrow1 (two_new w _ _) (by simp)) | have HZ1 := Lib.hid (one_kept (row := some (w.heap.size + 1)) hgrow1 (two_old w _ _) (by simp)) | skip); have HO1 := Lib.hid hown1; clear hown1 hgrow1 tok1)
            | (have _t := tok2; (refine step_app _ rfl _ _ 23 rfl w.heap.size 9 i0 _ 16 Tryz.underlying23 hi hz0 hz1 hz2 rfl _ (0 + k) _ rfl (by first | exact HO1.out | exact HO1.out.alloc _) _ 1 _ [.string s] rfl (by first | exact HZ1.out | exact Sl.one _ _ _) (by simp [Value.oneCell']) (by unfold maxLen; omega) (by omega) (by have := Ext.size HX1.out; first | omega | (simp; omega)) ?_); intro v2 w2 hown2 hgrow2; have HX2 := Lib.hid (ext_grown (a := w) (B := w.heap.size) (by first | exact HX1.out | exact HX1.out.alloc _) (by first | exact HO1.out | exact HO1.out.alloc _) (Nat.le_refl _) hgrow2); have HO2 := Lib.hid hown2; clear hown2 hgrow2 tok2)
            | (have _t := tok3; refine step_app _ rfl _ _ 23 rfl w.heap.size 9 i0 _ 16 Tryz.underlying23 hi hz0 hz1 hz2 rfl _ (0 + k + 1) _ rfl HO2.out _ (n - k) _ ((l.drop k).map strv) rfl (S3.out.ext HX2.out) (strv_one _) (by unfold maxLen; omega) (by omega) (by have := Ext.size HX2.out; first | omega | (simp; omega)) ?_; intro v3 w3 hown3 hgrow3; have HX3 := Lib.hid (ext_grown (a := w) (B := w.heap.size) HX2.out HO2.out (Nat.le_refl _) hgrow3); have HO3 := Lib.hid hown3; clear hown3 hgrow3 tok3))
          all_goals
           go_wp2
           go_ret2
           exact ⟨v3, by rw [HF.out, heq]; try rfl, ins_end HO3.out rfl (by omega) HK.out, HX3.out⟩
    · have hkn : k = n := by omega
      subst hkn
      have hK : insK l s.data.toList = k := insK_at HA.out (fun z hz => by rw [List.getElem?_eq_none (by rw [L1.out]; exact Nat.le_refl _)] at hz; cases hz) (by rw [L1.out]; exact Nat.le_refl _)
      have hF : insF l s.data.toList = false := by
        unfold insF
        rw [hK, List.drop_of_length_le (by rw [L1.out]; exact Nat.le_refl _)]
      have fin : ∀ (w3 : World) (v : Value), w3.ownsRow w.heap.size 9 1 v (0 + k + 1 + 0) ([] ++ l.map strv ++ [.string s] ++ []) → w3.ownsRow w.heap.size 9 1 v (k + 1) ((insS l s.data.toList).map strv) := by
        intro w3 v h
        refine ins_end (k := k) (n := k) (by rw [Nat.sub_self]; exact h) ?_ (Nat.le_refl _) hK
        rw [List.take_of_length_le (by rw [L1.out]; exact Nat.le_refl _), List.drop_of_length_le (by rw [L1.out]; exact Nat.le_refl _)]
        rfl
      have FIN := Lib.hid fin
      have HF := Lib.hid hF
      have S1 := H1
      have hkc : (k : Int) ≤ (c : Int) := by omega
      clear fin hF hK
      rcases A with _ | ad
      · have hk0 : k = 0 := by
          rcases Nat.eq_zero_or_pos k with h0 | h0
          · exact h0
          · obtain ⟨ad, u, hA, _⟩ := H1.out.at_ h0
            cases hA
        subst hk0
        go_wp2
        have tok1 : True := trivial
        have tok2 : True := trivial
        have tok3 : True := trivial
        go_region_law (first
            | (have _t := tok1; refine step_app _ rfl _ _ 23 rfl w.heap.size 9 i0 _ 16 Tryz.underlying23 hi hz0 hz1 hz2 rfl _ 0 [] rfl (by first | exact (own_empty w 9).drew | exact ((own_empty w 9).alloc _).drew | exact own3 w _) _ 0 _ (l.map strv) rfl (S1.out.ext (by first | exact ((Ext.refl w).alloc _).drew | exact (((Ext.refl w).alloc _).alloc _).drew)) (strv_one _) (by unfold maxLen; omega) (by omega) (by simp; try omega) ?_; intro v1 w1 hown1 hgrow1; have HX1 := Lib.hid (ext_grown (a := w) (B := w.heap.size) (by first | exact ((Ext.refl w).alloc _).drew | exact (((Ext.refl w).alloc _).alloc _).drew) (by first | exact (own_empty w 9).drew | exact ((own_empty w 9).alloc _).drew | exact own3 w _) (Nat.le_refl _) hgrow1); (first | have HZ1 := Lib.hid (one_kept (row := some w.heap.size) hgrow1 (two_new w _ _) (by simp)) | have HZ1 := Lib.hid (one_kept (row := some (w.heap.size + 1)) hgrow1 (two_old w _ _) (by simp)) | skip); have HO1 := Lib.hid hown1; clear hown1 hgrow1 tok1)
            | (have _t := tok2; (refine step_app _ rfl _ _ 23 rfl w.heap.size 9 i0 _ 16 Tryz.underlying23 hi hz0 hz1 hz2 rfl _ (0 + 0) _ rfl (by first | exact HO1.out | exact HO1.out.alloc _) _ 1 _ [.string s] rfl (by first | exact HZ1.out | exact Sl.one _ _ _) (by simp [Value.oneCell']) (by unfold maxLen; omega) (by omega) (by have := Ext.size HX1.out; first | omega | (simp; omega)) ?_); intro v2 w2 hown2 hgrow2; have HX2 := Lib.hid (ext_grown (a := w) (B := w.heap.size) (by first | exact HX1.out | exact HX1.out.alloc _) (by first | exact HO1.out | exact HO1.out.alloc _) (Nat.le_refl _) hgrow2); have HO2 := Lib.hid hown2; clear hown2 hgrow2 tok2)
            | (have _t := tok3; refine step_app _ rfl _ _ 23 rfl w.heap.size 9 i0 _ 16 Tryz.underlying23 hi hz0 hz1 hz2 rfl _ (0 + 0 + 1) _ rfl HO2.out _ 0 _ [] rfl (Sl.nil _ _) (by simp) (by unfold maxLen; omega) (by omega) (by have := Ext.size HX2.out; first | omega | (simp; omega)) ?_; intro v3 w3 hown3 hgrow3; have HX3 := Lib.hid (ext_grown (a := w) (B := w.heap.size) HX2.out HO2.out (Nat.le_refl _) hgrow3); have HO3 := Lib.hid hown3; clear hown3 hgrow3 tok3))
        all_goals
          go_wp2
          go_ret2
          exact ⟨v3, by rw [HF.out]; try rfl, FIN.out _ _ HO3.out, HX3.out⟩
      · by_cases hck : c = k
        all_goals
          go_wp2
          have tok1 : True := trivial
          have tok2 : True := trivial
          have tok3 : True := trivial
          go_region_law (first
            | (have _t := tok1; refine step_app _ rfl _ _ 23 rfl w.heap.size 9 i0 _ 16 Tryz.underlying23 hi hz0 hz1 hz2 rfl _ 0 [] rfl (by first | exact (own_empty w 9).drew | exact ((own_empty w 9).alloc _).drew | exact own3 w _) _ k _ (l.map strv) rfl (S1.out.ext (by first | exact ((Ext.refl w).alloc _).drew | exact (((Ext.refl w).alloc _).alloc _).drew)) (strv_one _) (by unfold maxLen; omega) (by omega) (by simp; try omega) ?_; intro v1 w1 hown1 hgrow1; have HX1 := Lib.hid (ext_grown (a := w) (B := w.heap.size) (by first | exact ((Ext.refl w).alloc _).drew | exact (((Ext.refl w).alloc _).alloc _).drew) (by first | exact (own_empty w 9).drew | exact ((own_empty w 9).alloc _).drew | exact own3 w _) (Nat.le_refl _) hgrow1); (first | have HZ1 := Lib.hid (one_kept (row := some w.heap.size) hgrow1 (two_new w _ _) (by simp)) | have HZ1 := Lib.hid (one_kept (row := some (w.heap.size + 1)) hgrow1 (two_old w _ _) (by simp)) | skip); have HO1 := Lib.hid hown1; clear hown1 hgrow1 tok1)
            | (have _t := tok2; (refine step_app _ rfl _ _ 23 rfl w.heap.size 9 i0 _ 16 Tryz.underlying23 hi hz0 hz1 hz2 rfl _ (0 + k) _ rfl (by first | exact HO1.out | exact HO1.out.alloc _) _ 1 _ [.string s] rfl (by first | exact HZ1.out | exact Sl.one _ _ _) (by simp [Value.oneCell']) (by unfold maxLen; omega) (by omega) (by have := Ext.size HX1.out; first | omega | (simp; omega)) ?_); intro v2 w2 hown2 hgrow2; have HX2 := Lib.hid (ext_grown (a := w) (B := w.heap.size) (by first | exact HX1.out | exact HX1.out.alloc _) (by first | exact HO1.out | exact HO1.out.alloc _) (Nat.le_refl _) hgrow2); have HO2 := Lib.hid hown2; clear hown2 hgrow2 tok2)
            | (have _t := tok3; refine step_app _ rfl _ _ 23 rfl w.heap.size 9 i0 _ 16 Tryz.underlying23 hi hz0 hz1 hz2 rfl _ (0 + k + 1) _ rfl HO2.out _ 0 _ [] rfl (Sl.nil _ _) (by simp) (by unfold maxLen; omega) (by omega) (by have := Ext.size HX2.out; first | omega | (simp; omega)) ?_; intro v3 w3 hown3 hgrow3; have HX3 := Lib.hid (ext_grown (a := w) (B := w.heap.size) HX2.out HO2.out (Nat.le_refl _) hgrow3); have HO3 := Lib.hid hown3; clear hown3 hgrow3 tok3))
          all_goals
            go_wp2
            go_ret2
            exact ⟨v3, by rw [HF.out]; try rfl, FIN.out _ _ HO3.out, HX3.out⟩
end Go.Proofs.YtkflpenpjnnhdaaGreatDoor
