import Derived.Test.YtiijdojihleggaaGreatDoorRNZE
import Derived.Shelf.SlSortCmp.KitK
set_option maxRecDepth 100000
set_option linter.unusedSimpArgs false
set_option linter.unusedVariables false
open Go.Lib (hid)
namespace Go.Proofs.YtiijdojihleggaaGreatDoor
open Go.Sort
section
variable {α : Type}
theorem list_cut (X : List α) (k : Nat) (h : k ≤ X.length) : ∃ X1 X2, X = X1 ++ X2 ∧ X1.length = k := ⟨X.take k, X.drop k, (List.take_append_drop k X).symm, by simp; omega⟩
theorem list_cut2 (X : List α) (k : Nat) (h : k < X.length) : ∃ X1 x X2, X = X1 ++ x :: X2 ∧ X1.length = k := by
 obtain ⟨X1, X2, rfl, h1⟩ := list_cut X k (by omega)
 cases X2 with
 | nil => simp at h; omega
 | cons x X2 => exact ⟨X1, x, X2, rfl, h1⟩
variable {le : α → α → Bool}
theorem low_all (hp : PreO le) {U V : List α} {x : α} (hs : SortedS le (U ++ V)) (h1 : U = [] ∨ ∃ U0 u, U = U0 ++ [u] ∧ le x u = false) (h2 : V = [] ∨ ∃ v V0, V = v :: V0 ∧ le x v = true) : [x].merge (U ++ V) le = U ++ x :: V := by
 obtain ⟨hU, hV, hUV⟩ := List.pairwise_append.1 hs
 refine merge_low (fun u hu => ?_) (fun v hv => ?_)
 ·rcases h1 with rfl | ⟨U0, z, rfl, hz⟩
  ·cases hu
  ·rcases List.mem_append.1 hu with h | h
   ·have hc := (List.pairwise_append.1 hU).2.2 u h z (by simp)
    cases hx : le x u with
    | false => rfl
    | true => rw [hp.1 x u z hx hc] at hz; cases hz
   ·rw [List.mem_singleton.1 h]; exact hz
 ·rcases h2 with rfl | ⟨z, V0, rfl, hz⟩
  ·cases hv
  ·rcases List.mem_cons.1 hv with rfl | h
   ·exact hz
   ·exact hp.1 x z v hz ((List.pairwise_cons.1 hV).1 v h)
theorem up_all (hp : PreO le) {U V : List α} {y : α} (hs : SortedS le (U ++ V)) (h1 : U = [] ∨ ∃ U0 u, U = U0 ++ [u] ∧ le u y = true) (h2 : V = [] ∨ ∃ v V0, V = v :: V0 ∧ le v y = false) : (U ++ V).merge [y] le = U ++ y :: V := by
 obtain ⟨hU, hV, hUV⟩ := List.pairwise_append.1 hs
 refine merge_up (fun u hu => ?_) (fun v hv => ?_)
 ·rcases h1 with rfl | ⟨U0, z, rfl, hz⟩
  ·cases hu
  ·rcases List.mem_append.1 hu with h | h
   ·exact hp.1 u z y ((List.pairwise_append.1 hU).2.2 u h z (by simp)) hz
   ·rw [List.mem_singleton.1 h]; exact hz
 ·rcases h2 with rfl | ⟨z, V0, rfl, hz⟩
  ·cases hv
  ·rcases List.mem_cons.1 hv with rfl | h
   ·exact hz
   ·cases hx : le v y with
    | false => rfl
    | true => rw [hp.1 z v y ((List.pairwise_cons.1 hV).1 v h) hx] at hz; cases hz
theorem cut_merge (hp : PreO le) {X1 X2 Y1 Y2 : List α} (hX : SortedS le (X1 ++ X2)) (hY : SortedS le (Y1 ++ Y2)) (h1 : Y1 = [] ∨ X2 = [] ∨ ∃ Y0 y x X0, Y1 = Y0 ++ [y] ∧ X2 = x :: X0 ∧ le x y = false) (h2 : X1 = [] ∨ Y2 = [] ∨ ∃ X0 x y Y0, X1 = X0 ++ [x] ∧ Y2 = y :: Y0 ∧ le x y = true) :
 (X1 ++ X2).merge (Y1 ++ Y2) le = X1.merge Y1 le ++ X2.merge Y2 le := by
 obtain ⟨hX1, hX2, hXX⟩ := List.pairwise_append.1 hX
 obtain ⟨hY1, hY2, hYY⟩ := List.pairwise_append.1 hY
 refine merge_split X1 Y1 X2 Y2 (fun u hu y hy => ?_) (fun x hx v hv => ?_)
 ·rcases h1 with rfl | rfl | ⟨Y0, y0, x0, X0, rfl, rfl, h⟩
  ·cases hu
  ·cases hy
  ·have a : u = y0 ∨ le u y0 = true := by
    rcases List.mem_append.1 hu with h | h
    ·right; exact (List.pairwise_append.1 hY1).2.2 u h y0 (by simp)
    ·left; exact List.mem_singleton.1 h
   have b : y = x0 ∨ le x0 y = true := by
    rcases List.mem_cons.1 hy with h | h
    ·left; exact h
    ·right; exact (List.pairwise_cons.1 hX2).1 y h
   cases hc : le y u with
   | false => rfl
   | true =>
     have c : le x0 u = true := by
      rcases b with rfl | b
      ·exact hc
      ·exact hp.1 x0 y u b hc
     have d : le x0 y0 = true := by
      rcases a with rfl | a
      ·exact c
      ·exact hp.1 x0 u y0 c a
     rw [d] at h; cases h
 ·rcases h2 with rfl | rfl | ⟨X0, x0, y0, Y0, rfl, rfl, h⟩
  ·cases hx
  ·cases hv
  ·have a : x = x0 ∨ le x x0 = true := by
    rcases List.mem_append.1 hx with h | h
    ·right; exact (List.pairwise_append.1 hX1).2.2 x h x0 (by simp)
    ·left; exact List.mem_singleton.1 h
   have b : v = y0 ∨ le y0 v = true := by
    rcases List.mem_cons.1 hv with h | h
    ·left; exact h
    ·right; exact (List.pairwise_cons.1 hY2).1 v h
   have c : le x0 v = true := by
    rcases b with rfl | b
    ·exact h
    ·exact hp.1 x0 y0 v h b
   rcases a with rfl | a
   ·exact c
   ·exact hp.1 x x0 v a c
end
section
variable {α : Type} [Inhabited α]
theorem swp_mid (L1 L2 L3 : List α) (u v : α) {i j : Nat} (hi : i = L1.length) (hj : j = L1.length + 1 + L2.length) : swp (L1 ++ u :: L2 ++ v :: L3).toArray i j = (L1 ++ v :: L2 ++ u :: L3).toArray := by
 subst hi hj
 have h1 : (L1 ++ u :: L2 ++ v :: L3).toArray[L1.length]! = u := arr_get (R := L2 ++ v :: L3) (by simp)
 have h2 : (L1 ++ u :: L2 ++ v :: L3).toArray[L1.length + 1 + L2.length]! = v := by
  rw [show L1.length + 1 + L2.length = (L1 ++ u :: L2).length from by simp; omega]
  exact arr_get (R := L3) (by simp)
 apply Array.toList_inj.1
 rw [swp_toList, h1, h2]
 simp only [List.append_assoc, List.cons_append]
 rw [List.set_append_right _ _ (Nat.le_refl _), Nat.sub_self, List.set_cons_zero, List.set_append_right _ _ (by omega), show L1.length + 1 + L2.length - L1.length = L2.length + 1 from by omega, List.set_cons_succ, List.set_append_right _ _ (Nat.le_refl _), Nat.sub_self, List.set_cons_zero]
theorem swp_adj (L1 L3 : List α) (u v : α) {i j : Nat} (hi : i = L1.length) (hj : j = L1.length + 1) : swp (L1 ++ u :: v :: L3).toArray i j = (L1 ++ v :: u :: L3).toArray := by
 have := swp_mid L1 [] L3 u v hi (by simpa using hj)
 simpa using this
theorem swp_adj' (L1 L3 : List α) (u v : α) {i j : Nat} (hi : i = L1.length + 1) (hj : j = L1.length) : swp (L1 ++ u :: v :: L3).toArray i j = (L1 ++ v :: u :: L3).toArray := by
 rw [swp_comm _ _ _ (by omega)]
 exact swp_adj L1 L3 u v hj hi
theorem get_app {l L R : List α} {x : α} {i : Nat} (h : l = L ++ x :: R) (hi : i = L.length) : l.toArray[i]! = x := by
 subst hi
 exact arr_get (by simpa using h)
end
end Go.Proofs.YtiijdojihleggaaGreatDoor
namespace Go.Proofs.YtiijdojihleggaaGreatDoor
open Go.RowKit Go.Sort Go.Shelf
def SwM (w0 : World) (g : Nat) (l : List Mb) (W : World) : Prop := SWK mbC 4 w0 g 0 l.toArray W
def RoM (w0 : World) (g : Nat) (l0 : List Mb) : Prop := RowK mbC 4 w0 g 0 l0.toArray
section
variable {w0 W : World} {g : Nat} {l0 l : List Mb}
theorem SwM.ld (h : SwM w0 g l W) (R : RoM w0 g l0) (hl : l.length = l0.length) {i : Nat} {x : Mb} (hx : l.toArray[i]! = x) (hi : i < l.length) (n : Nat) (os : Array Obj) :
 Sem.run Tryz.prog (loadCellsFrom ⟨g, i * 4, none⟩ 0 4 #[]) (grow (W.drewN n) os) = .ok (mbC x).toArray (grow (W.drewN n) os) := by
 have := SWK.ld (P := Tryz.prog) h R (by simpa using hl) i (by simpa using hi) n os
 rw [Nat.zero_add, hx] at this
 exact this
theorem SwM.ld1 (h : SwM w0 g l W) (R : RoM w0 g l0) (hl : l.length = l0.length) {i : Nat} {x : Mb} (hx : l.toArray[i]! = x) (hi : i < l.length) :
 Sem.run Tryz.prog (loadCellsFrom ⟨g, i * 4, none⟩ 0 4 #[]) W.drew = .ok (mbC x).toArray W.drew := by
 have := SWK.ld1 (P := Tryz.prog) h R (by simpa using hl) i (by simpa using hi)
 rw [Nat.zero_add, hx] at this
 exact this
theorem SwM.st1 (h : SwM w0 g l W) (R : RoM w0 g l0) (hl : l.length = l0.length) {i : Nat} (hi : i < l.length) (y : Mb) :
 Sem.run Tryz.prog (storeCells ⟨g, i * 4, none⟩ (mbC y) 0) W.drew = .ok () (W.drew.setCells g (i * 4) (mbC y)) := by
 have := SWK.st1 (P := Tryz.prog) h R (by simpa using hl) i (by simpa using hi) y
 rwa [Nat.zero_add] at this
theorem SwM.st2 (h : SwM w0 g l W) (R : RoM w0 g l0) (hl : l.length = l0.length) {i j : Nat} (hi : i < l.length) (hj : j < l.length) (y x : Mb) :
 Sem.run Tryz.prog (storeCells ⟨g, j * 4, none⟩ (mbC x) 0) (W.drew.setCells g (i * 4) (mbC y)) = .ok () ((W.drew.setCells g (i * 4) (mbC y)).setCells g (j * 4) (mbC x)) := by
 have := SWK.st2 (P := Tryz.prog) h R (by simpa using hl) i j (by simpa using hi) (by simpa using hj) y x
 rwa [Nat.zero_add, Nat.zero_add] at this
theorem SwM.swapped (h : SwM w0 g l W) (R : RoM w0 g l0) {i j : Nat} {x y : Mb} (hi : i < l.length) (hj : j < l.length) (hx : l.toArray[i]! = x) (hy : l.toArray[j]! = y) {l2 : List Mb} (h2 : swp l.toArray i j = l2.toArray) :
 SwM w0 g l2 ((W.drew.setCells g (i * 4) (mbC y)).setCells g (j * 4) (mbC x)) := by
 have := SWK.swapped h R i j (by simpa using hi) (by simpa using hj)
 rw [Nat.zero_add, Nat.zero_add, hx, hy, h2] at this
 exact this
theorem SwM.grown (h : SwM w0 g l W) (n : Nat) (os : Array Obj) : SwM w0 g l (grow (W.drewN n) os) := SWK.grown h n os
end
def SrI (w0 : World) (g : Nat) (P X M Y S : List Mb) (i : Value) (wr : World) : Prop := ∃ (j : Nat) (X1 X2 Y1 Y2 : List Mb), i = .int .i64 j ∧ X = X1 ++ X2 ∧ Y = Y1 ++ Y2 ∧ X1.length = j ∧ Y1.length = j ∧ SwM w0 g (P ++ Y1 ++ X2 ++ M ++ X1 ++ Y2 ++ S) wr
attribute [-go_sem] storeCells loadCellsFrom
set_option maxHeartbeats 4000000 in
theorem swapR_any {w0 w : World} {g c N : Nat} {l0 P X M Y S : List Mb} {a b n : Nat} (R : RoM w0 g l0) (hw : SwM w0 g (P ++ X ++ M ++ Y ++ S) w) (hl : (P ++ X ++ M ++ Y ++ S).length = l0.length) (hN : l0.length = N) (ha : P.length = a) (hX : X.length = n) (hY : Y.length = n) (hb : (P ++ X ++ M).length = b) (hn : N ≤ 1000000) :
 Calls Tryz.prog 164 #[.slice (some ⟨g, 0, none⟩) N c, .int .i64 a, .int .i64 b, .int .i64 n, .func (.func 35) #[] #[]] w fun e w' => e = .returned (.tuple #[]) ∧ SwM w0 g (P ++ Y ++ M ++ X ++ S) w' := by
 have HR := hid R
 have HI := hid (show SrI w0 g P X M Y S (.int .i64 0) w from ⟨0, [], X, [], Y, rfl, rfl, rfl, rfl, rfl, by simpa using hw⟩)
 have HL := hid hl
 have HB := hid hb
 have HNN := hid hN
 have HX := hid hX
 have HY := hid hY
 have HA := hid ha
 clear R hw hl hb hN hX hY ha
 go_enter Tryz.func164, Tryz.ntmps164
 go_wp2
 go_loopw [10] (SrI w0 g P X M Y S) (fun i _ => n - (intOf i).toNat)
 case atStart => exact HI.out
 case round =>
  obtain ⟨j, X1, X2, Y1, Y2, rfl, hX, hY, h1, h2, hs⟩ := hrel
  have HS := hid hs
  have hlX := HX.out
  have hlY := HY.out
  rw [hX, List.length_append, h1] at hlX
  rw [hY, List.length_append, h2] at hlY
  have HX1 := hid hX
  have HY1 := hid hY
  have H1 := hid h1
  have H2 := hid h2
  clear hs hX hY h1 h2
  by_cases hj : j < n
  ·as_aux_lemma =>
   cases X2 with
   | nil => simp at hlX; omega
   | cons x X2 =>
   cases Y2 with
   | nil => simp at hlY; omega
   | cons y Y2 =>
   have hlen : (P ++ Y1 ++ (x :: X2) ++ M ++ X1 ++ (y :: Y2) ++ S).length = l0.length := by
    have h := HL.out
    rw [HX1.out, HY1.out] at h
    simp only [List.length_append, List.length_cons] at h ⊢
    omega
   have hA : a + j = (P ++ Y1).length := by have := HA.out; have := H2.out; simp; omega
   have hBj : b + j = (P ++ Y1).length + 1 + (X2 ++ M ++ X1).length := by
    have h := HB.out
    rw [HX1.out] at h
    have h1 := H1.out
    have h2 := H2.out
    simp only [List.length_append, List.length_cons] at h ⊢
    omega
   have e1 : P ++ Y1 ++ (x :: X2) ++ M ++ X1 ++ (y :: Y2) ++ S = (P ++ Y1) ++ x :: (X2 ++ M ++ X1) ++ y :: (Y2 ++ S) := by simp
   have gx : (P ++ Y1 ++ (x :: X2) ++ M ++ X1 ++ (y :: Y2) ++ S).toArray[a + j]! = x := get_app (L := P ++ Y1) (R := (X2 ++ M ++ X1) ++ y :: (Y2 ++ S)) (by simp) hA
   have gy : (P ++ Y1 ++ (x :: X2) ++ M ++ X1 ++ (y :: Y2) ++ S).toArray[b + j]! = y := get_app (L := (P ++ Y1) ++ x :: (X2 ++ M ++ X1)) (R := Y2 ++ S) (by simp) (by rw [hBj]; simp; try omega)
   have hsw := swp_mid (P ++ Y1) (X2 ++ M ++ X1) (Y2 ++ S) x y hA hBj
   rw [← e1] at hsw
   have hli : a + j < N := by rw [← HNN.out, ← hlen, hA]; simp; try omega
   have hlj : b + j < N := by rw [← HNN.out, ← hlen, hBj]; simp; try omega
   have HN2 := hid (hlen.trans HNN.out)
   have hi2 : a + j < (P ++ Y1 ++ (x :: X2) ++ M ++ X1 ++ (y :: Y2) ++ S).length := by rw [HN2.out]; exact hli
   have hj2 : b + j < (P ++ Y1 ++ (x :: X2) ++ M ++ X1 ++ (y :: Y2) ++ S).length := by rw [HN2.out]; exact hlj
   have S2 := hid (HS.out.swapped HR.out hi2 hj2 gx gy hsw)
   have l1 := HS.out.ld1 HR.out hlen gx hi2
   have l2 := HS.out.ld1 HR.out hlen gy hj2
   have s1 := HS.out.st1 HR.out hlen hi2 y
   have s2 := HS.out.st2 HR.out hlen hi2 hj2 y x
   have n1 : (mbC x).length = 4 := rfl
   have n2 : (mbC y).length = 4 := rfl
   have hiz : (a : Int) + (j : Int) < (N : Int) := by omega
   have hjz : (b : Int) + (j : Int) < (N : Int) := by omega
   have i0 : (0 : Int) ≤ (a : Int) + (j : Int) := by omega
   have j0 : (0 : Int) ≤ (b : Int) + (j : Int) := by omega
   have i1 : ((a : Int) + (j : Int)).toNat = a + j := by omega
   have j1 : ((b : Int) + (j : Int)).toNat = b + j := by omega
   have wi : IntKind.i64.wrap ((a : Int) + (j : Int)) = (a : Int) + (j : Int) := by rw [IntKind.wrap_i64]; omega
   have wj : IntKind.i64.wrap ((b : Int) + (j : Int)) = (b : Int) + (j : Int) := by rw [IntKind.wrap_i64]; omega
   clear gx gy hsw hA hBj e1 hlen hi2 hj2
   generalize mbC x = cI at S2 l1 s2 n1
   generalize mbC y = cJ at S2 l2 s1 s2 n2
   go_wp2_with fail
   go_region
   clear l1 l2 s1 s2
   generalize (wr.drew.setCells g ((a + j) * 4) cJ).setCells g ((b + j) * 4) cI = w2 at S2 ⊢
   go_wp2
   refine ⟨⟨j + 1, X1 ++ [x], X2, Y1 ++ [y], Y2, by go_num, by rw [HX1.out]; simp, by rw [HY1.out]; simp, by have := H1.out; simp; omega, by have := H2.out; simp; omega, ?_⟩, by simp [intOf]; omega⟩
   have h := S2.out
   simpa using h
  ·have hje : j = n := by omega
   have hx2 : X2 = [] := List.eq_nil_of_length_eq_zero (by omega)
   have hy2 : Y2 = [] := List.eq_nil_of_length_eq_zero (by omega)
   go_wp2
   go_end0
   refine ⟨rfl, ?_⟩
   have h := HS.out
   rw [hx2, hy2] at h
   have e1 := HX1.out
   have e2 := HY1.out
   rw [hx2, List.append_nil] at e1
   rw [hy2, List.append_nil] at e2
   rw [e1, e2]
   simpa using h
def RtI (w0 : World) (g m : Nat) (T : List Mb) (i j : Value) (wr : World) : Prop := ∃ P X Y S : List Mb, i = .int .i64 X.length ∧ j = .int .i64 Y.length ∧ X ≠ [] ∧ Y ≠ [] ∧ (P ++ X).length = m ∧ P ++ Y ++ X ++ S = T ∧ SwM w0 g (P ++ X ++ Y ++ S) wr
set_option maxHeartbeats 4000000 in
theorem rot_any {w0 w : World} {g c N : Nat} {l0 P X Y S : List Mb} {a m b : Nat} (R : RoM w0 g l0) (hw : SwM w0 g (P ++ X ++ Y ++ S) w) (hl : (P ++ X ++ Y ++ S).length = l0.length) (hN : l0.length = N) (ha : P.length = a) (hm : (P ++ X).length = m) (hb : (P ++ X ++ Y).length = b) (hX : X ≠ []) (hY : Y ≠ []) (hn : N ≤ 1000000) :
 Calls Tryz.prog 118 #[.slice (some ⟨g, 0, none⟩) N c, .int .i64 a, .int .i64 m, .int .i64 b, .func (.func 35) #[] #[]] w fun e w' => e = .returned (.tuple #[]) ∧ SwM w0 g (P ++ Y ++ X ++ S) w' := by
 obtain ⟨T, hT⟩ : ∃ T, T = P ++ Y ++ X ++ S := ⟨_, rfl⟩
 have hTl : T.length = l0.length := by rw [hT, ← hl]; simp only [List.length_append]; omega
 have e1 : (m : Int) - a = X.length := by simp at hm; omega
 have e2 : (b : Int) - m = Y.length := by simp at hm hb; omega
 have hi1 : m ≤ N := by rw [← hN, ← hl, ← hm]; simp
 have hi2 : b ≤ N := by rw [← hN, ← hl, ← hb]; simp
 have HI := hid (show RtI w0 g m T (.int .i64 ((m : Int) - a)) (.int .i64 ((b : Int) - m)) w from ⟨P, X, Y, S, by rw [e1], by rw [e2], hX, hY, hm, hT.symm, hw⟩)
 have HR := hid R
 have HTL := hid hTl
 have HNN := hid hN
 rw [← hT]
 have ha2 : a ≤ m := by rw [← ha, ← hm]; simp
 have hm2 : m ≤ b := by rw [← hb, ← hm]; simp
 clear hX hY hw R hl hm hb hT hTl hN e1 e2 ha
 go_enter Tryz.func118, Tryz.ntmps118
 go_wp2
 go_loopw [10, 11] (RtI w0 g m T) (fun i j _ => (intOf i).toNat + (intOf j).toNat)
 case atStart => exact HI.out
 case round =>
  obtain ⟨P, X, Y, S, rfl, rfl, hX, hY, hm, hT, hs⟩ := hrel
  have hXl : 0 < X.length := List.length_pos_iff.2 hX
  have hYl : 0 < Y.length := List.length_pos_iff.2 hY
  have hlen : (P ++ X ++ Y ++ S).length = l0.length := by rw [← HTL.out, ← hT]; simp only [List.length_append]; omega
  have hm1 : P.length + X.length = m := by simpa using hm
  have hN1 : m + Y.length ≤ N := by rw [← HNN.out, ← hlen]; simp; omega
  have HS := hid hs
  have HT := hid hT
  have HLEN := hid hlen
  clear hs hT hlen hX hY hm
  rcases Nat.lt_trichotomy X.length Y.length with hlt | heq | hgt
  ·as_aux_lemma =>
   obtain ⟨Y1, Y2, rfl, hy1⟩ := list_cut Y (Y.length - X.length) (by omega)
   have hy2 : Y2.length = X.length := by simp at hy1 hlt ⊢; omega
   have hp : (P ++ X ++ Y1).length = P.length + (Y1 ++ Y2).length := by simp; omega
   have K := hid (swapR_any (c := c) (N := N) (P := P) (X := X) (M := Y1) (Y := Y2) (S := S) (a := P.length) (b := P.length + (Y1 ++ Y2).length) (n := X.length) HR.out (by simpa using HS.out) (by simpa using HLEN.out) HNN.out rfl rfl hy2 hp hn)
   obtain ⟨ny, hny⟩ : ∃ ny, ny = (Y1 ++ Y2).length := ⟨_, rfl⟩
   obtain ⟨nx, hnx⟩ : ∃ nx, nx = X.length := ⟨_, rfl⟩
   obtain ⟨np, hnp⟩ : ∃ np, np = P.length := ⟨_, rfl⟩
   rw [← hny, ← hnx, ← hnp] at K
   rw [← hny, ← hnx] at hlt ⊢
   rw [← hny] at hYl hN1 hy1
   rw [← hnx] at hXl hm1 hy1 hy2
   rw [← hnp] at hm1
   have hne : ((nx : Int) == (ny : Int)) = false := beq_eq_false_iff_ne.2 (by omega)
   have hngt : ¬ ((ny : Int) < (nx : Int)) := by omega
   have q1 : (m : Int) - (nx : Int) = (np : Int) := by omega
   have q2 : (m : Int) + (ny : Int) - (nx : Int) = ((np + ny : Nat) : Int) := by omega
   have HNX := hid hnx
   have HNY := hid hny
   have HNP := hid hnp
   clear hnx hny hnp hp
   go_wp2_with (go_at_call 164; (try rw [q1, q2]); refine K.out.mono ?_; rintro e w2 ⟨rfl, h2⟩; have H2 := hid h2; clear h2)
   refine ⟨⟨P, Y2, Y1, X ++ S, by rw [hy2], by rw [hy1]; congr 1; omega, List.length_pos_iff.1 (by omega), List.length_pos_iff.1 (by omega), by rw [List.length_append, hy2, ← HNP.out]; exact hm1, by rw [← HT.out]; simp, by simpa using H2.out⟩, by simp [intOf]; omega⟩
  ·as_aux_lemma =>
   have K := hid (swapR_any (c := c) (N := N) (P := P) (X := X) (M := []) (Y := Y) (S := S) (a := P.length) (b := m) (n := X.length) HR.out (by simpa using HS.out) (by simpa using HLEN.out) HNN.out rfl rfl heq.symm (by simpa using hm1) hn)
   obtain ⟨ny, hny⟩ : ∃ ny, ny = Y.length := ⟨_, rfl⟩
   obtain ⟨nx, hnx⟩ : ∃ nx, nx = X.length := ⟨_, rfl⟩
   obtain ⟨np, hnp⟩ : ∃ np, np = P.length := ⟨_, rfl⟩
   rw [← hnx, ← hnp] at K
   rw [← hny, ← hnx] at heq ⊢
   rw [← hnx, ← hnp] at hm1
   subst heq
   have q1 : (m : Int) - (nx : Int) = (np : Int) := by omega
   have HNP := hid hnp
   clear hnx hny hnp hXl hYl
   go_wp2_with (go_at_call 164; (try rw [q1]); refine K.out.mono ?_; rintro e w2 ⟨rfl, h2⟩; have H2 := hid h2; clear h2)
   go_end0
   exact ⟨rfl, by rw [← HT.out]; simpa using H2.out⟩
  ·as_aux_lemma =>
   obtain ⟨X1, X2, rfl, hx1⟩ := list_cut X Y.length (by omega)
   have hx2 : X2.length + Y.length = (X1 ++ X2).length := by simp; omega
   have K := hid (swapR_any (c := c) (N := N) (P := P) (X := X1) (M := X2) (Y := Y) (S := S) (a := P.length) (b := m) (n := Y.length) HR.out (by simpa using HS.out) (by simpa using HLEN.out) HNN.out rfl hx1 rfl (by simp; omega) hn)
   obtain ⟨ny, hny⟩ : ∃ ny, ny = Y.length := ⟨_, rfl⟩
   obtain ⟨nx, hnx⟩ : ∃ nx, nx = (X1 ++ X2).length := ⟨_, rfl⟩
   obtain ⟨np, hnp⟩ : ∃ np, np = P.length := ⟨_, rfl⟩
   rw [← hny, ← hnp] at K
   rw [← hny, ← hnx] at hgt ⊢
   rw [← hny] at hYl hN1 hx1
   rw [← hny, ← hnx] at hx2
   rw [← hnx, ← hnp] at hm1
   rw [← hnx] at hXl
   have hne : ((nx : Int) == (ny : Int)) = false := beq_eq_false_iff_ne.2 (by omega)
   have q1 : (m : Int) - (nx : Int) = (np : Int) := by omega
   have HNX := hid hnx
   have HNY := hid hny
   have HNP := hid hnp
   clear hnx hny hnp
   go_wp2_with (go_at_call 164; (try rw [q1]); refine K.out.mono ?_; rintro e w2 ⟨rfl, h2⟩; have H2 := hid h2; clear h2)
   refine ⟨⟨P ++ Y, X2, X1, S, by congr 1; omega, by rw [hx1], List.length_pos_iff.1 (by omega), List.length_pos_iff.1 (by omega), by rw [List.length_append, List.length_append, ← HNP.out, ← HNY.out]; omega, by rw [← HT.out]; simp, by simpa using H2.out⟩, by simp [intOf]; omega⟩
end Go.Proofs.YtiijdojihleggaaGreatDoor
namespace Go.Proofs.YtiijdojihleggaaGreatDoor
open Go.RowKit Go.Sort Go.Shelf
attribute [-go_sem] storeCells loadCellsFrom
theorem cf_lt {x y : Mb} : cfB y x < 0 ↔ leB x y = false := by
 unfold cfB leB leM
 simp
 omega
def B1I (w0 : World) (g m N : Nat) (l Y : List Mb) (x : Mb) (i j : Value) (wr : World) : Prop := ∃ p q : Nat, i = .int .i64 p ∧ j = .int .i64 q ∧ m ≤ p ∧ p ≤ q ∧ q ≤ N ∧ q ≤ m + Y.length ∧ (∀ p' y, p = m + p' + 1 → Y[p']? = some y → leB x y = false) ∧ (∀ q' y, q = m + q' → Y[q']? = some y → leB x y = true) ∧ SwM w0 g l wr
def U1I (w0 : World) (g a : Nat) (P U V S : List Mb) (x : Mb) (k : Value) (wr : World) : Prop := ∃ (q : Nat) (U1 U2 : List Mb), k = .int .i64 q ∧ q = a + U1.length ∧ U = U1 ++ U2 ∧ SwM w0 g (P ++ U1 ++ x :: U2 ++ V ++ S) wr
def SymG (w0 : World) (g c N : Nat) (l0 P X Y S : List Mb) (a m b : Nat) (w : World) : Prop :=
 Calls Tryz.prog 77 #[.slice (some ⟨g, 0, none⟩) N c, .int .i64 a, .int .i64 m, .int .i64 b, .func (.func 35) #[] #[]] w fun e w' => e = .returned (.tuple #[]) ∧ SwM w0 g (P ++ X.merge Y leB ++ S) w'
theorem enterM : ∀ args w, (callFunc 35 args).run Tryz.prog w = .ok (.enter 35 args) w := enters_of Tryz.func35 (by kernel_rfl) rfl
set_option maxHeartbeats 4000000 in
theorem sym_one {w0 w : World} {g c N : Nat} {l0 P Y S : List Mb} {x : Mb} {a m b : Nat} (R : RoM w0 g l0) (hw : SwM w0 g (P ++ [x] ++ Y ++ S) w) (hl : (P ++ [x] ++ Y ++ S).length = l0.length) (hN : l0.length = N) (ha : P.length = a) (hm : m = a + 1) (hb : b = m + Y.length) (hY : SortedS leB Y) (hn : N ≤ 1000000) :
 SymG w0 g c N l0 P [x] Y S a m b w := by
 obtain ⟨l, hl2⟩ : ∃ l, l = P ++ [x] ++ Y ++ S := ⟨_, rfl⟩
 rw [← hl2] at hw hl
 have hbN : b ≤ N := by rw [← hN, ← hl, hl2, hb, hm, ← ha]; simp; omega
 have hmb : m ≤ b := by omega
 have HI := hid (show B1I w0 g m N l Y x (.int .i64 m) (.int .i64 b) w from by
  refine ⟨m, b, rfl, rfl, Nat.le_refl _, hmb, hbN, by omega, fun p' y h _ => by omega, fun q' y h h2 => ?_, hw⟩
  rw [List.getElem?_eq_none (by omega)] at h2
  cases h2)
 have mixed : Tryz.prog.follows .mixedOrders = true := by kernel_rfl
 have HR := hid R
 have HL := hid hl
 have HL2 := hid hl2
 have HN := hid hN
 have HYS := hid hY
 have HB := hid hb
 have HA := hid ha
 have EG := enterM
 unfold SymG
 have hq : ((m : Int) - (a : Int) == 1) = true := by rw [beq_iff_eq]; omega
 have haN : a < N := by omega
 have HM := hid hm
 clear R hw hl hN hY hl2 hb ha hm
 go_enter Tryz.func77, Tryz.ntmps77
 go_wp2
 go_loopw [10, 11] (B1I w0 g m N l Y x) (fun i j _ => (intOf j - intOf i).toNat)
 case atStart => exact HI.out
 case round =>
  obtain ⟨p, q, rfl, rfl, hmp, hpq, hqN, hqY, hlo, hhi, hs⟩ := hrel
  have HS := hid hs
  have HLO := hid hlo
  have HHI := hid hhi
  have HQY := hid hqY
  clear hs hlo hhi hqY
  by_cases hlt : p < q
  ·as_aux_lemma =>
   obtain ⟨h, hh⟩ : ∃ h, h = (p + q) / 2 := ⟨_, rfl⟩
   have hhz : ((p : Int) + (q : Int)) / 2 = (h : Int) := by omega
   have h1 : p ≤ h ∧ h < q := by omega
   obtain ⟨h1, h2⟩ := h1
   have hty : h - m < Y.length := by have := HQY.out; omega
   obtain ⟨Y1, y, Y2, eY, hY1⟩ := list_cut2 Y (h - m) hty
   have hy : Y[h - m]? = some y := by rw [eY, ← hY1]; simp
   have gy : l.toArray[h]! = y := get_app (L := P ++ [x] ++ Y1) (R := Y2 ++ S) (by rw [HL2.out, eY]; simp) (by have := HA.out; have := HM.out; simp; omega)
   have gx : l.toArray[a]! = x := get_app (L := P) (R := Y ++ S) (by rw [HL2.out]; simp) HA.out.symm
   have l1 := HS.out.ld HR.out HL.out gy (by rw [HL.out, HN.out]; omega)
   have l2 := HS.out.ld HR.out HL.out gx (by rw [HL.out, HN.out]; omega)
   have hhN : (h : Int) < (N : Int) := by omega
   have haN2 : (a : Int) < (N : Int) := by omega
   have HC := fun n os => cmp_any y x (grow (wr.drewN n) os)
   have HY2 := hid hy
   have HGR := hid (fun n os => HS.out.grown n os)
   clear gy gx eY hY1 hy hty hh
   cases hle : leB x y with
   | false =>
     have hc1 : cfB y x < 0 := cf_lt.2 hle
     have hc2 : decide (cfB y x < 0) = true := decide_eq_true hc1
     have HLE := hid hle
     clear hle
     go_wp2_with fail
     go_quiet_grown (first | (go_at_fn 35; refine Calls.grown_of (HC _ _)))
     go_wp2
     refine ⟨⟨h + 1, q, by go_num, rfl, by omega, h2, hqN, HQY.out, fun p' y' e1 e2 => ?_, HHI.out, HGR.out _ _⟩, by simp [intOf]; omega⟩
     have e3 : p' = h - m := by omega
     rw [e3, HY2.out] at e2
     injection e2 with e2
     rw [← e2]; exact HLE.out
   | true =>
     have hc1 : ¬ cfB y x < 0 := fun h => by rw [cf_lt.1 h] at hle; cases hle
     have hc2 : decide (cfB y x < 0) = false := decide_eq_false hc1
     have HLE := hid hle
     clear hle
     go_wp2_with fail
     go_quiet_grown (first | (go_at_fn 35; refine Calls.grown_of (HC _ _)))
     go_wp2
     refine ⟨⟨p, h, rfl, rfl, hmp, h1, by omega, by have := HQY.out; omega, HLO.out, fun q' y' e1 e2 => ?_, HGR.out _ _⟩, by simp [intOf]; omega⟩
     have e3 : q' = h - m := by omega
     rw [e3, HY2.out] at e2
     injection e2 with e2
     rw [← e2]; exact HLE.out
  ·as_aux_lemma =>
   have hpq2 : p = q := by omega
   subst hpq2
   obtain ⟨U, V, eY, hU⟩ := list_cut Y (p - m) (by have := HQY.out; omega)
   have HMG := hid (show [x].merge Y leB = U ++ x :: V from by
    rw [eY]
    refine low_all preB (by rw [← eY]; exact HYS.out) ?_ ?_
    ·rcases List.eq_nil_or_concat U with e | ⟨U0, u, e⟩
     ·exact .inl e
     ·right
      subst e
      refine ⟨U0, u, by simp, HLO.out U0.length u ?_ ?_⟩
      ·simp at hU; omega
      ·rw [eY]; simp
    ·cases V with
     | nil => exact .inl rfl
     | cons v V =>
       right
       refine ⟨v, V, rfl, HHI.out U.length v (by omega) (by rw [eY]; simp)⟩)
   have HUI := hid (show U1I w0 g a P U V S x (.int .i64 a) wr from ⟨a, [], U, rfl, by simp, rfl, by have h := HS.out; rw [HL2.out, eY] at h; simpa using h⟩)
   have hUl : a + U.length + 1 = p := by have := HM.out; omega
   have HUL := hid hUl
   have hlen := HL.out
   rw [HL2.out, eY] at hlen
   have HLEN := hid hlen
   have HAA := hid HA.out
   have hpN := hqN
   have hp1 : 1 ≤ p := by omega
   clear hU eY hUl hlen HS HLO HHI HQY HI hlt hpq hqN
   go_wp2_with fail
   go_loopw [13] (U1I w0 g a P U V S x) (fun k _ => p - (intOf k).toNat)
   case atStart => exact HUI.out
   case round =>
    obtain ⟨q, U1, U2, rfl, hq1, hUU, hs⟩ := hrel
    have HS := hid hs
    have HUU := hid hUU
    have HQ1 := hid hq1
    have hqp : q + U2.length + 1 = p := by rw [← HUL.out, hUU, List.length_append]; omega
    clear hs hUU hq1
    cases U2 with
    | nil =>
      have hnl : ¬ ((q : Int) < (p : Int) - 1) := by simp at hqp; omega
      clear hqp
      go_wp2
      refine bodyPost_ret (results_none rfl _ _ _) rfl ?_
      refine ⟨rfl, ?_⟩
      have h := HS.out
      have e := HUU.out
      rw [List.append_nil] at e
      rw [HMG.out, e]
      simpa using h
    | cons u U2 =>
      have hnl : (q : Int) < (p : Int) - 1 := by simp at hqp; omega
      have eL : P ++ U1 ++ x :: (u :: U2) ++ V ++ S = (P ++ U1) ++ x :: u :: (U2 ++ V ++ S) := by simp
      have hA : q = (P ++ U1).length := by rw [HQ1.out, ← HA.out]; simp
      have hlen : (P ++ U1 ++ x :: (u :: U2) ++ V ++ S).length = l0.length := by
       rw [← HLEN.out, HUU.out]; simp only [List.length_append, List.length_cons, List.length_nil]; omega
      have gx : (P ++ U1 ++ x :: (u :: U2) ++ V ++ S).toArray[q]! = x := get_app (L := P ++ U1) (R := u :: (U2 ++ V ++ S)) eL hA
      have gu : (P ++ U1 ++ x :: (u :: U2) ++ V ++ S).toArray[q + 1]! = u := get_app (L := P ++ U1 ++ [x]) (R := U2 ++ V ++ S) (by simp) (by simp at hA ⊢; omega)
      have hsw : swp (P ++ U1 ++ x :: (u :: U2) ++ V ++ S).toArray q (q + 1) = (P ++ (U1 ++ [u]) ++ x :: U2 ++ V ++ S).toArray := by
       rw [eL, swp_adj (P ++ U1) (U2 ++ V ++ S) x u hA (by rw [hA])]
       simp
      have hi : q < (P ++ U1 ++ x :: (u :: U2) ++ V ++ S).length := by rw [hlen, HN.out]; omega
      have hj : q + 1 < (P ++ U1 ++ x :: (u :: U2) ++ V ++ S).length := by rw [hlen, HN.out]; omega
      have S2 := hid (HS.out.swapped HR.out hi hj gx gu hsw)
      have l1 := HS.out.ld1 HR.out hlen gx hi
      have l2 := HS.out.ld1 HR.out hlen gu hj
      have s1 := HS.out.st1 HR.out hlen hi u
      have s2 := HS.out.st2 HR.out hlen hi hj u x
      have n1 : (mbC x).length = 4 := rfl
      have n2 : (mbC u).length = 4 := rfl
      have hiz : (q : Int) < (N : Int) := by omega
      have hjz : (q : Int) + 1 < (N : Int) := by omega
      have j0 : (0 : Int) ≤ (q : Int) + 1 := by omega
      have j1 : ((q : Int) + 1).toNat = q + 1 := by omega
      have wj : IntKind.i64.wrap ((q : Int) + 1) = (q : Int) + 1 := by rw [IntKind.wrap_i64]; omega
      clear gx gu hsw hA eL hlen hi hj
      generalize mbC x = cI at S2 l1 s2 n1
      generalize mbC u = cJ at S2 l2 s1 s2 n2
      go_wp2_with fail
      go_region
      clear l1 l2 s1 s2
      generalize (wr.drew.setCells g (q * 4) cJ).setCells g ((q + 1) * 4) cI = w2 at S2 ⊢
      go_wp2
      refine ⟨⟨q + 1, U1 ++ [u], U2, by go_num, by rw [HQ1.out]; simp; omega, by rw [HUU.out]; simp, S2.out⟩, by simp [intOf]; omega⟩
end Go.Proofs.YtiijdojihleggaaGreatDoor
namespace Go.Proofs.YtiijdojihleggaaGreatDoor
open Go.RowKit Go.Sort Go.Shelf
attribute [-go_sem] storeCells loadCellsFrom
def B2I (w0 : World) (g a N : Nat) (l X : List Mb) (y : Mb) (i j : Value) (wr : World) : Prop := ∃ p q : Nat, i = .int .i64 p ∧ j = .int .i64 q ∧ a ≤ p ∧ p ≤ q ∧ q ≤ N ∧ q ≤ a + X.length ∧ (∀ p' x, p = a + p' + 1 → X[p']? = some x → leB x y = true) ∧ (∀ q' x, q = a + q' → X[q']? = some x → leB x y = false) ∧ SwM w0 g l wr
def U2I (w0 : World) (g p : Nat) (P U V S : List Mb) (y : Mb) (k : Value) (wr : World) : Prop := ∃ (q : Nat) (V1 V2 : List Mb), k = .int .i64 q ∧ q = p + V1.length ∧ V = V1 ++ V2 ∧ SwM w0 g (P ++ U ++ V1 ++ y :: V2 ++ S) wr
set_option maxHeartbeats 4000000 in
theorem sym_last {w0 w : World} {g c N : Nat} {l0 P X S : List Mb} {y : Mb} {a m b : Nat} (R : RoM w0 g l0) (hw : SwM w0 g (P ++ X ++ [y] ++ S) w) (hl : (P ++ X ++ [y] ++ S).length = l0.length) (hN : l0.length = N) (ha : P.length = a) (hm : m = a + X.length) (hb : b = m + 1) (hX : SortedS leB X) (hX1 : X.length ≠ 1) (hn : N ≤ 1000000) :
 SymG w0 g c N l0 P X [y] S a m b w := by
 obtain ⟨l, hl2⟩ : ∃ l, l = P ++ X ++ [y] ++ S := ⟨_, rfl⟩
 rw [← hl2] at hw hl
 have hbN : b ≤ N := by rw [← hN, ← hl, hl2, hb, hm, ← ha]; simp; omega
 have ham : a ≤ m := by omega
 have HI := hid (show B2I w0 g a N l X y (.int .i64 a) (.int .i64 m) w from by
  refine ⟨a, m, rfl, rfl, Nat.le_refl _, ham, by omega, by omega, fun p' y h _ => by omega, fun q' y h h2 => ?_, hw⟩
  rw [List.getElem?_eq_none (by omega)] at h2
  cases h2)
 have mixed : Tryz.prog.follows .mixedOrders = true := by kernel_rfl
 have HR := hid R
 have HL := hid hl
 have HL2 := hid hl2
 have HN := hid hN
 have HXS := hid hX
 have HA := hid ha
 have EG := enterM
 unfold SymG
 have hq1 : ((m : Int) - (a : Int) == 1) = false := by rw [beq_eq_false_iff_ne]; omega
 have hq2 : ((b : Int) - (m : Int) == 1) = true := by rw [beq_iff_eq]; omega
 have hmN : m < N := by omega
 have HB := hid hb
 have HM := hid hm
 clear R hw hl hN hX hl2 hb ha hm hX1
 go_enter Tryz.func77, Tryz.ntmps77
 go_wp2
 go_loopw [14, 15] (B2I w0 g a N l X y) (fun i j _ => (intOf j - intOf i).toNat)
 case atStart => exact HI.out
 case round =>
  obtain ⟨p, q, rfl, rfl, hmp, hpq, hqN, hqY, hlo, hhi, hs⟩ := hrel
  have HS := hid hs
  have HLO := hid hlo
  have HHI := hid hhi
  have HQY := hid hqY
  clear hs hlo hhi hqY
  by_cases hlt : p < q
  ·as_aux_lemma =>
   obtain ⟨h, hh⟩ : ∃ h, h = (p + q) / 2 := ⟨_, rfl⟩
   have hhz : ((p : Int) + (q : Int)) / 2 = (h : Int) := by omega
   have h1 : p ≤ h ∧ h < q := by omega
   obtain ⟨h1, h2⟩ := h1
   have hty : h - a < X.length := by have := HQY.out; omega
   obtain ⟨X1, x, X2, eX, hX1⟩ := list_cut2 X (h - a) hty
   have hx : X[h - a]? = some x := by rw [eX, ← hX1]; simp
   have gx : l.toArray[h]! = x := get_app (L := P ++ X1) (R := X2 ++ [y] ++ S) (by rw [HL2.out, eX]; simp) (by have := HA.out; simp; omega)
   have gy : l.toArray[m]! = y := get_app (L := P ++ X) (R := S) (by rw [HL2.out]; simp) (by have := HA.out; have := HM.out; simp; omega)
   have l1 := HS.out.ld HR.out HL.out gx (by rw [HL.out, HN.out]; omega)
   have l2 := HS.out.ld HR.out HL.out gy (by rw [HL.out, HN.out]; omega)
   have hhN : (h : Int) < (N : Int) := by omega
   have hmN2 : (m : Int) < (N : Int) := by omega
   have HC := fun n os => cmp_any y x (grow (wr.drewN n) os)
   have HX2 := hid hx
   have HGR := hid (fun n os => HS.out.grown n os)
   clear gx gy eX hX1 hx hty hh
   cases hle : leB x y with
   | false =>
     have hc1 : cfB y x < 0 := cf_lt.2 hle
     have hc2 : decide (cfB y x < 0) = true := decide_eq_true hc1
     have HLE := hid hle
     clear hle
     go_wp2_with fail
     go_quiet_grown (first | (go_at_fn 35; refine Calls.grown_of (HC _ _)))
     go_wp2
     refine ⟨⟨p, h, rfl, rfl, hmp, h1, by omega, by have := HQY.out; omega, HLO.out, fun q' y' e1 e2 => ?_, HGR.out _ _⟩, by simp [intOf]; omega⟩
     have e3 : q' = h - a := by omega
     rw [e3, HX2.out] at e2
     injection e2 with e2
     rw [← e2]; exact HLE.out
   | true =>
     have hc1 : ¬ cfB y x < 0 := fun h => by rw [cf_lt.1 h] at hle; cases hle
     have hc2 : decide (cfB y x < 0) = false := decide_eq_false hc1
     have HLE := hid hle
     clear hle
     go_wp2_with fail
     go_quiet_grown (first | (go_at_fn 35; refine Calls.grown_of (HC _ _)))
     go_wp2
     refine ⟨⟨h + 1, q, by go_num, rfl, by omega, h2, hqN, HQY.out, fun p' y' e1 e2 => ?_, HHI.out, HGR.out _ _⟩, by simp [intOf]; omega⟩
     have e3 : p' = h - a := by omega
     rw [e3, HX2.out] at e2
     injection e2 with e2
     rw [← e2]; exact HLE.out
  ·as_aux_lemma =>
   have hpq2 : p = q := by omega
   subst hpq2
   obtain ⟨U, V, eX, hU⟩ := list_cut X (p - a) (by have := HQY.out; omega)
   have HMG := hid (show X.merge [y] leB = U ++ y :: V from by
    rw [eX]
    refine up_all preB (by rw [← eX]; exact HXS.out) ?_ ?_
    ·rcases List.eq_nil_or_concat U with e | ⟨U0, u, e⟩
     ·exact .inl e
     ·right
      subst e
      refine ⟨U0, u, by simp, HLO.out U0.length u ?_ ?_⟩
      ·simp at hU; omega
      ·rw [eX]; simp
    ·cases V with
     | nil => exact .inl rfl
     | cons v V =>
       right
       refine ⟨v, V, rfl, HHI.out U.length v (by omega) (by rw [eX]; simp)⟩)
   have hXV : m = p + V.length := by have := HM.out; rw [eX, List.length_append] at this; omega
   have HUI := hid (show U2I w0 g p P U V S y (.int .i64 m) wr from ⟨m, V, [], rfl, hXV, by simp, by have h := HS.out; rw [HL2.out, eX] at h; simpa using h⟩)
   have hlen := HL.out
   rw [HL2.out, eX] at hlen
   have HLEN := hid hlen
   have HPU := hid (show p = (P ++ U).length from by have := HA.out; simp; omega)
   clear hU eX hXV hlen HS HLO HHI HQY HI hlt hpq
   go_wp2_with fail
   go_loopw [17] (U2I w0 g p P U V S y) (fun k _ => (intOf k).toNat - p)
   case atStart => exact HUI.out
   case round =>
    obtain ⟨q, V1, V2, rfl, hq1, hVV, hs⟩ := hrel
    have HS := hid hs
    have HVV := hid hVV
    have HQ1 := hid hq1
    clear hs hVV
    rcases List.eq_nil_or_concat V1 with e | ⟨V1', v, e⟩
    ·subst e
     have hnl : ¬ ((p : Int) < (q : Int)) := by simp at hq1; omega
     clear hq1
     go_wp2
     refine bodyPost_ret (results_none rfl _ _ _) rfl ?_
     refine ⟨rfl, ?_⟩
     have h := HS.out
     have e := HVV.out
     rw [List.nil_append] at e
     rw [HMG.out, e]
     simpa using h
    ·rw [List.concat_eq_append] at e
     subst e
     have hqs : q = p + V1'.length + 1 := by simp at hq1; omega
     have hnl : (p : Int) < (q : Int) := by omega
     clear hq1
     have hlen : (P ++ U ++ (V1' ++ [v]) ++ y :: V2 ++ S).length = l0.length := by
      rw [← HLEN.out, HVV.out]; simp only [List.length_append, List.length_cons, List.length_nil]; omega
     have hqN2 : q < N := by rw [← HN.out, ← hlen]; have := HPU.out; simp at this ⊢; omega
     obtain ⟨r, rfl⟩ : ∃ r, q = r + 1 := ⟨q - 1, by omega⟩
     have eL : P ++ U ++ (V1' ++ [v]) ++ y :: V2 ++ S = (P ++ U ++ V1') ++ v :: y :: (V2 ++ S) := by simp
     have hA : r = (P ++ U ++ V1').length := by have := HPU.out; simp at this ⊢; omega
     have gv : (P ++ U ++ (V1' ++ [v]) ++ y :: V2 ++ S).toArray[r]! = v := get_app (L := P ++ U ++ V1') (R := y :: (V2 ++ S)) eL hA
     have gy : (P ++ U ++ (V1' ++ [v]) ++ y :: V2 ++ S).toArray[r + 1]! = y := get_app (L := P ++ U ++ V1' ++ [v]) (R := V2 ++ S) (by simp) (by simp at hA ⊢; omega)
     have hsw : swp (P ++ U ++ (V1' ++ [v]) ++ y :: V2 ++ S).toArray (r + 1) r = (P ++ U ++ V1' ++ y :: (v :: V2) ++ S).toArray := by
      rw [eL, swp_adj' (P ++ U ++ V1') (V2 ++ S) v y (by rw [hA]) hA]
      simp
     have hi : r + 1 < (P ++ U ++ (V1' ++ [v]) ++ y :: V2 ++ S).length := by rw [hlen, HN.out]; exact hqN2
     have hj : r < (P ++ U ++ (V1' ++ [v]) ++ y :: V2 ++ S).length := by omega
     have S2 := hid (HS.out.swapped HR.out hi hj gy gv hsw)
     have l1 := HS.out.ld1 HR.out hlen gy hi
     have l2 := HS.out.ld1 HR.out hlen gv hj
     have s1 := HS.out.st1 HR.out hlen hi v
     have s2 := HS.out.st2 HR.out hlen hi hj v y
     have n1 : (mbC y).length = 4 := rfl
     have n2 : (mbC v).length = 4 := rfl
     have hjz : (r : Int) < (N : Int) := by omega
     have hiz : (r : Int) + 1 < (N : Int) := by omega
     have j0 : (0 : Int) ≤ (r : Int) + 1 := by omega
     have j1 : ((r : Int) + 1).toNat = r + 1 := by omega
     have wj : IntKind.i64.wrap ((r : Int)) = (r : Int) := by rw [IntKind.wrap_i64]; omega
     have HQS := hid hqs
     clear gv gy hsw hA eL hlen hi hj hqs
     generalize mbC y = cI at S2 l1 s2 n1
     generalize mbC v = cJ at S2 l2 s1 s2 n2
     go_wp2_with fail
     go_region
     clear l1 l2 s1 s2
     generalize (wr.drew.setCells g ((r + 1) * 4) cJ).setCells g (r * 4) cI = w2 at S2 ⊢
     go_wp2
     refine ⟨⟨r, V1', v :: V2, by go_num, by have := HQS.out; omega, by rw [HVV.out]; simp, S2.out⟩, by simp [intOf]; omega⟩
end Go.Proofs.YtiijdojihleggaaGreatDoor
