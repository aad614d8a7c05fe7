import Derived.Test.YtljdlkonlnjadaaGreatDoorNZ4
import Derived.Test.YtljdlkonlnjadaaGreatDoorNZ8
import Derived.Test.YtljdlkonlnjadaaGreatDoorNZ7
import Derived.Test.YtljdlkonlnjadaaGreatDoorYkL
import Derived.Test.YtljdlkonlnjadaaGreatDoorYkU
import Derived.Test.YtljdlkonlnjadaaGreatDoorYkD
import Derived.Test.YtljdlkonlnjadaaGreatDoorNZ9
import Derived.Test.YtljdlkonlnjadaaGreatDoorYg
set_option maxRecDepth 100000
set_option linter.unusedSimpArgs false
set_option linter.unusedVariables false
open Go.Lib (hid)
namespace Go.Proofs.YtljdlkonlnjadaaGreatDoor
open Go.RowKit
def OrSI (w : World) (a b : ByteArray) (i : Value) (wr : World) : Prop := ∃ k : Nat, k ≤ 2 ∧ i = .int .i64 k ∧ (1 ≤ k → a = eB) ∧ (2 ≤ k → b = eB) ∧ wr = w
def orS (a b : ByteArray) : ByteArray := if a = eB then b else a
theorem eB_size {a : ByteArray} (h : a ≠ eB) : a.toList.isEmpty = false := by
 rw [ByteArray.toList_eq]
 cases hh : a.data.toList with
 | nil => exact absurd (ByteArray.ext (Array.toList_inj.1 hh)) h
 | cons x r => rfl
theorem orS2_any (a b : ByteArray) (g c : Nat) (w : World) (h0 : w.cell? ⟨g, 0, none⟩ = some (.string a)) (h1 : w.cell? ⟨g, 1, none⟩ = some (.string b)) :
 Calls Tryz.prog 19 #[.slice (some ⟨g, 0, none⟩) 2 c] w fun e w' => e = .returned (.string (orS a b)) ∧ w = w' := by
 obtain ⟨R, hR⟩ : ∃ R, R = orS a b := ⟨_, rfl⟩
 rw [← hR]
 have HR := hid hR
 clear hR
 go_enter Tryz.func19, Tryz.ntmps19
 go_wp2_with fail
 go_loopw [8] (OrSI w a b) (fun i _ => 2 - (intOf i).toNat)
 case atStart => exact ⟨0, by omega, rfl, by omega, by omega, rfl⟩
 case round =>
  obtain ⟨k, hk, rfl, ha, hb, rfl⟩ := hrel
  match k, hk with
  | 0, _ =>
    by_cases hz : a = eB
    ·subst hz
     unfold eB at h0
     go_wp2
     exact ⟨⟨1, by omega, by go_num, fun _ => rfl, by omega, rfl⟩, by simp [intOf]⟩
    ·have q := eB_size hz
     have HQ := hid (HR.out.trans (if_neg hz))
     go_wp2
     go_ret
     exact ⟨by rw [HQ.out]; first | done | rfl, rfl⟩
  | 1, _ =>
    have HA := hid (ha (Nat.le_refl _))
    clear ha hb
    by_cases hz : b = eB
    ·subst hz
     unfold eB at h1
     go_wp2
     exact ⟨⟨2, by omega, by go_num, fun _ => HA.out, fun _ => rfl, rfl⟩, by simp [intOf]⟩
    ·have q := eB_size hz
     have HQ := hid (HR.out.trans (if_pos HA.out))
     go_wp2
     go_ret
     exact ⟨by rw [HQ.out]; first | done | rfl, rfl⟩
  | 2, _ =>
    have HQ := hid ((HR.out.trans (if_pos (ha (by omega)))).trans (hb (by omega)))
    clear ha hb
    go_wp2
    go_ret
    exact ⟨by rw [HQ.out]; first | done | rfl, rfl⟩
theorem AtC.setAt {T : TypeId} {w : World} {g : Nat} {cs : Array Value} (h : AtC T w g cs) (j : Nat) (v : Value) : AtC T (w.setCell ⟨g, j, none⟩ v) g (cs.setIfInBounds j v) := heap_setCell_same w g j cs T v h
theorem at_set16 {T : TypeId} {w : World} {g : Nat} {b0 b1 b2 b3 b4 b5 b6 b7 b8 b9 b10 b11 b12 b13 b14 b15 c0 c1 c2 c3 c4 c5 c6 c7 c8 c9 c10 c11 c12 c13 c14 c15 : Value} (h : AtC T w g #[b0, b1, b2, b3, b4, b5, b6, b7, b8, b9, b10, b11, b12, b13, b14, b15]) : AtC T ((((((((((((((((w.setCell ⟨g, 0, none⟩ c0).setCell ⟨g, 1, none⟩ c1).setCell ⟨g, 2, none⟩ c2).setCell ⟨g, 3, none⟩ c3).setCell ⟨g, 4, none⟩ c4).setCell ⟨g, 5, none⟩ c5).setCell ⟨g, 6, none⟩ c6).setCell ⟨g, 7, none⟩ c7).setCell ⟨g, 8, none⟩ c8).setCell ⟨g, 9, none⟩ c9).setCell ⟨g, 10, none⟩ c10).setCell ⟨g, 11, none⟩ c11).setCell ⟨g, 12, none⟩ c12).setCell ⟨g, 13, none⟩ c13).setCell ⟨g, 14, none⟩ c14).setCell ⟨g, 15, none⟩ c15) g #[c0, c1, c2, c3, c4, c5, c6, c7, c8, c9, c10, c11, c12, c13, c14, c15] := by
 have h0 : AtC T _ g #[c0, b1, b2, b3, b4, b5, b6, b7, b8, b9, b10, b11, b12, b13, b14, b15] := h.setAt 0 c0
 have h1 : AtC T _ g #[c0, c1, b2, b3, b4, b5, b6, b7, b8, b9, b10, b11, b12, b13, b14, b15] := h0.setAt 1 c1
 have h2 : AtC T _ g #[c0, c1, c2, b3, b4, b5, b6, b7, b8, b9, b10, b11, b12, b13, b14, b15] := h1.setAt 2 c2
 have h3 : AtC T _ g #[c0, c1, c2, c3, b4, b5, b6, b7, b8, b9, b10, b11, b12, b13, b14, b15] := h2.setAt 3 c3
 have h4 : AtC T _ g #[c0, c1, c2, c3, c4, b5, b6, b7, b8, b9, b10, b11, b12, b13, b14, b15] := h3.setAt 4 c4
 have h5 : AtC T _ g #[c0, c1, c2, c3, c4, c5, b6, b7, b8, b9, b10, b11, b12, b13, b14, b15] := h4.setAt 5 c5
 have h6 : AtC T _ g #[c0, c1, c2, c3, c4, c5, c6, b7, b8, b9, b10, b11, b12, b13, b14, b15] := h5.setAt 6 c6
 have h7 : AtC T _ g #[c0, c1, c2, c3, c4, c5, c6, c7, b8, b9, b10, b11, b12, b13, b14, b15] := h6.setAt 7 c7
 have h8 : AtC T _ g #[c0, c1, c2, c3, c4, c5, c6, c7, c8, b9, b10, b11, b12, b13, b14, b15] := h7.setAt 8 c8
 have h9 : AtC T _ g #[c0, c1, c2, c3, c4, c5, c6, c7, c8, c9, b10, b11, b12, b13, b14, b15] := h8.setAt 9 c9
 have h10 : AtC T _ g #[c0, c1, c2, c3, c4, c5, c6, c7, c8, c9, c10, b11, b12, b13, b14, b15] := h9.setAt 10 c10
 have h11 : AtC T _ g #[c0, c1, c2, c3, c4, c5, c6, c7, c8, c9, c10, c11, b12, b13, b14, b15] := h10.setAt 11 c11
 have h12 : AtC T _ g #[c0, c1, c2, c3, c4, c5, c6, c7, c8, c9, c10, c11, c12, b13, b14, b15] := h11.setAt 12 c12
 have h13 : AtC T _ g #[c0, c1, c2, c3, c4, c5, c6, c7, c8, c9, c10, c11, c12, c13, b14, b15] := h12.setAt 13 c13
 have h14 : AtC T _ g #[c0, c1, c2, c3, c4, c5, c6, c7, c8, c9, c10, c11, c12, c13, c14, b15] := h13.setAt 14 c14
 have h15 : AtC T _ g #[c0, c1, c2, c3, c4, c5, c6, c7, c8, c9, c10, c11, c12, c13, c14, c15] := h14.setAt 15 c15
 exact h15
theorem pick_spec {α : Type} (f : Lk → Hd) (g : Lk → List α) : ∀ (YL : List Lk), (∀ y ∈ YL, (f y).n = (g y).length) →
 (∃ y ∈ YL, pickH (YL.map f) = ((f y).n, (f y).xs) ∧ orF (YL.map g) = g y) ∨ (pickH (YL.map f) = (0, []) ∧ orF (YL.map g) = [])
 | [], _ => .inr ⟨rfl, rfl⟩
 | y :: YL, h => by
   have hy := h y (List.mem_cons_self ..)
   by_cases h0 : (f y).n = 0
   ·have e1 : pickH ((y :: YL).map f) = pickH (YL.map f) := by
     unfold pickH
     rw [List.map_cons, List.find?_cons, show decide (0 < (f y).n) = false from by simp [h0]]
    have e2 : orF ((y :: YL).map g) = orF (YL.map g) := by
     have : g y = [] := List.eq_nil_of_length_eq_zero (by omega)
     unfold orF
     rw [List.map_cons, List.foldl_cons, this]
     rfl
    rw [e1, e2]
    rcases pick_spec f g YL (fun z hz => h z (List.mem_cons_of_mem _ hz)) with ⟨z, hz, r⟩ | r
    ·exact .inl ⟨z, List.mem_cons_of_mem _ hz, r⟩
    ·exact .inr r
   ·refine .inl ⟨y, List.mem_cons_self .., ?_, ?_⟩
    ·unfold pickH
     rw [List.map_cons, List.find?_cons, show decide (0 < (f y).n) = true from by simp; omega]
    ·exact orF_at (i := 0) (fun j z hj => absurd hj (Nat.not_lt_zero j)) rfl (by omega)
theorem sym_isE (S : List ByteArray × List Int) : symE S = (S.1.getD 0 eB).toList.isEmpty := by
 unfold symE
 rw [show S.1.headD eB = S.1.getD 0 eB from by cases S.1 <;> rfl, ByteArray.toList_eq]
theorem dir_snoc {X : List Lc} {k : Nat} {x : Lc} (h : X[k]? = some x) : dirF ((X.take (k + 1)).map (·.d)) = orS (dirF ((X.take k).map (·.d))) x.d := by
 rw [take_nextY h, List.map_append]
 unfold dirF
 rw [List.foldl_append]
 rfl
theorem sym_snoc {X : List Lc} {k : Nat} {x : Lc} (f : Lc → List ByteArray × List Int) (h : X[k]? = some x) : symT ((X.take (k + 1)).map f) = stT (symT ((X.take k).map f)) (f x) := by
 rw [take_nextY h, List.map_append]
 unfold symT
 rw [List.foldl_append]
 rfl
theorem Exc.kp {S ok : Nat → Prop} {w w' : World} (h : Exc S w w') (ho : ∀ j, j < w.heap.size → ok j → ¬ S j) : Kp ok w w' := ⟨h.size, fun j hj hk => h.block j hj (ho j hj hk)⟩
theorem ElM.exc {m : Nat} {S : Nat → Prop} {w w' : World} {A : Option Addr} {n : Nat} {l : List El} (h : ElM m w A n l) (hw : Exc S w w') (hs : ∀ ad, A = some ad → ¬ S ad.block) : ElM m w' A n l := ⟨h.1.exc hw hs, h.2⟩
end Go.Proofs.YtljdlkonlnjadaaGreatDoor
namespace Go.Proofs.YtljdlkonlnjadaaGreatDoor
open Go.RowKit
def hdR (i : Nat) (y : Lk) : Hd := ⟨y.x.A i, y.x.n i, y.x.c i, (y.r i).flatMap ruC⟩
def hdS (j : Nat) (y : Lk) : Hd := ⟨y.x.A (j + 2), y.x.n (j + 2), y.x.c (j + 2), (y.e j).flatMap elC⟩
theorem rows_hdR (i : Nat) (YL : List Lk) : (YL.map (·.x)).map (fldV i) = (YL.map (hdR i)).map hdV := by rw [List.map_map, List.map_map]; rfl
theorem rows_hdS (j : Nat) (YL : List Lk) : (YL.map (·.x)).map (fldV (j + 2)) = (YL.map (hdS j)).map hdV := by rw [List.map_map, List.map_map]; rfl
theorem rows_fld (j : Nat) (YL : List Lk) : (YL.map (·.x)).map (fldV j) = YL.map fun y => fldV j y.x := by rw [List.map_map]; rfl
section
variable {ok : Nat → Prop} {w : World}
theorem hdR_ok {i : Nat} {YL : List Lk} (h : ∀ y ∈ YL, RusM ok w (y.x.A i) (y.x.n i) (y.r i)) : ∀ x ∈ YL.map (hdR i), SlN w x.A x.n 2 x.xs ∧ (∀ u ∈ x.xs, u.oneCell' = true) ∧ x.n * 40 ≤ lim47 := fun x hx => by
 obtain ⟨y, hy, rfl⟩ := List.mem_map.1 hx
 exact ⟨(h y hy).1.1.1, ru_one _, (h y hy).1.2⟩
theorem hdS_ok {j : Nat} {YL : List Lk} (h : ∀ y ∈ YL, ElM 1 w (y.x.A (j + 2)) (y.x.n (j + 2)) (y.e j)) (hn : ∀ y ∈ YL, y.x.n (j + 2) ≤ 120) : ∀ x ∈ YL.map (hdS j), SlN w x.A x.n 1 x.xs ∧ (∀ u ∈ x.xs, u.oneCell' = true) ∧ x.n * 16 ≤ lim47 := fun x hx => by
 obtain ⟨y, hy, rfl⟩ := List.mem_map.1 hx
 refine ⟨(h y hy).1, fun u hu => ?_, ?_⟩
 ·obtain ⟨z, _, hz⟩ := List.mem_flatMap.1 hu
  obtain ⟨b, _, rfl⟩ := List.mem_map.1 hz
  rfl
 ·have := hn y hy
  show y.x.n (j + 2) * 16 ≤ lim47
  unfold lim47
  omega
theorem pickR {i : Nat} {YL : List Lk} (h : ∀ y ∈ YL, RusM ok w (y.x.A i) (y.x.n i) (y.r i)) :
 pickH (YL.map (hdR i)) = ((orF (YL.map (·.r i))).length, (orF (YL.map (·.r i))).flatMap ruC) ∧ (orF (YL.map (·.r i))).length * 40 ≤ lim47 ∧ ∀ z ∈ orF (YL.map (·.r i)), RuM ok w z := by
 have hl : ∀ y ∈ YL, (y.r i).length = y.x.n i := fun y hy => SlO.len (f := ruC) (m := 2) (fun _ => rfl) (by decide) (h y hy).1.1
 rcases pick_spec (hdR i) (fun y => y.r i) YL (fun y hy => (hl y hy).symm) with ⟨y, hy, h1, h2⟩ | ⟨h1, h2⟩
 ·rw [h1, h2, hl y hy]
  exact ⟨rfl, (h y hy).1.2, (h y hy).2⟩
 ·rw [h1, h2]
  exact ⟨rfl, by decide, fun z hz => by cases hz⟩
theorem pickS {j : Nat} {YL : List Lk} (h : ∀ y ∈ YL, ElM 1 w (y.x.A (j + 2)) (y.x.n (j + 2)) (y.e j)) :
 pickH (YL.map (hdS j)) = ((orF (YL.map (·.e j))).length, (orF (YL.map (·.e j))).flatMap elC) ∧ (∀ x ∈ orF (YL.map (·.e j)), x.length = 1) ∧ ∀ x ∈ orF (YL.map (·.e j)), ∀ s ∈ x, s.size ≤ maxLen := by
 have hl : ∀ y ∈ YL, y.x.n (j + 2) = (y.e j).length := fun y hy => by
  have h1 := (h y hy).1.1
  rw [flat_len2 (h y hy).2.1] at h1
  omega
 rcases pick_spec (hdS j) (fun y => y.e j) YL hl with ⟨y, hy, h1, h2⟩ | ⟨h1, h2⟩
 ·rw [h1, h2]
  exact ⟨by rw [← hl y hy]; rfl, (h y hy).2.1, (h y hy).2.2⟩
 ·rw [h1, h2]
  exact ⟨rfl, fun x hx => (by cases hx), fun x hx => (by cases hx)⟩
theorem rus_own {w' : World} {B : Nat} {v : Value} {R : List Ru} (h : w'.ownsRow B 61 2 v R.length (R.flatMap ruC)) (hw : Ext w w') (h40 : R.length * 40 ≤ lim47) (hR : ∀ z ∈ R, RuM ok w z) : ∃ A c, v = .slice A R.length c ∧ RusM (fun _ => True) w' A R.length R := by
 obtain ⟨A, c, rfl, hs⟩ := own_slN h
 exact ⟨A, c, rfl, ⟨slO_own h (fun _ _ _ => trivial), h40⟩, fun z hz => ((hR z hz).kp (Kp.ext hw)).mono fun _ _ _ => trivial⟩
theorem el_own {w' : World} {B g : Nat} {v : Value} {R : List El} (h : w'.ownsRow B 9 1 v R.length (R.flatMap elC)) (hB : g < B) (h1 : ∀ x ∈ R, x.length = 1) (h2 : ∀ x ∈ R, ∀ s ∈ x, s.size ≤ maxLen) : ∃ A c, v = .slice A R.length c ∧ ElM 1 w' A R.length R ∧ ∀ ad, A = some ad → g < ad.block := by
 obtain ⟨A, c, rfl, hs⟩ := own_slN h
 exact ⟨A, c, rfl, ⟨hs, h1, h2⟩, fun ad had => Nat.lt_of_lt_of_le hB (own_notY h ad had)⟩
theorem rus_new {g : Nat} (i : Nat) {A : Option Addr} {n : Nat} {l : List Ru} {B : Nat} (v : Value) (h : RusM (fun j => B ≤ j) w A n l) (hB : g < B) : RusM (fun j => g < j) (w.setCell ⟨g, i, none⟩ v) A n l :=
 (h.mono fun k _ hk => Nat.lt_of_lt_of_le hB hk).kp (Kp.set _ _ _ (Nat.lt_irrefl g))
theorem rus_keep {w' : World} {g : Nat} (i : Nat) {A : Option Addr} {n : Nat} {l : List Ru} (v : Value) (h : RusM (fun j => g < j) w A n l) (hw : Ext w w') : RusM (fun j => g < j) (w'.setCell ⟨g, i, none⟩ v) A n l :=
 (h.ext hw).kp (Kp.set _ _ _ (Nat.lt_irrefl g))
theorem el_keep {w' : World} {g : Nat} (i : Nat) {m : Nat} {A : Option Addr} {n : Nat} {l : List El} (v : Value) (h : ElM m w A n l ∧ ∀ ad, A = some ad → g < ad.block) (hw : Ext w w') : ElM m (w'.setCell ⟨g, i, none⟩ v) A n l ∧ ∀ ad, A = some ad → g < ad.block :=
 ⟨(h.1.ext hw).exc (Exc.setCell (S := fun q => q = g) (p := ⟨g, i, none⟩) rfl v) fun ad had => Nat.ne_of_gt (h.2 ad had), h.2⟩
end
def boxG (t d : ByteArray) (sy : List ByteArray × List Int) (a0 a1 a2 a3 a4 a5 a6 : Value) : Array Value :=
 #[.string t, .string ⟨#[]⟩, .string d, a0, a1, .string (sy.1.getD 0 eB), .string (sy.1.getD 1 eB), .string (sy.1.getD 2 eB), .string (sy.1.getD 3 eB), .int .i64 (sy.2.getD 0 0), .int .i64 (sy.2.getD 1 0), a2, a3, a4, a5, a6]
theorem orF_map {α β : Type} (f : α → β) (l : List (List α)) : orF (l.map (·.map f)) = (orF l).map f := by
 have : ∀ (l : List (List α)) (o : List α), (l.map (·.map f)).foldl (fun o x => if o.length = 0 then x else o) (o.map f) = (l.foldl (fun o x => if o.length = 0 then x else o) o).map f := by
  intro l
  induction l with
  | nil => intro o; rfl
  | cons x l ih =>
    intro o
    rw [List.map_cons, List.foldl_cons, List.foldl_cons, List.length_map]
    by_cases h : o.length = 0
    ·rw [if_pos h, if_pos h]; exact ih x
    ·rw [if_neg h, if_neg h]; exact ih o
 exact this l []
theorem eff_eq {YL : List Lk} {x0 : Lc} {z : Lk} (h0 : (YL.map (·.x))[0]? = some x0) (ht : z.x.t = x0.t) (hp : z.x.p = eB) (hd : z.x.d = dirF ((YL.map (·.x)).map (·.d)))
 (hs : ([z.x.s 0, z.x.s 1, z.x.s 2, z.x.s 3], [z.x.i 0, z.x.i 1]) = symF ((YL.map (·.x)).map fun x => ([x.s 0, x.s 1, x.s 2, x.s 3], [x.i 0, x.i 1])))
 (hc : (z.r 0).map ruP = (orF (YL.map (·.r 0))).map ruP) (ho : (z.r 1).map ruP = (orF (YL.map (·.r 1))).map ruP)
 (he : z.e = fun j => if j = 0 then mrgE 1 (YL.map (·.e 0)) else if j = 1 then mrgE 2 (YL.map (·.e 1)) else if j = 2 then mrgE 1 (YL.map (·.e 2)) else orF (YL.map (·.e j))) : lkP z = effP (YL.map lkP) := by
 unfold lkP effP
 rw [ht, hp, hd, hs, hc, ho, he]
 have h1 : ((YL.map lkP).head?.map (·.t)).getD eB = x0.t := by
  cases YL with
  | nil => cases h0
  | cons y YL => injection h0 with h0; rw [← h0]; rfl
 rw [show (YL.map fun y => (⟨y.x.t, y.x.p, y.x.d, (y.r 0).map ruP, (y.r 1).map ruP, ([y.x.s 0, y.x.s 1, y.x.s 2, y.x.s 3], [y.x.i 0, y.x.i 1]), y.e⟩ : Ef)) = YL.map lkP from rfl, h1]
 simp only [List.map_map]
 rw [← orF_map, ← orF_map, List.map_map, List.map_map]
 rfl
theorem bg16 {T : TypeId} {w : World} {g : Nat} {t d s0 s1 s2 s3 : ByteArray} {i0 i1 : Int} {a0 a1 a2 a3 a4 a5 a6 : Value} (h : AtC T w g (boxG t d ([s0, s1, s2, s3], [i0, i1]) a0 a1 a2 a3 a4 a5 a6)) : w.cell? ⟨g, 0, none⟩ = some (.string t) ∧ w.cell? ⟨g, 1, none⟩ = some (.string ⟨#[]⟩) ∧ w.cell? ⟨g, 2, none⟩ = some (.string d) ∧ w.cell? ⟨g, 3, none⟩ = some a0 ∧ w.cell? ⟨g, 4, none⟩ = some a1 ∧ w.cell? ⟨g, 5, none⟩ = some (.string s0) ∧ w.cell? ⟨g, 6, none⟩ = some (.string s1) ∧ w.cell? ⟨g, 7, none⟩ = some (.string s2) ∧ w.cell? ⟨g, 8, none⟩ = some (.string s3) ∧ w.cell? ⟨g, 9, none⟩ = some (.int .i64 i0) ∧ w.cell? ⟨g, 10, none⟩ = some (.int .i64 i1) ∧ w.cell? ⟨g, 11, none⟩ = some a2 ∧ w.cell? ⟨g, 12, none⟩ = some a3 ∧ w.cell? ⟨g, 13, none⟩ = some a4 ∧ w.cell? ⟨g, 14, none⟩ = some a5 ∧ w.cell? ⟨g, 15, none⟩ = some a6 :=
 ⟨h.cell 0 _ rfl, h.cell 1 _ rfl, h.cell 2 _ rfl, h.cell 3 _ rfl, h.cell 4 _ rfl, h.cell 5 _ rfl, h.cell 6 _ rfl, h.cell 7 _ rfl, h.cell 8 _ rfl, h.cell 9 _ rfl, h.cell 10 _ rfl, h.cell 11 _ rfl, h.cell 12 _ rfl, h.cell 13 _ rfl, h.cell 14 _ rfl, h.cell 15 _ rfl⟩
theorem exc_set16 {w w' : World} {g : Nat} {S : Nat → Prop} (h : Exc S w w') (hg : S g) (v0 v1 v2 v3 v4 v5 v6 v7 v8 v9 v10 v11 v12 v13 v14 v15 : Value) : Exc S w ((((((((((((((((w'.setCell ⟨g, 0, none⟩ v0).setCell ⟨g, 1, none⟩ v1).setCell ⟨g, 2, none⟩ v2).setCell ⟨g, 3, none⟩ v3).setCell ⟨g, 4, none⟩ v4).setCell ⟨g, 5, none⟩ v5).setCell ⟨g, 6, none⟩ v6).setCell ⟨g, 7, none⟩ v7).setCell ⟨g, 8, none⟩ v8).setCell ⟨g, 9, none⟩ v9).setCell ⟨g, 10, none⟩ v10).setCell ⟨g, 11, none⟩ v11).setCell ⟨g, 12, none⟩ v12).setCell ⟨g, 13, none⟩ v13).setCell ⟨g, 14, none⟩ v14).setCell ⟨g, 15, none⟩ v15) := by
 have st : ∀ {b : World} (j : Nat) (v : Value), Exc S w b → Exc S w (b.setCell ⟨g, j, none⟩ v) := fun j v hb => hb.trans (Exc.setCell (p := ⟨g, j, none⟩) hg v)
 exact st 15 _ (st 14 _ (st 13 _ (st 12 _ (st 11 _ (st 10 _ (st 9 _ (st 8 _ (st 7 _ (st 6 _ (st 5 _ (st 4 _ (st 3 _ (st 2 _ (st 1 _ (st 0 _ h)))))))))))))))
theorem rus_fin {w w' : World} {g b : Nat} {A : Option Addr} {n : Nat} {l : List Ru} (h : RusM (fun j => g < j) w A n l) (hx : Exc (fun q => q = b) w w') (hb : b < g) : RusM (fun _ => True) w' A n l :=
 (h.kp (hx.kp fun j _ hj e => absurd hj (by omega))).mono fun _ _ _ => trivial
theorem el_fin {w w' : World} {g b m : Nat} {A : Option Addr} {n : Nat} {l : List El} (h : ElM m w A n l ∧ ∀ ad, A = some ad → g < ad.block) (hx : Exc (fun q => q = b) w w') (hb : b < g) : ElM m w' A n l :=
 h.1.exc hx fun ad had e => by have := h.2 ad had; omega
theorem flat_bound {α : Type} {m : Nat} : ∀ (L : List (List α)), (∀ x ∈ L, x.length ≤ m) → L.flatten.length ≤ L.length * m
 | [], _ => by simp
 | x :: L, h => by
   have h1 := h x (List.mem_cons_self ..)
   have h2 := flat_bound L (fun y hy => h y (List.mem_cons_of_mem _ hy))
   rw [List.flatten_cons, List.length_append, List.length_cons, Nat.add_mul]
   omega
theorem sym_shape (X : List (List ByteArray × List Int)) (h : ∀ x ∈ X, ∃ a b c d e f, x = ([a, b, c, d], [e, f])) : ∃ a b c d e f, symF X = ([a, b, c, d], [e, f]) := by
 have : ∀ (X : List (List ByteArray × List Int)) (o : List ByteArray × List Int), (∃ a b c d e f, o = ([a, b, c, d], [e, f])) → (∀ x ∈ X, ∃ a b c d e f, x = ([a, b, c, d], [e, f])) → ∃ a b c d e f, X.foldl stF o = ([a, b, c, d], [e, f]) := by
  intro X
  induction X with
  | nil => intro o ho _; exact ho
  | cons x X ih =>
    intro o ho h
    rw [List.foldl_cons]
    refine ih _ ?_ fun y hy => h y (List.mem_cons_of_mem _ hy)
    unfold stF
    split
    ·exact h x (List.mem_cons_self ..)
    ·exact ho
 exact this X symZ ⟨eB, eB, eB, eB, 0, 0, rfl⟩ h
end Go.Proofs.YtljdlkonlnjadaaGreatDoor
