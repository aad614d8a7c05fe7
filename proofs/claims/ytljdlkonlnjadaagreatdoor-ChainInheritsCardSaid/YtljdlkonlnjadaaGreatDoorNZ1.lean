import Derived.Test.YtljdlkonlnjadaaGreatDoorNX3
import Derived.Test.YtljdlkonlnjadaaGreatDoorNXH
import Derived.Test.YtljdlkonlnjadaaGreatDoorNX2
import Derived.IntWalk
set_option maxRecDepth 100000
set_option linter.unusedSimpArgs false
set_option linter.unusedVariables false
open Go.Lib (hid)
namespace Go.Proofs.YtljdlkonlnjadaaGreatDoor
open Go.ChangeShapes Go.WideShapes Go.ChangeAt Go.RowKit
structure Lc where
 t : ByteArray
 p : ByteArray
 d : ByteArray
 A : Nat → Option Addr
 n : Nat → Nat
 c : Nat → Nat
 s : Nat → ByteArray
 i : Nat → Int
def lcC (x : Lc) : List Value := [.string x.t, .string x.p, .string x.d, .slice (x.A 0) (x.n 0) (x.c 0), .slice (x.A 1) (x.n 1) (x.c 1), .string (x.s 0), .string (x.s 1), .string (x.s 2), .string (x.s 3), .int .i64 (x.i 0), .int .i64 (x.i 1),
 .slice (x.A 2) (x.n 2) (x.c 2), .slice (x.A 3) (x.n 3) (x.c 3), .slice (x.A 4) (x.n 4) (x.c 4), .slice (x.A 5) (x.n 5) (x.c 5), .slice (x.A 6) (x.n 6) (x.c 6)]
def locOf (x : Lc) : LocP := (x.t.data.toList, x.p.data.toList)
def Lcs (w : World) (A : Option Addr) (n : Nat) (l : List Lc) : Prop := SlN w A n 16 (l.flatMap lcC)
theorem Lcs.ext {w w' : World} {A : Option Addr} {n : Nat} {l : List Lc} (h : Lcs w A n l) (hw : Ext w w') : Lcs w' A n l := SlN.ext h hw
theorem Lcs.len {w : World} {A : Option Addr} {n : Nat} {l : List Lc} (h : Lcs w A n l) : l.length = n := by
 have h1 := h.1
 rw [flat_len lcC 16 (fun _ => rfl)] at h1
 omega
theorem Lcs.at_ {w : World} {A : Option Addr} {n : Nat} {l : List Lc} (h : Lcs w A n l) {k : Nat} {x : Lc} (hx : l[k]? = some x) :
 ∃ b o, A = some ⟨b, o, none⟩ ∧ b < w.heap.size ∧ ∀ j u, (lcC x)[j]? = some u → w.cell? ⟨b, o + k * 16 + j, none⟩ = some u := by
 have g0 := flat_get lcC 16 (fun _ => rfl) l k 0 x hx (by omega)
 obtain ⟨b, o, rfl, hb, _⟩ := h.2 _ _ g0
 refine ⟨b, o, rfl, hb, fun j u hu => ?_⟩
 have hj : j < 16 := (List.getElem?_eq_some_iff.1 hu).1
 have g1 := flat_get lcC 16 (fun _ => rfl) l k j x hx hj
 rw [hu] at g1
 obtain ⟨b', o', e, _, h1⟩ := h.2 _ _ g1
 injection e with e
 injection e with e1 e2 _
 subst e1; subst e2
 rw [Nat.add_assoc]
 exact h1
section
variable {H : Type} {enc : TypeId × Value → H} {P : Program}
theorem open_sl {t e : TypeId} {W : World} {k : Nat} {cs : List Value} {x : DataW H × List MemPlace} (ht : P.underlying t = some (.slice e)) (h : DataW.trod enc P W 0 (fun _ => true) true k t cs = some x) :
 ∃ A n c, cs = [.slice A n c] ∧ n ≤ maxLen ∧ ((∀ m ∈ x.1.weights P t, m ≤ reachBytes) → n * P.bytesOf e ≤ reachBytes) := by
 rcases DataW.trod_slice ht h with ⟨rfl, rfl⟩ | ⟨a, len, cap, elems, rest, m, _, rfl, rfl, _, hl, hm, hlen, _⟩
 ·exact ⟨none, 0, 0, rfl, Nat.zero_le _, fun _ => by simp⟩
 ·refine ⟨some a, len, cap, rfl, Nat.le_trans hl hm, fun hw => ?_⟩
  have h1 := hw ((elems.length + rest.length) * P.bytesOf e) (by simp [DataW.weights, ht])
  rw [← hlen]
  exact Nat.le_trans (Nat.mul_le_mul_right _ (Nat.le_add_right _ _)) h1
end
theorem weightsEach_at {H : Type} {P : Program} : ∀ {ts : List TypeId} {ds : List (DataW H)} {i : Nat} {t : TypeId} {d : DataW H}, ts[i]? = some t → ds[i]? = some d → ∀ m ∈ d.weights P t, m ∈ DataW.weightsEach P ts ds
 | [], _, i, _, _, h, _ => by simp at h
 | _ :: _, [], i, _, _, _, h => by simp at h
 | t :: ts, d :: ds, 0, t', d', h1, h2 => by
   simp at h1 h2
   subst h1; subst h2
   intro m hm
   simp only [DataW.weightsEach, List.mem_append]
   exact .inl hm
 | t :: ts, d :: ds, i + 1, t', d', h1, h2 => by
   intro m hm
   simp only [DataW.weightsEach, List.mem_append]
   exact .inr (weightsEach_at (i := i) (by simpa using h1) (by simpa using h2) m hm)
def lcOK (x : Lc) : Prop := x.t.size ≤ reachBytes ∧ x.p.size ≤ reachBytes ∧ (∀ j, j < 7 → x.n j ≤ reachBytes)
set_option maxHeartbeats 1000000 in
theorem open_lcs {H : Type} {enc : TypeId × Value → H} {W : World} {v : Value} {d : DataW H} {ps : List MemPlace} (hv : ∃ A n c, v = .slice A n c) (h : DataW.Trod enc Tryz.prog W 0 (fun _ => true) true 22 v d ps) (hw : ∀ m ∈ d.weights Tryz.prog 22, m ≤ reachBytes) :
 ∃ (A : Option Addr) (n c : Nat) (l : List Lc), v = .slice A n c ∧ Lcs W A n l ∧ n ≤ maxLen ∧ ∀ x ∈ l, lcOK x := by
 obtain ⟨A, n, c, L, rfl, hn, hL, hsl, hall⟩ := open_cells (m := 16) Tryz.underlying22 (by kernel_rfl) (by decide) hv h
 have hc9 : Tryz.prog.cellsOf 9 = 1 := by kernel_rfl
 have hc3 : Tryz.prog.cellsOf 3 = 1 := by kernel_rfl
 have hcL : Tryz.prog.cellsOf 37 = 16 := by kernel_rfl
 have hcS : Tryz.prog.cellsOf 31 = 6 := by kernel_rfl
 have ha0 : Tryz.prog.cellsOf 29 = 1 := by kernel_rfl
 have ha1 : Tryz.prog.cellsOf 32 = 1 := by kernel_rfl
 have ha2 : Tryz.prog.cellsOf 33 = 1 := by kernel_rfl
 have ha3 : Tryz.prog.cellsOf 34 = 1 := by kernel_rfl
 have ha4 : Tryz.prog.cellsOf 35 = 1 := by kernel_rfl
 have hb0 : 1 ≤ Tryz.prog.bytesOf 61 := by rw [show Tryz.prog.bytesOf 61 = 40 from by kernel_rfl]; decide
 have hb1 : 1 ≤ Tryz.prog.bytesOf 71 := by rw [show Tryz.prog.bytesOf 71 = 80 from by kernel_rfl]; decide
 have hb2 : 1 ≤ Tryz.prog.bytesOf 48 := by rw [show Tryz.prog.bytesOf 48 = 48 from by kernel_rfl]; decide
 have hb3 : 1 ≤ Tryz.prog.bytesOf 87 := by rw [show Tryz.prog.bytesOf 87 = 32 from by kernel_rfl]; decide
 have hb4 : 1 ≤ Tryz.prog.bytesOf 9 := by rw [show Tryz.prog.bytesOf 9 = 16 from by kernel_rfl]; decide
 have le_of : ∀ {n b : Nat}, 1 ≤ b → n * b ≤ reachBytes → n ≤ reachBytes := fun h1 h2 => Nat.le_trans (Nat.le_mul_of_pos_right _ h1) h2
 have key : ∀ cs ∈ L, ∃ x : Lc, cs = lcC x ∧ lcOK x := by
  intro cs hcs
  obtain ⟨k, x, hx, hwx⟩ := hall cs hcs
  obtain ⟨xs, m, _, hxe, hl, hlen, hff⟩ := DataW.trod_struct Tryz.underlying37 hx
  have hl16 : cs.length = 16 := hl.trans hcL
  match cs, hl16 with
  | [c0, c1, c2, c3, c4, c5, c6, c7, c8, c9, c10, c11, c12, c13, c14, c15], _ =>
    match xs, hlen with
    | [x0, x1, x2, x3, x4, x5, x6, x7, x8, x9, x10], _ =>
      have f0 := hff 0 _ rfl
      have f1 := hff 1 _ rfl
      have f2 := hff 2 _ rfl
      have f3 := hff 3 _ rfl
      have f4 := hff 4 _ rfl
      have f5 := hff 5 _ rfl
      have f6 := hff 6 _ rfl
      have f7 := hff 7 _ rfl
      have f8 := hff 8 _ rfl
      have f9 := hff 9 _ rfl
      have f10 := hff 10 _ rfl
      simp [hc9, hc3, hcS, ha0, ha1, ha2, ha3, ha4] at f0 f1 f2 f3 f4 f5 f6 f7 f8 f9 f10
      obtain ⟨b0, e0, z0, _⟩ := DataW.trod_string Tryz.underlying9 f0
      obtain ⟨b1, e1, z1, _⟩ := DataW.trod_string Tryz.underlying9 f1
      obtain ⟨b2, e2, z2, _⟩ := DataW.trod_string Tryz.underlying9 f2
      have hd : x.1 = .agg [x0.1, x1.1, x2.1, x3.1, x4.1, x5.1, x6.1, x7.1, x8.1, x9.1, x10.1] := by rw [hxe]; rfl
      have hwx2 : ∀ q, q ∈ DataW.weightsEach Tryz.prog [9, 9, 9, 29, 29, 31, 32, 33, 34, 35, 35] [x0.1, x1.1, x2.1, x3.1, x4.1, x5.1, x6.1, x7.1, x8.1, x9.1, x10.1] → q ≤ reachBytes := fun q hq => hw q (hwx q (by
       rw [hd]
       simp only [DataW.weights, Tryz.underlying37]
       exact hq))
      obtain ⟨A0, n0, d0, q0, _, w0⟩ := open_sl Tryz.underlying29 f3
      obtain ⟨A1, n1, d1, q1, _, w1⟩ := open_sl Tryz.underlying29 f4
      obtain ⟨A2, n2, d2, q2, _, w2⟩ := open_sl Tryz.underlying32 f6
      obtain ⟨A3, n3, d3, q3, _, w3⟩ := open_sl Tryz.underlying33 f7
      obtain ⟨A4, n4, d4, q4, _, w4⟩ := open_sl Tryz.underlying34 f8
      obtain ⟨A5, n5, d5, q5, _, w5⟩ := open_sl Tryz.underlying35 f9
      obtain ⟨A6, n6, d6, q6, _, w6⟩ := open_sl Tryz.underlying35 f10
      obtain ⟨ys, m2, _, _, hl2, hlen2, hgg⟩ := DataW.trod_struct Tryz.underlying31 f5
      match ys, hlen2 with
      | [y0, y1, y2, y3, y4, y5], _ =>
        have g0 := hgg 0 _ rfl
        have g1 := hgg 1 _ rfl
        have g2 := hgg 2 _ rfl
        have g3 := hgg 3 _ rfl
        have g4 := hgg 4 _ rfl
        have g5 := hgg 5 _ rfl
        simp [hc9, hc3] at g0 g1 g2 g3 g4 g5
        obtain ⟨s0, r0, _, _⟩ := DataW.trod_string Tryz.underlying9 g0
        obtain ⟨s1, r1, _, _⟩ := DataW.trod_string Tryz.underlying9 g1
        obtain ⟨s2, r2, _, _⟩ := DataW.trod_string Tryz.underlying9 g2
        obtain ⟨s3, r3, _, _⟩ := DataW.trod_string Tryz.underlying9 g3
        obtain ⟨i0, r4, _, _⟩ := DataW.trod_int Tryz.underlying3 g4
        obtain ⟨i1, r5, _, _⟩ := DataW.trod_int Tryz.underlying3 g5
        simp at e0 e1 e2 q0 q1 q2 q3 q4 q5 q6 r0 r1 r2 r3 r4 r5
        subst e0 e1 e2 q0 q1 q2 q3 q4 q5 q6 r0 r1 r2 r3 r4 r5
        refine ⟨⟨b0, b1, b2, fun j => [A0, A1, A2, A3, A4, A5, A6].getD j none, fun j => [n0, n1, n2, n3, n4, n5, n6].getD j 0, fun j => [d0, d1, d2, d3, d4, d5, d6].getD j 0, fun j => [s0, s1, s2, s3].getD j ByteArray.empty, fun j => [i0, i1].getD j 0⟩, rfl, ?_, ?_, ?_⟩
        ·have h1 := hwx2 b0.data.toList.length (weightsEach_at (i := 0) rfl rfl _ (by rw [z0]; simp [DataW.weights]))
         exact h1
        ·have h1 := hwx2 b1.data.toList.length (weightsEach_at (i := 1) rfl rfl _ (by rw [z1]; simp [DataW.weights]))
         exact h1
        ·have v0 := le_of hb0 (w0 fun q hq => hwx2 q (weightsEach_at (i := 3) rfl rfl _ hq))
         have v1 := le_of hb0 (w1 fun q hq => hwx2 q (weightsEach_at (i := 4) rfl rfl _ hq))
         have v2 := le_of hb1 (w2 fun q hq => hwx2 q (weightsEach_at (i := 6) rfl rfl _ hq))
         have v3 := le_of hb2 (w3 fun q hq => hwx2 q (weightsEach_at (i := 7) rfl rfl _ hq))
         have v4 := le_of hb3 (w4 fun q hq => hwx2 q (weightsEach_at (i := 8) rfl rfl _ hq))
         have v5 := le_of hb4 (w5 fun q hq => hwx2 q (weightsEach_at (i := 9) rfl rfl _ hq))
         have v6 := le_of hb4 (w6 fun q hq => hwx2 q (weightsEach_at (i := 10) rfl rfl _ hq))
         intro j hj
         match j, hj with
         | 0, _ => exact v0
         | 1, _ => exact v1
         | 2, _ => exact v2
         | 3, _ => exact v3
         | 4, _ => exact v4
         | 5, _ => exact v5
         | 6, _ => exact v6
 have dec : ∃ l : List Lc, L = l.map lcC ∧ ∀ x ∈ l, lcOK x := by
  clear hsl hL hall hn
  induction L with
  | nil => exact ⟨[], rfl, by simp⟩
  | cons cs r ih =>
    obtain ⟨l, h1, h2⟩ := ih (fun x hx => key x (by simp [hx]))
    obtain ⟨x, hx, hr⟩ := key cs (by simp)
    exact ⟨x :: l, by rw [hx, h1]; rfl, by intro y hy; rcases List.mem_cons.1 hy with rfl | hy; exact hr; exact h2 y hy⟩
 obtain ⟨l, hl1, hl2⟩ := dec
 refine ⟨A, n, c, l, rfl, ?_, hn, hl2⟩
 unfold Lcs
 rw [List.flatMap_def, ← hl1]
 exact hsl
end Go.Proofs.YtljdlkonlnjadaaGreatDoor
namespace Go.Proofs.YtljdlkonlnjadaaGreatDoor
open Go.RowKit
def idxI (T : List LocP) (s : BytesC) : Int := match idxC T s with
 | some i => (i : Int)
 | none => -1
theorem idxI_none {T : List LocP} {s : BytesC} (h : idxC T s = none) : idxI T s = -1 := by unfold idxI; rw [h]
theorem idxI_some {T : List LocP} {s : BytesC} {i : Nat} (h : idxC T s = some i) : idxI T s = i := by unfold idxI; rw [h]
def NoTag (l : List Lc) (s : BytesC) (k : Nat) : Prop := ∀ j x, j < k → l[j]? = some x → (x.t.data.toList == s) = false
theorem noTag_zero (l : List Lc) (s : BytesC) : NoTag l s 0 := fun j x h _ => absurd h (Nat.not_lt_zero j)
theorem noTag_next {l : List Lc} {s : BytesC} {k : Nat} {x : Lc} (h : NoTag l s k) (hx : l[k]? = some x) (hq : (x.t.data.toList == s) = false) : NoTag l s (k + 1) := fun j y hj hy => by
 by_cases e : j = k
 ·subst e; rw [hx] at hy; injection hy with hy; subst hy; exact hq
 ·exact h j y (by omega) hy
theorem noTag_end {l : List Lc} {s : BytesC} (h : NoTag l s l.length) : idxC (l.map locOf) s = none := by
 unfold idxC
 rw [List.findIdx?_eq_none_iff]
 intro y hy
 obtain ⟨x, hx, rfl⟩ := List.mem_map.1 hy
 obtain ⟨j, hj, rfl⟩ := List.getElem_of_mem hx
 exact h j _ hj (List.getElem?_eq_getElem hj)
theorem noTag_found {l : List Lc} {s : BytesC} {k : Nat} {x : Lc} (h : NoTag l s k) (hx : l[k]? = some x) (hq : (x.t.data.toList == s) = true) : idxC (l.map locOf) s = some k := by
 unfold idxC
 rw [List.findIdx?_eq_some_iff_getElem]
 have hk := (List.getElem?_eq_some_iff.1 hx).1
 refine ⟨by simpa using hk, ?_, ?_⟩
 ·rw [List.getElem_map, (List.getElem?_eq_some_iff.1 hx).2]; exact hq
 ·intro j hj
  rw [List.getElem_map]
  have := h j _ hj (List.getElem?_eq_getElem (by omega))
  simpa [locOf] using this
theorem cfind1_any (x : Lc) (s : ByteArray) (g : Nat) (T : TypeId) (w : World) (hg : AtC T w g #[.string s]) :
 Calls Tryz.prog 116 #[.agg #[.string x.t, .string x.p, .string x.d, .slice (x.A 0) (x.n 0) (x.c 0), .slice (x.A 1) (x.n 1) (x.c 1), .string (x.s 0), .string (x.s 1), .string (x.s 2), .string (x.s 3), .int .i64 (x.i 0), .int .i64 (x.i 1), .slice (x.A 2) (x.n 2) (x.c 2), .slice (x.A 3) (x.n 3) (x.c 3), .slice (x.A 4) (x.n 4) (x.c 4), .slice (x.A 5) (x.n 5) (x.c 5), .slice (x.A 6) (x.n 6) (x.c 6)], .pointer (some ⟨g, 0, none⟩)] w fun e w' => e = .returned (.bool (x.t.data.toList == s.data.toList)) ∧ Ext w w' := by
 have h0 := (AtC.new w #[.string x.t, .string x.p, .string x.d, .slice (x.A 0) (x.n 0) (x.c 0), .slice (x.A 1) (x.n 1) (x.c 1), .string (x.s 0), .string (x.s 1), .string (x.s 2), .string (x.s 3), .int .i64 (x.i 0), .int .i64 (x.i 1), .slice (x.A 2) (x.n 2) (x.c 2), .slice (x.A 3) (x.n 3) (x.c 3), .slice (x.A 4) (x.n 4) (x.c 4), .slice (x.A 5) (x.n 5) (x.c 5), .slice (x.A 6) (x.n 6) (x.c 6)] : AtC 37 _ _ _).cell 0 _ rfl
 have h1 := (hg.alloc (.cells #[.string x.t, .string x.p, .string x.d, .slice (x.A 0) (x.n 0) (x.c 0), .slice (x.A 1) (x.n 1) (x.c 1), .string (x.s 0), .string (x.s 1), .string (x.s 2), .string (x.s 3), .int .i64 (x.i 0), .int .i64 (x.i 1), .slice (x.A 2) (x.n 2) (x.c 2), .slice (x.A 3) (x.n 3) (x.c 3), .slice (x.A 4) (x.n 4) (x.c 4), .slice (x.A 5) (x.n 5) (x.c 5), .slice (x.A 6) (x.n 6) (x.c 6)] 37)).cell 0 _ rfl
 go_enter Tryz.func116, Tryz.ntmps116
 go_wp2
 go_ret
 exact ⟨ret_bool (eq_b _ _), (Ext.refl w).alloc _⟩
def CIdx (w : World) (l : List Lc) (s : BytesC) (n : Nat) (i : Value) (wr : World) : Prop := ∃ k : Nat, k ≤ n ∧ i = .int .i64 k ∧ NoTag l s k ∧ Ext w wr
set_option maxHeartbeats 1000000 in
theorem cidx_any (l : List Lc) (L : Option Addr) (ln lc : Nat) (s : ByteArray) (g : Nat) (T : TypeId) (w : World) (hL : Lcs w L ln l) (hln : ln ≤ maxLen) (hg : AtC T w g #[.string s]) :
 Calls Tryz.prog 115 #[.slice L ln lc, .func (.func 116) #[] #[.pointer (some ⟨g, 0, none⟩)]] w fun e w' => e = .returned (.int .i64 (idxI (l.map locOf) s.data.toList)) ∧ Ext w w' := by
 unfold maxLen at hln
 have hl := hL.len
 have HL := hid hL
 have HLN := hid hl
 have HG := hid hg
 clear hL hg hl
 go_enter Tryz.func115, Tryz.ntmps115
 go_wp2_with fail
 go_loopw [8] (CIdx w l s.data.toList ln) (fun i _ => ln - (intOf i).toNat)
 case atStart => exact ⟨0, Nat.zero_le _, rfl, noTag_zero _ _, Ext.refl _⟩
 case round =>
  obtain ⟨k, hk, rfl, hpre, hw⟩ := hrel
  have HP := hid hpre
  have HW := hid hw
  clear hpre hw
  by_cases hkn : k < ln
  ·obtain ⟨x, hx⟩ : ∃ x, l[k]? = some x := ⟨_, List.getElem?_eq_getElem (by have := HLN.out; omega)⟩
   obtain ⟨b, o, rfl, hb, hc⟩ := (HL.out.ext HW.out).at_ hx
   have a0 := hc 0 _ rfl
   have a1 := hc 1 _ rfl
   have a2 := hc 2 _ rfl
   have a3 := hc 3 _ rfl
   have a4 := hc 4 _ rfl
   have a5 := hc 5 _ rfl
   have a6 := hc 6 _ rfl
   have a7 := hc 7 _ rfl
   have a8 := hc 8 _ rfl
   have a9 := hc 9 _ rfl
   have a10 := hc 10 _ rfl
   have a11 := hc 11 _ rfl
   have a12 := hc 12 _ rfl
   have a13 := hc 13 _ rfl
   have a14 := hc 14 _ rfl
   have a15 := hc 15 _ rfl
   rw [Nat.add_zero] at a0
   have hkI : (k : Int) < (ln : Int) := by omega
   have K := fun W (h : Ext w W) => cfind1_any x s g T W (HG.out.ext h)
   have HX := hid hx
   clear hx hc
   cases hq : (x.t.data.toList == s.data.toList)
   ·rw [hq] at K
    have HK := hid K
    have HQ := hid (noTag_next HP.out HX.out hq)
    clear K hq
    go_wp2_with fail
    refine (HK.out _ HW.out).mono ?_
    rintro e w2 ⟨rfl, hw2⟩
    have HW2 := hid (HW.out.trans hw2)
    clear hw2
    go_wp2
    exact ⟨⟨k + 1, by omega, by go_num, HQ.out, HW2.out⟩, by simp [intOf]; omega⟩
   ·rw [hq] at K
    have HK := hid K
    have HQ := hid (idxI_some (noTag_found HP.out HX.out hq))
    clear K hq
    go_wp2_with fail
    refine (HK.out _ HW.out).mono ?_
    rintro e w2 ⟨rfl, hw2⟩
    have HW2 := hid (HW.out.trans hw2)
    clear hw2
    go_wp2
    go_ret
    exact ⟨by rw [HQ.out]; first | done | rfl, HW2.out⟩
  ·have hkk : k = ln := by omega
   subst hkk
   have HQ := hid (idxI_none (noTag_end (by rw [HLN.out]; exact HP.out)))
   go_wp2
   go_ret
   exact ⟨by rw [HQ.out]; first | done | rfl, HW.out⟩
theorem cfind_any (l : List Lc) (L A N : Option Addr) (ln lc n c m d : Nat) (s : ByteArray) (w : World) (hL : Lcs w L ln l) (hln : ln ≤ maxLen) :
 Calls Tryz.prog 90 #[.agg #[.slice L ln lc, .slice A n c, .slice N m d], .string s] w fun e w' => e = .returned (.int .i64 (idxI (l.map locOf) s.data.toList)) ∧ Ext w w' := by
 have h0 := ((AtC.new w #[.slice L ln lc, .slice A n c, .slice N m d] : AtC 26 _ _ _).alloc (.cells #[.string s] 9)).cell 0 _ rfl
 have hw2 : Ext w ((w.alloc (.cells #[.slice L ln lc, .slice A n c, .slice N m d] 26)).alloc (.cells #[.string s] 9)) := ((Ext.refl w).alloc _).alloc _
 have hg : AtC 9 ((w.alloc (.cells #[.slice L ln lc, .slice A n c, .slice N m d] 26)).alloc (.cells #[.string s] 9)) (w.heap.size + 1) #[.string s] := by
  have := (AtC.new (w.alloc (.cells #[.slice L ln lc, .slice A n c, .slice N m d] 26)) #[.string s] : AtC 9 _ _ _)
  rwa [World.size_alloc] at this
 have K := hid (cidx_any l L ln lc s (w.heap.size + 1) 9 _ (hL.ext hw2) hln hg)
 have HW := hid hw2
 clear hw2 hg hL
 go_enter Tryz.func90, Tryz.ntmps90
 go_wp2_with fail
 refine K.out.mono ?_
 rintro e w2 ⟨rfl, hw2⟩
 have HW2 := hid (HW.out.trans hw2)
 clear hw2
 go_wp2
 go_ret
 exact ⟨rfl, HW2.out⟩
end Go.Proofs.YtljdlkonlnjadaaGreatDoor
