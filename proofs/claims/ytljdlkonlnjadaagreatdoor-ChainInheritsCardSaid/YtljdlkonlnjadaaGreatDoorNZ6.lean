import Derived.Test.YtljdlkonlnjadaaGreatDoorNZ4
import Derived.Test.YtljdlkonlnjadaaGreatDoorNXH
import Derived.Test.YtljdlkonlnjadaaGreatDoorNX3
set_option maxRecDepth 100000
set_option linter.unusedSimpArgs false
set_option linter.unusedVariables false
open Go.Lib (hid)
namespace Go.Proofs.YtljdlkonlnjadaaGreatDoor
open Go.RowKit
def fewLc (x : Lc) : Bool := decide (x.t.size + x.p.size ≤ 120) && decide (x.n 0 + x.n 1 + x.n 2 + x.n 3 + x.n 4 + x.n 5 + x.n 6 ≤ 120)
def fewC (l : List Lc) (al : List Ali) (nl : List Nr) : Bool := l.all fewLc && (decide (l.length ≤ 12) && (fewL al && fewN nl))
def CFew (w : World) (l : List Lc) (n : Nat) (i : Value) (wr : World) : Prop := ∃ k : Nat, k ≤ n ∧ i = .int .i64 k ∧ (l.take k).all fewLc = true ∧ Ext w wr
set_option maxHeartbeats 4000000 in
theorem few22_any (l : List Lc) (al : List Ali) (nl : List Nr) (L A N : Option Addr) (ln lc n c m d : Nat) (w : World) (hL : Lcs w L ln l) (hln : ln ≤ maxLen) (hok : ∀ x ∈ l, lcOK x) (hA : Als w A n al) (hn : n ≤ maxLen) (hz : ∀ a ∈ al, a.1.size ≤ reachBytes ∧ a.2.size ≤ reachBytes)
 (hN : Nrs w N m nl) (hm : m ≤ maxLen) (hzn : ∀ a ∈ nl, a.f.size ≤ reachBytes ∧ a.o.size ≤ reachBytes) :
 Calls Tryz.prog 7 #[.agg #[.slice L ln lc, .slice A n c, .slice N m d]] w fun e w' => e = .returned (.bool (fewC l al nl)) ∧ Ext w w' := by
 have K1 := fun W (h : Ext w W) => few20_any al A n c W (hA.ext h) hn hz
 have K2 := fun W (h : Ext w W) => fewn_any nl N m d W (hN.ext h) hm hzn
 have KB := hid (AtC.new w #[.slice L ln lc, .slice A n c, .slice N m d] : AtC 26 _ _ _)
 have HW0 := hid ((Ext.refl w).alloc (.cells #[.slice L ln lc, .slice A n c, .slice N m d] 26))
 unfold maxLen at hln
 have HL := hid hL
 have HLN := hid hL.len
 have HOK := hid hok
 obtain ⟨R, hR⟩ : ∃ R, R = fewC l al nl := ⟨_, rfl⟩
 rw [← hR]
 unfold fewC at hR
 generalize fewL al = b1 at K1 hR
 generalize fewN nl = b2 at K2 hR
 have HR := hid hR
 have HK1 := hid K1
 have HK2 := hid K2
 clear hL hok hA hz hN hzn K1 K2 hR hn hm
 go_enter Tryz.func7, Tryz.ntmps7
 go_wp2_with fail
 go_loopw [3] (CFew (w.alloc (.cells #[.slice L ln lc, .slice A n c, .slice N m d] 26)) l ln) (fun i _ => ln - (intOf i).toNat)
 case atStart => exact ⟨0, Nat.zero_le _, rfl, by simp, Ext.refl _⟩
 case round =>
  obtain ⟨k, hk, rfl, hall, hw⟩ := hrel
  have HALL := hid hall
  have HW := hid (HW0.out.trans hw)
  have HX0 := hid hw
  have KBR := hid (KB.out.ext hw)
  have g0 := KBR.out.cell 0 _ rfl
  clear hall hw
  by_cases hkn : k < ln
  ·obtain ⟨x, hx⟩ : ∃ x, l[k]? = some x := ⟨_, List.getElem?_eq_getElem (by have := HLN.out; omega)⟩
   obtain ⟨b, o, rfl, hb, hc⟩ := (HL.out.ext HW.out).at_ hx
   have a0 := hc 0 _ rfl
   have a1 := hc 1 _ rfl
   have a2 := hc 2 _ rfl
   have a3 := hc 3 _ rfl
   have a4 := hc 4 _ rfl
   have a5 := hc 5 _ rfl
   have a6 := hc 6 _ rfl
   have a7 := hc 7 _ rfl
   have a8 := hc 8 _ rfl
   have a9 := hc 9 _ rfl
   have a10 := hc 10 _ rfl
   have a11 := hc 11 _ rfl
   have a12 := hc 12 _ rfl
   have a13 := hc 13 _ rfl
   have a14 := hc 14 _ rfl
   have a15 := hc 15 _ rfl
   rw [Nat.add_zero] at a0
   have hkI : (k : Int) < (ln : Int) := by omega
   obtain ⟨z1, z2, z3⟩ := HOK.out x (List.mem_of_getElem? hx)
   unfold reachBytes at z1 z2
   have y0 : x.n 0 ≤ 140737488351232 := z3 0 (by omega)
   have y1 : x.n 1 ≤ 140737488351232 := z3 1 (by omega)
   have y2 : x.n 2 ≤ 140737488351232 := z3 2 (by omega)
   have y3 : x.n 3 ≤ 140737488351232 := z3 3 (by omega)
   have y4 : x.n 4 ≤ 140737488351232 := z3 4 (by omega)
   have y5 : x.n 5 ≤ 140737488351232 := z3 5 (by omega)
   have y6 : x.n 6 ≤ 140737488351232 := z3 6 (by omega)
   have hat := (AtC.new wr #[.string x.t, .string x.p, .string x.d, .slice (x.A 0) (x.n 0) (x.c 0), .slice (x.A 1) (x.n 1) (x.c 1), .string (x.s 0), .string (x.s 1), .string (x.s 2), .string (x.s 3), .int .i64 (x.i 0), .int .i64 (x.i 1), .slice (x.A 2) (x.n 2) (x.c 2), .slice (x.A 3) (x.n 3) (x.c 3), .slice (x.A 4) (x.n 4) (x.c 4), .slice (x.A 5) (x.n 5) (x.c 5), .slice (x.A 6) (x.n 6) (x.c 6)] : AtC 37 _ _ _)
   have q0 := hat.cell 0 _ rfl
   have q1 := hat.cell 1 _ rfl
   have q3 := hat.cell 3 _ rfl
   have q4 := hat.cell 4 _ rfl
   have q11 := hat.cell 11 _ rfl
   have q12 := hat.cell 12 _ rfl
   have q13 := hat.cell 13 _ rfl
   have q14 := hat.cell 14 _ rfl
   have q15 := hat.cell 15 _ rfl
   have HX := hid hx
   clear hx hc hat z3
   have hbad : fewLc x = false → R = false := fun h => by
    rw [HR.out]
    have : l.all fewLc = false := by rw [List.all_eq_false]; exact ⟨x, List.mem_of_getElem? HX.out, by rw [h]; decide⟩
    rw [this]; rfl
   by_cases t1 : x.t.size + x.p.size ≤ 120
   ·have u1 : decide ((120 : Int) < (x.t.size : Int) + (x.p.size : Int)) = false := by simp; omega
    by_cases t2 : x.n 0 + x.n 1 + x.n 2 + x.n 3 + x.n 4 + x.n 5 + x.n 6 ≤ 120
    ·have u2 : decide ((120 : Int) < (x.n 0 : Int) + (x.n 1 : Int) + (x.n 2 : Int) + (x.n 3 : Int) + (x.n 4 : Int) + (x.n 5 : Int) + (x.n 6 : Int)) = false := by simp; omega
     have HQ := hid (show (l.take (k + 1)).all fewLc = true from by
      rw [take_next HX.out, List.all_append, HALL.out]
      simp only [List.all_cons, List.all_nil, Bool.and_true, Bool.true_and]
      unfold fewLc
      rw [decide_eq_true t1, decide_eq_true t2]; rfl)
     clear hbad
     go_wp2
     exact ⟨⟨k + 1, by omega, by go_num, HQ.out, HX0.out.alloc _⟩, by simp [intOf]; omega⟩
    ·have u2 : decide ((120 : Int) < (x.n 0 : Int) + (x.n 1 : Int) + (x.n 2 : Int) + (x.n 3 : Int) + (x.n 4 : Int) + (x.n 5 : Int) + (x.n 6 : Int)) = true := by simp; omega
     have HF := hid (hbad (by unfold fewLc; rw [decide_eq_false t2]; simp))
     clear hbad
     go_wp2
     all_goals go_ret
     all_goals exact ⟨by rw [HF.out]; first | done | rfl, HW.out.alloc _⟩
   ·have u1 : decide ((120 : Int) < (x.t.size : Int) + (x.p.size : Int)) = true := by simp; omega
    have HF := hid (hbad (by unfold fewLc; rw [decide_eq_false t1]; simp))
    clear hbad
    go_wp2
    all_goals go_ret
    all_goals exact ⟨by rw [HF.out]; first | done | rfl, HW.out.alloc _⟩
  ·have hkk : k = ln := by omega
   subst hkk
   have hall : l.all fewLc = true := by
    have h := HALL.out
    rwa [List.take_of_length_le (by rw [HLN.out]; exact Nat.le_refl _)] at h
   have g1 := KBR.out.cell 1 _ rfl
   by_cases t1 : k ≤ 12
   ·have u1 : decide ((k : Int) ≤ 12) = true := by simp; omega
    have HF := hid (show R = (b1 && b2) from by rw [HR.out, hall, HLN.out, decide_eq_true t1]; rfl)
    clear hall
    cases b1
    ·go_wp2_with fail
     refine (HK1.out _ HW.out).mono ?_
     rintro e w3 ⟨rfl, hw3⟩
     have HW3 := hid (HW.out.trans hw3)
     clear hw3
     go_wp2
     go_ret
     exact ⟨by rw [HF.out]; first | done | rfl, HW3.out⟩
    ·go_wp2_with fail
     refine (HK1.out _ HW.out).mono ?_
     rintro e w3 ⟨rfl, hw3⟩
     have HW3 := hid (HW.out.trans hw3)
     have g2 := (KBR.out.ext hw3).cell 2 _ rfl
     clear hw3
     go_wp2_with fail
     refine (HK2.out _ HW3.out).mono ?_
     rintro e w4 ⟨rfl, hw4⟩
     have HW4 := hid (HW3.out.trans hw4)
     clear hw4
     go_wp2
     all_goals go_ret
     all_goals exact ⟨by rw [HF.out]; first | done | rfl | simp, HW4.out⟩
   ·have u1 : decide ((k : Int) ≤ 12) = false := by simp; omega
    have HF := hid (show R = false from by rw [HR.out, hall, HLN.out, decide_eq_false t1]; rfl)
    clear hall
    go_wp2
    all_goals go_ret
    all_goals exact ⟨by rw [HF.out]; first | done | rfl, HW.out⟩
theorem fewC_len {l : List Lc} {al : List Ali} {nl : List Nr} (h : fewC l al nl = true) :
 l.length ≤ 12 ∧ (∀ x ∈ l, x.t.size + x.p.size ≤ 120 ∧ x.n 0 + x.n 1 + x.n 2 + x.n 3 + x.n 4 + x.n 5 + x.n 6 ≤ 120) ∧ (al.length ≤ 12 ∧ nl.length ≤ 30) ∧ (∀ a ∈ al, a.1.size ≤ 60000 ∧ a.2.size ≤ 60000) ∧ (∀ a ∈ nl, a.f.size ≤ 60 ∧ a.o.size ≤ 60) := by
 unfold fewC at h
 simp only [Bool.and_eq_true, decide_eq_true_eq] at h
 obtain ⟨h1, h2, h3, h4⟩ := h
 obtain ⟨a1, a2⟩ := fewL_len h3
 obtain ⟨b1, b2⟩ := fewN_len h4
 refine ⟨h2, fun x hx => ?_, ⟨a1, b1⟩, a2, b2⟩
 have := List.all_eq_true.1 h1 x hx
 unfold fewLc at this
 simpa only [Bool.and_eq_true, decide_eq_true_eq] using this
end Go.Proofs.YtljdlkonlnjadaaGreatDoor
namespace Go.Proofs.YtljdlkonlnjadaaGreatDoor
open Go.ChangeShapes Go.WideShapes Go.ChangeAt Go.RowKit
theorem open_nrs2 {H : Type} {enc : TypeId × Value → H} {W : World} {v : Value} {d : DataW H} {ps : List MemPlace} (hv : ∃ A n c, v = .slice A n c) (h : DataW.Trod enc Tryz.prog W 0 (fun _ => true) true 24 v d ps) (hw : ∀ m ∈ d.weights Tryz.prog 24, m ≤ reachBytes) :
 ∃ (A : Option Addr) (n c : Nat) (l : List Nr), v = .slice A n c ∧ Nrs W A n l ∧ n ≤ maxLen ∧ ∀ x ∈ l, x.f.size ≤ reachBytes ∧ x.o.size ≤ reachBytes ∧ -9223372036854775808 ≤ x.c ∧ x.c ≤ 9223372036854775807 := by
 obtain ⟨A, n, c, L, rfl, hn, hL, hsl, hall⟩ := open_cells (m := 3) Tryz.underlying24 (by kernel_rfl) (by decide) hv h
 have hc9 : Tryz.prog.cellsOf 9 = 1 := by kernel_rfl
 have hc3 : Tryz.prog.cellsOf 3 = 1 := by kernel_rfl
 have hcN : Tryz.prog.cellsOf 106 = 3 := by kernel_rfl
 have key : ∀ cs ∈ L, ∃ x : Nr, cs = nrC x ∧ x.f.size ≤ reachBytes ∧ x.o.size ≤ reachBytes ∧ -9223372036854775808 ≤ x.c ∧ x.c ≤ 9223372036854775807 := by
  intro cs hcs
  obtain ⟨k, x, hx, hwx⟩ := hall cs hcs
  obtain ⟨xs, m, _, hxe, hl, hlen, hff⟩ := DataW.trod_struct Tryz.underlying106 hx
  have hl3 : cs.length = 3 := hl.trans hcN
  match cs, hl3 with
  | [c0, c1, c2], _ =>
    match xs, hlen with
    | [x0, x1, x2], _ =>
      have f0 := hff 0 _ rfl
      have f1 := hff 1 _ rfl
      have f2 := hff 2 _ rfl
      simp [hc9, hc3] at f0 f1 f2
      obtain ⟨fb, e0, z0, _⟩ := DataW.trod_string Tryz.underlying9 f0
      obtain ⟨ob, e1, z1, _⟩ := DataW.trod_string Tryz.underlying9 f1
      obtain ⟨y, e2, z2, wy⟩ := DataW.trod_int Tryz.underlying3 f2
      simp at e0 e1 e2
      subst e0; subst e1; subst e2
      have hd : x.1 = .agg [x0.1, x1.1, x2.1] := by rw [hxe]; rfl
      rw [hd, z0, z1, z2] at hwx
      simp only [DataW.weights, Tryz.underlying106] at hwx
      simp [DataW.weightsEach, DataW.weights] at hwx
      have hy : -9223372036854775808 ≤ y ∧ y ≤ 9223372036854775807 := by simpa [Lit.wf, IntKind.min, IntKind.max, IntKind.signed, IntKind.bits] using wy
      exact ⟨⟨fb, ob, y⟩, rfl, hw _ hwx.1, hw _ hwx.2, hy.1, hy.2⟩
 obtain ⟨l, hl1, hl2⟩ := decode_all nrC (L := L) (fun cs hcs => by obtain ⟨x, hx, _⟩ := key cs hcs; exact ⟨x, hx⟩)
 refine ⟨A, n, c, l, rfl, ?_, hn, fun x hx => ?_⟩
 ·unfold Nrs
  rw [List.flatMap_def, ← hl1]
  exact hsl
 ·obtain ⟨y, hy, hr⟩ := key (nrC x) (by rw [hl1]; exact List.mem_map.2 ⟨x, hx, rfl⟩)
  have : x = y := by
   cases x; cases y
   unfold nrC at hy
   simp at hy
   simp [hy.1, hy.2.1, hy.2.2]
  rw [this]
  exact hr
set_option maxHeartbeats 1000000 in
theorem open_table {H : Type} {enc : TypeId × Value → H} {W : World} {base : Nat} {v : Value} {d : DataW H} {ps : List MemPlace} (hv : Value.okWide Tryz.prog W .any base 26 v) (h : DataW.Trod enc Tryz.prog W 0 (fun _ => true) true 26 v d ps) (hw : ∀ m ∈ d.weights Tryz.prog 26, m ≤ reachBytes) :
 ∃ (L A N : Option Addr) (ln lc n c m k : Nat) (l : List Lc) (al : List Ali) (nl : List Nr), v = .agg #[.slice L ln lc, .slice A n c, .slice N m k] ∧ Lcs W L ln l ∧ ln ≤ maxLen ∧ (∀ x ∈ l, lcOK x) ∧
   Als W A n al ∧ n ≤ maxLen ∧ (∀ a ∈ al, a.1.size ≤ reachBytes ∧ a.2.size ≤ reachBytes) ∧ Nrs W N m nl ∧ m ≤ maxLen ∧ (∀ a ∈ nl, a.f.size ≤ reachBytes ∧ a.o.size ≤ reachBytes) := by
 obtain ⟨cs, rfl, hsz⟩ := okWide_struct Tryz.underlying26 hv
 obtain ⟨fuel, hf⟩ := h
 obtain ⟨xs, m, _, hxe, hl, hlen, hff⟩ := DataW.trod_struct Tryz.underlying26 hf
 have h0 : Tryz.prog.cellsOf 22 = 1 := by kernel_rfl
 have h1 : Tryz.prog.cellsOf 23 = 1 := by kernel_rfl
 have h2 : Tryz.prog.cellsOf 24 = 1 := by kernel_rfl
 have h3 : Tryz.prog.cellsOf 26 = 3 := by kernel_rfl
 have hc : cs.size = 3 := by rw [hsz]; exact h3
 injection hxe with hd _
 subst hd
 obtain ⟨l⟩ := cs
 match l, hc with
 | [c0, c1, c2], _ =>
   match xs, hlen with
   | [x0, x1, x2], _ =>
     have f0 := hff 0 _ rfl
     have f1 := hff 1 _ rfl
     have f2 := hff 2 _ rfl
     simp [Value.cells, h0, h1, h2] at f0 f1 f2
     have hw2 : ∀ q, q ∈ DataW.weightsEach Tryz.prog [22, 23, 24] [x0.1, x1.1, x2.1] → q ≤ reachBytes := fun q hq => hw q (by
      simp only [DataW.weights, Tryz.underlying26]
      exact hq)
     obtain ⟨A0, n0, d0, q0, _, _⟩ := open_sl Tryz.underlying22 f0
     obtain ⟨A1, n1, d1, q1, _, _⟩ := open_sl Tryz.underlying23 f1
     obtain ⟨A2, n2, d2, q2, _, _⟩ := open_sl Tryz.underlying24 f2
     simp at q0 q1 q2
     subst q0 q1 q2
     obtain ⟨L, ln, lc, l, e1, hL, hln, hok⟩ := open_lcs ⟨A0, n0, d0, rfl⟩ (⟨m, f0⟩ : DataW.Trod enc Tryz.prog W 0 (fun _ => true) true 22 (.slice A0 n0 d0) x0.1 x0.2) (fun q hq => hw2 q (weightsEach_at (i := 0) rfl rfl _ hq))
     injection e1 with e1 e2 e3
     subst e1 e2 e3
     have hT1 : DataW.Trod enc Tryz.prog W 0 (fun _ => true) true 23 (.slice A1 n1 d1) x1.1 x1.2 := ⟨m, f1⟩
     obtain ⟨A, n, c, al, e1, hA, hn, _⟩ := open_als Tryz.underlying23 Tryz.underlying103 Tryz.underlying9 rfl rfl rfl rfl (by kernel_rfl) (by kernel_rfl) ⟨A1, n1, d1, rfl⟩ hT1
     injection e1 with e1 e2 e3
     subst e1 e2 e3
     have hz := als_sized Tryz.underlying23 Tryz.underlying103 Tryz.underlying9 rfl rfl rfl rfl (by kernel_rfl) (by kernel_rfl) hT1 hA (fun q hq => hw2 q (weightsEach_at (i := 1) rfl rfl _ hq))
     obtain ⟨N, m2, k, nl, e1, hN, hm2, hzn⟩ := open_nrs2 ⟨A2, n2, d2, rfl⟩ (⟨m, f2⟩ : DataW.Trod enc Tryz.prog W 0 (fun _ => true) true 24 (.slice A2 n2 d2) x2.1 x2.2) (fun q hq => hw2 q (weightsEach_at (i := 2) rfl rfl _ hq))
     injection e1 with e1 e2 e3
     subst e1 e2 e3
     exact ⟨_, _, _, _, _, _, _, _, _, l, al, nl, rfl, hL, hln, hok, hA, hn, hz, hN, hm2, fun a ha => ⟨(hzn a ha).1, (hzn a ha).2.1⟩⟩
end Go.Proofs.YtljdlkonlnjadaaGreatDoor
