import Derived.Test.YtkflpenpjnnhdaaGreatDoorMQB
import Derived.Test.YtkflpenpjnnhdaaGreatDoorMQ3
import Derived.Test.YtkflpenpjnnhdaaGreatDoorMd
import Derived.Test.YtkflpenpjnnhdaaGreatDoorROrd
import Derived.Test.YtkflpenpjnnhdaaGreatDoorTOrL
import Derived.Test.YtkflpenpjnnhdaaGreatDoorIs
import Derived.Test.YtkflpenpjnnhdaaGreatDoorLawU
import Derived.Test.YtkflpenpjnnhdaaGreatDoorShelf
import Derived.Test.YtkflpenpjnnhdaaGreatDoorRows
import Derived.Test.YtkflpenpjnnhdaaGreatDoorCards
import Derived.Test.YtkflpenpjnnhdaaGreatDoorTie
import Derived.Shelf.Vars
namespace Go.Proofs.YtkflpenpjnnhdaaGreatDoor.lawMatchPrefers
open Go.ChangeShapes Go.WideShapes Go.ChangeAt Go.RowKit
open Go.ChangeMaps (open_string shut_string)
set_option linter.unusedSimpArgs false
set_option linter.unusedVariables false

def laidL : List (String × DataW Unit) := Rows.matchPrefersRow.laid
theorem mx_of {W : World} (h : W.ShapedOpen Tryz.prog) : Mx W := Tryz.laysM146.s1_3 W h

def R6 (w6 : World) (k f : Int) (v9 v10 : Value) (wx : World) : Prop := v9 = .int .i64 k ∧ v10 = .int .i64 f ∧ Ext w6 wx
theorem isP_len {s : List UInt8} (h : isP s = true) : s.length ≤ 60 := by
  unfold isP at h
  simp only [Bool.and_eq_true, beq_iff_eq] at h
  obtain ⟨h1, h2⟩ := h
  have h3 : (parseP EC s).2 = 0 := h1
  rw [canP_eq h3] at h2
  have := textP_len (parse_ok h3)
  rw [← h2]
  exact this
theorem more_sl {w : World} {A : Option Addr} {n : Nat} {R : List ByteArray} {a : ByteArray} (h : Sl w A (0 + n + 1) ([] ++ R.map .string ++ [.string a])) : Sl w A (n + 1) ((R ++ [a]).map .string) := by
  rw [Nat.zero_add, List.nil_append] at h
  rw [List.map_append]
  exact h
theorem slice_ad {x : Option Addr} {n c : Nat} : (Value.slice x n c).ownBlock = (Value.slice x n c).ownBlock := rfl
set_option maxRecDepth 100000 in
set_option maxHeartbeats 8000000 in
theorem law (l : List Nr) (L : Option Addr) (ln lc : Nat) (R S : List ByteArray) (A B : Option Addr) (n c m d : Nat) (a : ByteArray) (w : World) (hm : Mx w) (hL : Nrs w L ln l) (hln : ln ≤ maxLen) (hz : ∀ x ∈ l, x.f.size ≤ reachBytes ∧ x.o.size ≤ reachBytes) (hA : Sl w A n (R.map .string)) (hn : n ≤ maxLen) (hB : Sl w B m (S.map .string)) (hmm : m ≤ maxLen) (ha : a.size ≤ 1048576) :
    Calls Tryz.prog 8 #[.slice L ln lc, .agg #[.slice A n c, .slice B m d], .string a] w (RetTrue w) := by
  have HX0 := Lib.hid ((Ext.refl w).alloc (.cells #[.slice A n c, .slice B m d] 32))
  have HL := Lib.hid (hL.ext HX0.out)
  have hm0 := Lib.hid (hm.ext HX0.out)
  have HA := Lib.hid (hA.ext HX0.out)
  have HB := Lib.hid (hB.ext HX0.out)
  have KB := Lib.hid (AtC.new w #[.slice A n c, .slice B m d] : AtC 32 _ _ _)
  have x0 := KB.out.cell 0 _ rfl
  have x1 := KB.out.cell 1 _ rfl
  clear hL hA hB
  have hf1 := fun W (h : Ext (w.alloc (.cells #[.slice A n c, .slice B m d] 32)) W) => fewn_any l L ln lc W (HL.out.ext h) hln hz
  have hf2 := fun W (h : Ext (w.alloc (.cells #[.slice A n c, .slice B m d] 32)) W) => fews_any R A n c W (HA.out.ext h) hn
  have hf3 := fun W (h : Ext (w.alloc (.cells #[.slice A n c, .slice B m d] 32)) W) => fews_any S B m d W (HB.out.ext h) hmm
  have hf4 := fun W (h : Ext (w.alloc (.cells #[.slice A n c, .slice B m d] 32)) W) => ris_any a W (by omega)
  cases q0 : fewN l with
  | false =>
   rw [q0] at hf1
   have HF1 := Lib.hid hf1
   clear q0 hf1 hf2 hf3 hf4
   go_enter Tryz.func8, Tryz.ntmps8
   go_wp2_with fail
   refine (awake_any _ (hm0.out.ext (Ext.refl _))).mono ?_
   rintro e w1 ⟨rfl, hw1⟩
   have HW1 := Lib.hid ((Ext.refl _).trans hw1)
   have x0 := (KB.out.ext ((Ext.refl _).trans hw1)).cell 0 _ rfl
   have x1 := (KB.out.ext ((Ext.refl _).trans hw1)).cell 1 _ rfl
   clear hw1
   go_wp2_with fail
   refine (HF1.out _ HW1.out).mono ?_
   rintro e w2 ⟨rfl, hw2⟩
   have HW2 := Lib.hid (HW1.out.trans hw2)
   clear x0 x1
   have x0 := (KB.out.ext (HW1.out.trans hw2)).cell 0 _ rfl
   have x1 := (KB.out.ext (HW1.out.trans hw2)).cell 1 _ rfl
   clear hw2
   go_wp2_with fail
   refine (awake_any _ (hm0.out.ext HW2.out)).mono ?_
   rintro e w3 ⟨rfl, hw3⟩
   have HW3 := Lib.hid (HW2.out.trans hw3)
   clear x0 x1
   have x0 := (KB.out.ext (HW2.out.trans hw3)).cell 0 _ rfl
   have x1 := (KB.out.ext (HW2.out.trans hw3)).cell 1 _ rfl
   clear hw3
   go_wp2
   go_ret
   exact ⟨rfl, (HX0.out.trans HW3.out)⟩
  | true =>
   obtain ⟨hl30, hl60⟩ := fewN_len q0
   have HZ := Lib.hid (show ∀ x ∈ l, x.f.size ≤ 1000000 ∧ x.o.size ≤ 1000000 from fun x hx => by have := hl60 x hx; omega)
   clear hl30 hl60
   rw [q0] at hf1
   have HF1 := Lib.hid hf1
   clear q0 hf1
   cases q1 : fewS R with
   | false =>
    rw [q1] at hf2
    have HF2 := Lib.hid hf2
    clear q1 hf2 hf3 hf4
    go_enter Tryz.func8, Tryz.ntmps8
    go_wp2_with fail
    refine (awake_any _ (hm0.out.ext (Ext.refl _))).mono ?_
    rintro e w1 ⟨rfl, hw1⟩
    have HW1 := Lib.hid ((Ext.refl _).trans hw1)
    have x0 := (KB.out.ext ((Ext.refl _).trans hw1)).cell 0 _ rfl
    have x1 := (KB.out.ext ((Ext.refl _).trans hw1)).cell 1 _ rfl
    clear hw1
    go_wp2_with fail
    refine (HF1.out _ HW1.out).mono ?_
    rintro e w2 ⟨rfl, hw2⟩
    have HW2 := Lib.hid (HW1.out.trans hw2)
    clear x0 x1
    have x0 := (KB.out.ext (HW1.out.trans hw2)).cell 0 _ rfl
    have x1 := (KB.out.ext (HW1.out.trans hw2)).cell 1 _ rfl
    clear hw2
    go_wp2_with fail
    refine (HF2.out _ HW2.out).mono ?_
    rintro e w3 ⟨rfl, hw3⟩
    have HW3 := Lib.hid (HW2.out.trans hw3)
    clear x0 x1
    have x0 := (KB.out.ext (HW2.out.trans hw3)).cell 0 _ rfl
    have x1 := (KB.out.ext (HW2.out.trans hw3)).cell 1 _ rfl
    clear hw3
    go_wp2_with fail
    refine (awake_any _ (hm0.out.ext HW3.out)).mono ?_
    rintro e w4 ⟨rfl, hw4⟩
    have HW4 := Lib.hid (HW3.out.trans hw4)
    clear x0 x1
    have x0 := (KB.out.ext (HW3.out.trans hw4)).cell 0 _ rfl
    have x1 := (KB.out.ext (HW3.out.trans hw4)).cell 1 _ rfl
    clear hw4
    go_wp2
    go_ret
    exact ⟨rfl, (HX0.out.trans HW4.out)⟩
   | true =>
    obtain ⟨_, hR⟩ := fewS_len q1
    have HR := Lib.hid (show ∀ s ∈ R, s.size ≤ 60000 from fun s hs => by have := hR s hs; omega)
    clear hR
    have hn20 : n ≤ 100000 := by have h1 := HA.out.1; have h2 := (fewS_len q1).1; rw [List.length_map] at h1; omega
    have hn99 : n ≤ 99999 := by have h1 := HA.out.1; have h2 := (fewS_len q1).1; rw [List.length_map] at h1; omega
    rw [q1] at hf2
    have HF2 := Lib.hid hf2
    clear q1 hf2
    cases q2 : fewS S with
    | false =>
     rw [q2] at hf3
     have HF3 := Lib.hid hf3
     clear q2 hf3 hf4
     go_enter Tryz.func8, Tryz.ntmps8
     go_wp2_with fail
     refine (awake_any _ (hm0.out.ext (Ext.refl _))).mono ?_
     rintro e w1 ⟨rfl, hw1⟩
     have HW1 := Lib.hid ((Ext.refl _).trans hw1)
     have x0 := (KB.out.ext ((Ext.refl _).trans hw1)).cell 0 _ rfl
     have x1 := (KB.out.ext ((Ext.refl _).trans hw1)).cell 1 _ rfl
     clear hw1
     go_wp2_with fail
     refine (HF1.out _ HW1.out).mono ?_
     rintro e w2 ⟨rfl, hw2⟩
     have HW2 := Lib.hid (HW1.out.trans hw2)
     clear x0 x1
     have x0 := (KB.out.ext (HW1.out.trans hw2)).cell 0 _ rfl
     have x1 := (KB.out.ext (HW1.out.trans hw2)).cell 1 _ rfl
     clear hw2
     go_wp2_with fail
     refine (HF2.out _ HW2.out).mono ?_
     rintro e w3 ⟨rfl, hw3⟩
     have HW3 := Lib.hid (HW2.out.trans hw3)
     clear x0 x1
     have x0 := (KB.out.ext (HW2.out.trans hw3)).cell 0 _ rfl
     have x1 := (KB.out.ext (HW2.out.trans hw3)).cell 1 _ rfl
     clear hw3
     go_wp2_with fail
     refine (HF3.out _ HW3.out).mono ?_
     rintro e w4 ⟨rfl, hw4⟩
     have HW4 := Lib.hid (HW3.out.trans hw4)
     clear x0 x1
     have x0 := (KB.out.ext (HW3.out.trans hw4)).cell 0 _ rfl
     have x1 := (KB.out.ext (HW3.out.trans hw4)).cell 1 _ rfl
     clear hw4
     go_wp2_with fail
     refine (awake_any _ (hm0.out.ext HW4.out)).mono ?_
     rintro e w5 ⟨rfl, hw5⟩
     have HW5 := Lib.hid (HW4.out.trans hw5)
     clear x0 x1
     have x0 := (KB.out.ext (HW4.out.trans hw5)).cell 0 _ rfl
     have x1 := (KB.out.ext (HW4.out.trans hw5)).cell 1 _ rfl
     clear hw5
     go_wp2
     go_ret
     exact ⟨rfl, (HX0.out.trans HW5.out)⟩
    | true =>
     obtain ⟨_, hS⟩ := fewS_len q2
     have HS := Lib.hid (show ∀ s ∈ S, s.size ≤ 60000 from fun s hs => by have := hS s hs; omega)
     clear hS
     have hm20 : m ≤ 100000 := by have h1 := HB.out.1; have h2 := (fewS_len q2).1; rw [List.length_map] at h1; omega
     rw [q2] at hf3
     have HF3 := Lib.hid hf3
     clear q2 hf3
     cases q3 : isP a.data.toList with
     | false =>
      rw [q3] at hf4
      have HF4 := Lib.hid hf4
      clear q3 hf4
      go_enter Tryz.func8, Tryz.ntmps8
      go_wp2_with fail
      refine (awake_any _ (hm0.out.ext (Ext.refl _))).mono ?_
      rintro e w1 ⟨rfl, hw1⟩
      have HW1 := Lib.hid ((Ext.refl _).trans hw1)
      have x0 := (KB.out.ext ((Ext.refl _).trans hw1)).cell 0 _ rfl
      have x1 := (KB.out.ext ((Ext.refl _).trans hw1)).cell 1 _ rfl
      clear hw1
      go_wp2_with fail
      refine (HF1.out _ HW1.out).mono ?_
      rintro e w2 ⟨rfl, hw2⟩
      have HW2 := Lib.hid (HW1.out.trans hw2)
      clear x0 x1
      have x0 := (KB.out.ext (HW1.out.trans hw2)).cell 0 _ rfl
      have x1 := (KB.out.ext (HW1.out.trans hw2)).cell 1 _ rfl
      clear hw2
      go_wp2_with fail
      refine (HF2.out _ HW2.out).mono ?_
      rintro e w3 ⟨rfl, hw3⟩
      have HW3 := Lib.hid (HW2.out.trans hw3)
      clear x0 x1
      have x0 := (KB.out.ext (HW2.out.trans hw3)).cell 0 _ rfl
      have x1 := (KB.out.ext (HW2.out.trans hw3)).cell 1 _ rfl
      clear hw3
      go_wp2_with fail
      refine (HF3.out _ HW3.out).mono ?_
      rintro e w4 ⟨rfl, hw4⟩
      have HW4 := Lib.hid (HW3.out.trans hw4)
      clear x0 x1
      have x0 := (KB.out.ext (HW3.out.trans hw4)).cell 0 _ rfl
      have x1 := (KB.out.ext (HW3.out.trans hw4)).cell 1 _ rfl
      clear hw4
      go_wp2_with fail
      refine (HF4.out _ HW4.out).mono ?_
      rintro e w5 ⟨rfl, hw5⟩
      have HW5 := Lib.hid (HW4.out.trans hw5)
      clear x0 x1
      have x0 := (KB.out.ext (HW4.out.trans hw5)).cell 0 _ rfl
      have x1 := (KB.out.ext (HW4.out.trans hw5)).cell 1 _ rfl
      clear hw5
      go_wp2_with fail
      refine (awake_any _ (hm0.out.ext HW5.out)).mono ?_
      rintro e w6 ⟨rfl, hw6⟩
      have HW6 := Lib.hid (HW5.out.trans hw6)
      clear x0 x1
      have x0 := (KB.out.ext (HW5.out.trans hw6)).cell 0 _ rfl
      have x1 := (KB.out.ext (HW5.out.trans hw6)).cell 1 _ rfl
      clear hw6
      go_wp2
      go_ret
      exact ⟨rfl, (HX0.out.trans HW6.out)⟩
     | true =>
      have ha60 : a.size ≤ 60000 := by have := isP_len q3; rw [size_list] at this; omega
      have HIS := Lib.hid q3
      rw [q3] at hf4
      have HF4 := Lib.hid hf4
      clear q3 hf4
      obtain ⟨i0, hi, hz0, hz1, hz2⟩ := info_parts (show (Tryz.prog.info? 9).map (fun i => (i.zero, i.size, i.bytes)) = some (some (.string ⟨#[]⟩), 1, 16) from by kernel_rfl)
      have hsl : (dl S).length = m := by have h := HB.out.1; rw [List.length_map] at h; simp [dl]; omega
      have k1 := fun W (h : Ext (w.alloc (.cells #[.slice A n c, .slice B m d] 32)) W) => tbest_any l L ln lc R S A B n c m d W (hm0.out.ext h) (HL.out.ext h) hln HZ.out (HA.out.ext h) (HB.out.ext h) hn20 hm20 HR.out HS.out
      have k2 := fun W (h : Ext (w.alloc (.cells #[.slice A n c, .slice B m d] 32)) W) A7 c7 (h7 : Sl W A7 (n + 1) ((R ++ [a]).map .string)) => tbest_any l L ln lc (R ++ [a]) S A7 B (n + 1) c7 m d W (hm0.out.ext h) (HL.out.ext h) hln HZ.out h7 (HB.out.ext h) (by omega) hm20 (by intro s hs; rcases List.mem_append.1 hs with h | h; exact HR.out s h; simp at h; subst h; exact ha60) HS.out
      have k3 := fun W (h : Ext (w.alloc (.cells #[.slice A n c, .slice B m d] 32)) W) => tbest_any l L ln lc [a] S (some ⟨W.heap.size, 0, none⟩) B 1 1 m d (W.alloc (.cells #[.string a] 9)) (hm0.out.ext (h.alloc _)) (HL.out.ext (h.alloc _)) hln HZ.out (Sl.one W (.string a) 9) (HB.out.ext (h.alloc _)) (by omega) hm20 (by intro s hs; simp at hs; subst hs; exact ha60) HS.out
      have k4 := fun W (h : Ext (w.alloc (.cells #[.slice A n c, .slice B m d] 32)) W) => torder_any l L ln lc a S B m d W (hm0.out.ext h) (HL.out.ext h) hln HZ.out (HB.out.ext h) hm20 ha60 HS.out
      have hmore := fun h => more_best (l := l.map nearOf) (R := dl R) (S := dl S) HIS.out h
      have hfirst := fun h => order_first (l := l.map nearOf) (S := dl S) (m := a.data.toList) h
      rw [show dl (R ++ [a]) = dl R ++ [a.data.toList] from by simp [dl]] at k2
      rw [show dl [a] = [a.data.toList] from rfl] at k3
      rw [hsl] at hfirst
      generalize bestR EC (l.map nearOf) (dl R) (dl S) = D1 at k1 hmore
      generalize bestR EC (l.map nearOf) (dl R ++ [a.data.toList]) (dl S) = D2 at k2 hmore
      generalize bestR EC (l.map nearOf) [a.data.toList] (dl S) = D3 at k3 hfirst
      generalize orderR EC (l.map nearOf) a.data.toList (dl S) = D4 at k4 hfirst
      obtain ⟨i, e⟩ := D1
      obtain ⟨k, f⟩ := D2
      obtain ⟨i3, g⟩ := D3
      obtain ⟨od, h4⟩ := D4
      simp only at k1 k2 k3 hmore hfirst
      have K1 := Lib.hid k1
      have K2 := Lib.hid k2
      have K3 := Lib.hid k3
      have K4 := Lib.hid k4
      have HMORE := Lib.hid hmore
      have HFIRST := Lib.hid hfirst
      clear k1 k2 k3 k4 hmore hfirst hsl hn
      go_enter Tryz.func8, Tryz.ntmps8
      go_wp2_with fail
      refine (awake_any _ (hm0.out.ext (Ext.refl _))).mono ?_
      rintro e w1 ⟨rfl, hw1⟩
      have HW1 := Lib.hid ((Ext.refl _).trans hw1)
      have x0 := (KB.out.ext ((Ext.refl _).trans hw1)).cell 0 _ rfl
      have x1 := (KB.out.ext ((Ext.refl _).trans hw1)).cell 1 _ rfl
      clear hw1
      go_wp2_with fail
      refine (HF1.out _ HW1.out).mono ?_
      rintro e w2 ⟨rfl, hw2⟩
      have HW2 := Lib.hid (HW1.out.trans hw2)
      clear x0 x1
      have x0 := (KB.out.ext (HW1.out.trans hw2)).cell 0 _ rfl
      have x1 := (KB.out.ext (HW1.out.trans hw2)).cell 1 _ rfl
      clear hw2
      go_wp2_with fail
      refine (HF2.out _ HW2.out).mono ?_
      rintro e w3 ⟨rfl, hw3⟩
      have HW3 := Lib.hid (HW2.out.trans hw3)
      clear x0 x1
      have x0 := (KB.out.ext (HW2.out.trans hw3)).cell 0 _ rfl
      have x1 := (KB.out.ext (HW2.out.trans hw3)).cell 1 _ rfl
      clear hw3
      go_wp2_with fail
      refine (HF3.out _ HW3.out).mono ?_
      rintro e w4 ⟨rfl, hw4⟩
      have HW4 := Lib.hid (HW3.out.trans hw4)
      clear x0 x1
      have x0 := (KB.out.ext (HW3.out.trans hw4)).cell 0 _ rfl
      have x1 := (KB.out.ext (HW3.out.trans hw4)).cell 1 _ rfl
      clear hw4
      go_wp2_with fail
      refine (HF4.out _ HW4.out).mono ?_
      rintro e w5 ⟨rfl, hw5⟩
      have HW5 := Lib.hid (HW4.out.trans hw5)
      clear x0 x1
      have x0 := (KB.out.ext (HW4.out.trans hw5)).cell 0 _ rfl
      have x1 := (KB.out.ext (HW4.out.trans hw5)).cell 1 _ rfl
      clear hw5
      go_wp2_with fail
      refine (K1.out _ HW5.out).mono ?_
      rintro e w6 ⟨rfl, hw6⟩
      have HW6 := Lib.hid (HW5.out.trans hw6)
      clear x0 x1
      have x0 := (KB.out.ext (HW5.out.trans hw6)).cell 0 _ rfl
      have x1 := (KB.out.ext (HW5.out.trans hw6)).cell 1 _ rfl
      clear hw6
      have KB6 := Lib.hid (KB.out.ext HW6.out)
      have HA6 := Lib.hid (HA.out.ext HW6.out)
      go_upto_region 6 with (fail)
      go_cut [9, 10] (R6 w6 k f)
      case first =>
        have yA0 := (KB6.out.ext ((Ext.refl w6).alloc (.cells #[] 9))).cell 0 _ rfl
        have yA1 := (KB6.out.ext ((Ext.refl w6).alloc (.cells #[] 9))).cell 1 _ rfl
        have yB0 := (KB6.out.ext ((Ext.refl w6).alloc (.cells #[.string a] 9))).cell 0 _ rfl
        have yB1 := (KB6.out.ext ((Ext.refl w6).alloc (.cells #[.string a] 9))).cell 1 _ rfl
        have yC0 := (KB6.out.ext (((Ext.refl w6).alloc (.cells #[] 9)).alloc (.cells #[.string a] 9))).cell 0 _ rfl
        have yC1 := (KB6.out.ext (((Ext.refl w6).alloc (.cells #[] 9)).alloc (.cells #[.string a] 9))).cell 1 _ rfl
        have yD0 := (KB6.out.ext (((Ext.refl w6).alloc (.cells #[.string a] 9)).alloc (.cells #[] 9))).cell 0 _ rfl
        have yD1 := (KB6.out.ext (((Ext.refl w6).alloc (.cells #[.string a] 9)).alloc (.cells #[] 9))).cell 1 _ rfl
        have tok1 : True := trivial
        have tok2 : True := trivial
        go_region_law (first
          | (have _t := tok1; refine step_app _ rfl _ _ 23 rfl w6.heap.size 9 i0 _ 16 Tryz.underlying23 hi hz0 hz1 hz2 rfl _ 0 [] rfl (by first | exact (own_empty w6 9).drew | exact ((own_empty w6 9).alloc _).drew | exact own3T w6 _ _) _ n _ (R.map .string) rfl (HA6.out.ext (by first | exact ((Ext.refl w6).alloc _).drew | exact (((Ext.refl w6).alloc _).alloc _).drew)) (string_one _) (by unfold maxLen; omega) (by omega) (by simp; try omega) ?_; intro v1 w1' hown1 hgrow1; have HX1 := Lib.hid (ext_grown (a := w6) (B := w6.heap.size) (by first | exact ((Ext.refl w6).alloc _).drew | exact (((Ext.refl w6).alloc _).alloc _).drew) (by first | exact (own_empty w6 9).drew | exact ((own_empty w6 9).alloc _).drew | exact own3T w6 _ _) (Nat.le_refl _) hgrow1); (first | have HZ1 := Lib.hid (one_keptT (row := some w6.heap.size) hgrow1 (two_new w6 _ _) (by simp)) | have HZ1 := Lib.hid (one_keptT (row := some (w6.heap.size + 1)) hgrow1 (two_old w6 _ _) (by simp)) | skip); have hcA : w1'.cell? ⟨w.heap.size, 1, none⟩ = some (.slice B m d) := (KB6.out.ext HX1.out).cell 1 _ rfl; have hcB := (KB6.out.ext (HX1.out.alloc (.cells #[.string a] 9))).cell 1 _ rfl; have HO1 := Lib.hid hown1; clear hown1 hgrow1 tok1)
          | (have _t := tok2; (refine step_app _ rfl _ _ 23 rfl w6.heap.size 9 i0 _ 16 Tryz.underlying23 hi hz0 hz1 hz2 rfl _ (0 + n) _ rfl (by first | exact HO1.out | exact HO1.out.alloc _) _ 1 _ [.string a] rfl (by first | exact HZ1.out | exact Sl.one _ _ _) (by simp [Value.oneCell']) (by unfold maxLen; omega) (by omega) (by have := Ext.size HX1.out; first | omega | (simp; omega)) ?_); intro v2 w2' hown2 hgrow2; have HX2 := Lib.hid (ext_grown (a := w6) (B := w6.heap.size) (by first | exact HX1.out | exact HX1.out.alloc _) (by first | exact HO1.out | exact HO1.out.alloc _) (Nat.le_refl _) hgrow2); have hcC : w2'.cell? ⟨w.heap.size, 1, none⟩ = some (.slice B m d) := (KB6.out.ext HX2.out).cell 1 _ rfl; obtain ⟨A15, c15, hv15, hs15, _⟩ := own_sl hown2; rw [hv15]; rw [Nat.zero_add]; have HS15 := Lib.hid (more_sl hs15); clear hown2 hgrow2 hs15 hv15 tok2)
          | (go_simp; go_at_call 12; have hZ := K2.out _ (HW6.out.trans HX2.out) _ c15 HS15.out; refine hZ.mono ?_; rintro e w16 hq; obtain ⟨hq1, hw16⟩ := hq; subst hq1; have HX16 := Lib.hid (HX2.out.trans hw16); clear hw16 hZ))
        all_goals go_wp2
        all_goals go_meet
        all_goals exact ⟨rfl, rfl, HX16.out⟩
      case rest =>
        obtain ⟨rfl, rfl, hw16⟩ := hcut
        have HW16 := Lib.hid (HW6.out.trans hw16)
        clear x0 x1
        have x0 := (KB.out.ext HW16.out).cell 0 _ rfl
        have x1 := (KB.out.ext HW16.out).cell 1 _ rfl
        clear hw16
        by_cases he : e = 0
        · subst he
          have hkf := HMORE.out rfl
          injection hkf with hk1 hf1
          subst hk1; subst hf1
          have x1b := (KB.out.ext (HW16.out.alloc (.cells #[.string a] 9))).cell 1 _ rfl
          go_wp2_with fail
          refine (K3.out _ HW16.out).mono ?_
          rintro e3 w17 ⟨rfl, hw17⟩
          have HW17 := Lib.hid ((HW16.out.alloc _).trans hw17)
          clear x0 x1 x1b
          have x0 := (KB.out.ext HW17.out).cell 0 _ rfl
          have x1 := (KB.out.ext HW17.out).cell 1 _ rfl
          clear hw17
          go_wp2_with fail
          refine (K4.out _ HW17.out).mono ?_
          rintro e4 w18 ⟨A4, n4, c4, rfl, hs4, hc4, hw18⟩
          have HS4 := Lib.hid hs4
          have HW18 := Lib.hid (HW17.out.trans hw18)
          clear x0 x1
          have x0 := (KB.out.ext HW18.out).cell 0 _ rfl
          have x1 := (KB.out.ext HW18.out).cell 1 _ rfl
          clear hs4 hw18
          by_cases hg : g = 0
          · subst hg
            obtain ⟨h0, hlen, kk, rr, hod, hone⟩ := HFIRST.out rfl
            (first | simp only at h0 hlen hod hone | skip)
            subst h0; subst hod; subst hone
            have hn4 : n4 = m := by have h : ((kk :: rr).map natV).length = n4 := HS4.out.1; rw [List.length_map] at h; omega
            subst hn4
            have hpos : 0 < n4 := by rw [← hlen]; simp
            have hposI : (0 : Int) < (n4 : Int) := by omega
            have qpos : decide ((0 : Int) < (n4 : Int)) = true := by simpa using hposI
            obtain ⟨ad, x', hA4, hx', hcx⟩ := HS4.out.at_map hpos
            subst hA4
            simp at hx'
            subst hx'
            rw [show ad.add 0 = ad from by unfold Addr.add; simp] at hcx
            unfold natV at hcx
            clear hlen
            go_wp2
            go_ret
            exact ⟨by first | rfl | simp | simp [*], HX0.out.trans HW18.out⟩
          · have hg0 : (g == 0) = false := by simpa using hg
            go_wp2
            go_ret
            exact ⟨by first | rfl | simp | simp [*], HX0.out.trans HW18.out⟩
        · have he0 : (e == 0) = false := by simpa using he
          have x1b := (KB.out.ext (HW16.out.alloc (.cells #[.string a] 9))).cell 1 _ rfl
          go_wp2_with fail
          refine (K3.out _ HW16.out).mono ?_
          rintro e3 w17 ⟨rfl, hw17⟩
          have HW17 := Lib.hid ((HW16.out.alloc _).trans hw17)
          clear x0 x1 x1b
          have x0 := (KB.out.ext HW17.out).cell 0 _ rfl
          have x1 := (KB.out.ext HW17.out).cell 1 _ rfl
          clear hw17
          go_wp2_with fail
          refine (K4.out _ HW17.out).mono ?_
          rintro e4 w18 ⟨A4, n4, c4, rfl, hs4, hc4, hw18⟩
          have HS4 := Lib.hid hs4
          have HW18 := Lib.hid (HW17.out.trans hw18)
          clear x0 x1
          have x0 := (KB.out.ext HW18.out).cell 0 _ rfl
          have x1 := (KB.out.ext HW18.out).cell 1 _ rfl
          clear hs4 hw18
          by_cases hg : g = 0
          · subst hg
            obtain ⟨h0, hlen, kk, rr, hod, hone⟩ := HFIRST.out rfl
            (first | simp only at h0 hlen hod hone | skip)
            subst h0; subst hod; subst hone
            have hn4 : n4 = m := by have h : ((kk :: rr).map natV).length = n4 := HS4.out.1; rw [List.length_map] at h; omega
            subst hn4
            have hpos : 0 < n4 := by rw [← hlen]; simp
            have hposI : (0 : Int) < (n4 : Int) := by omega
            have qpos : decide ((0 : Int) < (n4 : Int)) = true := by simpa using hposI
            obtain ⟨ad, x', hA4, hx', hcx⟩ := HS4.out.at_map hpos
            subst hA4
            simp at hx'
            subst hx'
            rw [show ad.add 0 = ad from by unfold Addr.add; simp] at hcx
            unfold natV at hcx
            clear hlen
            go_wp2
            go_ret
            exact ⟨by first | rfl | simp | simp [*], HX0.out.trans HW18.out⟩
          · have hg0 : (g == 0) = false := by simpa using hg
            go_wp2
            go_ret
            exact ⟨by first | rfl | simp | simp [*], HX0.out.trans HW18.out⟩

set_option maxRecDepth 100000 in
theorem liftedU (os : Os) (started : os.Started) (H : Type) (enc : TypeId × Value → H) (F : Stop.Interp) :
    ReturnsInHanded {} Tryz.checked os 8 .any ((Rows.OpenSpec.upto Rows.matchPrefersSpec).preRow enc Tryz.prog Tryz.f8 Rows.matchPrefersUptoRow.domain false Rows.matchPrefersUptoRow.laid)
      (((Rows.OpenSpec.upto Rows.matchPrefersSpec).at F).post enc Tryz.prog Tryz.f8 false true false false) := by
  refine returnsInHanded_of_row (C := Tryz.checked) (s := Rows.OpenSpec.upto Rows.matchPrefersSpec) own started (by kernel_rfl) Tryz.func8
    (witness_row_shaped (enc := enc) (C := Tryz.checked) (os := os) false (World.laidAll Tryz.prog os laidL) #[.slice none 0 0, .agg #[.slice none 0 0, .slice none 0 0], .string ⟨#[]⟩] (World.laidAll_os _ _ _) (World.shaped_of_ZipB (by kernel_rfl) (by kernel_rfl)) (by kernel_rfl)
      (OpenSpec.preRow_of_cond 8 (x := ([.nil, .agg [.nil, .nil], .lit (.string [])], [], [])) (by kernel_rfl) (by kernel_rfl) (fun k hk => by cases hk; kernel_rfl) (by kernel_rfl)
        (by rw [MakeChecks.laidMetH_plain _ _ _ (by kernel_rfl)]; exact laidMet_laidAll _ (by kernel_rfl) (by kernel_rfl)))) ?_
  intro W base args ds gs before hval0 hW _ hcond hsz1 hL hshape _
  have hval : ∀ (j : Nat) t v, Tryz.f8.params[j]? = some t → args[j]? = some v → Value.okWide Tryz.prog W .any base t v := hval0
  have hW' := hW
  obtain ⟨p, q, hA0, hV, rfl, hfz, hnd⟩ := hW
  have hA : DataW.TrodAll enc Tryz.prog W 0 (fun _ => true) true Tryz.f8.params.toList args.toList ds p := hA0
  obtain ⟨rfl, rfl⟩ := trodVars_none hV
  have hsz : ∀ m ∈ DataW.weightsEach Tryz.prog Tryz.f8.params.toList ds, m ≤ reachBytes := fun m hm => by
    have h := List.all_eq_true.1 hsz1 m (by
      rw [List.append_nil, show (Rows.OpenSpec.upto Rows.matchPrefersSpec).bare.plain.varTypes Tryz.checked.prog = [] from rfl, List.append_nil]
      exact hm)
    simpa using h
  rw [Tryz.params8] at hA hval hsz
  obtain ⟨v0, v1, v2, d0, d1, d2, p0, p1, p2, rfl, rfl, rfl, h0, h1, h2⟩ := trodAll_three hA
  obtain ⟨Al, nl, cl, l, rfl, hnr, hnl, hzl⟩ := open_nrs (hval 0 22 v0 rfl rfl) h0 (fun m hm => hsz m (DataW.weights_mem_each (j := 0) rfl rfl m hm))
  obtain ⟨A1, B1, n1, c1, m1, e1, R, S, rfl, hR, hn1, hS, hm1⟩ := open_two (hval 1 32 v1 rfl rfl) h1
  obtain ⟨s2, rfl, rfl, rfl, hs2⟩ := open_string Tryz.underlying9 (hval 2 9 v2 rfl rfl) h2
  have hk : Rows.uptoSmall H ([d0, d1, .lit (.string s2.data.toList)] ++ []) = true := hcond _ rfl
  have hk2 := of_decide_eq_true hk
  have hp := part_le (H := H) (d := .lit (.string s2.data.toList)) (l := [d0, d1, .lit (.string s2.data.toList)] ++ []) (by simp)
  have hp2 : Rows.uptoBulk (DataW.lit (H := H) (.string s2.data.toList)) = s2.size + 1 := by simp only [Rows.uptoBulk]; rfl
  refine (law l Al nl cl R S A1 B1 n1 c1 m1 e1 s2 W (mx_of hshape) hnr hnl (fun x hx => ⟨(hzl x hx).1, (hzl x hx).2.1⟩) hR hn1 hS hm1 (by omega)).mono fun e W' ⟨he, hw⟩ => ?_
  subst he
  exact ⟨_, rfl, law_post (t := 4) laidOut (by rw [Tryz.params8]; intro t ht; simp at ht; rcases ht with rfl | rfl | rfl <;> exact ⟨by kernel_rfl, of_decide_eq_true (by kernel_rfl)⟩) rfl Tryz.underlying4 rfl ⟨rfl, rfl, rfl⟩ hW' hw⟩

theorem rowU : Rows.matchPrefersUptoRow.holds Tryz.pinned (Rows.OpenSpec.upto Rows.matchPrefersSpec) :=
  OpenClaim.holds_of_cond 8 Tryz.f8 rfl rfl rfl rfl rfl rfl rfl ⟨rfl, rfl, rfl, rfl, rfl⟩ rfl rfl rfl rfl rfl (by kernel_rfl) Tryz.func8 (by kernel_rfl)
    (of_decide_eq_true (by kernel_rfl)) (by unfold Func.isWrapper; first | (rw [if_pos (by decide +kernel)]; kernel_rfl) | (rw [if_neg (by decide +kernel)]; exact ⟨rfl, rfl⟩))
    (fun os started H enc _ F => by rw [OpenClaim.pre_eq_preRow]; exact liftedU os started H enc F)
theorem cardUpto : Rows.MatchPrefersUptoCardSaid :=
  Claim7.holds_tied_plain_at .later [] [.data, .pinned] true (true, "4cde27c78bbc81950535fd720fe09d69469a41aa016a45fd5cda06c4d16a1c23") false rowU (fun _ h => by cases h) (by kernel_rfl) (fun _ h => by cases h) matchPrefersUpto_row_tie rfl ⟨rfl, rfl⟩ (by kernel_rfl) rfl
    (fun f fn hf hfn => by
      obtain rfl : f = 8 := Option.some.inj ((show Tryz.prog.funcNamed "calque/calquelaw21.MatchPrefers" = some 8 by kernel_rfl).symm.trans hf) |>.symm
      obtain rfl : fn = Tryz.f8 := (Option.some.inj (Tryz.func8.symm.trans hfn)).symm
      exact ⟨by kernel_rfl, fun j t ht => by
        rw [Tryz.params8] at ht
        have hm : t ∈ [22, 32, 9] := by simpa using Array.mem_of_getElem? ht
        have hall : ([22, 32, 9].all fun u => !Tryz.prog.wantsStandIn u) = true := by kernel_rfl
        exact (show Tryz.prog.wantsStandIn t = false by simpa using List.all_eq_true.1 hall t hm)⟩)
    (by kernel_rfl)
#print axioms cardUpto
end Go.Proofs.YtkflpenpjnnhdaaGreatDoor.lawMatchPrefers
