import Derived.Test.YtkflpenpjnnhdaaGreatDoorMQB
import Derived.Test.YtkflpenpjnnhdaaGreatDoorMQ3
import Derived.Test.YtkflpenpjnnhdaaGreatDoorMd
import Derived.Test.YtkflpenpjnnhdaaGreatDoorSpell
import Derived.Test.YtkflpenpjnnhdaaGreatDoorShelf
import Derived.Test.YtkflpenpjnnhdaaGreatDoorRows
import Derived.Test.YtkflpenpjnnhdaaGreatDoorCards
import Derived.Test.YtkflpenpjnnhdaaGreatDoorTie
import Derived.Shelf.Vars
namespace Go.Proofs.YtkflpenpjnnhdaaGreatDoor.lawMatchPermuted
open Go.ChangeShapes Go.WideShapes Go.ChangeAt Go.RowKit
open Go.ChangeMaps (open_string shut_string)
set_option linter.unusedSimpArgs false
set_option linter.unusedVariables false

def laidL : List (String × DataW Unit) := Rows.matchPermutedRow.laid
theorem mx_of {W : World} (h : W.ShapedOpen Tryz.prog) : Mx W := Tryz.laysM146.s1_3 W h

def PmInv (wG : World) (b : Nat) (S : List (List UInt8)) (m : Nat) (out i : Value) (wr : World) : Prop :=
  ∃ k : Nat, k ≤ m ∧ i = .int .i64 ((m : Int) - 1 - (k : Int)) ∧ wr.ownsRow wG.heap.size 9 1 out k (((SpelledL b S).take k).map strv) ∧ Ext wG wr
theorem spelled_at {S : List (List UInt8)} {b m k q : Nat} {s : List UInt8} (hm : S.length = m) (hq : q + k + 1 = m) (hs : S[q]? = some s) : (SpelledL b S)[k]? = some (spellL s b) := by
  unfold SpelledL
  rw [List.getElem?_reverse (by rw [List.length_map]; omega), List.length_map, show S.length - 1 - k = q from by omega, List.getElem?_map, hs]
  rfl
theorem spelled_len (b : Nat) (S : List (List UInt8)) : (SpelledL b S).length = S.length := by simp [SpelledL]
theorem spelled_short {b : Nat} {S : List ByteArray} (h : ∀ s ∈ S, s.size ≤ 60000) : ∀ s ∈ (SpelledL b (dl S)).map (fun x => (⟨x.toArray⟩ : ByteArray)), s.size ≤ 60000 := by
  intro s hs
  obtain ⟨x, hx, rfl⟩ := List.mem_map.1 hs
  unfold SpelledL dl at hx
  rw [List.mem_reverse, List.mem_map] at hx
  obtain ⟨y, hy, rfl⟩ := hx
  obtain ⟨z, hz, rfl⟩ := List.mem_map.1 hy
  have := h z hz
  show (spellL z.data.toList b).toArray.size ≤ 60000
  rw [List.size_toArray, spell_len, size_list]
  exact this
theorem dl_back (l : List (List UInt8)) : dl (l.map fun x => (⟨x.toArray⟩ : ByteArray)) = l := by
  unfold dl
  rw [List.map_map]
  simp [Function.comp_def]
set_option maxRecDepth 100000 in
set_option maxHeartbeats 8000000 in
theorem law (l : List Nr) (L : Option Addr) (ln lc : Nat) (R S : List ByteArray) (A B : Option Addr) (n c m d : Nat) (x : Int) (w : World) (hm : Mx w) (hL : Nrs w L ln l) (hln : ln ≤ maxLen) (hz : ∀ x ∈ l, x.f.size ≤ reachBytes ∧ x.o.size ≤ reachBytes) (hA : Sl w A n (R.map .string)) (hn : n ≤ maxLen) (hB : Sl w B m (S.map .string)) (hmm : m ≤ maxLen) (wx : (Lit.int .u64 x).wf = true) :
    Calls Tryz.prog 4 #[.slice L ln lc, .agg #[.slice A n c, .slice B m d], .int .u64 x] w (RetTrue w) := by
  have hx : 0 ≤ x ∧ x ≤ 18446744073709551615 := by simpa [Lit.wf, IntKind.min, IntKind.max, IntKind.signed, IntKind.bits] using wx
  obtain ⟨b, rfl⟩ : ∃ b : Nat, x = (b : Int) := ⟨x.toNat, by omega⟩
  have hb : b < 18446744073709551616 := by omega
  clear wx
  have HX0 := Lib.hid ((Ext.refl w).alloc (.cells #[.slice A n c, .slice B m d] 32))
  have HL := Lib.hid (hL.ext HX0.out)
  have hm0 := Lib.hid (hm.ext HX0.out)
  have HA := Lib.hid (hA.ext HX0.out)
  have HB := Lib.hid (hB.ext HX0.out)
  have KB := Lib.hid (AtC.new w #[.slice A n c, .slice B m d] : AtC 32 _ _ _)
  have x0 := KB.out.cell 0 _ rfl
  have x1 := KB.out.cell 1 _ rfl
  clear hL hA hB
  have hf1 := fun W (h : Ext (w.alloc (.cells #[.slice A n c, .slice B m d] 32)) W) => fewn_any l L ln lc W (HL.out.ext h) hln hz
  have hf2 := fun W (h : Ext (w.alloc (.cells #[.slice A n c, .slice B m d] 32)) W) => fews_any R A n c W (HA.out.ext h) hn
  have hf3 := fun W (h : Ext (w.alloc (.cells #[.slice A n c, .slice B m d] 32)) W) => fews_any S B m d W (HB.out.ext h) hmm
  cases q0 : fewN l with
  | false =>
   rw [q0] at hf1
   have HF1 := Lib.hid hf1
   clear q0 hf1 hf2 hf3
   go_enter Tryz.func4, Tryz.ntmps4
   go_wp2_with fail
   refine (awake_any _ (hm0.out.ext (Ext.refl _))).mono ?_
   rintro e w1 ⟨rfl, hw1⟩
   have HW1 := Lib.hid ((Ext.refl _).trans hw1)
   have x0 := (KB.out.ext ((Ext.refl _).trans hw1)).cell 0 _ rfl
   have x1 := (KB.out.ext ((Ext.refl _).trans hw1)).cell 1 _ rfl
   clear hw1
   go_wp2_with fail
   refine (HF1.out _ HW1.out).mono ?_
   rintro e w2 ⟨rfl, hw2⟩
   have HW2 := Lib.hid (HW1.out.trans hw2)
   clear x0 x1
   have x0 := (KB.out.ext (HW1.out.trans hw2)).cell 0 _ rfl
   have x1 := (KB.out.ext (HW1.out.trans hw2)).cell 1 _ rfl
   clear hw2
   go_wp2_with fail
   refine (awake_any _ (hm0.out.ext HW2.out)).mono ?_
   rintro e w3 ⟨rfl, hw3⟩
   have HW3 := Lib.hid (HW2.out.trans hw3)
   clear x0 x1
   have x0 := (KB.out.ext (HW2.out.trans hw3)).cell 0 _ rfl
   have x1 := (KB.out.ext (HW2.out.trans hw3)).cell 1 _ rfl
   clear hw3
   go_wp2
   go_ret
   exact ⟨rfl, (HX0.out.trans HW3.out)⟩
  | true =>
   obtain ⟨hl30, hl60⟩ := fewN_len q0
   have HZ := Lib.hid (show ∀ x ∈ l, x.f.size ≤ 1000000 ∧ x.o.size ≤ 1000000 from fun x hx => by have := hl60 x hx; omega)
   clear hl30 hl60
   rw [q0] at hf1
   have HF1 := Lib.hid hf1
   clear q0 hf1
   cases q1 : fewS R with
   | false =>
    rw [q1] at hf2
    have HF2 := Lib.hid hf2
    clear q1 hf2 hf3
    go_enter Tryz.func4, Tryz.ntmps4
    go_wp2_with fail
    refine (awake_any _ (hm0.out.ext (Ext.refl _))).mono ?_
    rintro e w1 ⟨rfl, hw1⟩
    have HW1 := Lib.hid ((Ext.refl _).trans hw1)
    have x0 := (KB.out.ext ((Ext.refl _).trans hw1)).cell 0 _ rfl
    have x1 := (KB.out.ext ((Ext.refl _).trans hw1)).cell 1 _ rfl
    clear hw1
    go_wp2_with fail
    refine (HF1.out _ HW1.out).mono ?_
    rintro e w2 ⟨rfl, hw2⟩
    have HW2 := Lib.hid (HW1.out.trans hw2)
    clear x0 x1
    have x0 := (KB.out.ext (HW1.out.trans hw2)).cell 0 _ rfl
    have x1 := (KB.out.ext (HW1.out.trans hw2)).cell 1 _ rfl
    clear hw2
    go_wp2_with fail
    refine (HF2.out _ HW2.out).mono ?_
    rintro e w3 ⟨rfl, hw3⟩
    have HW3 := Lib.hid (HW2.out.trans hw3)
    clear x0 x1
    have x0 := (KB.out.ext (HW2.out.trans hw3)).cell 0 _ rfl
    have x1 := (KB.out.ext (HW2.out.trans hw3)).cell 1 _ rfl
    clear hw3
    go_wp2_with fail
    refine (awake_any _ (hm0.out.ext HW3.out)).mono ?_
    rintro e w4 ⟨rfl, hw4⟩
    have HW4 := Lib.hid (HW3.out.trans hw4)
    clear x0 x1
    have x0 := (KB.out.ext (HW3.out.trans hw4)).cell 0 _ rfl
    have x1 := (KB.out.ext (HW3.out.trans hw4)).cell 1 _ rfl
    clear hw4
    go_wp2
    go_ret
    exact ⟨rfl, (HX0.out.trans HW4.out)⟩
   | true =>
    obtain ⟨_, hR⟩ := fewS_len q1
    have HR := Lib.hid (show ∀ s ∈ R, s.size ≤ 60000 from fun s hs => by have := hR s hs; omega)
    clear hR
    have hn20 : n ≤ 100000 := by have h1 := HA.out.1; have h2 := (fewS_len q1).1; rw [List.length_map] at h1; omega
    rw [q1] at hf2
    have HF2 := Lib.hid hf2
    clear q1 hf2
    cases q2 : fewS S with
    | false =>
     rw [q2] at hf3
     have HF3 := Lib.hid hf3
     clear q2 hf3
     go_enter Tryz.func4, Tryz.ntmps4
     go_wp2_with fail
     refine (awake_any _ (hm0.out.ext (Ext.refl _))).mono ?_
     rintro e w1 ⟨rfl, hw1⟩
     have HW1 := Lib.hid ((Ext.refl _).trans hw1)
     have x0 := (KB.out.ext ((Ext.refl _).trans hw1)).cell 0 _ rfl
     have x1 := (KB.out.ext ((Ext.refl _).trans hw1)).cell 1 _ rfl
     clear hw1
     go_wp2_with fail
     refine (HF1.out _ HW1.out).mono ?_
     rintro e w2 ⟨rfl, hw2⟩
     have HW2 := Lib.hid (HW1.out.trans hw2)
     clear x0 x1
     have x0 := (KB.out.ext (HW1.out.trans hw2)).cell 0 _ rfl
     have x1 := (KB.out.ext (HW1.out.trans hw2)).cell 1 _ rfl
     clear hw2
     go_wp2_with fail
     refine (HF2.out _ HW2.out).mono ?_
     rintro e w3 ⟨rfl, hw3⟩
     have HW3 := Lib.hid (HW2.out.trans hw3)
     clear x0 x1
     have x0 := (KB.out.ext (HW2.out.trans hw3)).cell 0 _ rfl
     have x1 := (KB.out.ext (HW2.out.trans hw3)).cell 1 _ rfl
     clear hw3
     go_wp2_with fail
     refine (HF3.out _ HW3.out).mono ?_
     rintro e w4 ⟨rfl, hw4⟩
     have HW4 := Lib.hid (HW3.out.trans hw4)
     clear x0 x1
     have x0 := (KB.out.ext (HW3.out.trans hw4)).cell 0 _ rfl
     have x1 := (KB.out.ext (HW3.out.trans hw4)).cell 1 _ rfl
     clear hw4
     go_wp2_with fail
     refine (awake_any _ (hm0.out.ext HW4.out)).mono ?_
     rintro e w5 ⟨rfl, hw5⟩
     have HW5 := Lib.hid (HW4.out.trans hw5)
     clear x0 x1
     have x0 := (KB.out.ext (HW4.out.trans hw5)).cell 0 _ rfl
     have x1 := (KB.out.ext (HW4.out.trans hw5)).cell 1 _ rfl
     clear hw5
     go_wp2
     go_ret
     exact ⟨rfl, (HX0.out.trans HW5.out)⟩
    | true =>
     obtain ⟨_, hS⟩ := fewS_len q2
     have HS := Lib.hid (show ∀ s ∈ S, s.size ≤ 60000 from fun s hs => by have := hS s hs; omega)
     clear hS
     have hm20 : m ≤ 100000 := by have h1 := HB.out.1; have h2 := (fewS_len q2).1; rw [List.length_map] at h1; omega
     rw [q2] at hf3
     have HF3 := Lib.hid hf3
     clear q2 hf3
     obtain ⟨i0, hi, hz0, hz1, hz2⟩ := info_parts (show (Tryz.prog.info? 9).map (fun i => (i.zero, i.size, i.bytes)) = some (some (.string ⟨#[]⟩), 1, 16) from by kernel_rfl)
     have hsl : (dl S).length = m := by have h := HB.out.1; rw [List.length_map] at h; simp [dl]; omega
     have k1 := fun W (h : Ext (w.alloc (.cells #[.slice A n c, .slice B m d] 32)) W) => tbest_any l L ln lc R S A B n c m d W (hm0.out.ext h) (HL.out.ext h) hln HZ.out (HA.out.ext h) (HB.out.ext h) hn20 hm20 HR.out HS.out
     have k2 := fun W (h : Ext (w.alloc (.cells #[.slice A n c, .slice B m d] 32)) W) A7 c7 (h7 : Sl W A7 m ((SpelledL b (dl S)).map strv)) => tbest_any l L ln lc R ((SpelledL b (dl S)).map fun x => (⟨x.toArray⟩ : ByteArray)) A A7 n c m c7 W (hm0.out.ext h) (HL.out.ext h) hln HZ.out (HA.out.ext h) (by rw [← strv_maps]; exact h7) hn20 hm20 HR.out (spelled_short HS.out)
     rw [dl_back] at k2
     have hbad := fun h => perm_bad (l := l.map nearOf) (R := dl R) (S := dl S) b h
     have hok := fun h => perm_ok (l := l.map nearOf) (R := dl R) (S := dl S) b h
     have hrg := fun h => best_range (l := l.map nearOf) (R := dl R) (S := dl S) h
     have HAT := Lib.hid (fun (q k : Nat) (s : List UInt8) (hq : q + k + 1 = m) (hs : (dl S)[q]? = some s) => spelled_at (b := b) hsl hq hs)
     have hspl : (SpelledL b (dl S)).length = m := by rw [spelled_len]; exact hsl
     have HSPL := Lib.hid hspl
     rw [hsl] at hok hrg
     generalize bestR EC (l.map nearOf) (dl R) (dl S) = D1 at k1 hbad hok hrg
     generalize bestR EC (l.map nearOf) (dl R) (SpelledL b (dl S)) = D2 at k2 hbad hok
     obtain ⟨i, e⟩ := D1
     obtain ⟨j, f⟩ := D2
     simp only at k1 k2 hbad hok hrg
     have K1 := Lib.hid k1
     have K2 := Lib.hid k2
     have HBAD := Lib.hid hbad
     have HOK := Lib.hid hok
     have HRG := Lib.hid hrg
     have HSL := Lib.hid hsl
     have hmw : IntKind.i64.wrap ((m : Int) - 1) = (m : Int) - 1 := IntWalk.i64_in _ (by omega)
     have hmw2 : wrap64 ((m : Int) - 1) = (m : Int) - 1 := IntWalk.wrap64_in _ (by omega)
     clear k1 k2 hbad hok hrg hsl hspl
     go_enter Tryz.func4, Tryz.ntmps4
     go_wp2_with fail
     refine (awake_any _ (hm0.out.ext (Ext.refl _))).mono ?_
     rintro e w1 ⟨rfl, hw1⟩
     have HW1 := Lib.hid ((Ext.refl _).trans hw1)
     have x0 := (KB.out.ext ((Ext.refl _).trans hw1)).cell 0 _ rfl
     have x1 := (KB.out.ext ((Ext.refl _).trans hw1)).cell 1 _ rfl
     clear hw1
     go_wp2_with fail
     refine (HF1.out _ HW1.out).mono ?_
     rintro e w2 ⟨rfl, hw2⟩
     have HW2 := Lib.hid (HW1.out.trans hw2)
     clear x0 x1
     have x0 := (KB.out.ext (HW1.out.trans hw2)).cell 0 _ rfl
     have x1 := (KB.out.ext (HW1.out.trans hw2)).cell 1 _ rfl
     clear hw2
     go_wp2_with fail
     refine (HF2.out _ HW2.out).mono ?_
     rintro e w3 ⟨rfl, hw3⟩
     have HW3 := Lib.hid (HW2.out.trans hw3)
     clear x0 x1
     have x0 := (KB.out.ext (HW2.out.trans hw3)).cell 0 _ rfl
     have x1 := (KB.out.ext (HW2.out.trans hw3)).cell 1 _ rfl
     clear hw3
     go_wp2_with fail
     refine (HF3.out _ HW3.out).mono ?_
     rintro e w4 ⟨rfl, hw4⟩
     have HW4 := Lib.hid (HW3.out.trans hw4)
     clear x0 x1
     have x0 := (KB.out.ext (HW3.out.trans hw4)).cell 0 _ rfl
     have x1 := (KB.out.ext (HW3.out.trans hw4)).cell 1 _ rfl
     clear hw4
     have HE4 := Lib.hid HW4.out
     have KB4 := Lib.hid (KB.out.ext HE4.out)
     go_wp2_with fail
     go_loopw [7, 8] (PmInv w4 b (dl S) m) (fun _ i _ => (intOf i + 1).toNat)
     case atStart => exact ⟨0, Nat.zero_le _, by first | rfl | simp, World.ownsRow_nil _ _ _ 1, Ext.refl _⟩
     case round =>
       obtain ⟨k, hk, hi0, how, hw⟩ := hrel
       have HOW := Lib.hid how
       have HWR := Lib.hid hw
       have y0 := (KB4.out.ext hw).cell 0 _ rfl
       have y1 := (KB4.out.ext hw).cell 1 _ rfl
       clear how hw x0 x1
       by_cases hkm : k < m
       · obtain ⟨q, hq⟩ : ∃ q : Nat, (m : Int) - 1 - (k : Int) = (q : Int) := ⟨m - 1 - k, by omega⟩
         rw [hq] at hi0
         subst hi0
         obtain ⟨adq, s, hB1, hs, hcs⟩ := (HB.out.ext (HE4.out.trans HWR.out)).at_map (show q < m by omega)
         subst hB1
         have hqI : (q : Int) < (m : Int) := by omega
         have hq0 : (0 : Int) ≤ (q : Int) := by omega
         have hs60 : s.size ≤ 60000 := HS.out s (List.mem_of_getElem? hs)
         have HTK := Lib.hid (take_next (HAT.out q k s.data.toList (by omega) (by unfold dl; rw [List.getElem?_map, hs]; rfl)))
         have ks := fun W => rspell_any s b W (by omega) hb
         obtain ⟨zb, hzb, hzb2⟩ := strv_b (spellL s.data.toList b)
         rw [hzb] at ks
         have HZB := Lib.hid hzb
         have KS := Lib.hid ks
         have hqw : IntKind.i64.wrap ((q : Int) - 1) = (q : Int) - 1 := IntWalk.i64_in _ (by omega)
         have hqw2 : wrap64 ((q : Int) - 1) = (q : Int) - 1 := IntWalk.wrap64_in _ (by omega)
         clear hs ks hzb hzb2
         go_wp2_with fail
         refine (KS.out _).mono ?_
         rintro e w9 ⟨rfl, hw9⟩
         have HW9 := Lib.hid (HWR.out.trans hw9)
         have HOX := Lib.hid (own_ext HOW.out (hw9.alloc (.cells #[.string zb] 9)))
         have HSO := Lib.hid (Sl.one w9 (.string zb) 9)
         have HWA := Lib.hid (HW9.out.alloc (.cells #[.string zb] 9))
         clear hw9 y0 y1
         go_wp2_with (at_builtin; refine wpList_app _ rfl _ _ 23 rfl w4.heap.size 9 i0 _ 16 Tryz.underlying23 hi hz0 hz1 hz2 rfl _ k _ rfl HOX.out _ 1 1 _ rfl HSO.out (by simp [Value.oneCell']) (by unfold maxLen; omega) (by omega) HWA.out.size ?_; intro v' w3 hown' hgrow; have HO' := Lib.hid hown'; have HG' := Lib.hid hgrow; clear hown' hgrow)
         refine ⟨⟨k + 1, by omega, by first | (congr 1; omega) | (rw [show ((m : Int) - 1 - ((k + 1 : Nat) : Int)) = (q : Int) - 1 from by omega]), ?_, HWA.out.grown HG'.out (own_lt HOX.out)⟩, by simp [intOf]⟩
         have h := HO'.out
         rw [HTK.out, List.map_append, List.map_singleton, HZB.out]
         exact h
       · have hkk : k = m := by omega
         subst hkk
         have hm1 : (k : Int) - 1 - (k : Int) = -1 := by omega
         rw [hm1] at hi0
         subst hi0
         obtain ⟨A7, c7, hv7, hs7, _⟩ := own_sl HOW.out
         subst hv7
         rw [List.take_of_length_le (by rw [HSPL.out]; exact Nat.le_refl _)] at hs7
         have HS7 := Lib.hid hs7
         have HE5 := Lib.hid (HE4.out.trans HWR.out)
         clear hs7
         by_cases he : e = 0 ∨ e = 8
         rotate_left
         · have hf := HBAD.out he
           have e0 : (e == 0) = false := by simp; omega
           have e8 : (e == 8) = false := by simp; omega
           have f0 : (f == 0) = false := by simp; omega
           have f8 : (f == 8) = false := by simp; omega
           have e1 : (e != 0) = true := by simp; omega
           have e9 : (e != 8) = true := by simp; omega
           have f1 : (f != 0) = true := by simp; omega
           have f9 : (f != 8) = true := by simp; omega
           clear hf
           go_wp2_with fail
           refine (K1.out _ HE5.out).mono ?_
           rintro e w5 ⟨rfl, hw5⟩
           have HW5 := Lib.hid (HE5.out.trans hw5)
           have HS8 := Lib.hid (HS7.out.ext hw5)
           clear y0 y1
           have y0 := (KB.out.ext HW5.out).cell 0 _ rfl
           have y1 := (KB.out.ext HW5.out).cell 1 _ rfl
           clear hw5
           go_wp2_with fail
           refine (K2.out _ HW5.out _ _ HS8.out).mono ?_
           rintro e w6 ⟨rfl, hw6⟩
           have HW6 := Lib.hid (HW5.out.trans hw6)
           clear y0 y1
           have y0 := (KB.out.ext HW6.out).cell 0 _ rfl
           have y1 := (KB.out.ext HW6.out).cell 1 _ rfl
           clear hw6
           go_wp2
           go_ret
           exact ⟨by first | rfl | simp | simp [*], HX0.out.trans HW6.out⟩
         obtain ⟨hfe, hij⟩ := HOK.out he
         subst hfe
         rcases he with he | he
         · subst he
           have hij2 := hij rfl
           rcases HRG.out (.inl rfl) with h8 | ⟨kk, hkk1, hkk2⟩
           · exact absurd h8 (by decide)
           subst hkk1
           have hjj : (k : Int) - 1 - j = (kk : Int) := by omega
           have hw7 : IntKind.i64.wrap ((k : Int) - 1 - j) = (kk : Int) := by rw [hjj]; exact IntWalk.i64_in _ (by omega)
           have hw8 : wrap64 ((k : Int) - 1 - j) = (kk : Int) := by rw [hjj]; exact IntWalk.wrap64_in _ (by omega)
           clear hjj hij hij2
           go_wp2_with fail
           refine (K1.out _ HE5.out).mono ?_
           rintro e w5 ⟨rfl, hw5⟩
           have HW5 := Lib.hid (HE5.out.trans hw5)
           have HS8 := Lib.hid (HS7.out.ext hw5)
           clear y0 y1
           have y0 := (KB.out.ext HW5.out).cell 0 _ rfl
           have y1 := (KB.out.ext HW5.out).cell 1 _ rfl
           clear hw5
           go_wp2_with fail
           refine (K2.out _ HW5.out _ _ HS8.out).mono ?_
           rintro e w6 ⟨rfl, hw6⟩
           have HW6 := Lib.hid (HW5.out.trans hw6)
           clear y0 y1
           have y0 := (KB.out.ext HW6.out).cell 0 _ rfl
           have y1 := (KB.out.ext HW6.out).cell 1 _ rfl
           clear hw6
           go_wp2
           go_ret
           exact ⟨by first | rfl | simp | simp [*], HX0.out.trans HW6.out⟩
         · subst he
           go_wp2_with fail
           refine (K1.out _ HE5.out).mono ?_
           rintro e w5 ⟨rfl, hw5⟩
           have HW5 := Lib.hid (HE5.out.trans hw5)
           have HS8 := Lib.hid (HS7.out.ext hw5)
           clear y0 y1
           have y0 := (KB.out.ext HW5.out).cell 0 _ rfl
           have y1 := (KB.out.ext HW5.out).cell 1 _ rfl
           clear hw5
           go_wp2_with fail
           refine (K2.out _ HW5.out _ _ HS8.out).mono ?_
           rintro e w6 ⟨rfl, hw6⟩
           have HW6 := Lib.hid (HW5.out.trans hw6)
           clear y0 y1
           have y0 := (KB.out.ext HW6.out).cell 0 _ rfl
           have y1 := (KB.out.ext HW6.out).cell 1 _ rfl
           clear hw6
           go_wp2
           go_ret
           exact ⟨by first | rfl | simp | simp [*], HX0.out.trans HW6.out⟩

set_option maxRecDepth 100000 in
theorem lifted (os : Os) (started : os.Started) (H : Type) (enc : TypeId × Value → H) :
    ReturnsInHanded {} Tryz.checked os 4 .any (fun w args => (Rows.matchPermutedSpec.pre enc Tryz.prog Tryz.f4 [] false w args ∧ laidMetH Tryz.prog laidL w) ∧ sizedMet enc Tryz.prog Tryz.f4 (OpenSpec.ofChange Rows.matchPermutedSpec) false w args)
      (Rows.matchPermutedSpec.post enc Tryz.prog Tryz.f4 false true false false) := by
  refine lifted_and_sized (C := Tryz.checked) (X := fun w _ => laidMetH Tryz.prog laidL w) (fun _ _ _ hh h => h.of_heap hh) own started (by kernel_rfl) Tryz.func4
    (ChangeSpec.witness_shaped (enc := enc) (C := Tryz.checked) (os := os) (X := fun w _ => laidMetH Tryz.prog laidL w) false (World.laidAll Tryz.prog os laidL) #[.slice none 0 0, .agg #[.slice none 0 0, .slice none 0 0], .int .u64 0] 8 (World.laidAll_os _ _ _)
      (World.shaped_of_ZipB (by kernel_rfl) (by kernel_rfl)) (by kernel_rfl) (by kernel_rfl) (by kernel_rfl)
      (by rw [MakeChecks.laidMetH_plain _ _ _ (by kernel_rfl)]; exact laidMet_laidAll _ (by kernel_rfl) (by kernel_rfl))) ?_
  intro W base args ds gs before hval0 hW hL hshape hsz0
  have hval : ∀ (j : Nat) t v, Tryz.f4.params[j]? = some t → args[j]? = some v → Value.okWide Tryz.prog W .any base t v := hval0
  have hW' := hW
  obtain ⟨p, q, hA0, hV, rfl, hfz, hnd⟩ := hW
  have hA : DataW.TrodAll enc Tryz.prog W 0 (fun _ => true) true Tryz.f4.params.toList args.toList ds p := hA0
  obtain ⟨rfl, rfl⟩ := trodVars_none hV
  have hsz : ∀ m ∈ DataW.weightsEach Tryz.prog Tryz.f4.params.toList ds, m ≤ reachBytes := fun m hm => hsz0 m (by
    rw [List.append_nil, show Rows.matchPermutedSpec.plain.varTypes Tryz.checked.prog = [] from rfl, List.append_nil]
    exact hm)
  rw [Tryz.params4] at hA hval hsz
  obtain ⟨v0, v1, v2, d0, d1, d2, p0, p1, p2, rfl, rfl, rfl, h0, h1, h2⟩ := trodAll_three hA
  obtain ⟨Al, nl, cl, l, rfl, hnr, hnl, hzl⟩ := open_nrs (hval 0 22 v0 rfl rfl) h0 (fun m hm => hsz m (DataW.weights_mem_each (j := 0) rfl rfl m hm))
  obtain ⟨A1, B1, n1, c1, m1, e1, R, S, rfl, hR, hn1, hS, hm1⟩ := open_two (hval 1 32 v1 rfl rfl) h1
  obtain ⟨x, rfl, rfl, rfl, wx⟩ := open_int Tryz.underlying33 (hval 2 33 v2 rfl rfl) h2
  refine (law l Al nl cl R S A1 B1 n1 c1 m1 e1 x W (mx_of hshape) hnr hnl (fun x hx => ⟨(hzl x hx).1, (hzl x hx).2.1⟩) hR hn1 hS hm1 wx).mono fun e W' ⟨he, hw⟩ => ?_
  subst he
  exact ⟨_, rfl, law_post (t := 4) laidOut (by rw [Tryz.params4]; intro t ht; simp at ht; rcases ht with rfl | rfl | rfl <;> exact ⟨by kernel_rfl, of_decide_eq_true (by kernel_rfl)⟩) rfl Tryz.underlying4 rfl ⟨rfl, rfl, rfl⟩ hW' hw⟩

theorem row : Rows.matchPermutedRow.holds Tryz.pinned (OpenSpec.ofChange Rows.matchPermutedSpec) :=
  OpenClaim.holds_of_wide 4 Tryz.f4 rfl rfl rfl rfl rfl rfl rfl ⟨rfl, rfl, rfl, rfl, rfl⟩ rfl rfl rfl rfl rfl (by kernel_rfl) Tryz.func4 (by kernel_rfl)
    (of_decide_eq_true (by kernel_rfl)) (by unfold Func.isWrapper; first | (rw [if_pos (by decide +kernel)]; kernel_rfl) | (rw [if_neg (by decide +kernel)]; exact ⟨rfl, rfl⟩))
    (fun os started H enc _ => lifted os started H enc)
theorem card : Rows.MatchPermutedCardSaid :=
  Claim7.holds_tied_plain_at .later [] [.data, .pinned] true (true, "4cde27c78bbc81950535fd720fe09d69469a41aa016a45fd5cda06c4d16a1c23") false row (fun _ h => by cases h) (by kernel_rfl) (fun _ h => by cases h) matchPermuted_row_tie rfl ⟨rfl, rfl⟩ (by kernel_rfl) rfl
    (fun f fn hf hfn => by
      obtain rfl : f = 4 := Option.some.inj ((show Tryz.prog.funcNamed "calque/calquelaw21.MatchPermuted" = some 4 by kernel_rfl).symm.trans hf) |>.symm
      obtain rfl : fn = Tryz.f4 := (Option.some.inj (Tryz.func4.symm.trans hfn)).symm
      exact ⟨by kernel_rfl, fun j t ht => by
        rw [Tryz.params4] at ht
        have hm : t ∈ [22, 32, 33] := by simpa using Array.mem_of_getElem? ht
        have hall : ([22, 32, 33].all fun u => !Tryz.prog.wantsStandIn u) = true := by kernel_rfl
        exact (show Tryz.prog.wantsStandIn t = false by simpa using List.all_eq_true.1 hall t hm)⟩)
    (by kernel_rfl)
#print axioms card
end Go.Proofs.YtkflpenpjnnhdaaGreatDoor.lawMatchPermuted
