import Derived.Test.YtpfmojeigjmlfaaGreatDoorNPW
import Derived.Test.YtpfmojeigjmlfaaGreatDoorNPA
import Derived.Test.YtpfmojeigjmlfaaGreatDoorTw
set_option maxRecDepth 100000
set_option linter.unusedSimpArgs false
set_option linter.unusedVariables false
open Go.Lib (hid)
namespace Go.Proofs.YtpfmojeigjmlfaaGreatDoor
open Go.RowKit
def rtV (a : Nat) : Option (Nat × By × Nat) → Value
 | none => .agg #[.int .i64 0, .string ⟨#[]⟩, .int .i64 0, .int .i64 0]
 | some (k, x, m) => .agg #[.int .i64 k, .string ⟨x.toArray⟩, .int .i64 a, .int .i64 ((a + m : Nat) : Int)]
theorem at_four {T : TypeId} {w : World} {g : Nat} {a0 a1 a2 a3 b0 b1 b2 b3 : Value} (h : AtC T w g #[a0, a1, a2, a3]) :
 AtC T ((((w.setCell ⟨g, 0, none⟩ b0).setCell ⟨g, 1, none⟩ b1).setCell ⟨g, 2, none⟩ b2).setCell ⟨g, 3, none⟩ b3) g #[b0, b1, b2, b3] := by
 unfold AtC at h ⊢
 simp only [World.setCell, Array.getElem?_modify, if_true, h]
 rfl
theorem ext_four {w W : World} {g : Nat} {b0 b1 b2 b3 : Value} (h : Ext w W) (hg : w.heap.size ≤ g) : Ext w ((((W.setCell ⟨g, 0, none⟩ b0).setCell ⟨g, 1, none⟩ b1).setCell ⟨g, 2, none⟩ b2).setCell ⟨g, 3, none⟩ b3) :=
 (((h.setCell (p := ⟨g, 0, none⟩) hg _).setCell (p := ⟨g, 1, none⟩) hg _).setCell (p := ⟨g, 2, none⟩) hg _).setCell (p := ⟨g, 3, none⟩) hg _
theorem ext_ba {s : ByteArray} {a k : Nat} : s.extract a k = ⟨((s.data.toList.drop a).take (k - a)).toArray⟩ := by
 have e : (s.extract a k).data.toList = (s.data.toList.drop a).take (k - a) := by
  simp only [ByteArray.data_extract, Array.toList_extract, List.extract_eq_take_drop]
 have e2 : (s.extract a k).data = ((s.data.toList.drop a).take (k - a)).toArray := by rw [← e]
 exact congrArg ByteArray.mk e2
theorem wordN_cons {c : UInt8} {r : By} (h : wordB c = true) : wordN (c :: r) = wordN r + 1 := by
 unfold wordN
 rw [List.takeWhile_cons, if_pos h, List.length_cons]
theorem wordN_no {c : UInt8} {r : By} (h : wordB c = false) : wordN (c :: r) = 0 := by
 unfold wordN
 rw [List.takeWhile_cons, if_neg (by rw [h]; decide)]
 rfl
theorem nextP_word {c : UInt8} {r : By} (h : 0 < wordN (c :: r)) : nextP (c :: r) true = some (9, (c :: r).take (wordN (c :: r)), wordN (c :: r)) := by
 cases hc : wordB c with
 | false => rw [wordN_no hc] at h; exact absurd h (Nat.not_lt_zero _)
 | true =>
   obtain ⟨h1, h2, h3, _⟩ := word_no hc
   simp only [nextP]
   rw [if_neg (by rw [h1]; decide), if_neg (by rw [h2]; decide), if_pos trivial, if_neg (by rw [h3]; decide), if_neg (by omega)]
theorem nextP_sign {c : UInt8} {r : By} (h : wordN (c :: r) = 0) : nextP (c :: r) true = if c == 123 then some (2, [123], 1) else if c == 125 then some (3, [125], 1) else if c == 44 then some (8, [44], 1) else none := by
 simp only [nextP]
 rw [if_pos trivial, if_pos h]
def BrI (s : ByteArray) (a : Nat) (W0 : World) (i : Value) (wr : World) : Prop := ∃ k : Nat, a ≤ k ∧ k ≤ s.size ∧ i = .int .i64 k ∧ wordN (s.data.toList.drop a) = (k - a) + wordN (s.data.toList.drop k) ∧ wr = W0
set_option maxHeartbeats 4000000 in
theorem rbraces_any (s : ByteArray) (a : Nat) (w : World) (hs : s.size ≤ 1048576) (ha : a < s.size) : Calls Tryz.prog 112 #[.string s, .int .i64 a] w fun e w' => e = .returned (rtV a (nextP (s.data.toList.drop a) true)) ∧ Ext w w' := by
 obtain ⟨NX, hNX⟩ : ∃ NX, NX = nextP (s.data.toList.drop a) true := ⟨_, rfl⟩
 rw [← hNX]
 have HNX := hid hNX
 have haI : (a : Int) < (s.size : Int) := by omega
 have HDA := hid (drop_at ha)
 clear hNX
 go_enter Tryz.func112, Tryz.ntmps112
 go_wp2_with fail
 have HB := hid (AtC.new w #[.int .i64 0, .string ⟨#[]⟩, .int .i64 0, .int .i64 0] : AtC 137 _ _ _)
 have HX := hid ((Ext.refl w).alloc (.cells #[.int .i64 0, .string ⟨#[]⟩, .int .i64 0, .int .i64 0] 137))
 generalize w.alloc (.cells #[.int .i64 0, .string ⟨#[]⟩, .int .i64 0, .int .i64 0] 137) = W0 at *
 go_loopw [5] (BrI s a W0) (fun i _ => s.size - (intOf i).toNat)
 case atStart => exact ⟨a, Nat.le_refl _, Nat.le_of_lt ha, rfl, by rw [Nat.sub_self, Nat.zero_add], rfl⟩
 case round =>
  obtain ⟨k, hak, hk, rfl, hq, rfl⟩ := hrel
  have HQ := hid hq
  clear hq
  by_cases hks : k < s.size
  rotate_left
  ·have hkI : ¬ (k : Int) < (s.size : Int) := by omega
   have HW := hid (show wordN (s.data.toList.drop a) = k - a from by rw [HQ.out, show s.data.toList.drop k = [] from List.drop_eq_nil_of_le (by rw [size_list]; omega)]; rfl)
   have hka : a < k := by omega
   have HF := hid (show NX = some (9, (s.data.toList.drop a).take (k - a), k - a) from by
    have h0 : 0 < wordN (s[a] :: s.data.toList.drop (a + 1)) := by rw [← HDA.out]; have := HW.out; omega
    rw [HNX.out, HDA.out, nextP_word h0, ← HDA.out, HW.out])
   have HKA := hid hka
   have hsl : (a : Int) < (k : Int) := by omega
   have hsl2 : (k : Int) ≤ (s.size : Int) := by omega
   have r0 := HB.out.cell 0 _ rfl
   have r1 := HB.out.cell 1 _ rfl
   have r2 := HB.out.cell 2 _ rfl
   have r3 := HB.out.cell 3 _ rfl
   have u0 := frz_of HB.out 0
   have u1 := frz_of HB.out 1
   have u2 := frz_of HB.out 2
   have u3 := frz_of HB.out 3
   go_wp2
   have hat := at_four (b0 := .int .i64 9) (b1 := .string (s.extract a k)) (b2 := .int .i64 a) (b3 := .int .i64 k) HB.out
   refine bodyPost_ret (results_cell_row rfl _ _ w.heap.size 137 _ (0, 0) _ rfl hat Tryz.underlying137 rfl (by kernel_rfl)) rfl ?_
   exact ⟨by rw [HF.out, ext_ba]; simp [rtV]; have := HKA.out; omega, ext_four HX.out (Nat.le_refl _)⟩
  have hkI : (k : Int) < (s.size : Int) := by omega
  have HD := hid (drop_at hks)
  have HK := hid (fun W => rwordy_any s[k] W)
  cases hc : wordB s[k]
  rotate_left
  ·have HF := hid (show wordN (s.data.toList.drop a) = (k + 1 - a) + wordN (s.data.toList.drop (k + 1)) from by rw [HQ.out, HD.out, wordN_cons hc]; omega)
   rw [hc] at HK
   clear hc
   go_wp2_with fail
   refine (HK.out _).mono ?_
   rintro e w2 ⟨rfl, rfl⟩
   go_wp2
   exact ⟨⟨k + 1, by omega, hks, by go_num, HF.out, rfl⟩, by simp [intOf]; omega⟩
  ·have HW := hid (show wordN (s.data.toList.drop a) = k - a from by rw [HQ.out, HD.out, wordN_no hc]; rfl)
   rw [hc] at HK
   clear hc
   by_cases hka : a < k
   ·go_wp2_with fail
    refine (HK.out _).mono ?_
    rintro e w2 ⟨rfl, rfl⟩
    have HF := hid (show NX = some (9, (s.data.toList.drop a).take (k - a), k - a) from by
     have h0 : 0 < wordN (s[a] :: s.data.toList.drop (a + 1)) := by rw [← HDA.out]; have := HW.out; omega
     rw [HNX.out, HDA.out, nextP_word h0, ← HDA.out, HW.out])
    have HKA := hid hka
    have hsl : (a : Int) < (k : Int) := by omega
    have hsl2 : (k : Int) ≤ (s.size : Int) := by omega
    have r0 := HB.out.cell 0 _ rfl
    have r1 := HB.out.cell 1 _ rfl
    have r2 := HB.out.cell 2 _ rfl
    have r3 := HB.out.cell 3 _ rfl
    have u0 := frz_of HB.out 0
    have u1 := frz_of HB.out 1
    have u2 := frz_of HB.out 2
    have u3 := frz_of HB.out 3
    go_wp2
    have hat := at_four (b0 := .int .i64 9) (b1 := .string (s.extract a k)) (b2 := .int .i64 a) (b3 := .int .i64 k) HB.out
    refine bodyPost_ret (results_cell_row rfl _ _ w.heap.size 137 _ (0, 0) _ rfl hat Tryz.underlying137 rfl (by kernel_rfl)) rfl ?_
    exact ⟨by rw [HF.out, ext_ba]; simp [rtV]; have := HKA.out; omega, ext_four HX.out (Nat.le_refl _)⟩
   obtain rfl : k = a := by omega
   have hw0 : wordN (s.data.toList.drop k) = 0 := by rw [HW.out]; omega
   go_wp2_with fail
   refine (HK.out _).mono ?_
   rintro e w2 ⟨rfl, rfl⟩
   have HNS := hid (show NX = if s[k] == 123 then some (2, [123], 1) else if s[k] == 125 then some (3, [125], 1) else if s[k] == 44 then some (8, [44], 1) else none from by
    rw [HNX.out, HDA.out, nextP_sign (by rw [← HDA.out]; omega)])
   by_cases e123 : s[k] = 123
   ·have t123 : ((s[k].toNat : Int) == 123) = true := by rw [e123]; rfl
    have HF := hid (show NX = some (2, [123], 1) from by rw [HNS.out, e123]; rfl)
    clear e123
    have r0 := HB.out.cell 0 _ rfl
    have r1 := HB.out.cell 1 _ rfl
    have r2 := HB.out.cell 2 _ rfl
    have r3 := HB.out.cell 3 _ rfl
    have u0 := frz_of HB.out 0
    have u1 := frz_of HB.out 1
    have u2 := frz_of HB.out 2
    have u3 := frz_of HB.out 3
    go_wp2
    have hat := at_four (b0 := .int .i64 2) (b1 := .string ⟨#[123]⟩) (b2 := .int .i64 k) (b3 := .int .i64 ((k : Int) + 1)) HB.out
    refine bodyPost_ret (results_cell_row rfl _ _ w.heap.size 137 _ (0, 0) _ rfl hat Tryz.underlying137 rfl (by kernel_rfl)) rfl ?_
    exact ⟨by rw [HF.out]; simp [rtV], ext_four HX.out (Nat.le_refl _)⟩
   have t123 : ((s[k].toNat : Int) == 123) = false := u8_ne (n := 123) e123
   by_cases e125 : s[k] = 125
   ·have t125 : ((s[k].toNat : Int) == 125) = true := by rw [e125]; rfl
    have HF := hid (show NX = some (3, [125], 1) from by rw [HNS.out, e125]; rfl)
    clear e125
    have r0 := HB.out.cell 0 _ rfl
    have r1 := HB.out.cell 1 _ rfl
    have r2 := HB.out.cell 2 _ rfl
    have r3 := HB.out.cell 3 _ rfl
    have u0 := frz_of HB.out 0
    have u1 := frz_of HB.out 1
    have u2 := frz_of HB.out 2
    have u3 := frz_of HB.out 3
    go_wp2
    have hat := at_four (b0 := .int .i64 3) (b1 := .string ⟨#[125]⟩) (b2 := .int .i64 k) (b3 := .int .i64 ((k : Int) + 1)) HB.out
    refine bodyPost_ret (results_cell_row rfl _ _ w.heap.size 137 _ (0, 0) _ rfl hat Tryz.underlying137 rfl (by kernel_rfl)) rfl ?_
    exact ⟨by rw [HF.out]; simp [rtV], ext_four HX.out (Nat.le_refl _)⟩
   have t125 : ((s[k].toNat : Int) == 125) = false := u8_ne (n := 125) e125
   by_cases e44 : s[k] = 44
   ·have t44 : ((s[k].toNat : Int) == 44) = true := by rw [e44]; rfl
    have HF := hid (show NX = some (8, [44], 1) from by rw [HNS.out, e44]; rfl)
    clear e44
    have r0 := HB.out.cell 0 _ rfl
    have r1 := HB.out.cell 1 _ rfl
    have r2 := HB.out.cell 2 _ rfl
    have r3 := HB.out.cell 3 _ rfl
    have u0 := frz_of HB.out 0
    have u1 := frz_of HB.out 1
    have u2 := frz_of HB.out 2
    have u3 := frz_of HB.out 3
    go_wp2
    have hat := at_four (b0 := .int .i64 8) (b1 := .string ⟨#[44]⟩) (b2 := .int .i64 k) (b3 := .int .i64 ((k : Int) + 1)) HB.out
    refine bodyPost_ret (results_cell_row rfl _ _ w.heap.size 137 _ (0, 0) _ rfl hat Tryz.underlying137 rfl (by kernel_rfl)) rfl ?_
    exact ⟨by rw [HF.out]; simp [rtV], ext_four HX.out (Nat.le_refl _)⟩
   have t44 : ((s[k].toNat : Int) == 44) = false := u8_ne (n := 44) e44
   have HF := hid (show NX = none from by rw [HNS.out, if_neg (by simpa using e123), if_neg (by simpa using e125), if_neg (by simpa using e44)])
   clear e123 e125 e44
   have r0 := HB.out.cell 0 _ rfl
   have r1 := HB.out.cell 1 _ rfl
   have r2 := HB.out.cell 2 _ rfl
   have r3 := HB.out.cell 3 _ rfl
   have u0 := frz_of HB.out 0
   have u1 := frz_of HB.out 1
   have u2 := frz_of HB.out 2
   have u3 := frz_of HB.out 3
   go_wp2
   have hat := at_four (b0 := .int .i64 0) (b1 := .string ⟨#[]⟩) (b2 := .int .i64 0) (b3 := .int .i64 0) HB.out
   refine bodyPost_ret (results_cell_row rfl _ _ w.heap.size 137 _ (0, 0) _ rfl hat Tryz.underlying137 rfl (by kernel_rfl)) rfl ?_
   exact ⟨by rw [HF.out]; simp [rtV], ext_four HX.out (Nat.le_refl _)⟩
def mkP (e : Bool) (nm rest : By) : Option (Nat × By × Nat) :=
 if nameB nm = true then (if rest.head? = some 62 then some (if e then (6, nm, nm.length + 3) else (5, nm, nm.length + 2)) else if e = false ∧ rest.take 2 = [47, 62] then some (7, nm, nm.length + 3) else none) else none
theorem elem_start' {r : By} (h : ¬ r.head? = some 47) : elemP r = mkP false (r.takeWhile innerB) (r.drop (r.takeWhile innerB).length) := by
 have hb : (r.head? == some 47) = false := by rw [beq_eq_false_iff_ne]; exact h
 unfold elemP mkP
 simp only [hb, Bool.false_eq_true, if_false]
theorem elem_stop' {r q : By} (h : r = 47 :: q) : elemP r = mkP true (q.takeWhile innerB) (q.drop (q.takeWhile innerB).length) := by
 have hb : (r.head? == some 47) = true := by rw [h]; rfl
 have hd : r.drop 1 = q := by rw [h]; rfl
 unfold elemP mkP
 simp only [hb, hd, if_true]
theorem tw_cons {c : UInt8} {r : By} (h : innerB c = true) : ((c :: r).takeWhile innerB) = c :: r.takeWhile innerB := by
 rw [List.takeWhile_cons, if_pos h]
theorem tw_no {c : UInt8} {r : By} (h : innerB c = false) : ((c :: r).takeWhile innerB) = [] := by
 rw [List.takeWhile_cons, if_neg (by rw [h]; decide)]
def MkI (s : ByteArray) (f : Nat) (W0 : World) (i : Value) (wr : World) : Prop := ∃ k : Nat, f ≤ k ∧ k ≤ s.size ∧ i = .int .i64 k ∧ ((s.data.toList.drop f).takeWhile innerB).length = (k - f) + ((s.data.toList.drop k).takeWhile innerB).length ∧ wr = W0
theorem take_tw (p : UInt8 → Bool) : ∀ l : By, l.take (l.takeWhile p).length = l.takeWhile p
 | [] => rfl
 | c :: r => by
   cases h : p c with
   | true => rw [List.takeWhile_cons, if_pos h, List.length_cons, List.take_succ_cons, take_tw p r]
   | false => rw [List.takeWhile_cons, if_neg (by rw [h]; decide)]; rfl
theorem mk_name {s : ByteArray} {f k : Nat} (hfk : f ≤ k) (h : ((s.data.toList.drop f).takeWhile innerB).length = k - f) : s.extract f k = ⟨((s.data.toList.drop f).takeWhile innerB).toArray⟩ ∧ (s.data.toList.drop f).drop ((s.data.toList.drop f).takeWhile innerB).length = s.data.toList.drop k := by
 constructor
 ·rw [ext_ba, ← h, take_tw]
 ·rw [h, List.drop_drop, show f + (k - f) = k from by omega]
set_option maxHeartbeats 8000000 in
theorem rmark_any (s : ByteArray) (a : Nat) (w : World) (hs : s.size ≤ 1048576) (ha : a < s.size) : Calls Tryz.prog 142 #[.string s, .int .i64 a] w fun e w' => e = .returned (rtV a (if s[a] = 60 then elemP (s.data.toList.drop (a + 1)) else none)) ∧ Ext w w' := by
 obtain ⟨NX, hNX⟩ : ∃ NX, NX = (if s[a] = 60 then elemP (s.data.toList.drop (a + 1)) else none) := ⟨_, rfl⟩
 rw [← hNX]
 have HNX := hid hNX
 have haI : (a : Int) < (s.size : Int) := by omega
 have HDA := hid (drop_at ha)
 clear hNX
 by_cases h1 : a + 1 < s.size
 rotate_left
 ·have h1I : ¬ (a : Int) + 1 < (s.size : Int) := by omega
  have HSL := hid (show ¬ (s.data.toList.drop (a + 1)).head? = some 47 from by rw [show s.data.toList.drop (a + 1) = [] from List.drop_eq_nil_of_le (by rw [size_list]; omega)]; decide)
  go_enter Tryz.func142, Tryz.ntmps142
  go_wp2_with fail
  have HB := hid (AtC.new w #[.int .i64 0, .string ⟨#[]⟩, .int .i64 0, .int .i64 0] : AtC 137 _ _ _)
  have HX := hid ((Ext.refl w).alloc (.cells #[.int .i64 0, .string ⟨#[]⟩, .int .i64 0, .int .i64 0] 137))
  generalize w.alloc (.cells #[.int .i64 0, .string ⟨#[]⟩, .int .i64 0, .int .i64 0] 137) = W0 at *
  go_loopw [7] (MkI s (a + 1) W0) (fun i _ => s.size - (intOf i).toNat)
  case atStart => exact ⟨a + 1, Nat.le_refl _, by omega, by first | rfl | go_num, by rw [Nat.sub_self, Nat.zero_add], rfl⟩
  case round =>
   obtain ⟨k, hfk, hk, rfl, hq, rfl⟩ := hrel
   have HQ := hid hq
   have HFK := hid hfk
   clear hq
   have hmn : (min ((a : Int) + 1) (s.size : Int)).toNat = a + 1 := by omega
   by_cases hks : k < s.size
   rotate_left
   ·have hkI : ¬ (k : Int) < (s.size : Int) := by omega
    have hkJ : (s.size : Int) ≤ (k : Int) := by omega
    have HW := hid (show ((s.data.toList.drop (a + 1)).takeWhile innerB).length = k - (a + 1) from by rw [HQ.out, show s.data.toList.drop k = [] from List.drop_eq_nil_of_le (by rw [size_list]; omega)]; rfl)
    obtain ⟨hn1, hn2⟩ := mk_name HFK.out HW.out
    obtain ⟨NM, hNM⟩ : ∃ NM, NM = (s.data.toList.drop (a + 1)).takeWhile innerB := ⟨_, rfl⟩
    have HE := hid (show elemP (s.data.toList.drop (a + 1)) = mkP false NM (s.data.toList.drop k) from by rw [hNM, ← hn2]; exact elem_start' HSL.out)
    have HL := hid (show NM.length = k - (a + 1) from by rw [hNM]; exact HW.out)
    rw [← hNM] at hn1
    have KNM := hid (fun W => rname_any (s.extract (a + 1) k) W (by rw [hn1]; unfold maxLen; show NM.length ≤ _; have := HL.out; omega))
    rw [hn1] at KNM
    rw [show (⟨NM.toArray⟩ : ByteArray).data.toList = NM from rfl] at KNM
    clear hNM hn2
    have HRE := hid (show s.data.toList.drop k = [] from List.drop_eq_nil_of_le (by rw [size_list]; omega))
    have hx1 : ((a + 1 : Nat) : Int) ≤ (k : Int) := by omega
    have hx2 : (k : Int) ≤ (s.size : Int) := by omega
    by_cases c60 : s[a] = 60
    rotate_left
    ·have b60 : ((s[a].toNat : Int) != 60) = true := u8_bne (n := 60) c60
     have HF := hid (show NX = none from by rw [HNX.out, if_neg c60])
     clear c60
     have r0 := HB.out.cell 0 _ rfl
     have r1 := HB.out.cell 1 _ rfl
     have r2 := HB.out.cell 2 _ rfl
     have r3 := HB.out.cell 3 _ rfl
     have u0 := frz_of HB.out 0
     have u1 := frz_of HB.out 1
     have u2 := frz_of HB.out 2
     have u3 := frz_of HB.out 3
     go_wp2_with (with_reducible refine (KNM.out _).mono ?_; rintro e w3 ⟨rfl, rfl⟩)
     have hat := at_four (b0 := .int .i64 0) (b1 := .string ⟨#[]⟩) (b2 := .int .i64 0) (b3 := .int .i64 0) HB.out
     refine bodyPost_ret (results_cell_row rfl _ _ w.heap.size 137 _ (0, 0) _ rfl hat Tryz.underlying137 rfl (by kernel_rfl)) rfl ?_
     exact ⟨by rw [HF.out]; simp [rtV], ext_four HX.out (Nat.le_refl _)⟩
    have b60 : ((s[a].toNat : Int) != 60) = false := by rw [c60]; rfl
    have HE2 := hid (show NX = mkP false NM (s.data.toList.drop k) from by rw [HNX.out, if_pos c60, HE.out])
    clear c60
    cases nb : nameB NM
    ·rw [nb] at KNM
     have HF := hid (show NX = none from by rw [HE2.out, mkP, if_neg (by rw [nb]; decide)])
     clear nb
     have r0 := HB.out.cell 0 _ rfl
     have r1 := HB.out.cell 1 _ rfl
     have r2 := HB.out.cell 2 _ rfl
     have r3 := HB.out.cell 3 _ rfl
     have u0 := frz_of HB.out 0
     have u1 := frz_of HB.out 1
     have u2 := frz_of HB.out 2
     have u3 := frz_of HB.out 3
     go_wp2_with (with_reducible refine (KNM.out _).mono ?_; rintro e w3 ⟨rfl, rfl⟩)
     have hat := at_four (b0 := .int .i64 0) (b1 := .string ⟨#[]⟩) (b2 := .int .i64 0) (b3 := .int .i64 0) HB.out
     refine bodyPost_ret (results_cell_row rfl _ _ w.heap.size 137 _ (0, 0) _ rfl hat Tryz.underlying137 rfl (by kernel_rfl)) rfl ?_
     exact ⟨by rw [HF.out]; simp [rtV], ext_four HX.out (Nat.le_refl _)⟩
    rw [nb] at KNM
    have HF := hid (show NX = none from by rw [HE2.out, mkP, if_pos nb, HRE.out]; simp)
    clear nb
    have r0 := HB.out.cell 0 _ rfl
    have r1 := HB.out.cell 1 _ rfl
    have r2 := HB.out.cell 2 _ rfl
    have r3 := HB.out.cell 3 _ rfl
    have u0 := frz_of HB.out 0
    have u1 := frz_of HB.out 1
    have u2 := frz_of HB.out 2
    have u3 := frz_of HB.out 3
    go_wp2_with (with_reducible refine (KNM.out _).mono ?_; rintro e w3 ⟨rfl, rfl⟩)
    have hat := at_four (b0 := .int .i64 0) (b1 := .string ⟨#[]⟩) (b2 := .int .i64 0) (b3 := .int .i64 0) HB.out
    refine bodyPost_ret (results_cell_row rfl _ _ w.heap.size 137 _ (0, 0) _ rfl hat Tryz.underlying137 rfl (by kernel_rfl)) rfl ?_
    exact ⟨by rw [HF.out]; simp [rtV], ext_four HX.out (Nat.le_refl _)⟩
   exact absurd hks (by omega)
 have h1I : (a : Int) + 1 < (s.size : Int) := by omega
 have HD0 := hid (drop_at h1)
 by_cases e47 : s[a + 1] = 47
 ·have e47b : ((s[a + 1].toNat : Int) == 47) = true := by rw [e47]; rfl
  have HSL := hid (show s.data.toList.drop (a + 1) = 47 :: s.data.toList.drop (a + 2) from by rw [HD0.out, e47])
  clear e47
  go_enter Tryz.func142, Tryz.ntmps142
  go_wp2_with fail
  have HB := hid (AtC.new w #[.int .i64 0, .string ⟨#[]⟩, .int .i64 0, .int .i64 0] : AtC 137 _ _ _)
  have HX := hid ((Ext.refl w).alloc (.cells #[.int .i64 0, .string ⟨#[]⟩, .int .i64 0, .int .i64 0] 137))
  generalize w.alloc (.cells #[.int .i64 0, .string ⟨#[]⟩, .int .i64 0, .int .i64 0] 137) = W0 at *
  go_loopw [7] (MkI s (a + 2) W0) (fun i _ => s.size - (intOf i).toNat)
  case atStart => exact ⟨a + 2, Nat.le_refl _, by omega, by first | rfl | go_num, by rw [Nat.sub_self, Nat.zero_add], rfl⟩
  case round =>
   obtain ⟨k, hfk, hk, rfl, hq, rfl⟩ := hrel
   have HQ := hid hq
   have HFK := hid hfk
   clear hq
   have hmn : (min ((a : Int) + 1 + 1) (s.size : Int)).toNat = a + 2 := by omega
   by_cases hks : k < s.size
   rotate_left
   ·have hkI : ¬ (k : Int) < (s.size : Int) := by omega
    have hkJ : (s.size : Int) ≤ (k : Int) := by omega
    have HW := hid (show ((s.data.toList.drop (a + 2)).takeWhile innerB).length = k - (a + 2) from by rw [HQ.out, show s.data.toList.drop k = [] from List.drop_eq_nil_of_le (by rw [size_list]; omega)]; rfl)
    obtain ⟨hn1, hn2⟩ := mk_name HFK.out HW.out
    obtain ⟨NM, hNM⟩ : ∃ NM, NM = (s.data.toList.drop (a + 2)).takeWhile innerB := ⟨_, rfl⟩
    have HE := hid (show elemP (s.data.toList.drop (a + 1)) = mkP true NM (s.data.toList.drop k) from by rw [hNM, ← hn2]; exact elem_stop' HSL.out)
    have HL := hid (show NM.length = k - (a + 2) from by rw [hNM]; exact HW.out)
    rw [← hNM] at hn1
    have KNM := hid (fun W => rname_any (s.extract (a + 2) k) W (by rw [hn1]; unfold maxLen; show NM.length ≤ _; have := HL.out; omega))
    rw [hn1] at KNM
    rw [show (⟨NM.toArray⟩ : ByteArray).data.toList = NM from rfl] at KNM
    clear hNM hn2
    have HRE := hid (show s.data.toList.drop k = [] from List.drop_eq_nil_of_le (by rw [size_list]; omega))
    have hx1 : ((a + 2 : Nat) : Int) ≤ (k : Int) := by omega
    have hx2 : (k : Int) ≤ (s.size : Int) := by omega
    by_cases c60 : s[a] = 60
    rotate_left
    ·have b60 : ((s[a].toNat : Int) != 60) = true := u8_bne (n := 60) c60
     have HF := hid (show NX = none from by rw [HNX.out, if_neg c60])
     clear c60
     have r0 := HB.out.cell 0 _ rfl
     have r1 := HB.out.cell 1 _ rfl
     have r2 := HB.out.cell 2 _ rfl
     have r3 := HB.out.cell 3 _ rfl
     have u0 := frz_of HB.out 0
     have u1 := frz_of HB.out 1
     have u2 := frz_of HB.out 2
     have u3 := frz_of HB.out 3
     go_wp2_with (with_reducible refine (KNM.out _).mono ?_; rintro e w3 ⟨rfl, rfl⟩)
     have hat := at_four (b0 := .int .i64 0) (b1 := .string ⟨#[]⟩) (b2 := .int .i64 0) (b3 := .int .i64 0) HB.out
     refine bodyPost_ret (results_cell_row rfl _ _ w.heap.size 137 _ (0, 0) _ rfl hat Tryz.underlying137 rfl (by kernel_rfl)) rfl ?_
     exact ⟨by rw [HF.out]; simp [rtV], ext_four HX.out (Nat.le_refl _)⟩
    have b60 : ((s[a].toNat : Int) != 60) = false := by rw [c60]; rfl
    have HE2 := hid (show NX = mkP true NM (s.data.toList.drop k) from by rw [HNX.out, if_pos c60, HE.out])
    clear c60
    cases nb : nameB NM
    ·rw [nb] at KNM
     have HF := hid (show NX = none from by rw [HE2.out, mkP, if_neg (by rw [nb]; decide)])
     clear nb
     have r0 := HB.out.cell 0 _ rfl
     have r1 := HB.out.cell 1 _ rfl
     have r2 := HB.out.cell 2 _ rfl
     have r3 := HB.out.cell 3 _ rfl
     have u0 := frz_of HB.out 0
     have u1 := frz_of HB.out 1
     have u2 := frz_of HB.out 2
     have u3 := frz_of HB.out 3
     go_wp2_with (with_reducible refine (KNM.out _).mono ?_; rintro e w3 ⟨rfl, rfl⟩)
     have hat := at_four (b0 := .int .i64 0) (b1 := .string ⟨#[]⟩) (b2 := .int .i64 0) (b3 := .int .i64 0) HB.out
     refine bodyPost_ret (results_cell_row rfl _ _ w.heap.size 137 _ (0, 0) _ rfl hat Tryz.underlying137 rfl (by kernel_rfl)) rfl ?_
     exact ⟨by rw [HF.out]; simp [rtV], ext_four HX.out (Nat.le_refl _)⟩
    rw [nb] at KNM
    have HF := hid (show NX = none from by rw [HE2.out, mkP, if_pos nb, HRE.out]; simp)
    clear nb
    have r0 := HB.out.cell 0 _ rfl
    have r1 := HB.out.cell 1 _ rfl
    have r2 := HB.out.cell 2 _ rfl
    have r3 := HB.out.cell 3 _ rfl
    have u0 := frz_of HB.out 0
    have u1 := frz_of HB.out 1
    have u2 := frz_of HB.out 2
    have u3 := frz_of HB.out 3
    go_wp2_with (with_reducible refine (KNM.out _).mono ?_; rintro e w3 ⟨rfl, rfl⟩)
    have hat := at_four (b0 := .int .i64 0) (b1 := .string ⟨#[]⟩) (b2 := .int .i64 0) (b3 := .int .i64 0) HB.out
    refine bodyPost_ret (results_cell_row rfl _ _ w.heap.size 137 _ (0, 0) _ rfl hat Tryz.underlying137 rfl (by kernel_rfl)) rfl ?_
    exact ⟨by rw [HF.out]; simp [rtV], ext_four HX.out (Nat.le_refl _)⟩
   have hkI : (k : Int) < (s.size : Int) := by omega
   have hkJ : ¬ (s.size : Int) ≤ (k : Int) := by omega
   have HD := hid (drop_at hks)
   have HK := hid (fun W => rinner_any s[k] W)
   cases hc : innerB s[k]
   rotate_left
   ·have HF := hid (show ((s.data.toList.drop (a + 2)).takeWhile innerB).length = (k + 1 - (a + 2)) + ((s.data.toList.drop (k + 1)).takeWhile innerB).length from by rw [HQ.out, HD.out, tw_cons hc, List.length_cons]; omega)
    rw [hc] at HK
    clear hc
    go_wp2_with fail
    refine (HK.out _).mono ?_
    rintro e w2 ⟨rfl, rfl⟩
    go_wp2
    exact ⟨⟨k + 1, by omega, hks, by go_num, HF.out, rfl⟩, by simp [intOf]; omega⟩
   have HW := hid (show ((s.data.toList.drop (a + 2)).takeWhile innerB).length = k - (a + 2) from by rw [HQ.out, HD.out, tw_no hc]; rfl)
   obtain ⟨hn1, hn2⟩ := mk_name HFK.out HW.out
   obtain ⟨NM, hNM⟩ : ∃ NM, NM = (s.data.toList.drop (a + 2)).takeWhile innerB := ⟨_, rfl⟩
   have HE := hid (show elemP (s.data.toList.drop (a + 1)) = mkP true NM (s.data.toList.drop k) from by rw [hNM, ← hn2]; exact elem_stop' HSL.out)
   have HL := hid (show NM.length = k - (a + 2) from by rw [hNM]; exact HW.out)
   rw [← hNM] at hn1
   have KNM := hid (fun W => rname_any (s.extract (a + 2) k) W (by rw [hn1]; unfold maxLen; show NM.length ≤ _; have := HL.out; omega))
   rw [hn1] at KNM
   rw [show (⟨NM.toArray⟩ : ByteArray).data.toList = NM from rfl] at KNM
   clear hNM hn2
   rw [hc] at HK
   clear hc
   have HRE := HD
   have hx1 : ((a + 2 : Nat) : Int) ≤ (k : Int) := by omega
   have hx2 : (k : Int) ≤ (s.size : Int) := by omega
   by_cases c60 : s[a] = 60
   rotate_left
   ·have b60 : ((s[a].toNat : Int) != 60) = true := u8_bne (n := 60) c60
    have HF := hid (show NX = none from by rw [HNX.out, if_neg c60])
    clear c60
    have r0 := HB.out.cell 0 _ rfl
    have r1 := HB.out.cell 1 _ rfl
    have r2 := HB.out.cell 2 _ rfl
    have r3 := HB.out.cell 3 _ rfl
    have u0 := frz_of HB.out 0
    have u1 := frz_of HB.out 1
    have u2 := frz_of HB.out 2
    have u3 := frz_of HB.out 3
    go_wp2_with (first | (with_reducible refine (HK.out _).mono ?_; rintro e w2 ⟨rfl, rfl⟩) | (with_reducible refine (KNM.out _).mono ?_; rintro e w3 ⟨rfl, rfl⟩))
    have hat := at_four (b0 := .int .i64 0) (b1 := .string ⟨#[]⟩) (b2 := .int .i64 0) (b3 := .int .i64 0) HB.out
    refine bodyPost_ret (results_cell_row rfl _ _ w.heap.size 137 _ (0, 0) _ rfl hat Tryz.underlying137 rfl (by kernel_rfl)) rfl ?_
    exact ⟨by rw [HF.out]; simp [rtV], ext_four HX.out (Nat.le_refl _)⟩
   have b60 : ((s[a].toNat : Int) != 60) = false := by rw [c60]; rfl
   have HE2 := hid (show NX = mkP true NM (s.data.toList.drop k) from by rw [HNX.out, if_pos c60, HE.out])
   clear c60
   cases nb : nameB NM
   ·rw [nb] at KNM
    have HF := hid (show NX = none from by rw [HE2.out, mkP, if_neg (by rw [nb]; decide)])
    clear nb
    have r0 := HB.out.cell 0 _ rfl
    have r1 := HB.out.cell 1 _ rfl
    have r2 := HB.out.cell 2 _ rfl
    have r3 := HB.out.cell 3 _ rfl
    have u0 := frz_of HB.out 0
    have u1 := frz_of HB.out 1
    have u2 := frz_of HB.out 2
    have u3 := frz_of HB.out 3
    go_wp2_with (first | (with_reducible refine (HK.out _).mono ?_; rintro e w2 ⟨rfl, rfl⟩) | (with_reducible refine (KNM.out _).mono ?_; rintro e w3 ⟨rfl, rfl⟩))
    have hat := at_four (b0 := .int .i64 0) (b1 := .string ⟨#[]⟩) (b2 := .int .i64 0) (b3 := .int .i64 0) HB.out
    refine bodyPost_ret (results_cell_row rfl _ _ w.heap.size 137 _ (0, 0) _ rfl hat Tryz.underlying137 rfl (by kernel_rfl)) rfl ?_
    exact ⟨by rw [HF.out]; simp [rtV], ext_four HX.out (Nat.le_refl _)⟩
   rw [nb] at KNM
   by_cases c62 : s[k] = 62
   ·have b62 : ((s[k].toNat : Int) != 62) = false := by rw [c62]; rfl
    have HF := hid (show NX = some (6, NM, NM.length + 3) from by
     rw [HE2.out, mkP, if_pos nb, HRE.out, c62]
     simp)
    clear c62 nb
    have r0 := HB.out.cell 0 _ rfl
    have r1 := HB.out.cell 1 _ rfl
    have r2 := HB.out.cell 2 _ rfl
    have r3 := HB.out.cell 3 _ rfl
    have u0 := frz_of HB.out 0
    have u1 := frz_of HB.out 1
    have u2 := frz_of HB.out 2
    have u3 := frz_of HB.out 3
    go_wp2_with (first | (with_reducible refine (HK.out _).mono ?_; rintro e w2 ⟨rfl, rfl⟩) | (with_reducible refine (KNM.out _).mono ?_; rintro e w3 ⟨rfl, rfl⟩))
    have hat := at_four (b0 := .int .i64 6) (b1 := .string ⟨NM.toArray⟩) (b2 := .int .i64 a) (b3 := .int .i64 ((k : Int) + 1)) HB.out
    refine bodyPost_ret (results_cell_row rfl _ _ w.heap.size 137 _ (0, 0) _ rfl hat Tryz.underlying137 rfl (by kernel_rfl)) rfl ?_
    exact ⟨by rw [HF.out]; simp [rtV]; have := HL.out; have := HFK.out; omega, ext_four HX.out (Nat.le_refl _)⟩
   have b62 : ((s[k].toNat : Int) != 62) = true := u8_bne (n := 62) c62
   have HF := hid (show NX = none from by
    rw [HE2.out, mkP, if_pos nb, HRE.out]
    simp [c62])
   clear c62 nb
   have r0 := HB.out.cell 0 _ rfl
   have r1 := HB.out.cell 1 _ rfl
   have r2 := HB.out.cell 2 _ rfl
   have r3 := HB.out.cell 3 _ rfl
   have u0 := frz_of HB.out 0
   have u1 := frz_of HB.out 1
   have u2 := frz_of HB.out 2
   have u3 := frz_of HB.out 3
   go_wp2_with (first | (with_reducible refine (HK.out _).mono ?_; rintro e w2 ⟨rfl, rfl⟩) | (with_reducible refine (KNM.out _).mono ?_; rintro e w3 ⟨rfl, rfl⟩))
   have hat := at_four (b0 := .int .i64 0) (b1 := .string ⟨#[]⟩) (b2 := .int .i64 0) (b3 := .int .i64 0) HB.out
   refine bodyPost_ret (results_cell_row rfl _ _ w.heap.size 137 _ (0, 0) _ rfl hat Tryz.underlying137 rfl (by kernel_rfl)) rfl ?_
   exact ⟨by rw [HF.out]; simp [rtV], ext_four HX.out (Nat.le_refl _)⟩
 have e47b : ((s[a + 1].toNat : Int) == 47) = false := u8_ne (n := 47) e47
 have HSL := hid (show ¬ (s.data.toList.drop (a + 1)).head? = some 47 from by rw [HD0.out]; simp [e47])
 clear e47
 go_enter Tryz.func142, Tryz.ntmps142
 go_wp2_with fail
 have HB := hid (AtC.new w #[.int .i64 0, .string ⟨#[]⟩, .int .i64 0, .int .i64 0] : AtC 137 _ _ _)
 have HX := hid ((Ext.refl w).alloc (.cells #[.int .i64 0, .string ⟨#[]⟩, .int .i64 0, .int .i64 0] 137))
 generalize w.alloc (.cells #[.int .i64 0, .string ⟨#[]⟩, .int .i64 0, .int .i64 0] 137) = W0 at *
 go_loopw [7] (MkI s (a + 1) W0) (fun i _ => s.size - (intOf i).toNat)
 case atStart => exact ⟨a + 1, Nat.le_refl _, by omega, by first | rfl | go_num, by rw [Nat.sub_self, Nat.zero_add], rfl⟩
 case round =>
  obtain ⟨k, hfk, hk, rfl, hq, rfl⟩ := hrel
  have HQ := hid hq
  have HFK := hid hfk
  clear hq
  have hmn : (min ((a : Int) + 1) (s.size : Int)).toNat = a + 1 := by omega
  by_cases hks : k < s.size
  rotate_left
  ·have hkI : ¬ (k : Int) < (s.size : Int) := by omega
   have hkJ : (s.size : Int) ≤ (k : Int) := by omega
   have HW := hid (show ((s.data.toList.drop (a + 1)).takeWhile innerB).length = k - (a + 1) from by rw [HQ.out, show s.data.toList.drop k = [] from List.drop_eq_nil_of_le (by rw [size_list]; omega)]; rfl)
   obtain ⟨hn1, hn2⟩ := mk_name HFK.out HW.out
   obtain ⟨NM, hNM⟩ : ∃ NM, NM = (s.data.toList.drop (a + 1)).takeWhile innerB := ⟨_, rfl⟩
   have HE := hid (show elemP (s.data.toList.drop (a + 1)) = mkP false NM (s.data.toList.drop k) from by rw [hNM, ← hn2]; exact elem_start' HSL.out)
   have HL := hid (show NM.length = k - (a + 1) from by rw [hNM]; exact HW.out)
   rw [← hNM] at hn1
   have KNM := hid (fun W => rname_any (s.extract (a + 1) k) W (by rw [hn1]; unfold maxLen; show NM.length ≤ _; have := HL.out; omega))
   rw [hn1] at KNM
   rw [show (⟨NM.toArray⟩ : ByteArray).data.toList = NM from rfl] at KNM
   clear hNM hn2
   have HRE := hid (show s.data.toList.drop k = [] from List.drop_eq_nil_of_le (by rw [size_list]; omega))
   have hx1 : ((a + 1 : Nat) : Int) ≤ (k : Int) := by omega
   have hx2 : (k : Int) ≤ (s.size : Int) := by omega
   by_cases c60 : s[a] = 60
   rotate_left
   ·have b60 : ((s[a].toNat : Int) != 60) = true := u8_bne (n := 60) c60
    have HF := hid (show NX = none from by rw [HNX.out, if_neg c60])
    clear c60
    have r0 := HB.out.cell 0 _ rfl
    have r1 := HB.out.cell 1 _ rfl
    have r2 := HB.out.cell 2 _ rfl
    have r3 := HB.out.cell 3 _ rfl
    have u0 := frz_of HB.out 0
    have u1 := frz_of HB.out 1
    have u2 := frz_of HB.out 2
    have u3 := frz_of HB.out 3
    go_wp2_with (with_reducible refine (KNM.out _).mono ?_; rintro e w3 ⟨rfl, rfl⟩)
    have hat := at_four (b0 := .int .i64 0) (b1 := .string ⟨#[]⟩) (b2 := .int .i64 0) (b3 := .int .i64 0) HB.out
    refine bodyPost_ret (results_cell_row rfl _ _ w.heap.size 137 _ (0, 0) _ rfl hat Tryz.underlying137 rfl (by kernel_rfl)) rfl ?_
    exact ⟨by rw [HF.out]; simp [rtV], ext_four HX.out (Nat.le_refl _)⟩
   have b60 : ((s[a].toNat : Int) != 60) = false := by rw [c60]; rfl
   have HE2 := hid (show NX = mkP false NM (s.data.toList.drop k) from by rw [HNX.out, if_pos c60, HE.out])
   clear c60
   cases nb : nameB NM
   ·rw [nb] at KNM
    have HF := hid (show NX = none from by rw [HE2.out, mkP, if_neg (by rw [nb]; decide)])
    clear nb
    have r0 := HB.out.cell 0 _ rfl
    have r1 := HB.out.cell 1 _ rfl
    have r2 := HB.out.cell 2 _ rfl
    have r3 := HB.out.cell 3 _ rfl
    have u0 := frz_of HB.out 0
    have u1 := frz_of HB.out 1
    have u2 := frz_of HB.out 2
    have u3 := frz_of HB.out 3
    go_wp2_with (with_reducible refine (KNM.out _).mono ?_; rintro e w3 ⟨rfl, rfl⟩)
    have hat := at_four (b0 := .int .i64 0) (b1 := .string ⟨#[]⟩) (b2 := .int .i64 0) (b3 := .int .i64 0) HB.out
    refine bodyPost_ret (results_cell_row rfl _ _ w.heap.size 137 _ (0, 0) _ rfl hat Tryz.underlying137 rfl (by kernel_rfl)) rfl ?_
    exact ⟨by rw [HF.out]; simp [rtV], ext_four HX.out (Nat.le_refl _)⟩
   rw [nb] at KNM
   have HF := hid (show NX = none from by rw [HE2.out, mkP, if_pos nb, HRE.out]; simp)
   clear nb
   have r0 := HB.out.cell 0 _ rfl
   have r1 := HB.out.cell 1 _ rfl
   have r2 := HB.out.cell 2 _ rfl
   have r3 := HB.out.cell 3 _ rfl
   have u0 := frz_of HB.out 0
   have u1 := frz_of HB.out 1
   have u2 := frz_of HB.out 2
   have u3 := frz_of HB.out 3
   go_wp2_with (with_reducible refine (KNM.out _).mono ?_; rintro e w3 ⟨rfl, rfl⟩)
   have hat := at_four (b0 := .int .i64 0) (b1 := .string ⟨#[]⟩) (b2 := .int .i64 0) (b3 := .int .i64 0) HB.out
   refine bodyPost_ret (results_cell_row rfl _ _ w.heap.size 137 _ (0, 0) _ rfl hat Tryz.underlying137 rfl (by kernel_rfl)) rfl ?_
   exact ⟨by rw [HF.out]; simp [rtV], ext_four HX.out (Nat.le_refl _)⟩
  have hkI : (k : Int) < (s.size : Int) := by omega
  have hkJ : ¬ (s.size : Int) ≤ (k : Int) := by omega
  have HD := hid (drop_at hks)
  have HK := hid (fun W => rinner_any s[k] W)
  cases hc : innerB s[k]
  rotate_left
  ·have HF := hid (show ((s.data.toList.drop (a + 1)).takeWhile innerB).length = (k + 1 - (a + 1)) + ((s.data.toList.drop (k + 1)).takeWhile innerB).length from by rw [HQ.out, HD.out, tw_cons hc, List.length_cons]; omega)
   rw [hc] at HK
   clear hc
   go_wp2_with fail
   refine (HK.out _).mono ?_
   rintro e w2 ⟨rfl, rfl⟩
   go_wp2
   exact ⟨⟨k + 1, by omega, hks, by go_num, HF.out, rfl⟩, by simp [intOf]; omega⟩
  have HW := hid (show ((s.data.toList.drop (a + 1)).takeWhile innerB).length = k - (a + 1) from by rw [HQ.out, HD.out, tw_no hc]; rfl)
  obtain ⟨hn1, hn2⟩ := mk_name HFK.out HW.out
  obtain ⟨NM, hNM⟩ : ∃ NM, NM = (s.data.toList.drop (a + 1)).takeWhile innerB := ⟨_, rfl⟩
  have HE := hid (show elemP (s.data.toList.drop (a + 1)) = mkP false NM (s.data.toList.drop k) from by rw [hNM, ← hn2]; exact elem_start' HSL.out)
  have HL := hid (show NM.length = k - (a + 1) from by rw [hNM]; exact HW.out)
  rw [← hNM] at hn1
  have KNM := hid (fun W => rname_any (s.extract (a + 1) k) W (by rw [hn1]; unfold maxLen; show NM.length ≤ _; have := HL.out; omega))
  rw [hn1] at KNM
  rw [show (⟨NM.toArray⟩ : ByteArray).data.toList = NM from rfl] at KNM
  clear hNM hn2
  rw [hc] at HK
  clear hc
  have HRE := HD
  have hx1 : ((a + 1 : Nat) : Int) ≤ (k : Int) := by omega
  have hx2 : (k : Int) ≤ (s.size : Int) := by omega
  by_cases c47 : s[k] = 47
  ·have b47 : ((s[k].toNat : Int) == 47) = true := by rw [c47]; rfl
   have HRE := hid (show s.data.toList.drop k = 47 :: s.data.toList.drop (k + 1) from by rw [HD.out, c47])
   clear c47
   by_cases c60 : s[a] = 60
   rotate_left
   ·have b60 : ((s[a].toNat : Int) != 60) = true := u8_bne (n := 60) c60
    have HF := hid (show NX = none from by rw [HNX.out, if_neg c60])
    clear c60
    have r0 := HB.out.cell 0 _ rfl
    have r1 := HB.out.cell 1 _ rfl
    have r2 := HB.out.cell 2 _ rfl
    have r3 := HB.out.cell 3 _ rfl
    have u0 := frz_of HB.out 0
    have u1 := frz_of HB.out 1
    have u2 := frz_of HB.out 2
    have u3 := frz_of HB.out 3
    go_wp2_with (first | (with_reducible refine (HK.out _).mono ?_; rintro e w2 ⟨rfl, rfl⟩) | (with_reducible refine (KNM.out _).mono ?_; rintro e w3 ⟨rfl, rfl⟩))
    have hat := at_four (b0 := .int .i64 0) (b1 := .string ⟨#[]⟩) (b2 := .int .i64 0) (b3 := .int .i64 0) HB.out
    refine bodyPost_ret (results_cell_row rfl _ _ w.heap.size 137 _ (0, 0) _ rfl hat Tryz.underlying137 rfl (by kernel_rfl)) rfl ?_
    exact ⟨by rw [HF.out]; simp [rtV], ext_four HX.out (Nat.le_refl _)⟩
   have b60 : ((s[a].toNat : Int) != 60) = false := by rw [c60]; rfl
   have HE2 := hid (show NX = mkP false NM (s.data.toList.drop k) from by rw [HNX.out, if_pos c60, HE.out])
   clear c60
   cases nb : nameB NM
   ·rw [nb] at KNM
    have HF := hid (show NX = none from by rw [HE2.out, mkP, if_neg (by rw [nb]; decide)])
    clear nb
    have r0 := HB.out.cell 0 _ rfl
    have r1 := HB.out.cell 1 _ rfl
    have r2 := HB.out.cell 2 _ rfl
    have r3 := HB.out.cell 3 _ rfl
    have u0 := frz_of HB.out 0
    have u1 := frz_of HB.out 1
    have u2 := frz_of HB.out 2
    have u3 := frz_of HB.out 3
    go_wp2_with (first | (with_reducible refine (HK.out _).mono ?_; rintro e w2 ⟨rfl, rfl⟩) | (with_reducible refine (KNM.out _).mono ?_; rintro e w3 ⟨rfl, rfl⟩))
    have hat := at_four (b0 := .int .i64 0) (b1 := .string ⟨#[]⟩) (b2 := .int .i64 0) (b3 := .int .i64 0) HB.out
    refine bodyPost_ret (results_cell_row rfl _ _ w.heap.size 137 _ (0, 0) _ rfl hat Tryz.underlying137 rfl (by kernel_rfl)) rfl ?_
    exact ⟨by rw [HF.out]; simp [rtV], ext_four HX.out (Nat.le_refl _)⟩
   rw [nb] at KNM
   by_cases hto : k + 1 < s.size
   rotate_left
   ·have htoI : (s.size : Int) ≤ (k : Int) + 1 := by omega
    have htoJ : ¬ (k : Int) + 1 < (s.size : Int) := by omega
    have HF := hid (show NX = none from by
     rw [HE2.out, mkP, if_pos nb, HRE.out, show s.data.toList.drop (k + 1) = [] from List.drop_eq_nil_of_le (by rw [size_list]; omega)]
     simp)
    clear nb
    have r0 := HB.out.cell 0 _ rfl
    have r1 := HB.out.cell 1 _ rfl
    have r2 := HB.out.cell 2 _ rfl
    have r3 := HB.out.cell 3 _ rfl
    have u0 := frz_of HB.out 0
    have u1 := frz_of HB.out 1
    have u2 := frz_of HB.out 2
    have u3 := frz_of HB.out 3
    go_wp2_with (first | (with_reducible refine (HK.out _).mono ?_; rintro e w2 ⟨rfl, rfl⟩) | (with_reducible refine (KNM.out _).mono ?_; rintro e w3 ⟨rfl, rfl⟩))
    have hat := at_four (b0 := .int .i64 0) (b1 := .string ⟨#[]⟩) (b2 := .int .i64 0) (b3 := .int .i64 0) HB.out
    refine bodyPost_ret (results_cell_row rfl _ _ w.heap.size 137 _ (0, 0) _ rfl hat Tryz.underlying137 rfl (by kernel_rfl)) rfl ?_
    exact ⟨by rw [HF.out]; simp [rtV], ext_four HX.out (Nat.le_refl _)⟩
   have htoI : ¬ (s.size : Int) ≤ (k : Int) + 1 := by omega
   have htoJ : (k : Int) + 1 < (s.size : Int) := by omega
   have HD1 := hid (drop_at hto)
   by_cases c62 : s[k + 1] = 62
   ·have b62 : ((s[k + 1].toNat : Int) != 62) = false := by rw [c62]; rfl
    have HF := hid (show NX = some (7, NM, NM.length + 3) from by
     rw [HE2.out, mkP, if_pos nb, HRE.out, HD1.out, c62]
     simp)
    clear c62 nb
    have r0 := HB.out.cell 0 _ rfl
    have r1 := HB.out.cell 1 _ rfl
    have r2 := HB.out.cell 2 _ rfl
    have r3 := HB.out.cell 3 _ rfl
    have u0 := frz_of HB.out 0
    have u1 := frz_of HB.out 1
    have u2 := frz_of HB.out 2
    have u3 := frz_of HB.out 3
    go_wp2_with (first | (with_reducible refine (HK.out _).mono ?_; rintro e w2 ⟨rfl, rfl⟩) | (with_reducible refine (KNM.out _).mono ?_; rintro e w3 ⟨rfl, rfl⟩))
    have hat := at_four (b0 := .int .i64 7) (b1 := .string ⟨NM.toArray⟩) (b2 := .int .i64 a) (b3 := .int .i64 (((k : Int) + 1) + 1)) HB.out
    refine bodyPost_ret (results_cell_row rfl _ _ w.heap.size 137 _ (0, 0) _ rfl hat Tryz.underlying137 rfl (by kernel_rfl)) rfl ?_
    exact ⟨by rw [HF.out]; simp [rtV]; have := HL.out; have := HFK.out; omega, ext_four HX.out (Nat.le_refl _)⟩
   have b62 : ((s[k + 1].toNat : Int) != 62) = true := u8_bne (n := 62) c62
   have HF := hid (show NX = none from by
    rw [HE2.out, mkP, if_pos nb, HRE.out, HD1.out]
    simp [c62])
   clear c62 nb
   have r0 := HB.out.cell 0 _ rfl
   have r1 := HB.out.cell 1 _ rfl
   have r2 := HB.out.cell 2 _ rfl
   have r3 := HB.out.cell 3 _ rfl
   have u0 := frz_of HB.out 0
   have u1 := frz_of HB.out 1
   have u2 := frz_of HB.out 2
   have u3 := frz_of HB.out 3
   go_wp2_with (first | (with_reducible refine (HK.out _).mono ?_; rintro e w2 ⟨rfl, rfl⟩) | (with_reducible refine (KNM.out _).mono ?_; rintro e w3 ⟨rfl, rfl⟩))
   have hat := at_four (b0 := .int .i64 0) (b1 := .string ⟨#[]⟩) (b2 := .int .i64 0) (b3 := .int .i64 0) HB.out
   refine bodyPost_ret (results_cell_row rfl _ _ w.heap.size 137 _ (0, 0) _ rfl hat Tryz.underlying137 rfl (by kernel_rfl)) rfl ?_
   exact ⟨by rw [HF.out]; simp [rtV], ext_four HX.out (Nat.le_refl _)⟩
  have b47 : ((s[k].toNat : Int) == 47) = false := u8_ne (n := 47) c47
  have n47 := c47
  clear c47
  by_cases c60 : s[a] = 60
  rotate_left
  ·have b60 : ((s[a].toNat : Int) != 60) = true := u8_bne (n := 60) c60
   have HF := hid (show NX = none from by rw [HNX.out, if_neg c60])
   clear c60
   have r0 := HB.out.cell 0 _ rfl
   have r1 := HB.out.cell 1 _ rfl
   have r2 := HB.out.cell 2 _ rfl
   have r3 := HB.out.cell 3 _ rfl
   have u0 := frz_of HB.out 0
   have u1 := frz_of HB.out 1
   have u2 := frz_of HB.out 2
   have u3 := frz_of HB.out 3
   go_wp2_with (first | (with_reducible refine (HK.out _).mono ?_; rintro e w2 ⟨rfl, rfl⟩) | (with_reducible refine (KNM.out _).mono ?_; rintro e w3 ⟨rfl, rfl⟩))
   have hat := at_four (b0 := .int .i64 0) (b1 := .string ⟨#[]⟩) (b2 := .int .i64 0) (b3 := .int .i64 0) HB.out
   refine bodyPost_ret (results_cell_row rfl _ _ w.heap.size 137 _ (0, 0) _ rfl hat Tryz.underlying137 rfl (by kernel_rfl)) rfl ?_
   exact ⟨by rw [HF.out]; simp [rtV], ext_four HX.out (Nat.le_refl _)⟩
  have b60 : ((s[a].toNat : Int) != 60) = false := by rw [c60]; rfl
  have HE2 := hid (show NX = mkP false NM (s.data.toList.drop k) from by rw [HNX.out, if_pos c60, HE.out])
  clear c60
  cases nb : nameB NM
  ·rw [nb] at KNM
   have HF := hid (show NX = none from by rw [HE2.out, mkP, if_neg (by rw [nb]; decide)])
   clear nb
   have r0 := HB.out.cell 0 _ rfl
   have r1 := HB.out.cell 1 _ rfl
   have r2 := HB.out.cell 2 _ rfl
   have r3 := HB.out.cell 3 _ rfl
   have u0 := frz_of HB.out 0
   have u1 := frz_of HB.out 1
   have u2 := frz_of HB.out 2
   have u3 := frz_of HB.out 3
   go_wp2_with (first | (with_reducible refine (HK.out _).mono ?_; rintro e w2 ⟨rfl, rfl⟩) | (with_reducible refine (KNM.out _).mono ?_; rintro e w3 ⟨rfl, rfl⟩))
   have hat := at_four (b0 := .int .i64 0) (b1 := .string ⟨#[]⟩) (b2 := .int .i64 0) (b3 := .int .i64 0) HB.out
   refine bodyPost_ret (results_cell_row rfl _ _ w.heap.size 137 _ (0, 0) _ rfl hat Tryz.underlying137 rfl (by kernel_rfl)) rfl ?_
   exact ⟨by rw [HF.out]; simp [rtV], ext_four HX.out (Nat.le_refl _)⟩
  rw [nb] at KNM
  by_cases c62 : s[k] = 62
  ·have b62 : ((s[k].toNat : Int) != 62) = false := by rw [c62]; rfl
   have HF := hid (show NX = some (5, NM, NM.length + 2) from by
    rw [HE2.out, mkP, if_pos nb, HRE.out, c62]
    simp)
   clear c62 nb
   have r0 := HB.out.cell 0 _ rfl
   have r1 := HB.out.cell 1 _ rfl
   have r2 := HB.out.cell 2 _ rfl
   have r3 := HB.out.cell 3 _ rfl
   have u0 := frz_of HB.out 0
   have u1 := frz_of HB.out 1
   have u2 := frz_of HB.out 2
   have u3 := frz_of HB.out 3
   go_wp2_with (first | (with_reducible refine (HK.out _).mono ?_; rintro e w2 ⟨rfl, rfl⟩) | (with_reducible refine (KNM.out _).mono ?_; rintro e w3 ⟨rfl, rfl⟩))
   have hat := at_four (b0 := .int .i64 5) (b1 := .string ⟨NM.toArray⟩) (b2 := .int .i64 a) (b3 := .int .i64 ((k : Int) + 1)) HB.out
   refine bodyPost_ret (results_cell_row rfl _ _ w.heap.size 137 _ (0, 0) _ rfl hat Tryz.underlying137 rfl (by kernel_rfl)) rfl ?_
   exact ⟨by rw [HF.out]; simp [rtV]; have := HL.out; have := HFK.out; omega, ext_four HX.out (Nat.le_refl _)⟩
  have b62 : ((s[k].toNat : Int) != 62) = true := u8_bne (n := 62) c62
  have HF := hid (show NX = none from by
   rw [HE2.out, mkP, if_pos nb, HRE.out]
   simp [c62, n47])
  clear c62 nb
  have r0 := HB.out.cell 0 _ rfl
  have r1 := HB.out.cell 1 _ rfl
  have r2 := HB.out.cell 2 _ rfl
  have r3 := HB.out.cell 3 _ rfl
  have u0 := frz_of HB.out 0
  have u1 := frz_of HB.out 1
  have u2 := frz_of HB.out 2
  have u3 := frz_of HB.out 3
  go_wp2_with (first | (with_reducible refine (HK.out _).mono ?_; rintro e w2 ⟨rfl, rfl⟩) | (with_reducible refine (KNM.out _).mono ?_; rintro e w3 ⟨rfl, rfl⟩))
  have hat := at_four (b0 := .int .i64 0) (b1 := .string ⟨#[]⟩) (b2 := .int .i64 0) (b3 := .int .i64 0) HB.out
  refine bodyPost_ret (results_cell_row rfl _ _ w.heap.size 137 _ (0, 0) _ rfl hat Tryz.underlying137 rfl (by kernel_rfl)) rfl ?_
  exact ⟨by rw [HF.out]; simp [rtV], ext_four HX.out (Nat.le_refl _)⟩
def pltP (ls : By) (d : Nat) : Option (Nat × By × Nat) := match nextP ls false with
 | some (k, x, m) => if k = 3 ∧ d = 0 then none else some (k, x, m)
 | none => none
theorem textN_first {c : UInt8} {r : By} (h : 0 < textN (c :: r)) : (c == 123) = false ∧ (c == 125) = false ∧ (c == 35) = false ∧ (c == 60) = false := by
 cases hc : specB c with
 | false =>
   unfold specB at hc
   simp only [Bool.or_eq_false_iff] at hc
   exact ⟨hc.1.1.1.1.1, hc.1.1.1.1.2, hc.1.2, hc.1.1.1.2⟩
 | true =>
   by_cases h92 : c = 92
   ·subst h92; decide
   ·rw [textN_stop hc r (fun e => absurd e h92)] at h
    exact absurd h (Nat.not_lt_zero _)
theorem plt_text {c : UInt8} {r : By} {d : Nat} (h : 0 < textN (c :: r)) : pltP (c :: r) d = some (1, (c :: r).take (textN (c :: r)), textN (c :: r)) := by
 obtain ⟨h1, h2, h3, h4⟩ := textN_first h
 unfold pltP
 simp only [nextP]
 rw [if_neg (by rw [h1]; decide), if_neg (by rw [h2]; decide), if_neg (by decide), if_neg (by rw [h3]; decide), if_neg (by rw [h4]; decide), if_neg (by omega)]
 simp
theorem plt_sign {c : UInt8} {r : By} {d : Nat} (h : textN (c :: r) = 0) : pltP (c :: r) d = if c = 123 then some (2, [123], 1) else if c = 125 then (if d = 0 then none else some (3, [125], 1)) else if c = 35 then some (4, [35], 1) else if c = 60 then elemP r else none := by
 unfold pltP
 simp only [nextP]
 by_cases h1 : c = 123
 ·subst h1; simp
 by_cases h2 : c = 125
 ·subst h2; by_cases hd : d = 0 <;> simp [hd]
 by_cases h3 : c = 35
 ·subst h3; simp
 by_cases h4 : c = 60
 ·subst h4
  simp
  cases he : elemP r with
  | none => simp
  | some y =>
    obtain ⟨k, x, m⟩ := y
    have := (elemP_some he).1
    simp
    omega
 ·simp [h1, h2, h3, h4, h]
set_option maxHeartbeats 8000000 in
theorem rplain_any (s : ByteArray) (a d : Nat) (w : World) (hs : s.size ≤ 1048576) (ha : a < s.size) : Calls Tryz.prog 113 #[.string s, .int .i64 a, .int .i64 d] w fun e w' => e = .returned (rtV a (pltP (s.data.toList.drop a) d)) ∧ Ext w w' := by
 obtain ⟨NX, hNX⟩ : ∃ NX, NX = pltP (s.data.toList.drop a) d := ⟨_, rfl⟩
 rw [← hNX]
 have HNX := hid hNX
 have haI : (a : Int) < (s.size : Int) := by omega
 have HDA := hid (drop_at ha)
 clear hNX
 obtain ⟨n, hn⟩ : ∃ n, n = textN (s.data.toList.drop a) := ⟨_, rfl⟩
 obtain ⟨te, hto⟩ : ∃ te, te = a + n := ⟨_, rfl⟩
 have KT := hid (fun W => rtext_any s a W hs (Nat.le_of_lt ha))
 rw [← hn, ← hto] at KT
 have htl : te ≤ s.size := by
  have := textN_le (s.data.toList.drop a)
  rw [List.length_drop, size_list] at this
  omega
 have HTL := hid htl
 have HN := hid hn
 have HTO := hid hto
 clear hn hto htl
 go_enter Tryz.func113, Tryz.ntmps113
 go_wp2_with fail
 have HB := hid (AtC.new w #[.int .i64 0, .string ⟨#[]⟩, .int .i64 0, .int .i64 0] : AtC 137 _ _ _)
 have HX := hid ((Ext.refl w).alloc (.cells #[.int .i64 0, .string ⟨#[]⟩, .int .i64 0, .int .i64 0] 137))
 generalize w.alloc (.cells #[.int .i64 0, .string ⟨#[]⟩, .int .i64 0, .int .i64 0] 137) = W0 at *
 refine (KT.out _).mono ?_
 rintro e w1 ⟨rfl, rfl⟩
 clear KT
 by_cases h0 : 0 < n
 ·have HF := hid (show NX = some (1, (s.data.toList.drop a).take (te - a), te - a) from by
   rw [HNX.out, HDA.out, plt_text (by rw [← HDA.out, ← HN.out]; exact h0), ← HDA.out, ← HN.out, show te - a = n from by have := HTO.out; omega])
  have HKA := hid (show a < te from by have := HTO.out; omega)
  have hsl : (a : Int) < (te : Int) := by have := HTO.out; omega
  have hsl2 : (te : Int) ≤ (s.size : Int) := by have := HTL.out; omega
  have r0 := HB.out.cell 0 _ rfl
  have r1 := HB.out.cell 1 _ rfl
  have r2 := HB.out.cell 2 _ rfl
  have r3 := HB.out.cell 3 _ rfl
  have u0 := frz_of HB.out 0
  have u1 := frz_of HB.out 1
  have u2 := frz_of HB.out 2
  have u3 := frz_of HB.out 3
  go_wp2
  have hat := at_four (b0 := .int .i64 1) (b1 := .string (s.extract a te)) (b2 := .int .i64 a) (b3 := .int .i64 te) HB.out
  refine bodyPost_ret (results_cell_row rfl _ _ w.heap.size 137 _ (0, 0) _ rfl hat Tryz.underlying137 rfl (by kernel_rfl)) rfl ?_
  exact ⟨by rw [HF.out, ext_ba]; simp [rtV]; have := HKA.out; omega, ext_four HX.out (Nat.le_refl _)⟩
 obtain rfl : te = a := by have := HTO.out; omega
 have HNS := hid (show NX = _ from HNX.out.trans ((congrArg (fun l => pltP l d) HDA.out).trans (plt_sign (d := d) (by rw [← HDA.out, ← HN.out]; omega))))
 clear h0
 by_cases e123 : s[te] = 123
 ·have t123 : ((s[te].toNat : Int) == 123) = true := by rw [e123]; rfl
  have HF := hid (show NX = some (2, [123], 1) from by rw [HNS.out, if_pos e123])
  clear e123
  have r0 := HB.out.cell 0 _ rfl
  have r1 := HB.out.cell 1 _ rfl
  have r2 := HB.out.cell 2 _ rfl
  have r3 := HB.out.cell 3 _ rfl
  have u0 := frz_of HB.out 0
  have u1 := frz_of HB.out 1
  have u2 := frz_of HB.out 2
  have u3 := frz_of HB.out 3
  go_wp2
  have hat := at_four (b0 := .int .i64 2) (b1 := .string ⟨#[123]⟩) (b2 := .int .i64 te) (b3 := .int .i64 ((te : Int) + 1)) HB.out
  refine bodyPost_ret (results_cell_row rfl _ _ w.heap.size 137 _ (0, 0) _ rfl hat Tryz.underlying137 rfl (by kernel_rfl)) rfl ?_
  exact ⟨by rw [HF.out]; simp [rtV], ext_four HX.out (Nat.le_refl _)⟩
 have t123 : ((s[te].toNat : Int) == 123) = false := u8_ne (n := 123) e123
 by_cases e125 : s[te] = 125
 ·have t125 : ((s[te].toNat : Int) == 125) = true := by rw [e125]; rfl
  by_cases hd : d = 0
  ·have hdI : ¬ (0 : Int) < (d : Int) := by omega
   have t35 : ((s[te].toNat : Int) == 35) = false := by rw [e125]; rfl
   have KM := hid (fun W => rmark_any s te W hs ha)
   obtain ⟨M, hM⟩ : ∃ M, M = (if s[te] = 60 then elemP (s.data.toList.drop (te + 1)) else none) := ⟨_, rfl⟩
   rw [← hM] at KM
   have HF := hid (show NX = M from by rw [hM, HNS.out, if_neg e123, if_pos e125, if_pos hd, e125]; rfl)
   clear hM e123 e125 hd
   rcases M with _ | ⟨k, x, m⟩
   ·rw [rtV] at KM
    go_wp2_with fail
    refine (KM.out _).mono ?_
    rintro e w2 ⟨rfl, hx2⟩
    have HX2 := hid (HX.out.trans hx2)
    have HB2 := hid (HB.out.ext hx2)
    clear hx2
    have r0 := HB2.out.cell 0 _ rfl
    have r1 := HB2.out.cell 1 _ rfl
    have r2 := HB2.out.cell 2 _ rfl
    have r3 := HB2.out.cell 3 _ rfl
    have u0 := frz_of HB2.out 0
    have u1 := frz_of HB2.out 1
    have u2 := frz_of HB2.out 2
    have u3 := frz_of HB2.out 3
    go_wp2
    have hat := at_four (b0 := .int .i64 0) (b1 := .string ⟨#[]⟩) (b2 := .int .i64 0) (b3 := .int .i64 0) HB2.out
    refine bodyPost_ret (results_cell_row rfl _ _ w.heap.size 137 _ (0, 0) _ rfl hat Tryz.underlying137 rfl (by kernel_rfl)) rfl ?_
    exact ⟨by rw [HF.out]; simp [rtV], ext_four HX2.out (Nat.le_refl _)⟩
   ·rw [rtV] at KM
    go_wp2_with fail
    refine (KM.out _).mono ?_
    rintro e w2 ⟨rfl, hx2⟩
    have HX2 := hid (HX.out.trans hx2)
    have HB2 := hid (HB.out.ext hx2)
    clear hx2
    have r0 := HB2.out.cell 0 _ rfl
    have r1 := HB2.out.cell 1 _ rfl
    have r2 := HB2.out.cell 2 _ rfl
    have r3 := HB2.out.cell 3 _ rfl
    have u0 := frz_of HB2.out 0
    have u1 := frz_of HB2.out 1
    have u2 := frz_of HB2.out 2
    have u3 := frz_of HB2.out 3
    go_wp2
    have hat := at_four (b0 := .int .i64 k) (b1 := .string ⟨x.toArray⟩) (b2 := .int .i64 te) (b3 := .int .i64 ((te + m : Nat) : Int)) HB2.out
    refine bodyPost_ret (results_cell_row rfl _ _ w.heap.size 137 _ (0, 0) _ rfl hat Tryz.underlying137 rfl (by kernel_rfl)) rfl ?_
    exact ⟨by rw [HF.out]; simp [rtV], ext_four HX2.out (Nat.le_refl _)⟩
  have hdI : (0 : Int) < (d : Int) := by omega
  have HF := hid (show NX = some (3, [125], 1) from by rw [HNS.out, if_neg e123, if_pos e125, if_neg hd])
  clear e123 e125 hd
  have r0 := HB.out.cell 0 _ rfl
  have r1 := HB.out.cell 1 _ rfl
  have r2 := HB.out.cell 2 _ rfl
  have r3 := HB.out.cell 3 _ rfl
  have u0 := frz_of HB.out 0
  have u1 := frz_of HB.out 1
  have u2 := frz_of HB.out 2
  have u3 := frz_of HB.out 3
  go_wp2
  have hat := at_four (b0 := .int .i64 3) (b1 := .string ⟨#[125]⟩) (b2 := .int .i64 te) (b3 := .int .i64 ((te : Int) + 1)) HB.out
  refine bodyPost_ret (results_cell_row rfl _ _ w.heap.size 137 _ (0, 0) _ rfl hat Tryz.underlying137 rfl (by kernel_rfl)) rfl ?_
  exact ⟨by rw [HF.out]; simp [rtV], ext_four HX.out (Nat.le_refl _)⟩
 have t125 : ((s[te].toNat : Int) == 125) = false := u8_ne (n := 125) e125
 by_cases e35 : s[te] = 35
 ·have t35 : ((s[te].toNat : Int) == 35) = true := by rw [e35]; rfl
  have HF := hid (show NX = some (4, [35], 1) from by rw [HNS.out, if_neg e123, if_neg e125, if_pos e35])
  clear e123 e125 e35
  have r0 := HB.out.cell 0 _ rfl
  have r1 := HB.out.cell 1 _ rfl
  have r2 := HB.out.cell 2 _ rfl
  have r3 := HB.out.cell 3 _ rfl
  have u0 := frz_of HB.out 0
  have u1 := frz_of HB.out 1
  have u2 := frz_of HB.out 2
  have u3 := frz_of HB.out 3
  go_wp2
  have hat := at_four (b0 := .int .i64 4) (b1 := .string ⟨#[35]⟩) (b2 := .int .i64 te) (b3 := .int .i64 ((te : Int) + 1)) HB.out
  refine bodyPost_ret (results_cell_row rfl _ _ w.heap.size 137 _ (0, 0) _ rfl hat Tryz.underlying137 rfl (by kernel_rfl)) rfl ?_
  exact ⟨by rw [HF.out]; simp [rtV], ext_four HX.out (Nat.le_refl _)⟩
 have t35 : ((s[te].toNat : Int) == 35) = false := u8_ne (n := 35) e35
 have KM := hid (fun W => rmark_any s te W hs ha)
 obtain ⟨M, hM⟩ : ∃ M, M = (if s[te] = 60 then elemP (s.data.toList.drop (te + 1)) else none) := ⟨_, rfl⟩
 rw [← hM] at KM
 have HF := hid (show NX = M from by rw [hM, HNS.out, if_neg e123, if_neg e125, if_neg e35])
 clear hM e123 e125 e35
 rcases M with _ | ⟨k, x, m⟩
 ·rw [rtV] at KM
  go_wp2_with fail
  refine (KM.out _).mono ?_
  rintro e w2 ⟨rfl, hx2⟩
  have HX2 := hid (HX.out.trans hx2)
  have HB2 := hid (HB.out.ext hx2)
  clear hx2
  have r0 := HB2.out.cell 0 _ rfl
  have r1 := HB2.out.cell 1 _ rfl
  have r2 := HB2.out.cell 2 _ rfl
  have r3 := HB2.out.cell 3 _ rfl
  have u0 := frz_of HB2.out 0
  have u1 := frz_of HB2.out 1
  have u2 := frz_of HB2.out 2
  have u3 := frz_of HB2.out 3
  go_wp2
  have hat := at_four (b0 := .int .i64 0) (b1 := .string ⟨#[]⟩) (b2 := .int .i64 0) (b3 := .int .i64 0) HB2.out
  refine bodyPost_ret (results_cell_row rfl _ _ w.heap.size 137 _ (0, 0) _ rfl hat Tryz.underlying137 rfl (by kernel_rfl)) rfl ?_
  exact ⟨by rw [HF.out]; simp [rtV], ext_four HX2.out (Nat.le_refl _)⟩
 ·rw [rtV] at KM
  go_wp2_with fail
  refine (KM.out _).mono ?_
  rintro e w2 ⟨rfl, hx2⟩
  have HX2 := hid (HX.out.trans hx2)
  have HB2 := hid (HB.out.ext hx2)
  clear hx2
  have r0 := HB2.out.cell 0 _ rfl
  have r1 := HB2.out.cell 1 _ rfl
  have r2 := HB2.out.cell 2 _ rfl
  have r3 := HB2.out.cell 3 _ rfl
  have u0 := frz_of HB2.out 0
  have u1 := frz_of HB2.out 1
  have u2 := frz_of HB2.out 2
  have u3 := frz_of HB2.out 3
  go_wp2
  have hat := at_four (b0 := .int .i64 k) (b1 := .string ⟨x.toArray⟩) (b2 := .int .i64 te) (b3 := .int .i64 ((te + m : Nat) : Int)) HB2.out
  refine bodyPost_ret (results_cell_row rfl _ _ w.heap.size 137 _ (0, 0) _ rfl hat Tryz.underlying137 rfl (by kernel_rfl)) rfl ?_
  exact ⟨by rw [HF.out]; simp [rtV], ext_four HX2.out (Nat.le_refl _)⟩
end Go.Proofs.YtpfmojeigjmlfaaGreatDoor
namespace Go.Proofs.YtpfmojeigjmlfaaGreatDoor
open Go.RowKit
theorem own_at {wr W w4 : World} {B : Nat} {e T : TypeId} {size n g : Nat} {v : Value} {xs : List Value} {cs : Array Value} (hl : wr.ownsRow B e size v n xs) (h : AtC T W g cs) (hg : W.grownBy w4 v.ownBlock) (hge : wr.heap.size ≤ g) : AtC T w4 g cs := by
 refine (hg.block g h.lt (fun e => ?_)).trans h
 have := (hl.lt g e.symm).2
 omega
theorem pltP_none {ls : By} {d : Nat} (h : pltP ls d = none) : nextP ls false = none ∨ ∃ x m, nextP ls false = some (3, x, m) ∧ d = 0 := by
 unfold pltP at h
 cases hn : nextP ls false with
 | none => exact .inl rfl
 | some y =>
   obtain ⟨k, x, m⟩ := y
   rw [hn] at h
   simp only [] at h
   split at h
   ·rename_i hk
    obtain ⟨rfl, h2⟩ := hk
    exact .inr ⟨x, m, rfl, h2⟩
   ·cases h
theorem pltP_some {ls : By} {d k m : Nat} {x : By} (h : pltP ls d = some (k, x, m)) : nextP ls false = some (k, x, m) ∧ ¬ (k = 3 ∧ d = 0) := by
 unfold pltP at h
 cases hn : nextP ls false with
 | none => rw [hn] at h; cases h
 | some y =>
   obtain ⟨k', x', m'⟩ := y
   rw [hn] at h
   simp only [] at h
   split at h
   ·cases h
   ·rename_i hk
    injection h with h
    injection h with h1 h
    injection h with h2 h3
    subst h1 h2 h3
    exact ⟨rfl, hk⟩
def RkI (w : World) (s : ByteArray) (R : List Tok × Nat × Int) (l i dv : Value) (wr : World) : Prop :=
 ∃ (k d n : Nat) (ts : List Tok), k ≤ s.size ∧ i = .int .i64 k ∧ dv = .int .i64 d ∧ s.size - k < n ∧ d ≤ k ∧ ts.length ≤ k ∧ R = ahdT ts (toksP n (s.data.toList.drop k) k d) ∧ wr.ownsRow w.heap.size 137 4 l ts.length (ts.flatMap tokC) ∧ Ext w wr
end Go.Proofs.YtpfmojeigjmlfaaGreatDoor
