import Derived.Test.YtpfmojeigjmlfaaGreatDoorJb
import Derived.Test.YtpfmojeigjmlfaaGreatDoorGe
set_option maxRecDepth 100000
set_option linter.unusedSimpArgs false
set_option linter.unusedVariables false
open Go.Lib (hid)
namespace Go.Proofs.YtpfmojeigjmlfaaGreatDoor
open Go.RowKit
def plnB (c : Bool) (k : Int) (t n s : By) (c0 p0 : Bool) : Bool :=
 if k = 1 then !t.isEmpty && n.isEmpty && s.isEmpty && c0 && p0
 else if k = 10 then c && t.isEmpty && n.isEmpty && s.isEmpty && c0 && p0
 else if k = 2 then nameB n && t.isEmpty && s.isEmpty && c0 && p0
 else if k = 3 then nameB n && t.isEmpty && (s.isEmpty || numStyleB s) && c0 && p0
 else if k = 5 then nameB n && t.isEmpty && skelB s && c0 && p0
 else if k = 4 ∨ k = 6 then nameB n && t.isEmpty && nameB s && c0 && p0
 else false
set_option maxHeartbeats 4000000 in
theorem plain_1 (c : Bool) (t n s : ByteArray) (Ac : Option Addr) (nc cc : Nat) (Ap : Option Addr) (np cp : Nat) (w : World) (hn : n.size ≤ maxLen) (hs : s.size ≤ maxLen) :
 Calls Tryz.prog 70 #[.agg #[.int .i64 1, .string t, .string n, .string s, .slice Ac nc cc, .slice Ap np cp], .bool c] w fun e w' => e = .returned (.bool (plnB c 1 t.data.toList n.data.toList s.data.toList (nc == 0) (np == 0))) ∧ Ext w w' := by
 have KN := hid (fun W => rname_any n W hn)
 have KS := hid (fun W => rname_any s W hs)
 have KK := hid (fun W => rskel_any s W hs)
 have hnm : nameB [] = false := name_nil
 have hni : ∀ m : Nat, ((m : Int) == 0) = (m == 0) := fun m => by rw [Bool.eq_iff_iff, beq_iff_eq, beq_iff_eq]; omega
 have hnn : ∀ x : ByteArray, x.toList = x.data.toList := ByteArray.toList_eq
 clear hn hs
 go_enter Tryz.func70, Tryz.ntmps70
 go_wp2_with (first | (go_at_call 67; with_reducible refine (KN.out _).mono ?_; rintro e w2 ⟨rfl, rfl⟩) | (go_at_call 67; with_reducible refine (KS.out _).mono ?_; rintro e w2 ⟨rfl, rfl⟩) | (go_at_call 97; refine (KK.out _).mono ?_; rintro e w2 ⟨rfl, rfl⟩))
 all_goals go_ret
 all_goals refine ⟨ret_bool ?_, ?_⟩
 all_goals first
  | exact ((Ext.refl w).alloc _).alloc _
  | exact (((Ext.refl w).alloc _).alloc _).drew
  | exact (((((Ext.refl w).alloc _).alloc _).setCell (p := ⟨w.heap.size + 1, _, none⟩) (Nat.le_succ _) _).setCell (p := ⟨w.heap.size + 1, _, none⟩) (Nat.le_succ _) _).drew
  | (simp_all [plnB, numStyleB]; done)
set_option maxHeartbeats 4000000 in
theorem plain_10 (c : Bool) (t n s : ByteArray) (Ac : Option Addr) (nc cc : Nat) (Ap : Option Addr) (np cp : Nat) (w : World) (hn : n.size ≤ maxLen) (hs : s.size ≤ maxLen) :
 Calls Tryz.prog 70 #[.agg #[.int .i64 10, .string t, .string n, .string s, .slice Ac nc cc, .slice Ap np cp], .bool c] w fun e w' => e = .returned (.bool (plnB c 10 t.data.toList n.data.toList s.data.toList (nc == 0) (np == 0))) ∧ Ext w w' := by
 have KN := hid (fun W => rname_any n W hn)
 have KS := hid (fun W => rname_any s W hs)
 have KK := hid (fun W => rskel_any s W hs)
 have hnm : nameB [] = false := name_nil
 have hni : ∀ m : Nat, ((m : Int) == 0) = (m == 0) := fun m => by rw [Bool.eq_iff_iff, beq_iff_eq, beq_iff_eq]; omega
 have hnn : ∀ x : ByteArray, x.toList = x.data.toList := ByteArray.toList_eq
 clear hn hs
 go_enter Tryz.func70, Tryz.ntmps70
 go_wp2_with (first | (go_at_call 67; with_reducible refine (KN.out _).mono ?_; rintro e w2 ⟨rfl, rfl⟩) | (go_at_call 67; with_reducible refine (KS.out _).mono ?_; rintro e w2 ⟨rfl, rfl⟩) | (go_at_call 97; refine (KK.out _).mono ?_; rintro e w2 ⟨rfl, rfl⟩))
 all_goals go_ret
 all_goals refine ⟨ret_bool ?_, ?_⟩
 all_goals first
  | exact ((Ext.refl w).alloc _).alloc _
  | exact (((Ext.refl w).alloc _).alloc _).drew
  | exact (((((Ext.refl w).alloc _).alloc _).setCell (p := ⟨w.heap.size + 1, _, none⟩) (Nat.le_succ _) _).setCell (p := ⟨w.heap.size + 1, _, none⟩) (Nat.le_succ _) _).drew
  | (simp_all [plnB, numStyleB]; done)
set_option maxHeartbeats 4000000 in
theorem plain_2 (c : Bool) (t n s : ByteArray) (Ac : Option Addr) (nc cc : Nat) (Ap : Option Addr) (np cp : Nat) (w : World) (hn : n.size ≤ maxLen) (hs : s.size ≤ maxLen) :
 Calls Tryz.prog 70 #[.agg #[.int .i64 2, .string t, .string n, .string s, .slice Ac nc cc, .slice Ap np cp], .bool c] w fun e w' => e = .returned (.bool (plnB c 2 t.data.toList n.data.toList s.data.toList (nc == 0) (np == 0))) ∧ Ext w w' := by
 have KN := hid (fun W => rname_any n W hn)
 have KS := hid (fun W => rname_any s W hs)
 have KK := hid (fun W => rskel_any s W hs)
 have hnm : nameB [] = false := name_nil
 have hni : ∀ m : Nat, ((m : Int) == 0) = (m == 0) := fun m => by rw [Bool.eq_iff_iff, beq_iff_eq, beq_iff_eq]; omega
 have hnn : ∀ x : ByteArray, x.toList = x.data.toList := ByteArray.toList_eq
 clear hn hs
 go_enter Tryz.func70, Tryz.ntmps70
 go_wp2_with (first | (go_at_call 67; with_reducible refine (KN.out _).mono ?_; rintro e w2 ⟨rfl, rfl⟩) | (go_at_call 67; with_reducible refine (KS.out _).mono ?_; rintro e w2 ⟨rfl, rfl⟩) | (go_at_call 97; refine (KK.out _).mono ?_; rintro e w2 ⟨rfl, rfl⟩))
 all_goals go_ret
 all_goals refine ⟨ret_bool ?_, ?_⟩
 all_goals first
  | exact ((Ext.refl w).alloc _).alloc _
  | exact (((Ext.refl w).alloc _).alloc _).drew
  | exact (((((Ext.refl w).alloc _).alloc _).setCell (p := ⟨w.heap.size + 1, _, none⟩) (Nat.le_succ _) _).setCell (p := ⟨w.heap.size + 1, _, none⟩) (Nat.le_succ _) _).drew
  | (simp_all [plnB, numStyleB]; done)
set_option maxHeartbeats 4000000 in
theorem plain_3 (c : Bool) (t n s : ByteArray) (Ac : Option Addr) (nc cc : Nat) (Ap : Option Addr) (np cp : Nat) (w : World) (hn : n.size ≤ maxLen) (hs : s.size ≤ maxLen) :
 Calls Tryz.prog 70 #[.agg #[.int .i64 3, .string t, .string n, .string s, .slice Ac nc cc, .slice Ap np cp], .bool c] w fun e w' => e = .returned (.bool (plnB c 3 t.data.toList n.data.toList s.data.toList (nc == 0) (np == 0))) ∧ Ext w w' := by
 have KN := hid (fun W => rname_any n W hn)
 have KS := hid (fun W => rname_any s W hs)
 have KK := hid (fun W => rskel_any s W hs)
 have hnm : nameB [] = false := name_nil
 have hni : ∀ m : Nat, ((m : Int) == 0) = (m == 0) := fun m => by rw [Bool.eq_iff_iff, beq_iff_eq, beq_iff_eq]; omega
 have hnn : ∀ x : ByteArray, x.toList = x.data.toList := ByteArray.toList_eq
 clear hn hs
 go_enter Tryz.func70, Tryz.ntmps70
 go_wp2_with (first | (go_at_call 67; with_reducible refine (KN.out _).mono ?_; rintro e w2 ⟨rfl, rfl⟩) | (go_at_call 67; with_reducible refine (KS.out _).mono ?_; rintro e w2 ⟨rfl, rfl⟩) | (go_at_call 97; refine (KK.out _).mono ?_; rintro e w2 ⟨rfl, rfl⟩))
 go_region
 all_goals go_wp2_with (first | (go_at_call 67; with_reducible refine (KN.out _).mono ?_; rintro e w2 ⟨rfl, rfl⟩) | (go_at_call 67; with_reducible refine (KS.out _).mono ?_; rintro e w2 ⟨rfl, rfl⟩) | (go_at_call 97; refine (KK.out _).mono ?_; rintro e w2 ⟨rfl, rfl⟩))
 all_goals go_ret
 all_goals refine ⟨ret_bool ?_, ?_⟩
 all_goals first
  | exact ((Ext.refl w).alloc _).alloc _
  | exact (((Ext.refl w).alloc _).alloc _).drew
  | exact (((((Ext.refl w).alloc _).alloc _).setCell (p := ⟨w.heap.size + 1, _, none⟩) (Nat.le_succ _) _).setCell (p := ⟨w.heap.size + 1, _, none⟩) (Nat.le_succ _) _).drew
  | (simp_all [plnB, numStyleB]; done)
set_option maxHeartbeats 4000000 in
theorem plain_5 (c : Bool) (t n s : ByteArray) (Ac : Option Addr) (nc cc : Nat) (Ap : Option Addr) (np cp : Nat) (w : World) (hn : n.size ≤ maxLen) (hs : s.size ≤ maxLen) :
 Calls Tryz.prog 70 #[.agg #[.int .i64 5, .string t, .string n, .string s, .slice Ac nc cc, .slice Ap np cp], .bool c] w fun e w' => e = .returned (.bool (plnB c 5 t.data.toList n.data.toList s.data.toList (nc == 0) (np == 0))) ∧ Ext w w' := by
 have KN := hid (fun W => rname_any n W hn)
 have KS := hid (fun W => rname_any s W hs)
 have KK := hid (fun W => rskel_any s W hs)
 have hnm : nameB [] = false := name_nil
 have hni : ∀ m : Nat, ((m : Int) == 0) = (m == 0) := fun m => by rw [Bool.eq_iff_iff, beq_iff_eq, beq_iff_eq]; omega
 have hnn : ∀ x : ByteArray, x.toList = x.data.toList := ByteArray.toList_eq
 clear hn hs
 go_enter Tryz.func70, Tryz.ntmps70
 go_wp2_with (first | (go_at_call 67; with_reducible refine (KN.out _).mono ?_; rintro e w2 ⟨rfl, rfl⟩) | (go_at_call 67; with_reducible refine (KS.out _).mono ?_; rintro e w2 ⟨rfl, rfl⟩) | (go_at_call 97; refine (KK.out _).mono ?_; rintro e w2 ⟨rfl, rfl⟩))
 go_region
 all_goals go_wp2_with (first | (go_at_call 67; with_reducible refine (KN.out _).mono ?_; rintro e w2 ⟨rfl, rfl⟩) | (go_at_call 67; with_reducible refine (KS.out _).mono ?_; rintro e w2 ⟨rfl, rfl⟩) | (go_at_call 97; refine (KK.out _).mono ?_; rintro e w2 ⟨rfl, rfl⟩))
 all_goals go_ret
 all_goals refine ⟨ret_bool ?_, ?_⟩
 all_goals first
  | exact ((Ext.refl w).alloc _).alloc _
  | exact (((Ext.refl w).alloc _).alloc _).drew
  | exact (((((Ext.refl w).alloc _).alloc _).setCell (p := ⟨w.heap.size + 1, _, none⟩) (Nat.le_succ _) _).setCell (p := ⟨w.heap.size + 1, _, none⟩) (Nat.le_succ _) _).drew
  | (simp_all [plnB, numStyleB]; done)
set_option maxHeartbeats 4000000 in
theorem plain_4 (c : Bool) (t n s : ByteArray) (Ac : Option Addr) (nc cc : Nat) (Ap : Option Addr) (np cp : Nat) (w : World) (hn : n.size ≤ maxLen) (hs : s.size ≤ maxLen) :
 Calls Tryz.prog 70 #[.agg #[.int .i64 4, .string t, .string n, .string s, .slice Ac nc cc, .slice Ap np cp], .bool c] w fun e w' => e = .returned (.bool (plnB c 4 t.data.toList n.data.toList s.data.toList (nc == 0) (np == 0))) ∧ Ext w w' := by
 have KN := hid (fun W => rname_any n W hn)
 have KS := hid (fun W => rname_any s W hs)
 have KK := hid (fun W => rskel_any s W hs)
 have hnm : nameB [] = false := name_nil
 have hni : ∀ m : Nat, ((m : Int) == 0) = (m == 0) := fun m => by rw [Bool.eq_iff_iff, beq_iff_eq, beq_iff_eq]; omega
 have hnn : ∀ x : ByteArray, x.toList = x.data.toList := ByteArray.toList_eq
 clear hn hs
 go_enter Tryz.func70, Tryz.ntmps70
 go_wp2_with (first | (go_at_call 67; with_reducible refine (KN.out _).mono ?_; rintro e w2 ⟨rfl, rfl⟩) | (go_at_call 67; with_reducible refine (KS.out _).mono ?_; rintro e w2 ⟨rfl, rfl⟩) | (go_at_call 97; refine (KK.out _).mono ?_; rintro e w2 ⟨rfl, rfl⟩))
 go_region
 all_goals go_wp2_with (first | (go_at_call 67; with_reducible refine (KN.out _).mono ?_; rintro e w2 ⟨rfl, rfl⟩) | (go_at_call 67; with_reducible refine (KS.out _).mono ?_; rintro e w2 ⟨rfl, rfl⟩) | (go_at_call 97; refine (KK.out _).mono ?_; rintro e w2 ⟨rfl, rfl⟩))
 all_goals go_ret
 all_goals refine ⟨ret_bool ?_, ?_⟩
 all_goals first
  | exact ((Ext.refl w).alloc _).alloc _
  | exact (((Ext.refl w).alloc _).alloc _).drew
  | exact (((((Ext.refl w).alloc _).alloc _).setCell (p := ⟨w.heap.size + 1, _, none⟩) (Nat.le_succ _) _).setCell (p := ⟨w.heap.size + 1, _, none⟩) (Nat.le_succ _) _).drew
  | (simp_all [plnB, numStyleB]; done)
set_option maxHeartbeats 4000000 in
theorem plain_6 (c : Bool) (t n s : ByteArray) (Ac : Option Addr) (nc cc : Nat) (Ap : Option Addr) (np cp : Nat) (w : World) (hn : n.size ≤ maxLen) (hs : s.size ≤ maxLen) :
 Calls Tryz.prog 70 #[.agg #[.int .i64 6, .string t, .string n, .string s, .slice Ac nc cc, .slice Ap np cp], .bool c] w fun e w' => e = .returned (.bool (plnB c 6 t.data.toList n.data.toList s.data.toList (nc == 0) (np == 0))) ∧ Ext w w' := by
 have KN := hid (fun W => rname_any n W hn)
 have KS := hid (fun W => rname_any s W hs)
 have KK := hid (fun W => rskel_any s W hs)
 have hnm : nameB [] = false := name_nil
 have hni : ∀ m : Nat, ((m : Int) == 0) = (m == 0) := fun m => by rw [Bool.eq_iff_iff, beq_iff_eq, beq_iff_eq]; omega
 have hnn : ∀ x : ByteArray, x.toList = x.data.toList := ByteArray.toList_eq
 clear hn hs
 go_enter Tryz.func70, Tryz.ntmps70
 go_wp2_with (first | (go_at_call 67; with_reducible refine (KN.out _).mono ?_; rintro e w2 ⟨rfl, rfl⟩) | (go_at_call 67; with_reducible refine (KS.out _).mono ?_; rintro e w2 ⟨rfl, rfl⟩) | (go_at_call 97; refine (KK.out _).mono ?_; rintro e w2 ⟨rfl, rfl⟩))
 go_region
 all_goals go_wp2_with (first | (go_at_call 67; with_reducible refine (KN.out _).mono ?_; rintro e w2 ⟨rfl, rfl⟩) | (go_at_call 67; with_reducible refine (KS.out _).mono ?_; rintro e w2 ⟨rfl, rfl⟩) | (go_at_call 97; refine (KK.out _).mono ?_; rintro e w2 ⟨rfl, rfl⟩))
 all_goals go_ret
 all_goals refine ⟨ret_bool ?_, ?_⟩
 all_goals first
  | exact ((Ext.refl w).alloc _).alloc _
  | exact (((Ext.refl w).alloc _).alloc _).drew
  | exact (((((Ext.refl w).alloc _).alloc _).setCell (p := ⟨w.heap.size + 1, _, none⟩) (Nat.le_succ _) _).setCell (p := ⟨w.heap.size + 1, _, none⟩) (Nat.le_succ _) _).drew
  | (simp_all [plnB, numStyleB]; done)
set_option maxHeartbeats 4000000 in
theorem plain_o (k : Int) (hk : k ≠ 1 ∧ k ≠ 10 ∧ k ≠ 2 ∧ k ≠ 3 ∧ k ≠ 5 ∧ k ≠ 4 ∧ k ≠ 6) (c : Bool) (t n s : ByteArray) (Ac : Option Addr) (nc cc : Nat) (Ap : Option Addr) (np cp : Nat) (w : World) (hn : n.size ≤ maxLen) (hs : s.size ≤ maxLen) :
 Calls Tryz.prog 70 #[.agg #[.int .i64 k, .string t, .string n, .string s, .slice Ac nc cc, .slice Ap np cp], .bool c] w fun e w' => e = .returned (.bool (plnB c k t.data.toList n.data.toList s.data.toList (nc == 0) (np == 0))) ∧ Ext w w' := by
 have KN := hid (fun W => rname_any n W hn)
 have KS := hid (fun W => rname_any s W hs)
 have KK := hid (fun W => rskel_any s W hs)
 have hnm : nameB [] = false := name_nil
 have hni : ∀ m : Nat, ((m : Int) == 0) = (m == 0) := fun m => by rw [Bool.eq_iff_iff, beq_iff_eq, beq_iff_eq]; omega
 have hnn : ∀ x : ByteArray, x.toList = x.data.toList := ByteArray.toList_eq
 have b1 : (k == 1) = false := by rw [beq_eq_false_iff_ne]; omega
 have d1 : (k != 1) = true := by rw [bne_iff_ne]; omega
 have b10 : (k == 10) = false := by rw [beq_eq_false_iff_ne]; omega
 have d10 : (k != 10) = true := by rw [bne_iff_ne]; omega
 have b2 : (k == 2) = false := by rw [beq_eq_false_iff_ne]; omega
 have d2 : (k != 2) = true := by rw [bne_iff_ne]; omega
 have b3 : (k == 3) = false := by rw [beq_eq_false_iff_ne]; omega
 have d3 : (k != 3) = true := by rw [bne_iff_ne]; omega
 have b5 : (k == 5) = false := by rw [beq_eq_false_iff_ne]; omega
 have d5 : (k != 5) = true := by rw [bne_iff_ne]; omega
 have b4 : (k == 4) = false := by rw [beq_eq_false_iff_ne]; omega
 have d4 : (k != 4) = true := by rw [bne_iff_ne]; omega
 have b6 : (k == 6) = false := by rw [beq_eq_false_iff_ne]; omega
 have d6 : (k != 6) = true := by rw [bne_iff_ne]; omega
 clear hn hs
 go_enter Tryz.func70, Tryz.ntmps70
 go_wp2_with (first | (go_at_call 67; with_reducible refine (KN.out _).mono ?_; rintro e w2 ⟨rfl, rfl⟩) | (go_at_call 67; with_reducible refine (KS.out _).mono ?_; rintro e w2 ⟨rfl, rfl⟩) | (go_at_call 97; refine (KK.out _).mono ?_; rintro e w2 ⟨rfl, rfl⟩))
 all_goals go_ret
 all_goals refine ⟨ret_bool ?_, ?_⟩
 all_goals first
  | exact ((Ext.refl w).alloc _).alloc _
  | exact (((Ext.refl w).alloc _).alloc _).drew
  | exact (((((Ext.refl w).alloc _).alloc _).setCell (p := ⟨w.heap.size + 1, _, none⟩) (Nat.le_succ _) _).setCell (p := ⟨w.heap.size + 1, _, none⟩) (Nat.le_succ _) _).drew
  | (simp_all [plnB, numStyleB]; done)
theorem plain_any (k : Int) (c : Bool) (t n s : ByteArray) (Ac : Option Addr) (nc cc : Nat) (Ap : Option Addr) (np cp : Nat) (w : World) (hn : n.size ≤ maxLen) (hs : s.size ≤ maxLen) :
 Calls Tryz.prog 70 #[.agg #[.int .i64 k, .string t, .string n, .string s, .slice Ac nc cc, .slice Ap np cp], .bool c] w fun e w' => e = .returned (.bool (plnB c k t.data.toList n.data.toList s.data.toList (nc == 0) (np == 0))) ∧ Ext w w' := by
 by_cases h1 : k = 1
 ·subst h1; exact plain_1 c t n s Ac nc cc Ap np cp w hn hs
 by_cases h10 : k = 10
 ·subst h10; exact plain_10 c t n s Ac nc cc Ap np cp w hn hs
 by_cases h2 : k = 2
 ·subst h2; exact plain_2 c t n s Ac nc cc Ap np cp w hn hs
 by_cases h3 : k = 3
 ·subst h3; exact plain_3 c t n s Ac nc cc Ap np cp w hn hs
 by_cases h5 : k = 5
 ·subst h5; exact plain_5 c t n s Ac nc cc Ap np cp w hn hs
 by_cases h4 : k = 4
 ·subst h4; exact plain_4 c t n s Ac nc cc Ap np cp w hn hs
 by_cases h6 : k = 6
 ·subst h6; exact plain_6 c t n s Ac nc cc Ap np cp w hn hs
 exact plain_o k ⟨h1, h10, h2, h3, h5, h4, h6⟩ c t n s Ac nc cc Ap np cp w hn hs
end Go.Proofs.YtpfmojeigjmlfaaGreatDoor
