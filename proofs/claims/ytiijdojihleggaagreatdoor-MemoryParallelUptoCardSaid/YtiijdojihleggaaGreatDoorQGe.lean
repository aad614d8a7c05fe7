import Derived.Test.YtiijdojihleggaaGreatDoorQNPO
import Derived.Test.YtiijdojihleggaaGreatDoorQNPF
import Derived.Test.YtiijdojihleggaaGreatDoorQNPA
set_option maxRecDepth 100000
set_option linter.unusedSimpArgs false
set_option linter.unusedVariables false
open Go.Lib (hid)
namespace Go.Proofs.YtiijdojihleggaaGreatDoor
open Go.RowKit
def fldB (k : Int) (t n s : By) (c0 p0 : Bool) : Bool :=
 if k = 1 then !t.isEmpty && n.isEmpty && s.isEmpty && c0 && p0
 else if k = 10 then t.isEmpty && n.isEmpty && s.isEmpty && c0 && p0
 else if k = 2 then nameB n && t.isEmpty && s.isEmpty && c0 && p0
 else if k = 3 then nameB n && t.isEmpty && (s.isEmpty || numStyleB s) && c0 && p0
 else if k = 5 then nameB n && t.isEmpty && skelB s && c0 && p0
 else if k = 4 ∨ k = 6 then nameB n && t.isEmpty && nameB s && c0 && p0
 else if k = 11 then nameB n && t.isEmpty && s.isEmpty && c0
 else if k = 7 ∨ k = 8 ∨ k = 9 then nameB n && t.isEmpty && s.isEmpty && p0
 else false
theorem name_nil : nameB [] = false := by decide
set_option maxHeartbeats 4000000 in
theorem fields_1 (t n s : ByteArray) (Ac : Option Addr) (nc cc : Nat) (Ap : Option Addr) (np cp : Nat) (w : World) (hn : n.size ≤ maxLen) (hs : s.size ≤ maxLen) :
 Calls Tryz.prog 119 #[.agg #[.int .i64 1, .string t, .string n, .string s, .slice Ac nc cc, .slice Ap np cp]] w fun e w' => e = .returned (.bool (fldB 1 t.data.toList n.data.toList s.data.toList (nc == 0) (np == 0))) ∧ Ext w w' := by
 have KL := hid (fun W => sel_any 1 W)
 have KN := hid (fun W => tname_any n W hn)
 have KS := hid (fun W => tname_any s W hs)
 have KK := hid (fun W => skel_any s W hs)
 have hnm : nameB [] = false := name_nil
 have hni : ∀ m : Nat, ((m : Int) == 0) = (m == 0) := fun m => by rw [Bool.eq_iff_iff, beq_iff_eq, beq_iff_eq]; omega
 have hnn : ∀ x : ByteArray, x.toList = x.data.toList := ByteArray.toList_eq
 clear hn hs
 go_enter Tryz.func119, Tryz.ntmps119
 go_wp2_with (first | (go_at_call 105; refine (KL.out _).mono ?_; rintro e w2 ⟨rfl, rfl⟩) | (go_at_call 147; with_reducible refine (KN.out _).mono ?_; rintro e w2 ⟨rfl, rfl⟩) | (go_at_call 147; with_reducible refine (KS.out _).mono ?_; rintro e w2 ⟨rfl, rfl⟩) | (go_at_call 146; refine (KK.out _).mono ?_; rintro e w2 ⟨rfl, rfl⟩))
 all_goals go_ret
 all_goals refine ⟨ret_bool ?_, ?_⟩
 all_goals first
  | exact ((Ext.refl w).alloc _).alloc _
  | exact (((Ext.refl w).alloc _).alloc _).drew
  | exact (((((Ext.refl w).alloc _).alloc _).setCell (p := ⟨w.heap.size + 1, _, none⟩) (Nat.le_succ _) _).setCell (p := ⟨w.heap.size + 1, _, none⟩) (Nat.le_succ _) _).drew
  | (simp_all [fldB, numStyleB]; done)
set_option maxHeartbeats 4000000 in
theorem fields_10 (t n s : ByteArray) (Ac : Option Addr) (nc cc : Nat) (Ap : Option Addr) (np cp : Nat) (w : World) (hn : n.size ≤ maxLen) (hs : s.size ≤ maxLen) :
 Calls Tryz.prog 119 #[.agg #[.int .i64 10, .string t, .string n, .string s, .slice Ac nc cc, .slice Ap np cp]] w fun e w' => e = .returned (.bool (fldB 10 t.data.toList n.data.toList s.data.toList (nc == 0) (np == 0))) ∧ Ext w w' := by
 have KL := hid (fun W => sel_any 10 W)
 have KN := hid (fun W => tname_any n W hn)
 have KS := hid (fun W => tname_any s W hs)
 have KK := hid (fun W => skel_any s W hs)
 have hnm : nameB [] = false := name_nil
 have hni : ∀ m : Nat, ((m : Int) == 0) = (m == 0) := fun m => by rw [Bool.eq_iff_iff, beq_iff_eq, beq_iff_eq]; omega
 have hnn : ∀ x : ByteArray, x.toList = x.data.toList := ByteArray.toList_eq
 clear hn hs
 go_enter Tryz.func119, Tryz.ntmps119
 go_wp2_with (first | (go_at_call 105; refine (KL.out _).mono ?_; rintro e w2 ⟨rfl, rfl⟩) | (go_at_call 147; with_reducible refine (KN.out _).mono ?_; rintro e w2 ⟨rfl, rfl⟩) | (go_at_call 147; with_reducible refine (KS.out _).mono ?_; rintro e w2 ⟨rfl, rfl⟩) | (go_at_call 146; refine (KK.out _).mono ?_; rintro e w2 ⟨rfl, rfl⟩))
 all_goals go_ret
 all_goals refine ⟨ret_bool ?_, ?_⟩
 all_goals first
  | exact ((Ext.refl w).alloc _).alloc _
  | exact (((Ext.refl w).alloc _).alloc _).drew
  | exact (((((Ext.refl w).alloc _).alloc _).setCell (p := ⟨w.heap.size + 1, _, none⟩) (Nat.le_succ _) _).setCell (p := ⟨w.heap.size + 1, _, none⟩) (Nat.le_succ _) _).drew
  | (simp_all [fldB, numStyleB]; done)
set_option maxHeartbeats 4000000 in
theorem fields_2 (t n s : ByteArray) (Ac : Option Addr) (nc cc : Nat) (Ap : Option Addr) (np cp : Nat) (w : World) (hn : n.size ≤ maxLen) (hs : s.size ≤ maxLen) :
 Calls Tryz.prog 119 #[.agg #[.int .i64 2, .string t, .string n, .string s, .slice Ac nc cc, .slice Ap np cp]] w fun e w' => e = .returned (.bool (fldB 2 t.data.toList n.data.toList s.data.toList (nc == 0) (np == 0))) ∧ Ext w w' := by
 have KL := hid (fun W => sel_any 2 W)
 have KN := hid (fun W => tname_any n W hn)
 have KS := hid (fun W => tname_any s W hs)
 have KK := hid (fun W => skel_any s W hs)
 have hnm : nameB [] = false := name_nil
 have hni : ∀ m : Nat, ((m : Int) == 0) = (m == 0) := fun m => by rw [Bool.eq_iff_iff, beq_iff_eq, beq_iff_eq]; omega
 have hnn : ∀ x : ByteArray, x.toList = x.data.toList := ByteArray.toList_eq
 clear hn hs
 go_enter Tryz.func119, Tryz.ntmps119
 go_wp2_with (first | (go_at_call 105; refine (KL.out _).mono ?_; rintro e w2 ⟨rfl, rfl⟩) | (go_at_call 147; with_reducible refine (KN.out _).mono ?_; rintro e w2 ⟨rfl, rfl⟩) | (go_at_call 147; with_reducible refine (KS.out _).mono ?_; rintro e w2 ⟨rfl, rfl⟩) | (go_at_call 146; refine (KK.out _).mono ?_; rintro e w2 ⟨rfl, rfl⟩))
 all_goals go_ret
 all_goals refine ⟨ret_bool ?_, ?_⟩
 all_goals first
  | exact ((Ext.refl w).alloc _).alloc _
  | exact (((Ext.refl w).alloc _).alloc _).drew
  | exact (((((Ext.refl w).alloc _).alloc _).setCell (p := ⟨w.heap.size + 1, _, none⟩) (Nat.le_succ _) _).setCell (p := ⟨w.heap.size + 1, _, none⟩) (Nat.le_succ _) _).drew
  | (simp_all [fldB, numStyleB]; done)
set_option maxHeartbeats 4000000 in
theorem fields_3 (t n s : ByteArray) (Ac : Option Addr) (nc cc : Nat) (Ap : Option Addr) (np cp : Nat) (w : World) (hn : n.size ≤ maxLen) (hs : s.size ≤ maxLen) :
 Calls Tryz.prog 119 #[.agg #[.int .i64 3, .string t, .string n, .string s, .slice Ac nc cc, .slice Ap np cp]] w fun e w' => e = .returned (.bool (fldB 3 t.data.toList n.data.toList s.data.toList (nc == 0) (np == 0))) ∧ Ext w w' := by
 have KL := hid (fun W => sel_any 3 W)
 have KN := hid (fun W => tname_any n W hn)
 have KS := hid (fun W => tname_any s W hs)
 have KK := hid (fun W => skel_any s W hs)
 have hnm : nameB [] = false := name_nil
 have hni : ∀ m : Nat, ((m : Int) == 0) = (m == 0) := fun m => by rw [Bool.eq_iff_iff, beq_iff_eq, beq_iff_eq]; omega
 have hnn : ∀ x : ByteArray, x.toList = x.data.toList := ByteArray.toList_eq
 clear hn hs
 go_enter Tryz.func119, Tryz.ntmps119
 go_wp2_with (first | (go_at_call 105; refine (KL.out _).mono ?_; rintro e w2 ⟨rfl, rfl⟩) | (go_at_call 147; with_reducible refine (KN.out _).mono ?_; rintro e w2 ⟨rfl, rfl⟩) | (go_at_call 147; with_reducible refine (KS.out _).mono ?_; rintro e w2 ⟨rfl, rfl⟩) | (go_at_call 146; refine (KK.out _).mono ?_; rintro e w2 ⟨rfl, rfl⟩))
 go_region
 all_goals go_wp2_with (first | (go_at_call 105; refine (KL.out _).mono ?_; rintro e w2 ⟨rfl, rfl⟩) | (go_at_call 147; with_reducible refine (KN.out _).mono ?_; rintro e w2 ⟨rfl, rfl⟩) | (go_at_call 147; with_reducible refine (KS.out _).mono ?_; rintro e w2 ⟨rfl, rfl⟩) | (go_at_call 146; refine (KK.out _).mono ?_; rintro e w2 ⟨rfl, rfl⟩))
 all_goals go_ret
 all_goals refine ⟨ret_bool ?_, ?_⟩
 all_goals first
  | exact ((Ext.refl w).alloc _).alloc _
  | exact (((Ext.refl w).alloc _).alloc _).drew
  | exact (((((Ext.refl w).alloc _).alloc _).setCell (p := ⟨w.heap.size + 1, _, none⟩) (Nat.le_succ _) _).setCell (p := ⟨w.heap.size + 1, _, none⟩) (Nat.le_succ _) _).drew
  | (simp_all [fldB, numStyleB]; done)
set_option maxHeartbeats 4000000 in
theorem fields_5 (t n s : ByteArray) (Ac : Option Addr) (nc cc : Nat) (Ap : Option Addr) (np cp : Nat) (w : World) (hn : n.size ≤ maxLen) (hs : s.size ≤ maxLen) :
 Calls Tryz.prog 119 #[.agg #[.int .i64 5, .string t, .string n, .string s, .slice Ac nc cc, .slice Ap np cp]] w fun e w' => e = .returned (.bool (fldB 5 t.data.toList n.data.toList s.data.toList (nc == 0) (np == 0))) ∧ Ext w w' := by
 have KL := hid (fun W => sel_any 5 W)
 have KN := hid (fun W => tname_any n W hn)
 have KS := hid (fun W => tname_any s W hs)
 have KK := hid (fun W => skel_any s W hs)
 have hnm : nameB [] = false := name_nil
 have hni : ∀ m : Nat, ((m : Int) == 0) = (m == 0) := fun m => by rw [Bool.eq_iff_iff, beq_iff_eq, beq_iff_eq]; omega
 have hnn : ∀ x : ByteArray, x.toList = x.data.toList := ByteArray.toList_eq
 clear hn hs
 go_enter Tryz.func119, Tryz.ntmps119
 go_wp2_with (first | (go_at_call 105; refine (KL.out _).mono ?_; rintro e w2 ⟨rfl, rfl⟩) | (go_at_call 147; with_reducible refine (KN.out _).mono ?_; rintro e w2 ⟨rfl, rfl⟩) | (go_at_call 147; with_reducible refine (KS.out _).mono ?_; rintro e w2 ⟨rfl, rfl⟩) | (go_at_call 146; refine (KK.out _).mono ?_; rintro e w2 ⟨rfl, rfl⟩))
 go_region
 all_goals go_wp2_with (first | (go_at_call 105; refine (KL.out _).mono ?_; rintro e w2 ⟨rfl, rfl⟩) | (go_at_call 147; with_reducible refine (KN.out _).mono ?_; rintro e w2 ⟨rfl, rfl⟩) | (go_at_call 147; with_reducible refine (KS.out _).mono ?_; rintro e w2 ⟨rfl, rfl⟩) | (go_at_call 146; refine (KK.out _).mono ?_; rintro e w2 ⟨rfl, rfl⟩))
 all_goals go_ret
 all_goals refine ⟨ret_bool ?_, ?_⟩
 all_goals first
  | exact ((Ext.refl w).alloc _).alloc _
  | exact (((Ext.refl w).alloc _).alloc _).drew
  | exact (((((Ext.refl w).alloc _).alloc _).setCell (p := ⟨w.heap.size + 1, _, none⟩) (Nat.le_succ _) _).setCell (p := ⟨w.heap.size + 1, _, none⟩) (Nat.le_succ _) _).drew
  | (simp_all [fldB, numStyleB]; done)
set_option maxHeartbeats 4000000 in
theorem fields_4 (t n s : ByteArray) (Ac : Option Addr) (nc cc : Nat) (Ap : Option Addr) (np cp : Nat) (w : World) (hn : n.size ≤ maxLen) (hs : s.size ≤ maxLen) :
 Calls Tryz.prog 119 #[.agg #[.int .i64 4, .string t, .string n, .string s, .slice Ac nc cc, .slice Ap np cp]] w fun e w' => e = .returned (.bool (fldB 4 t.data.toList n.data.toList s.data.toList (nc == 0) (np == 0))) ∧ Ext w w' := by
 have KL := hid (fun W => sel_any 4 W)
 have KN := hid (fun W => tname_any n W hn)
 have KS := hid (fun W => tname_any s W hs)
 have KK := hid (fun W => skel_any s W hs)
 have hnm : nameB [] = false := name_nil
 have hni : ∀ m : Nat, ((m : Int) == 0) = (m == 0) := fun m => by rw [Bool.eq_iff_iff, beq_iff_eq, beq_iff_eq]; omega
 have hnn : ∀ x : ByteArray, x.toList = x.data.toList := ByteArray.toList_eq
 clear hn hs
 go_enter Tryz.func119, Tryz.ntmps119
 go_wp2_with (first | (go_at_call 105; refine (KL.out _).mono ?_; rintro e w2 ⟨rfl, rfl⟩) | (go_at_call 147; with_reducible refine (KN.out _).mono ?_; rintro e w2 ⟨rfl, rfl⟩) | (go_at_call 147; with_reducible refine (KS.out _).mono ?_; rintro e w2 ⟨rfl, rfl⟩) | (go_at_call 146; refine (KK.out _).mono ?_; rintro e w2 ⟨rfl, rfl⟩))
 go_region
 all_goals go_wp2_with (first | (go_at_call 105; refine (KL.out _).mono ?_; rintro e w2 ⟨rfl, rfl⟩) | (go_at_call 147; with_reducible refine (KN.out _).mono ?_; rintro e w2 ⟨rfl, rfl⟩) | (go_at_call 147; with_reducible refine (KS.out _).mono ?_; rintro e w2 ⟨rfl, rfl⟩) | (go_at_call 146; refine (KK.out _).mono ?_; rintro e w2 ⟨rfl, rfl⟩))
 all_goals go_ret
 all_goals refine ⟨ret_bool ?_, ?_⟩
 all_goals first
  | exact ((Ext.refl w).alloc _).alloc _
  | exact (((Ext.refl w).alloc _).alloc _).drew
  | exact (((((Ext.refl w).alloc _).alloc _).setCell (p := ⟨w.heap.size + 1, _, none⟩) (Nat.le_succ _) _).setCell (p := ⟨w.heap.size + 1, _, none⟩) (Nat.le_succ _) _).drew
  | (simp_all [fldB, numStyleB]; done)
set_option maxHeartbeats 4000000 in
theorem fields_6 (t n s : ByteArray) (Ac : Option Addr) (nc cc : Nat) (Ap : Option Addr) (np cp : Nat) (w : World) (hn : n.size ≤ maxLen) (hs : s.size ≤ maxLen) :
 Calls Tryz.prog 119 #[.agg #[.int .i64 6, .string t, .string n, .string s, .slice Ac nc cc, .slice Ap np cp]] w fun e w' => e = .returned (.bool (fldB 6 t.data.toList n.data.toList s.data.toList (nc == 0) (np == 0))) ∧ Ext w w' := by
 have KL := hid (fun W => sel_any 6 W)
 have KN := hid (fun W => tname_any n W hn)
 have KS := hid (fun W => tname_any s W hs)
 have KK := hid (fun W => skel_any s W hs)
 have hnm : nameB [] = false := name_nil
 have hni : ∀ m : Nat, ((m : Int) == 0) = (m == 0) := fun m => by rw [Bool.eq_iff_iff, beq_iff_eq, beq_iff_eq]; omega
 have hnn : ∀ x : ByteArray, x.toList = x.data.toList := ByteArray.toList_eq
 clear hn hs
 go_enter Tryz.func119, Tryz.ntmps119
 go_wp2_with (first | (go_at_call 105; refine (KL.out _).mono ?_; rintro e w2 ⟨rfl, rfl⟩) | (go_at_call 147; with_reducible refine (KN.out _).mono ?_; rintro e w2 ⟨rfl, rfl⟩) | (go_at_call 147; with_reducible refine (KS.out _).mono ?_; rintro e w2 ⟨rfl, rfl⟩) | (go_at_call 146; refine (KK.out _).mono ?_; rintro e w2 ⟨rfl, rfl⟩))
 go_region
 all_goals go_wp2_with (first | (go_at_call 105; refine (KL.out _).mono ?_; rintro e w2 ⟨rfl, rfl⟩) | (go_at_call 147; with_reducible refine (KN.out _).mono ?_; rintro e w2 ⟨rfl, rfl⟩) | (go_at_call 147; with_reducible refine (KS.out _).mono ?_; rintro e w2 ⟨rfl, rfl⟩) | (go_at_call 146; refine (KK.out _).mono ?_; rintro e w2 ⟨rfl, rfl⟩))
 all_goals go_ret
 all_goals refine ⟨ret_bool ?_, ?_⟩
 all_goals first
  | exact ((Ext.refl w).alloc _).alloc _
  | exact (((Ext.refl w).alloc _).alloc _).drew
  | exact (((((Ext.refl w).alloc _).alloc _).setCell (p := ⟨w.heap.size + 1, _, none⟩) (Nat.le_succ _) _).setCell (p := ⟨w.heap.size + 1, _, none⟩) (Nat.le_succ _) _).drew
  | (simp_all [fldB, numStyleB]; done)
set_option maxHeartbeats 4000000 in
theorem fields_11 (t n s : ByteArray) (Ac : Option Addr) (nc cc : Nat) (Ap : Option Addr) (np cp : Nat) (w : World) (hn : n.size ≤ maxLen) (hs : s.size ≤ maxLen) :
 Calls Tryz.prog 119 #[.agg #[.int .i64 11, .string t, .string n, .string s, .slice Ac nc cc, .slice Ap np cp]] w fun e w' => e = .returned (.bool (fldB 11 t.data.toList n.data.toList s.data.toList (nc == 0) (np == 0))) ∧ Ext w w' := by
 have KL := hid (fun W => sel_any 11 W)
 have KN := hid (fun W => tname_any n W hn)
 have KS := hid (fun W => tname_any s W hs)
 have KK := hid (fun W => skel_any s W hs)
 have hnm : nameB [] = false := name_nil
 have hni : ∀ m : Nat, ((m : Int) == 0) = (m == 0) := fun m => by rw [Bool.eq_iff_iff, beq_iff_eq, beq_iff_eq]; omega
 have hnn : ∀ x : ByteArray, x.toList = x.data.toList := ByteArray.toList_eq
 clear hn hs
 go_enter Tryz.func119, Tryz.ntmps119
 go_wp2_with (first | (go_at_call 105; refine (KL.out _).mono ?_; rintro e w2 ⟨rfl, rfl⟩) | (go_at_call 147; with_reducible refine (KN.out _).mono ?_; rintro e w2 ⟨rfl, rfl⟩) | (go_at_call 147; with_reducible refine (KS.out _).mono ?_; rintro e w2 ⟨rfl, rfl⟩) | (go_at_call 146; refine (KK.out _).mono ?_; rintro e w2 ⟨rfl, rfl⟩))
 all_goals go_ret
 all_goals refine ⟨ret_bool ?_, ?_⟩
 all_goals first
  | exact ((Ext.refl w).alloc _).alloc _
  | exact (((Ext.refl w).alloc _).alloc _).drew
  | exact (((((Ext.refl w).alloc _).alloc _).setCell (p := ⟨w.heap.size + 1, _, none⟩) (Nat.le_succ _) _).setCell (p := ⟨w.heap.size + 1, _, none⟩) (Nat.le_succ _) _).drew
  | (simp_all [fldB, numStyleB]; done)
set_option maxHeartbeats 4000000 in
theorem fields_7 (t n s : ByteArray) (Ac : Option Addr) (nc cc : Nat) (Ap : Option Addr) (np cp : Nat) (w : World) (hn : n.size ≤ maxLen) (hs : s.size ≤ maxLen) :
 Calls Tryz.prog 119 #[.agg #[.int .i64 7, .string t, .string n, .string s, .slice Ac nc cc, .slice Ap np cp]] w fun e w' => e = .returned (.bool (fldB 7 t.data.toList n.data.toList s.data.toList (nc == 0) (np == 0))) ∧ Ext w w' := by
 have KL := hid (fun W => sel_any 7 W)
 have KN := hid (fun W => tname_any n W hn)
 have KS := hid (fun W => tname_any s W hs)
 have KK := hid (fun W => skel_any s W hs)
 have hnm : nameB [] = false := name_nil
 have hni : ∀ m : Nat, ((m : Int) == 0) = (m == 0) := fun m => by rw [Bool.eq_iff_iff, beq_iff_eq, beq_iff_eq]; omega
 have hnn : ∀ x : ByteArray, x.toList = x.data.toList := ByteArray.toList_eq
 clear hn hs
 go_enter Tryz.func119, Tryz.ntmps119
 go_wp2_with (first | (go_at_call 105; refine (KL.out _).mono ?_; rintro e w2 ⟨rfl, rfl⟩) | (go_at_call 147; with_reducible refine (KN.out _).mono ?_; rintro e w2 ⟨rfl, rfl⟩) | (go_at_call 147; with_reducible refine (KS.out _).mono ?_; rintro e w2 ⟨rfl, rfl⟩) | (go_at_call 146; refine (KK.out _).mono ?_; rintro e w2 ⟨rfl, rfl⟩))
 all_goals go_ret
 all_goals refine ⟨ret_bool ?_, ?_⟩
 all_goals first
  | exact ((Ext.refl w).alloc _).alloc _
  | exact (((Ext.refl w).alloc _).alloc _).drew
  | exact (((((Ext.refl w).alloc _).alloc _).setCell (p := ⟨w.heap.size + 1, _, none⟩) (Nat.le_succ _) _).setCell (p := ⟨w.heap.size + 1, _, none⟩) (Nat.le_succ _) _).drew
  | (simp_all [fldB, numStyleB]; done)
set_option maxHeartbeats 4000000 in
theorem fields_8 (t n s : ByteArray) (Ac : Option Addr) (nc cc : Nat) (Ap : Option Addr) (np cp : Nat) (w : World) (hn : n.size ≤ maxLen) (hs : s.size ≤ maxLen) :
 Calls Tryz.prog 119 #[.agg #[.int .i64 8, .string t, .string n, .string s, .slice Ac nc cc, .slice Ap np cp]] w fun e w' => e = .returned (.bool (fldB 8 t.data.toList n.data.toList s.data.toList (nc == 0) (np == 0))) ∧ Ext w w' := by
 have KL := hid (fun W => sel_any 8 W)
 have KN := hid (fun W => tname_any n W hn)
 have KS := hid (fun W => tname_any s W hs)
 have KK := hid (fun W => skel_any s W hs)
 have hnm : nameB [] = false := name_nil
 have hni : ∀ m : Nat, ((m : Int) == 0) = (m == 0) := fun m => by rw [Bool.eq_iff_iff, beq_iff_eq, beq_iff_eq]; omega
 have hnn : ∀ x : ByteArray, x.toList = x.data.toList := ByteArray.toList_eq
 clear hn hs
 go_enter Tryz.func119, Tryz.ntmps119
 go_wp2_with (first | (go_at_call 105; refine (KL.out _).mono ?_; rintro e w2 ⟨rfl, rfl⟩) | (go_at_call 147; with_reducible refine (KN.out _).mono ?_; rintro e w2 ⟨rfl, rfl⟩) | (go_at_call 147; with_reducible refine (KS.out _).mono ?_; rintro e w2 ⟨rfl, rfl⟩) | (go_at_call 146; refine (KK.out _).mono ?_; rintro e w2 ⟨rfl, rfl⟩))
 all_goals go_ret
 all_goals refine ⟨ret_bool ?_, ?_⟩
 all_goals first
  | exact ((Ext.refl w).alloc _).alloc _
  | exact (((Ext.refl w).alloc _).alloc _).drew
  | exact (((((Ext.refl w).alloc _).alloc _).setCell (p := ⟨w.heap.size + 1, _, none⟩) (Nat.le_succ _) _).setCell (p := ⟨w.heap.size + 1, _, none⟩) (Nat.le_succ _) _).drew
  | (simp_all [fldB, numStyleB]; done)
set_option maxHeartbeats 4000000 in
theorem fields_9 (t n s : ByteArray) (Ac : Option Addr) (nc cc : Nat) (Ap : Option Addr) (np cp : Nat) (w : World) (hn : n.size ≤ maxLen) (hs : s.size ≤ maxLen) :
 Calls Tryz.prog 119 #[.agg #[.int .i64 9, .string t, .string n, .string s, .slice Ac nc cc, .slice Ap np cp]] w fun e w' => e = .returned (.bool (fldB 9 t.data.toList n.data.toList s.data.toList (nc == 0) (np == 0))) ∧ Ext w w' := by
 have KL := hid (fun W => sel_any 9 W)
 have KN := hid (fun W => tname_any n W hn)
 have KS := hid (fun W => tname_any s W hs)
 have KK := hid (fun W => skel_any s W hs)
 have hnm : nameB [] = false := name_nil
 have hni : ∀ m : Nat, ((m : Int) == 0) = (m == 0) := fun m => by rw [Bool.eq_iff_iff, beq_iff_eq, beq_iff_eq]; omega
 have hnn : ∀ x : ByteArray, x.toList = x.data.toList := ByteArray.toList_eq
 clear hn hs
 go_enter Tryz.func119, Tryz.ntmps119
 go_wp2_with (first | (go_at_call 105; refine (KL.out _).mono ?_; rintro e w2 ⟨rfl, rfl⟩) | (go_at_call 147; with_reducible refine (KN.out _).mono ?_; rintro e w2 ⟨rfl, rfl⟩) | (go_at_call 147; with_reducible refine (KS.out _).mono ?_; rintro e w2 ⟨rfl, rfl⟩) | (go_at_call 146; refine (KK.out _).mono ?_; rintro e w2 ⟨rfl, rfl⟩))
 all_goals go_ret
 all_goals refine ⟨ret_bool ?_, ?_⟩
 all_goals first
  | exact ((Ext.refl w).alloc _).alloc _
  | exact (((Ext.refl w).alloc _).alloc _).drew
  | exact (((((Ext.refl w).alloc _).alloc _).setCell (p := ⟨w.heap.size + 1, _, none⟩) (Nat.le_succ _) _).setCell (p := ⟨w.heap.size + 1, _, none⟩) (Nat.le_succ _) _).drew
  | (simp_all [fldB, numStyleB]; done)
set_option maxHeartbeats 4000000 in
theorem fields_o (k : Int) (hk : k ≠ 1 ∧ k ≠ 10 ∧ k ≠ 2 ∧ k ≠ 3 ∧ k ≠ 5 ∧ k ≠ 4 ∧ k ≠ 6 ∧ k ≠ 11 ∧ k ≠ 7 ∧ k ≠ 8 ∧ k ≠ 9) (t n s : ByteArray) (Ac : Option Addr) (nc cc : Nat) (Ap : Option Addr) (np cp : Nat) (w : World) (hn : n.size ≤ maxLen) (hs : s.size ≤ maxLen) :
 Calls Tryz.prog 119 #[.agg #[.int .i64 k, .string t, .string n, .string s, .slice Ac nc cc, .slice Ap np cp]] w fun e w' => e = .returned (.bool (fldB k t.data.toList n.data.toList s.data.toList (nc == 0) (np == 0))) ∧ Ext w w' := by
 have KL := hid (fun W => sel_any k W)
 have KN := hid (fun W => tname_any n W hn)
 have KS := hid (fun W => tname_any s W hs)
 have KK := hid (fun W => skel_any s W hs)
 have hnm : nameB [] = false := name_nil
 have hni : ∀ m : Nat, ((m : Int) == 0) = (m == 0) := fun m => by rw [Bool.eq_iff_iff, beq_iff_eq, beq_iff_eq]; omega
 have hnn : ∀ x : ByteArray, x.toList = x.data.toList := ByteArray.toList_eq
 have b1 : (k == 1) = false := by rw [beq_eq_false_iff_ne]; omega
 have d1 : (k != 1) = true := by rw [bne_iff_ne]; omega
 have b10 : (k == 10) = false := by rw [beq_eq_false_iff_ne]; omega
 have d10 : (k != 10) = true := by rw [bne_iff_ne]; omega
 have b2 : (k == 2) = false := by rw [beq_eq_false_iff_ne]; omega
 have d2 : (k != 2) = true := by rw [bne_iff_ne]; omega
 have b3 : (k == 3) = false := by rw [beq_eq_false_iff_ne]; omega
 have d3 : (k != 3) = true := by rw [bne_iff_ne]; omega
 have b5 : (k == 5) = false := by rw [beq_eq_false_iff_ne]; omega
 have d5 : (k != 5) = true := by rw [bne_iff_ne]; omega
 have b4 : (k == 4) = false := by rw [beq_eq_false_iff_ne]; omega
 have d4 : (k != 4) = true := by rw [bne_iff_ne]; omega
 have b6 : (k == 6) = false := by rw [beq_eq_false_iff_ne]; omega
 have d6 : (k != 6) = true := by rw [bne_iff_ne]; omega
 have b11 : (k == 11) = false := by rw [beq_eq_false_iff_ne]; omega
 have d11 : (k != 11) = true := by rw [bne_iff_ne]; omega
 have b7 : (k == 7) = false := by rw [beq_eq_false_iff_ne]; omega
 have d7 : (k != 7) = true := by rw [bne_iff_ne]; omega
 have b8 : (k == 8) = false := by rw [beq_eq_false_iff_ne]; omega
 have d8 : (k != 8) = true := by rw [bne_iff_ne]; omega
 have b9 : (k == 9) = false := by rw [beq_eq_false_iff_ne]; omega
 have d9 : (k != 9) = true := by rw [bne_iff_ne]; omega
 clear hn hs
 go_enter Tryz.func119, Tryz.ntmps119
 go_wp2_with (first | (go_at_call 105; refine (KL.out _).mono ?_; rintro e w2 ⟨rfl, rfl⟩) | (go_at_call 147; with_reducible refine (KN.out _).mono ?_; rintro e w2 ⟨rfl, rfl⟩) | (go_at_call 147; with_reducible refine (KS.out _).mono ?_; rintro e w2 ⟨rfl, rfl⟩) | (go_at_call 146; refine (KK.out _).mono ?_; rintro e w2 ⟨rfl, rfl⟩))
 all_goals go_ret
 all_goals refine ⟨ret_bool ?_, ?_⟩
 all_goals first
  | exact ((Ext.refl w).alloc _).alloc _
  | exact (((Ext.refl w).alloc _).alloc _).drew
  | exact (((((Ext.refl w).alloc _).alloc _).setCell (p := ⟨w.heap.size + 1, _, none⟩) (Nat.le_succ _) _).setCell (p := ⟨w.heap.size + 1, _, none⟩) (Nat.le_succ _) _).drew
  | (simp_all [fldB, numStyleB]; done)
theorem fields_any (k : Int) (t n s : ByteArray) (Ac : Option Addr) (nc cc : Nat) (Ap : Option Addr) (np cp : Nat) (w : World) (hn : n.size ≤ maxLen) (hs : s.size ≤ maxLen) :
 Calls Tryz.prog 119 #[.agg #[.int .i64 k, .string t, .string n, .string s, .slice Ac nc cc, .slice Ap np cp]] w fun e w' => e = .returned (.bool (fldB k t.data.toList n.data.toList s.data.toList (nc == 0) (np == 0))) ∧ Ext w w' := by
 by_cases h1 : k = 1
 ·subst h1; exact fields_1 t n s Ac nc cc Ap np cp w hn hs
 by_cases h10 : k = 10
 ·subst h10; exact fields_10 t n s Ac nc cc Ap np cp w hn hs
 by_cases h2 : k = 2
 ·subst h2; exact fields_2 t n s Ac nc cc Ap np cp w hn hs
 by_cases h3 : k = 3
 ·subst h3; exact fields_3 t n s Ac nc cc Ap np cp w hn hs
 by_cases h5 : k = 5
 ·subst h5; exact fields_5 t n s Ac nc cc Ap np cp w hn hs
 by_cases h4 : k = 4
 ·subst h4; exact fields_4 t n s Ac nc cc Ap np cp w hn hs
 by_cases h6 : k = 6
 ·subst h6; exact fields_6 t n s Ac nc cc Ap np cp w hn hs
 by_cases h11 : k = 11
 ·subst h11; exact fields_11 t n s Ac nc cc Ap np cp w hn hs
 by_cases h7 : k = 7
 ·subst h7; exact fields_7 t n s Ac nc cc Ap np cp w hn hs
 by_cases h8 : k = 8
 ·subst h8; exact fields_8 t n s Ac nc cc Ap np cp w hn hs
 by_cases h9 : k = 9
 ·subst h9; exact fields_9 t n s Ac nc cc Ap np cp w hn hs
 exact fields_o k ⟨h1, h10, h2, h3, h5, h4, h6, h11, h7, h8, h9⟩ t n s Ac nc cc Ap np cp w hn hs
end Go.Proofs.YtiijdojihleggaaGreatDoor
