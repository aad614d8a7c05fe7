import Derived.Test.YtblkpgglkhmggaaGreatDoorRDec
import Derived.Test.YtblkpgglkhmggaaGreatDoorSh
namespace Go.Proofs.YtblkpgglkhmggaaGreatDoor
open Go.RowKit
set_option linter.unusedSimpArgs false
set_option linter.unusedVariables false

/-! Proper values. -/
def propB (t : Int) (s : By) (d : Int) (ln : Nat) : Bool :=
  if t = 1 then (d == 0) && ((ln : Int) == 0)
  else if t = 2 then decB s && ((d == 0) && ((ln : Int) == 0))
  else if t = 3 then s.isEmpty && ((ln : Int) == 0)
  else if t = 4 then s.isEmpty && (d == 0)
  else false
set_option maxRecDepth 100000 in
set_option maxHeartbeats 2000000 in
theorem tproper_any (n s : ByteArray) (t d : Int) (A : Option Addr) (ln c : Nat) (w : World) (hm : Mx w) (hs : s.size ≤ 1048576) :
    Calls Tryz.prog 21 #[.agg #[.string n, .int .i64 t, .string s, .int .i64 d, .slice A ln c]] w fun e w' => e = .returned (.bool (propB t s.data.toList d ln)) ∧ Ext w w' := by
  have HX := Lib.hid ((Ext.refl w).alloc (.cells #[.string n, .int .i64 t, .string s, .int .i64 d, .slice A ln c] 45))
  have HG := Lib.hid (AtC.new w #[.string n, .int .i64 t, .string s, .int .i64 d, .slice A ln c] : AtC 45 _ _ _)
  have HK := Lib.hid (fun W h => tdec_any s W h hs)
  have HMX := Lib.hid (hm.ext HX.out)
  obtain ⟨se, hse⟩ : ∃ se, s.toList.isEmpty = se := ⟨_, rfl⟩
  obtain ⟨dz, hdz⟩ : ∃ dz, (d == 0) = dz := ⟨_, rfl⟩
  obtain ⟨lz, hlz⟩ : ∃ lz, ((ln : Int) == 0) = lz := ⟨_, rfl⟩
  have HP := Lib.hid (show propB t s.data.toList d ln = if t = 1 then dz && lz else if t = 2 then decB s.data.toList && (dz && lz) else if t = 3 then se && lz else if t = 4 then se && dz else false from by
    unfold propB; rw [← hdz, ← hlz, ← hse, ByteArray.toList_eq])
  generalize propB t s.data.toList d ln = pb at HP ⊢
  generalize decB s.data.toList = db at HP HK
  clear hm hs
  by_cases t1 : t = 1
  · subst t1
    have HF := Lib.hid (show pb = (dz && lz) from by rw [HP.out, if_pos rfl])
    clear hse
    go_enter Tryz.func21, Tryz.ntmps21
    cases dz
    · go_wp2
      go_ret
      exact ⟨ret_bool HF.out.symm, HX.out⟩
    · cases lz
      · go_wp2
        go_ret
        exact ⟨ret_bool HF.out.symm, HX.out⟩
      · go_wp2
        go_ret
        exact ⟨ret_bool HF.out.symm, HX.out⟩
  have q1 : (t == 1) = false := by simpa using t1
  by_cases t2 : t = 2
  · subst t2
    have HF := Lib.hid (show pb = (db && (dz && lz)) from by rw [HP.out, if_neg (by decide), if_pos rfl])
    clear hse
    go_enter Tryz.func21, Tryz.ntmps21
    go_wp2_with fail
    refine (HK.out _ HMX.out).mono ?_
    rintro e w2 ⟨rfl, hw2⟩
    have HW2 := Lib.hid (HX.out.trans hw2)
    have c3 := (HG.out.ext hw2).cell 3 _ rfl
    have c4 := (HG.out.ext hw2).cell 4 _ rfl
    clear hw2
    cases db
    · go_wp2
      go_ret
      exact ⟨ret_bool HF.out.symm, HW2.out⟩
    cases dz
    · go_wp2
      go_ret
      exact ⟨ret_bool HF.out.symm, HW2.out⟩
    · cases lz
      · go_wp2
        go_ret
        exact ⟨ret_bool HF.out.symm, HW2.out⟩
      · go_wp2
        go_ret
        exact ⟨ret_bool HF.out.symm, HW2.out⟩
  have q2 : (t == 2) = false := by simpa using t2
  by_cases t3 : t = 3
  · subst t3
    have HF := Lib.hid (show pb = (se && lz) from by rw [HP.out, if_neg (by decide), if_neg (by decide), if_pos rfl])
    clear hdz
    go_enter Tryz.func21, Tryz.ntmps21
    cases se
    · go_wp2
      go_ret
      exact ⟨ret_bool HF.out.symm, HX.out⟩
    · cases lz
      · go_wp2
        go_ret
        exact ⟨ret_bool HF.out.symm, HX.out⟩
      · go_wp2
        go_ret
        exact ⟨ret_bool HF.out.symm, HX.out⟩
  have q3 : (t == 3) = false := by simpa using t3
  by_cases t4 : t = 4
  · subst t4
    have HF := Lib.hid (show pb = (se && dz) from by rw [HP.out, if_neg (by decide), if_neg (by decide), if_neg (by decide), if_pos rfl])
    clear hlz
    go_enter Tryz.func21, Tryz.ntmps21
    cases se
    · go_wp2
      go_ret
      exact ⟨ret_bool HF.out.symm, HX.out⟩
    · cases dz
      · go_wp2
        go_ret
        exact ⟨ret_bool HF.out.symm, HX.out⟩
      · go_wp2
        go_ret
        exact ⟨ret_bool HF.out.symm, HX.out⟩
  have q4 : (t == 4) = false := by simpa using t4
  have HF := Lib.hid (show pb = false from by rw [HP.out, if_neg t1, if_neg t2, if_neg t3, if_neg t4])
  clear hse hdz hlz
  go_enter Tryz.func21, Tryz.ntmps21
  go_wp2
  go_ret
  exact ⟨ret_bool HF.out.symm, HX.out⟩
set_option maxRecDepth 100000 in
set_option maxHeartbeats 2000000 in
theorem rproper_any (n s : ByteArray) (t d : Int) (A : Option Addr) (ln c : Nat) (w : World) (hs : s.size ≤ 1048576) :
    Calls Tryz.prog 22 #[.agg #[.string n, .int .i64 t, .string s, .int .i64 d, .slice A ln c]] w fun e w' => e = .returned (.bool (propB t s.data.toList d ln)) ∧ Ext w w' := by
  have HX := Lib.hid ((Ext.refl w).alloc (.cells #[.string n, .int .i64 t, .string s, .int .i64 d, .slice A ln c] 45))
  have HG := Lib.hid (AtC.new w #[.string n, .int .i64 t, .string s, .int .i64 d, .slice A ln c] : AtC 45 _ _ _)
  have HK := Lib.hid (fun W => rdec_any s W hs)
  obtain ⟨se, hse⟩ : ∃ se, s.toList.isEmpty = se := ⟨_, rfl⟩
  obtain ⟨dz, hdz⟩ : ∃ dz, (d == 0) = dz := ⟨_, rfl⟩
  obtain ⟨lz, hlz⟩ : ∃ lz, ((ln : Int) == 0) = lz := ⟨_, rfl⟩
  have HP := Lib.hid (show propB t s.data.toList d ln = if t = 1 then dz && lz else if t = 2 then decB s.data.toList && (dz && lz) else if t = 3 then se && lz else if t = 4 then se && dz else false from by
    unfold propB; rw [← hdz, ← hlz, ← hse, ByteArray.toList_eq])
  generalize propB t s.data.toList d ln = pb at HP ⊢
  generalize decB s.data.toList = db at HP HK
  clear hs
  by_cases t1 : t = 1
  · subst t1
    have HF := Lib.hid (show pb = (dz && lz) from by rw [HP.out, if_pos rfl])
    clear hse
    cases dz
    all_goals cases lz
    all_goals
      go_enter Tryz.func22, Tryz.ntmps22
      go_wp2
      go_ret
      exact ⟨ret_bool HF.out.symm, HX.out⟩
  by_cases t2 : t = 2
  · subst t2
    have HF := Lib.hid (show pb = (db && (dz && lz)) from by rw [HP.out, if_neg (by decide), if_pos rfl])
    clear hse
    cases db
    · go_enter Tryz.func22, Tryz.ntmps22
      go_wp2_with fail
      refine (HK.out _).mono ?_
      rintro e w2 ⟨rfl, hw2⟩
      have HW2 := Lib.hid (HX.out.trans hw2)
      clear hw2
      go_wp2
      go_ret
      exact ⟨ret_bool HF.out.symm, HW2.out⟩
    cases dz
    all_goals cases lz
    all_goals
      go_enter Tryz.func22, Tryz.ntmps22
      go_wp2_with fail
      refine (HK.out _).mono ?_
      rintro e w2 ⟨rfl, hw2⟩
      have HW2 := Lib.hid (HX.out.trans hw2)
      have c1 := (HG.out.ext hw2).cell 1 _ rfl
      have c2 := (HG.out.ext hw2).cell 2 _ rfl
      have c3 := (HG.out.ext hw2).cell 3 _ rfl
      have c4 := (HG.out.ext hw2).cell 4 _ rfl
      clear hw2
      go_wp2
      go_ret
      exact ⟨ret_bool HF.out.symm, HW2.out⟩
  by_cases t3 : t = 3
  · subst t3
    have HF := Lib.hid (show pb = (se && lz) from by rw [HP.out, if_neg (by decide), if_neg (by decide), if_pos rfl])
    clear hdz
    cases se
    all_goals cases lz
    all_goals
      go_enter Tryz.func22, Tryz.ntmps22
      go_wp2
      go_ret
      exact ⟨ret_bool HF.out.symm, HX.out⟩
  by_cases t4 : t = 4
  · subst t4
    have HF := Lib.hid (show pb = (se && dz) from by rw [HP.out, if_neg (by decide), if_neg (by decide), if_neg (by decide), if_pos rfl])
    clear hlz
    cases se
    all_goals cases dz
    all_goals
      go_enter Tryz.func22, Tryz.ntmps22
      go_wp2
      go_ret
      exact ⟨ret_bool HF.out.symm, HX.out⟩
  have HF := Lib.hid (show pb = false from by rw [HP.out, if_neg t1, if_neg t2, if_neg t3, if_neg t4])
  have q1 : (t == 1) = false := by simpa using t1
  have q2 : (t == 2) = false := by simpa using t2
  clear hse hdz hlz
  by_cases h1 : t < 1
  · go_enter Tryz.func22, Tryz.ntmps22
    go_wp2
    go_ret
    exact ⟨ret_bool HF.out.symm, HX.out⟩
  · have h4 : 4 < t := by omega
    go_enter Tryz.func22, Tryz.ntmps22
    go_wp2
    go_ret
    exact ⟨ret_bool HF.out.symm, HX.out⟩
theorem rfits_any (n s : ByteArray) (t d u : Int) (A : Option Addr) (ln c : Nat) (w : World) (hs : s.size ≤ 1048576) :
    Calls Tryz.prog 58 #[.agg #[.string n, .int .i64 t, .string s, .int .i64 d, .slice A ln c], .int .i64 u] w fun e w' => e = .returned (.bool (propB t s.data.toList d ln && accB t u)) ∧ Ext w w' := by
  have HX := Lib.hid ((Ext.refl w).alloc (.cells #[.string n, .int .i64 t, .string s, .int .i64 d, .slice A ln c] 45))
  have HG := Lib.hid (AtC.new w #[.string n, .int .i64 t, .string s, .int .i64 d, .slice A ln c] : AtC 45 _ _ _)
  have HK := Lib.hid (fun W => rproper_any n s t d A ln c W hs)
  generalize propB t s.data.toList d ln = pb at HK ⊢
  obtain ⟨ac, hac⟩ : ∃ ac, ac = accB t u := ⟨_, rfl⟩
  have HAC := Lib.hid hac
  rw [← hac]
  clear hac
  cases pb
  · go_enter Tryz.func58, Tryz.ntmps58
    go_wp2_with fail
    refine (HK.out _).mono ?_
    rintro e w2 ⟨rfl, hw2⟩
    have HW2 := Lib.hid (HX.out.trans hw2)
    clear hw2
    go_wp2
    go_ret
    exact ⟨rfl, HW2.out⟩
  · go_enter Tryz.func58, Tryz.ntmps58
    go_wp2_with fail
    refine (HK.out _).mono ?_
    rintro e w2 ⟨rfl, hw2⟩
    have HW2 := Lib.hid (HX.out.trans hw2)
    have c1 := (HG.out.ext hw2).cell 1 _ rfl
    clear hw2
    go_wp2
    all_goals go_ret
    all_goals exact ⟨ret_bool (by rw [HAC.out]; unfold accB; simp_all [bne]), HW2.out⟩
end Go.Proofs.YtblkpgglkhmggaaGreatDoor
