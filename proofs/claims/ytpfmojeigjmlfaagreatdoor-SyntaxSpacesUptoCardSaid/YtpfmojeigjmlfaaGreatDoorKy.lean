import Derived.Test.YtpfmojeigjmlfaaGreatDoorUs
import Derived.Test.YtpfmojeigjmlfaaGreatDoorNPC
import Derived.Test.YtpfmojeigjmlfaaGreatDoorDec
namespace Go.Proofs.YtpfmojeigjmlfaaGreatDoor
open Go.RowKit
set_option linter.unusedSimpArgs false
set_option linter.unusedVariables false

/-! The key of a case, by the program. -/
theorem hp_one (c : UInt8) (m : By) : Lib.hasPrefix m [c] = (m.head? == some c) := by
  cases m with
  | nil => rfl
  | cons a m =>
    show ((c : UInt8) == a && true) = (some a == some c)
    rw [Bool.and_true, Bool.eq_iff_iff, beq_iff_eq, beq_iff_eq]
    exact ⟨fun e => by rw [e], fun e => (Option.some.inj e).symm⟩
set_option maxHeartbeats 1000000 in
set_option maxRecDepth 100000 in
theorem key_any (k : Nat) (s : ByteArray) (w : World) (hm : Mx w) (hs : s.size ≤ 1048576) : Calls Tryz.prog 151 #[.int .i64 k, .string s] w fun e w' => e = .returned (.bool (keyB k s.data.toList)) ∧ Ext w w' := by
  by_cases h9 : k = 9
  · subst h9
    have K := Lib.hid (tname_any s w (by unfold maxLen; omega))
    have HF := Lib.hid (show keyB 9 s.data.toList = nameB s.data.toList from if_pos rfl)
    generalize keyB 9 s.data.toList = R at HF ⊢
    go_enter Tryz.func151, Tryz.ntmps151
    go_wp2_with fail
    refine K.out.mono ?_
    rintro e w2 ⟨rfl, rfl⟩
    go_wp2
    go_ret
    exact ⟨ret_bool HF.out.symm, Ext.refl _⟩
  have b9 : ((k : Int) == 9) = false := by rw [beq_eq_false_iff_ne]; omega
  have hF : keyB k s.data.toList = (classB s.data.toList || (s.data.toList.head? == some 61 && decB (s.data.toList.drop 1))) := if_neg h9
  rw [← hp_one] at hF
  have K1 : ∀ W, Calls Tryz.prog 155 #[.string s, .string ⟨#[61]⟩] W fun e w' => e = .returned (.tuple #[.string ⟨(Lib.trimPrefix s.data.toList [61]).toArray⟩, .bool (Lib.hasPrefix s.data.toList [61])]) ∧ w' = W := fun W => Tryz.strings_CutPrefix s ⟨#[61]⟩ W
  obtain ⟨D, hD⟩ : ∃ D : ByteArray, D = ⟨(Lib.trimPrefix s.data.toList [61]).toArray⟩ := ⟨_, rfl⟩
  rw [← hD] at K1
  have hDs : D.size ≤ 1048576 := by
    rw [hD]
    show (Lib.trimPrefix s.data.toList [61]).length ≤ _
    have : (Lib.trimPrefix s.data.toList [61]).length ≤ s.data.toList.length := by
      unfold Lib.trimPrefix
      split
      · exact (List.drop_sublist _ _).length_le
      · exact Nat.le_refl _
    rw [size_list] at this
    omega
  have hDd : Lib.hasPrefix s.data.toList [61] = true → D.data.toList = s.data.toList.drop 1 := fun h => by
    rw [hD]
    show Lib.trimPrefix s.data.toList [61] = _
    unfold Lib.trimPrefix
    rw [if_pos h]
    rfl
  have HK1 := Lib.hid K1
  have K2 := Lib.hid (fun W => class_any s W)
  have K3 := Lib.hid (fun W (hW : Mx W) => tdec_any D W hW hDs)
  have HM := Lib.hid hm
  have HF := Lib.hid hF
  generalize keyB k s.data.toList = R at HF ⊢
  clear hF K1 hD hm
  cases hc : classB s.data.toList
  · rw [hc] at K2
    cases hp : Lib.hasPrefix s.data.toList [61]
    · have HG := Lib.hid (show R = false from by rw [HF.out, hc, hp]; rfl)
      rw [hp] at HK1
      clear hc hp hDd HF
      go_enter Tryz.func151, Tryz.ntmps151
      go_wp2_with fail
      refine (HK1.out _).mono ?_
      rintro e w2 ⟨rfl, rfl⟩
      go_wp2_with fail
      refine (K2.out _).mono ?_
      rintro e w3 ⟨rfl, rfl⟩
      go_wp2
      go_ret
      exact ⟨ret_bool HG.out.symm, Ext.refl _⟩
    · have HG := Lib.hid (show R = decB D.data.toList from by rw [HF.out, hc, hp, hDd hp]; rfl)
      rw [hp] at HK1
      clear hc hp hDd HF
      generalize decB D.data.toList = dd at K3 HG
      go_enter Tryz.func151, Tryz.ntmps151
      go_wp2_with fail
      refine (HK1.out _).mono ?_
      rintro e w2 ⟨rfl, rfl⟩
      go_wp2_with fail
      refine (K2.out _).mono ?_
      rintro e w3 ⟨rfl, rfl⟩
      go_wp2_with fail
      refine (K3.out _ HM.out).mono ?_
      rintro e w4 ⟨rfl, hx⟩
      have HX := Lib.hid hx
      clear hx
      cases dd
      all_goals
        go_wp2
        go_ret
        exact ⟨ret_bool HG.out.symm, HX.out⟩
  · rw [hc] at K2
    have HG := Lib.hid (show R = true from by rw [HF.out, hc]; rfl)
    clear hc hDd HF
    go_enter Tryz.func151, Tryz.ntmps151
    go_wp2_with fail
    refine (HK1.out _).mono ?_
    rintro e w2 ⟨rfl, rfl⟩
    go_wp2_with fail
    refine (K2.out _).mono ?_
    rintro e w3 ⟨rfl, rfl⟩
    go_wp2
    go_ret
    exact ⟨ret_bool HG.out.symm, Ext.refl _⟩
/-- The key's test in the parser: of the kind that its cell holds. -/
theorem key1_any (k : Nat) (T : TypeId) (b : Nat) (s : ByteArray) (w : World) (hk : AtC T w b #[.int .i64 k]) (hm : Mx w) (hs : s.size ≤ 1048576) :
    Calls Tryz.prog 158 #[.string s, .pointer (some ⟨b, 0, none⟩)] w fun e w' => e = .returned (.bool (keyB k s.data.toList)) ∧ Ext w w' := by
  have K := Lib.hid (key_any k s w hm hs)
  have h0 := hk.cell 0 _ rfl
  go_enter Tryz.func158, Tryz.ntmps158
  go_wp2_with fail
  refine K.out.mono ?_
  rintro e w2 ⟨rfl, hx⟩
  go_wp2
  go_ret
  exact ⟨rfl, hx⟩
theorem use_get (n : By) : (getA usesL n).getD 0 = (useP n : Int) := by
  by_cases h1 : n = [110, 117, 109, 98, 101, 114]
  · subst h1
    decide
  by_cases h2 : n = [117, 110, 105, 116]
  · subst h2
    decide
  by_cases h3 : n = [100, 97, 116, 101]
  · subst h3
    decide
  by_cases h4 : n = [108, 105, 115, 116]
  · subst h4
    decide
  by_cases h5 : n = [112, 108, 117, 114, 97, 108]
  · subst h5
    decide
  by_cases h6 : n = [111, 114, 100, 105, 110, 97, 108]
  · subst h6
    decide
  by_cases h7 : n = [115, 101, 108, 101, 99, 116]
  · subst h7
    decide
  unfold useP usesL
  rw [if_neg h1, if_neg h2, if_neg h3, if_neg h4, if_neg h5, if_neg h6, if_neg h7]
  simp only [getA]
  rw [if_neg (fun e => h7 e.symm), if_neg (fun e => h6 e.symm), if_neg (fun e => h5 e.symm), if_neg (fun e => h4 e.symm), if_neg (fun e => h3 e.symm), if_neg (fun e => h2 e.symm), if_neg (fun e => h1 e.symm)]
  rfl
/-- The test of a use in the parser. -/
theorem known_any (T : TypeId) (b tb : Nat) (s : ByteArray) (w : World) (hk : AtC T w b #[.map (some tb)]) (hm : MapI Tryz.prog 9 3 w tb 7 usesL) (hs : s.size ≤ 1048576) :
    Calls Tryz.prog 134 #[.string s, .pointer (some ⟨b, 0, none⟩)] w fun e w' => e = .returned (.bool (useP s.data.toList != 0)) ∧ w' = w := by
  have h0 := hk.cell 0 _ rfl
  have hz : (zeroValue 3).run Tryz.prog w = .ok (.int .i64 0) w := by kernel_rfl
  have hu := use_get s.data.toList
  go_enter Tryz.func134, Tryz.ntmps134
  go_wp2_with (first
    | (at_lookup; refine wpList_lookupI rfl _ _ 68 9 3 rfl Tryz.underlying9 Tryz.underlying3 Tryz.underlying68 hz tb 7 usesL rfl hm s rfl (by unfold maxLen; omega) ?_; rw [hu]))
  go_ret
  refine ⟨ret_bool ?_, rfl⟩
  rw [Bool.eq_iff_iff, bne_iff_ne, bne_iff_ne]
  omega
end Go.Proofs.YtpfmojeigjmlfaaGreatDoor
