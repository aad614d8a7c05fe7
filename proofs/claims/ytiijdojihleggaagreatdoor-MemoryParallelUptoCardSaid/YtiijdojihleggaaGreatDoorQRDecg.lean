import Derived.Test.YtiijdojihleggaaGreatDoorQDec
import Derived.Test.YtiijdojihleggaaGreatDoorQNPO
import Derived.Test.YtiijdojihleggaaGreatDoorQGe
set_option maxRecDepth 100000
set_option linter.unusedSimpArgs false
set_option linter.unusedVariables false
open Go.Lib (hid)
namespace Go.Proofs.YtiijdojihleggaaGreatDoor
open Go.RowKit
def AlI (s : ByteArray) (p : UInt8 → Bool) (w : World) (i : Value) (wr : World) : Prop := ∃ k : Nat, k ≤ s.size ∧ i = .int .i64 k ∧ (s.data.toList.take k).all p = true ∧ w = wr
theorem rdigits_any (s : ByteArray) (w : World) (hs : s.size ≤ maxLen) : Calls Tryz.prog 189 #[.string s] w fun e w' => e = .returned (.bool (s.data.toList.all digB)) ∧ w = w' := by
 unfold maxLen at hs
 obtain ⟨R, hR⟩ : ∃ R, R = s.data.toList.all digB := ⟨_, rfl⟩
 rw [← hR]
 have HR := hid hR
 clear hR
 go_enter Tryz.func189, Tryz.ntmps189
 go_wp2_with fail
 go_loopw [3] (AlI s digB w) (fun i _ => s.size - (intOf i).toNat)
 case atStart => exact ⟨0, Nat.zero_le _, rfl, rfl, rfl⟩
 case round =>
  obtain ⟨k, hk, rfl, ha, rfl⟩ := hrel
  by_cases hks : k < s.size
  ·have hkI : (k : Int) < (s.size : Int) := by omega
   cases hd : digB s[k]
   ·have HS := hid (all_stopI (p := digB) hks hd)
    have h1 : (s[k].toNat : Int) < 48 ∨ (57 : Int) < (s[k].toNat : Int) := by
     unfold digB at hd
     rw [Bool.and_eq_false_iff, decide_eq_false_iff_not, decide_eq_false_iff_not, UInt8.le_iff_toNat_le, UInt8.le_iff_toNat_le] at hd
     have e1 : (48 : UInt8).toNat = 48 := rfl
     have e2 : (57 : UInt8).toNat = 57 := rfl
     omega
    clear ha hd
    rcases h1 with h1 | h1
    ·go_wp2
     go_ret
     exact ⟨ret_bool (HS.out.symm.trans HR.out.symm), rfl⟩
    ·have h2 : ¬ (s[k].toNat : Int) < 48 := by omega
     go_wp2
     go_ret
     exact ⟨ret_bool (HS.out.symm.trans HR.out.symm), rfl⟩
   ·have HS := hid (all_stepI ha hks hd)
    have h1 : ¬ (s[k].toNat : Int) < 48 ∧ ¬ (57 : Int) < (s[k].toNat : Int) := by
     unfold digB at hd
     rw [Bool.and_eq_true, decide_eq_true_iff, decide_eq_true_iff, UInt8.le_iff_toNat_le, UInt8.le_iff_toNat_le] at hd
     have e1 : (48 : UInt8).toNat = 48 := rfl
     have e2 : (57 : UInt8).toNat = 57 := rfl
     omega
    obtain ⟨h1, h2⟩ := h1
    clear ha hd
    go_wp2
    exact ⟨⟨k + 1, hks, by go_num, HS.out, rfl⟩, by simp [intOf]; omega⟩
  ·have HE := hid (all_endI ha hks)
   clear ha
   have hkI : ¬ (k : Int) < (s.size : Int) := by omega
   go_wp2
   go_ret
   exact ⟨ret_bool (HE.out.symm.trans HR.out.symm), rfl⟩
theorem rzero_any (s : ByteArray) (w : World) (hs : s.size ≤ maxLen) : Calls Tryz.prog 190 #[.string s] w fun e w' => e = .returned (.bool (s.data.toList.all (· == 48))) ∧ w = w' := by
 unfold maxLen at hs
 obtain ⟨R, hR⟩ : ∃ R, R = s.data.toList.all (· == 48) := ⟨_, rfl⟩
 rw [← hR]
 have HR := hid hR
 clear hR
 go_enter Tryz.func190, Tryz.ntmps190
 go_wp2_with fail
 go_loopw [3] (AlI s (· == 48) w) (fun i _ => s.size - (intOf i).toNat)
 case atStart => exact ⟨0, Nat.zero_le _, rfl, rfl, rfl⟩
 case round =>
  obtain ⟨k, hk, rfl, ha, rfl⟩ := hrel
  by_cases hks : k < s.size
  ·have hkI : (k : Int) < (s.size : Int) := by omega
   cases hd : (s[k] == 48)
   ·have HS := hid (all_stopI (p := (· == 48)) hks hd)
    have h1 : ((s[k].toNat : Int) != 48) = true := by
     rw [bne_iff_ne]
     intro e
     rw [beq_eq_false_iff_ne] at hd
     exact hd (UInt8.toNat_inj.1 (by have : (48 : UInt8).toNat = 48 := rfl; omega))
    clear ha hd
    go_wp2
    go_ret
    exact ⟨ret_bool (HS.out.symm.trans HR.out.symm), rfl⟩
   ·have HS := hid (all_stepI ha hks hd)
    have h1 : ((s[k].toNat : Int) != 48) = false := by
     rw [beq_iff_eq] at hd
     rw [hd]; rfl
    clear ha hd
    go_wp2
    exact ⟨⟨k + 1, hks, by go_num, HS.out, rfl⟩, by simp [intOf]; omega⟩
  ·have HE := hid (all_endI ha hks)
   clear ha
   have hkI : ¬ (k : Int) < (s.size : Int) := by omega
   go_wp2
   go_ret
   exact ⟨ret_bool (HE.out.symm.trans HR.out.symm), rfl⟩
theorem dotW_no : ∀ (q : By) (k : Nat) (x : UInt8), k < (dotW q).length → q[k]? = some x → x ≠ 46
 | [], k, x, h, hx => by simp at hx
 | b :: l, k, x, h, hx => by
   unfold dotW at h
   rw [List.takeWhile_cons] at h
   split at h
   ·rename_i hb
    cases k with
    | zero => simp at hx; subst hx; simpa using hb
    | succ k => exact dotW_no l k x (by unfold dotW; simpa using h) (by simpa using hx)
   ·simp at h
theorem dotW_at : ∀ (q : By) (x : UInt8), q[(dotW q).length]? = some x → x = 46
 | [], x, hx => by simp at hx
 | b :: l, x, hx => by
   unfold dotW at hx
   rw [List.takeWhile_cons] at hx
   split at hx
   ·exact dotW_at l x (by unfold dotW; simpa using hx)
   ·rename_i hb
    simp at hx hb
    rw [← hx]; exact hb
theorem decN_alt (g pt : Bool) (WH FR : ByteArray) (h : pt = true → ¬ FR.size = 0) : decN g WH.data.toList FR.data.toList pt = (WH.data.toList.all digB && FR.data.toList.all digB && (decide (1 ≤ WH.size) && decide (WH.size ≤ 15) && !(decide (1 < WH.size) && (WH.data.toList.headD 0 == 48)) && decide (FR.size ≤ 6) && !(g && (WH.data.toList.all (· == 48) && FR.data.toList.all (· == 48))))) := by
 have e1 : (pt && decide (FR.size = 0)) = false := by
  cases pt
  ·rfl
  ·simpa using h rfl
 unfold decN
 rw [size_list, size_list, e1]
 have e2 : decide (WH.size < 1) = !decide (1 ≤ WH.size) := by rw [Bool.eq_iff_iff]; simp
 have e3 : decide (15 < WH.size) = !decide (WH.size ≤ 15) := by rw [Bool.eq_iff_iff]; simp
 have e4 : decide (6 < FR.size) = !decide (FR.size ≤ 6) := by rw [Bool.eq_iff_iff]; simp
 rw [e2, e3, e4]
 generalize WH.data.toList.all digB = a1
 generalize FR.data.toList.all digB = a2
 generalize decide (1 ≤ WH.size) = a3
 generalize decide (WH.size ≤ 15) = a4
 generalize (decide (1 < WH.size) && (WH.data.toList.headD 0 == 48)) = a5
 generalize decide (FR.size ≤ 6) = a6
 generalize (g && (WH.data.toList.all (· == 48) && FR.data.toList.all (· == 48))) = a7
 revert a1 a2 a3 a4 a5 a6 a7
 decide
def DkI (n : Nat) (w : World) (i : Value) (wr : World) : Prop := ∃ k : Nat, k ≤ n ∧ i = .int .i64 k ∧ w = wr
def RgB (w : World) (s : ByteArray) (t : Value) (wr : World) : Prop := t = .bool (negB s.data.toList) ∧ w = wr
def RgD (w : World) (s : ByteArray) (t0 : Value) (wr : World) : Prop := ∃ RS : ByteArray, t0 = .string RS ∧ RS.data.toList = restP s.data.toList ∧ AtC 218 wr (w.heap.size + 1) #[.bool (negB s.data.toList), .string ⟨#[]⟩, .string ⟨#[]⟩] ∧ AtC 218 wr w.heap.size #[.bool false, .string ⟨#[]⟩, .string ⟨#[]⟩] ∧ Ext w wr
def RetSq (w : World) (ok : Bool) (e : Ending) (w' : World) : Prop := ∃ (g : Bool) (a b : ByteArray), e = .returned (.tuple #[.agg #[.bool g, .string a, .string b], .bool ok]) ∧ Ext w w'
theorem at_set3b {T : TypeId} {w : World} {g : Nat} {a0 a1 a2 b1 : Value} (h : AtC T w g #[a0, a1, a2]) : AtC T (w.setCell ⟨g, 1, none⟩ b1) g #[a0, b1, a2] := by
 unfold AtC at h ⊢
 simp only [World.setCell, Array.getElem?_modify, if_true, h]
 rfl
theorem at_set3c {T : TypeId} {w : World} {g : Nat} {a0 a1 a2 b1 : Value} (h : AtC T w g #[a0, a1, a2]) : AtC T (w.setCell ⟨g, 2, none⟩ b1) g #[a0, a1, b1] := by
 unfold AtC at h ⊢
 simp only [World.setCell, Array.getElem?_modify, if_true, h]
 rfl
theorem at_set3a {T : TypeId} {w : World} {g : Nat} {a0 a1 a2 b1 : Value} (h : AtC T w g #[a0, a1, a2]) : AtC T (w.setCell ⟨g, 0, none⟩ b1) g #[b1, a1, a2] := by
 unfold AtC at h ⊢
 simp only [World.setCell, Array.getElem?_modify, if_true, h]
 rfl
theorem AtC.other {T : TypeId} {w : World} {g : Nat} {cs : Array Value} (h : AtC T w g cs) {p : Addr} (hp : p.block ≠ g) (u : Value) : AtC T (w.setCell p u) g cs := by
 unfold AtC at h ⊢
 rw [World.setCell, Array.getElem?_modify, if_neg hp]
 exact h
set_option maxHeartbeats 4000000 in
theorem rsplit_any (s : ByteArray) (w : World) (hs : s.size ≤ 1048576) : Calls Tryz.prog 167 #[.string s] w (RetSq w (decB s.data.toList)) := by
 obtain ⟨ok, hok⟩ : ∃ ok, ok = decB s.data.toList := ⟨_, rfl⟩
 have HD := hid (decB_eq s.data.toList)
 rw [← hok] at HD ⊢
 clear hok
 have HX := hid (show Ext w ((w.alloc (.cells #[.bool false, .string ⟨#[]⟩, .string ⟨#[]⟩] 218)).alloc (.cells #[.bool false, .string ⟨#[]⟩, .string ⟨#[]⟩] 218)) from ((Ext.refl w).alloc _).alloc _)
 have HB := hid ((AtC.new w #[.bool false, .string ⟨#[]⟩, .string ⟨#[]⟩] : AtC 218 _ _ _).alloc (.cells #[.bool false, .string ⟨#[]⟩, .string ⟨#[]⟩] 218))
 have HG := hid (AtC.new (w.alloc (.cells #[.bool false, .string ⟨#[]⟩, .string ⟨#[]⟩] 218)) #[.bool false, .string ⟨#[]⟩, .string ⟨#[]⟩] : AtC 218 _ _ _)
 rw [show (w.alloc (.cells #[.bool false, .string ⟨#[]⟩, .string ⟨#[]⟩] 218)).heap.size = w.heap.size + 1 from by simp] at HG
 obtain ⟨W0, hW0⟩ : ∃ W0, W0 = (w.alloc (.cells #[.bool false, .string ⟨#[]⟩, .string ⟨#[]⟩] 218)).alloc (.cells #[.bool false, .string ⟨#[]⟩, .string ⟨#[]⟩] 218) := ⟨_, rfl⟩
 rw [← hW0] at HX HB HG
 go_enter Tryz.func167, Tryz.ntmps167
 go_upto_region 2 with (fail)
 rw [← hW0]
 clear hW0
 go_cut [13] (RgB W0 s)
 case first =>
  by_cases hn : negB s.data.toList = true
  ·have h0 : 0 < s.size ∧ ∀ h : 0 < s.size, s[0] = 45 := by
    unfold negB at hn
    cases hl : s.data.toList with
    | nil => rw [hl] at hn; cases hn
    | cons b r =>
      rw [hl] at hn
      simp at hn
      have hz : s.size = r.length + 1 := by rw [← size_list, hl]; rfl
      refine ⟨by omega, fun h => ?_⟩
      have e := get_list s 0 h
      rw [← e]
      simp [hl, hn]
   obtain ⟨h1, h2⟩ := h0
   have h3 := h2 h1
   have h4 : (s[0].toNat : Int) = 45 := by rw [h3]; rfl
   have h5 : (0 : Int) < (s.size : Int) := by omega
   have HN := hid hn
   clear h2 h3 hn
   go_wp2
   go_meet
   exact ⟨by rw [HN.out], rfl⟩
  ·have h0 : s.size = 0 ∨ (0 < s.size ∧ ∀ h : 0 < s.size, s[0] ≠ 45) := by
    unfold negB at hn
    cases hl : s.data.toList with
    | nil => left; rw [← size_list, hl]; rfl
    | cons b r =>
      rw [hl] at hn
      simp at hn
      have hz : s.size = r.length + 1 := by rw [← size_list, hl]; rfl
      refine .inr ⟨by omega, fun h => ?_⟩
      have e := get_list s 0 h
      rw [← e]
      simp [hl, hn]
   have HN : Hid (negB s.data.toList = false) := hid (by simpa using hn)
   clear hn
   rcases h0 with h0 | ⟨h1, h2⟩
   ·have h5 : ¬ (0 : Int) < (s.size : Int) := by omega
    go_wp2
    go_meet
    exact ⟨by rw [HN.out], rfl⟩
   ·have h5 : (0 : Int) < (s.size : Int) := by omega
    have h4 : ((s[0].toNat : Int) == 45) = false := by
     rw [beq_eq_false_iff_ne]
     intro e
     exact h2 h1 (UInt8.toNat_inj.1 (by have : (45 : UInt8).toNat = 45 := rfl; omega))
    clear h2
    go_wp2
    go_meet
    exact ⟨by rw [HN.out], rfl⟩
 case rest =>
 obtain ⟨rfl, rfl⟩ := hcut
 go_upto_if 13 with (fail)
 go_cut [0] (RgD w s)
 case first =>
  cases hn : negB s.data.toList
  ·have HRS : Hid (s.data.toList = restP s.data.toList) := hid (by unfold restP; rw [hn]; rfl)
   have HN := hid hn
   clear hn
   go_wp2
   go_meet
   exact ⟨s, rfl, HRS.out, by rw [HN.out]; exact HG.out, HB.out, HX.out⟩
  ·have HRS : Hid ((s.extract 1 s.size).data.toList = restP s.data.toList) := hid (by
    unfold restP
    rw [if_pos hn]
    simp [ByteArray.data_extract, List.extract_eq_take_drop]
    rw [List.take_of_length_le]
    simp)
   have h1 : 1 ≤ s.size := by
    unfold negB at hn
    cases hl : s.data.toList with
    | nil => rw [hl] at hn; cases hn
    | cons b r =>
      have hz : s.size = r.length + 1 := by rw [← size_list, hl]; rfl
      omega
   have HN := hid hn
   have f0 := frz_of HG.out 0
   have y0 := HG.out.cell 0 _ rfl
   have h2 : (1 : Int) ≤ (s.size : Int) := by omega
   have HRZ := hid (show AtC 218 (W0.setCell ⟨w.heap.size + 1, 0, none⟩ (.bool true)) (w.heap.size + 1) #[.bool true, .string ⟨#[]⟩, .string ⟨#[]⟩] from at_set3a HG.out)
   have HRB := hid (show AtC 218 (W0.setCell ⟨w.heap.size + 1, 0, none⟩ (.bool true)) w.heap.size #[.bool false, .string ⟨#[]⟩, .string ⟨#[]⟩] from HB.out.other (by simp) _)
   have HRX := hid (show Ext w (W0.setCell ⟨w.heap.size + 1, 0, none⟩ (.bool true)) from HX.out.setCell (by simp) _)
   clear hn
   go_wp2_with fail
   go_region_law (fail)
   all_goals go_wp2
   all_goals go_meet
   all_goals exact ⟨s.extract 1 s.size, rfl, HRS.out, by rw [HN.out]; exact HRZ.out.ext (Ext.refl _).drew, HRB.out.ext (Ext.refl _).drew, HRX.out.drew⟩
 case rest =>
  obtain ⟨RS, rfl, hrs, hg, hb, hx⟩ := hcut
  obtain ⟨W1, hW1⟩ : ∃ W1 : World, W1 = wc := ⟨_, rfl⟩
  rw [← hW1] at hg hb hx ⊢
  clear hW1
  have hrl : RS.size ≤ 1048576 := by
   have h : RS.data.toList.length ≤ 1048576 := by
    rw [hrs]
    have h2 : s.data.toList.length ≤ 1048576 := hs
    unfold restP
    split
    ·rw [List.length_drop]; omega
    ·exact h2
   exact h
  rw [← hrs] at HD
  have HG1 := hid hg
  have HB1 := hid hb
  have HX1 := hid hx
  have hdl := dotW_le RS.data.toList
  have hno := fun k x => dotW_no RS.data.toList k x
  have hat := fun x => dotW_at RS.data.toList x
  have htk := dotW_take RS.data.toList
  obtain ⟨n, hn⟩ : ∃ n, n = (dotW RS.data.toList).length := ⟨_, rfl⟩
  rw [← hn] at hdl hno hat htk HD
  have hdl' : n ≤ RS.size := hdl
  generalize negB s.data.toList = g at HD HG1
  have HNO := hid (fun (k : Nat) (h : k < RS.size) (h2 : k < n) => hno k RS[k] h2 (by rw [List.getElem?_eq_getElem (by rw [size_list]; exact h), get_list RS k h]))
  have HAT := hid (fun (h : n < RS.size) => hat RS[n] (by rw [List.getElem?_eq_getElem (by rw [size_list]; exact h), get_list RS n h]))
  have ew : (RS.extract 0 n).data.toList = dotW RS.data.toList := by
   rw [← htk]
   simp [ByteArray.data_extract, List.extract_eq_take_drop]
  have ef : (RS.extract (n + 1) RS.size).data.toList = RS.data.toList.drop (n + 1) := by
   simp [ByteArray.data_extract, List.extract_eq_take_drop]
   rw [List.take_of_length_le]
   simp
  rw [← ew, ← ef] at HD
  have HNL := hid hn
  have HEW := hid ew
  clear hno hat hg hb hx hrs hs ew ef htk hdl HG HB HX hn
  go_wp2_with fail
  go_loopw [5] (DkI n W1) (fun i _ => n - (intOf i).toNat)
  case atStart => exact ⟨0, Nat.zero_le _, rfl, rfl⟩
  case round =>
   obtain ⟨k, hk, rfl, rfl⟩ := hrel
   by_cases hkn : k < n
   ·have hkI : (k : Int) < (RS.size : Int) := by omega
    have h46 : ((RS[k].toNat : Int) != 46) = true := by
     rw [bne_iff_ne]
     intro e
     exact HNO.out k (by omega) hkn (UInt8.toNat_inj.1 (by have : (46 : UInt8).toNat = 46 := rfl; omega))
    go_wp2
    exact ⟨⟨k + 1, hkn, by go_num, rfl⟩, by simp [intOf]; omega⟩
   ·have hkk : k = n := by omega
    subst hkk
    obtain ⟨WH, hWH⟩ : ∃ WH, WH = RS.extract 0 k := ⟨_, rfl⟩
    rw [← hWH] at HD
    have HWH := hid hWH.symm
    have swh : WH.size ≤ 1048576 := by rw [hWH, ByteArray.size_extract]; omega
    have hkI : (0 : Int) ≤ (k : Int) := by omega
    have hkz : (k : Int) ≤ (RS.size : Int) := by omega
    by_cases hks : k < RS.size
    ·have hkI2 : (k : Int) < (RS.size : Int) := by omega
     have h46 : ((RS[k].toNat : Int) != 46) = false := by rw [HAT.out hks]; rfl
     obtain ⟨FR, hFR⟩ : ∃ FR, FR = RS.extract (k + 1) RS.size := ⟨_, rfl⟩
     rw [← hFR] at HD
     have HFR := hid hFR.symm
     have sfr : FR.size ≤ 1048576 := by rw [hFR, ByteArray.size_extract]; omega
     have hs1 : (k : Int) + 1 ≤ (RS.size : Int) := by omega
     have hs0 : (0 : Int) ≤ (k : Int) + 1 := by omega
     have hpt : decide (k < RS.data.toList.length) = true := by rw [size_list]; simpa using hks
     rw [hpt] at HD
     have f1 := frz_of HG1.out 1
     have y1 := HG1.out.cell 1 _ rfl
     have f2 := frz_of (at_set3b (b1 := .string (RS.extract 0 k)) HG1.out) 2
     have y2 := (at_set3b (b1 := .string (RS.extract 0 k)) HG1.out).cell 2 _ rfl
     clear hWH hFR hpt
     go_upto_region 10 with (fail)
     rw [HWH.out, HFR.out]
     obtain ⟨W2, hW2⟩ : ∃ W2, W2 = (W1.setCell ⟨w.heap.size + 1, 1, none⟩ (.string WH)).setCell ⟨w.heap.size + 1, 2, none⟩ (.string FR) := ⟨_, rfl⟩
     rw [← hW2]
     have HG2 := hid (show AtC 218 W2 (w.heap.size + 1) #[.bool g, .string WH, .string FR] from by rw [hW2]; exact at_set3c (at_set3b HG1.out))
     have HB2 := hid (show AtC 218 W2 w.heap.size #[.bool false, .string ⟨#[]⟩, .string ⟨#[]⟩] from by rw [hW2]; exact (HB1.out.other (by simp) _).other (by simp) _)
     have HX2 := hid (show Ext w W2 from by rw [hW2]; exact (HX1.out.setCell (by simp) _).setCell (by simp) _)
     clear hW2 f1 f2 y1 y2
     have m2 := HG2.out.cell 2 _ rfl
     by_cases a0 : FR.size = 0
     ·have HF := hid (show ok = false from by rw [HD.out]; unfold decN; rw [show (FR.data.toList.length) = 0 from a0]; simp)
      have b0 : ((FR.size : Int) == 0) = true := by simp [a0]
      have b1 : (FR.size : Int) = 0 := by omega
      have f0 := frz_of HB2.out 0
      have f1 := frz_of HB2.out 1
      have f2 := frz_of HB2.out 2
      have y0 := HB2.out.cell 0 _ rfl
      have y1 := HB2.out.cell 1 _ rfl
      have y2 := HB2.out.cell 2 _ rfl
      go_wp2
      have hat := at_set3 (b0 := .bool false) (b1 := .string ⟨#[]⟩) (b2 := .string ⟨#[]⟩) HB2.out
      have z0 := hat.cell 0 _ rfl
      have z1 := hat.cell 1 _ rfl
      have z2 := hat.cell 2 _ rfl
      clear hat f0 f1 f2 y0 y1 y2
      refine bodyPost_ret (v := .tuple #[.agg #[.bool false, .string ⟨#[]⟩, .string ⟨#[]⟩], .bool false]) (by rw [results_cell_tmp rfl]; go_simp) rfl ?_
      rw [HF.out]
      exact ⟨false, ⟨#[]⟩, ⟨#[]⟩, rfl, (((HX2.out.setCell (Nat.le_refl _) _).setCell (Nat.le_refl _) _).setCell (Nat.le_refl _) _)⟩
     have b0 : ((FR.size : Int) == 0) = false := by rw [beq_eq_false_iff_ne]; omega
     have HD2 := hid (show ok = (WH.data.toList.all digB && FR.data.toList.all digB && (decide (1 ≤ WH.size) && decide (WH.size ≤ 15) && !(decide (1 < WH.size) && (WH.data.toList.headD 0 == 48)) && decide (FR.size ≤ 6) && !(g && (WH.data.toList.all (· == 48) && FR.data.toList.all (· == 48))))) from HD.out.trans (decN_alt g true WH FR (fun _ => a0)))
     go_upto_region 12 with (fail)
     clear m2
     have HK3 : Hid (∀ W, Calls Tryz.prog 189 #[.string (WH ++ FR)] W fun e w' => e = .returned (.bool (WH.data.toList.all digB && FR.data.toList.all digB)) ∧ W = w') := hid (fun W => by
      have h := rdigits_any (WH ++ FR) W (by rw [ByteArray.size_append]; unfold maxLen; omega)
      rwa [show (WH ++ FR).data.toList.all digB = (WH.data.toList.all digB && FR.data.toList.all digB) from by rw [ByteArray.data_append, Array.toList_append, List.all_append]] at h)
     have HK4 : Hid (∀ W, Calls Tryz.prog 190 #[.string (WH ++ FR)] W fun e w' => e = .returned (.bool (WH.data.toList.all (· == 48) && FR.data.toList.all (· == 48))) ∧ W = w') := hid (fun W => by
      have h := rzero_any (WH ++ FR) W (by rw [ByteArray.size_append]; unfold maxLen; omega)
      rwa [show (WH ++ FR).data.toList.all (· == 48) = (WH.data.toList.all (· == 48) && FR.data.toList.all (· == 48)) from by rw [ByteArray.data_append, Array.toList_append, List.all_append]] at h)
     clear HD HWH HNO HAT HG1 HB1 HX1 HEW HNL
     have n0 := HG2.out.cell 0 _ rfl
     have n1 := HG2.out.cell 1 _ rfl
     have n2 := HG2.out.cell 2 _ rfl
     cases a1 : (WH.data.toList.all digB && FR.data.toList.all digB)
     ·have HF := hid (show ok = false from by rw [HD2.out, a1]; rfl)
      rw [a1] at HK3
      clear a1
      go_wp2_with fail
      refine (HK3.out _).mono ?_
      rintro e w9 ⟨rfl, rfl⟩
      have f0 := frz_of HB2.out 0
      have f1 := frz_of HB2.out 1
      have f2 := frz_of HB2.out 2
      have y0 := HB2.out.cell 0 _ rfl
      have y1 := HB2.out.cell 1 _ rfl
      have y2 := HB2.out.cell 2 _ rfl
      go_wp2
      have hat := at_set3 (b0 := .bool false) (b1 := .string ⟨#[]⟩) (b2 := .string ⟨#[]⟩) HB2.out
      have z0 := hat.cell 0 _ rfl
      have z1 := hat.cell 1 _ rfl
      have z2 := hat.cell 2 _ rfl
      clear hat f0 f1 f2 y0 y1 y2
      refine bodyPost_ret (v := .tuple #[.agg #[.bool false, .string ⟨#[]⟩, .string ⟨#[]⟩], .bool false]) (by rw [results_cell_tmp rfl]; go_simp) rfl ?_
      rw [HF.out]
      exact ⟨false, ⟨#[]⟩, ⟨#[]⟩, rfl, (((HX2.out.setCell (Nat.le_refl _) _).setCell (Nat.le_refl _) _).setCell (Nat.le_refl _) _)⟩
     have HD3 := hid (show ok = (decide (1 ≤ WH.size) && decide (WH.size ≤ 15) && !(decide (1 < WH.size) && (WH.data.toList.headD 0 == 48)) && decide (FR.size ≤ 6) && !(g && (WH.data.toList.all (· == 48) && FR.data.toList.all (· == 48)))) from by rw [HD2.out, a1]; rfl)
     rw [a1] at HK3
     clear a1
     by_cases a2 : WH.size < 1
     ·have HF := hid (show ok = false from by rw [HD3.out]; simp; omega)
      have b2 : (WH.size : Int) < 1 := by omega
      go_wp2_with fail
      refine (HK3.out _).mono ?_
      rintro e w9 ⟨rfl, rfl⟩
      have f0 := frz_of HB2.out 0
      have f1 := frz_of HB2.out 1
      have f2 := frz_of HB2.out 2
      have y0 := HB2.out.cell 0 _ rfl
      have y1 := HB2.out.cell 1 _ rfl
      have y2 := HB2.out.cell 2 _ rfl
      go_wp2
      have hat := at_set3 (b0 := .bool false) (b1 := .string ⟨#[]⟩) (b2 := .string ⟨#[]⟩) HB2.out
      have z0 := hat.cell 0 _ rfl
      have z1 := hat.cell 1 _ rfl
      have z2 := hat.cell 2 _ rfl
      clear hat f0 f1 f2 y0 y1 y2
      refine bodyPost_ret (v := .tuple #[.agg #[.bool false, .string ⟨#[]⟩, .string ⟨#[]⟩], .bool false]) (by rw [results_cell_tmp rfl]; go_simp) rfl ?_
      rw [HF.out]
      exact ⟨false, ⟨#[]⟩, ⟨#[]⟩, rfl, (((HX2.out.setCell (Nat.le_refl _) _).setCell (Nat.le_refl _) _).setCell (Nat.le_refl _) _)⟩
     have b2 : ¬ (WH.size : Int) < 1 := by omega
     by_cases a3 : 15 < WH.size
     ·have HF := hid (show ok = false from by rw [HD3.out]; simp; omega)
      have b3 : (15 : Int) < (WH.size : Int) := by omega
      go_wp2_with fail
      refine (HK3.out _).mono ?_
      rintro e w9 ⟨rfl, rfl⟩
      have f0 := frz_of HB2.out 0
      have f1 := frz_of HB2.out 1
      have f2 := frz_of HB2.out 2
      have y0 := HB2.out.cell 0 _ rfl
      have y1 := HB2.out.cell 1 _ rfl
      have y2 := HB2.out.cell 2 _ rfl
      go_wp2
      have hat := at_set3 (b0 := .bool false) (b1 := .string ⟨#[]⟩) (b2 := .string ⟨#[]⟩) HB2.out
      have z0 := hat.cell 0 _ rfl
      have z1 := hat.cell 1 _ rfl
      have z2 := hat.cell 2 _ rfl
      clear hat f0 f1 f2 y0 y1 y2
      refine bodyPost_ret (v := .tuple #[.agg #[.bool false, .string ⟨#[]⟩, .string ⟨#[]⟩], .bool false]) (by rw [results_cell_tmp rfl]; go_simp) rfl ?_
      rw [HF.out]
      exact ⟨false, ⟨#[]⟩, ⟨#[]⟩, rfl, (((HX2.out.setCell (Nat.le_refl _) _).setCell (Nat.le_refl _) _).setCell (Nat.le_refl _) _)⟩
     have b3 : ¬ (15 : Int) < (WH.size : Int) := by omega
     have hp : 0 < WH.size := by omega
     rw [head_atI WH hp] at HD3
     by_cases a4 : 1 < WH.size ∧ WH[0]'hp = 48
     ·have HF := hid (show ok = false from by rw [HD3.out, a4.2]; simp [a4.1])
      have b4 : (1 : Int) < (WH.size : Int) := by omega
      have b5 : ((WH[0]'hp).toNat : Int) = 48 := by rw [a4.2]; rfl
      clear a4
      go_wp2_with fail
      refine (HK3.out _).mono ?_
      rintro e w9 ⟨rfl, rfl⟩
      have f0 := frz_of HB2.out 0
      have f1 := frz_of HB2.out 1
      have f2 := frz_of HB2.out 2
      have y0 := HB2.out.cell 0 _ rfl
      have y1 := HB2.out.cell 1 _ rfl
      have y2 := HB2.out.cell 2 _ rfl
      go_wp2
      have hat := at_set3 (b0 := .bool false) (b1 := .string ⟨#[]⟩) (b2 := .string ⟨#[]⟩) HB2.out
      have z0 := hat.cell 0 _ rfl
      have z1 := hat.cell 1 _ rfl
      have z2 := hat.cell 2 _ rfl
      clear hat f0 f1 f2 y0 y1 y2
      refine bodyPost_ret (v := .tuple #[.agg #[.bool false, .string ⟨#[]⟩, .string ⟨#[]⟩], .bool false]) (by rw [results_cell_tmp rfl]; go_simp) rfl ?_
      rw [HF.out]
      exact ⟨false, ⟨#[]⟩, ⟨#[]⟩, rfl, (((HX2.out.setCell (Nat.le_refl _) _).setCell (Nat.le_refl _) _).setCell (Nat.le_refl _) _)⟩
     have NE := hid (fun (h : 1 < WH.size) (e : WH[0]'hp = 48) => a4 ⟨h, e⟩)
     have e4 : (decide (1 < WH.size) && (WH[0]'hp == 48)) = false := by
      rw [Bool.and_eq_false_iff]
      by_cases h : 1 < WH.size
      ·exact .inr (by simpa using fun e => a4 ⟨h, e⟩)
      ·exact .inl (by simpa using h)
     rw [e4] at HD3
     clear a4 e4
     by_cases a4 : 1 < WH.size
     ·have b4 : (1 : Int) < (WH.size : Int) := by omega
      have b5 : (((WH[0]'hp).toNat : Int) == 48) = false := by
       rw [beq_eq_false_iff_ne]
       intro e
       exact NE.out a4 (UInt8.toNat_inj.1 (by have : (48 : UInt8).toNat = 48 := rfl; omega))
      clear a4
      by_cases a5 : 6 < FR.size
      ·have HF := hid (show ok = false from by rw [HD3.out]; simp; omega)
       have b6 : (6 : Int) < (FR.size : Int) := by omega
       go_wp2_with fail
       refine (HK3.out _).mono ?_
       rintro e w9 ⟨rfl, rfl⟩
       have f0 := frz_of HB2.out 0
       have f1 := frz_of HB2.out 1
       have f2 := frz_of HB2.out 2
       have y0 := HB2.out.cell 0 _ rfl
       have y1 := HB2.out.cell 1 _ rfl
       have y2 := HB2.out.cell 2 _ rfl
       go_wp2
       have hat := at_set3 (b0 := .bool false) (b1 := .string ⟨#[]⟩) (b2 := .string ⟨#[]⟩) HB2.out
       have z0 := hat.cell 0 _ rfl
       have z1 := hat.cell 1 _ rfl
       have z2 := hat.cell 2 _ rfl
       clear hat f0 f1 f2 y0 y1 y2
       refine bodyPost_ret (v := .tuple #[.agg #[.bool false, .string ⟨#[]⟩, .string ⟨#[]⟩], .bool false]) (by rw [results_cell_tmp rfl]; go_simp) rfl ?_
       rw [HF.out]
       exact ⟨false, ⟨#[]⟩, ⟨#[]⟩, rfl, (((HX2.out.setCell (Nat.le_refl _) _).setCell (Nat.le_refl _) _).setCell (Nat.le_refl _) _)⟩
      have b6 : ¬ (6 : Int) < (FR.size : Int) := by omega
      cases g
      ·have HF := hid (show ok = true from by rw [HD3.out]; simp; omega)
       go_wp2_with fail
       refine (HK3.out _).mono ?_
       rintro e w9 ⟨rfl, rfl⟩
       have f0 := frz_of HB2.out 0
       have f1 := frz_of HB2.out 1
       have f2 := frz_of HB2.out 2
       have y0 := HB2.out.cell 0 _ rfl
       have y1 := HB2.out.cell 1 _ rfl
       have y2 := HB2.out.cell 2 _ rfl
       go_wp2
       have hat := at_set3 (b0 := .bool false) (b1 := .string WH) (b2 := .string FR) HB2.out
       have z0 := hat.cell 0 _ rfl
       have z1 := hat.cell 1 _ rfl
       have z2 := hat.cell 2 _ rfl
       clear hat f0 f1 f2 y0 y1 y2
       refine bodyPost_ret (v := .tuple #[.agg #[.bool false, .string WH, .string FR], .bool true]) (by rw [results_cell_tmp rfl]; go_simp) rfl ?_
       rw [HF.out]
       exact ⟨false, WH, FR, rfl, (((HX2.out.setCell (Nat.le_refl _) _).setCell (Nat.le_refl _) _).setCell (Nat.le_refl _) _)⟩
      cases a6 : (WH.data.toList.all (· == 48) && FR.data.toList.all (· == 48))
      ·have HF := hid (show ok = true from by rw [HD3.out, a6]; simp; omega)
       rw [a6] at HK4
       clear a6
       go_wp2_with fail
       refine (HK3.out _).mono ?_
       rintro e w9 ⟨rfl, rfl⟩
       go_wp2_with fail
       refine (HK4.out _).mono ?_
       rintro e w9 ⟨rfl, rfl⟩
       have f0 := frz_of HB2.out 0
       have f1 := frz_of HB2.out 1
       have f2 := frz_of HB2.out 2
       have y0 := HB2.out.cell 0 _ rfl
       have y1 := HB2.out.cell 1 _ rfl
       have y2 := HB2.out.cell 2 _ rfl
       go_wp2
       have hat := at_set3 (b0 := .bool true) (b1 := .string WH) (b2 := .string FR) HB2.out
       have z0 := hat.cell 0 _ rfl
       have z1 := hat.cell 1 _ rfl
       have z2 := hat.cell 2 _ rfl
       clear hat f0 f1 f2 y0 y1 y2
       refine bodyPost_ret (v := .tuple #[.agg #[.bool true, .string WH, .string FR], .bool true]) (by rw [results_cell_tmp rfl]; go_simp) rfl ?_
       rw [HF.out]
       exact ⟨true, WH, FR, rfl, (((HX2.out.setCell (Nat.le_refl _) _).setCell (Nat.le_refl _) _).setCell (Nat.le_refl _) _)⟩
      ·have HF := hid (show ok = false from by rw [HD3.out, a6]; simp)
       rw [a6] at HK4
       clear a6
       go_wp2_with fail
       refine (HK3.out _).mono ?_
       rintro e w9 ⟨rfl, rfl⟩
       go_wp2_with fail
       refine (HK4.out _).mono ?_
       rintro e w9 ⟨rfl, rfl⟩
       have f0 := frz_of HB2.out 0
       have f1 := frz_of HB2.out 1
       have f2 := frz_of HB2.out 2
       have y0 := HB2.out.cell 0 _ rfl
       have y1 := HB2.out.cell 1 _ rfl
       have y2 := HB2.out.cell 2 _ rfl
       go_wp2
       have hat := at_set3 (b0 := .bool false) (b1 := .string ⟨#[]⟩) (b2 := .string ⟨#[]⟩) HB2.out
       have z0 := hat.cell 0 _ rfl
       have z1 := hat.cell 1 _ rfl
       have z2 := hat.cell 2 _ rfl
       clear hat f0 f1 f2 y0 y1 y2
       refine bodyPost_ret (v := .tuple #[.agg #[.bool false, .string ⟨#[]⟩, .string ⟨#[]⟩], .bool false]) (by rw [results_cell_tmp rfl]; go_simp) rfl ?_
       rw [HF.out]
       exact ⟨false, ⟨#[]⟩, ⟨#[]⟩, rfl, (((HX2.out.setCell (Nat.le_refl _) _).setCell (Nat.le_refl _) _).setCell (Nat.le_refl _) _)⟩
     ·have b4 : ¬ (1 : Int) < (WH.size : Int) := by omega
      clear a4
      by_cases a5 : 6 < FR.size
      ·have HF := hid (show ok = false from by rw [HD3.out]; simp; omega)
       have b6 : (6 : Int) < (FR.size : Int) := by omega
       go_wp2_with fail
       refine (HK3.out _).mono ?_
       rintro e w9 ⟨rfl, rfl⟩
       have f0 := frz_of HB2.out 0
       have f1 := frz_of HB2.out 1
       have f2 := frz_of HB2.out 2
       have y0 := HB2.out.cell 0 _ rfl
       have y1 := HB2.out.cell 1 _ rfl
       have y2 := HB2.out.cell 2 _ rfl
       go_wp2
       have hat := at_set3 (b0 := .bool false) (b1 := .string ⟨#[]⟩) (b2 := .string ⟨#[]⟩) HB2.out
       have z0 := hat.cell 0 _ rfl
       have z1 := hat.cell 1 _ rfl
       have z2 := hat.cell 2 _ rfl
       clear hat f0 f1 f2 y0 y1 y2
       refine bodyPost_ret (v := .tuple #[.agg #[.bool false, .string ⟨#[]⟩, .string ⟨#[]⟩], .bool false]) (by rw [results_cell_tmp rfl]; go_simp) rfl ?_
       rw [HF.out]
       exact ⟨false, ⟨#[]⟩, ⟨#[]⟩, rfl, (((HX2.out.setCell (Nat.le_refl _) _).setCell (Nat.le_refl _) _).setCell (Nat.le_refl _) _)⟩
      have b6 : ¬ (6 : Int) < (FR.size : Int) := by omega
      cases g
      ·have HF := hid (show ok = true from by rw [HD3.out]; simp; omega)
       go_wp2_with fail
       refine (HK3.out _).mono ?_
       rintro e w9 ⟨rfl, rfl⟩
       have f0 := frz_of HB2.out 0
       have f1 := frz_of HB2.out 1
       have f2 := frz_of HB2.out 2
       have y0 := HB2.out.cell 0 _ rfl
       have y1 := HB2.out.cell 1 _ rfl
       have y2 := HB2.out.cell 2 _ rfl
       go_wp2
       have hat := at_set3 (b0 := .bool false) (b1 := .string WH) (b2 := .string FR) HB2.out
       have z0 := hat.cell 0 _ rfl
       have z1 := hat.cell 1 _ rfl
       have z2 := hat.cell 2 _ rfl
       clear hat f0 f1 f2 y0 y1 y2
       refine bodyPost_ret (v := .tuple #[.agg #[.bool false, .string WH, .string FR], .bool true]) (by rw [results_cell_tmp rfl]; go_simp) rfl ?_
       rw [HF.out]
       exact ⟨false, WH, FR, rfl, (((HX2.out.setCell (Nat.le_refl _) _).setCell (Nat.le_refl _) _).setCell (Nat.le_refl _) _)⟩
      cases a6 : (WH.data.toList.all (· == 48) && FR.data.toList.all (· == 48))
      ·have HF := hid (show ok = true from by rw [HD3.out, a6]; simp; omega)
       rw [a6] at HK4
       clear a6
       go_wp2_with fail
       refine (HK3.out _).mono ?_
       rintro e w9 ⟨rfl, rfl⟩
       go_wp2_with fail
       refine (HK4.out _).mono ?_
       rintro e w9 ⟨rfl, rfl⟩
       have f0 := frz_of HB2.out 0
       have f1 := frz_of HB2.out 1
       have f2 := frz_of HB2.out 2
       have y0 := HB2.out.cell 0 _ rfl
       have y1 := HB2.out.cell 1 _ rfl
       have y2 := HB2.out.cell 2 _ rfl
       go_wp2
       have hat := at_set3 (b0 := .bool true) (b1 := .string WH) (b2 := .string FR) HB2.out
       have z0 := hat.cell 0 _ rfl
       have z1 := hat.cell 1 _ rfl
       have z2 := hat.cell 2 _ rfl
       clear hat f0 f1 f2 y0 y1 y2
       refine bodyPost_ret (v := .tuple #[.agg #[.bool true, .string WH, .string FR], .bool true]) (by rw [results_cell_tmp rfl]; go_simp) rfl ?_
       rw [HF.out]
       exact ⟨true, WH, FR, rfl, (((HX2.out.setCell (Nat.le_refl _) _).setCell (Nat.le_refl _) _).setCell (Nat.le_refl _) _)⟩
      ·have HF := hid (show ok = false from by rw [HD3.out, a6]; simp)
       rw [a6] at HK4
       clear a6
       go_wp2_with fail
       refine (HK3.out _).mono ?_
       rintro e w9 ⟨rfl, rfl⟩
       go_wp2_with fail
       refine (HK4.out _).mono ?_
       rintro e w9 ⟨rfl, rfl⟩
       have f0 := frz_of HB2.out 0
       have f1 := frz_of HB2.out 1
       have f2 := frz_of HB2.out 2
       have y0 := HB2.out.cell 0 _ rfl
       have y1 := HB2.out.cell 1 _ rfl
       have y2 := HB2.out.cell 2 _ rfl
       go_wp2
       have hat := at_set3 (b0 := .bool false) (b1 := .string ⟨#[]⟩) (b2 := .string ⟨#[]⟩) HB2.out
       have z0 := hat.cell 0 _ rfl
       have z1 := hat.cell 1 _ rfl
       have z2 := hat.cell 2 _ rfl
       clear hat f0 f1 f2 y0 y1 y2
       refine bodyPost_ret (v := .tuple #[.agg #[.bool false, .string ⟨#[]⟩, .string ⟨#[]⟩], .bool false]) (by rw [results_cell_tmp rfl]; go_simp) rfl ?_
       rw [HF.out]
       exact ⟨false, ⟨#[]⟩, ⟨#[]⟩, rfl, (((HX2.out.setCell (Nat.le_refl _) _).setCell (Nat.le_refl _) _).setCell (Nat.le_refl _) _)⟩
    ·have hkI2 : ¬ (k : Int) < (RS.size : Int) := by omega
     have f1 := frz_of HG1.out 1
     have y1 := HG1.out.cell 1 _ rfl
     have f2 := frz_of (at_set3b (b1 := .string (RS.extract 0 k)) HG1.out) 2
     have y2 := (at_set3b (b1 := .string (RS.extract 0 k)) HG1.out).cell 2 _ rfl
     clear hWH
     go_upto_region 12 with (fail)
     rw [HWH.out]
     obtain ⟨W2, hW2⟩ : ∃ W2, W2 = W1.setCell ⟨w.heap.size + 1, 1, none⟩ (.string WH) := ⟨_, rfl⟩
     rw [← hW2]
     obtain ⟨FR, hFR⟩ : ∃ FR : ByteArray, FR = ⟨#[]⟩ := ⟨_, rfl⟩
     have hFE : RS.extract (k + 1) RS.size = FR := by rw [hFR]; exact ByteArray.ext (by simp [ByteArray.data_extract, Array.extract_eq_empty_iff]; omega)
     have HG2 := hid (show AtC 218 W2 (w.heap.size + 1) #[.bool g, .string WH, .string FR] from by rw [hW2, hFR]; exact at_set3b HG1.out)
     have HB2 := hid (show AtC 218 W2 w.heap.size #[.bool false, .string ⟨#[]⟩, .string ⟨#[]⟩] from by rw [hW2]; exact HB1.out.other (by simp) _)
     have HX2 := hid (show Ext w W2 from by rw [hW2]; exact HX1.out.setCell (by simp) _)
     have sfr : FR.size ≤ 1048576 := by rw [hFR]; decide
     have hpt : decide (k < RS.data.toList.length) = false := by rw [size_list]; simpa using hks
     rw [hpt, hFE] at HD
     have HD2 := hid (show ok = (WH.data.toList.all digB && FR.data.toList.all digB && (decide (1 ≤ WH.size) && decide (WH.size ≤ 15) && !(decide (1 < WH.size) && (WH.data.toList.headD 0 == 48)) && decide (FR.size ≤ 6) && !(g && (WH.data.toList.all (· == 48) && FR.data.toList.all (· == 48))))) from HD.out.trans (decN_alt g false WH FR (fun h => by cases h)))
     clear hW2 f1 f2 y1 y2 hFE hpt hFR
     have HK3 : Hid (∀ W, Calls Tryz.prog 189 #[.string (WH ++ FR)] W fun e w' => e = .returned (.bool (WH.data.toList.all digB && FR.data.toList.all digB)) ∧ W = w') := hid (fun W => by
      have h := rdigits_any (WH ++ FR) W (by rw [ByteArray.size_append]; unfold maxLen; omega)
      rwa [show (WH ++ FR).data.toList.all digB = (WH.data.toList.all digB && FR.data.toList.all digB) from by rw [ByteArray.data_append, Array.toList_append, List.all_append]] at h)
     have HK4 : Hid (∀ W, Calls Tryz.prog 190 #[.string (WH ++ FR)] W fun e w' => e = .returned (.bool (WH.data.toList.all (· == 48) && FR.data.toList.all (· == 48))) ∧ W = w') := hid (fun W => by
      have h := rzero_any (WH ++ FR) W (by rw [ByteArray.size_append]; unfold maxLen; omega)
      rwa [show (WH ++ FR).data.toList.all (· == 48) = (WH.data.toList.all (· == 48) && FR.data.toList.all (· == 48)) from by rw [ByteArray.data_append, Array.toList_append, List.all_append]] at h)
     clear HD HWH HNO HAT HG1 HB1 HX1 HEW HNL
     have n0 := HG2.out.cell 0 _ rfl
     have n1 := HG2.out.cell 1 _ rfl
     have n2 := HG2.out.cell 2 _ rfl
     cases a1 : (WH.data.toList.all digB && FR.data.toList.all digB)
     ·have HF := hid (show ok = false from by rw [HD2.out, a1]; rfl)
      rw [a1] at HK3
      clear a1
      go_wp2_with fail
      refine (HK3.out _).mono ?_
      rintro e w9 ⟨rfl, rfl⟩
      have f0 := frz_of HB2.out 0
      have f1 := frz_of HB2.out 1
      have f2 := frz_of HB2.out 2
      have y0 := HB2.out.cell 0 _ rfl
      have y1 := HB2.out.cell 1 _ rfl
      have y2 := HB2.out.cell 2 _ rfl
      go_wp2
      have hat := at_set3 (b0 := .bool false) (b1 := .string ⟨#[]⟩) (b2 := .string ⟨#[]⟩) HB2.out
      have z0 := hat.cell 0 _ rfl
      have z1 := hat.cell 1 _ rfl
      have z2 := hat.cell 2 _ rfl
      clear hat f0 f1 f2 y0 y1 y2
      refine bodyPost_ret (v := .tuple #[.agg #[.bool false, .string ⟨#[]⟩, .string ⟨#[]⟩], .bool false]) (by rw [results_cell_tmp rfl]; go_simp) rfl ?_
      rw [HF.out]
      exact ⟨false, ⟨#[]⟩, ⟨#[]⟩, rfl, (((HX2.out.setCell (Nat.le_refl _) _).setCell (Nat.le_refl _) _).setCell (Nat.le_refl _) _)⟩
     have HD3 := hid (show ok = (decide (1 ≤ WH.size) && decide (WH.size ≤ 15) && !(decide (1 < WH.size) && (WH.data.toList.headD 0 == 48)) && decide (FR.size ≤ 6) && !(g && (WH.data.toList.all (· == 48) && FR.data.toList.all (· == 48)))) from by rw [HD2.out, a1]; rfl)
     rw [a1] at HK3
     clear a1
     by_cases a2 : WH.size < 1
     ·have HF := hid (show ok = false from by rw [HD3.out]; simp; omega)
      have b2 : (WH.size : Int) < 1 := by omega
      go_wp2_with fail
      refine (HK3.out _).mono ?_
      rintro e w9 ⟨rfl, rfl⟩
      have f0 := frz_of HB2.out 0
      have f1 := frz_of HB2.out 1
      have f2 := frz_of HB2.out 2
      have y0 := HB2.out.cell 0 _ rfl
      have y1 := HB2.out.cell 1 _ rfl
      have y2 := HB2.out.cell 2 _ rfl
      go_wp2
      have hat := at_set3 (b0 := .bool false) (b1 := .string ⟨#[]⟩) (b2 := .string ⟨#[]⟩) HB2.out
      have z0 := hat.cell 0 _ rfl
      have z1 := hat.cell 1 _ rfl
      have z2 := hat.cell 2 _ rfl
      clear hat f0 f1 f2 y0 y1 y2
      refine bodyPost_ret (v := .tuple #[.agg #[.bool false, .string ⟨#[]⟩, .string ⟨#[]⟩], .bool false]) (by rw [results_cell_tmp rfl]; go_simp) rfl ?_
      rw [HF.out]
      exact ⟨false, ⟨#[]⟩, ⟨#[]⟩, rfl, (((HX2.out.setCell (Nat.le_refl _) _).setCell (Nat.le_refl _) _).setCell (Nat.le_refl _) _)⟩
     have b2 : ¬ (WH.size : Int) < 1 := by omega
     by_cases a3 : 15 < WH.size
     ·have HF := hid (show ok = false from by rw [HD3.out]; simp; omega)
      have b3 : (15 : Int) < (WH.size : Int) := by omega
      go_wp2_with fail
      refine (HK3.out _).mono ?_
      rintro e w9 ⟨rfl, rfl⟩
      have f0 := frz_of HB2.out 0
      have f1 := frz_of HB2.out 1
      have f2 := frz_of HB2.out 2
      have y0 := HB2.out.cell 0 _ rfl
      have y1 := HB2.out.cell 1 _ rfl
      have y2 := HB2.out.cell 2 _ rfl
      go_wp2
      have hat := at_set3 (b0 := .bool false) (b1 := .string ⟨#[]⟩) (b2 := .string ⟨#[]⟩) HB2.out
      have z0 := hat.cell 0 _ rfl
      have z1 := hat.cell 1 _ rfl
      have z2 := hat.cell 2 _ rfl
      clear hat f0 f1 f2 y0 y1 y2
      refine bodyPost_ret (v := .tuple #[.agg #[.bool false, .string ⟨#[]⟩, .string ⟨#[]⟩], .bool false]) (by rw [results_cell_tmp rfl]; go_simp) rfl ?_
      rw [HF.out]
      exact ⟨false, ⟨#[]⟩, ⟨#[]⟩, rfl, (((HX2.out.setCell (Nat.le_refl _) _).setCell (Nat.le_refl _) _).setCell (Nat.le_refl _) _)⟩
     have b3 : ¬ (15 : Int) < (WH.size : Int) := by omega
     have hp : 0 < WH.size := by omega
     rw [head_atI WH hp] at HD3
     by_cases a4 : 1 < WH.size ∧ WH[0]'hp = 48
     ·have HF := hid (show ok = false from by rw [HD3.out, a4.2]; simp [a4.1])
      have b4 : (1 : Int) < (WH.size : Int) := by omega
      have b5 : ((WH[0]'hp).toNat : Int) = 48 := by rw [a4.2]; rfl
      clear a4
      go_wp2_with fail
      refine (HK3.out _).mono ?_
      rintro e w9 ⟨rfl, rfl⟩
      have f0 := frz_of HB2.out 0
      have f1 := frz_of HB2.out 1
      have f2 := frz_of HB2.out 2
      have y0 := HB2.out.cell 0 _ rfl
      have y1 := HB2.out.cell 1 _ rfl
      have y2 := HB2.out.cell 2 _ rfl
      go_wp2
      have hat := at_set3 (b0 := .bool false) (b1 := .string ⟨#[]⟩) (b2 := .string ⟨#[]⟩) HB2.out
      have z0 := hat.cell 0 _ rfl
      have z1 := hat.cell 1 _ rfl
      have z2 := hat.cell 2 _ rfl
      clear hat f0 f1 f2 y0 y1 y2
      refine bodyPost_ret (v := .tuple #[.agg #[.bool false, .string ⟨#[]⟩, .string ⟨#[]⟩], .bool false]) (by rw [results_cell_tmp rfl]; go_simp) rfl ?_
      rw [HF.out]
      exact ⟨false, ⟨#[]⟩, ⟨#[]⟩, rfl, (((HX2.out.setCell (Nat.le_refl _) _).setCell (Nat.le_refl _) _).setCell (Nat.le_refl _) _)⟩
     have NE := hid (fun (h : 1 < WH.size) (e : WH[0]'hp = 48) => a4 ⟨h, e⟩)
     have e4 : (decide (1 < WH.size) && (WH[0]'hp == 48)) = false := by
      rw [Bool.and_eq_false_iff]
      by_cases h : 1 < WH.size
      ·exact .inr (by simpa using fun e => a4 ⟨h, e⟩)
      ·exact .inl (by simpa using h)
     rw [e4] at HD3
     clear a4 e4
     by_cases a4 : 1 < WH.size
     ·have b4 : (1 : Int) < (WH.size : Int) := by omega
      have b5 : (((WH[0]'hp).toNat : Int) == 48) = false := by
       rw [beq_eq_false_iff_ne]
       intro e
       exact NE.out a4 (UInt8.toNat_inj.1 (by have : (48 : UInt8).toNat = 48 := rfl; omega))
      clear a4
      by_cases a5 : 6 < FR.size
      ·have HF := hid (show ok = false from by rw [HD3.out]; simp; omega)
       have b6 : (6 : Int) < (FR.size : Int) := by omega
       go_wp2_with fail
       refine (HK3.out _).mono ?_
       rintro e w9 ⟨rfl, rfl⟩
       have f0 := frz_of HB2.out 0
       have f1 := frz_of HB2.out 1
       have f2 := frz_of HB2.out 2
       have y0 := HB2.out.cell 0 _ rfl
       have y1 := HB2.out.cell 1 _ rfl
       have y2 := HB2.out.cell 2 _ rfl
       go_wp2
       have hat := at_set3 (b0 := .bool false) (b1 := .string ⟨#[]⟩) (b2 := .string ⟨#[]⟩) HB2.out
       have z0 := hat.cell 0 _ rfl
       have z1 := hat.cell 1 _ rfl
       have z2 := hat.cell 2 _ rfl
       clear hat f0 f1 f2 y0 y1 y2
       refine bodyPost_ret (v := .tuple #[.agg #[.bool false, .string ⟨#[]⟩, .string ⟨#[]⟩], .bool false]) (by rw [results_cell_tmp rfl]; go_simp) rfl ?_
       rw [HF.out]
       exact ⟨false, ⟨#[]⟩, ⟨#[]⟩, rfl, (((HX2.out.setCell (Nat.le_refl _) _).setCell (Nat.le_refl _) _).setCell (Nat.le_refl _) _)⟩
      have b6 : ¬ (6 : Int) < (FR.size : Int) := by omega
      cases g
      ·have HF := hid (show ok = true from by rw [HD3.out]; simp; omega)
       go_wp2_with fail
       refine (HK3.out _).mono ?_
       rintro e w9 ⟨rfl, rfl⟩
       have f0 := frz_of HB2.out 0
       have f1 := frz_of HB2.out 1
       have f2 := frz_of HB2.out 2
       have y0 := HB2.out.cell 0 _ rfl
       have y1 := HB2.out.cell 1 _ rfl
       have y2 := HB2.out.cell 2 _ rfl
       go_wp2
       have hat := at_set3 (b0 := .bool false) (b1 := .string WH) (b2 := .string FR) HB2.out
       have z0 := hat.cell 0 _ rfl
       have z1 := hat.cell 1 _ rfl
       have z2 := hat.cell 2 _ rfl
       clear hat f0 f1 f2 y0 y1 y2
       refine bodyPost_ret (v := .tuple #[.agg #[.bool false, .string WH, .string FR], .bool true]) (by rw [results_cell_tmp rfl]; go_simp) rfl ?_
       rw [HF.out]
       exact ⟨false, WH, FR, rfl, (((HX2.out.setCell (Nat.le_refl _) _).setCell (Nat.le_refl _) _).setCell (Nat.le_refl _) _)⟩
      cases a6 : (WH.data.toList.all (· == 48) && FR.data.toList.all (· == 48))
      ·have HF := hid (show ok = true from by rw [HD3.out, a6]; simp; omega)
       rw [a6] at HK4
       clear a6
       go_wp2_with fail
       refine (HK3.out _).mono ?_
       rintro e w9 ⟨rfl, rfl⟩
       go_wp2_with fail
       refine (HK4.out _).mono ?_
       rintro e w9 ⟨rfl, rfl⟩
       have f0 := frz_of HB2.out 0
       have f1 := frz_of HB2.out 1
       have f2 := frz_of HB2.out 2
       have y0 := HB2.out.cell 0 _ rfl
       have y1 := HB2.out.cell 1 _ rfl
       have y2 := HB2.out.cell 2 _ rfl
       go_wp2
       have hat := at_set3 (b0 := .bool true) (b1 := .string WH) (b2 := .string FR) HB2.out
       have z0 := hat.cell 0 _ rfl
       have z1 := hat.cell 1 _ rfl
       have z2 := hat.cell 2 _ rfl
       clear hat f0 f1 f2 y0 y1 y2
       refine bodyPost_ret (v := .tuple #[.agg #[.bool true, .string WH, .string FR], .bool true]) (by rw [results_cell_tmp rfl]; go_simp) rfl ?_
       rw [HF.out]
       exact ⟨true, WH, FR, rfl, (((HX2.out.setCell (Nat.le_refl _) _).setCell (Nat.le_refl _) _).setCell (Nat.le_refl _) _)⟩
      ·have HF := hid (show ok = false from by rw [HD3.out, a6]; simp)
       rw [a6] at HK4
       clear a6
       go_wp2_with fail
       refine (HK3.out _).mono ?_
       rintro e w9 ⟨rfl, rfl⟩
       go_wp2_with fail
       refine (HK4.out _).mono ?_
       rintro e w9 ⟨rfl, rfl⟩
       have f0 := frz_of HB2.out 0
       have f1 := frz_of HB2.out 1
       have f2 := frz_of HB2.out 2
       have y0 := HB2.out.cell 0 _ rfl
       have y1 := HB2.out.cell 1 _ rfl
       have y2 := HB2.out.cell 2 _ rfl
       go_wp2
       have hat := at_set3 (b0 := .bool false) (b1 := .string ⟨#[]⟩) (b2 := .string ⟨#[]⟩) HB2.out
       have z0 := hat.cell 0 _ rfl
       have z1 := hat.cell 1 _ rfl
       have z2 := hat.cell 2 _ rfl
       clear hat f0 f1 f2 y0 y1 y2
       refine bodyPost_ret (v := .tuple #[.agg #[.bool false, .string ⟨#[]⟩, .string ⟨#[]⟩], .bool false]) (by rw [results_cell_tmp rfl]; go_simp) rfl ?_
       rw [HF.out]
       exact ⟨false, ⟨#[]⟩, ⟨#[]⟩, rfl, (((HX2.out.setCell (Nat.le_refl _) _).setCell (Nat.le_refl _) _).setCell (Nat.le_refl _) _)⟩
     ·have b4 : ¬ (1 : Int) < (WH.size : Int) := by omega
      clear a4
      by_cases a5 : 6 < FR.size
      ·have HF := hid (show ok = false from by rw [HD3.out]; simp; omega)
       have b6 : (6 : Int) < (FR.size : Int) := by omega
       go_wp2_with fail
       refine (HK3.out _).mono ?_
       rintro e w9 ⟨rfl, rfl⟩
       have f0 := frz_of HB2.out 0
       have f1 := frz_of HB2.out 1
       have f2 := frz_of HB2.out 2
       have y0 := HB2.out.cell 0 _ rfl
       have y1 := HB2.out.cell 1 _ rfl
       have y2 := HB2.out.cell 2 _ rfl
       go_wp2
       have hat := at_set3 (b0 := .bool false) (b1 := .string ⟨#[]⟩) (b2 := .string ⟨#[]⟩) HB2.out
       have z0 := hat.cell 0 _ rfl
       have z1 := hat.cell 1 _ rfl
       have z2 := hat.cell 2 _ rfl
       clear hat f0 f1 f2 y0 y1 y2
       refine bodyPost_ret (v := .tuple #[.agg #[.bool false, .string ⟨#[]⟩, .string ⟨#[]⟩], .bool false]) (by rw [results_cell_tmp rfl]; go_simp) rfl ?_
       rw [HF.out]
       exact ⟨false, ⟨#[]⟩, ⟨#[]⟩, rfl, (((HX2.out.setCell (Nat.le_refl _) _).setCell (Nat.le_refl _) _).setCell (Nat.le_refl _) _)⟩
      have b6 : ¬ (6 : Int) < (FR.size : Int) := by omega
      cases g
      ·have HF := hid (show ok = true from by rw [HD3.out]; simp; omega)
       go_wp2_with fail
       refine (HK3.out _).mono ?_
       rintro e w9 ⟨rfl, rfl⟩
       have f0 := frz_of HB2.out 0
       have f1 := frz_of HB2.out 1
       have f2 := frz_of HB2.out 2
       have y0 := HB2.out.cell 0 _ rfl
       have y1 := HB2.out.cell 1 _ rfl
       have y2 := HB2.out.cell 2 _ rfl
       go_wp2
       have hat := at_set3 (b0 := .bool false) (b1 := .string WH) (b2 := .string FR) HB2.out
       have z0 := hat.cell 0 _ rfl
       have z1 := hat.cell 1 _ rfl
       have z2 := hat.cell 2 _ rfl
       clear hat f0 f1 f2 y0 y1 y2
       refine bodyPost_ret (v := .tuple #[.agg #[.bool false, .string WH, .string FR], .bool true]) (by rw [results_cell_tmp rfl]; go_simp) rfl ?_
       rw [HF.out]
       exact ⟨false, WH, FR, rfl, (((HX2.out.setCell (Nat.le_refl _) _).setCell (Nat.le_refl _) _).setCell (Nat.le_refl _) _)⟩
      cases a6 : (WH.data.toList.all (· == 48) && FR.data.toList.all (· == 48))
      ·have HF := hid (show ok = true from by rw [HD3.out, a6]; simp; omega)
       rw [a6] at HK4
       clear a6
       go_wp2_with fail
       refine (HK3.out _).mono ?_
       rintro e w9 ⟨rfl, rfl⟩
       go_wp2_with fail
       refine (HK4.out _).mono ?_
       rintro e w9 ⟨rfl, rfl⟩
       have f0 := frz_of HB2.out 0
       have f1 := frz_of HB2.out 1
       have f2 := frz_of HB2.out 2
       have y0 := HB2.out.cell 0 _ rfl
       have y1 := HB2.out.cell 1 _ rfl
       have y2 := HB2.out.cell 2 _ rfl
       go_wp2
       have hat := at_set3 (b0 := .bool true) (b1 := .string WH) (b2 := .string FR) HB2.out
       have z0 := hat.cell 0 _ rfl
       have z1 := hat.cell 1 _ rfl
       have z2 := hat.cell 2 _ rfl
       clear hat f0 f1 f2 y0 y1 y2
       refine bodyPost_ret (v := .tuple #[.agg #[.bool true, .string WH, .string FR], .bool true]) (by rw [results_cell_tmp rfl]; go_simp) rfl ?_
       rw [HF.out]
       exact ⟨true, WH, FR, rfl, (((HX2.out.setCell (Nat.le_refl _) _).setCell (Nat.le_refl _) _).setCell (Nat.le_refl _) _)⟩
      ·have HF := hid (show ok = false from by rw [HD3.out, a6]; simp)
       rw [a6] at HK4
       clear a6
       go_wp2_with fail
       refine (HK3.out _).mono ?_
       rintro e w9 ⟨rfl, rfl⟩
       go_wp2_with fail
       refine (HK4.out _).mono ?_
       rintro e w9 ⟨rfl, rfl⟩
       have f0 := frz_of HB2.out 0
       have f1 := frz_of HB2.out 1
       have f2 := frz_of HB2.out 2
       have y0 := HB2.out.cell 0 _ rfl
       have y1 := HB2.out.cell 1 _ rfl
       have y2 := HB2.out.cell 2 _ rfl
       go_wp2
       have hat := at_set3 (b0 := .bool false) (b1 := .string ⟨#[]⟩) (b2 := .string ⟨#[]⟩) HB2.out
       have z0 := hat.cell 0 _ rfl
       have z1 := hat.cell 1 _ rfl
       have z2 := hat.cell 2 _ rfl
       clear hat f0 f1 f2 y0 y1 y2
       refine bodyPost_ret (v := .tuple #[.agg #[.bool false, .string ⟨#[]⟩, .string ⟨#[]⟩], .bool false]) (by rw [results_cell_tmp rfl]; go_simp) rfl ?_
       rw [HF.out]
       exact ⟨false, ⟨#[]⟩, ⟨#[]⟩, rfl, (((HX2.out.setCell (Nat.le_refl _) _).setCell (Nat.le_refl _) _).setCell (Nat.le_refl _) _)⟩
theorem rdec_any (s : ByteArray) (w : World) (hs : s.size ≤ 1048576) : Calls Tryz.prog 124 #[.string s] w fun e w' => e = .returned (.bool (decB s.data.toList)) ∧ Ext w w' := by
 have HK := hid (rsplit_any s w hs)
 generalize decB s.data.toList = ok at HK ⊢
 go_enter Tryz.func124, Tryz.ntmps124
 go_wp2_with fail
 refine HK.out.mono ?_
 rintro e w2 ⟨g, a, b, rfl, hw2⟩
 have HW2 := hid hw2
 clear hw2
 go_wp2
 go_ret
 exact ⟨rfl, HW2.out.alloc _⟩
end Go.Proofs.YtiijdojihleggaaGreatDoor
namespace Go.Proofs.YtiijdojihleggaaGreatDoor
open Go.RowKit
theorem rsel26_any (k : Int) (w : World) : Calls Tryz.prog 81 #[.int .i64 k] w fun e w' => e = .returned (.bool (k == 7 || k == 8 || k == 9)) ∧ w = w' := by
 go_enter Tryz.func81, Tryz.ntmps81
 go_wp2
 all_goals (go_ret; exact ⟨ret_bool (by simp_all), rfl⟩)
theorem rcnt26_any (k : Int) (w : World) : Calls Tryz.prog 84 #[.int .i64 k] w fun e w' => e = .returned (.bool (k == 7 || k == 8)) ∧ w = w' := by
 go_enter Tryz.func84, Tryz.ntmps84
 go_wp2
 all_goals (go_ret; exact ⟨ret_bool (by simp_all), rfl⟩)
def strC (l : List By) : List Value := l.map fun x => .string ⟨x.toArray⟩
def InI (w : World) (l : List By) (s : By) (R : Bool) (i : Value) (wr : World) : Prop := ∃ k : Nat, k ≤ l.length ∧ i = .int .i64 k ∧ R = decide (s ∈ l.drop k) ∧ w = wr
set_option maxHeartbeats 1000000 in
theorem rin26_any (l : List By) (A : Option Addr) (c : Nat) (s : By) (w : World) (hl : SlN w A l.length 1 (strC l)) (hn : l.length ≤ 1000000000) : Calls Tryz.prog 83 #[.slice A l.length c, .string ⟨s.toArray⟩] w fun e w' => e = .returned (.bool (decide (s ∈ l))) ∧ w = w' := by
 obtain ⟨R, hR⟩ : ∃ R, R = decide (s ∈ l) := ⟨_, rfl⟩
 rw [← hR]
 have HL := hid hl
 have H0 := hid (show InI w l s R (.int .i64 0) w from ⟨0, Nat.zero_le _, rfl, by rw [List.drop_zero]; exact hR, rfl⟩)
 clear hl hR
 go_enter Tryz.func83, Tryz.ntmps83
 go_wp2_with fail
 go_loopw [5] (InI w l s R) (fun i _ => l.length - (intOf i).toNat)
 case atStart => exact H0.out
 case round =>
  obtain ⟨k, hk, rfl, hr, rfl⟩ := hrel
  by_cases hkl : k < l.length
  rotate_left
  ·have hkI : ¬ (k : Int) < (l.length : Int) := by omega
   have hR0 : R = false := by rw [hr, List.drop_eq_nil_of_le (by omega)]; rfl
   subst hR0
   clear hr
   go_wp2
   go_ret
   exact ⟨rfl, rfl⟩
  have hkI : (k : Int) < (l.length : Int) := by omega
  have hx : l.drop k = l[k] :: l.drop (k + 1) := List.drop_eq_getElem_cons hkl
  obtain ⟨x, hxk⟩ : ∃ x, x = l[k] := ⟨_, rfl⟩
  have hu : (strC l)[k]? = some (.string ⟨x.toArray⟩) := by unfold strC; rw [List.getElem?_map, List.getElem?_eq_getElem hkl, hxk]; rfl
  obtain ⟨b, o, rfl, hb, hc⟩ := HL.out.2 k _ hu
  rw [hx, ← hxk] at hr
  clear hu hx hxk
  cases q : (x == s)
  ·have HR := hid (show R = decide (s ∈ l.drop (k + 1)) from by
    rw [hr]
    have : s ≠ x := fun e => by rw [e] at q; simp at q
    simp [this])
   clear hr
   go_wp2
   exact ⟨⟨k + 1, hkl, by go_num, HR.out, rfl⟩, by simp [intOf]; omega⟩
  ·have hR1 : R = true := by
    rw [hr]
    have : x = s := by simpa using q
    simp [this]
   subst hR1
   clear hr
   go_wp2
   go_ret
   exact ⟨rfl, rfl⟩
theorem rclass_any (s : ByteArray) (w : World) : Calls Tryz.prog 123 #[.string s] w fun e w' => e = .returned (.bool (classB s.data.toList)) ∧ w = w' := by
 have HF := hid (show classB s.data.toList = (s.toList == [122, 101, 114, 111] || s.toList == [111, 110, 101] || s.toList == [116, 119, 111] || s.toList == [102, 101, 119] || s.toList == [109, 97, 110, 121] || s.toList == [111, 116, 104, 101, 114]) from by rw [ByteArray.toList_eq]; rfl)
 generalize classB s.data.toList = R at HF ⊢
 by_cases c0 : s.toList = [122, 101, 114, 111]
 ·have HG := hid (show R = true from by rw [HF.out, c0]; rfl)
  have b0 : (s.toList == [122, 101, 114, 111]) = true := by rw [beq_iff_eq]; exact c0
  go_enter Tryz.func123, Tryz.ntmps123
  go_wp2
  go_ret
  exact ⟨ret_bool HG.out.symm, rfl⟩
 have b0 : (s.toList == [122, 101, 114, 111]) = false := by rw [beq_eq_false_iff_ne]; exact c0
 by_cases c1 : s.toList = [111, 110, 101]
 ·have HG := hid (show R = true from by rw [HF.out, c1]; rfl)
  have b1 : (s.toList == [111, 110, 101]) = true := by rw [beq_iff_eq]; exact c1
  go_enter Tryz.func123, Tryz.ntmps123
  go_wp2
  go_ret
  exact ⟨ret_bool HG.out.symm, rfl⟩
 have b1 : (s.toList == [111, 110, 101]) = false := by rw [beq_eq_false_iff_ne]; exact c1
 by_cases c2 : s.toList = [116, 119, 111]
 ·have HG := hid (show R = true from by rw [HF.out, c2]; rfl)
  have b2 : (s.toList == [116, 119, 111]) = true := by rw [beq_iff_eq]; exact c2
  go_enter Tryz.func123, Tryz.ntmps123
  go_wp2
  go_ret
  exact ⟨ret_bool HG.out.symm, rfl⟩
 have b2 : (s.toList == [116, 119, 111]) = false := by rw [beq_eq_false_iff_ne]; exact c2
 by_cases c3 : s.toList = [102, 101, 119]
 ·have HG := hid (show R = true from by rw [HF.out, c3]; rfl)
  have b3 : (s.toList == [102, 101, 119]) = true := by rw [beq_iff_eq]; exact c3
  go_enter Tryz.func123, Tryz.ntmps123
  go_wp2
  go_ret
  exact ⟨ret_bool HG.out.symm, rfl⟩
 have b3 : (s.toList == [102, 101, 119]) = false := by rw [beq_eq_false_iff_ne]; exact c3
 by_cases c4 : s.toList = [109, 97, 110, 121]
 ·have HG := hid (show R = true from by rw [HF.out, c4]; rfl)
  have b4 : (s.toList == [109, 97, 110, 121]) = true := by rw [beq_iff_eq]; exact c4
  go_enter Tryz.func123, Tryz.ntmps123
  go_wp2
  go_ret
  exact ⟨ret_bool HG.out.symm, rfl⟩
 have b4 : (s.toList == [109, 97, 110, 121]) = false := by rw [beq_eq_false_iff_ne]; exact c4
 by_cases c5 : s.toList = [111, 116, 104, 101, 114]
 ·have HG := hid (show R = true from by rw [HF.out, c5]; rfl)
  have b5 : (s.toList == [111, 116, 104, 101, 114]) = true := by rw [beq_iff_eq]; exact c5
  go_enter Tryz.func123, Tryz.ntmps123
  go_wp2
  go_ret
  exact ⟨ret_bool HG.out.symm, rfl⟩
 have b5 : (s.toList == [111, 116, 104, 101, 114]) = false := by rw [beq_eq_false_iff_ne]; exact c5
 have HG := hid (show R = false from by rw [HF.out, b0, b1, b2, b3, b4, b5]; rfl)
 go_enter Tryz.func123, Tryz.ntmps123
 go_wp2
 go_ret
 exact ⟨ret_bool HG.out.symm, rfl⟩
set_option maxHeartbeats 1000000 in
theorem rskel_any (s : ByteArray) (w : World) (hs : s.size ≤ maxLen) : Calls Tryz.prog 125 #[.string s] w fun e w' => e = .returned (.bool (skelB s.data.toList)) ∧ w = w' := by
 unfold maxLen at hs
 obtain ⟨R, hR⟩ : ∃ R, R = skelB s.data.toList := ⟨_, rfl⟩
 rw [← hR]
 unfold skelB at hR
 rw [size_list] at hR
 have HR := hid hR
 clear hR
 go_enter Tryz.func125, Tryz.ntmps125
 go_wp2
 go_loopw [3] (SkInv s w) (fun i _ => s.size - (intOf i).toNat)
 case atStart => exact ⟨0, Nat.zero_le _, rfl, rfl, rfl⟩
 case round =>
  obtain ⟨k, hk, rfl, rfl, ht⟩ := hrel
  have HT := hid ht
  clear ht
  by_cases hlt : k < s.size
  ·have hltI : (k : Int) < (s.size : Int) := by omega
   have HP := hid (fun (h : (lowB s[k] || capB s[k]) = true) => all_stepI HT.out hlt h)
   have HN := hid (fun (h : (lowB s[k] || capB s[k]) = false) => all_stopI (p := fun c => lowB c || capB c) hlt h)
   have HL : lowB s[k] = (decide (97 ≤ s[k].toNat) && decide (s[k].toNat ≤ 122)) := by unfold lowB; simp [UInt8.le_iff_toNat_le]
   have HC : capB s[k] = (decide (65 ≤ s[k].toNat) && decide (s[k].toNat ≤ 90)) := by unfold capB; simp [UInt8.le_iff_toNat_le]
   rw [HL, HC] at HP HN
   clear HL HC
   have h255 : s[k].toNat < 256 := s[k].toNat_lt
   by_cases h1 : s[k].toNat < 97
   ·have p1 : ¬ (97 : Int) ≤ (s[k].toNat : Int) := by omega
    by_cases h2 : s[k].toNat < 65
    ·have p2 : ¬ (65 : Int) ≤ (s[k].toNat : Int) := by omega
     have HF := hid (show R = false from by rw [HR.out, HN.out (by simp; omega)]; rfl)
     go_wp2
     go_ret
     exact ⟨ret_bool HF.out.symm, rfl⟩
    ·have p2 : (65 : Int) ≤ (s[k].toNat : Int) := by omega
     by_cases h3 : 90 < s[k].toNat
     ·have q3 : ¬ (s[k].toNat : Int) ≤ 90 := by omega
      have HF := hid (show R = false from by rw [HR.out, HN.out (by simp; omega)]; rfl)
      go_wp2
      go_ret
      exact ⟨ret_bool HF.out.symm, rfl⟩
     ·have q3 : (s[k].toNat : Int) ≤ 90 := by omega
      have HF := hid (HP.out (by simp; omega))
      go_wp2
      exact ⟨⟨k + 1, by omega, by go_num, rfl, HF.out⟩, by simp [intOf]; omega⟩
   ·have p1 : (97 : Int) ≤ (s[k].toNat : Int) := by omega
    by_cases h2 : 122 < s[k].toNat
    ·have q2 : ¬ (s[k].toNat : Int) ≤ 122 := by omega
     have p3 : (65 : Int) ≤ (s[k].toNat : Int) := by omega
     have q4 : ¬ (s[k].toNat : Int) ≤ 90 := by omega
     have HF := hid (show R = false from by rw [HR.out, HN.out (by simp; omega)]; rfl)
     go_wp2
     go_ret
     exact ⟨ret_bool HF.out.symm, rfl⟩
    ·have q2 : (s[k].toNat : Int) ≤ 122 := by omega
     have HF := hid (HP.out (by simp; omega))
     go_wp2
     exact ⟨⟨k + 1, by omega, by go_num, rfl, HF.out⟩, by simp [intOf]; omega⟩
  ·have hkk : k = s.size := by omega
   have HA := hid (all_endI HT.out hlt)
   subst hkk
   have hltI : ¬ (s.size : Int) < (s.size : Int) := by omega
   by_cases h0 : s.size = 0
   ·have HF := hid (show R = false from by rw [HR.out, HA.out, decide_eq_false (show ¬ 1 ≤ s.size from by omega)]; rfl)
    have hse : s = ⟨#[]⟩ := by
     apply ByteArray.ext
     exact Array.eq_empty_of_size_eq_zero h0
    subst hse
    have g1 : ¬ (1 : Int) ≤ ((⟨#[]⟩ : ByteArray).size : Int) := by decide
    go_wp2
    all_goals go_ret
    all_goals exact ⟨ret_bool HF.out.symm, rfl⟩
   ·have g0 : ¬ s.toList = [] := by
     rw [ByteArray.toList_eq]
     intro h
     have h2 := size_list s
     rw [h] at h2
     simp at h2
     omega
    have g0b : s.toList.isEmpty = false := by
     cases h : s.toList with
     | nil => exact absurd h g0
     | cons x r => rfl
    have HF := hid (show R = decide (s.size ≤ 40) from by rw [HR.out, HA.out, decide_eq_true (show 1 ≤ s.size from by omega)]; rfl)
    have g1 : (1 : Int) ≤ (s.size : Int) := by omega
    by_cases h40 : s.size ≤ 40
    ·have g2 : (s.size : Int) ≤ 40 := by omega
     rw [decide_eq_true h40] at HF
     go_wp2
     all_goals go_ret
     all_goals exact ⟨ret_bool HF.out.symm, rfl⟩
    ·have g2 : ¬ (s.size : Int) ≤ 40 := by omega
     rw [decide_eq_false h40] at HF
     go_wp2
     all_goals go_ret
     all_goals exact ⟨ret_bool HF.out.symm, rfl⟩
theorem tail_list (s : ByteArray) : (s.extract 1 s.size).data.toList = s.data.toList.drop 1 := by
 simp only [ByteArray.data_extract, Array.toList_extract, List.extract_eq_take_drop]
 exact List.take_of_length_le (by rw [List.length_drop, size_list]; exact Nat.le_refl _)
set_option maxHeartbeats 1000000 in
theorem rkey_any (k : Int) (s : ByteArray) (w : World) (hs : s.size ≤ 1048576) : Calls Tryz.prog 82 #[.int .i64 k, .string s] w fun e w' => e = .returned (.bool (if k = 9 then nameB s.data.toList else classB s.data.toList || (s.data.toList.head? == some 61 && decB (s.data.toList.drop 1)))) ∧ Ext w w' := by
 by_cases h9 : k = 9
 ·subst h9
  have K := hid (rname_any s w (by unfold maxLen; omega))
  rw [if_pos rfl]
  generalize nameB s.data.toList = R at K ⊢
  go_enter Tryz.func82, Tryz.ntmps82
  go_wp2_with fail
  refine K.out.mono ?_
  rintro e w2 ⟨rfl, rfl⟩
  go_wp2
  go_ret
  exact ⟨rfl, Ext.refl _⟩
 have b9 : (k == 9) = false := by rw [beq_eq_false_iff_ne]; exact h9
 rw [if_neg h9]
 obtain ⟨R, hR⟩ : ∃ R, R = (classB s.data.toList || (s.data.toList.head? == some 61 && decB (s.data.toList.drop 1))) := ⟨_, rfl⟩
 rw [← hR]
 have K1 := hid (fun W => rclass_any s W)
 have K2 := fun W => rdec_any (s.extract 1 s.size) W (by rw [ByteArray.size_extract]; omega)
 rw [tail_list] at K2
 have K2 := hid K2
 have HR := hid hR
 clear hR h9
 cases hc : classB s.data.toList
 rotate_left
 ·rw [hc] at K1
  have HF := hid (show R = true from by rw [HR.out, hc]; rfl)
  clear hc
  go_enter Tryz.func82, Tryz.ntmps82
  go_wp2_with fail
  refine (K1.out _).mono ?_
  rintro e w2 ⟨rfl, rfl⟩
  go_wp2
  go_ret
  exact ⟨ret_bool HF.out.symm, Ext.refl _⟩
 rw [hc] at K1
 have HR2 := hid (show R = (s.data.toList.head? == some 61 && decB (s.data.toList.drop 1)) from by rw [HR.out, hc]; rfl)
 clear hc HR
 by_cases h1 : 1 < s.size
 rotate_left
 ·have h1I : ¬ (1 : Int) < (s.size : Int) := by omega
  have HF := hid (show R = false from by
   rw [HR2.out, List.drop_eq_nil_of_le (by rw [size_list]; omega), show decB [] = false from by decide, Bool.and_false])
  go_enter Tryz.func82, Tryz.ntmps82
  go_wp2_with fail
  refine (K1.out _).mono ?_
  rintro e w2 ⟨rfl, rfl⟩
  go_wp2
  go_ret
  exact ⟨ret_bool HF.out.symm, Ext.refl _⟩
 have h1I : (1 : Int) < (s.size : Int) := by omega
 have h0I : (0 : Int) < (s.size : Int) := by omega
 have hsl : (1 : Int) ≤ (s.size : Int) := by omega
 have hd0 := drop_at (s := s) (k := 0) (by omega)
 rw [List.drop_zero] at hd0
 by_cases c61 : s[0] = 61
 rotate_left
 ·have b61 : ((s[0].toNat : Int) == 61) = false := u8_ne (n := 61) c61
  have HF := hid (show R = false from by
   rw [HR2.out, hd0]
   simp [c61])
  clear c61 hd0
  go_enter Tryz.func82, Tryz.ntmps82
  go_wp2_with fail
  refine (K1.out _).mono ?_
  rintro e w2 ⟨rfl, rfl⟩
  go_wp2
  go_ret
  exact ⟨ret_bool HF.out.symm, Ext.refl _⟩
 have b61 : ((s[0].toNat : Int) == 61) = true := by rw [c61]; rfl
 have HF := hid (show R = decB (s.data.toList.drop 1) from by
  rw [HR2.out]
  rw [show (s.data.toList.head? == some 61) = true from by rw [hd0, c61]; rfl, Bool.true_and])
 generalize decB (s.data.toList.drop 1) = D at HF K2
 clear c61 hd0 HR2
 go_enter Tryz.func82, Tryz.ntmps82
 go_wp2_with fail
 refine (K1.out _).mono ?_
 rintro e w2 ⟨rfl, rfl⟩
 go_wp2_with fail
 refine (K2.out _).mono ?_
 rintro e w3 ⟨rfl, hx⟩
 have HX := hid hx
 clear hx
 go_wp2
 go_ret
 exact ⟨ret_bool HF.out.symm, HX.out⟩
end Go.Proofs.YtiijdojihleggaaGreatDoor
namespace Go.Proofs.YtiijdojihleggaaGreatDoor
open Go.RowKit
def plnB (c : Bool) (k : Int) (t n s : By) (c0 p0 : Bool) : Bool :=
 if k = 1 then !t.isEmpty && n.isEmpty && s.isEmpty && c0 && p0
 else if k = 10 then c && t.isEmpty && n.isEmpty && s.isEmpty && c0 && p0
 else if k = 2 then nameB n && t.isEmpty && s.isEmpty && c0 && p0
 else if k = 3 then nameB n && t.isEmpty && (s.isEmpty || numStyleB s) && c0 && p0
 else if k = 5 then nameB n && t.isEmpty && skelB s && c0 && p0
 else if k = 4 ∨ k = 6 then nameB n && t.isEmpty && nameB s && c0 && p0
 else false
set_option maxHeartbeats 4000000 in
theorem plain_1 (c : Bool) (t n s : ByteArray) (Ac : Option Addr) (nc cc : Nat) (Ap : Option Addr) (np cp : Nat) (w : World) (hn : n.size ≤ maxLen) (hs : s.size ≤ maxLen) :
 Calls Tryz.prog 85 #[.agg #[.int .i64 1, .string t, .string n, .string s, .slice Ac nc cc, .slice Ap np cp], .bool c] w fun e w' => e = .returned (.bool (plnB c 1 t.data.toList n.data.toList s.data.toList (nc == 0) (np == 0))) ∧ Ext w w' := by
 have KN := hid (fun W => rname_any n W hn)
 have KS := hid (fun W => rname_any s W hs)
 have KK := hid (fun W => rskel_any s W hs)
 have hnm : nameB [] = false := name_nil
 have hni : ∀ m : Nat, ((m : Int) == 0) = (m == 0) := fun m => by rw [Bool.eq_iff_iff, beq_iff_eq, beq_iff_eq]; omega
 have hnn : ∀ x : ByteArray, x.toList = x.data.toList := ByteArray.toList_eq
 clear hn hs
 go_enter Tryz.func85, Tryz.ntmps85
 go_wp2_with (first | (go_at_call 80; with_reducible refine (KN.out _).mono ?_; rintro e w2 ⟨rfl, rfl⟩) | (go_at_call 80; with_reducible refine (KS.out _).mono ?_; rintro e w2 ⟨rfl, rfl⟩) | (go_at_call 125; refine (KK.out _).mono ?_; rintro e w2 ⟨rfl, rfl⟩))
 all_goals go_ret
 all_goals refine ⟨ret_bool ?_, ?_⟩
 all_goals first
  | exact ((Ext.refl w).alloc _).alloc _
  | exact (((Ext.refl w).alloc _).alloc _).drew
  | exact (((((Ext.refl w).alloc _).alloc _).setCell (p := ⟨w.heap.size + 1, _, none⟩) (Nat.le_succ _) _).setCell (p := ⟨w.heap.size + 1, _, none⟩) (Nat.le_succ _) _).drew
  | (simp_all [plnB, numStyleB]; done)
set_option maxHeartbeats 4000000 in
theorem plain_10 (c : Bool) (t n s : ByteArray) (Ac : Option Addr) (nc cc : Nat) (Ap : Option Addr) (np cp : Nat) (w : World) (hn : n.size ≤ maxLen) (hs : s.size ≤ maxLen) :
 Calls Tryz.prog 85 #[.agg #[.int .i64 10, .string t, .string n, .string s, .slice Ac nc cc, .slice Ap np cp], .bool c] w fun e w' => e = .returned (.bool (plnB c 10 t.data.toList n.data.toList s.data.toList (nc == 0) (np == 0))) ∧ Ext w w' := by
 have KN := hid (fun W => rname_any n W hn)
 have KS := hid (fun W => rname_any s W hs)
 have KK := hid (fun W => rskel_any s W hs)
 have hnm : nameB [] = false := name_nil
 have hni : ∀ m : Nat, ((m : Int) == 0) = (m == 0) := fun m => by rw [Bool.eq_iff_iff, beq_iff_eq, beq_iff_eq]; omega
 have hnn : ∀ x : ByteArray, x.toList = x.data.toList := ByteArray.toList_eq
 clear hn hs
 go_enter Tryz.func85, Tryz.ntmps85
 go_wp2_with (first | (go_at_call 80; with_reducible refine (KN.out _).mono ?_; rintro e w2 ⟨rfl, rfl⟩) | (go_at_call 80; with_reducible refine (KS.out _).mono ?_; rintro e w2 ⟨rfl, rfl⟩) | (go_at_call 125; refine (KK.out _).mono ?_; rintro e w2 ⟨rfl, rfl⟩))
 all_goals go_ret
 all_goals refine ⟨ret_bool ?_, ?_⟩
 all_goals first
  | exact ((Ext.refl w).alloc _).alloc _
  | exact (((Ext.refl w).alloc _).alloc _).drew
  | exact (((((Ext.refl w).alloc _).alloc _).setCell (p := ⟨w.heap.size + 1, _, none⟩) (Nat.le_succ _) _).setCell (p := ⟨w.heap.size + 1, _, none⟩) (Nat.le_succ _) _).drew
  | (simp_all [plnB, numStyleB]; done)
set_option maxHeartbeats 4000000 in
theorem plain_2 (c : Bool) (t n s : ByteArray) (Ac : Option Addr) (nc cc : Nat) (Ap : Option Addr) (np cp : Nat) (w : World) (hn : n.size ≤ maxLen) (hs : s.size ≤ maxLen) :
 Calls Tryz.prog 85 #[.agg #[.int .i64 2, .string t, .string n, .string s, .slice Ac nc cc, .slice Ap np cp], .bool c] w fun e w' => e = .returned (.bool (plnB c 2 t.data.toList n.data.toList s.data.toList (nc == 0) (np == 0))) ∧ Ext w w' := by
 have KN := hid (fun W => rname_any n W hn)
 have KS := hid (fun W => rname_any s W hs)
 have KK := hid (fun W => rskel_any s W hs)
 have hnm : nameB [] = false := name_nil
 have hni : ∀ m : Nat, ((m : Int) == 0) = (m == 0) := fun m => by rw [Bool.eq_iff_iff, beq_iff_eq, beq_iff_eq]; omega
 have hnn : ∀ x : ByteArray, x.toList = x.data.toList := ByteArray.toList_eq
 clear hn hs
 go_enter Tryz.func85, Tryz.ntmps85
 go_wp2_with (first | (go_at_call 80; with_reducible refine (KN.out _).mono ?_; rintro e w2 ⟨rfl, rfl⟩) | (go_at_call 80; with_reducible refine (KS.out _).mono ?_; rintro e w2 ⟨rfl, rfl⟩) | (go_at_call 125; refine (KK.out _).mono ?_; rintro e w2 ⟨rfl, rfl⟩))
 all_goals go_ret
 all_goals refine ⟨ret_bool ?_, ?_⟩
 all_goals first
  | exact ((Ext.refl w).alloc _).alloc _
  | exact (((Ext.refl w).alloc _).alloc _).drew
  | exact (((((Ext.refl w).alloc _).alloc _).setCell (p := ⟨w.heap.size + 1, _, none⟩) (Nat.le_succ _) _).setCell (p := ⟨w.heap.size + 1, _, none⟩) (Nat.le_succ _) _).drew
  | (simp_all [plnB, numStyleB]; done)
set_option maxHeartbeats 4000000 in
theorem plain_3 (c : Bool) (t n s : ByteArray) (Ac : Option Addr) (nc cc : Nat) (Ap : Option Addr) (np cp : Nat) (w : World) (hn : n.size ≤ maxLen) (hs : s.size ≤ maxLen) :
 Calls Tryz.prog 85 #[.agg #[.int .i64 3, .string t, .string n, .string s, .slice Ac nc cc, .slice Ap np cp], .bool c] w fun e w' => e = .returned (.bool (plnB c 3 t.data.toList n.data.toList s.data.toList (nc == 0) (np == 0))) ∧ Ext w w' := by
 have KN := hid (fun W => rname_any n W hn)
 have KS := hid (fun W => rname_any s W hs)
 have KK := hid (fun W => rskel_any s W hs)
 have hnm : nameB [] = false := name_nil
 have hni : ∀ m : Nat, ((m : Int) == 0) = (m == 0) := fun m => by rw [Bool.eq_iff_iff, beq_iff_eq, beq_iff_eq]; omega
 have hnn : ∀ x : ByteArray, x.toList = x.data.toList := ByteArray.toList_eq
 clear hn hs
 go_enter Tryz.func85, Tryz.ntmps85
 go_wp2_with (first | (go_at_call 80; with_reducible refine (KN.out _).mono ?_; rintro e w2 ⟨rfl, rfl⟩) | (go_at_call 80; with_reducible refine (KS.out _).mono ?_; rintro e w2 ⟨rfl, rfl⟩) | (go_at_call 125; refine (KK.out _).mono ?_; rintro e w2 ⟨rfl, rfl⟩))
 go_region
 all_goals go_wp2_with (first | (go_at_call 80; with_reducible refine (KN.out _).mono ?_; rintro e w2 ⟨rfl, rfl⟩) | (go_at_call 80; with_reducible refine (KS.out _).mono ?_; rintro e w2 ⟨rfl, rfl⟩) | (go_at_call 125; refine (KK.out _).mono ?_; rintro e w2 ⟨rfl, rfl⟩))
 all_goals go_ret
 all_goals refine ⟨ret_bool ?_, ?_⟩
 all_goals first
  | exact ((Ext.refl w).alloc _).alloc _
  | exact (((Ext.refl w).alloc _).alloc _).drew
  | exact (((((Ext.refl w).alloc _).alloc _).setCell (p := ⟨w.heap.size + 1, _, none⟩) (Nat.le_succ _) _).setCell (p := ⟨w.heap.size + 1, _, none⟩) (Nat.le_succ _) _).drew
  | (simp_all [plnB, numStyleB]; done)
set_option maxHeartbeats 4000000 in
theorem plain_5 (c : Bool) (t n s : ByteArray) (Ac : Option Addr) (nc cc : Nat) (Ap : Option Addr) (np cp : Nat) (w : World) (hn : n.size ≤ maxLen) (hs : s.size ≤ maxLen) :
 Calls Tryz.prog 85 #[.agg #[.int .i64 5, .string t, .string n, .string s, .slice Ac nc cc, .slice Ap np cp], .bool c] w fun e w' => e = .returned (.bool (plnB c 5 t.data.toList n.data.toList s.data.toList (nc == 0) (np == 0))) ∧ Ext w w' := by
 have KN := hid (fun W => rname_any n W hn)
 have KS := hid (fun W => rname_any s W hs)
 have KK := hid (fun W => rskel_any s W hs)
 have hnm : nameB [] = false := name_nil
 have hni : ∀ m : Nat, ((m : Int) == 0) = (m == 0) := fun m => by rw [Bool.eq_iff_iff, beq_iff_eq, beq_iff_eq]; omega
 have hnn : ∀ x : ByteArray, x.toList = x.data.toList := ByteArray.toList_eq
 clear hn hs
 go_enter Tryz.func85, Tryz.ntmps85
 go_wp2_with (first | (go_at_call 80; with_reducible refine (KN.out _).mono ?_; rintro e w2 ⟨rfl, rfl⟩) | (go_at_call 80; with_reducible refine (KS.out _).mono ?_; rintro e w2 ⟨rfl, rfl⟩) | (go_at_call 125; refine (KK.out _).mono ?_; rintro e w2 ⟨rfl, rfl⟩))
 go_region
 all_goals go_wp2_with (first | (go_at_call 80; with_reducible refine (KN.out _).mono ?_; rintro e w2 ⟨rfl, rfl⟩) | (go_at_call 80; with_reducible refine (KS.out _).mono ?_; rintro e w2 ⟨rfl, rfl⟩) | (go_at_call 125; refine (KK.out _).mono ?_; rintro e w2 ⟨rfl, rfl⟩))
 all_goals go_ret
 all_goals refine ⟨ret_bool ?_, ?_⟩
 all_goals first
  | exact ((Ext.refl w).alloc _).alloc _
  | exact (((Ext.refl w).alloc _).alloc _).drew
  | exact (((((Ext.refl w).alloc _).alloc _).setCell (p := ⟨w.heap.size + 1, _, none⟩) (Nat.le_succ _) _).setCell (p := ⟨w.heap.size + 1, _, none⟩) (Nat.le_succ _) _).drew
  | (simp_all [plnB, numStyleB]; done)
set_option maxHeartbeats 4000000 in
theorem plain_4 (c : Bool) (t n s : ByteArray) (Ac : Option Addr) (nc cc : Nat) (Ap : Option Addr) (np cp : Nat) (w : World) (hn : n.size ≤ maxLen) (hs : s.size ≤ maxLen) :
 Calls Tryz.prog 85 #[.agg #[.int .i64 4, .string t, .string n, .string s, .slice Ac nc cc, .slice Ap np cp], .bool c] w fun e w' => e = .returned (.bool (plnB c 4 t.data.toList n.data.toList s.data.toList (nc == 0) (np == 0))) ∧ Ext w w' := by
 have KN := hid (fun W => rname_any n W hn)
 have KS := hid (fun W => rname_any s W hs)
 have KK := hid (fun W => rskel_any s W hs)
 have hnm : nameB [] = false := name_nil
 have hni : ∀ m : Nat, ((m : Int) == 0) = (m == 0) := fun m => by rw [Bool.eq_iff_iff, beq_iff_eq, beq_iff_eq]; omega
 have hnn : ∀ x : ByteArray, x.toList = x.data.toList := ByteArray.toList_eq
 clear hn hs
 go_enter Tryz.func85, Tryz.ntmps85
 go_wp2_with (first | (go_at_call 80; with_reducible refine (KN.out _).mono ?_; rintro e w2 ⟨rfl, rfl⟩) | (go_at_call 80; with_reducible refine (KS.out _).mono ?_; rintro e w2 ⟨rfl, rfl⟩) | (go_at_call 125; refine (KK.out _).mono ?_; rintro e w2 ⟨rfl, rfl⟩))
 go_region
 all_goals go_wp2_with (first | (go_at_call 80; with_reducible refine (KN.out _).mono ?_; rintro e w2 ⟨rfl, rfl⟩) | (go_at_call 80; with_reducible refine (KS.out _).mono ?_; rintro e w2 ⟨rfl, rfl⟩) | (go_at_call 125; refine (KK.out _).mono ?_; rintro e w2 ⟨rfl, rfl⟩))
 all_goals go_ret
 all_goals refine ⟨ret_bool ?_, ?_⟩
 all_goals first
  | exact ((Ext.refl w).alloc _).alloc _
  | exact (((Ext.refl w).alloc _).alloc _).drew
  | exact (((((Ext.refl w).alloc _).alloc _).setCell (p := ⟨w.heap.size + 1, _, none⟩) (Nat.le_succ _) _).setCell (p := ⟨w.heap.size + 1, _, none⟩) (Nat.le_succ _) _).drew
  | (simp_all [plnB, numStyleB]; done)
set_option maxHeartbeats 4000000 in
theorem plain_6 (c : Bool) (t n s : ByteArray) (Ac : Option Addr) (nc cc : Nat) (Ap : Option Addr) (np cp : Nat) (w : World) (hn : n.size ≤ maxLen) (hs : s.size ≤ maxLen) :
 Calls Tryz.prog 85 #[.agg #[.int .i64 6, .string t, .string n, .string s, .slice Ac nc cc, .slice Ap np cp], .bool c] w fun e w' => e = .returned (.bool (plnB c 6 t.data.toList n.data.toList s.data.toList (nc == 0) (np == 0))) ∧ Ext w w' := by
 have KN := hid (fun W => rname_any n W hn)
 have KS := hid (fun W => rname_any s W hs)
 have KK := hid (fun W => rskel_any s W hs)
 have hnm : nameB [] = false := name_nil
 have hni : ∀ m : Nat, ((m : Int) == 0) = (m == 0) := fun m => by rw [Bool.eq_iff_iff, beq_iff_eq, beq_iff_eq]; omega
 have hnn : ∀ x : ByteArray, x.toList = x.data.toList := ByteArray.toList_eq
 clear hn hs
 go_enter Tryz.func85, Tryz.ntmps85
 go_wp2_with (first | (go_at_call 80; with_reducible refine (KN.out _).mono ?_; rintro e w2 ⟨rfl, rfl⟩) | (go_at_call 80; with_reducible refine (KS.out _).mono ?_; rintro e w2 ⟨rfl, rfl⟩) | (go_at_call 125; refine (KK.out _).mono ?_; rintro e w2 ⟨rfl, rfl⟩))
 go_region
 all_goals go_wp2_with (first | (go_at_call 80; with_reducible refine (KN.out _).mono ?_; rintro e w2 ⟨rfl, rfl⟩) | (go_at_call 80; with_reducible refine (KS.out _).mono ?_; rintro e w2 ⟨rfl, rfl⟩) | (go_at_call 125; refine (KK.out _).mono ?_; rintro e w2 ⟨rfl, rfl⟩))
 all_goals go_ret
 all_goals refine ⟨ret_bool ?_, ?_⟩
 all_goals first
  | exact ((Ext.refl w).alloc _).alloc _
  | exact (((Ext.refl w).alloc _).alloc _).drew
  | exact (((((Ext.refl w).alloc _).alloc _).setCell (p := ⟨w.heap.size + 1, _, none⟩) (Nat.le_succ _) _).setCell (p := ⟨w.heap.size + 1, _, none⟩) (Nat.le_succ _) _).drew
  | (simp_all [plnB, numStyleB]; done)
set_option maxHeartbeats 4000000 in
theorem plain_o (k : Int) (hk : k ≠ 1 ∧ k ≠ 10 ∧ k ≠ 2 ∧ k ≠ 3 ∧ k ≠ 5 ∧ k ≠ 4 ∧ k ≠ 6) (c : Bool) (t n s : ByteArray) (Ac : Option Addr) (nc cc : Nat) (Ap : Option Addr) (np cp : Nat) (w : World) (hn : n.size ≤ maxLen) (hs : s.size ≤ maxLen) :
 Calls Tryz.prog 85 #[.agg #[.int .i64 k, .string t, .string n, .string s, .slice Ac nc cc, .slice Ap np cp], .bool c] w fun e w' => e = .returned (.bool (plnB c k t.data.toList n.data.toList s.data.toList (nc == 0) (np == 0))) ∧ Ext w w' := by
 have KN := hid (fun W => rname_any n W hn)
 have KS := hid (fun W => rname_any s W hs)
 have KK := hid (fun W => rskel_any s W hs)
 have hnm : nameB [] = false := name_nil
 have hni : ∀ m : Nat, ((m : Int) == 0) = (m == 0) := fun m => by rw [Bool.eq_iff_iff, beq_iff_eq, beq_iff_eq]; omega
 have hnn : ∀ x : ByteArray, x.toList = x.data.toList := ByteArray.toList_eq
 have b1 : (k == 1) = false := by rw [beq_eq_false_iff_ne]; omega
 have d1 : (k != 1) = true := by rw [bne_iff_ne]; omega
 have b10 : (k == 10) = false := by rw [beq_eq_false_iff_ne]; omega
 have d10 : (k != 10) = true := by rw [bne_iff_ne]; omega
 have b2 : (k == 2) = false := by rw [beq_eq_false_iff_ne]; omega
 have d2 : (k != 2) = true := by rw [bne_iff_ne]; omega
 have b3 : (k == 3) = false := by rw [beq_eq_false_iff_ne]; omega
 have d3 : (k != 3) = true := by rw [bne_iff_ne]; omega
 have b5 : (k == 5) = false := by rw [beq_eq_false_iff_ne]; omega
 have d5 : (k != 5) = true := by rw [bne_iff_ne]; omega
 have b4 : (k == 4) = false := by rw [beq_eq_false_iff_ne]; omega
 have d4 : (k != 4) = true := by rw [bne_iff_ne]; omega
 have b6 : (k == 6) = false := by rw [beq_eq_false_iff_ne]; omega
 have d6 : (k != 6) = true := by rw [bne_iff_ne]; omega
 clear hn hs
 go_enter Tryz.func85, Tryz.ntmps85
 go_wp2_with (first | (go_at_call 80; with_reducible refine (KN.out _).mono ?_; rintro e w2 ⟨rfl, rfl⟩) | (go_at_call 80; with_reducible refine (KS.out _).mono ?_; rintro e w2 ⟨rfl, rfl⟩) | (go_at_call 125; refine (KK.out _).mono ?_; rintro e w2 ⟨rfl, rfl⟩))
 all_goals go_ret
 all_goals refine ⟨ret_bool ?_, ?_⟩
 all_goals first
  | exact ((Ext.refl w).alloc _).alloc _
  | exact (((Ext.refl w).alloc _).alloc _).drew
  | exact (((((Ext.refl w).alloc _).alloc _).setCell (p := ⟨w.heap.size + 1, _, none⟩) (Nat.le_succ _) _).setCell (p := ⟨w.heap.size + 1, _, none⟩) (Nat.le_succ _) _).drew
  | (simp_all [plnB, numStyleB]; done)
theorem plain_any (k : Int) (c : Bool) (t n s : ByteArray) (Ac : Option Addr) (nc cc : Nat) (Ap : Option Addr) (np cp : Nat) (w : World) (hn : n.size ≤ maxLen) (hs : s.size ≤ maxLen) :
 Calls Tryz.prog 85 #[.agg #[.int .i64 k, .string t, .string n, .string s, .slice Ac nc cc, .slice Ap np cp], .bool c] w fun e w' => e = .returned (.bool (plnB c k t.data.toList n.data.toList s.data.toList (nc == 0) (np == 0))) ∧ Ext w w' := by
 by_cases h1 : k = 1
 ·subst h1; exact plain_1 c t n s Ac nc cc Ap np cp w hn hs
 by_cases h10 : k = 10
 ·subst h10; exact plain_10 c t n s Ac nc cc Ap np cp w hn hs
 by_cases h2 : k = 2
 ·subst h2; exact plain_2 c t n s Ac nc cc Ap np cp w hn hs
 by_cases h3 : k = 3
 ·subst h3; exact plain_3 c t n s Ac nc cc Ap np cp w hn hs
 by_cases h5 : k = 5
 ·subst h5; exact plain_5 c t n s Ac nc cc Ap np cp w hn hs
 by_cases h4 : k = 4
 ·subst h4; exact plain_4 c t n s Ac nc cc Ap np cp w hn hs
 by_cases h6 : k = 6
 ·subst h6; exact plain_6 c t n s Ac nc cc Ap np cp w hn hs
 exact plain_o k ⟨h1, h10, h2, h3, h5, h4, h6⟩ c t n s Ac nc cc Ap np cp w hn hs
end Go.Proofs.YtiijdojihleggaaGreatDoor
