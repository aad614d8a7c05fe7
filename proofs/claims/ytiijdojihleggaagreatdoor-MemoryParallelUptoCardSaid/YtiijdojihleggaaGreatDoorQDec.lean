import Derived.Test.YtiijdojihleggaaGreatDoorQNPH
import Derived.Test.YtiijdojihleggaaGreatDoorQNB1
import Derived.Test.YtiijdojihleggaaGreatDoorQDp
import Derived.Test.YtiijdojihleggaaGreatDoorShelf
import Derived.Shelf.Strings.SlTrimAscii
set_option maxRecDepth 100000
set_option linter.unusedSimpArgs false
set_option linter.unusedVariables false
open Go.Lib (hid)
namespace Go.Proofs.YtiijdojihleggaaGreatDoor
open Go.RowKit
def Mx (w : World) : Prop := ∃ m : Int, w.cell? ⟨0, 0, none⟩ = some (.int .i64 m)
theorem Mx.ext {w w' : World} (h : Mx w) (hw : Ext w w') : Mx w' := by
 obtain ⟨m, h⟩ := h
 exact ⟨m, (Ext.cell hw (World.block_lt_of_cell? w _ h)).trans h⟩
theorem empty_beq (l : List UInt8) : l.isEmpty = (l == []) := by cases l <;> rfl
theorem tdigits_any (s : ByteArray) (w : World) (hs : s.size ≤ 1048576) :
 Calls Tryz.prog 205 #[.string s] w fun e w' => e = .returned (.bool (s.data.toList.all digB)) ∧ Ext w w' := by
 have HK := hid (fun W => Any.strings_Trim_laid Tryz.lays160 (by kernel_rfl) s ⟨#[48, 49, 50, 51, 52, 53, 54, 55, 56, 57]⟩ W (by omega) (by decide) (ascii_of_all (by decide)))
 have HD := hid (digs_nil s.data.toList)
 go_enter Tryz.func205, Tryz.ntmps205
 go_wp2_with fail
 refine (HK.out _).mono ?_
 rintro e w2 ⟨rfl, hw2⟩
 have HW2 := hid (show Ext w w2 from hw2)
 clear hw2
 go_wp2
 go_ret
 exact ⟨ret_bool (by rw [← HD.out]; exact empty_beq _), HW2.out⟩
theorem tzero_any (s : ByteArray) (w : World) (hs : s.size ≤ 1048576) :
 Calls Tryz.prog 209 #[.string s] w fun e w' => e = .returned (.bool (s.data.toList.all (· == 48))) ∧ Ext w w' := by
 have HK := hid (fun W => Any.strings_Trim_laid Tryz.lays160 (by kernel_rfl) s ⟨#[48]⟩ W (by omega) (by decide) (ascii_of_all (by decide)))
 have HD := hid (zeros_nil s.data.toList)
 go_enter Tryz.func209, Tryz.ntmps209
 go_wp2_with fail
 refine (HK.out _).mono ?_
 rintro e w2 ⟨rfl, hw2⟩
 have HW2 := hid (show Ext w w2 from hw2)
 clear hw2
 go_wp2
 go_ret
 exact ⟨ret_bool (by rw [← HD.out]; exact empty_beq _), HW2.out⟩
theorem tnzero_any (g : Bool) (a b : ByteArray) (w : World) (ha : a.size ≤ 1048576) (hb : b.size ≤ 1048576) :
 Calls Tryz.prog 206 #[.agg #[.bool g, .string a, .string b]] w fun e w' => e = .returned (.bool (a.data.toList.all (· == 48) && b.data.toList.all (· == 48))) ∧ Ext w w' := by
 have HG := hid (AtC.new w #[.bool g, .string a, .string b] : AtC 239 _ _ _)
 have HX := hid ((Ext.refl w).alloc (.cells #[.bool g, .string a, .string b] 239))
 have K1 := hid (fun W => tzero_any a W ha)
 have K2 := hid (fun W => tzero_any b W hb)
 generalize a.data.toList.all (· == 48) = za at K1 ⊢
 generalize b.data.toList.all (· == 48) = zb at K2 ⊢
 go_enter Tryz.func206, Tryz.ntmps206
 go_wp2_with fail
 refine (K1.out _).mono ?_
 rintro e w2 ⟨rfl, hw2⟩
 have HW2 := hid (HX.out.trans hw2)
 have c2 := (HG.out.ext hw2).cell 2 _ rfl
 clear hw2
 cases za
 ·go_wp2
  go_ret
  exact ⟨rfl, HW2.out⟩
 ·go_wp2_with fail
  refine (K2.out _).mono ?_
  rintro e w3 ⟨rfl, hw3⟩
  have HW3 := hid (HW2.out.trans hw3)
  clear hw3
  go_wp2
  go_ret
  exact ⟨rfl, HW3.out⟩
theorem prefix_neg (s : By) : Lib.hasPrefix s [45] = negB s ∧ Lib.trimPrefix s [45] = restP s := by
 have h1 : Lib.hasPrefix s [45] = negB s := by
  unfold negB Lib.hasPrefix
  cases s with
  | nil => rfl
  | cons b r =>
    simp [List.isPrefixOf]
    rw [Bool.eq_iff_iff]; simp; exact ⟨fun h => h.symm, fun h => h.symm⟩
 refine ⟨h1, ?_⟩
 unfold Lib.trimPrefix restP
 rw [h1]
 cases negB s <;> rfl
def RetSp (w : World) (ok : Bool) (e : Ending) (w' : World) : Prop := ∃ (g : Bool) (a b : ByteArray), e = .returned (.tuple #[.agg #[.bool g, .string a, .string b], .bool ok]) ∧ Ext w w'
theorem at_set3 {T : TypeId} {w : World} {g : Nat} {a0 a1 a2 b0 b1 b2 : Value} (h : AtC T w g #[a0, a1, a2]) :
 AtC T (((w.setCell ⟨g, 0, none⟩ b0).setCell ⟨g, 1, none⟩ b1).setCell ⟨g, 2, none⟩ b2) g #[b0, b1, b2] := by
 unfold AtC at h ⊢
 simp only [World.setCell, Array.getElem?_modify, if_true, h]
 rfl
set_option maxHeartbeats 4000000 in
theorem tsplit_any (s : ByteArray) (w : World) (hm : Mx w) (hs : s.size ≤ 1048576) : Calls Tryz.prog 200 #[.string s] w (RetSp w (decB s.data.toList)) := by
 have HB := hid (AtC.new w #[.bool false, .string ⟨#[]⟩, .string ⟨#[]⟩] : AtC 239 _ _ _)
 have HX := hid ((Ext.refl w).alloc (.cells #[.bool false, .string ⟨#[]⟩, .string ⟨#[]⟩] 239))
 have HMX := hid hm
 have HD := hid (decB_eq s.data.toList)
 have K1 := hid (fun W => Tryz.strings_CutPrefix s ⟨#[45]⟩ W)
 obtain ⟨p1, p2⟩ := prefix_neg s.data.toList
 have K1' : ∀ W, Calls Tryz.prog 178 #[.string s, .string ⟨#[45]⟩] W fun e w' => e = .returned (.tuple #[.string ⟨(restP s.data.toList).toArray⟩, .bool (negB s.data.toList)]) ∧ w' = W := fun W => by
  have h := K1.out W
  rwa [show (⟨#[45]⟩ : ByteArray).data.toList = [45] from rfl, p1, p2] at h
 have hrl : (restP s.data.toList).length ≤ 1048576 := by
  have : s.data.toList.length ≤ 1048576 := hs
  unfold restP
  split
  ·rw [List.length_drop]; omega
  ·exact this
 have K2 : ∀ W, Mx W → Calls Tryz.prog 204 #[.string ⟨(restP s.data.toList).toArray⟩, .string ⟨#[46]⟩] W fun e w' => e = .returned (.tuple #[.string ⟨(dotW (restP s.data.toList)).toArray⟩, .string ⟨((restP s.data.toList).drop ((dotW (restP s.data.toList)).length + 1)).toArray⟩, .bool (decide ((dotW (restP s.data.toList)).length < (restP s.data.toList).length))]) ∧ ∃ n, w' = W.drewN n := fun W hW => by
  obtain ⟨m, hW⟩ := hW
  have h := Tryz.strings_Cut ⟨(restP s.data.toList).toArray⟩ ⟨#[46]⟩ m W (show (restP s.data.toList).length < _ from by omega) hW
  rwa [show (⟨(restP s.data.toList).toArray⟩ : ByteArray).data.toList = restP s.data.toList from rfl, show (⟨#[46]⟩ : ByteArray).data.toList = [46] from rfl, cut_dot] at h
 have hdl := dotW_le (restP s.data.toList)
 have hfl : ((restP s.data.toList).drop ((dotW (restP s.data.toList)).length + 1)).length ≤ 1048576 := by rw [List.length_drop]; omega
 have hwl : (dotW (restP s.data.toList)).length ≤ 1048576 := by omega
 generalize restP s.data.toList = q at K1' K2 HD hrl hdl hfl hwl
 generalize negB s.data.toList = g at K1' HD
 generalize decide ((dotW q).length < q.length) = pt at K2 HD
 generalize q.drop ((dotW q).length + 1) = f at K2 HD hfl
 generalize dotW q = wh at K2 HD hfl hwl
 generalize decB s.data.toList = ok at HD ⊢
 obtain ⟨WH, hWH⟩ : ∃ WH : ByteArray, WH = ⟨wh.toArray⟩ := ⟨_, rfl⟩
 obtain ⟨FR, hFR⟩ : ∃ FR : ByteArray, FR = ⟨f.toArray⟩ := ⟨_, rfl⟩
 obtain ⟨RS, hRS⟩ : ∃ RS : ByteArray, RS = ⟨q.toArray⟩ := ⟨_, rfl⟩
 rw [← hRS] at K1' K2
 rw [← hWH, ← hFR] at K2
 have ew : wh = WH.data.toList := by rw [hWH]
 have ef : f = FR.data.toList := by rw [hFR]
 have sw : WH.size ≤ 1048576 := by rw [ew] at hwl; exact hwl
 have sf : FR.size ≤ 1048576 := by rw [ef] at hfl; exact hfl
 rw [ew, ef] at HD
 have HK1 := hid K1'
 have HK2 := hid K2
 have HK3 := hid (fun W => tdigits_any WH W sw)
 have HK4 := hid (fun W => tdigits_any FR W sf)
 have HK5 := hid (fun W => tnzero_any g WH FR W sw sf)
 clear p1 p2 K1 K1' K2 hrl hdl hfl hwl hWH hFR hRS ew ef hm hs
 unfold decN at HD
 go_enter Tryz.func200, Tryz.ntmps200
 go_wp2_with fail
 refine (HK1.out _).mono ?_
 rintro e w2 ⟨rfl, rfl⟩
 go_wp2_with fail
 refine (HK2.out _ (HMX.out.ext HX.out)).mono ?_
 rintro e w3 ⟨rfl, n, rfl⟩
 have HX3 := hid (HX.out.drewN n)
 have HB3 := hid (HB.out.ext ((Ext.refl _).drewN n))
 obtain ⟨w3, hw3⟩ : ∃ w3, w3 = (w.alloc (.cells #[.bool false, .string ⟨#[]⟩, .string ⟨#[]⟩] 239)).drewN n := ⟨_, rfl⟩
 rw [← hw3] at HX3 HB3
 have HSZ := hid (show w3.heap.size = w.heap.size + 1 from by rw [hw3]; show (w.alloc _).heap.size = _; simp)
 rw [← hw3]
 clear hw3
 have HN4 := hid (AtC.new w3 #[.bool g, .string WH, .string FR] : AtC 239 _ _ _)
 have HX34 := hid (show Ext w3 (w3.alloc (.cells #[.bool g, .string WH, .string FR] 239)) from (Ext.refl w3).alloc _)
 have HB4 := hid (HB3.out.ext HX34.out)
 have HX4 := hid (HX3.out.trans HX34.out)
 have hsz : WH.data.toList.length = WH.size := rfl
 have hsf : FR.data.toList.length = FR.size := rfl
 rw [hsz, hsf] at HD
 clear hsz hsf
 by_cases a1 : WH.size < 1
 ·have HF := hid (show ok = false from by rw [HD.out]; simp [a1])
  have b1 : (WH.size : Int) < 1 := by omega
  have f0 := frz_of HB4.out 0
  have f1 := frz_of HB4.out 1
  have f2 := frz_of HB4.out 2
  have y0 := HB4.out.cell 0 _ rfl
  have y1 := HB4.out.cell 1 _ rfl
  have y2 := HB4.out.cell 2 _ rfl
  have n0 := HN4.out.cell 0 _ rfl
  have n1 := HN4.out.cell 1 _ rfl
  have n2 := HN4.out.cell 2 _ rfl
  go_wp2
  have hat := at_set3 (b0 := .bool g) (b1 := .string WH) (b2 := .string FR) HB4.out
  have z0 := hat.cell 0 _ rfl
  have z1 := hat.cell 1 _ rfl
  have z2 := hat.cell 2 _ rfl
  clear hat f0 f1 f2 y0 y1 y2 n0 n1 n2
  refine bodyPost_ret (v := .tuple #[.agg #[.bool g, .string WH, .string FR], .bool false]) (by rw [results_cell_tmp rfl]; go_simp) rfl ?_
  rw [HF.out]
  exact ⟨g, WH, FR, rfl, (((HX4.out.setCell (Nat.le_refl _) _).setCell (Nat.le_refl _) _).setCell (Nat.le_refl _) _)⟩
 have b1 : ¬ (WH.size : Int) < 1 := by omega
 by_cases a2 : 15 < WH.size
 ·have HF := hid (show ok = false from by rw [HD.out]; simp [a2])
  have b2 : (15 : Int) < (WH.size : Int) := by omega
  have f0 := frz_of HB4.out 0
  have f1 := frz_of HB4.out 1
  have f2 := frz_of HB4.out 2
  have y0 := HB4.out.cell 0 _ rfl
  have y1 := HB4.out.cell 1 _ rfl
  have y2 := HB4.out.cell 2 _ rfl
  have n0 := HN4.out.cell 0 _ rfl
  have n1 := HN4.out.cell 1 _ rfl
  have n2 := HN4.out.cell 2 _ rfl
  go_wp2
  have hat := at_set3 (b0 := .bool g) (b1 := .string WH) (b2 := .string FR) HB4.out
  have z0 := hat.cell 0 _ rfl
  have z1 := hat.cell 1 _ rfl
  have z2 := hat.cell 2 _ rfl
  clear hat f0 f1 f2 y0 y1 y2 n0 n1 n2
  refine bodyPost_ret (v := .tuple #[.agg #[.bool g, .string WH, .string FR], .bool false]) (by rw [results_cell_tmp rfl]; go_simp) rfl ?_
  rw [HF.out]
  exact ⟨g, WH, FR, rfl, (((HX4.out.setCell (Nat.le_refl _) _).setCell (Nat.le_refl _) _).setCell (Nat.le_refl _) _)⟩
 have b2 : ¬ (15 : Int) < (WH.size : Int) := by omega
 cases a3 : WH.data.toList.all digB
 ·have HF := hid (show ok = false from by rw [HD.out, a3]; simp)
  rw [a3] at HK3
  clear a3 HD
  go_wp2_with fail
  refine (HK3.out _).mono ?_
  rintro e w5 ⟨rfl, hw5⟩
  have HX5 := hid (HX4.out.trans hw5)
  have HB5 := hid (HB4.out.ext hw5)
  have HN5 := hid (HN4.out.ext hw5)
  clear hw5
  have f0 := frz_of HB5.out 0
  have f1 := frz_of HB5.out 1
  have f2 := frz_of HB5.out 2
  have y0 := HB5.out.cell 0 _ rfl
  have y1 := HB5.out.cell 1 _ rfl
  have y2 := HB5.out.cell 2 _ rfl
  have n0 := HN5.out.cell 0 _ rfl
  have n1 := HN5.out.cell 1 _ rfl
  have n2 := HN5.out.cell 2 _ rfl
  go_wp2
  have hat := at_set3 (b0 := .bool g) (b1 := .string WH) (b2 := .string FR) HB5.out
  have z0 := hat.cell 0 _ rfl
  have z1 := hat.cell 1 _ rfl
  have z2 := hat.cell 2 _ rfl
  clear hat f0 f1 f2 y0 y1 y2 n0 n1 n2
  refine bodyPost_ret (v := .tuple #[.agg #[.bool g, .string WH, .string FR], .bool false]) (by rw [results_cell_tmp rfl]; go_simp) rfl ?_
  rw [HF.out]
  exact ⟨g, WH, FR, rfl, (((HX5.out.setCell (Nat.le_refl _) _).setCell (Nat.le_refl _) _).setCell (Nat.le_refl _) _)⟩
 rw [a3] at HK3 HD
 clear a3
 have hidx : ∀ h : 0 < WH.size, WH.data.toList.headD 0 = WH[0] := fun h => head_atI WH h
 have hp : 0 < WH.size := by omega
 rw [hidx hp] at HD
 by_cases a4 : 1 < WH.size ∧ WH[0]'hp = 48
 ·have HF := hid (show ok = false from by rw [HD.out, a4.2]; simp [a4.1])
  have b4 : (1 : Int) < (WH.size : Int) := by omega
  have b5 : ((WH[0]'hp).toNat : Int) = 48 := by rw [a4.2]; rfl
  clear HD a4
  go_wp2_with fail
  refine (HK3.out _).mono ?_
  rintro e w5 ⟨rfl, hw5⟩
  have HX5 := hid (HX4.out.trans hw5)
  have HB5 := hid (HB4.out.ext hw5)
  have HN5 := hid (HN4.out.ext hw5)
  clear hw5
  have f0 := frz_of HB5.out 0
  have f1 := frz_of HB5.out 1
  have f2 := frz_of HB5.out 2
  have y0 := HB5.out.cell 0 _ rfl
  have y1 := HB5.out.cell 1 _ rfl
  have y2 := HB5.out.cell 2 _ rfl
  have n0 := HN5.out.cell 0 _ rfl
  have n1 := HN5.out.cell 1 _ rfl
  have n2 := HN5.out.cell 2 _ rfl
  go_wp2
  have hat := at_set3 (b0 := .bool g) (b1 := .string WH) (b2 := .string FR) HB5.out
  have z0 := hat.cell 0 _ rfl
  have z1 := hat.cell 1 _ rfl
  have z2 := hat.cell 2 _ rfl
  clear hat f0 f1 f2 y0 y1 y2 n0 n1 n2
  refine bodyPost_ret (v := .tuple #[.agg #[.bool g, .string WH, .string FR], .bool false]) (by rw [results_cell_tmp rfl]; go_simp) rfl ?_
  rw [HF.out]
  exact ⟨g, WH, FR, rfl, (((HX5.out.setCell (Nat.le_refl _) _).setCell (Nat.le_refl _) _).setCell (Nat.le_refl _) _)⟩
 have e4 : (decide (1 < WH.size) && (WH[0]'hp == 48)) = false := by
  rw [Bool.and_eq_false_iff]
  by_cases h : 1 < WH.size
  ·exact .inr (by simpa using fun e => a4 ⟨h, e⟩)
  ·exact .inl (by simpa using h)
 rw [e4] at HD
 have HD2 := hid (show ok = (!(pt && decide (FR.size = 0) || decide (6 < FR.size) || !FR.data.toList.all digB) && !(g && ((WH.data.toList.all fun x => x == 48) && FR.data.toList.all fun x => x == 48))) from by rw [HD.out]; simp [a1, a2])
 clear HD e4
 go_wp2_with fail
 refine (HK3.out _).mono ?_
 rintro e w5 ⟨rfl, hw5⟩
 have HX5 := hid (HX4.out.trans hw5)
 have HB5 := hid (HB4.out.ext hw5)
 have HN5 := hid (HN4.out.ext hw5)
 clear hw5
 have NE := hid (fun (h : 1 < WH.size) (e : WH[0]'hp = 48) => a4 ⟨h, e⟩)
 clear a4
 by_cases a4 : 1 < WH.size
 ·have b4 : (1 : Int) < (WH.size : Int) := by omega
  have b5 : (((WH[0]'hp).toNat : Int) == 48) = false := by
   rw [beq_eq_false_iff_ne]
   intro e
   exact NE.out a4 (UInt8.toNat_inj.1 (by have : (48 : UInt8).toNat = 48 := rfl; omega))
  clear a4
  by_cases a5 : pt = true ∧ FR.size = 0
  ·have HF := hid (show ok = false from by rw [HD2.out, a5.1, a5.2]; simp)
   obtain ⟨rfl, a5⟩ := a5
   have b6 : ((FR.size : Int) == 0) = true := by simp [a5]
   have b7 : (FR.size : Int) = 0 := by omega
   have f0 := frz_of HB5.out 0
   have f1 := frz_of HB5.out 1
   have f2 := frz_of HB5.out 2
   have y0 := HB5.out.cell 0 _ rfl
   have y1 := HB5.out.cell 1 _ rfl
   have y2 := HB5.out.cell 2 _ rfl
   have n0 := HN5.out.cell 0 _ rfl
   have n1 := HN5.out.cell 1 _ rfl
   have n2 := HN5.out.cell 2 _ rfl
   go_wp2
   have hat := at_set3 (b0 := .bool g) (b1 := .string WH) (b2 := .string FR) HB5.out
   have z0 := hat.cell 0 _ rfl
   have z1 := hat.cell 1 _ rfl
   have z2 := hat.cell 2 _ rfl
   clear hat f0 f1 f2 y0 y1 y2 n0 n1 n2
   refine bodyPost_ret (v := .tuple #[.agg #[.bool g, .string WH, .string FR], .bool false]) (by rw [results_cell_tmp rfl]; go_simp) rfl ?_
   rw [HF.out]
   exact ⟨g, WH, FR, rfl, (((HX5.out.setCell (Nat.le_refl _) _).setCell (Nat.le_refl _) _).setCell (Nat.le_refl _) _)⟩
  by_cases a6 : 6 < FR.size
  ·have HF := hid (show ok = false from by rw [HD2.out]; simp [a6])
   have b6 : (6 : Int) < (FR.size : Int) := by omega
   have b7 : ((FR.size : Int) == 0) = false := by rw [beq_eq_false_iff_ne]; omega
   cases pt
   ·have f0 := frz_of HB5.out 0
    have f1 := frz_of HB5.out 1
    have f2 := frz_of HB5.out 2
    have y0 := HB5.out.cell 0 _ rfl
    have y1 := HB5.out.cell 1 _ rfl
    have y2 := HB5.out.cell 2 _ rfl
    have n0 := HN5.out.cell 0 _ rfl
    have n1 := HN5.out.cell 1 _ rfl
    have n2 := HN5.out.cell 2 _ rfl
    go_wp2
    have hat := at_set3 (b0 := .bool g) (b1 := .string WH) (b2 := .string FR) HB5.out
    have z0 := hat.cell 0 _ rfl
    have z1 := hat.cell 1 _ rfl
    have z2 := hat.cell 2 _ rfl
    clear hat f0 f1 f2 y0 y1 y2 n0 n1 n2
    refine bodyPost_ret (v := .tuple #[.agg #[.bool g, .string WH, .string FR], .bool false]) (by rw [results_cell_tmp rfl]; go_simp) rfl ?_
    rw [HF.out]
    exact ⟨g, WH, FR, rfl, (((HX5.out.setCell (Nat.le_refl _) _).setCell (Nat.le_refl _) _).setCell (Nat.le_refl _) _)⟩
   ·have f0 := frz_of HB5.out 0
    have f1 := frz_of HB5.out 1
    have f2 := frz_of HB5.out 2
    have y0 := HB5.out.cell 0 _ rfl
    have y1 := HB5.out.cell 1 _ rfl
    have y2 := HB5.out.cell 2 _ rfl
    have n0 := HN5.out.cell 0 _ rfl
    have n1 := HN5.out.cell 1 _ rfl
    have n2 := HN5.out.cell 2 _ rfl
    go_wp2
    have hat := at_set3 (b0 := .bool g) (b1 := .string WH) (b2 := .string FR) HB5.out
    have z0 := hat.cell 0 _ rfl
    have z1 := hat.cell 1 _ rfl
    have z2 := hat.cell 2 _ rfl
    clear hat f0 f1 f2 y0 y1 y2 n0 n1 n2
    refine bodyPost_ret (v := .tuple #[.agg #[.bool g, .string WH, .string FR], .bool false]) (by rw [results_cell_tmp rfl]; go_simp) rfl ?_
    rw [HF.out]
    exact ⟨g, WH, FR, rfl, (((HX5.out.setCell (Nat.le_refl _) _).setCell (Nat.le_refl _) _).setCell (Nat.le_refl _) _)⟩
  have b6 : ¬ (6 : Int) < (FR.size : Int) := by omega
  have e5 : (pt && decide (FR.size = 0)) = false := by
   rw [Bool.and_eq_false_iff]
   cases pt
   ·exact .inl rfl
   ·exact .inr (by simpa using fun h => a5 ⟨rfl, h⟩)
  have HD3 := hid (show ok = (FR.data.toList.all digB && !(g && ((WH.data.toList.all fun x => x == 48) && FR.data.toList.all fun x => x == 48))) from by rw [HD2.out, e5]; simp [a6])
  have b7 : pt = true → ((FR.size : Int) == 0) = false := fun h => by rw [beq_eq_false_iff_ne]; intro e; exact a5 ⟨h, by omega⟩
  clear a5 a6 e5
  have HB7 := hid b7
  clear b7
  cases hd : FR.data.toList.all digB
  ·have HF := hid (show ok = false from by rw [HD3.out, hd]; simp)
   rw [hd] at HK4
   clear hd
   cases pt
   ·go_wp2_with fail
    refine (HK4.out _).mono ?_
    rintro e w6 ⟨rfl, hw6⟩
    have HX6 := hid (HX5.out.trans hw6)
    have HB6 := hid (HB5.out.ext hw6)
    have HN6 := hid (HN5.out.ext hw6)
    clear hw6
    have f0 := frz_of HB6.out 0
    have f1 := frz_of HB6.out 1
    have f2 := frz_of HB6.out 2
    have y0 := HB6.out.cell 0 _ rfl
    have y1 := HB6.out.cell 1 _ rfl
    have y2 := HB6.out.cell 2 _ rfl
    have n0 := HN6.out.cell 0 _ rfl
    have n1 := HN6.out.cell 1 _ rfl
    have n2 := HN6.out.cell 2 _ rfl
    go_wp2
    have hat := at_set3 (b0 := .bool g) (b1 := .string WH) (b2 := .string FR) HB6.out
    have z0 := hat.cell 0 _ rfl
    have z1 := hat.cell 1 _ rfl
    have z2 := hat.cell 2 _ rfl
    clear hat f0 f1 f2 y0 y1 y2 n0 n1 n2
    refine bodyPost_ret (v := .tuple #[.agg #[.bool g, .string WH, .string FR], .bool false]) (by rw [results_cell_tmp rfl]; go_simp) rfl ?_
    rw [HF.out]
    exact ⟨g, WH, FR, rfl, (((HX6.out.setCell (Nat.le_refl _) _).setCell (Nat.le_refl _) _).setCell (Nat.le_refl _) _)⟩
   ·have b7 := HB7.out rfl
    go_wp2_with fail
    refine (HK4.out _).mono ?_
    rintro e w6 ⟨rfl, hw6⟩
    have HX6 := hid (HX5.out.trans hw6)
    have HB6 := hid (HB5.out.ext hw6)
    have HN6 := hid (HN5.out.ext hw6)
    clear hw6
    have f0 := frz_of HB6.out 0
    have f1 := frz_of HB6.out 1
    have f2 := frz_of HB6.out 2
    have y0 := HB6.out.cell 0 _ rfl
    have y1 := HB6.out.cell 1 _ rfl
    have y2 := HB6.out.cell 2 _ rfl
    have n0 := HN6.out.cell 0 _ rfl
    have n1 := HN6.out.cell 1 _ rfl
    have n2 := HN6.out.cell 2 _ rfl
    go_wp2
    have hat := at_set3 (b0 := .bool g) (b1 := .string WH) (b2 := .string FR) HB6.out
    have z0 := hat.cell 0 _ rfl
    have z1 := hat.cell 1 _ rfl
    have z2 := hat.cell 2 _ rfl
    clear hat f0 f1 f2 y0 y1 y2 n0 n1 n2
    refine bodyPost_ret (v := .tuple #[.agg #[.bool g, .string WH, .string FR], .bool false]) (by rw [results_cell_tmp rfl]; go_simp) rfl ?_
    rw [HF.out]
    exact ⟨g, WH, FR, rfl, (((HX6.out.setCell (Nat.le_refl _) _).setCell (Nat.le_refl _) _).setCell (Nat.le_refl _) _)⟩
  rw [hd] at HK4 HD3
  clear hd
  cases pt
  ·go_wp2_with fail
   refine (HK4.out _).mono ?_
   rintro e w6 ⟨rfl, hw6⟩
   have HX6 := hid (HX5.out.trans hw6)
   have HB6 := hid (HB5.out.ext hw6)
   have HN6 := hid (HN5.out.ext hw6)
   clear hw6
   have HF := hid (show ok = !(g && ((WH.data.toList.all fun x => x == 48) && FR.data.toList.all fun x => x == 48)) from by rw [HD3.out]; simp)
   have f0 := frz_of HB6.out 0
   have f1 := frz_of HB6.out 1
   have f2 := frz_of HB6.out 2
   have y0 := HB6.out.cell 0 _ rfl
   have y1 := HB6.out.cell 1 _ rfl
   have y2 := HB6.out.cell 2 _ rfl
   have n0 := HN6.out.cell 0 _ rfl
   have n1 := HN6.out.cell 1 _ rfl
   have n2 := HN6.out.cell 2 _ rfl
   cases g
   ·have HF2 := hid (show ok = true from by rw [HF.out]; rfl)
    go_wp2_with fail
    have HB6' := hid (show AtC 239 w6.drew w.heap.size #[.bool false, .string ⟨#[]⟩, .string ⟨#[]⟩] from HB6.out.ext (Ext.refl w6).drew)
    go_region_law (fail)
    all_goals go_wp2
    all_goals (have hat := at_set3 (b0 := .bool false) (b1 := .string WH) (b2 := .string FR) HB6.out; have z0 := hat.cell 0 _ rfl; have z1 := hat.cell 1 _ rfl; have z2 := hat.cell 2 _ rfl; clear hat f0 f1 f2 y0 y1 y2 n0 n1 n2; refine bodyPost_ret (v := .tuple #[.agg #[.bool false, .string WH, .string FR], .bool true]) (by rw [results_cell_tmp rfl]; go_simp) rfl ?_; rw [HF2.out]; exact ⟨false, WH, FR, rfl, (((HX6.out.setCell (Nat.le_refl _) _).setCell (Nat.le_refl _) _).setCell (Nat.le_refl _) _).drew⟩)
   ·have HF2 := hid (show ok = !((WH.data.toList.all fun x => x == 48) && FR.data.toList.all fun x => x == 48) from by rw [HF.out]; simp)
    have tok1 := True.intro
    go_wp2_with fail
    go_region_law (first | (have _t := tok1; go_simp; go_at_call 206; refine (HK5.out _).mono ?_; rintro e w7 ⟨rfl, hw7⟩; have HX7 := hid (HX6.out.drew.trans hw7); have HB7' := hid (HB6.out.ext ((Ext.refl w6).drew.trans hw7)); have HN7 := hid (HN6.out.ext ((Ext.refl w6).drew.trans hw7)); have p0 := frz_of HB7'.out 0; have p1 := frz_of HB7'.out 1; have p2 := frz_of HB7'.out 2; have q0 := HB7'.out.cell 0 _ rfl; have q1 := HB7'.out.cell 1 _ rfl; have q2 := HB7'.out.cell 2 _ rfl; have m0 := HN7.out.cell 0 _ rfl; have m1 := HN7.out.cell 1 _ rfl; have m2 := HN7.out.cell 2 _ rfl; clear hw7 tok1))
    all_goals go_wp2
    all_goals (have hat := at_set3 (b0 := .bool true) (b1 := .string WH) (b2 := .string FR) HB7'.out; have z0 := hat.cell 0 _ rfl; have z1 := hat.cell 1 _ rfl; have z2 := hat.cell 2 _ rfl; clear hat p0 p1 p2 q0 q1 q2 m0 m1 m2 f0 f1 f2 y0 y1 y2 n0 n1 n2; refine bodyPost_ret (v := .tuple #[.agg #[.bool true, .string WH, .string FR], .bool (!((WH.data.toList.all fun x => x == 48) && FR.data.toList.all fun x => x == 48))]) (by rw [results_cell_tmp rfl]; go_simp) rfl ?_; rw [HF2.out]; exact ⟨true, WH, FR, rfl, (((HX7.out.setCell (Nat.le_refl _) _).setCell (Nat.le_refl _) _).setCell (Nat.le_refl _) _)⟩)
  ·have b7 := HB7.out rfl
   go_wp2_with fail
   refine (HK4.out _).mono ?_
   rintro e w6 ⟨rfl, hw6⟩
   have HX6 := hid (HX5.out.trans hw6)
   have HB6 := hid (HB5.out.ext hw6)
   have HN6 := hid (HN5.out.ext hw6)
   clear hw6
   have HF := hid (show ok = !(g && ((WH.data.toList.all fun x => x == 48) && FR.data.toList.all fun x => x == 48)) from by rw [HD3.out]; simp)
   have f0 := frz_of HB6.out 0
   have f1 := frz_of HB6.out 1
   have f2 := frz_of HB6.out 2
   have y0 := HB6.out.cell 0 _ rfl
   have y1 := HB6.out.cell 1 _ rfl
   have y2 := HB6.out.cell 2 _ rfl
   have n0 := HN6.out.cell 0 _ rfl
   have n1 := HN6.out.cell 1 _ rfl
   have n2 := HN6.out.cell 2 _ rfl
   cases g
   ·have HF2 := hid (show ok = true from by rw [HF.out]; rfl)
    go_wp2_with fail
    have HB6' := hid (show AtC 239 w6.drew w.heap.size #[.bool false, .string ⟨#[]⟩, .string ⟨#[]⟩] from HB6.out.ext (Ext.refl w6).drew)
    go_region_law (fail)
    all_goals go_wp2
    all_goals (have hat := at_set3 (b0 := .bool false) (b1 := .string WH) (b2 := .string FR) HB6.out; have z0 := hat.cell 0 _ rfl; have z1 := hat.cell 1 _ rfl; have z2 := hat.cell 2 _ rfl; clear hat f0 f1 f2 y0 y1 y2 n0 n1 n2; refine bodyPost_ret (v := .tuple #[.agg #[.bool false, .string WH, .string FR], .bool true]) (by rw [results_cell_tmp rfl]; go_simp) rfl ?_; rw [HF2.out]; exact ⟨false, WH, FR, rfl, (((HX6.out.setCell (Nat.le_refl _) _).setCell (Nat.le_refl _) _).setCell (Nat.le_refl _) _).drew⟩)
   ·have HF2 := hid (show ok = !((WH.data.toList.all fun x => x == 48) && FR.data.toList.all fun x => x == 48) from by rw [HF.out]; simp)
    have tok1 := True.intro
    go_wp2_with fail
    go_region_law (first | (have _t := tok1; go_simp; go_at_call 206; refine (HK5.out _).mono ?_; rintro e w7 ⟨rfl, hw7⟩; have HX7 := hid (HX6.out.drew.trans hw7); have HB7' := hid (HB6.out.ext ((Ext.refl w6).drew.trans hw7)); have HN7 := hid (HN6.out.ext ((Ext.refl w6).drew.trans hw7)); have p0 := frz_of HB7'.out 0; have p1 := frz_of HB7'.out 1; have p2 := frz_of HB7'.out 2; have q0 := HB7'.out.cell 0 _ rfl; have q1 := HB7'.out.cell 1 _ rfl; have q2 := HB7'.out.cell 2 _ rfl; have m0 := HN7.out.cell 0 _ rfl; have m1 := HN7.out.cell 1 _ rfl; have m2 := HN7.out.cell 2 _ rfl; clear hw7 tok1))
    all_goals go_wp2
    all_goals (have hat := at_set3 (b0 := .bool true) (b1 := .string WH) (b2 := .string FR) HB7'.out; have z0 := hat.cell 0 _ rfl; have z1 := hat.cell 1 _ rfl; have z2 := hat.cell 2 _ rfl; clear hat p0 p1 p2 q0 q1 q2 m0 m1 m2 f0 f1 f2 y0 y1 y2 n0 n1 n2; refine bodyPost_ret (v := .tuple #[.agg #[.bool true, .string WH, .string FR], .bool (!((WH.data.toList.all fun x => x == 48) && FR.data.toList.all fun x => x == 48))]) (by rw [results_cell_tmp rfl]; go_simp) rfl ?_; rw [HF2.out]; exact ⟨true, WH, FR, rfl, (((HX7.out.setCell (Nat.le_refl _) _).setCell (Nat.le_refl _) _).setCell (Nat.le_refl _) _)⟩)
 ·have b4 : ¬ (1 : Int) < (WH.size : Int) := by omega
  clear a4
  by_cases a5 : pt = true ∧ FR.size = 0
  ·have HF := hid (show ok = false from by rw [HD2.out, a5.1, a5.2]; simp)
   obtain ⟨rfl, a5⟩ := a5
   have b6 : ((FR.size : Int) == 0) = true := by simp [a5]
   have b7 : (FR.size : Int) = 0 := by omega
   have f0 := frz_of HB5.out 0
   have f1 := frz_of HB5.out 1
   have f2 := frz_of HB5.out 2
   have y0 := HB5.out.cell 0 _ rfl
   have y1 := HB5.out.cell 1 _ rfl
   have y2 := HB5.out.cell 2 _ rfl
   have n0 := HN5.out.cell 0 _ rfl
   have n1 := HN5.out.cell 1 _ rfl
   have n2 := HN5.out.cell 2 _ rfl
   go_wp2
   have hat := at_set3 (b0 := .bool g) (b1 := .string WH) (b2 := .string FR) HB5.out
   have z0 := hat.cell 0 _ rfl
   have z1 := hat.cell 1 _ rfl
   have z2 := hat.cell 2 _ rfl
   clear hat f0 f1 f2 y0 y1 y2 n0 n1 n2
   refine bodyPost_ret (v := .tuple #[.agg #[.bool g, .string WH, .string FR], .bool false]) (by rw [results_cell_tmp rfl]; go_simp) rfl ?_
   rw [HF.out]
   exact ⟨g, WH, FR, rfl, (((HX5.out.setCell (Nat.le_refl _) _).setCell (Nat.le_refl _) _).setCell (Nat.le_refl _) _)⟩
  by_cases a6 : 6 < FR.size
  ·have HF := hid (show ok = false from by rw [HD2.out]; simp [a6])
   have b6 : (6 : Int) < (FR.size : Int) := by omega
   have b7 : ((FR.size : Int) == 0) = false := by rw [beq_eq_false_iff_ne]; omega
   cases pt
   ·have f0 := frz_of HB5.out 0
    have f1 := frz_of HB5.out 1
    have f2 := frz_of HB5.out 2
    have y0 := HB5.out.cell 0 _ rfl
    have y1 := HB5.out.cell 1 _ rfl
    have y2 := HB5.out.cell 2 _ rfl
    have n0 := HN5.out.cell 0 _ rfl
    have n1 := HN5.out.cell 1 _ rfl
    have n2 := HN5.out.cell 2 _ rfl
    go_wp2
    have hat := at_set3 (b0 := .bool g) (b1 := .string WH) (b2 := .string FR) HB5.out
    have z0 := hat.cell 0 _ rfl
    have z1 := hat.cell 1 _ rfl
    have z2 := hat.cell 2 _ rfl
    clear hat f0 f1 f2 y0 y1 y2 n0 n1 n2
    refine bodyPost_ret (v := .tuple #[.agg #[.bool g, .string WH, .string FR], .bool false]) (by rw [results_cell_tmp rfl]; go_simp) rfl ?_
    rw [HF.out]
    exact ⟨g, WH, FR, rfl, (((HX5.out.setCell (Nat.le_refl _) _).setCell (Nat.le_refl _) _).setCell (Nat.le_refl _) _)⟩
   ·have f0 := frz_of HB5.out 0
    have f1 := frz_of HB5.out 1
    have f2 := frz_of HB5.out 2
    have y0 := HB5.out.cell 0 _ rfl
    have y1 := HB5.out.cell 1 _ rfl
    have y2 := HB5.out.cell 2 _ rfl
    have n0 := HN5.out.cell 0 _ rfl
    have n1 := HN5.out.cell 1 _ rfl
    have n2 := HN5.out.cell 2 _ rfl
    go_wp2
    have hat := at_set3 (b0 := .bool g) (b1 := .string WH) (b2 := .string FR) HB5.out
    have z0 := hat.cell 0 _ rfl
    have z1 := hat.cell 1 _ rfl
    have z2 := hat.cell 2 _ rfl
    clear hat f0 f1 f2 y0 y1 y2 n0 n1 n2
    refine bodyPost_ret (v := .tuple #[.agg #[.bool g, .string WH, .string FR], .bool false]) (by rw [results_cell_tmp rfl]; go_simp) rfl ?_
    rw [HF.out]
    exact ⟨g, WH, FR, rfl, (((HX5.out.setCell (Nat.le_refl _) _).setCell (Nat.le_refl _) _).setCell (Nat.le_refl _) _)⟩
  have b6 : ¬ (6 : Int) < (FR.size : Int) := by omega
  have e5 : (pt && decide (FR.size = 0)) = false := by
   rw [Bool.and_eq_false_iff]
   cases pt
   ·exact .inl rfl
   ·exact .inr (by simpa using fun h => a5 ⟨rfl, h⟩)
  have HD3 := hid (show ok = (FR.data.toList.all digB && !(g && ((WH.data.toList.all fun x => x == 48) && FR.data.toList.all fun x => x == 48))) from by rw [HD2.out, e5]; simp [a6])
  have b7 : pt = true → ((FR.size : Int) == 0) = false := fun h => by rw [beq_eq_false_iff_ne]; intro e; exact a5 ⟨h, by omega⟩
  clear a5 a6 e5
  have HB7 := hid b7
  clear b7
  cases hd : FR.data.toList.all digB
  ·have HF := hid (show ok = false from by rw [HD3.out, hd]; simp)
   rw [hd] at HK4
   clear hd
   cases pt
   ·go_wp2_with fail
    refine (HK4.out _).mono ?_
    rintro e w6 ⟨rfl, hw6⟩
    have HX6 := hid (HX5.out.trans hw6)
    have HB6 := hid (HB5.out.ext hw6)
    have HN6 := hid (HN5.out.ext hw6)
    clear hw6
    have f0 := frz_of HB6.out 0
    have f1 := frz_of HB6.out 1
    have f2 := frz_of HB6.out 2
    have y0 := HB6.out.cell 0 _ rfl
    have y1 := HB6.out.cell 1 _ rfl
    have y2 := HB6.out.cell 2 _ rfl
    have n0 := HN6.out.cell 0 _ rfl
    have n1 := HN6.out.cell 1 _ rfl
    have n2 := HN6.out.cell 2 _ rfl
    go_wp2
    have hat := at_set3 (b0 := .bool g) (b1 := .string WH) (b2 := .string FR) HB6.out
    have z0 := hat.cell 0 _ rfl
    have z1 := hat.cell 1 _ rfl
    have z2 := hat.cell 2 _ rfl
    clear hat f0 f1 f2 y0 y1 y2 n0 n1 n2
    refine bodyPost_ret (v := .tuple #[.agg #[.bool g, .string WH, .string FR], .bool false]) (by rw [results_cell_tmp rfl]; go_simp) rfl ?_
    rw [HF.out]
    exact ⟨g, WH, FR, rfl, (((HX6.out.setCell (Nat.le_refl _) _).setCell (Nat.le_refl _) _).setCell (Nat.le_refl _) _)⟩
   ·have b7 := HB7.out rfl
    go_wp2_with fail
    refine (HK4.out _).mono ?_
    rintro e w6 ⟨rfl, hw6⟩
    have HX6 := hid (HX5.out.trans hw6)
    have HB6 := hid (HB5.out.ext hw6)
    have HN6 := hid (HN5.out.ext hw6)
    clear hw6
    have f0 := frz_of HB6.out 0
    have f1 := frz_of HB6.out 1
    have f2 := frz_of HB6.out 2
    have y0 := HB6.out.cell 0 _ rfl
    have y1 := HB6.out.cell 1 _ rfl
    have y2 := HB6.out.cell 2 _ rfl
    have n0 := HN6.out.cell 0 _ rfl
    have n1 := HN6.out.cell 1 _ rfl
    have n2 := HN6.out.cell 2 _ rfl
    go_wp2
    have hat := at_set3 (b0 := .bool g) (b1 := .string WH) (b2 := .string FR) HB6.out
    have z0 := hat.cell 0 _ rfl
    have z1 := hat.cell 1 _ rfl
    have z2 := hat.cell 2 _ rfl
    clear hat f0 f1 f2 y0 y1 y2 n0 n1 n2
    refine bodyPost_ret (v := .tuple #[.agg #[.bool g, .string WH, .string FR], .bool false]) (by rw [results_cell_tmp rfl]; go_simp) rfl ?_
    rw [HF.out]
    exact ⟨g, WH, FR, rfl, (((HX6.out.setCell (Nat.le_refl _) _).setCell (Nat.le_refl _) _).setCell (Nat.le_refl _) _)⟩
  rw [hd] at HK4 HD3
  clear hd
  cases pt
  ·go_wp2_with fail
   refine (HK4.out _).mono ?_
   rintro e w6 ⟨rfl, hw6⟩
   have HX6 := hid (HX5.out.trans hw6)
   have HB6 := hid (HB5.out.ext hw6)
   have HN6 := hid (HN5.out.ext hw6)
   clear hw6
   have HF := hid (show ok = !(g && ((WH.data.toList.all fun x => x == 48) && FR.data.toList.all fun x => x == 48)) from by rw [HD3.out]; simp)
   have f0 := frz_of HB6.out 0
   have f1 := frz_of HB6.out 1
   have f2 := frz_of HB6.out 2
   have y0 := HB6.out.cell 0 _ rfl
   have y1 := HB6.out.cell 1 _ rfl
   have y2 := HB6.out.cell 2 _ rfl
   have n0 := HN6.out.cell 0 _ rfl
   have n1 := HN6.out.cell 1 _ rfl
   have n2 := HN6.out.cell 2 _ rfl
   cases g
   ·have HF2 := hid (show ok = true from by rw [HF.out]; rfl)
    go_wp2_with fail
    have HB6' := hid (show AtC 239 w6.drew w.heap.size #[.bool false, .string ⟨#[]⟩, .string ⟨#[]⟩] from HB6.out.ext (Ext.refl w6).drew)
    go_region_law (fail)
    all_goals go_wp2
    all_goals (have hat := at_set3 (b0 := .bool false) (b1 := .string WH) (b2 := .string FR) HB6.out; have z0 := hat.cell 0 _ rfl; have z1 := hat.cell 1 _ rfl; have z2 := hat.cell 2 _ rfl; clear hat f0 f1 f2 y0 y1 y2 n0 n1 n2; refine bodyPost_ret (v := .tuple #[.agg #[.bool false, .string WH, .string FR], .bool true]) (by rw [results_cell_tmp rfl]; go_simp) rfl ?_; rw [HF2.out]; exact ⟨false, WH, FR, rfl, (((HX6.out.setCell (Nat.le_refl _) _).setCell (Nat.le_refl _) _).setCell (Nat.le_refl _) _).drew⟩)
   ·have HF2 := hid (show ok = !((WH.data.toList.all fun x => x == 48) && FR.data.toList.all fun x => x == 48) from by rw [HF.out]; simp)
    have tok1 := True.intro
    go_wp2_with fail
    go_region_law (first | (have _t := tok1; go_simp; go_at_call 206; refine (HK5.out _).mono ?_; rintro e w7 ⟨rfl, hw7⟩; have HX7 := hid (HX6.out.drew.trans hw7); have HB7' := hid (HB6.out.ext ((Ext.refl w6).drew.trans hw7)); have HN7 := hid (HN6.out.ext ((Ext.refl w6).drew.trans hw7)); have p0 := frz_of HB7'.out 0; have p1 := frz_of HB7'.out 1; have p2 := frz_of HB7'.out 2; have q0 := HB7'.out.cell 0 _ rfl; have q1 := HB7'.out.cell 1 _ rfl; have q2 := HB7'.out.cell 2 _ rfl; have m0 := HN7.out.cell 0 _ rfl; have m1 := HN7.out.cell 1 _ rfl; have m2 := HN7.out.cell 2 _ rfl; clear hw7 tok1))
    all_goals go_wp2
    all_goals (have hat := at_set3 (b0 := .bool true) (b1 := .string WH) (b2 := .string FR) HB7'.out; have z0 := hat.cell 0 _ rfl; have z1 := hat.cell 1 _ rfl; have z2 := hat.cell 2 _ rfl; clear hat p0 p1 p2 q0 q1 q2 m0 m1 m2 f0 f1 f2 y0 y1 y2 n0 n1 n2; refine bodyPost_ret (v := .tuple #[.agg #[.bool true, .string WH, .string FR], .bool (!((WH.data.toList.all fun x => x == 48) && FR.data.toList.all fun x => x == 48))]) (by rw [results_cell_tmp rfl]; go_simp) rfl ?_; rw [HF2.out]; exact ⟨true, WH, FR, rfl, (((HX7.out.setCell (Nat.le_refl _) _).setCell (Nat.le_refl _) _).setCell (Nat.le_refl _) _)⟩)
  ·have b7 := HB7.out rfl
   go_wp2_with fail
   refine (HK4.out _).mono ?_
   rintro e w6 ⟨rfl, hw6⟩
   have HX6 := hid (HX5.out.trans hw6)
   have HB6 := hid (HB5.out.ext hw6)
   have HN6 := hid (HN5.out.ext hw6)
   clear hw6
   have HF := hid (show ok = !(g && ((WH.data.toList.all fun x => x == 48) && FR.data.toList.all fun x => x == 48)) from by rw [HD3.out]; simp)
   have f0 := frz_of HB6.out 0
   have f1 := frz_of HB6.out 1
   have f2 := frz_of HB6.out 2
   have y0 := HB6.out.cell 0 _ rfl
   have y1 := HB6.out.cell 1 _ rfl
   have y2 := HB6.out.cell 2 _ rfl
   have n0 := HN6.out.cell 0 _ rfl
   have n1 := HN6.out.cell 1 _ rfl
   have n2 := HN6.out.cell 2 _ rfl
   cases g
   ·have HF2 := hid (show ok = true from by rw [HF.out]; rfl)
    go_wp2_with fail
    have HB6' := hid (show AtC 239 w6.drew w.heap.size #[.bool false, .string ⟨#[]⟩, .string ⟨#[]⟩] from HB6.out.ext (Ext.refl w6).drew)
    go_region_law (fail)
    all_goals go_wp2
    all_goals (have hat := at_set3 (b0 := .bool false) (b1 := .string WH) (b2 := .string FR) HB6.out; have z0 := hat.cell 0 _ rfl; have z1 := hat.cell 1 _ rfl; have z2 := hat.cell 2 _ rfl; clear hat f0 f1 f2 y0 y1 y2 n0 n1 n2; refine bodyPost_ret (v := .tuple #[.agg #[.bool false, .string WH, .string FR], .bool true]) (by rw [results_cell_tmp rfl]; go_simp) rfl ?_; rw [HF2.out]; exact ⟨false, WH, FR, rfl, (((HX6.out.setCell (Nat.le_refl _) _).setCell (Nat.le_refl _) _).setCell (Nat.le_refl _) _).drew⟩)
   ·have HF2 := hid (show ok = !((WH.data.toList.all fun x => x == 48) && FR.data.toList.all fun x => x == 48) from by rw [HF.out]; simp)
    have tok1 := True.intro
    go_wp2_with fail
    go_region_law (first | (have _t := tok1; go_simp; go_at_call 206; refine (HK5.out _).mono ?_; rintro e w7 ⟨rfl, hw7⟩; have HX7 := hid (HX6.out.drew.trans hw7); have HB7' := hid (HB6.out.ext ((Ext.refl w6).drew.trans hw7)); have HN7 := hid (HN6.out.ext ((Ext.refl w6).drew.trans hw7)); have p0 := frz_of HB7'.out 0; have p1 := frz_of HB7'.out 1; have p2 := frz_of HB7'.out 2; have q0 := HB7'.out.cell 0 _ rfl; have q1 := HB7'.out.cell 1 _ rfl; have q2 := HB7'.out.cell 2 _ rfl; have m0 := HN7.out.cell 0 _ rfl; have m1 := HN7.out.cell 1 _ rfl; have m2 := HN7.out.cell 2 _ rfl; clear hw7 tok1))
    all_goals go_wp2
    all_goals (have hat := at_set3 (b0 := .bool true) (b1 := .string WH) (b2 := .string FR) HB7'.out; have z0 := hat.cell 0 _ rfl; have z1 := hat.cell 1 _ rfl; have z2 := hat.cell 2 _ rfl; clear hat p0 p1 p2 q0 q1 q2 m0 m1 m2 f0 f1 f2 y0 y1 y2 n0 n1 n2; refine bodyPost_ret (v := .tuple #[.agg #[.bool true, .string WH, .string FR], .bool (!((WH.data.toList.all fun x => x == 48) && FR.data.toList.all fun x => x == 48))]) (by rw [results_cell_tmp rfl]; go_simp) rfl ?_; rw [HF2.out]; exact ⟨true, WH, FR, rfl, (((HX7.out.setCell (Nat.le_refl _) _).setCell (Nat.le_refl _) _).setCell (Nat.le_refl _) _)⟩)
theorem tdec_any (s : ByteArray) (w : World) (hm : Mx w) (hs : s.size ≤ 1048576) : Calls Tryz.prog 188 #[.string s] w fun e w' => e = .returned (.bool (decB s.data.toList)) ∧ Ext w w' := by
 have HK := hid (tsplit_any s w hm hs)
 generalize decB s.data.toList = ok at HK ⊢
 go_enter Tryz.func188, Tryz.ntmps188
 go_wp2_with fail
 refine HK.out.mono ?_
 rintro e w2 ⟨g, a, b, rfl, hw2⟩
 have HW2 := hid hw2
 clear hw2
 go_wp2
 go_ret
 exact ⟨rfl, HW2.out.alloc _⟩
end Go.Proofs.YtiijdojihleggaaGreatDoor
