import Derived.Test.YtiijdojihleggaaGreatDoorProg
import Derived.Test.YtiijdojihleggaaGreatDoorQBaseg
import Derived.Test.YtiijdojihleggaaGreatDoorQNZA
set_option maxRecDepth 100000
set_option linter.unusedSimpArgs false
set_option linter.unusedVariables false
open Go.Lib (hid)
namespace Go.Proofs.YtiijdojihleggaaGreatDoor.D6
open Go.RowKit
end Go.Proofs.YtiijdojihleggaaGreatDoor.D6
namespace Go.Proofs.YtiijdojihleggaaGreatDoor.D6
open Go.RowKit
def cellI (F : Nat → Nat) : Nat → Value := fun k => .int .i64 (F k)
def slc (b n : Nat) : Value := .slice (some ⟨b, 0, none⟩) n n
def TabR (w : World) (B C g m i : Nat) (f : Nat → Value) (F : Nat → Nat → Nat) : Prop :=
 ∀ r, r < i → ∃ b, f r = slc b m ∧ B ≤ b ∧ b ≠ g ∧ b < C ∧ w.rowIs b 3 m (cellI (F r))
theorem TabR.keep {w w' : World} {B C g m i : Nat} {f : Nat → Value} {F : Nat → Nat → Nat} (h : TabR w B C g m i f F)
 (hk : ∀ b, b < C → b ≠ g → w'.heap[b]? = w.heap[b]?) : TabR w' B C g m i f F := fun r hr =>
 let ⟨b, h1, h2, h3, h4, h5⟩ := h r hr
 ⟨b, h1, h2, h3, h4, h5.of_block (hk b h4 h3)⟩
def RowUp (w : World) (b m k : Nat) (F : Nat → Nat) : Prop := w.rowIs b 3 m (fun j => if j < k then .int .i64 (F j) else .int .i64 0)
end Go.Proofs.YtiijdojihleggaaGreatDoor.D6
namespace Go.Proofs.YtiijdojihleggaaGreatDoor.D6
open Go.RowKit
end Go.Proofs.YtiijdojihleggaaGreatDoor.D6
namespace Go.Proofs.YtiijdojihleggaaGreatDoor.D6
open Go.RowKit
def TwoRows (w : World) (m : Nat) (l r : Value) (wc : World) : Prop :=
 ∃ bl br, l = slc bl (m + 1) ∧ r = slc br (m + 1) ∧ bl ≠ br ∧ w.heap.size ≤ bl ∧ w.heap.size ≤ br ∧
   wc.rowIs bl 3 (m + 1) (fun _ => .int .i64 0) ∧ wc.rowIs br 3 (m + 1) (fun _ => .int .i64 0) ∧ Ext w wc
def FirstInv (w : World) (m bl br : Nat) (i : Value) (wc : World) : Prop :=
 ∃ k : Nat, k ≤ m + 1 ∧ i = .int .i64 k ∧ RowUp wc bl (m + 1) k (fun j => j) ∧ wc.rowIs br 3 (m + 1) (fun _ => .int .i64 0) ∧ Ext w wc
def RollInv (w : World) (n m : Nat) (F : Nat → Nat → Nat) (l r i : Value) (wc : World) : Prop :=
 ∃ (k bl br : Nat) (g : Nat → Int), k ≤ n ∧ i = .int .i64 k ∧ l = slc bl (m + 1) ∧ r = slc br (m + 1) ∧ bl ≠ br ∧ w.heap.size ≤ bl ∧ w.heap.size ≤ br ∧
   wc.rowIs bl 3 (m + 1) (cellI (F k)) ∧ wc.rowIs br 3 (m + 1) (fun j => .int .i64 (g j)) ∧ Ext w wc
def RollIn (w : World) (m i bl br : Nat) (F : Nat → Nat → Nat) (kv : Value) (wc : World) : Prop :=
 ∃ (k : Nat) (g : Nat → Int), k ≤ m ∧ kv = .int .i64 k ∧ wc.rowIs bl 3 (m + 1) (cellI (F i)) ∧ wc.rowIs br 3 (m + 1) (fun j => .int .i64 (g j)) ∧ (∀ j, j ≤ k → g j = (F (i + 1) j : Nat)) ∧ Ext w wc
theorem rowUp_set {w : World} {b m k : Nat} {F : Nat → Nat} (h : RowUp w b m k F) : RowUp (w.setCell ⟨b, k, none⟩ (.int .i64 (F k))) b m (k + 1) F := by
 refine (World.rowIs.set h k _).congr (fun j _ => ?_)
 by_cases e : j = k
 ·subst e; simp
 ·simp only [if_neg e]
  by_cases e2 : j < k
  ·rw [if_pos e2, if_pos (by omega)]
  ·rw [if_neg e2, if_neg (by omega)]
theorem made2 (w : World) (o : Obj) (z : Value) (n : Nat) (t : TypeId) : ((w.alloc o).alloc (.cells (madeCells #[z] n) t)).drew.rowIs (w.heap.size + 1) t n (fun _ => z) := by
 have h := (World.rowIs_made (w.alloc o) z n t).drew
 have e : (w.alloc o).heap.size = w.heap.size + 1 := by simp
 rw [e] at h
 exact h
theorem roll_step {w wc : World} {m i k bl br : Nat} {F : Nat → Nat → Nat} {g : Nat → Int} (hk : k < m) (h1 : wc.rowIs bl 3 (m + 1) (cellI (F i))) (h2 : wc.rowIs br 3 (m + 1) (fun j => .int .i64 (g j)))
 (hg : ∀ j, j ≤ k → g j = (F (i + 1) j : Nat)) (hw : Ext w wc) (hne : bl ≠ br) (hbr : w.heap.size ≤ br) (v : Int) (hv : v = (F (i + 1) (k + 1) : Nat)) :
 RollIn w m i bl br F (.int .i64 (k + 1)) (wc.setCell ⟨br, k + 1, none⟩ (.int .i64 v)) := by
 refine ⟨k + 1, fun j => if j = k + 1 then v else g j, hk, rfl, h1.setOther (by exact hne) _, (h2.set (k + 1) _).congr (fun j _ => by by_cases h : j = k + 1 <;> simp [h]), ?_, hw.setCell (by exact hbr) _⟩
 intro j hj
 by_cases h : j = k + 1
 ·subst h; simp [hv]
 ·simp only [if_neg h]; exact hg j (by omega)
theorem roll_stepD {w wc : World} {m i k bl br : Nat} {F : Nat → Nat → Nat} {g : Nat → Int} (hk : k < m) (h1 : wc.rowIs bl 3 (m + 1) (cellI (F i))) (h2 : wc.rowIs br 3 (m + 1) (fun j => .int .i64 (g j)))
 (hg : ∀ j, j ≤ k → g j = (F (i + 1) j : Nat)) (hw : Ext w wc) (hne : bl ≠ br) (hbr : w.heap.size ≤ br) (v : Int) (q : Nat) (hv : v = (F (i + 1) (k + 1) : Nat)) :
 RollIn w m i bl br F (.int .i64 (k + 1)) ((wc.drewN q).setCell ⟨br, k + 1, none⟩ (.int .i64 v)) :=
 roll_step (wc := wc.drewN q) hk h1 h2 hg (hw.drewN q) hne hbr v hv
set_option maxHeartbeats 4000000 in
theorem dist_any (xs ys : List ByteArray) (A B : Option Addr) (n m ca cb : Nat) (w : World) (hA : Sl w A n (xs.map .string)) (hB : Sl w B m (ys.map .string)) (hn : n ≤ 400) (hm : m ≤ 400) :
 Calls Tryz.prog 55 #[.slice A n ca, .slice B m cb] w fun e w' => e = .returned (.int .i64 (dst xs ys n m)) ∧ Ext w w' := by
 have H1 := hid hA
 have H2 := hid hB
 clear hA hB
 have hmk2 := fun W => run_make_row' (P := Tryz.prog) 84 3 (.int .i64 0) 8 Tryz.underlying84 (by kernel_rfl) rfl .i64 .i64 (m + 1) (by omega) (by omega) W
 have ec2 : ((m + 1 : Nat) : Int) = (m : Int) + 1 := by omega
 rw [ec2] at hmk2
 clear ec2
 go_enter Tryz.func55, Tryz.ntmps55
 go_upto_region 3 with fail
 go_cut [5, 6] (TwoRows w m)
 case first =>
  go_region
  all_goals (go_wp2_with fail; go_meet)
  ·refine ⟨_, _, rfl, rfl, by omega, Nat.le_refl _, by omega, ?_, ?_, (((Ext.refl w).alloc _).alloc _).drew⟩
   ·exact ((World.rowIs_made w (.int .i64 0) (m + 1) 3).alloc _).drew
   ·exact made2 w _ _ _ _
  ·refine ⟨_, _, rfl, rfl, by omega, by omega, Nat.le_refl _, ?_, ?_, (((Ext.refl w).alloc _).alloc _).drew⟩
   ·exact made2 w _ _ _ _
   ·exact ((World.rowIs_made w (.int .i64 0) (m + 1) 3).alloc _).drew
 case rest =>
  obtain ⟨bl, br, rfl, rfl, hne, hbl, hbr, hrl, hrr, hw⟩ := hcut
  have HL := hid hrl
  have HR := hid hrr
  have HW := hid hw
  clear hrl hrr hw
  unfold slc
  go_wp2
  go_loopw [31] (FirstInv w m bl br) (fun i _ => m + 1 - (intOf i).toNat)
  case atStart => exact ⟨0, Nat.zero_le _, rfl, HL.out.congr (fun j _ => by simp), HR.out, HW.out⟩
  case round =>
   obtain ⟨k, hk, rfl, hup, hrr, hw⟩ := hrel
   have HU := hid hup
   have HR1 := hid hrr
   have HW1 := hid hw
   clear hup hrr hw
   by_cases hlt : k < m + 1
   ·have hltI : (k : Int) < (m : Int) + 1 := by omega
    have hc0 := World.rowIs.cell HU.out hlt
    have hf0 := World.rowIs.frozen HU.out k
    rw [if_neg (Nat.lt_irrefl k)] at hc0
    go_wp2
    exact ⟨⟨k + 1, hlt, by go_num, rowUp_set HU.out, HR1.out.setOther (by exact fun h => hne h.symm) _, HW1.out.setCell (by exact hbl) _⟩, by simp [intOf]; omega⟩
   ·have hltI : ¬ (k : Int) < (m : Int) + 1 := by omega
    go_wp2
    go_loopw [5, 6, 41] (RollInv w n m (dst xs ys)) (fun _ _ i _ => n - (intOf i).toNat)
    case atStart => exact ⟨0, bl, br, fun _ => 0, Nat.zero_le _, rfl, rfl, rfl, hne, hbl, hbr, World.rowIs.congr HU.out (fun j hj => by rw [if_pos (by omega)]; rfl), HR1.out, HW1.out⟩
    case round =>
     obtain ⟨i, bl2, br2, g, hi, rfl, rfl, rfl, hne2, hbl2, hbr2, hr1, hr2, hw⟩ := hrel
     have HA := hid hr1
     have HB := hid hr2
     have HC := hid hw
     clear hr1 hr2 hw hltI hne hbl hbr
     unfold slc
     by_cases hin : i < n
     ·have hinI : (i : Int) < (n : Int) := by omega
      obtain ⟨ad, x, rfl, hu, hxc⟩ := (H1.out.ext HC.out).at_map hin
      have HX := hid hu
      have hc0 := HB.out.cell (i := 0) (by omega)
      have hf0 := HB.out.frozen 0
      clear hu
      go_wp2
      obtain ⟨wo, rfl⟩ : ∃ wo : World, wo = wr := ⟨_, rfl⟩
      go_loopw [52] (RollIn w m i bl2 br2 (dst xs ys)) (fun i _ => m - (intOf i).toNat)
      case atStart =>
       refine ⟨0, fun j => if j = 0 then ((i : Int) + 1) else g j, Nat.zero_le _, rfl, HA.out.setOther (by exact hne2) _, (HB.out.set 0 _).congr (fun j _ => by by_cases h : j = 0 <;> simp [h]), ?_, HC.out.setCell (by exact hbr2) _⟩
       intro j hj
       obtain rfl : j = 0 := by omega
       simp [dst_left]
      case round =>
       obtain ⟨k, g2, hk, rfl, hr1, hr2, hg, hw⟩ := hrel
       have HA2 := hid hr1
       have HB2 := hid hr2
       have HG2 := hid hg
       have HC2 := hid hw
       clear hr1 hr2 hg hw hc0 hf0
       by_cases hkm : k < m
       ·have hkmI : (k : Int) < (m : Int) := by omega
        obtain ⟨bd, y, rfl, hv, hyc⟩ := (H2.out.ext HC2.out).at_map hkm
        have HY := hid hv
        clear hv hxc
        have hl0 := HA2.out.cell (i := k) (by omega)
        have hl1 := HA2.out.cell (i := k + 1) (by omega)
        have hb0 := HB2.out.cell (i := k) (by omega)
        have hb1 := HB2.out.cell (i := k + 1) (by omega)
        have hf1 := HB2.out.frozen (k + 1)
        have hgk := HG2.out k (Nat.le_refl _)
        unfold cellI at hl0 hl1
        have b1 := dst_bound xs ys i k
        have b2 := dst_bound xs ys i (k + 1)
        have b3 := dst_bound xs ys (i + 1) k
        rw [hgk] at hb0
        clear hgk
        by_cases hxy : x = y
        ·subst hxy
         have hb : (!x.toList == x.toList) = false := by simp
         go_wp2
         exact ⟨roll_step hkm HA2.out HB2.out HG2.out HC2.out hne2 hbr2 _ (by rw [dst_eq xs ys i k (by rw [HX.out, HY.out])]), by simp [intOf]; omega⟩
        ·have hb : (!x.toList == y.toList) = true := by rw [bytes_ne hxy]; rfl
         have HXY := hid hxy
         clear hxy
         go_wp2
         go_quiet (fail)
         all_goals go_wp2
         exact ⟨roll_stepD hkm HA2.out HB2.out HG2.out HC2.out hne2 hbr2 _ _ (by
          rw [dst_ne xs ys i k (by
           rw [HX.out, HY.out]
           intro h
           exact HXY.out (by injection h))]
          (repeat' split) <;> omega), by simp [intOf]; omega⟩
       ·have hkmI : ¬ (k : Int) < (m : Int) := by omega
        obtain rfl : k = m := by omega
        go_wp2
        exact ⟨⟨i + 1, br2, bl2, fun j => (dst xs ys i j : Nat), by omega, by go_num, rfl, rfl, fun h => hne2 h.symm, hbr2, hbl2, HB2.out.congr (fun j hj => by rw [HG2.out j (by omega)]; rfl), HA2.out.congr (fun j hj => rfl), HC2.out⟩, by simp [intOf]; omega⟩
     ·have hinI : ¬ (i : Int) < (n : Int) := by omega
      have hc0 := HA.out.cell (i := m) (by omega)
      unfold cellI at hc0
      go_wp2
      go_ret
      obtain rfl : i = n := by omega
      exact ⟨rfl, HC.out⟩
end Go.Proofs.YtiijdojihleggaaGreatDoor.D6
namespace Go.Proofs.YtiijdojihleggaaGreatDoor.D6
open Go.RowKit
def isLong (n m : Nat) : Bool := decide (400 < n) || decide (400 < m)
def simOf (n m d : Nat) : Int := if max n m = 0 then 1000 else (((max n m : Nat) : Int) - d) * 1000 / (max n m : Nat)
theorem sim_lt {n m d : Nat} (h : n < m) : ((m : Int) - d) * 1000 / m = simOf n m d := by
 unfold simOf
 rw [show max n m = m from by omega, if_neg (by omega)]
theorem sim_ge {n m d : Nat} (h : m ≤ n) (h0 : 0 < n) : ((n : Int) - d) * 1000 / n = simOf n m d := by
 unfold simOf
 rw [show max n m = n from by omega, if_neg (by omega)]
set_option maxHeartbeats 1000000 in
theorem sim_any (xs ys : List ByteArray) (A B : Option Addr) (n m ca cb : Nat) (w : World) (hA : Sl w A n (xs.map .string)) (hB : Sl w B m (ys.map .string)) (hn : n ≤ 400) (hm : m ≤ 400) :
 Calls Tryz.prog 33 #[.slice A n ca, .slice B m cb] w fun e w' => e = .returned (.int .i64 (simOf n m (dst xs ys n m))) ∧ Ext w w' := by
 have hl : isLong n m = false := by unfold isLong; simp; omega
 have H1 := hid hA
 have H2 := hid hB
 have hd := dst_max xs ys n m
 clear hA hB
 by_cases h0 : n = 0 ∧ m = 0
 ·obtain ⟨rfl, rfl⟩ := h0
  clear hd
  go_enter Tryz.func33, Tryz.ntmps33
  go_wp2_with (first | (go_at_call 55; refine (dist_any xs ys _ _ _ _ _ _ _ H1.out H2.out hn hm).mono ?_; rintro e w' ⟨rfl, hw⟩; have HW := hid hw; clear hw))
  go_ret
  exact ⟨rfl, by first | exact Ext.refl _ | exact HW.out⟩
 ·by_cases hlt : n < m
  ·have hd2 : dst xs ys n m ≤ m := by omega
   have hb : ((m : Int) == 0) = false := by simp; omega
   clear h0 hd
   go_enter Tryz.func33, Tryz.ntmps33
   go_wp2_with (first | (go_at_call 55; refine (dist_any xs ys _ _ _ _ _ _ _ H1.out H2.out hn hm).mono ?_; rintro e w' ⟨rfl, hw⟩; have HW := hid hw; clear hw))
   go_ret
   exact ⟨ret_int (by exact sim_lt hlt), HW.out⟩
  ·have hge : m ≤ n := by omega
   have hpos : 0 < n := by omega
   have hd2 : dst xs ys n m ≤ n := by omega
   have hb : ((n : Int) == 0) = false := by simp; omega
   clear h0 hd
   go_enter Tryz.func33, Tryz.ntmps33
   go_wp2_with (first | (go_at_call 55; refine (dist_any xs ys _ _ _ _ _ _ _ H1.out H2.out hn hm).mono ?_; rintro e w' ⟨rfl, hw⟩; have HW := hid hw; clear hw))
   go_ret
   exact ⟨ret_int (by exact sim_ge hge hpos), HW.out⟩
end Go.Proofs.YtiijdojihleggaaGreatDoor.D6
