import Derived.Test.YtiijdojihleggaaGreatDoorProg
import Derived.Test.YtiijdojihleggaaGreatDoorRBaseg
import Derived.Test.YtiijdojihleggaaGreatDoorRNZA
set_option maxRecDepth 100000
set_option linter.unusedSimpArgs false
set_option linter.unusedVariables false
open Go.Lib (hid)
namespace Go.Proofs.YtiijdojihleggaaGreatDoor.D6
open Go.RowKit
def kindOf (c : Int) : Int := if c = 32 ∨ c = 9 ∨ c = 10 then 0 else if isPart c then 1 else 2
theorem kind_any (c : Int) (w : World) :
 Calls Tryz.prog 38 #[.int .u8 c] w fun e w' => e = .returned (.int .i64 (kindOf c)) ∧ w = w' := by
 go_enter Tryz.func38, Tryz.ntmps38
 go_wp2
 all_goals (go_ret; exact ⟨ret_int (by unfold kindOf isPart; simp at *; repeat' split; all_goals (try simp at *); all_goals (try omega)), rfl⟩)
theorem kind_zero {c : Int} (h : kindOf c = 0) : c = 32 ∨ c = 9 ∨ c = 10 := by
 unfold kindOf at h
 split at h
 ·assumption
 ·split at h <;> omega
theorem kind_one {c : Int} (h : kindOf c = 1) : isPart c = true := by
 unfold kindOf at h
 split at h
 ·omega
 ·split at h
  ·assumption
  ·omega
theorem kind_notone {c : Int} (h : kindOf c ≠ 1) : isPart c = false := by
 unfold kindOf at h
 split at h
 ·rename_i h1
  cases hp : isPart c with
  | false => rfl
  | true => unfold isPart at hp; simp at hp; omega
 ·split at h
  ·exact absurd rfl h
  ·rename_i h2; simpa using h2
theorem kind_notzero {c : Int} (h : kindOf c ≠ 0) : ((c == 32) = false ∧ (c == 9) = false) ∧ (c == 10) = false := by
 unfold kindOf at h
 split at h
 ·exact absurd rfl h
 ·rename_i h1
  simp only [beq_eq_false_iff_ne]
  omega
def RWInv (s : ByteArray) (w : World) (v i : Value) (wr : World) : Prop :=
 ∃ (k n : Nat) (xs : List (List UInt8)), k ≤ s.size ∧ n ≤ k ∧ i = .int .i64 k ∧ wr.ownsRow w.heap.size 9 1 v n (xs.map strv) ∧ xs ++ wordsOf (s.data.toList.drop k) = wordsOf s.data.toList ∧ Ext w wr
def RWIn (s : ByteArray) (k : Nat) (c : Int) (wr : World) (j : Value) (wx : World) : Prop :=
 ∃ e : Nat, k < e ∧ e ≤ s.size ∧ j = .int .i64 e ∧ wx = wr ∧ (c ≠ 1 → e = k + 1) ∧ (c = 1 → ∀ i, k ≤ i → i < e → (hs : i < s.size) → isPart (s[i].toNat : Int) = true)
def RWCut (s : ByteArray) (k : Nat) (c : Int) (wr : World) (j : Value) (wx : World) : Prop :=
 ∃ e : Nat, k < e ∧ e ≤ s.size ∧ j = .int .i64 e ∧ wx = wr ∧ (c = 0 → wordsOf (s.data.toList.drop k) = wordsOf (s.data.toList.drop e)) ∧
   (c ≠ 0 → wordsOf (s.data.toList.drop k) = (s.data.toList.drop k).take (e - k) :: wordsOf (s.data.toList.drop e))
theorem cut_one {s : ByteArray} {k e : Nat} {c : Int} {wr : World} (hlt : k < s.size) (hc : kindOf (s[k].toNat : Int) = c) (h1 : c ≠ 1) (he : e = k + 1) : RWCut s k c wr (.int .i64 e) wr := by
 subst he
 refine ⟨k + 1, by omega, by omega, rfl, rfl, fun h0 => ?_, fun h0 => ?_⟩
 ·subst h0; exact wrd_sp s k hlt (kind_zero hc)
 ·exact wrd_one s k hlt (kind_notzero (by rw [hc]; exact h0)) (kind_notone (by rw [hc]; exact h1))
theorem cut_run {s : ByteArray} {k e : Nat} {wr : World} (hke : k < e) (he : e ≤ s.size) (hall : ∀ i, k ≤ i → i < e → (hs : i < s.size) → isPart (s[i].toNat : Int) = true)
 (hend : ∀ h : e < s.size, kindOf (s[e].toNat : Int) ≠ 1) : RWCut s k 1 wr (.int .i64 e) wr :=
 ⟨e, hke, he, rfl, rfl, fun h0 => by omega, fun _ => wrd_run s k e hke he hall (fun h => kind_notone (hend h))⟩
set_option maxHeartbeats 1000000 in
theorem refWords_any (s : ByteArray) (w : World) (hs : s.size ≤ 1048576) :
 Calls Tryz.prog 18 #[.string s] w fun e w' => ∃ A n c, e = .returned (.slice A n c) ∧ Sl w' A n ((wordsOf s.data.toList).map strv) ∧ Ext w w' := by
 obtain ⟨i0, hi, hz0, hz1, hz2⟩ := info_parts (show (Tryz.prog.info? 9).map (fun i => (i.zero, i.size, i.bytes)) = some (some (.string ⟨#[]⟩), 1, 16) from by kernel_rfl)
 go_enter Tryz.func18, Tryz.ntmps18
 go_wp2
 go_loopw [3, 4] (RWInv s w) (fun _ i _ => s.size - (intOf i).toNat)
 case atStart => exact ⟨0, 0, [], Nat.zero_le _, Nat.le_refl _, rfl, World.ownsRow_nil _ _ _ _, rfl, Ext.refl _⟩
 case round =>
  obtain ⟨k, n, xs, hk, hnk, rfl, hown, hxs, hw⟩ := hrel
  have HX := hid hxs
  have HW := hid hw
  have HO := hid hown
  clear hxs hw hown
  by_cases hlt : k < s.size
  ·obtain ⟨c, hc⟩ : ∃ c, kindOf (s[k].toNat : Int) = c := ⟨_, rfl⟩
   have HC := hid hc
   go_upto_block 2 with (fail)
   go_cut [5] (RWCut s k c wr)
   case first =>
    go_wp2_with fail
    obtain ⟨wo, rfl⟩ : ∃ wo : World, wo = wr := ⟨_, rfl⟩
    go_loopw [5] (RWIn s k c wo) (fun j _ => s.size - (intOf j).toNat)
    case atStart => exact ⟨k + 1, by omega, by omega, by go_num, rfl, fun _ => rfl, fun h i h1 h2 h3 => by have hik : i = k := (by omega); subst hik; exact kind_one (by rw [HC.out]; exact h)⟩
    case round =>
     obtain ⟨e, hke, hes, rfl, rfl, hone, hrun⟩ := hrel
     have HN := hid hone
     have HA := hid hrun
     clear hone hrun
     by_cases hc1 : c = 1
     ·subst hc1
      have HA1 := hid (HA.out rfl)
      by_cases hlt2 : e < s.size
      ·by_cases hke1 : kindOf (s[e].toNat : Int) = 1
       ·have HKE := hid hke1
        go_wp2_with (go_at_call 38; refine (kind_any _ _).mono ?_; rintro e w' ⟨rfl, rfl⟩)
        refine ⟨⟨e + 1, by omega, by omega, by go_num, rfl, fun h => absurd rfl h, fun _ i h1 h2 h3 => ?_⟩, by simp [intOf]; omega⟩
        by_cases hi : i = e
        ·subst hi; exact kind_one HKE.out
        ·exact HA1.out i h1 (by omega) h3
       ·have hkb : (kindOf (s[e].toNat : Int) == 1) = false := by simpa using hke1
        have HKE := hid hke1
        clear hke1
        go_wp2_with (go_at_call 38; refine (kind_any _ _).mono ?_; rintro e w' ⟨rfl, rfl⟩)
        go_meet
        exact cut_run hke hes HA1.out (fun _ => HKE.out)
      ·go_wp2_with (go_at_call 38; refine (kind_any _ _).mono ?_; rintro e w' ⟨rfl, rfl⟩)
       go_meet
       exact cut_run hke hes HA1.out (fun h => absurd h hlt2)
     ·have hcb : (c == 1) = false := by simpa using hc1
      have HC1 := hid hc1
      clear hc1
      go_wp2_with (go_at_call 38; refine (kind_any _ _).mono ?_; rintro e w' ⟨rfl, rfl⟩)
      go_meet
      exact cut_one hlt HC.out HC1.out (HN.out HC1.out)
   case rest =>
    obtain ⟨e, hke, hes, rfl, rfl, hw0, hw1⟩ := hcut
    have HW0 := hid hw0
    have HW1 := hid hw1
    have hke' : k ≤ e := by omega
    clear hw0 hw1
    by_cases hc0 : c = 0
    ·subst hc0
     have HW2 := hid (HW0.out rfl)
     go_wp2_with (go_at_call 38; refine (kind_any _ _).mono ?_; rintro e w' ⟨rfl, rfl⟩)
     exact ⟨⟨e, n, xs, hes, by omega, rfl, HO.out, by rw [← HW2.out]; exact HX.out, HW.out⟩, by simp [intOf]; omega⟩
    ·have hcb : (c != 0) = true := by simpa using hc0
     have HC0 := hid hc0
     clear hc0
     go_wp2_with (first | (go_at_call 38; refine (kind_any _ _).mono ?_; rintro e w' ⟨rfl, rfl⟩) | (at_builtin; refine wpList_app _ rfl _ _ 44 rfl w.heap.size 9 i0 _ 16 Tryz.underlying44 hi hz0 hz1 hz2 rfl _ _ _ rfl (HO.out.alloc _) _ _ _ _ rfl (Sl.one _ _ _) (by simp [Value.oneCell']) (by unfold maxLen; omega) (by omega) (by have := Ext.size HW.out; simp; omega) ?_; intro v' w1 hown' hgrow; have HO' := hid hown'; have HG := hid hgrow; clear hown' hgrow))
     refine ⟨⟨e, n + 1, xs ++ [(s.data.toList.drop k).take (e - k)], hes, by omega, rfl, ?_, words_take HX.out (HW1.out HC0.out), ?_⟩, by simp [intOf]; omega⟩
     ·have h1 := HO'.out
      rw [strv_extract] at h1
      simpa using h1
     ·exact ((HW.out.alloc _).grown HG.out (own_lt HO.out))
  ·go_wp2
   go_ret
   obtain ⟨A, c, rfl, hsl, _⟩ := own_sl HO.out
   refine ⟨_, _, _, rfl, ?_, HW.out⟩
   have h1 : wordsOf s.data.toList = xs := by rw [← HX.out, List.drop_of_length_le (by rw [size_list]; omega)]; simp [wordsOf]
   rw [h1]
   exact hsl
end Go.Proofs.YtiijdojihleggaaGreatDoor.D6
namespace Go.Proofs.YtiijdojihleggaaGreatDoor.D6
open Go.RowKit
def cellI (F : Nat → Nat) : Nat → Value := fun k => .int .i64 (F k)
def slc (b n : Nat) : Value := .slice (some ⟨b, 0, none⟩) n n
def TabR (w : World) (B C g m i : Nat) (f : Nat → Value) (F : Nat → Nat → Nat) : Prop :=
 ∀ r, r < i → ∃ b, f r = slc b m ∧ B ≤ b ∧ b ≠ g ∧ b < C ∧ w.rowIs b 3 m (cellI (F r))
theorem TabR.keep {w w' : World} {B C g m i : Nat} {f : Nat → Value} {F : Nat → Nat → Nat} (h : TabR w B C g m i f F)
 (hk : ∀ b, b < C → b ≠ g → w'.heap[b]? = w.heap[b]?) : TabR w' B C g m i f F := fun r hr =>
 let ⟨b, h1, h2, h3, h4, h5⟩ := h r hr
 ⟨b, h1, h2, h3, h4, h5.of_block (hk b h4 h3)⟩
def TabInv (w : World) (n m : Nat) (F : Nat → Nat → Nat) (i : Value) (wr : World) : Prop :=
 ∃ (k : Nat) (f : Nat → Value), k ≤ n + 1 ∧ i = .int .i64 k ∧ wr.rowIs w.heap.size 84 (n + 1) f ∧ TabR wr w.heap.size wr.heap.size w.heap.size (m + 1) k f F ∧ Ext w wr
def RowUp (w : World) (b m k : Nat) (F : Nat → Nat) : Prop := w.rowIs b 3 m (fun j => if j < k then .int .i64 (F j) else .int .i64 0)
def RowInv (w : World) (n m i b : Nat) (f : Nat → Value) (F : Nat → Nat → Nat) (kv : Value) (wx : World) : Prop :=
 ∃ k : Nat, k ≤ m + 1 ∧ kv = .int .i64 k ∧ wx.rowIs w.heap.size 84 (n + 1) f ∧ TabR wx w.heap.size b w.heap.size (m + 1) i f F ∧ RowUp wx b (m + 1) k (F i) ∧ Ext w wx ∧ wx.heap.size = b + 1
theorem row_start {w wr : World} {n m i : Nat} {f : Nat → Value} {F : Nat → Nat → Nat} (h1 : wr.rowIs w.heap.size 84 (n + 1) f) (h2 : TabR wr w.heap.size wr.heap.size w.heap.size (m + 1) i f F)
 (h3 : Ext w wr) :
 RowInv w n m i wr.heap.size (fun r => if r = i then slc wr.heap.size (m + 1) else f r) F (.int .i64 0)
  ((wr.setCell ⟨w.heap.size, i, none⟩ (.slice (some ⟨wr.heap.size, 0, none⟩) (m + 1) (m + 1))).alloc (.cells (madeCells #[.int .i64 0] (m + 1)) 3)) := by
 have hs : (wr.setCell ⟨w.heap.size, i, none⟩ (.slice (some ⟨wr.heap.size, 0, none⟩) (m + 1) (m + 1))).heap.size = wr.heap.size := by simp [World.setCell]
 refine ⟨0, Nat.zero_le _, rfl, (h1.set i _).alloc _, ?_, ?_, (h3.setCell (Nat.le_refl _) _).alloc _, by simp [World.setCell]⟩
 ·intro r hr
  obtain ⟨b, e1, e2, e3, e4, e5⟩ := h2 r hr
  exact ⟨b, by show (if r = i then _ else f r) = _; rw [if_neg (by omega)]; exact e1, e2, e3, e4, (e5.setOther (by exact e3) _).alloc _⟩
 ·have h5 := World.rowIs_made (wr.setCell ⟨w.heap.size, i, none⟩ (.slice (some ⟨wr.heap.size, 0, none⟩) (m + 1) (m + 1))) (.int .i64 0) (m + 1) 3
  rw [hs] at h5
  exact h5.congr (fun j _ => by simp)
theorem row_step {w wx : World} {n m i b k : Nat} {f : Nat → Value} {F : Nat → Nat → Nat} (hk : k < m + 1) (h1 : wx.rowIs w.heap.size 84 (n + 1) f)
 (h2 : TabR wx w.heap.size b w.heap.size (m + 1) i f F) (h3 : RowUp wx b (m + 1) k (F i)) (h4 : Ext w wx) (h5 : wx.heap.size = b + 1) (hb : w.heap.size < b) (v : Int) (hv : v = (F i k : Nat)) :
 RowInv w n m i b f F (.int .i64 (k + 1)) (wx.setCell ⟨b, k, none⟩ (.int .i64 v)) := by
 subst hv
 refine ⟨k + 1, hk, rfl, h1.setOther (by show w.heap.size ≠ b; omega) _, ?_, ?_, h4.setCell (by show w.heap.size ≤ b; omega) _, by simpa [World.setCell] using h5⟩
 ·intro r hr
  obtain ⟨c, e1, e2, e3, e4, e5⟩ := h2 r hr
  exact ⟨c, e1, e2, e3, e4, e5.setOther (by show c ≠ b; omega) _⟩
 ·refine (World.rowIs.set h3 k _).congr (fun j _ => ?_)
  by_cases e : j = k
  ·subst e; simp
  ·simp only [if_neg e]
   by_cases e2 : j < k
   ·rw [if_pos e2, if_pos (by omega)]
   ·rw [if_neg e2, if_neg (by omega)]
theorem row_stepD {w wx : World} {n m i b k : Nat} {f : Nat → Value} {F : Nat → Nat → Nat} (hk : k < m + 1) (h1 : wx.rowIs w.heap.size 84 (n + 1) f)
 (h2 : TabR wx w.heap.size b w.heap.size (m + 1) i f F) (h3 : RowUp wx b (m + 1) k (F i)) (h4 : Ext w wx) (h5 : wx.heap.size = b + 1) (hb : w.heap.size < b) (v : Int) (q : Nat) (hv : v = (F i k : Nat)) :
 RowInv w n m i b f F (.int .i64 (k + 1)) ((wx.drewN q).setCell ⟨b, k, none⟩ (.int .i64 v)) :=
 row_step (wx := wx.drewN q) hk h1 h2 h3 (h4.drewN q) h5 hb v hv
theorem row_end {w wx : World} {n m i b k : Nat} {f : Nat → Value} {F : Nat → Nat → Nat} (hi : i < n + 1) (hk : k = m + 1) (h1 : wx.rowIs w.heap.size 84 (n + 1) (fun r => if r = i then slc b (m + 1) else f r))
 (h2 : TabR wx w.heap.size b w.heap.size (m + 1) i (fun r => if r = i then slc b (m + 1) else f r) F) (h3 : RowUp wx b (m + 1) k (F i)) (h4 : Ext w wx) (h5 : wx.heap.size = b + 1) (hb : w.heap.size < b) :
 TabInv w n m F (.int .i64 (i + 1)) wx := by
 subst hk
 refine ⟨i + 1, _, hi, rfl, h1, ?_, h4⟩
 intro r hr
 by_cases e : r = i
 ·subst e
  exact ⟨b, by simp, by omega, by omega, by omega, World.rowIs.congr h3 (fun j hj => by rw [if_pos hj]; rfl)⟩
 ·obtain ⟨c, e1, e2, e3, e4, e5⟩ := h2 r (by omega)
  exact ⟨c, e1, e2, e3, by omega, e5⟩
end Go.Proofs.YtiijdojihleggaaGreatDoor.D6
namespace Go.Proofs.YtiijdojihleggaaGreatDoor.D6
open Go.RowKit
set_option maxHeartbeats 4000000 in
theorem tableRef_any (xs ys : List ByteArray) (A B : Option Addr) (n m ca cb : Nat) (w : World) (hA : Sl w A n (xs.map .string)) (hB : Sl w B m (ys.map .string)) (hn : n ≤ 400) (hm : m ≤ 400) :
 Calls Tryz.prog 78 #[.slice A n ca, .slice B m cb] w fun e w' => ∃ f, e = .returned (slc w.heap.size (n + 1)) ∧ w'.rowIs w.heap.size 84 (n + 1) f ∧ TabR w' w.heap.size w'.heap.size w.heap.size (m + 1) (n + 1) f (dst xs ys) ∧ Ext w w' := by
 have H1 := hid hA
 have H2 := hid hB
 clear hA hB
 have hmk := fun W => run_make_row' (P := Tryz.prog) 135 84 (.slice none 0 0) 24 Tryz.underlying135 (by kernel_rfl) rfl .i64 .i64 (n + 1) (by omega) (by omega) W
 have hmk2 := fun W => run_make_row' (P := Tryz.prog) 84 3 (.int .i64 0) 8 Tryz.underlying84 (by kernel_rfl) rfl .i64 .i64 (m + 1) (by omega) (by omega) W
 have ec : ((n + 1 : Nat) : Int) = (n : Int) + 1 := by omega
 have ec2 : ((m + 1 : Nat) : Int) = (m : Int) + 1 := by omega
 rw [ec] at hmk
 rw [ec2] at hmk2
 clear ec ec2
 go_enter Tryz.func78, Tryz.ntmps78
 go_wp2
 go_loopw [6] (TabInv w n m (dst xs ys)) (fun i _ => n + 1 - (intOf i).toNat)
 case atStart => exact ⟨0, _, Nat.zero_le _, rfl, World.rowIs_made _ _ _ _, fun r hr => absurd hr (by omega), (Ext.refl _).alloc _⟩
 case round =>
  obtain ⟨i, f, hi, rfl, hrow, htab, hw⟩ := hrel
  have HR := hid hrow
  have HT := hid htab
  have HW := hid hw
  clear hrow htab hw
  by_cases hlt : i < n + 1
  ·have hc0 := HR.out.cell hlt
   have hf0 := HR.out.frozen i
   have hsz := HR.out.lt
   have hltJ : (i : Int) < (n : Int) + 1 := by omega
   have hltI : (i : Int) ≤ (n : Int) := by omega
   go_wp2
   obtain ⟨wo, rfl⟩ : ∃ wo : World, wo = wr := ⟨_, rfl⟩
   go_loopw [7] (RowInv w n m i wo.heap.size (fun r => if r = i then slc wo.heap.size (m + 1) else f r) (dst xs ys)) (fun k _ => m + 1 - (intOf k).toNat)
   case atStart => exact row_start HR.out HT.out HW.out
   case round =>
    obtain ⟨k, hk, rfl, hrow2, htab2, hup, hw2, hsz2⟩ := hrel
    have HR2 := hid hrow2
    have HT2 := hid htab2
    have HU2 := hid hup
    have HW2 := hid hw2
    have HS2 := hid hsz2
    clear hrow2 htab2 hup hw2 hsz2 hc0 hf0
    by_cases hk1 : k < m + 1
    ·have hci : wr.cell? ⟨w.heap.size, i, none⟩ = some (.slice (some ⟨wo.heap.size, 0, none⟩) (m + 1) (m + 1)) := by
      have := HR2.out.cell hlt
      simpa [slc] using this
     have hck : wr.cell? ⟨wo.heap.size, k, none⟩ = some (.int .i64 0) := by
      have := World.rowIs.cell HU2.out hk1
      simpa using this
     have hfk := World.rowIs.frozen HU2.out k
     have hk1I : (k : Int) ≤ (m : Int) := by omega
     have hk1J : (k : Int) < (m : Int) + 1 := by omega
     by_cases hi0 : i = 0
     ·have hib : ((i : Int) == 0) = true := by simp [hi0]
      have HI0 := hid hi0
      clear hi0
      go_wp2
      exact ⟨row_step hk1 HR2.out HT2.out HU2.out HW2.out HS2.out hsz _ (by rw [HI0.out, dst_zero]), by simp [intOf]; omega⟩
     ·have hib : ((i : Int) == 0) = false := by simp; omega
      by_cases hk0 : k = 0
      ·have hkb : ((k : Int) == 0) = true := by simp [hk0]
       have HK0 := hid hk0
       clear hk0
       go_wp2
       exact ⟨row_step hk1 HR2.out HT2.out HU2.out HW2.out HS2.out hsz _ (by rw [HK0.out, dst_left]), by simp [intOf]; omega⟩
      ·have hkb : ((k : Int) == 0) = false := by simp; omega
       have hi1 : 1 ≤ i := by omega
       have hk1' : 1 ≤ k := by omega
       have hin : i - 1 < n := by omega
       have hkm : k - 1 < m := by omega
       obtain ⟨ad, x, rfl, hu, hxc⟩ := (H1.out.ext HW2.out).at_map hin
       obtain ⟨bd, y, rfl, hv, hyc⟩ := (H2.out.ext HW2.out).at_map hkm
       have HU := hid hu
       have HV := hid hv
       obtain ⟨bp, hfp, hp1, hp2, hp3, hprow⟩ := HT2.out (i - 1) (by omega)
       have hcp : wr.cell? ⟨w.heap.size, i - 1, none⟩ = some (.slice (some ⟨bp, 0, none⟩) (m + 1) (m + 1)) := by
        have h1 := HR2.out.cell (i := i - 1) (by omega)
        exact h1.trans (congrArg some hfp)
       have hcp1 := hprow.cell (i := k - 1) (by omega)
       have hcp2 := hprow.cell (i := k) hk1
       have hcp3 : wr.cell? ⟨wo.heap.size, k - 1, none⟩ = some (.int .i64 (dst xs ys i (k - 1))) := by
        have := World.rowIs.cell HU2.out (i := k - 1) (by omega)
        rw [if_pos (by omega)] at this
        exact this
       unfold cellI at hcp1 hcp2
       have b1 := dst_bound xs ys (i - 1) (k - 1)
       have b2 := dst_bound xs ys (i - 1) k
       have b3 := dst_bound xs ys i (k - 1)
       have hi2 : i - 1 < n + 1 := by omega
       have hk2 : k - 1 < m + 1 := by omega
       clear hu hv hprow hfp
       by_cases hxy : x = y
       ·subst hxy
        have hb : (x.toList == x.toList) = true := by simp
        go_wp2
        go_quiet (fail)
        all_goals go_wp2
        have e1 : IntKind.i64.wrap ((i : Int) - 1) = (i : Int) - 1 := IntWalk.i64_in _ (by omega)
        have e2 : IntKind.i64.wrap ((k : Int) - 1) = (k : Int) - 1 := IntWalk.i64_in _ (by omega)
        have e3 : ((i : Int) - 1).toNat = i - 1 := by omega
        have e4 : ((k : Int) - 1).toNat = k - 1 := by omega
        have e5 : (1 : Int) ≤ (i : Int) := by omega
        have e6 : (1 : Int) ≤ (k : Int) := by omega
        have e7 : (i : Int) - 1 < (n : Int) + 1 := by omega
        have e8 : (k : Int) - 1 < (m : Int) + 1 := by omega
        refine region_tail 15 (by kernel_rfl) (by kernel_rfl) ?_
        simp only [List.take_succ_cons, List.take_zero, List.drop_succ_cons, List.drop_zero]
        repeat still_step
        refine wpStill_nil ?_
        clear e1 e2 e3 e4 e5 e6 e7 e8
        go_wp2
        exact ⟨row_stepD hk1 HR2.out HT2.out HU2.out HW2.out HS2.out hsz _ _ (by
         have h1 := dst_eq xs ys (i - 1) (k - 1) (by rw [HU.out, HV.out])
         rw [show i - 1 + 1 = i from by omega, show k - 1 + 1 = k from by omega] at h1
         rw [h1]), by simp [intOf]; omega⟩
       ·have hb := bytes_ne hxy
        have HXY := hid hxy
        clear hxy
        go_wp2
        go_quiet (fail)
        all_goals go_wp2
        have e1 : IntKind.i64.wrap ((i : Int) - 1) = (i : Int) - 1 := IntWalk.i64_in _ (by omega)
        have e2 : IntKind.i64.wrap ((k : Int) - 1) = (k : Int) - 1 := IntWalk.i64_in _ (by omega)
        have e3 : ((i : Int) - 1).toNat = i - 1 := by omega
        have e4 : ((k : Int) - 1).toNat = k - 1 := by omega
        have e5 : (1 : Int) ≤ (i : Int) := by omega
        have e6 : (1 : Int) ≤ (k : Int) := by omega
        have e7 : (i : Int) - 1 < (n : Int) + 1 := by omega
        have e8 : (k : Int) - 1 < (m : Int) + 1 := by omega
        refine region_tail 33 (by kernel_rfl) (by kernel_rfl) ?_
        simp only [List.take_succ_cons, List.take_zero, List.drop_succ_cons, List.drop_zero]
        repeat still_step
        refine wpStill_nil ?_
        clear e1 e2 e3 e4 e5 e6 e7 e8
        go_wp2
        exact ⟨row_stepD hk1 HR2.out HT2.out HU2.out HW2.out HS2.out hsz _ _ (by
         have h1 := dst_ne xs ys (i - 1) (k - 1) (by
          rw [HU.out, HV.out]
          intro h
          exact HXY.out (by injection h))
         rw [show i - 1 + 1 = i from by omega, show k - 1 + 1 = k from by omega] at h1
         rw [h1]
         (repeat' split) <;> omega), by simp [intOf]; omega⟩
    ·go_wp2
     exact ⟨row_end hlt (by omega) HR2.out HT2.out HU2.out HW2.out HS2.out hsz, by simp [intOf]; omega⟩
  ·go_wp2
   go_ret
   exact ⟨f, rfl, HR.out, by obtain rfl : i = n + 1 := (by omega); exact HT.out, HW.out⟩
end Go.Proofs.YtiijdojihleggaaGreatDoor.D6
namespace Go.Proofs.YtiijdojihleggaaGreatDoor.D6
open Go.RowKit
def TwoRows (w : World) (m : Nat) (l r : Value) (wc : World) : Prop :=
 ∃ bl br, l = slc bl (m + 1) ∧ r = slc br (m + 1) ∧ bl ≠ br ∧ w.heap.size ≤ bl ∧ w.heap.size ≤ br ∧
   wc.rowIs bl 3 (m + 1) (fun _ => .int .i64 0) ∧ wc.rowIs br 3 (m + 1) (fun _ => .int .i64 0) ∧ Ext w wc
def FirstInv (w : World) (m bl br : Nat) (i : Value) (wc : World) : Prop :=
 ∃ k : Nat, k ≤ m + 1 ∧ i = .int .i64 k ∧ RowUp wc bl (m + 1) k (fun j => j) ∧ wc.rowIs br 3 (m + 1) (fun _ => .int .i64 0) ∧ Ext w wc
def RollInv (w : World) (n m : Nat) (F : Nat → Nat → Nat) (l r i : Value) (wc : World) : Prop :=
 ∃ (k bl br : Nat) (g : Nat → Int), k ≤ n ∧ i = .int .i64 k ∧ l = slc bl (m + 1) ∧ r = slc br (m + 1) ∧ bl ≠ br ∧ w.heap.size ≤ bl ∧ w.heap.size ≤ br ∧
   wc.rowIs bl 3 (m + 1) (cellI (F k)) ∧ wc.rowIs br 3 (m + 1) (fun j => .int .i64 (g j)) ∧ Ext w wc
def RollIn (w : World) (m i bl br : Nat) (F : Nat → Nat → Nat) (kv : Value) (wc : World) : Prop :=
 ∃ (k : Nat) (g : Nat → Int), k ≤ m ∧ kv = .int .i64 k ∧ wc.rowIs bl 3 (m + 1) (cellI (F i)) ∧ wc.rowIs br 3 (m + 1) (fun j => .int .i64 (g j)) ∧ (∀ j, j ≤ k → g j = (F (i + 1) j : Nat)) ∧ Ext w wc
theorem rowUp_set {w : World} {b m k : Nat} {F : Nat → Nat} (h : RowUp w b m k F) : RowUp (w.setCell ⟨b, k, none⟩ (.int .i64 (F k))) b m (k + 1) F := by
 refine (World.rowIs.set h k _).congr (fun j _ => ?_)
 by_cases e : j = k
 ·subst e; simp
 ·simp only [if_neg e]
  by_cases e2 : j < k
  ·rw [if_pos e2, if_pos (by omega)]
  ·rw [if_neg e2, if_neg (by omega)]
theorem made2 (w : World) (o : Obj) (z : Value) (n : Nat) (t : TypeId) : ((w.alloc o).alloc (.cells (madeCells #[z] n) t)).drew.rowIs (w.heap.size + 1) t n (fun _ => z) := by
 have h := (World.rowIs_made (w.alloc o) z n t).drew
 have e : (w.alloc o).heap.size = w.heap.size + 1 := by simp
 rw [e] at h
 exact h
theorem roll_step {w wc : World} {m i k bl br : Nat} {F : Nat → Nat → Nat} {g : Nat → Int} (hk : k < m) (h1 : wc.rowIs bl 3 (m + 1) (cellI (F i))) (h2 : wc.rowIs br 3 (m + 1) (fun j => .int .i64 (g j)))
 (hg : ∀ j, j ≤ k → g j = (F (i + 1) j : Nat)) (hw : Ext w wc) (hne : bl ≠ br) (hbr : w.heap.size ≤ br) (v : Int) (hv : v = (F (i + 1) (k + 1) : Nat)) :
 RollIn w m i bl br F (.int .i64 (k + 1)) (wc.setCell ⟨br, k + 1, none⟩ (.int .i64 v)) := by
 refine ⟨k + 1, fun j => if j = k + 1 then v else g j, hk, rfl, h1.setOther (by exact hne) _, (h2.set (k + 1) _).congr (fun j _ => by by_cases h : j = k + 1 <;> simp [h]), ?_, hw.setCell (by exact hbr) _⟩
 intro j hj
 by_cases h : j = k + 1
 ·subst h; simp [hv]
 ·simp only [if_neg h]; exact hg j (by omega)
theorem roll_stepD {w wc : World} {m i k bl br : Nat} {F : Nat → Nat → Nat} {g : Nat → Int} (hk : k < m) (h1 : wc.rowIs bl 3 (m + 1) (cellI (F i))) (h2 : wc.rowIs br 3 (m + 1) (fun j => .int .i64 (g j)))
 (hg : ∀ j, j ≤ k → g j = (F (i + 1) j : Nat)) (hw : Ext w wc) (hne : bl ≠ br) (hbr : w.heap.size ≤ br) (v : Int) (q : Nat) (hv : v = (F (i + 1) (k + 1) : Nat)) :
 RollIn w m i bl br F (.int .i64 (k + 1)) ((wc.drewN q).setCell ⟨br, k + 1, none⟩ (.int .i64 v)) :=
 roll_step (wc := wc.drewN q) hk h1 h2 hg (hw.drewN q) hne hbr v hv
set_option maxHeartbeats 4000000 in
theorem dist_any (xs ys : List ByteArray) (A B : Option Addr) (n m ca cb : Nat) (w : World) (hA : Sl w A n (xs.map .string)) (hB : Sl w B m (ys.map .string)) (hn : n ≤ 400) (hm : m ≤ 400) :
 Calls Tryz.prog 55 #[.slice A n ca, .slice B m cb] w fun e w' => e = .returned (.int .i64 (dst xs ys n m)) ∧ Ext w w' := by
 have H1 := hid hA
 have H2 := hid hB
 clear hA hB
 have hmk2 := fun W => run_make_row' (P := Tryz.prog) 84 3 (.int .i64 0) 8 Tryz.underlying84 (by kernel_rfl) rfl .i64 .i64 (m + 1) (by omega) (by omega) W
 have ec2 : ((m + 1 : Nat) : Int) = (m : Int) + 1 := by omega
 rw [ec2] at hmk2
 clear ec2
 go_enter Tryz.func55, Tryz.ntmps55
 go_upto_region 3 with fail
 go_cut [5, 6] (TwoRows w m)
 case first =>
  go_region
  all_goals (go_wp2_with fail; go_meet)
  ·refine ⟨_, _, rfl, rfl, by omega, Nat.le_refl _, by omega, ?_, ?_, (((Ext.refl w).alloc _).alloc _).drew⟩
   ·exact ((World.rowIs_made w (.int .i64 0) (m + 1) 3).alloc _).drew
   ·exact made2 w _ _ _ _
  ·refine ⟨_, _, rfl, rfl, by omega, by omega, Nat.le_refl _, ?_, ?_, (((Ext.refl w).alloc _).alloc _).drew⟩
   ·exact made2 w _ _ _ _
   ·exact ((World.rowIs_made w (.int .i64 0) (m + 1) 3).alloc _).drew
 case rest =>
  obtain ⟨bl, br, rfl, rfl, hne, hbl, hbr, hrl, hrr, hw⟩ := hcut
  have HL := hid hrl
  have HR := hid hrr
  have HW := hid hw
  clear hrl hrr hw
  unfold slc
  go_wp2
  go_loopw [31] (FirstInv w m bl br) (fun i _ => m + 1 - (intOf i).toNat)
  case atStart => exact ⟨0, Nat.zero_le _, rfl, HL.out.congr (fun j _ => by simp), HR.out, HW.out⟩
  case round =>
   obtain ⟨k, hk, rfl, hup, hrr, hw⟩ := hrel
   have HU := hid hup
   have HR1 := hid hrr
   have HW1 := hid hw
   clear hup hrr hw
   by_cases hlt : k < m + 1
   ·have hltI : (k : Int) < (m : Int) + 1 := by omega
    have hc0 := World.rowIs.cell HU.out hlt
    have hf0 := World.rowIs.frozen HU.out k
    rw [if_neg (Nat.lt_irrefl k)] at hc0
    go_wp2
    exact ⟨⟨k + 1, hlt, by go_num, rowUp_set HU.out, HR1.out.setOther (by exact fun h => hne h.symm) _, HW1.out.setCell (by exact hbl) _⟩, by simp [intOf]; omega⟩
   ·have hltI : ¬ (k : Int) < (m : Int) + 1 := by omega
    go_wp2
    go_loopw [5, 6, 41] (RollInv w n m (dst xs ys)) (fun _ _ i _ => n - (intOf i).toNat)
    case atStart => exact ⟨0, bl, br, fun _ => 0, Nat.zero_le _, rfl, rfl, rfl, hne, hbl, hbr, World.rowIs.congr HU.out (fun j hj => by rw [if_pos (by omega)]; rfl), HR1.out, HW1.out⟩
    case round =>
     obtain ⟨i, bl2, br2, g, hi, rfl, rfl, rfl, hne2, hbl2, hbr2, hr1, hr2, hw⟩ := hrel
     have HA := hid hr1
     have HB := hid hr2
     have HC := hid hw
     clear hr1 hr2 hw hltI hne hbl hbr
     unfold slc
     by_cases hin : i < n
     ·have hinI : (i : Int) < (n : Int) := by omega
      obtain ⟨ad, x, rfl, hu, hxc⟩ := (H1.out.ext HC.out).at_map hin
      have HX := hid hu
      have hc0 := HB.out.cell (i := 0) (by omega)
      have hf0 := HB.out.frozen 0
      clear hu
      go_wp2
      obtain ⟨wo, rfl⟩ : ∃ wo : World, wo = wr := ⟨_, rfl⟩
      go_loopw [52] (RollIn w m i bl2 br2 (dst xs ys)) (fun i _ => m - (intOf i).toNat)
      case atStart =>
       refine ⟨0, fun j => if j = 0 then ((i : Int) + 1) else g j, Nat.zero_le _, rfl, HA.out.setOther (by exact hne2) _, (HB.out.set 0 _).congr (fun j _ => by by_cases h : j = 0 <;> simp [h]), ?_, HC.out.setCell (by exact hbr2) _⟩
       intro j hj
       obtain rfl : j = 0 := by omega
       simp [dst_left]
      case round =>
       obtain ⟨k, g2, hk, rfl, hr1, hr2, hg, hw⟩ := hrel
       have HA2 := hid hr1
       have HB2 := hid hr2
       have HG2 := hid hg
       have HC2 := hid hw
       clear hr1 hr2 hg hw hc0 hf0
       by_cases hkm : k < m
       ·have hkmI : (k : Int) < (m : Int) := by omega
        obtain ⟨bd, y, rfl, hv, hyc⟩ := (H2.out.ext HC2.out).at_map hkm
        have HY := hid hv
        clear hv hxc
        have hl0 := HA2.out.cell (i := k) (by omega)
        have hl1 := HA2.out.cell (i := k + 1) (by omega)
        have hb0 := HB2.out.cell (i := k) (by omega)
        have hb1 := HB2.out.cell (i := k + 1) (by omega)
        have hf1 := HB2.out.frozen (k + 1)
        have hgk := HG2.out k (Nat.le_refl _)
        unfold cellI at hl0 hl1
        have b1 := dst_bound xs ys i k
        have b2 := dst_bound xs ys i (k + 1)
        have b3 := dst_bound xs ys (i + 1) k
        rw [hgk] at hb0
        clear hgk
        by_cases hxy : x = y
        ·subst hxy
         have hb : (!x.toList == x.toList) = false := by simp
         go_wp2
         exact ⟨roll_step hkm HA2.out HB2.out HG2.out HC2.out hne2 hbr2 _ (by rw [dst_eq xs ys i k (by rw [HX.out, HY.out])]), by simp [intOf]; omega⟩
        ·have hb : (!x.toList == y.toList) = true := by rw [bytes_ne hxy]; rfl
         have HXY := hid hxy
         clear hxy
         go_wp2
         go_quiet (fail)
         all_goals go_wp2
         exact ⟨roll_stepD hkm HA2.out HB2.out HG2.out HC2.out hne2 hbr2 _ _ (by
          rw [dst_ne xs ys i k (by
           rw [HX.out, HY.out]
           intro h
           exact HXY.out (by injection h))]
          (repeat' split) <;> omega), by simp [intOf]; omega⟩
       ·have hkmI : ¬ (k : Int) < (m : Int) := by omega
        obtain rfl : k = m := by omega
        go_wp2
        exact ⟨⟨i + 1, br2, bl2, fun j => (dst xs ys i j : Nat), by omega, by go_num, rfl, rfl, fun h => hne2 h.symm, hbr2, hbl2, HB2.out.congr (fun j hj => by rw [HG2.out j (by omega)]; rfl), HA2.out.congr (fun j hj => rfl), HC2.out⟩, by simp [intOf]; omega⟩
     ·have hinI : ¬ (i : Int) < (n : Int) := by omega
      have hc0 := HA.out.cell (i := m) (by omega)
      unfold cellI at hc0
      go_wp2
      go_ret
      obtain rfl : i = n := by omega
      exact ⟨rfl, HC.out⟩
end Go.Proofs.YtiijdojihleggaaGreatDoor.D6
namespace Go.Proofs.YtiijdojihleggaaGreatDoor.D6
open Go.RowKit
def isLong (n m : Nat) : Bool := decide (400 < n) || decide (400 < m)
theorem long_any (A B : Option Addr) (n m ca cb : Nat) (w : World) (hn : n ≤ maxLen) (hm : m ≤ maxLen) :
 Calls Tryz.prog 57 #[.slice A n ca, .slice B m cb] w fun e w' => e = .returned (.bool (isLong n m)) ∧ w = w' := by
 unfold maxLen at hn hm
 go_enter Tryz.func57, Tryz.ntmps57
 go_wp2
 all_goals (go_ret; exact ⟨ret_bool (by unfold isLong; rw [Bool.eq_iff_iff]; simp; omega), rfl⟩)
theorem refDist_any (xs ys : List ByteArray) (A B : Option Addr) (n m ca cb : Nat) (w : World) (hA : Sl w A n (xs.map .string)) (hB : Sl w B m (ys.map .string)) (hn : n ≤ 400) (hm : m ≤ 400) :
 Calls Tryz.prog 58 #[.slice A n ca, .slice B m cb] w fun e w' => e = .returned (.int .i64 (dst xs ys n m)) ∧ Ext w w' := by
 have hl : isLong n m = false := by unfold isLong; simp; omega
 have H1 := hid hA
 have H2 := hid hB
 clear hA hB
 go_enter Tryz.func58, Tryz.ntmps58
 go_wp2_with (go_at_call 57; refine (long_any _ _ _ _ _ _ _ (by unfold maxLen; omega) (by unfold maxLen; omega)).mono ?_; rintro e w' ⟨rfl, rfl⟩)
 refine (tableRef_any xs ys A B n m ca cb w H1.out H2.out hn hm).mono ?_
 rintro e w' ⟨f, rfl, hrow, htab, hw⟩
 obtain ⟨b, hf, h2, h3, h4, h5⟩ := htab n (by omega)
 have hc0 := hrow.cell (i := n) (by omega)
 rw [hf] at hc0
 have hc1 := h5.cell (i := m) (by omega)
 have HW := hid hw
 clear htab hw hf hrow h5
 unfold slc at hc0 ⊢
 unfold cellI at hc1
 go_wp2
 go_ret
 exact ⟨rfl, HW.out⟩
def simOf (n m d : Nat) : Int := if max n m = 0 then 1000 else (((max n m : Nat) : Int) - d) * 1000 / (max n m : Nat)
theorem sim_lt {n m d : Nat} (h : n < m) : ((m : Int) - d) * 1000 / m = simOf n m d := by
 unfold simOf
 rw [show max n m = m from by omega, if_neg (by omega)]
theorem sim_ge {n m d : Nat} (h : m ≤ n) (h0 : 0 < n) : ((n : Int) - d) * 1000 / n = simOf n m d := by
 unfold simOf
 rw [show max n m = n from by omega, if_neg (by omega)]
set_option maxHeartbeats 1000000 in
theorem refSim_any (xs ys : List ByteArray) (A B : Option Addr) (n m ca cb : Nat) (w : World) (hA : Sl w A n (xs.map .string)) (hB : Sl w B m (ys.map .string)) (hn : n ≤ 400) (hm : m ≤ 400) :
 Calls Tryz.prog 37 #[.slice A n ca, .slice B m cb] w fun e w' => e = .returned (.int .i64 (simOf n m (dst xs ys n m))) ∧ Ext w w' := by
 have hl : isLong n m = false := by unfold isLong; simp; omega
 have H1 := hid hA
 have H2 := hid hB
 have hd := dst_max xs ys n m
 clear hA hB
 by_cases h0 : n = 0 ∧ m = 0
 ·obtain ⟨rfl, rfl⟩ := h0
  clear hd
  go_enter Tryz.func37, Tryz.ntmps37
  go_wp2_with (first | (go_at_call 57; refine (long_any _ _ _ _ _ _ _ (by unfold maxLen; omega) (by unfold maxLen; omega)).mono ?_; rintro e w' ⟨rfl, rfl⟩) | (go_at_call 58; refine (refDist_any xs ys _ _ _ _ _ _ _ H1.out H2.out hn hm).mono ?_; rintro e w' ⟨rfl, hw⟩; have HW := hid hw; clear hw))
  go_ret
  exact ⟨rfl, by first | exact Ext.refl _ | exact HW.out⟩
 ·by_cases hlt : n < m
  ·have hd2 : dst xs ys n m ≤ m := by omega
   have hb : ((m : Int) == 0) = false := by simp; omega
   clear h0 hd
   go_enter Tryz.func37, Tryz.ntmps37
   go_wp2_with (first | (go_at_call 57; refine (long_any _ _ _ _ _ _ _ (by unfold maxLen; omega) (by unfold maxLen; omega)).mono ?_; rintro e w' ⟨rfl, rfl⟩) | (go_at_call 58; refine (refDist_any xs ys _ _ _ _ _ _ _ H1.out H2.out hn hm).mono ?_; rintro e w' ⟨rfl, hw⟩; have HW := hid hw; clear hw))
   go_ret
   exact ⟨ret_int (by rw [Int.mul_comm]; exact sim_lt hlt), HW.out⟩
  ·have hge : m ≤ n := by omega
   have hpos : 0 < n := by omega
   have hd2 : dst xs ys n m ≤ n := by omega
   have hb : ((n : Int) == 0) = false := by simp; omega
   clear h0 hd
   go_enter Tryz.func37, Tryz.ntmps37
   go_wp2_with (first | (go_at_call 57; refine (long_any _ _ _ _ _ _ _ (by unfold maxLen; omega) (by unfold maxLen; omega)).mono ?_; rintro e w' ⟨rfl, rfl⟩) | (go_at_call 58; refine (refDist_any xs ys _ _ _ _ _ _ _ H1.out H2.out hn hm).mono ?_; rintro e w' ⟨rfl, hw⟩; have HW := hid hw; clear hw))
   go_ret
   exact ⟨ret_int (by rw [Int.mul_comm]; exact sim_ge hge hpos), HW.out⟩
set_option maxHeartbeats 1000000 in
theorem sim_any (xs ys : List ByteArray) (A B : Option Addr) (n m ca cb : Nat) (w : World) (hA : Sl w A n (xs.map .string)) (hB : Sl w B m (ys.map .string)) (hn : n ≤ 400) (hm : m ≤ 400) :
 Calls Tryz.prog 33 #[.slice A n ca, .slice B m cb] w fun e w' => e = .returned (.int .i64 (simOf n m (dst xs ys n m))) ∧ Ext w w' := by
 have hl : isLong n m = false := by unfold isLong; simp; omega
 have H1 := hid hA
 have H2 := hid hB
 have hd := dst_max xs ys n m
 clear hA hB
 by_cases h0 : n = 0 ∧ m = 0
 ·obtain ⟨rfl, rfl⟩ := h0
  clear hd
  go_enter Tryz.func33, Tryz.ntmps33
  go_wp2_with (first | (go_at_call 55; refine (dist_any xs ys _ _ _ _ _ _ _ H1.out H2.out hn hm).mono ?_; rintro e w' ⟨rfl, hw⟩; have HW := hid hw; clear hw))
  go_ret
  exact ⟨rfl, by first | exact Ext.refl _ | exact HW.out⟩
 ·by_cases hlt : n < m
  ·have hd2 : dst xs ys n m ≤ m := by omega
   have hb : ((m : Int) == 0) = false := by simp; omega
   clear h0 hd
   go_enter Tryz.func33, Tryz.ntmps33
   go_wp2_with (first | (go_at_call 55; refine (dist_any xs ys _ _ _ _ _ _ _ H1.out H2.out hn hm).mono ?_; rintro e w' ⟨rfl, hw⟩; have HW := hid hw; clear hw))
   go_ret
   exact ⟨ret_int (by exact sim_lt hlt), HW.out⟩
  ·have hge : m ≤ n := by omega
   have hpos : 0 < n := by omega
   have hd2 : dst xs ys n m ≤ n := by omega
   have hb : ((n : Int) == 0) = false := by simp; omega
   clear h0 hd
   go_enter Tryz.func33, Tryz.ntmps33
   go_wp2_with (first | (go_at_call 55; refine (dist_any xs ys _ _ _ _ _ _ _ H1.out H2.out hn hm).mono ?_; rintro e w' ⟨rfl, hw⟩; have HW := hid hw; clear hw))
   go_ret
   exact ⟨ret_int (by exact sim_ge hge hpos), HW.out⟩
end Go.Proofs.YtiijdojihleggaaGreatDoor.D6
