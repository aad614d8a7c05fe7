import Derived.Test.YtiijdojihleggaaGreatDoorQNPH
import Derived.Test.YtiijdojihleggaaGreatDoorQNPC
set_option maxRecDepth 100000
set_option linter.unusedSimpArgs false
set_option linter.unusedVariables false
open Go.Lib (hid)
namespace Go.Proofs.YtiijdojihleggaaGreatDoor
open Go.RowKit
theorem rspec_any (c : UInt8) (w : World) : Calls Tryz.prog 126 #[.int .u8 c.toNat] w fun e w' => e = .returned (.bool (specB c)) ∧ w = w' := by
 obtain ⟨q1, h1⟩ : ∃ q, q = ((c.toNat : Int) == 123) := ⟨_, rfl⟩
 obtain ⟨q2, h2⟩ : ∃ q, q = ((c.toNat : Int) == 125) := ⟨_, rfl⟩
 obtain ⟨q3, h3⟩ : ∃ q, q = ((c.toNat : Int) == 60) := ⟨_, rfl⟩
 obtain ⟨q4, h4⟩ : ∃ q, q = ((c.toNat : Int) == 62) := ⟨_, rfl⟩
 obtain ⟨q5, h5⟩ : ∃ q, q = ((c.toNat : Int) == 35) := ⟨_, rfl⟩
 obtain ⟨q6, h6⟩ : ∃ q, q = ((c.toNat : Int) == 92) := ⟨_, rfl⟩
 have HS := hid (show specB c = (q1 || q2 || q3 || q4 || q5 || q6) from by
  rw [h1, h2, h3, h4, h5, h6]
  unfold specB
  rw [← u8_beq c 123, ← u8_beq c 125, ← u8_beq c 60, ← u8_beq c 62, ← u8_beq c 35, ← u8_beq c 92]; rfl)
 generalize specB c = sp at HS ⊢
 have g1 := h1.symm
 have g2 := h2.symm
 have g3 := h3.symm
 have g4 := h4.symm
 have g5 := h5.symm
 have g6 := h6.symm
 clear h1 h2 h3 h4 h5 h6
 cases q1
 all_goals cases q2
 all_goals cases q3
 all_goals cases q4
 all_goals cases q5
 all_goals cases q6
 all_goals first
  | (exfalso; simp only [beq_iff_eq] at g1 g2 g3 g4 g5 g6; omega)
  | (go_enter Tryz.func126, Tryz.ntmps126
     go_wp2
     go_ret
     exact ⟨ret_bool HS.out.symm, rfl⟩)
end Go.Proofs.YtiijdojihleggaaGreatDoor
namespace Go.Proofs.YtiijdojihleggaaGreatDoor
open Go.RowKit
theorem own_string {w : World} {B : Nat} {v : Value} {l : By} (h : w.ownsRow B 5 1 v l.length (Lib.byteCells l)) : (∃ A n c, v = .slice A n c) ∧ (convert 145 9 v).run Tryz.prog w = .ok (.string ⟨l.toArray⟩) w := by
 have hcl := fun g hg => h.cells (g := g) hg
 rcases h.2 with ⟨rfl, h0⟩ | ⟨g, cap, cur, rfl, hb, hg, hn, hm, hs, ht⟩
 ·have : l = [] := List.eq_nil_of_length_eq_zero h0
  subst this
  refine ⟨⟨_, _, _, rfl⟩, ?_⟩
  rw [run_convert_bytes_string w 145 9 5 none 0 0 Tryz.underlying145 Tryz.underlying5 Tryz.underlying9]
  rfl
 ·refine ⟨⟨_, _, _, rfl⟩, ?_⟩
  refine run_convert_bytes_back (P := Tryz.prog) w 145 9 5 ⟨g, 0, none⟩ cap l Tryz.underlying145 Tryz.underlying5 Tryz.underlying9 (fun j hj => ?_)
  refine hcl g rfl j _ ?_
  unfold Lib.byteCells
  rw [List.getElem?_map, List.getElem?_eq_getElem hj]
  rfl
def ReI (s : ByteArray) (w : World) (out i : Value) (wr : World) : Prop := ∃ k : Nat, k ≤ s.size ∧ i = .int .i64 k ∧ wr.ownsRow w.heap.size 5 1 out (escP (s.data.toList.take k)).length (Lib.byteCells (escP (s.data.toList.take k))) ∧ Ext w wr
set_option maxHeartbeats 2000000 in
theorem resc_any (s : ByteArray) (w : World) (hs : s.size ≤ 40000000) : Calls Tryz.prog 86 #[.string s] w fun e w' => e = .returned (.string ⟨(escP s.data.toList).toArray⟩) ∧ Ext w w' := by
 obtain ⟨i0, hi, hz0, hz1, hz2⟩ := info_parts (show (Tryz.prog.info? 5).map (fun i => (i.zero, i.size, i.bytes)) = some (some (.int .u8 0), 1, 1) from by kernel_rfl)
 go_enter Tryz.func86, Tryz.ntmps86
 go_wp2_with fail
 go_loopw [3, 4] (ReI s w) (fun _ i _ => s.size - (intOf i).toNat)
 case atStart => exact ⟨0, Nat.zero_le _, rfl, World.ownsRow_nil _ _ _ _, Ext.refl _⟩
 case round =>
  obtain ⟨k, hk, rfl, ho, hw⟩ := hrel
  have HO := hid ho
  have HW := hid hw
  clear ho hw
  by_cases hks : k < s.size
  ·have hkI : (k : Int) < (s.size : Int) := by omega
   have hl := escP_len (s.data.toList.take k)
   rw [List.length_take, size_list] at hl
   have hl2 : (escP (s.data.toList.take k)).length ≤ 80000000 := by omega
   have HT := hid (show s.data.toList.take (k + 1) = s.data.toList.take k ++ [s[k]] from by
    rw [take_next (show s.data.toList[k]? = some s[k] from by rw [List.getElem?_eq_getElem (by rw [size_list]; exact hks), get_list s k hks])])
   have HK := hid (fun W => rspec_any s[k] W)
   obtain ⟨p, hp⟩ : ∃ p, p = escP (s.data.toList.take k) := ⟨_, rfl⟩
   rw [← hp] at HO hl2
   have HP := hid hp
   clear hp hl
   cases hc : specB s[k]
   ·have HF := hid (show escP (s.data.toList.take (k + 1)) = p ++ [s[k]] from by rw [HT.out, escP_snoc, hc, ← HP.out]; rfl)
    rw [hc] at HK
    clear hc
    go_wp2_with (first
     | (go_at_call 126; with_reducible refine (HK.out _).mono ?_; rintro e w2 ⟨rfl, rfl⟩)
     | (at_builtin; refine wpList_app _ rfl _ _ 145 rfl w.heap.size 5 i0 _ 1 Tryz.underlying145 hi hz0 hz1 hz2 rfl _ p.length _ rfl (HO.out.alloc _) _ 1 _ [_] rfl (Sl.one _ _ _) (by simp [Value.oneCell']) (by unfold maxLen; omega) (by omega) (by have := Ext.size HW.out; simp; omega) ?_; intro v4 w4 hown4 hgrow4; have HO4 := hid hown4; have HX4 := hid (ext_grown (a := w) (HW.out.alloc _) (HO.out.alloc _) (Nat.le_refl _) hgrow4); clear hown4 hgrow4))
    refine ⟨⟨k + 1, by omega, by go_num, ?_, HX4.out⟩, by simp [intOf]; omega⟩
    rw [HF.out, List.length_append, Lib.byteCells_append]
    exact HO4.out
   ·have HF := hid (show escP (s.data.toList.take (k + 1)) = p ++ [92, s[k]] from by rw [HT.out, escP_snoc, hc, ← HP.out]; rfl)
    rw [hc] at HK
    have tok1 : True := trivial
    clear hc
    go_wp2_with (first
     | (go_at_call 126; with_reducible refine (HK.out _).mono ?_; rintro e w2 ⟨rfl, rfl⟩)
     | (have _t := tok1; at_builtin; refine wpList_app _ rfl _ _ 145 rfl w.heap.size 5 i0 _ 1 Tryz.underlying145 hi hz0 hz1 hz2 rfl _ p.length _ rfl (HO.out.alloc _) _ 1 _ [_] rfl (Sl.one _ _ _) (by simp [Value.oneCell']) (by unfold maxLen; omega) (by omega) (by have := Ext.size HW.out; simp; omega) ?_; intro v4 w4 hown4 hgrow4; have HO4 := hid hown4; have HX4 := hid (ext_grown (a := w) (HW.out.alloc _) (HO.out.alloc _) (Nat.le_refl _) hgrow4); clear hown4 hgrow4 tok1)
     | (at_builtin; refine wpList_app _ rfl _ _ 145 rfl w.heap.size 5 i0 _ 1 Tryz.underlying145 hi hz0 hz1 hz2 rfl _ (p.length + 1) _ rfl (HO4.out.alloc _) _ 1 _ [_] rfl (Sl.one _ _ _) (by simp [Value.oneCell']) (by unfold maxLen; omega) (by omega) (by have := Ext.size HX4.out; simp; omega) ?_; intro v5 w5 hown5 hgrow5; have HO5 := hid hown5; have HX5 := hid (ext_grown (a := w) (HX4.out.alloc _) (HO4.out.alloc _) (Nat.le_refl _) hgrow5); clear hown5 hgrow5))
    refine ⟨⟨k + 1, by omega, by go_num, ?_, HX5.out⟩, by simp [intOf]; omega⟩
    rw [HF.out, List.length_append, show ([92, s[k]] : By) = [92] ++ [s[k]] from rfl, Lib.byteCells_append, Lib.byteCells_append, ← List.append_assoc]
    exact HO5.out
  ·have hkI : ¬ (k : Int) < (s.size : Int) := by omega
   have hfull : s.data.toList.take k = s.data.toList := List.take_of_length_le (by rw [size_list]; omega)
   rw [hfull] at HO
   obtain ⟨⟨A, n, c, rfl⟩, hcv⟩ := own_string HO.out
   clear hfull
   go_wp2
   go_ret
   exact ⟨rfl, HW.out⟩
end Go.Proofs.YtiijdojihleggaaGreatDoor
