import Derived.Test.YtljdlkonlnjadaaGreatDoorProg
import Derived.Test.YtljdlkonlnjadaaGreatDoorNX2
import Derived.Test.YtljdlkonlnjadaaGreatDoorNX1
import Derived.Laws.IdiomStrings
set_option maxRecDepth 100000
set_option linter.unusedSimpArgs false
set_option linter.unusedVariables false
open Go.Lib (hid)
namespace Go.Proofs.YtljdlkonlnjadaaGreatDoor
open Go.RowKit
theorem small_any (c : UInt8) (w : World) :
 Calls Tryz.prog 194 #[.int .u8 c.toNat] w fun e w' => e = .returned (.bool (isSmall c)) ∧ w = w' := by
 go_enter Tryz.func194, Tryz.ntmps194
 go_wp2
 all_goals (go_ret; exact ⟨ret_bool (by unfold isSmall; rw [Bool.eq_iff_iff]; simp [UInt8.le_iff_toNat_le]; omega), rfl⟩)
theorem cap_any (c : UInt8) (w : World) :
 Calls Tryz.prog 195 #[.int .u8 c.toNat] w fun e w' => e = .returned (.bool (isCap c)) ∧ w = w' := by
 go_enter Tryz.func195, Tryz.ntmps195
 go_wp2
 all_goals (go_ret; exact ⟨ret_bool (by unfold isCap; rw [Bool.eq_iff_iff]; simp [UInt8.le_iff_toNat_le]; omega), rfl⟩)
theorem dig_any (c : UInt8) (w : World) :
 Calls Tryz.prog 193 #[.int .u8 c.toNat] w fun e w' => e = .returned (.bool (isDig c)) ∧ w = w' := by
 go_enter Tryz.func193, Tryz.ntmps193
 go_wp2
 all_goals (go_ret; exact ⟨ret_bool (by unfold isDig; rw [Bool.eq_iff_iff]; simp [UInt8.le_iff_toNat_le]; omega), rfl⟩)
theorem eith_any (c : UInt8) (w : World) :
 Calls Tryz.prog 192 #[.int .u8 c.toNat] w fun e w' => e = .returned (.bool (isEith c)) ∧ w = w' := by
 go_enter Tryz.func192, Tryz.ntmps192
 go_wp2_with (first
  | (go_at_call 194; refine (small_any _ _).mono ?_; rintro e w' ⟨rfl, rfl⟩; cases hs : isSmall c)
  | (go_at_call 193; refine (dig_any _ _).mono ?_; rintro e w' ⟨rfl, rfl⟩; cases hd : isDig c))
 all_goals (go_ret; exact ⟨ret_bool (by simp [isEith, *]), rfl⟩)
def AllInv (p : UInt8 → Bool) (s : ByteArray) (w : World) (i : Value) (wr : World) : Prop :=
 ∃ k : Nat, k ≤ s.size ∧ i = .int .i64 k ∧ wr = w ∧ (s.data.toList.take k).all p = true
theorem all_step {p : UInt8 → Bool} {s : ByteArray} {k : Nat} (h : (s.data.toList.take k).all p = true) (hk : k < s.size) (hp : p s[k] = true) : (s.data.toList.take (k + 1)).all p = true := by
 have h1 : s.data.toList[k]? = some s[k] := by rw [List.getElem?_eq_getElem (by rw [size_list]; exact hk), get_list s k hk]
 rw [take_next h1, List.all_append, h]
 simp [hp]
theorem all_stop {p : UInt8 → Bool} {s : ByteArray} {k : Nat} (hk : k < s.size) (hp : p s[k] = false) : s.data.toList.all p = false := by
 rw [List.all_eq_false]
 exact ⟨s[k], by rw [← get_list s k hk]; exact List.getElem_mem _, by simp [hp]⟩
theorem all_end {p : UInt8 → Bool} {s : ByteArray} {k : Nat} (h : (s.data.toList.take k).all p = true) (hk : ¬ k < s.size) : s.data.toList.all p = true := by
 rw [List.take_of_length_le (by rw [size_list]; omega)] at h
 exact h
theorem all_small (s : ByteArray) (w : World) (hs : s.size ≤ 9223372036854775807) :
 Calls Tryz.prog 191 #[.string s, .func (.func 194) #[] #[]] w fun e w' => e = .returned (.bool (s.data.toList.all isSmall)) ∧ w = w' := by
 go_enter Tryz.func191, Tryz.ntmps191
 go_wp2
 go_loopw [8] (AllInv isSmall s w) (fun i _ => s.size - (intOf i).toNat)
 case atStart => exact ⟨0, Nat.zero_le _, rfl, rfl, rfl⟩
 case round =>
  obtain ⟨k, hk, rfl, rfl, ht⟩ := hrel
  have HT := hid ht
  clear ht
  by_cases hlt : k < s.size
  ·cases hp : isSmall s[k] with
   | true =>
     have HP := hid hp
     go_wp2_with (go_at_call 194; refine (small_any s[k] _).mono ?_; rintro e w' ⟨rfl, rfl⟩; rw [HP.out])
     exact ⟨⟨k + 1, by omega, by go_num, rfl, all_step HT.out hlt HP.out⟩, by simp [intOf]; omega⟩
   | false =>
     have HP := hid hp
     go_wp2_with (go_at_call 194; refine (small_any s[k] _).mono ?_; rintro e w' ⟨rfl, rfl⟩; rw [HP.out])
     go_ret
     exact ⟨ret_bool (all_stop hlt HP.out).symm, rfl⟩
  ·go_wp2
   go_ret
   exact ⟨ret_bool (all_end HT.out hlt).symm, rfl⟩
theorem all_cap (s : ByteArray) (w : World) (hs : s.size ≤ 9223372036854775807) :
 Calls Tryz.prog 191 #[.string s, .func (.func 195) #[] #[]] w fun e w' => e = .returned (.bool (s.data.toList.all isCap)) ∧ w = w' := by
 go_enter Tryz.func191, Tryz.ntmps191
 go_wp2
 go_loopw [8] (AllInv isCap s w) (fun i _ => s.size - (intOf i).toNat)
 case atStart => exact ⟨0, Nat.zero_le _, rfl, rfl, rfl⟩
 case round =>
  obtain ⟨k, hk, rfl, rfl, ht⟩ := hrel
  have HT := hid ht
  clear ht
  by_cases hlt : k < s.size
  ·cases hp : isCap s[k] with
   | true =>
     have HP := hid hp
     go_wp2_with (go_at_call 195; refine (cap_any s[k] _).mono ?_; rintro e w' ⟨rfl, rfl⟩; rw [HP.out])
     exact ⟨⟨k + 1, by omega, by go_num, rfl, all_step HT.out hlt HP.out⟩, by simp [intOf]; omega⟩
   | false =>
     have HP := hid hp
     go_wp2_with (go_at_call 195; refine (cap_any s[k] _).mono ?_; rintro e w' ⟨rfl, rfl⟩; rw [HP.out])
     go_ret
     exact ⟨ret_bool (all_stop hlt HP.out).symm, rfl⟩
  ·go_wp2
   go_ret
   exact ⟨ret_bool (all_end HT.out hlt).symm, rfl⟩
theorem all_dig (s : ByteArray) (w : World) (hs : s.size ≤ 9223372036854775807) :
 Calls Tryz.prog 191 #[.string s, .func (.func 193) #[] #[]] w fun e w' => e = .returned (.bool (s.data.toList.all isDig)) ∧ w = w' := by
 go_enter Tryz.func191, Tryz.ntmps191
 go_wp2
 go_loopw [8] (AllInv isDig s w) (fun i _ => s.size - (intOf i).toNat)
 case atStart => exact ⟨0, Nat.zero_le _, rfl, rfl, rfl⟩
 case round =>
  obtain ⟨k, hk, rfl, rfl, ht⟩ := hrel
  have HT := hid ht
  clear ht
  by_cases hlt : k < s.size
  ·cases hp : isDig s[k] with
   | true =>
     have HP := hid hp
     go_wp2_with (go_at_call 193; refine (dig_any s[k] _).mono ?_; rintro e w' ⟨rfl, rfl⟩; rw [HP.out])
     exact ⟨⟨k + 1, by omega, by go_num, rfl, all_step HT.out hlt HP.out⟩, by simp [intOf]; omega⟩
   | false =>
     have HP := hid hp
     go_wp2_with (go_at_call 193; refine (dig_any s[k] _).mono ?_; rintro e w' ⟨rfl, rfl⟩; rw [HP.out])
     go_ret
     exact ⟨ret_bool (all_stop hlt HP.out).symm, rfl⟩
  ·go_wp2
   go_ret
   exact ⟨ret_bool (all_end HT.out hlt).symm, rfl⟩
theorem all_eith (s : ByteArray) (w : World) (hs : s.size ≤ 9223372036854775807) :
 Calls Tryz.prog 191 #[.string s, .func (.func 192) #[] #[]] w fun e w' => e = .returned (.bool (s.data.toList.all isEith)) ∧ w = w' := by
 go_enter Tryz.func191, Tryz.ntmps191
 go_wp2
 go_loopw [8] (AllInv isEith s w) (fun i _ => s.size - (intOf i).toNat)
 case atStart => exact ⟨0, Nat.zero_le _, rfl, rfl, rfl⟩
 case round =>
  obtain ⟨k, hk, rfl, rfl, ht⟩ := hrel
  have HT := hid ht
  clear ht
  by_cases hlt : k < s.size
  ·cases hp : isEith s[k] with
   | true =>
     have HP := hid hp
     go_wp2_with (go_at_call 192; refine (eith_any s[k] _).mono ?_; rintro e w' ⟨rfl, rfl⟩; rw [HP.out])
     exact ⟨⟨k + 1, by omega, by go_num, rfl, all_step HT.out hlt HP.out⟩, by simp [intOf]; omega⟩
   | false =>
     have HP := hid hp
     go_wp2_with (go_at_call 192; refine (eith_any s[k] _).mono ?_; rintro e w' ⟨rfl, rfl⟩; rw [HP.out])
     go_ret
     exact ⟨ret_bool (all_stop hlt HP.out).symm, rfl⟩
  ·go_wp2
   go_ret
   exact ⟨ret_bool (all_end HT.out hlt).symm, rfl⟩
end Go.Proofs.YtljdlkonlnjadaaGreatDoor
namespace Go.Proofs.YtljdlkonlnjadaaGreatDoor
open Go.RowKit
theorem lang_any (s : ByteArray) (w : World) (hs : s.size ≤ 9223372036854775807) :
 Calls Tryz.prog 158 #[.string s] w fun e w' => e = .returned (.bool (langB s.data.toList)) ∧ w = w' := by
 go_enter Tryz.func158, Tryz.ntmps158
 go_wp2_with (go_at_call 191; refine (all_small _ _ hs).mono ?_; rintro e w' ⟨rfl, rfl⟩; cases hb : s.data.toList.all isSmall)
 all_goals (go_ret; exact ⟨ret_bool (by rw [Bool.eq_iff_iff]; simp [langB, size_list, *] <;> omega), rfl⟩)
theorem extract_size (s : ByteArray) (a b : Nat) (hb : b ≤ s.size) : (s.extract a b).size = b - a := by
 simp [ByteArray.size_extract, Nat.min_eq_left hb]
theorem extract_drop (s : ByteArray) (a : Nat) : (s.extract a s.size).data.toList = s.data.toList.drop a := by
 simp [ByteArray.data_extract, List.extract_eq_take_drop]
 exact List.take_of_length_le (by simp [size_list])
theorem headD_at (l : List UInt8) (h : 0 < l.length) : l.headD 0 = l[0] := by
 cases l with
 | nil => simp at h
 | cons a r => rfl
theorem head_at (s : ByteArray) (h : 0 < s.size) : s.data.toList.headD 0 = s[0] := by
 rw [← get_list s 0 h]
 exact headD_at _ _
theorem script_any (s : ByteArray) (w : World) (hs : s.size ≤ 9223372036854775807) :
 Calls Tryz.prog 159 #[.string s] w fun e w' => e = .returned (.bool (scriptB s.data.toList)) ∧ w = w' := by
 by_cases h4 : s.size = 4
 ·have h1 : (s.extract 1 4).size = 3 := extract_size s 1 4 (by omega)
  have h2 : (s.extract 1 4).data.toList = s.data.toList.drop 1 := by rw [← h4]; exact extract_drop s 1
  have h3 := head_at s (by omega)
  have H2 := hid h2
  have H3 := hid h3
  clear h2 h3
  go_enter Tryz.func159, Tryz.ntmps159
  go_wp2_with (first
   | (go_at_call 191; refine (all_small _ _ (by omega)).mono ?_; rintro e w' ⟨rfl, rfl⟩; rw [H2.out]; cases hb : (s.data.toList.drop 1).all isSmall)
   | (go_at_call 195; refine (cap_any _ _).mono ?_; rintro e w' ⟨rfl, rfl⟩; cases hc : isCap s[0]))
  all_goals (go_ret; exact ⟨ret_bool (by simp only [scriptB, size_list, H3.out, *]; simp), rfl⟩)
 ·have h5 : ((s.size : Int) == 4) = false := by simp; omega
  go_enter Tryz.func159, Tryz.ntmps159
  go_wp2
  all_goals (go_ret; exact ⟨ret_bool (by simp [scriptB, size_list, h4]), rfl⟩)
theorem region_any (s : ByteArray) (w : World) (hs : s.size ≤ 9223372036854775807) :
 Calls Tryz.prog 160 #[.string s] w fun e w' => e = .returned (.bool (regionB s.data.toList)) ∧ w = w' := by
 by_cases h2 : s.size = 2
 ·go_enter Tryz.func160, Tryz.ntmps160
  go_wp2_with (go_at_call 191; refine (all_cap _ _ hs).mono ?_; rintro e w' ⟨rfl, rfl⟩; cases hb : s.data.toList.all isCap)
  all_goals (go_ret; exact ⟨ret_bool (by rw [Bool.eq_iff_iff]; simp [regionB, size_list, *]), rfl⟩)
 ·have h5 : ((s.size : Int) == 2) = false := by simp; omega
  go_enter Tryz.func160, Tryz.ntmps160
  go_wp2_with (go_at_call 191; refine (all_dig _ _ hs).mono ?_; rintro e w' ⟨rfl, rfl⟩; cases hb : s.data.toList.all isDig)
  all_goals (go_ret; exact ⟨ret_bool (by rw [Bool.eq_iff_iff]; simp [regionB, size_list, *] <;> omega), rfl⟩)
theorem variant_any (s : ByteArray) (w : World) (hs : s.size ≤ 9223372036854775807) :
 Calls Tryz.prog 157 #[.string s] w fun e w' => e = .returned (.bool (variantB s.data.toList)) ∧ w = w' := by
 by_cases h4 : s.size = 4
 ·have h3 := head_at s (by omega)
  have H3 := hid h3
  clear h3
  go_enter Tryz.func157, Tryz.ntmps157
  go_wp2_with (first
   | (go_at_call 191; refine (all_eith _ _ hs).mono ?_; rintro e w' ⟨rfl, rfl⟩; cases hb : s.data.toList.all isEith)
   | (go_at_call 193; refine (dig_any _ _).mono ?_; rintro e w' ⟨rfl, rfl⟩; cases hc : isDig s[0]))
  all_goals (go_ret; exact ⟨ret_bool (by simp only [variantB, size_list, H3.out, *]; simp), rfl⟩)
 ·have h5 : ((s.size : Int) == 4) = false := by simp; omega
  go_enter Tryz.func157, Tryz.ntmps157
  go_wp2_with (go_at_call 191; refine (all_eith _ _ hs).mono ?_; rintro e w' ⟨rfl, rfl⟩; cases hb : s.data.toList.all isEith)
  all_goals (go_ret; exact ⟨ret_bool (by rw [Bool.eq_iff_iff]; simp [variantB, size_list, *] <;> omega), rfl⟩)
end Go.Proofs.YtljdlkonlnjadaaGreatDoor
namespace Go.Proofs.YtljdlkonlnjadaaGreatDoor
open Go.RowKit
def BsAt (w0 wr : World) (l : List UInt8) : Prop :=
 Ext w0 wr ∧ w0.heap.size < wr.heap.size ∧ ∀ j (h : j < l.length), wr.cell? ⟨w0.heap.size, j, none⟩ = some (.int .u8 (l[j].toNat : Int)) ∧ wr.frozen? ⟨w0.heap.size, j, none⟩ = false
theorem BsAt.set {w0 wr : World} {l : List UInt8} (h : BsAt w0 wr l) (k : Nat) (hk : k < l.length) (c : UInt8) :
 BsAt w0 (wr.setCell ⟨w0.heap.size, k, none⟩ (.int .u8 (c.toNat : Int))) (l.set k c) := by
 obtain ⟨h1, h2, h3⟩ := h
 have hsz := (h1.setCell (p := ⟨w0.heap.size, k, none⟩) (Nat.le_refl _) (.int .u8 (c.toNat : Int)))
 refine ⟨hsz, by simpa using h2, fun j hj => ?_⟩
 rw [List.length_set] at hj
 obtain ⟨ha, hb⟩ := h3 j hj
 refine ⟨?_, by rw [World.frozen?_setCell]; exact hb⟩
 by_cases hjk : j = k
 ·subst hjk
  rw [World.cell?_setCell_same _ _ _ ha]
  simp
 ·rw [World.cell?_setCell_other _ _ _ _ (by intro e; injection e with _ e; exact hjk e.symm), ha, List.getElem_set_ne (Ne.symm hjk)]
theorem BsAt.drew {w0 wr : World} {l : List UInt8} (h : BsAt w0 wr l) : BsAt w0 wr.drew l := ⟨h.1.drew, h.2.1, h.2.2⟩
theorem BsAt.new (w : World) (s : ByteArray) (cap : Nat) (hc : s.size ≤ cap) :
 BsAt w (w.drew.alloc (.cells (bytesRow s cap) 5 ((bytesRow s cap).size, (bytesRow s cap).size + 1))) s.data.toList := by
 refine ⟨(Ext.refl w).drew.alloc _, by simp, fun j hj => ⟨?_, ?_⟩⟩
 ·have h1 := World.cell?_alloc_mark w.drew (bytesRow s cap) 5 ((bytesRow s cap).size, (bytesRow s cap).size + 1) j
  refine h1.trans ?_
  rw [bytesRow_at s cap j (by simpa using hj)]
  simp
 ·have h1 := World.frozen?_alloc_mark w.drew (bytesRow s cap) 5 (bytesRow s cap).size ((bytesRow s cap).size + 1) j
  refine h1.trans ?_
  have hz : (bytesRow s cap).size = s.size + (cap - s.size) := by
   unfold bytesRow
   simp
  have : j < s.size := hj
  simp
  omega
def mapTo (f : UInt8 → UInt8) (l : List UInt8) (k : Nat) : List UInt8 := (l.take k).map f ++ l.drop k
theorem mapTo_len (f : UInt8 → UInt8) (l : List UInt8) (k : Nat) : (mapTo f l k).length = l.length := by
 unfold mapTo; simp; omega
theorem mapTo_at (f : UInt8 → UInt8) (l : List UInt8) (k : Nat) (h : k < l.length) : (mapTo f l k)[k]'(by rw [mapTo_len]; exact h) = l[k] := by
 unfold mapTo
 rw [List.getElem_append_right (by simp; omega)]
 simp [Nat.min_eq_left (Nat.le_of_lt h)]
theorem mapTo_set (f : UInt8 → UInt8) (l : List UInt8) (k : Nat) (h : k < l.length) : (mapTo f l k).set k (f l[k]) = mapTo f l (k + 1) := by
 unfold mapTo
 have e1 : ((l.take k).map f).length = k := by simp; omega
 rw [List.set_append_right _ _ (by omega), e1, Nat.sub_self, List.drop_eq_getElem_cons h, List.set_cons_zero, take_next (List.getElem?_eq_getElem h), List.map_append, List.append_assoc]
 rfl
theorem mapTo_skip (f : UInt8 → UInt8) (l : List UInt8) (k : Nat) (h : k < l.length) (hf : f l[k] = l[k]) : mapTo f l k = mapTo f l (k + 1) := by
 rw [← mapTo_set f l k h, hf]
 conv => rhs; rw [← mapTo_at f l k h]
 exact (List.set_getElem_self _).symm
theorem mapTo_end (f : UInt8 → UInt8) (l : List UInt8) (k : Nat) (h : l.length ≤ k) : mapTo f l k = l.map f := by
 unfold mapTo; rw [List.take_of_length_le h, List.drop_of_length_le h]; simp
theorem lowC_num (c : UInt8) (h : isCap c = true) : ((c.toNat : Int) + 97 - 65) % 256 = ((lowC c).toNat : Int) := by
 unfold lowC
 rw [if_pos h]
 simp [isCap, UInt8.le_iff_toNat_le] at h
 have h1 : (c + 32).toNat = c.toNat + 32 := by simp [UInt8.toNat_add]; omega
 rw [h1]
 omega
theorem upC_num (c : UInt8) (h : isSmall c = true) : ((c.toNat : Int) - 97 + 65) % 256 = ((upC c).toNat : Int) := by
 unfold upC
 rw [if_pos h]
 simp [isSmall, UInt8.le_iff_toNat_le] at h
 have h1 : (c - 32).toNat = c.toNat - 32 := by rw [UInt8.toNat_sub_of_le _ _ (by rw [UInt8.le_iff_toNat_le]; simp; omega)]; rfl
 rw [h1]
 omega
theorem add_at (g j : Nat) : (⟨g, 0, none⟩ : Addr).add j = ⟨g, j, none⟩ := by
 unfold Addr.add
 split
 ·subst_vars; rfl
 ·simp
def CaseInv (f : UInt8 → UInt8) (s : ByteArray) (w : World) (i : Value) (wr : World) : Prop :=
 ∃ k : Nat, k ≤ s.size ∧ i = .int .i64 k ∧ BsAt w wr (mapTo f s.data.toList k)
theorem lower_any (s : ByteArray) (w : World) (hs : s.size ≤ 9223372036854775807) :
 Calls Tryz.prog 164 #[.string s] w fun e w' => e = .returned (strv (s.data.toList.map lowC)) ∧ Ext w w' := by
 have hcv := run_bytes_of_string (P := Tryz.prog) w 9 231 5 s Tryz.underlying9 Tryz.underlying231 Tryz.underlying5
 have hge := grownCap_ge w s.size 0 5
 have hnew := BsAt.new w s (grownCap w s.size 0 5) (by omega)
 generalize hcap : grownCap w s.size 0 5 = cap at hcv hnew hge
 generalize hC : bytesRow s cap = C at hcv hnew
 have HN := hid hnew
 clear hnew hcap hC
 go_enter Tryz.func164, Tryz.ntmps164
 go_wp2
 go_loopw [10] (CaseInv lowC s w) (fun i _ => s.size - (intOf i).toNat)
 case atStart => exact ⟨0, Nat.zero_le _, rfl, HN.out⟩
 case round =>
  obtain ⟨k, hk, rfl, hb⟩ := hrel
  have HB := hid hb
  clear hb
  by_cases hlt : k < s.size
  ·obtain ⟨h1, h2⟩ := HB.out.2.2 k (by rw [mapTo_len, size_list]; exact hlt)
   rw [mapTo_at _ _ _ (by rw [size_list]; exact hlt), get_list s k hlt] at h1
   cases hp : isCap s[k] with
   | true =>
     have HN1 : ((s[k].toNat : Int) + 97 - 65) % 256 = ((lowC s[k]).toNat : Int) := lowC_num _ hp
     have HM := hid HN1
     clear HN1
     go_wp2_with (go_at_call 195; refine (cap_any s[k] _).mono ?_; rintro e w' ⟨rfl, rfl⟩; rw [hp])
     refine ⟨⟨k + 1, by omega, by go_num, ?_⟩, by simp [intOf]; omega⟩
     rw [← mapTo_set lowC s.data.toList k (by rw [size_list]; exact hlt), get_list s k hlt]
     rw [HM.out]
     exact HB.out.set k (by rw [mapTo_len, size_list]; exact hlt) _
   | false =>
     go_wp2_with (go_at_call 195; refine (cap_any s[k] _).mono ?_; rintro e w' ⟨rfl, rfl⟩; rw [hp])
     refine ⟨⟨k + 1, by omega, by go_num, ?_⟩, by simp [intOf]; omega⟩
     rw [← mapTo_skip lowC s.data.toList k (by rw [size_list]; exact hlt) (by rw [get_list s k hlt]; simp [lowC, hp])]
     exact HB.out
  ·have hl : mapTo lowC s.data.toList k = s.data.toList.map lowC := mapTo_end _ _ _ (by rw [size_list]; omega)
   have hback := run_convert_bytes_back (P := Tryz.prog) wr 231 9 5 ⟨w.heap.size, 0, none⟩ cap (s.data.toList.map lowC) Tryz.underlying231 Tryz.underlying5 Tryz.underlying9 (fun j hj => by
    rw [add_at]
    have h := (HB.out.2.2 j (by rw [hl]; exact hj)).1
    simp only [hl] at h
    exact h)
   rw [List.length_map, size_list] at hback
   go_wp2
   go_ret
   exact ⟨rfl, HB.out.1⟩
theorem upper_any (s : ByteArray) (w : World) (hs : s.size ≤ 9223372036854775807) :
 Calls Tryz.prog 165 #[.string s] w fun e w' => e = .returned (strv (s.data.toList.map upC)) ∧ Ext w w' := by
 have hcv := run_bytes_of_string (P := Tryz.prog) w 9 231 5 s Tryz.underlying9 Tryz.underlying231 Tryz.underlying5
 have hge := grownCap_ge w s.size 0 5
 have hnew := BsAt.new w s (grownCap w s.size 0 5) (by omega)
 generalize hcap : grownCap w s.size 0 5 = cap at hcv hnew hge
 generalize hC : bytesRow s cap = C at hcv hnew
 have HN := hid hnew
 clear hnew hcap hC
 go_enter Tryz.func165, Tryz.ntmps165
 go_wp2
 go_loopw [10] (CaseInv upC s w) (fun i _ => s.size - (intOf i).toNat)
 case atStart => exact ⟨0, Nat.zero_le _, rfl, HN.out⟩
 case round =>
  obtain ⟨k, hk, rfl, hb⟩ := hrel
  have HB := hid hb
  clear hb
  by_cases hlt : k < s.size
  ·obtain ⟨h1, h2⟩ := HB.out.2.2 k (by rw [mapTo_len, size_list]; exact hlt)
   rw [mapTo_at _ _ _ (by rw [size_list]; exact hlt), get_list s k hlt] at h1
   cases hp : isSmall s[k] with
   | true =>
     have HN1 : ((s[k].toNat : Int) - 97 + 65) % 256 = ((upC s[k]).toNat : Int) := upC_num _ hp
     have HM := hid HN1
     clear HN1
     go_wp2_with (go_at_call 194; refine (small_any s[k] _).mono ?_; rintro e w' ⟨rfl, rfl⟩; rw [hp])
     refine ⟨⟨k + 1, by omega, by go_num, ?_⟩, by simp [intOf]; omega⟩
     rw [← mapTo_set upC s.data.toList k (by rw [size_list]; exact hlt), get_list s k hlt]
     rw [HM.out]
     exact HB.out.set k (by rw [mapTo_len, size_list]; exact hlt) _
   | false =>
     go_wp2_with (go_at_call 194; refine (small_any s[k] _).mono ?_; rintro e w' ⟨rfl, rfl⟩; rw [hp])
     refine ⟨⟨k + 1, by omega, by go_num, ?_⟩, by simp [intOf]; omega⟩
     rw [← mapTo_skip upC s.data.toList k (by rw [size_list]; exact hlt) (by rw [get_list s k hlt]; simp [upC, hp])]
     exact HB.out
  ·have hl : mapTo upC s.data.toList k = s.data.toList.map upC := mapTo_end _ _ _ (by rw [size_list]; omega)
   have hback := run_convert_bytes_back (P := Tryz.prog) wr 231 9 5 ⟨w.heap.size, 0, none⟩ cap (s.data.toList.map upC) Tryz.underlying231 Tryz.underlying5 Tryz.underlying9 (fun j hj => by
    rw [add_at]
    have h := (HB.out.2.2 j (by rw [hl]; exact hj)).1
    simp only [hl] at h
    exact h)
   rw [List.length_map, size_list] at hback
   go_wp2
   go_ret
   exact ⟨rfl, HB.out.1⟩
end Go.Proofs.YtljdlkonlnjadaaGreatDoor
