import Derived.Test.YtljdlkonlnjadaaGreatDoorNXI
import Derived.Test.YtljdlkonlnjadaaGreatDoorNX2
import Derived.IntWalk
set_option maxRecDepth 100000
set_option linter.unusedSimpArgs false
set_option linter.unusedVariables false
open Go.Lib (hid)
namespace Go.Proofs.YtljdlkonlnjadaaGreatDoor
open Go.RowKit
theorem conv_one (wr : World) (c : UInt8) :
 (convert 231 9 (.slice (some ⟨wr.heap.size, 0, none⟩) 1 1)).run Tryz.prog (wr.alloc (.cells #[.int .u8 (c.toNat : Int)] 5)) = .ok (.string ⟨#[c]⟩) (wr.alloc (.cells #[.int .u8 (c.toNat : Int)] 5)) := by
 have h := run_convert_bytes_back (P := Tryz.prog) (wr.alloc (.cells #[.int .u8 (c.toNat : Int)] 5)) 231 9 5 ⟨wr.heap.size, 0, none⟩ 1 [c] Tryz.underlying231 Tryz.underlying5 Tryz.underlying9 (fun j hj => by
  have hj0 : j = 0 := by simp at hj; exact hj
  subst hj0
  rw [add_at, cell_of_row _ wr.heap.size 0 #[.int .u8 (c.toNat : Int)] 5 (0, 0) (heap_alloc_new wr _)]
  rfl)
 exact h
def StrInv (f : UInt8 → UInt8) (s : ByteArray) (w : World) (o i : Value) (wr : World) : Prop :=
 ∃ k : Nat, k ≤ s.size ∧ i = .int .i64 k ∧ o = strv ((s.data.toList.map f).take k) ∧ Ext w wr
theorem strInv_next {f : UInt8 → UInt8} {s : ByteArray} {k : Nat} (h : k < s.size) {c : UInt8} (hc : c = f s[k]) :
 Value.string (⟨((s.data.toList.map f).take k).toArray⟩ ++ ⟨#[c]⟩) = strv ((s.data.toList.map f).take (k + 1)) := by
 have h1 : (s.data.toList.map f)[k]? = some c := by rw [List.getElem?_map, List.getElem?_eq_getElem (by rw [size_list]; exact h), get_list s k h, hc]; rfl
 rw [take_next h1, ByteArray.mk_append_mk]
 simp [strv]
theorem lowC_num' (c : UInt8) (h : isCap c = true) : (c.toNat : Int) + 32 = ((lowC c).toNat : Int) := by
 have h1 := lowC_num c h
 have h2 : c.toNat ≤ 90 := by simp [isCap, UInt8.le_iff_toNat_le] at h; omega
 omega
theorem upC_num' (c : UInt8) (h : isSmall c = true) : (c.toNat : Int) - 32 = ((upC c).toNat : Int) := by
 have h1 := upC_num c h
 have h2 : c.toNat ≤ 122 ∧ 97 ≤ c.toNat := by simp [isSmall, UInt8.le_iff_toNat_le] at h; omega
 omega
theorem rlower_any (s : ByteArray) (w : World) (hs : s.size ≤ 9223372036854775807) :
 Calls Tryz.prog 146 #[.string s] w fun e w' => e = .returned (strv (s.data.toList.map lowC)) ∧ Ext w w' := by
 go_enter Tryz.func146, Tryz.ntmps146
 go_wp2
 go_loopw [3, 4] (StrInv lowC s w) (fun _ i _ => s.size - (intOf i).toNat)
 case atStart => exact ⟨0, Nat.zero_le _, rfl, rfl, Ext.refl _⟩
 case round =>
  obtain ⟨k, hk, rfl, rfl, hw⟩ := hrel
  have HW := hid hw
  clear hw
  by_cases hlt : k < s.size
  ·have hcv := conv_one wr (lowC s[k])
   have hcl : ((s.data.toList.map lowC).take k).length ≤ 9223372036854775807 := by simp; omega
   unfold strv
   cases hp : isCap s[k] with
   | true =>
     obtain ⟨h1, h2⟩ : 65 ≤ s[k].toNat ∧ s[k].toNat ≤ 90 := by simpa [isCap, UInt8.le_iff_toNat_le] using hp
     rw [← lowC_num' _ hp] at hcv
     go_wp2
     exact ⟨⟨k + 1, by omega, by go_num, strInv_next hlt rfl, HW.out.alloc _⟩, by simp [intOf]; omega⟩
   | false =>
     have hp2 : ¬ (65 ≤ s[k].toNat ∧ s[k].toNat ≤ 90) := by simpa [isCap, UInt8.le_iff_toNat_le] using hp
     have hn : lowC s[k] = s[k] := by simp [lowC, hp]
     rw [hn] at hcv
     have HN := hid hn
     clear hn
     go_wp2
     all_goals first
      | exact ⟨⟨k + 1, by omega, by go_num, strInv_next hlt HN.out.symm, HW.out.alloc _⟩, by simp [intOf]; omega⟩
      | (exfalso; omega)
  ·unfold strv
   go_wp2
   go_ret
   refine ⟨?_, HW.out⟩
   rw [List.take_of_length_le (by rw [List.length_map, size_list]; omega)]
   rfl
theorem rupper_any (s : ByteArray) (w : World) (hs : s.size ≤ 9223372036854775807) :
 Calls Tryz.prog 151 #[.string s] w fun e w' => e = .returned (strv (s.data.toList.map upC)) ∧ Ext w w' := by
 go_enter Tryz.func151, Tryz.ntmps151
 go_wp2
 go_loopw [3, 4] (StrInv upC s w) (fun _ i _ => s.size - (intOf i).toNat)
 case atStart => exact ⟨0, Nat.zero_le _, rfl, rfl, Ext.refl _⟩
 case round =>
  obtain ⟨k, hk, rfl, rfl, hw⟩ := hrel
  have HW := hid hw
  clear hw
  by_cases hlt : k < s.size
  ·have hcv := conv_one wr (upC s[k])
   have hcl : ((s.data.toList.map upC).take k).length ≤ 9223372036854775807 := by simp; omega
   unfold strv
   cases hp : isSmall s[k] with
   | true =>
     obtain ⟨h1, h2⟩ : 97 ≤ s[k].toNat ∧ s[k].toNat ≤ 122 := by simpa [isSmall, UInt8.le_iff_toNat_le] using hp
     rw [← upC_num' _ hp] at hcv
     go_wp2
     exact ⟨⟨k + 1, by omega, by go_num, strInv_next hlt rfl, HW.out.alloc _⟩, by simp [intOf]; omega⟩
   | false =>
     have hp2 : ¬ (97 ≤ s[k].toNat ∧ s[k].toNat ≤ 122) := by simpa [isSmall, UInt8.le_iff_toNat_le] using hp
     have hn : upC s[k] = s[k] := by simp [upC, hp]
     rw [hn] at hcv
     have HN := hid hn
     clear hn
     go_wp2
     all_goals first
      | exact ⟨⟨k + 1, by omega, by go_num, strInv_next hlt HN.out.symm, HW.out.alloc _⟩, by simp [intOf]; omega⟩
      | (exfalso; omega)
  ·unfold strv
   go_wp2
   go_ret
   refine ⟨?_, HW.out⟩
   rw [List.take_of_length_le (by rw [List.length_map, size_list]; omega)]
   rfl
def ldB (l d : Bool) (c : UInt8) : Bool := l && isSmall c || d && isDig c
end Go.Proofs.YtljdlkonlnjadaaGreatDoor
namespace Go.Proofs.YtljdlkonlnjadaaGreatDoor
open Go.RowKit
theorem rall_any (s : ByteArray) (l d : Bool) (w : World) (hs : s.size ≤ 9223372036854775807) :
 Calls Tryz.prog 187 #[.string s, .bool l, .bool d] w fun e w' => e = .returned (.bool (s.data.toList.all (ldB l d))) ∧ w = w' := by
 generalize hB : s.data.toList.all (ldB l d) = B
 have HB := hid hB
 clear hB
 go_enter Tryz.func187, Tryz.ntmps187
 go_wp2
 go_loopw [7] (AllInv (ldB l d) s w) (fun i _ => s.size - (intOf i).toNat)
 case atStart => exact ⟨0, Nat.zero_le _, rfl, rfl, rfl⟩
 case round =>
  obtain ⟨k, hk, rfl, rfl, ht⟩ := hrel
  have HT := hid ht
  clear ht
  by_cases hlt : k < s.size
  ·have hp : ldB l d s[k] = true ↔ (l = true ∧ 97 ≤ s[k].toNat ∧ s[k].toNat ≤ 122) ∨ (d = true ∧ 48 ≤ s[k].toNat ∧ s[k].toNat ≤ 57) := by
    simp [ldB, isSmall, isDig, UInt8.le_iff_toNat_le]
   have HP := hid hp
   clear hp
   cases l <;> cases d
   all_goals go_wp2
   all_goals try simp only [Bool.not_eq_true', Bool.not_eq_false', decide_eq_false_iff_not, decide_eq_true_eq] at *
   all_goals first
    | exact ⟨⟨k + 1, by omega, by go_num, rfl, all_step HT.out hlt (HP.out.2 (by simp only [true_and, false_and, or_false, false_or, reduceCtorEq]; omega))⟩, by simp [intOf]; omega⟩
    | (go_ret; refine ⟨ret_bool ?_, rfl⟩; rw [← HB.out, all_stop hlt (Bool.eq_false_iff.2 fun h => ?_)]; rcases HP.out.1 h with ⟨h0, h1, h2⟩ | ⟨h0, h1, h2⟩ <;> first | omega | cases h0)
    | trace_state
  ·go_wp2
   go_ret
   exact ⟨ret_bool ((all_end HT.out hlt).symm.trans HB.out), rfl⟩
theorem ld_s : ldB true false = isSmall := by funext c; simp [ldB]
theorem ld_d : ldB false true = isDig := by funext c; simp [ldB]
theorem ld_e : ldB true true = isEith := by funext c; simp [ldB, isEith]
theorem rlang_any (s : ByteArray) (w : World) (hs : s.size ≤ 9223372036854775807) :
 Calls Tryz.prog 147 #[.string s] w fun e w' => e = .returned (.bool (langB s.data.toList)) ∧ w = w' := by
 go_enter Tryz.func147, Tryz.ntmps147
 go_wp2_with (go_at_call 187; refine (rall_any _ _ _ _ hs).mono ?_; rintro e w' ⟨rfl, rfl⟩; rw [ld_s]; cases hb : s.data.toList.all isSmall)
 all_goals (go_ret; exact ⟨ret_bool (by rw [Bool.eq_iff_iff]; simp [langB, size_list, *] <;> omega), rfl⟩)
theorem rscript_any (s : ByteArray) (w : World) (hs : s.size ≤ 9223372036854775807) :
 Calls Tryz.prog 148 #[.string s] w fun e w' => e = .returned (.bool (scriptL s.data.toList)) ∧ w = w' := by
 go_enter Tryz.func148, Tryz.ntmps148
 go_wp2_with (go_at_call 187; refine (rall_any _ _ _ _ hs).mono ?_; rintro e w' ⟨rfl, rfl⟩; rw [ld_s]; cases hb : s.data.toList.all isSmall)
 all_goals (go_ret; exact ⟨ret_bool (by rw [Bool.eq_iff_iff]; simp [scriptL, size_list, *] <;> omega), rfl⟩)
theorem rregion_any (s : ByteArray) (w : World) (hs : s.size ≤ 9223372036854775807) :
 Calls Tryz.prog 150 #[.string s] w fun e w' => e = .returned (.bool (regionL s.data.toList)) ∧ w = w' := by
 by_cases h2 : s.size = 2
 ·go_enter Tryz.func150, Tryz.ntmps150
  go_wp2_with (go_at_call 187; refine (rall_any _ _ _ _ hs).mono ?_; rintro e w' ⟨rfl, rfl⟩; rw [ld_s]; cases hb : s.data.toList.all isSmall)
  all_goals (go_ret; exact ⟨ret_bool (by rw [Bool.eq_iff_iff]; simp [regionL, size_list, *]), rfl⟩)
 ·have h5 : ((s.size : Int) == 2) = false := by simp; omega
  go_enter Tryz.func150, Tryz.ntmps150
  go_wp2_with (go_at_call 187; refine (rall_any _ _ _ _ hs).mono ?_; rintro e w' ⟨rfl, rfl⟩; rw [ld_d]; cases hb : s.data.toList.all isDig)
  all_goals (go_ret; exact ⟨ret_bool (by rw [Bool.eq_iff_iff]; simp [regionL, size_list, *] <;> omega), rfl⟩)
theorem all_head (s : ByteArray) (p : UInt8 → Bool) (h : 0 < s.size) : (s.extract 0 1).data.toList.all p = p (s.data.toList.headD 0) := by
 have h1 : (s.extract 0 1).data.toList = [s.data.toList.headD 0] := by
  have h2 : 0 < s.data.toList.length := h
  simp only [ByteArray.data_extract]
  rw [Array.toList_extract, List.extract_eq_take_drop]
  revert h2
  generalize s.data.toList = l
  intro h2
  cases l with
  | nil => simp at h2
  | cons a r => simp
 rw [h1]
 simp
theorem rvariant_any (s : ByteArray) (w : World) (hs : s.size ≤ 9223372036854775807) :
 Calls Tryz.prog 152 #[.string s] w fun e w' => e = .returned (.bool (variantB s.data.toList)) ∧ w = w' := by
 by_cases h4 : s.size = 4
 ·have h3 := all_head s (ldB false true) (by omega)
  have h1 : (s.extract 0 1).size = 1 := extract_size s 0 1 (by omega)
  have H3 := hid h3
  clear h3
  go_enter Tryz.func152, Tryz.ntmps152
  go_wp2_with (go_at_call 187; refine (rall_any _ _ _ _ (by omega)).mono ?_; rintro e w' ⟨rfl, rfl⟩; first
   | (rw [ld_e]; cases hb : s.data.toList.all isEith)
   | (rw [H3.out, ld_d]; cases hc : isDig (s.data.toList.headD 0)))
  all_goals (go_ret; exact ⟨ret_bool (by simp only [variantB, size_list, *]; simp), rfl⟩)
 ·have h5 : ((s.size : Int) == 4) = false := by simp; omega
  go_enter Tryz.func152, Tryz.ntmps152
  go_wp2_with (go_at_call 187; refine (rall_any _ _ _ _ hs).mono ?_; rintro e w' ⟨rfl, rfl⟩; rw [ld_e]; cases hb : s.data.toList.all isEith)
  all_goals (go_ret; exact ⟨ret_bool (by rw [Bool.eq_iff_iff]; simp [variantB, size_list, *] <;> omega), rfl⟩)
end Go.Proofs.YtljdlkonlnjadaaGreatDoor
namespace Go.Proofs.YtljdlkonlnjadaaGreatDoor
open Go.RowKit
theorem rtitle_any (s : ByteArray) (w : World) (hs : s.size ≤ 9223372036854775807) (h1 : 1 ≤ s.size) :
 Calls Tryz.prog 149 #[.string s] w fun e w' => e = .returned (strv (titleOf s.data.toList)) ∧ Ext w w' := by
 have e1 : (s.extract 0 1).size = 1 := extract_size s 0 1 (by omega)
 have e2 : titleOf s.data.toList = (s.data.toList.map upC).take 1 ++ (s.extract 1 s.size).data.toList := by
  rw [extract_drop]
  have h3 : 0 < s.data.toList.length := h1
  generalize s.data.toList = l at h3
  cases l with
  | nil => simp at h3
  | cons a r => simp [titleOf]
 have E2 := hid e2
 clear e2
 have h1' : (1 : Int) ≤ (s.size : Int) := by omega
 go_enter Tryz.func149, Tryz.ntmps149
 go_wp2
 go_region_with (go_at_call 151; refine (rupper_any _ _ (by omega)).mono ?_; rintro e w' ⟨rfl, hw⟩; have HW := hid hw; clear hw; unfold strv)
 all_goals go_wp2
 all_goals go_ret
 all_goals (refine ⟨?_, by first | exact (Ext.refl w).drew.trans HW.out | exact ((Ext.refl w).trans HW.out).drew | exact HW.out⟩; rw [E2.out, mk_app]; rfl)
theorem spOf_snoc_sep (l : List UInt8) (c : UInt8) (h : isSep c = true) : spOf (l ++ [c]) = spOf l ++ [[]] := spOf_app l [] c h
theorem spOf_snoc (l : List UInt8) (c : UInt8) (h : isSep c = false) (x : List UInt8) (hx : (spOf l)[(spOf l).length - 1]? = some x) : spOf (l ++ [c]) = (spOf l).set ((spOf l).length - 1) (x ++ [c]) := by
 induction l generalizing x with
 | nil => simp [spOf] at hx; subst hx; simp [spOf, h]
 | cons d r ih =>
   rw [List.cons_append, spOf_cons]
   rw [spOf_cons] at hx ⊢
   have hpos : 0 < (spOf r).length := List.length_pos_iff.2 (spOf_ne r)
   by_cases hd : isSep d = true
   ·rw [if_pos hd] at hx ⊢
    rw [if_pos hd]
    have e : ([] :: spOf r).length - 1 = ((spOf r).length - 1) + 1 := by rw [List.length_cons]; omega
    rw [e] at hx ⊢
    rw [List.getElem?_cons_succ] at hx
    rw [ih x hx, List.set_cons_succ]
   ·rw [if_neg hd] at hx ⊢
    rw [if_neg hd]
    cases hr : spOf r with
    | nil => exact absurd hr (spOf_ne r)
    | cons y ys =>
      rw [hr] at hx ih
      simp only at hx ⊢
      cases ys with
      | nil =>
        simp at hx
        subst hx
        rw [ih y rfl]
        rfl
      | cons z zs =>
        have e : ∀ q : List UInt8, (q :: z :: zs).length - 1 = (z :: zs).length - 1 + 1 := fun q => by simp
        rw [e] at hx ih ⊢
        rw [List.getElem?_cons_succ] at hx ih
        rw [ih x hx]
        rfl
def SplitInv (s : ByteArray) (w : World) (o i : Value) (wr : World) : Prop :=
 ∃ k : Nat, k ≤ s.size ∧ i = .int .i64 k ∧ wr.ownsRow w.heap.size 9 1 o (spOf (s.data.toList.take k)).length ((spOf (s.data.toList.take k)).map strv) ∧ Ext w wr
theorem take_snoc (s : ByteArray) (k : Nat) (h : k < s.size) : s.data.toList.take (k + 1) = s.data.toList.take k ++ [s[k]] := by
 rw [← get_list s k h]
 exact take_next (List.getElem?_eq_getElem (by rw [size_list]; exact h))
theorem split_set {s : ByteArray} {w wr : World} {g cap k n : Nat} {x : List UInt8} (hk : k < s.size) (hn : (spOf (s.data.toList.take k)).length = n)
 (ho : wr.ownsRow w.heap.size 9 1 (.slice (some ⟨g, 0, none⟩) n cap) n ((spOf (s.data.toList.take k)).map strv)) (hx : (spOf (s.data.toList.take k))[n - 1]? = some x) (hs : isSep s[k] = false) (hw : Ext w wr) (hg : w.heap.size ≤ g) (u : Value) (hu : u = strv (x ++ [s[k]])) :
 SplitInv s w (.slice (some ⟨g, 0, none⟩) n cap) (.int .i64 ((k + 1 : Nat) : Int)) (wr.setCell ⟨g, n - 1, none⟩ u) := by
 subst hn
 have h1 := spOf_snoc _ _ hs x hx
 rw [← take_snoc s k hk] at h1
 refine ⟨k + 1, by omega, rfl, ?_, hw.setCell (by exact hg) _⟩
 have h2 := ho.stored ((spOf (s.data.toList.take k)).length - 1) u
 rw [h1, List.length_set, List.map_set, ← hu]
 exact h2.1
theorem rsplit_any (s : ByteArray) (w : World) (hs : s.size ≤ 2000000) :
 Calls Tryz.prog 145 #[.string s] w fun e w' => ∃ v, e = .returned v ∧ w'.ownsRow w.heap.size 9 1 v (spOf s.data.toList).length ((spOf s.data.toList).map strv) ∧ Ext w w' := by
 obtain ⟨i0, hi, hz0, hz1, hz2⟩ := info_parts (show (Tryz.prog.info? 9).map (fun i => (i.zero, i.size, i.bytes)) = some (some (.string ⟨#[]⟩), 1, 16) from by kernel_rfl)
 go_enter Tryz.func145, Tryz.ntmps145
 go_wp2
 go_loopw [3, 4] (SplitInv s w) (fun _ i _ => s.size - (intOf i).toNat)
 case atStart => exact ⟨0, Nat.zero_le _, rfl, World.ownsRow_lit w #[.string ⟨#[]⟩] 1 (Nat.le_refl _) (by unfold maxLen; omega) rfl, (Ext.refl w).alloc _⟩
 case round =>
  obtain ⟨k, hk, rfl, ho, hw⟩ := hrel
  have hlen := spOf_len (s.data.toList.take k)
  have hlk : (s.data.toList.take k).length ≤ k := List.length_take_le _ _
  generalize hn : (spOf (s.data.toList.take k)).length = n at ho hlen
  have hpos : 0 < n := by rw [← hn]; exact List.length_pos_iff.2 (spOf_ne _)
  obtain ⟨g, cap, rfl, hg1, hg2, hg3⟩ := own_some ho hpos
  have HO := hid ho
  have HW := hid hw
  have HN := hid hn
  by_cases hlt : k < s.size
  ·cases hsep : isSep s[k] with
   | true =>
     have HP := hid hsep
     have h2 : (s[k].toNat : Int) = 45 ∨ (s[k].toNat : Int) = 95 := by
      simp [isSep, ← UInt8.toNat_inj] at hsep; omega
     clear hsep ho hw hn
     have fin : ∀ v' w', w'.ownsRow w.heap.size 9 1 v' (n + 1) ((spOf (s.data.toList.take k)).map strv ++ [.string ⟨#[]⟩]) → (wr.alloc (.cells #[.string ⟨#[]⟩] 9)).grownBy w' (some g) → SplitInv s w v' (.int .i64 ((k + 1 : Nat) : Int)) w' := by
      intro v' w' h3 h4
      refine ⟨k + 1, by omega, rfl, ?_, (HW.out.alloc _).grown h4 (fun j hj => by cases hj; exact hg1)⟩
      rw [take_snoc s k hlt, spOf_snoc_sep _ _ HP.out, List.length_append, HN.out, List.map_append]
      exact h3
     have FIN := hid fin
     clear fin
     have h3 : ((s[k].toNat : Int) == 45 || (s[k].toNat : Int) == 95) = true := by simpa using h2
     rcases h2 with h2 | h2
     ·have hb : ((s[k].toNat : Int) == 45) = true := by simpa using h2
      clear h2 h3
      go_wp2_with (at_builtin; refine wpList_app _ rfl _ _ 35 rfl w.heap.size 9 i0 _ 16 Tryz.underlying35 hi hz0 hz1 hz2 rfl _ n _ rfl (HO.out.alloc _) _ _ _ _ rfl (Sl.one _ _ _) (by simp [Value.oneCell']) (by unfold maxLen; omega) (by omega) (by have := Ext.size HW.out; simp; omega) ?_; intro v' w1 hown' hgrow; have HF := hid (FIN.out _ _ hown' hgrow); clear hown' hgrow)
      exact ⟨HF.out, by simp [intOf]; omega⟩
     ·have hb0 : ((s[k].toNat : Int) == 45) = false := by rw [h2]; rfl
      have hb : ((s[k].toNat : Int) == 95) = true := by simpa using h2
      clear h2 h3
      go_wp2_with (at_builtin; refine wpList_app _ rfl _ _ 35 rfl w.heap.size 9 i0 _ 16 Tryz.underlying35 hi hz0 hz1 hz2 rfl _ n _ rfl (HO.out.alloc _) _ _ _ _ rfl (Sl.one _ _ _) (by simp [Value.oneCell']) (by unfold maxLen; omega) (by omega) (by have := Ext.size HW.out; simp; omega) ?_; intro v' w1 hown' hgrow; have HF := hid (FIN.out _ _ hown' hgrow); clear hown' hgrow)
      exact ⟨HF.out, by simp [intOf]; omega⟩
   | false =>
     have h2 : ((s[k].toNat : Int) == 45) = false ∧ ((s[k].toNat : Int) == 95) = false := by
      simp [isSep, ← UInt8.toNat_inj] at hsep; simp; omega
     obtain ⟨h2a, h2b⟩ := h2
     obtain ⟨x, hx⟩ : ∃ x, (spOf (s.data.toList.take k))[n - 1]? = some x := ⟨_, List.getElem?_eq_getElem (by rw [hn]; omega)⟩
     have hc := ho.cellAt (n - 1) (by omega)
     rw [List.getElem?_map, hx] at hc
     have hf := ho.frozenAt (n - 1)
     have hxl : x.length ≤ 2000000 := by
      have := spOf_mem (s.data.toList.take k) x (List.mem_of_getElem? hx)
      omega
     have HP := hid hsep
     have HX := hid hx
     clear hsep hx ho hw hn
     have he : (s.extract k (k + 1)).data.toList = [s[k]] := by
      simp [ByteArray.data_extract, List.extract_eq_take_drop]
      rw [List.take_one]
      rw [List.head?_drop, List.getElem?_eq_getElem (by rw [size_list]; exact hlt), get_list s k hlt]
      rfl
     have HE := hid he
     clear he
     have hsz : (s.extract k (k + 1)).size = 1 := by rw [extract_size s k (k + 1) (by omega)]; omega
     simp only [Option.map_some, strv] at hc
     have e1 : IntKind.i64.wrap ((n : Int) - 1) = (n : Int) - 1 := IntWalk.i64_in _ (by omega)
     have e2 : ((n : Int) - 1).toNat = n - 1 := by omega
     have e3 : (1 : Int) ≤ (n : Int) := by omega
     have e4 : (n : Int) - 1 < (n : Int) := by omega
     have e5 : IntKind.i64.wrap ((k : Int) + 1) = (k : Int) + 1 := IntWalk.i64_in _ (by omega)
     have e6 : (k : Int) + 1 ≤ (s.size : Int) := by omega
     have e7 : (k : Int) ≤ (k : Int) + 1 := by omega
     have e8 : (0 : Int) ≤ (k : Int) + 1 := by omega
     have e9 : ((k : Int) + 1).toNat = k + 1 := by omega
     go_wp2
     have h63 : ¬ 9223372036854775807 < x.length + 1 := by omega
     refine region_tail 13 (by kernel_rfl) (by kernel_rfl) ?_
     simp only [List.take_succ_cons, List.take_zero, List.drop_succ_cons, List.drop_zero]
     repeat still_step
     refine wpStill_nil ?_
     clear e1 e2 e3 e4 e5 e6 e7 e8 e9 h63
     go_wp2
     exact ⟨split_set hlt HN.out HO.out.drew HX.out HP.out HW.out.drew hg1 _ (by rw [mk_app, HE.out]; rfl), by simp [intOf]; omega⟩
  ·have he : (spOf (s.data.toList.take k)) = spOf s.data.toList := by rw [List.take_of_length_le (by rw [size_list]; omega)]
   have HE := hid he
   clear he ho hw hn
   go_wp2
   go_ret
   refine ⟨_, rfl, ?_, HW.out⟩
   rw [← HE.out, HN.out]
   exact HO.out
end Go.Proofs.YtljdlkonlnjadaaGreatDoor
