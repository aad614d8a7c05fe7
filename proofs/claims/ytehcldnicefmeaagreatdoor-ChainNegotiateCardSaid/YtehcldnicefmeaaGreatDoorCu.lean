import Derived.Test.YtehcldnicefmeaaGreatDoorCt
import Derived.Test.YtehcldnicefmeaaGreatDoorNX2
namespace Go.Proofs.YtehcldnicefmeaaGreatDoor
open Go.RowKit
set_option linter.unusedSimpArgs false
set_option linter.unusedVariables false

/-! The tags of a chain, by the reference. -/
def RetTgs (w : World) (r : List BytesC × Int) (e : Ending) (w' : World) : Prop :=
  ∃ A n c, e = .returned (.tuple #[.slice A n c, .int .i64 r.2]) ∧ Sl w' A n (r.1.map strv) ∧ n ≤ c ∧ Ext w w'
theorem of_loc {T : List LocP} {al : List Ali} {s : BytesC} {R : List Nat × Int} (h : R = locsC T al s) : ofC T al s = (R.1.map fun i => (tgC T i).1, R.2) := by rw [h]; rfl
def COf (w4 : World) (T : List LocP) (r : List Nat) (n : Nat) (out i : Value) (wr : World) : Prop :=
  ∃ k : Nat, k ≤ n ∧ i = .int .i64 k ∧ wr.ownsRow w4.heap.size 9 1 out k (((r.take k).map fun i => (tgC T i).1).map strv) ∧ Ext w4 wr
theorem locs_lt {T : List LocP} {al : List Ali} {s : BytesC} : ∀ i ∈ (locsC T al s).1, i < T.length := by
  by_cases h : (locsC T al s).2 = 0
  · obtain ⟨_, _, r, h1, _, h3, _⟩ := locs_ok h
    rw [h1]; exact h3
  · rw [locs_bad h]; simp
theorem locs_len {T : List LocP} {al : List Ali} {s : BytesC} : (locsC T al s).1.length ≤ T.length := by
  by_cases h : (locsC T al s).2 = 0
  · obtain ⟨_, _, r, h1, h2, h3, _⟩ := locs_ok h
    rw [h1]; exact nodup_le h2 h3
  · rw [locs_bad h]; simp

set_option maxHeartbeats 2000000 in
set_option maxRecDepth 100000 in
theorem rof_any (l : List Lc) (al : List Ali) (L A N : Option Addr) (ln lc n c m d : Nat) (s : ByteArray) (w : World) (hL : Lcs w L ln l) (hln : ln ≤ 100000) (hA : Als w A n al) (hn : n ≤ 100000) (hz : ∀ a ∈ al, a.1.size ≤ 60000 ∧ a.2.size ≤ 60000) (hs : ∀ x ∈ l, x.t.size ≤ 60000) (hss : s.size ≤ 60000) :
    Calls Tryz.prog 14 #[.agg #[.slice L ln lc, .slice A n c, .slice N m d], .string s] w (RetTgs w (ofC (l.map locOf) al s.data.toList)) := by
  obtain ⟨i0, hi, hz0, hz1, hz2⟩ := info_parts (show (Tryz.prog.info? 9).map (fun i => (i.zero, i.size, i.bytes)) = some (some (.string ⟨#[]⟩), 1, 16) from by kernel_rfl)
  have KB := Lib.hid (AtC.new w #[.slice L ln lc, .slice A n c, .slice N m d] : AtC 26 _ _ _)
  have HW0 := Lib.hid ((Ext.refl w).alloc (.cells #[.slice L ln lc, .slice A n c, .slice N m d] 26))
  have h0 := KB.out.cell 0 _ rfl
  have h1 := KB.out.cell 1 _ rfl
  have h2 := KB.out.cell 2 _ rfl
  have K := rlocs_any l al L A N ln lc n c m d s _ (hL.ext HW0.out) hln (hA.ext HW0.out) hn hz hs hss
  have hlt := locs_lt (T := l.map locOf) (al := al) (s := s.data.toList)
  have hle := locs_len (T := l.map locOf) (al := al) (s := s.data.toList)
  obtain ⟨R, hR⟩ : ∃ R, R = locsC (l.map locOf) al s.data.toList := ⟨_, rfl⟩
  rw [of_loc hR]
  have hbd := fun h => locs_bad (T := l.map locOf) (al := al) (s := s.data.toList) h
  rw [← hR] at K hlt hle hbd
  obtain ⟨r, e⟩ := R
  simp only at hlt hle hbd
  have HBD := Lib.hid hbd
  have HK := Lib.hid K
  have HL := Lib.hid hL
  have hll := hL.len
  rw [List.length_map] at hle
  have HLT := Lib.hid (show ∀ i ∈ r, i < ln from fun i hi => by have := hlt i hi; rw [List.length_map] at this; omega)
  clear hL hA hz hs K hR hlt hbd
  go_enter Tryz.func14, Tryz.ntmps14
  go_wp2_with fail
  refine HK.out.mono ?_
  rintro e2 w2 ⟨A2, n2, c2, rfl, hs2, hc2, hw2⟩
  have HS2 := Lib.hid hs2
  have hn2 : n2 = r.length := by have h := hs2.1; rw [List.length_map] at h; exact h.symm
  have HW2 := Lib.hid (HW0.out.trans hw2)
  have KB2 := Lib.hid (KB.out.ext hw2)
  clear hw2 hs2 h0 h1 h2
  simp only
  by_cases he : e = 0
  rotate_left
  · have hnz : (e == 0) = false := by simpa using he
    go_wp2
    go_ret2
    exact ⟨none, 0, 0, rfl, by rw [HBD.out he]; exact Sl.nil _ _, Nat.le_refl _, HW2.out⟩
  subst he
  go_wp2_with fail
  go_loopw [8, 9] (COf w2 (l.map locOf) r n2) (fun _ i _ => n2 - (intOf i).toNat)
  case atStart => exact ⟨0, Nat.zero_le _, rfl, World.ownsRow_nil _ _ _ _, Ext.refl _⟩
  case round =>
    obtain ⟨k, hk, rfl, how, hw⟩ := hrel
    have HOW := Lib.hid how
    have HW := Lib.hid hw
    clear how hw
    by_cases hkn : k < n2
    · obtain ⟨ad, q, rfl, hq, hcq⟩ := (HS2.out.ext HW.out).at_map hkn
      unfold natV at hcq
      have hqln := HLT.out q (List.mem_of_getElem? hq)
      obtain ⟨x, hx⟩ : ∃ x, l[q]? = some x := ⟨_, List.getElem?_eq_getElem (by omega)⟩
      obtain ⟨b, o, rfl, hb, hc⟩ := (HL.out.ext (HW2.out.trans HW.out)).at_ hx
      have a0 := hc 0 _ rfl
      rw [Nat.add_zero] at a0
      have g0 := (KB2.out.ext HW.out).cell 0 _ rfl
      have hkI : (k : Int) < (n2 : Int) := by omega
      have hqI : (q : Int) < (ln : Int) := by omega
      have HX := Lib.hid (show strv (tgC (l.map locOf) q).1 = .string x.t from by
        rw [tg_get (show (l.map locOf)[q]? = some (locOf x) from by rw [List.getElem?_map, hx]; rfl)]
        show strv x.t.data.toList = .string x.t
        unfold strv
        simp)
      have HRQ := Lib.hid hq
      clear hx hc hq hb
      have tok1 : True := trivial
      go_wp2_with fail
      go_region_law ((have _t := tok1; refine step_app _ rfl _ _ 29 rfl w2.heap.size 9 i0 _ 16 Tryz.underlying29 hi hz0 hz1 hz2 rfl _ k _ rfl (HOW.out.drew.alloc _) _ 1 _ _ rfl (Sl.one _ _ _) (by simp [Value.oneCell']) (by unfold maxLen; omega) (by omega) (by have := Ext.size HW.out; simp; omega) ?_; intro v6 w6 hown6 hgrow6; have HO6 := Lib.hid hown6; have HX6 := Lib.hid (ext_grown (a := w2) (B := w2.heap.size) (HW.out.drew.alloc _) (HOW.out.drew.alloc _) (Nat.le_refl _) hgrow6); clear hown6 hgrow6 tok1))
      all_goals go_wp2
      all_goals refine ⟨⟨k + 1, by omega, by go_num, ?_, HX6.out⟩, by simp [intOf]; omega⟩
      all_goals rw [take_next HRQ.out, List.map_append, List.map_append]
      all_goals (have h := HO6.out; rw [← HX.out] at h; exact h)
    · have hkk : k = n2 := by omega
      subst hkk
      obtain ⟨A5, c5, rfl, hs5, hc5⟩ := own_sl HOW.out
      have HS5 := Lib.hid hs5
      clear hs5
      go_wp2
      go_ret2
      refine ⟨A5, k, c5, rfl, ?_, hc5, HW2.out.trans HW.out⟩
      have h := HS5.out
      rw [hn2, List.take_length] at h
      rw [hn2]
      exact h
end Go.Proofs.YtehcldnicefmeaaGreatDoor
