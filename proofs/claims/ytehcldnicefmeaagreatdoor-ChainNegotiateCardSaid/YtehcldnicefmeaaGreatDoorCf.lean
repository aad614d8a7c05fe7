import Derived.Test.YtehcldnicefmeaaGreatDoorCw
namespace Go.Proofs.YtehcldnicefmeaaGreatDoor
open Go.RowKit
set_option linter.unusedSimpArgs false
set_option linter.unusedVariables false

/-! The place of a locale, by the program. -/
def idxI (T : List LocP) (s : BytesC) : Int := match idxC T s with
  | some i => (i : Int)
  | none => -1
theorem idxI_none {T : List LocP} {s : BytesC} (h : idxC T s = none) : idxI T s = -1 := by unfold idxI; rw [h]
theorem idxI_some {T : List LocP} {s : BytesC} {i : Nat} (h : idxC T s = some i) : idxI T s = i := by unfold idxI; rw [h]
def NoTag (l : List Lc) (s : BytesC) (k : Nat) : Prop := ∀ j x, j < k → l[j]? = some x → (x.t.data.toList == s) = false
theorem noTag_zero (l : List Lc) (s : BytesC) : NoTag l s 0 := fun j x h _ => absurd h (Nat.not_lt_zero j)
theorem noTag_next {l : List Lc} {s : BytesC} {k : Nat} {x : Lc} (h : NoTag l s k) (hx : l[k]? = some x) (hq : (x.t.data.toList == s) = false) : NoTag l s (k + 1) := fun j y hj hy => by
  by_cases e : j = k
  · subst e; rw [hx] at hy; injection hy with hy; subst hy; exact hq
  · exact h j y (by omega) hy
theorem noTag_end {l : List Lc} {s : BytesC} (h : NoTag l s l.length) : idxC (l.map locOf) s = none := by
  unfold idxC
  rw [List.findIdx?_eq_none_iff]
  intro y hy
  obtain ⟨x, hx, rfl⟩ := List.mem_map.1 hy
  obtain ⟨j, hj, rfl⟩ := List.getElem_of_mem hx
  exact h j _ hj (List.getElem?_eq_getElem hj)
theorem noTag_found {l : List Lc} {s : BytesC} {k : Nat} {x : Lc} (h : NoTag l s k) (hx : l[k]? = some x) (hq : (x.t.data.toList == s) = true) : idxC (l.map locOf) s = some k := by
  unfold idxC
  rw [List.findIdx?_eq_some_iff_getElem]
  have hk := (List.getElem?_eq_some_iff.1 hx).1
  refine ⟨by simpa using hk, ?_, ?_⟩
  · rw [List.getElem_map, (List.getElem?_eq_some_iff.1 hx).2]; exact hq
  · intro j hj
    rw [List.getElem_map]
    have := h j _ hj (List.getElem?_eq_getElem (by omega))
    simpa [locOf] using this

set_option maxRecDepth 100000 in
theorem cfind1_any (x : Lc) (s : ByteArray) (g : Nat) (T : TypeId) (w : World) (hg : AtC T w g #[.string s]) :
    Calls Tryz.prog 139 #[.agg #[.string x.t, .string x.p, .string x.d, .slice (x.A 0) (x.n 0) (x.c 0), .slice (x.A 1) (x.n 1) (x.c 1), .string (x.s 0), .string (x.s 1), .string (x.s 2), .string (x.s 3), .int .i64 (x.i 0), .int .i64 (x.i 1), .slice (x.A 2) (x.n 2) (x.c 2), .slice (x.A 3) (x.n 3) (x.c 3), .slice (x.A 4) (x.n 4) (x.c 4), .slice (x.A 5) (x.n 5) (x.c 5), .slice (x.A 6) (x.n 6) (x.c 6)], .pointer (some ⟨g, 0, none⟩)] w fun e w' => e = .returned (.bool (x.t.data.toList == s.data.toList)) ∧ Ext w w' := by
  have h0 := (AtC.new w #[.string x.t, .string x.p, .string x.d, .slice (x.A 0) (x.n 0) (x.c 0), .slice (x.A 1) (x.n 1) (x.c 1), .string (x.s 0), .string (x.s 1), .string (x.s 2), .string (x.s 3), .int .i64 (x.i 0), .int .i64 (x.i 1), .slice (x.A 2) (x.n 2) (x.c 2), .slice (x.A 3) (x.n 3) (x.c 3), .slice (x.A 4) (x.n 4) (x.c 4), .slice (x.A 5) (x.n 5) (x.c 5), .slice (x.A 6) (x.n 6) (x.c 6)] : AtC 56 _ _ _).cell 0 _ rfl
  have h1 := (hg.alloc (.cells #[.string x.t, .string x.p, .string x.d, .slice (x.A 0) (x.n 0) (x.c 0), .slice (x.A 1) (x.n 1) (x.c 1), .string (x.s 0), .string (x.s 1), .string (x.s 2), .string (x.s 3), .int .i64 (x.i 0), .int .i64 (x.i 1), .slice (x.A 2) (x.n 2) (x.c 2), .slice (x.A 3) (x.n 3) (x.c 3), .slice (x.A 4) (x.n 4) (x.c 4), .slice (x.A 5) (x.n 5) (x.c 5), .slice (x.A 6) (x.n 6) (x.c 6)] 56)).cell 0 _ rfl
  go_enter Tryz.func139, Tryz.ntmps139
  go_wp2
  go_ret
  exact ⟨ret_bool (eq_b _ _), (Ext.refl w).alloc _⟩

def CIdx (w : World) (l : List Lc) (s : BytesC) (n : Nat) (i : Value) (wr : World) : Prop := ∃ k : Nat, k ≤ n ∧ i = .int .i64 k ∧ NoTag l s k ∧ Ext w wr
set_option maxHeartbeats 1000000 in
set_option maxRecDepth 100000 in
theorem cidx_any (l : List Lc) (L : Option Addr) (ln lc : Nat) (s : ByteArray) (g : Nat) (T : TypeId) (w : World) (hL : Lcs w L ln l) (hln : ln ≤ maxLen) (hg : AtC T w g #[.string s]) :
    Calls Tryz.prog 138 #[.slice L ln lc, .func (.func 139) #[] #[.pointer (some ⟨g, 0, none⟩)]] w fun e w' => e = .returned (.int .i64 (idxI (l.map locOf) s.data.toList)) ∧ Ext w w' := by
  unfold maxLen at hln
  have hl := hL.len
  have HL := Lib.hid hL
  have HLN := Lib.hid hl
  have HG := Lib.hid hg
  clear hL hg hl
  go_enter Tryz.func138, Tryz.ntmps138
  go_wp2_with fail
  go_loopw [8] (CIdx w l s.data.toList ln) (fun i _ => ln - (intOf i).toNat)
  case atStart => exact ⟨0, Nat.zero_le _, rfl, noTag_zero _ _, Ext.refl _⟩
  case round =>
    obtain ⟨k, hk, rfl, hpre, hw⟩ := hrel
    have HP := Lib.hid hpre
    have HW := Lib.hid hw
    clear hpre hw
    by_cases hkn : k < ln
    · obtain ⟨x, hx⟩ : ∃ x, l[k]? = some x := ⟨_, List.getElem?_eq_getElem (by have := HLN.out; omega)⟩
      obtain ⟨b, o, rfl, hb, hc⟩ := (HL.out.ext HW.out).at_ hx
      have a0 := hc 0 _ rfl
      have a1 := hc 1 _ rfl
      have a2 := hc 2 _ rfl
      have a3 := hc 3 _ rfl
      have a4 := hc 4 _ rfl
      have a5 := hc 5 _ rfl
      have a6 := hc 6 _ rfl
      have a7 := hc 7 _ rfl
      have a8 := hc 8 _ rfl
      have a9 := hc 9 _ rfl
      have a10 := hc 10 _ rfl
      have a11 := hc 11 _ rfl
      have a12 := hc 12 _ rfl
      have a13 := hc 13 _ rfl
      have a14 := hc 14 _ rfl
      have a15 := hc 15 _ rfl
      rw [Nat.add_zero] at a0
      have hkI : (k : Int) < (ln : Int) := by omega
      have K := fun W (h : Ext w W) => cfind1_any x s g T W (HG.out.ext h)
      have HX := Lib.hid hx
      clear hx hc
      cases hq : (x.t.data.toList == s.data.toList)
      · rw [hq] at K
        have HK := Lib.hid K
        have HQ := Lib.hid (noTag_next HP.out HX.out hq)
        clear K hq
        go_wp2_with fail
        refine (HK.out _ HW.out).mono ?_
        rintro e w2 ⟨rfl, hw2⟩
        have HW2 := Lib.hid (HW.out.trans hw2)
        clear hw2
        go_wp2
        exact ⟨⟨k + 1, by omega, by go_num, HQ.out, HW2.out⟩, by simp [intOf]; omega⟩
      · rw [hq] at K
        have HK := Lib.hid K
        have HQ := Lib.hid (idxI_some (noTag_found HP.out HX.out hq))
        clear K hq
        go_wp2_with fail
        refine (HK.out _ HW.out).mono ?_
        rintro e w2 ⟨rfl, hw2⟩
        have HW2 := Lib.hid (HW.out.trans hw2)
        clear hw2
        go_wp2
        go_ret
        exact ⟨by rw [HQ.out]; first | done | rfl, HW2.out⟩
    · have hkk : k = ln := by omega
      subst hkk
      have HQ := Lib.hid (idxI_none (noTag_end (by rw [HLN.out]; exact HP.out)))
      go_wp2
      go_ret
      exact ⟨by rw [HQ.out]; first | done | rfl, HW.out⟩

set_option maxRecDepth 100000 in
theorem cfind_any (l : List Lc) (L A N : Option Addr) (ln lc n c m d : Nat) (s : ByteArray) (w : World) (hL : Lcs w L ln l) (hln : ln ≤ maxLen) :
    Calls Tryz.prog 109 #[.agg #[.slice L ln lc, .slice A n c, .slice N m d], .string s] w fun e w' => e = .returned (.int .i64 (idxI (l.map locOf) s.data.toList)) ∧ Ext w w' := by
  have h0 := ((AtC.new w #[.slice L ln lc, .slice A n c, .slice N m d] : AtC 26 _ _ _).alloc (.cells #[.string s] 9)).cell 0 _ rfl
  have hw2 : Ext w ((w.alloc (.cells #[.slice L ln lc, .slice A n c, .slice N m d] 26)).alloc (.cells #[.string s] 9)) := ((Ext.refl w).alloc _).alloc _
  have hg : AtC 9 ((w.alloc (.cells #[.slice L ln lc, .slice A n c, .slice N m d] 26)).alloc (.cells #[.string s] 9)) (w.heap.size + 1) #[.string s] := by
    have := (AtC.new (w.alloc (.cells #[.slice L ln lc, .slice A n c, .slice N m d] 26)) #[.string s] : AtC 9 _ _ _)
    rwa [World.size_alloc] at this
  have K := Lib.hid (cidx_any l L ln lc s (w.heap.size + 1) 9 _ (hL.ext hw2) hln hg)
  have HW := Lib.hid hw2
  clear hw2 hg hL
  go_enter Tryz.func109, Tryz.ntmps109
  go_wp2_with fail
  refine K.out.mono ?_
  rintro e w2 ⟨rfl, hw2⟩
  have HW2 := Lib.hid (HW.out.trans hw2)
  clear hw2
  go_wp2
  go_ret
  exact ⟨rfl, HW2.out⟩
end Go.Proofs.YtehcldnicefmeaaGreatDoor
