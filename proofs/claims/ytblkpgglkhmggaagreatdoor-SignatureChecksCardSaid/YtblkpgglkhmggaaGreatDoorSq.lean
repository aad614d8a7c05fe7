import Derived.Test.YtblkpgglkhmggaaGreatDoorSp
namespace Go.Proofs.YtblkpgglkhmggaaGreatDoor
open Go.RowKit
set_option linter.unusedSimpArgs false
set_option linter.unusedVariables false

/-! The value of a name, by the program: with a copy of its list. -/
theorem vlI_cases (l : List Vl) (s : By) : (vlI l s = -1 ∧ getX l s = (zVl, false)) ∨ ∃ (k : Nat) (x : Vl), l[k]? = some x ∧ vlI l s = k ∧ getX l s = (x, true) := by
  cases h : l.findIdx? (fun x => x.n.data.toList == s) with
  | none =>
    refine Or.inl ⟨by unfold vlI; rw [h], ?_⟩
    refine getX_none fun j x _ hx => ?_
    rw [List.findIdx?_eq_none_iff] at h
    exact h x (List.mem_of_getElem? hx)
  | some k =>
    have h0 := h
    rw [List.findIdx?_eq_some_iff_getElem] at h
    obtain ⟨hk, hp, hlt⟩ := h
    refine Or.inr ⟨k, l[k], List.getElem?_eq_getElem hk, by unfold vlI; rw [h0], getX_some (k := k) (fun j x hj hx => ?_) (List.getElem?_eq_getElem hk) hp⟩
    have h1 := hlt j hj
    rw [List.getElem?_eq_getElem (by omega)] at hx
    injection hx with hx
    subst hx
    simpa using h1
theorem Sl.exc {S : Nat → Prop} {w w' : World} {A : Option Addr} {n : Nat} {xs : List Value} (h : Sl w A n xs) (hw : Exc S w w') (hs : ∀ ad, A = some ad → ¬ S ad.block) : Sl w' A n xs :=
  ⟨h.1, fun j u hu => by
    obtain ⟨ad, ha, hb, hc⟩ := h.2 j u hu
    exact ⟨ad, ha, Nat.lt_of_lt_of_le hb hw.size, (Exc.cell hw (by rw [addr_block]; exact hb) (by rw [addr_block]; exact hs ad ha)).trans hc⟩⟩
theorem at_setL {T : TypeId} {w : World} {g : Nat} {a0 a1 a2 a3 a4 b4 : Value} (h : AtC T w g #[a0, a1, a2, a3, a4]) :
    AtC T (w.setCell ⟨g, 4, none⟩ b4) g #[a0, a1, a2, a3, b4] := by
  unfold AtC at h ⊢
  simp only [World.setCell, Array.getElem?_modify, if_true, h]
  rfl
set_option maxRecDepth 100000 in
theorem clone_any (l : List ByteArray) (A : Option Addr) (n c : Nat) (w : World) (hs : Sl w A n (l.map .string)) (hn : n ≤ 1048576) :
    Calls Tryz.prog 57 #[.slice A n c] w fun e w' => ∃ A' c', e = .returned (.slice A' n c') ∧ Sl w' A' n (l.map .string) ∧ (∀ ad, A' = some ad → w.heap.size ≤ ad.block) ∧ Ext w w' := by
  obtain ⟨i0, hi, hz0, hz1, hz2⟩ := info_parts (show (Tryz.prog.info? 9).map (fun i => (i.zero, i.size, i.bytes)) = some (some (.string ⟨#[]⟩), 1, 16) from by kernel_rfl)
  have hl : l.length = n := by have := hs.1; rwa [List.length_map] at this
  have h1 : ∀ u ∈ l.map Value.string, u.oneCell' = true := fun u hu => by
    rw [List.mem_map] at hu
    obtain ⟨x, _, rfl⟩ := hu
    rfl
  have hno : A.isNone = true → n = 0 ∧ l = [] := fun hq => by
    cases A with
    | some ad => cases hq
    | none =>
      cases hy : l with
      | nil => exact ⟨by rw [hy] at hl; simpa using hl.symm, rfl⟩
      | cons x r =>
        obtain ⟨ad, ha, _⟩ := hs.2 0 (.string x) (by rw [hy]; rfl)
        cases ha
  have HS := Lib.hid hs
  have HN := Lib.hid hno
  clear hs hno
  have q24 : ∀ (w : World) (a : Option Addr) (n c n' c' : Nat), (binOp .eql 43 (.slice a n c) (.slice none n' c')).run Tryz.prog w = .ok (.bool a.isNone) w := fun w a n c n' c' => Lib.run_eql_slice_nil w _ _ a n c n' c' Tryz.underlying43
  cases hq : A.isNone
  · go_enter Tryz.func57, Tryz.ntmps57
    go_wp2_with (at_builtin; refine wpList_app _ rfl _ _ 43 rfl w.heap.size 9 i0 _ 16 Tryz.underlying43 hi hz0 hz1 hz2 rfl _ _ _ rfl (World.ownsRow_made w #[] 0 (Nat.le_refl _) (Nat.zero_le _) rfl) A n c _ rfl (HS.out.ext ((Ext.refl w).alloc _)) h1 (by unfold maxLen; omega) (by omega) (by simp) ?_)
    intro v' w' ho hg
    obtain ⟨A5, c5, hv5, hs5, _⟩ := own_sl ho
    subst hv5
    have HS5 := Lib.hid hs5
    have HB5 := Lib.hid (show ∀ ad, A5 = some ad → w.heap.size ≤ ad.block from fun ad had => by subst had; exact own_lt ho _ rfl)
    have HW5 := Lib.hid (((Ext.refl w).alloc _).grown hg (by intro k hk; simp [Value.ownBlock] at hk; omega))
    clear ho hs5 hg
    go_wp2
    go_ret
    exact ⟨A5, c5, rfl, HS5.out, HB5.out, HW5.out⟩
  · obtain ⟨rfl, rfl⟩ := HN.out hq
    go_enter Tryz.func57, Tryz.ntmps57
    go_wp2
    go_ret
    exact ⟨none, ⟨0, rfl⟩, Sl.nil _ _, ⟨fun ad had => (by cases had), Ext.refl w⟩⟩
end Go.Proofs.YtblkpgglkhmggaaGreatDoor
