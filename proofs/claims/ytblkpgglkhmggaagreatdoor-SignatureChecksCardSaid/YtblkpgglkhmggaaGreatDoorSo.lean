import Derived.Test.YtblkpgglkhmggaaGreatDoorSc
import Derived.Test.YtblkpgglkhmggaaGreatDoorSf
namespace Go.Proofs.YtblkpgglkhmggaaGreatDoor
open Go.RowKit
set_option linter.unusedSimpArgs false
set_option linter.unusedVariables false

/-! The place of a value, by the program. -/
def vlI (l : List Vl) (s : By) : Int := match l.findIdx? (fun x => x.n.data.toList == s) with
  | some i => (i : Int)
  | none => -1
def NoV (l : List Vl) (s : By) (k : Nat) : Prop := ∀ j x, j < k → l[j]? = some x → (x.n.data.toList == s) = false
theorem noV_next {l : List Vl} {s : By} {k : Nat} {x : Vl} (h : NoV l s k) (hx : l[k]? = some x) (hq : (x.n.data.toList == s) = false) : NoV l s (k + 1) := fun j y hj hy => by
  by_cases e : j = k
  · subst e; rw [hx] at hy; injection hy with hy; subst hy; exact hq
  · exact h j y (by omega) hy
theorem noV_end {l : List Vl} {s : By} (h : NoV l s l.length) : vlI l s = -1 := by
  unfold vlI
  have e : l.findIdx? (fun x => x.n.data.toList == s) = none := by
    rw [List.findIdx?_eq_none_iff]
    intro x hx
    obtain ⟨j, hj, rfl⟩ := List.getElem_of_mem hx
    exact h j _ hj (List.getElem?_eq_getElem hj)
  rw [e]
theorem noV_found {l : List Vl} {s : By} {k : Nat} {x : Vl} (h : NoV l s k) (hx : l[k]? = some x) (hq : (x.n.data.toList == s) = true) : vlI l s = k := by
  unfold vlI
  have e : l.findIdx? (fun x => x.n.data.toList == s) = some k := by
    rw [List.findIdx?_eq_some_iff_getElem]
    have hk := (List.getElem?_eq_some_iff.1 hx).1
    refine ⟨hk, by rw [(List.getElem?_eq_some_iff.1 hx).2]; exact hq, ?_⟩
    intro j hj
    rw [h j _ hj (List.getElem?_eq_getElem (by omega))]
    decide
  rw [e]
set_option maxRecDepth 100000 in
theorem get1_any (x : Vl) (s : ByteArray) (g : Nat) (T : TypeId) (w : World) (hg : AtC T w g #[.string s]) :
    Calls Tryz.prog 56 #[.agg #[.string x.n, .int .i64 x.t, .string x.s, .int .i64 x.d, .slice x.A x.ln x.c], .pointer (some ⟨g, 0, none⟩)] w fun e w' => e = .returned (.bool (x.n.data.toList == s.data.toList)) ∧ Ext w w' := by
  have h0 := (AtC.new w #[.string x.n, .int .i64 x.t, .string x.s, .int .i64 x.d, .slice x.A x.ln x.c] : AtC 45 _ _ _).cell 0 _ rfl
  have h1 := (hg.alloc (.cells #[.string x.n, .int .i64 x.t, .string x.s, .int .i64 x.d, .slice x.A x.ln x.c] 45)).cell 0 _ rfl
  go_enter Tryz.func56, Tryz.ntmps56
  go_wp2
  go_ret
  exact ⟨ret_bool (eq_b _ _), (Ext.refl w).alloc _⟩
def IvInv (w : World) (l : List Vl) (s : By) (n : Nat) (i : Value) (wr : World) : Prop := ∃ k : Nat, k ≤ n ∧ i = .int .i64 k ∧ NoV l s k ∧ Ext w wr
set_option maxHeartbeats 1000000 in
set_option maxRecDepth 100000 in
theorem idxV_any (l : List Vl) (A : Option Addr) (n c : Nat) (s : ByteArray) (g : Nat) (T : TypeId) (w : World) (hA : Vls w A n l) (hn : n ≤ maxLen) (hg : AtC T w g #[.string s]) :
    Calls Tryz.prog 55 #[.slice A n c, .func (.func 56) #[] #[.pointer (some ⟨g, 0, none⟩)]] w fun e w' => e = .returned (.int .i64 (vlI l s.data.toList)) ∧ Ext w w' := by
  unfold maxLen at hn
  have HA := Lib.hid hA
  have HL := Lib.hid hA.len
  have HG := Lib.hid hg
  clear hA hg
  go_enter Tryz.func55, Tryz.ntmps55
  go_wp2_with fail
  go_loopw [8] (IvInv w l s.data.toList n) (fun i _ => n - (intOf i).toNat)
  case atStart => exact ⟨0, Nat.zero_le _, rfl, fun j x h _ => absurd h (Nat.not_lt_zero j), Ext.refl _⟩
  case round =>
    obtain ⟨k, hk, rfl, hpre, hw⟩ := hrel
    have HP := Lib.hid hpre
    have HW := Lib.hid hw
    clear hpre hw
    by_cases hkn : k < n
    · obtain ⟨x, hx⟩ : ∃ x, l[k]? = some x := ⟨_, List.getElem?_eq_getElem (by have := HL.out; omega)⟩
      obtain ⟨b, o, rfl, hb, hc⟩ := (HA.out.ext HW.out).at_ hx
      have a0 := hc 0 _ rfl
      have a1 := hc 1 _ rfl
      have a2 := hc 2 _ rfl
      have a3 := hc 3 _ rfl
      have a4 := hc 4 _ rfl
      rw [Nat.add_zero] at a0
      have hkI : (k : Int) < (n : Int) := by omega
      have K := get1_any x s g T wr (HG.out.ext HW.out)
      have HX := Lib.hid hx
      clear hx hc
      cases hq : (x.n.data.toList == s.data.toList)
      · rw [hq] at K
        have HK := Lib.hid K
        have HQ := Lib.hid (noV_next HP.out HX.out hq)
        clear K hq
        go_wp2_with fail
        refine HK.out.mono ?_
        rintro e w2 ⟨rfl, hw2⟩
        have HW2 := Lib.hid (HW.out.trans hw2)
        clear hw2
        go_wp2
        exact ⟨⟨k + 1, by omega, by go_num, HQ.out, HW2.out⟩, by simp [intOf]; omega⟩
      · rw [hq] at K
        have HK := Lib.hid K
        have HQ := Lib.hid (noV_found HP.out HX.out hq)
        clear K hq
        go_wp2_with fail
        refine HK.out.mono ?_
        rintro e w2 ⟨rfl, hw2⟩
        have HW2 := Lib.hid (HW.out.trans hw2)
        clear hw2
        go_wp2
        go_ret
        exact ⟨by rw [HQ.out]; first | done | rfl, HW2.out⟩
    · have hkk : k = n := by omega
      subst hkk
      have HQ := Lib.hid (noV_end (by rw [HL.out]; exact HP.out))
      go_wp2
      go_ret
      exact ⟨by rw [HQ.out]; first | done | rfl, HW.out⟩
end Go.Proofs.YtblkpgglkhmggaaGreatDoor
