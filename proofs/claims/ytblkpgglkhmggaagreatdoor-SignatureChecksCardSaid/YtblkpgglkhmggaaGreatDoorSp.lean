import Derived.Laws.ResultCell
import Derived.Test.YtblkpgglkhmggaaGreatDoorSo
import Derived.Test.YtblkpgglkhmggaaGreatDoorSk
namespace Go.Proofs.YtblkpgglkhmggaaGreatDoor
open Go.RowKit
set_option linter.unusedSimpArgs false
set_option linter.unusedVariables false

/-! The value of a name, by the reference. -/
theorem at_set5 {T : TypeId} {w : World} {g : Nat} {a0 a1 a2 a3 a4 b0 b1 b2 b3 b4 : Value} (h : AtC T w g #[a0, a1, a2, a3, a4]) :
    AtC T (((((w.setCell ⟨g, 0, none⟩ b0).setCell ⟨g, 1, none⟩ b1).setCell ⟨g, 2, none⟩ b2).setCell ⟨g, 3, none⟩ b3).setCell ⟨g, 4, none⟩ b4) g #[b0, b1, b2, b3, b4] := by
  unfold AtC at h ⊢
  simp only [World.setCell, Array.getElem?_modify, if_true, h]
  rfl
def zVl : Vl := ⟨⟨#[]⟩, 0, ⟨#[]⟩, 0, none, 0, 0, []⟩
def vlV (x : Vl) : Value := .agg #[.string x.n, .int .i64 x.t, .string x.s, .int .i64 x.d, .slice x.A x.ln x.c]
def getX (l : List Vl) (s : By) : Vl × Bool := match l.find? (fun x => x.n.data.toList == s) with
  | some x => (x, true)
  | none => (zVl, false)
theorem getX_none {l : List Vl} {s : By} (h : NoV l s l.length) : getX l s = (zVl, false) := by
  unfold getX
  have e : l.find? (fun x => x.n.data.toList == s) = none := by
    rw [List.find?_eq_none]
    intro x hx
    obtain ⟨j, hj, rfl⟩ := List.getElem_of_mem hx
    rw [h j _ hj (List.getElem?_eq_getElem hj)]
    decide
  rw [e]
theorem getX_some : ∀ {l : List Vl} {s : By} {k : Nat} {x : Vl}, NoV l s k → l[k]? = some x → (x.n.data.toList == s) = true → getX l s = (x, true)
  | [], s, k, x, _, hx, _ => by simp at hx
  | y :: r, s, 0, x, _, hx, hq => by
    simp at hx
    subst hx
    unfold getX
    rw [List.find?_cons, hq]
  | y :: r, s, k + 1, x, h, hx, hq => by
    have h0 := h 0 y (by omega) rfl
    have := getX_some (l := r) (s := s) (k := k) (x := x) (fun j z hj hz => h (j + 1) z (by omega) (by simpa using hz)) (by simpa using hx) hq
    unfold getX at this ⊢
    rw [List.find?_cons, h0]
    exact this
set_option maxHeartbeats 1000000 in
set_option maxRecDepth 100000 in
theorem rget_any (l : List Vl) (A : Option Addr) (n c : Nat) (s : ByteArray) (w : World) (hA : Vls w A n l) (hn : n ≤ maxLen) :
    Calls Tryz.prog 24 #[.slice A n c, .string s] w fun e w' => e = .returned (.tuple #[vlV (getX l s.data.toList).1, .bool (getX l s.data.toList).2]) ∧ Ext w w' := by
  unfold maxLen at hn
  have HA := Lib.hid (hA.ext ((Ext.refl w).alloc (.cells #[.string ⟨#[]⟩, .int .i64 0, .string ⟨#[]⟩, .int .i64 0, .slice none 0 0] 45)))
  have HL := Lib.hid hA.len
  have HG := Lib.hid (AtC.new w #[.string ⟨#[]⟩, .int .i64 0, .string ⟨#[]⟩, .int .i64 0, .slice none 0 0] : AtC 45 _ _ _)
  clear hA
  go_enter Tryz.func24, Tryz.ntmps24
  go_wp2_with fail
  go_loopw [6] (IvInv (w.alloc (.cells #[.string ⟨#[]⟩, .int .i64 0, .string ⟨#[]⟩, .int .i64 0, .slice none 0 0] 45)) l s.data.toList n) (fun i _ => n - (intOf i).toNat)
  case atStart => exact ⟨0, Nat.zero_le _, rfl, fun j x h _ => absurd h (Nat.not_lt_zero j), Ext.refl _⟩
  case round =>
    obtain ⟨k, hk, rfl, hpre, hw⟩ := hrel
    have HP := Lib.hid hpre
    have HW := Lib.hid hw
    have HGW := Lib.hid (HG.out.ext hw)
    clear hpre hw
    have f0 := frz_of HGW.out 0
    have f1 := frz_of HGW.out 1
    have f2 := frz_of HGW.out 2
    have f3 := frz_of HGW.out 3
    have f4 := frz_of HGW.out 4
    have y0 := HGW.out.cell 0 _ rfl
    have y1 := HGW.out.cell 1 _ rfl
    have y2 := HGW.out.cell 2 _ rfl
    have y3 := HGW.out.cell 3 _ rfl
    have y4 := HGW.out.cell 4 _ rfl
    by_cases hkn : k < n
    · obtain ⟨x, hx⟩ : ∃ x, l[k]? = some x := ⟨_, List.getElem?_eq_getElem (by have := HL.out; omega)⟩
      obtain ⟨b, o, rfl, hb, hc⟩ := (HA.out.ext HW.out).at_ hx
      have a0 := hc 0 _ rfl
      have a1 := hc 1 _ rfl
      have a2 := hc 2 _ rfl
      have a3 := hc 3 _ rfl
      have a4 := hc 4 _ rfl
      rw [Nat.add_zero] at a0
      have hkI : (k : Int) < (n : Int) := by omega
      have HX := Lib.hid hx
      clear hx hc
      cases hq : (x.n.toList == s.toList)
      · have HQ := Lib.hid (noV_next HP.out HX.out (by rw [eq_b] at hq; exact hq))
        go_wp2
        exact ⟨⟨k + 1, by omega, by go_num, HQ.out, HW.out⟩, by simp [intOf]; omega⟩
      · have HQ := Lib.hid (getX_some HP.out HX.out (by rw [eq_b] at hq; exact hq))
        go_wp2
        have hat := at_set5 (b0 := .string x.n) (b1 := .int .i64 x.t) (b2 := .string x.s) (b3 := .int .i64 x.d) (b4 := .slice x.A x.ln x.c) HGW.out
        have z0 := hat.cell 0 _ rfl
        have z1 := hat.cell 1 _ rfl
        have z2 := hat.cell 2 _ rfl
        have z3 := hat.cell 3 _ rfl
        have z4 := hat.cell 4 _ rfl
        clear hat y0 y1 y2 y3 y4 f0 f1 f2 f3 f4
        refine bodyPost_ret (v := .tuple #[.agg #[.string x.n, .int .i64 x.t, .string x.s, .int .i64 x.d, .slice x.A x.ln x.c], .bool true]) (by rw [results_cell_tmp rfl]; go_simp) rfl ?_
        exact ⟨by rw [HQ.out]; rfl, ((((((((Ext.refl w).alloc _).trans HW.out).setCell (Nat.le_refl _) _).setCell (Nat.le_refl _) _).setCell (Nat.le_refl _) _).setCell (Nat.le_refl _) _).setCell (Nat.le_refl _) _)⟩
    · have hkk : k = n := by omega
      subst hkk
      have HQ := Lib.hid (getX_none (l := l) (s := s.data.toList) (by rw [HL.out]; exact HP.out))
      go_wp2
      have hat := at_set5 (b0 := .string ⟨#[]⟩) (b1 := .int .i64 0) (b2 := .string ⟨#[]⟩) (b3 := .int .i64 0) (b4 := .slice none 0 0) HGW.out
      have z0 := hat.cell 0 _ rfl
      have z1 := hat.cell 1 _ rfl
      have z2 := hat.cell 2 _ rfl
      have z3 := hat.cell 3 _ rfl
      have z4 := hat.cell 4 _ rfl
      clear hat y0 y1 y2 y3 y4 f0 f1 f2 f3 f4
      refine bodyPost_ret (v := .tuple #[.agg #[.string ⟨#[]⟩, .int .i64 0, .string ⟨#[]⟩, .int .i64 0, .slice none 0 0], .bool false]) (by rw [results_cell_tmp rfl]; go_simp) rfl ?_
      exact ⟨by rw [HQ.out]; rfl, ((((((((Ext.refl w).alloc _).trans HW.out).setCell (Nat.le_refl _) _).setCell (Nat.le_refl _) _).setCell (Nat.le_refl _) _).setCell (Nat.le_refl _) _).setCell (Nat.le_refl _) _)⟩
end Go.Proofs.YtblkpgglkhmggaaGreatDoor
