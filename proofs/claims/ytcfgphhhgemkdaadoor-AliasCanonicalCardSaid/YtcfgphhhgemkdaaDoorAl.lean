import Derived.Test.YtcfgphhhgemkdaaDoorTEq
import Derived.Test.YtcfgphhhgemkdaaDoorPb
import Derived.Test.YtcfgphhhgemkdaaDoorMapS
import Derived.Test.YtcfgphhhgemkdaaDoorOpenA
namespace Go.Proofs.YtcfgphhhgemkdaaDoor
open Go.RowKit
set_option linter.unusedSimpArgs false
set_option linter.unusedVariables false

/-! Aliases: their rules. -/
theorem isP_parse {s : List UInt8} (h : isP s = true) : (parseP EC s).2 = 0 ∧ validP (parseP EC s).1 = true ∧ textP (parseP EC s).1 = s := by
  unfold isP canP at h
  simp only [Bool.and_eq_true, beq_iff_eq] at h
  obtain ⟨h1, h2⟩ := h
  rw [if_pos h1] at h2
  exact ⟨h1, parse_ok h1, h2⟩
theorem isP_text {t : TagP} (h : validP t = true) : isP (textP t) = true := by
  unfold isP canP
  rw [parse_text EC t h]
  simp
def ruleOf (a : ByteArray × ByteArray) : RuleP := ⟨(parseP EC a.1.data.toList).1, (parseP EC a.2.data.toList).1⟩
def aliB (a : ByteArray × ByteArray) : Bool := isP a.1.data.toList && isP a.2.data.toList && !(a.1.data.toList == undP)
theorem ali_ok {a : ByteArray × ByteArray} (h : aliB a = true) : okR (ruleOf a) := by
  unfold aliB at h
  simp only [Bool.and_eq_true] at h
  exact ⟨(isP_parse h.1.1).2.1, (isP_parse h.1.2).2.1⟩
theorem TL_parse (s : List UInt8) : TL (parseP EC s).1 := by
  by_cases h0 : (parseP EC s).2 = 0
  · exact TL_of (parse_ok h0)
  · rw [parse_zero EC s h0]
    exact TL_zero

/-- A rule as it lies in memory. -/
structure RV where
  r : RuleP
  A : Option Addr
  n : Nat
  c : Nat
  B : Option Addr
  m : Nat
  d : Nat
def rvC (x : RV) : List Value := [strv x.r.f.lang, strv x.r.f.script, strv x.r.f.region, .slice x.A x.n x.c, strv x.r.o.lang, strv x.r.o.script, strv x.r.o.region, .slice x.B x.m x.d]
def RvOk (w : World) (x : RV) : Prop := Sl w x.A x.n (x.r.f.vars.map strv) ∧ Sl w x.B x.m (x.r.o.vars.map strv)
theorem RvOk.ext {w w' : World} {x : RV} (h : RvOk w x) (hw : Ext w w') : RvOk w' x := ⟨h.1.ext hw, h.2.ext hw⟩
def Rules (w : World) (A : Option Addr) (n : Nat) (xs : List RV) : Prop := SlN w A n 8 (xs.flatMap rvC) ∧ ∀ x ∈ xs, RvOk w x
theorem Rules.ext {w w' : World} {A : Option Addr} {n : Nat} {xs : List RV} (h : Rules w A n xs) (hw : Ext w w') : Rules w' A n xs := ⟨h.1.ext hw, fun x hx => (h.2 x hx).ext hw⟩
theorem Rules.len {w : World} {A : Option Addr} {n : Nat} {xs : List RV} (h : Rules w A n xs) : xs.length = n := by
  have h1 := h.1.1
  rw [flat_len rvC 8 (fun _ => rfl)] at h1
  omega
theorem Rules.at_ {w : World} {A : Option Addr} {n : Nat} {xs : List RV} (h : Rules w A n xs) {k : Nat} {x : RV} (hx : xs[k]? = some x) :
    ∃ b o, A = some ⟨b, o, none⟩ ∧ b < w.heap.size ∧ ∀ j u, (rvC x)[j]? = some u → w.cell? ⟨b, o + (k * 8 + j), none⟩ = some u := by
  have g0 := flat_get rvC 8 (fun _ => rfl) xs k 0 x hx (by omega)
  obtain ⟨b, o, rfl, hb, h0⟩ := h.1.2 _ _ g0
  refine ⟨b, o, rfl, hb, fun j u hu => ?_⟩
  have hj : j < 8 := (List.getElem?_eq_some_iff.1 hu).1
  have g1 := flat_get rvC 8 (fun _ => rfl) xs k j x hx hj
  rw [hu] at g1
  obtain ⟨b', o', e, _, h1⟩ := h.1.2 _ _ g1
  injection e with e
  injection e with e1 e2 _
  subst e1; subst e2
  exact h1
end Go.Proofs.YtcfgphhhgemkdaaDoor
