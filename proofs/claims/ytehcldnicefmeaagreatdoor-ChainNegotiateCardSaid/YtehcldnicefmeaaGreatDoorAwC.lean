import Derived.Test.YtehcldnicefmeaaGreatDoorNXH
namespace Go.Proofs.YtehcldnicefmeaaGreatDoor
open Go.RowKit
set_option linter.unusedSimpArgs false
set_option linter.unusedVariables false

/-! The example's table. -/
def cUn : BytesC := [117, 110, 100]
def cEn : BytesC := [101, 110]
def cGb : BytesC := [101, 110, 45, 71, 66]
def cAu : BytesC := [101, 110, 45, 65, 85]
def cNz : BytesC := [101, 110, 45, 78, 90]
def cAx : BytesC := [101, 110, 95, 65, 85]
def kUn : TagP := ⟨[117, 110, 100], [], [], []⟩
def kEn : TagP := ⟨[101, 110], [], [], []⟩
def kGb : TagP := ⟨[101, 110], [], [71, 66], []⟩
def kAu : TagP := ⟨[101, 110], [], [65, 85], []⟩
def kNz : TagP := ⟨[101, 110], [], [78, 90], []⟩
theorem qUn : parseP EC cUn = (kUn, 0) := (show parseP EC cUn = finT EC kUn by kernel_rfl).trans (finT_of _ _ (by decide +kernel))
theorem qEn : parseP EC cEn = (kEn, 0) := (show parseP EC cEn = finT EC kEn by kernel_rfl).trans (finT_of _ _ (by decide +kernel))
theorem qGb : parseP EC cGb = (kGb, 0) := (show parseP EC cGb = finT EC kGb by kernel_rfl).trans (finT_of _ _ (by decide +kernel))
theorem qAu : parseP EC cAu = (kAu, 0) := (show parseP EC cAu = finT EC kAu by kernel_rfl).trans (finT_of _ _ (by decide +kernel))
theorem qNz : parseP EC cNz = (kNz, 0) := (show parseP EC cNz = finT EC kNz by kernel_rfl).trans (finT_of _ _ (by decide +kernel))
theorem qAx : parseP EC cAx = (kAu, 0) := (show parseP EC cAx = finT EC kAu by kernel_rfl).trans (finT_of _ _ (by decide +kernel))
theorem isC_of {s : List UInt8} {t : TagP} (h : parseP EC s = (t, 0)) (h2 : textP t = s) : isP s = true := by
  unfold isP canP
  rw [h]
  simp [h2]
def exT : List LocP := [(cUn, []), (cEn, []), (cGb, []), (cAu, cGb)]
theorem exT_use : usableC exT [] = true := by
  have h1 := isC_of qUn (by decide +kernel)
  have h2 := isC_of qEn (by decide +kernel)
  have h3 := isC_of qGb (by decide +kernel)
  have h4 := isC_of qAu (by decide +kernel)
  unfold usableC exT
  simp only [List.all_cons, List.all_nil, h1, h2, h3, h4, Bool.and_true, Bool.true_and]
  decide +kernel
theorem exT_ax : canL [] cAx = (cAu, 0) := by
  rw [canL_nil]
  unfold canP
  rw [qAx]
  simp only [if_true]
  exact Prod.ext (by decide +kernel) rfl
theorem exT_nz : canL [] cNz = (cNz, 0) := by
  rw [canL_nil]
  unfold canP
  rw [qNz]
  simp only [if_true]
  exact Prod.ext (by decide +kernel) rfl
theorem exT_p2 : parentP cGb = (cEn, 0) := by unfold parentP; rw [qGb]; exact Prod.ext (by decide +kernel) rfl
theorem exT_p1 : parentP cEn = (cUn, 0) := by unfold parentP; rw [qEn]; exact Prod.ext (by decide +kernel) rfl
theorem exT_n1 : nearC exT cEn = 1 := near_idx (by decide +kernel)
theorem exT_n0 : nearC exT cUn = 0 := near_idx (by decide +kernel)
theorem exT_n3 : nearC exT cAu = 3 := near_idx (by decide +kernel)
theorem exT_u3 : upC2 exT 3 = some 2 := by unfold upC2; rw [if_neg (by decide +kernel)]; decide +kernel
theorem exT_u2 : upC2 exT 2 = some 1 := by unfold upC2; rw [if_pos (by decide +kernel), show (tgC exT 2).1 = cGb from by decide +kernel, exT_p2, exT_n1]
theorem exT_u1 : upC2 exT 1 = some 0 := by unfold upC2; rw [if_pos (by decide +kernel), show (tgC exT 1).1 = cEn from by decide +kernel, exT_p1, exT_n0]
theorem exT_anc : (ancL cNz).1 = [cEn, cUn] := by
  unfold ancL
  rw [qNz]
  show (ancs kNz).map textP = _
  decide +kernel
theorem exT_nn : nearC exT cNz = 1 := by
  have h : idxC exT cNz = none := by decide +kernel
  unfold nearC
  rw [h, exT_anc]
  decide +kernel
theorem exT_go1 (n : Nat) (out : List Nat) (h : 0 ∉ out) : goC exT (n + 2) out 1 = (out ++ [0], 0) := by
  rw [goC, if_neg (by decide), exT_u1]
  simp only
  rw [if_neg h, goC, if_pos rfl]
theorem exT_of1 : ofC exT [] cAx = ([cAu, cGb, cEn, cUn], 0) := by
  have h : locsC exT [] cAx = ([3, 2, 1, 0], 0) := by
    rw [locsC, if_pos exT_use, exT_ax]
    simp only [if_true]
    rw [exT_n3, show exT.length = 2 + 2 from rfl, goC, if_neg (by decide), exT_u3]
    simp only
    rw [if_neg (by decide), goC, if_neg (by decide), exT_u2]
    simp only
    rw [if_neg (by decide)]
    exact exT_go1 0 [3, 2, 1] (by decide)
  unfold ofC
  rw [h]
  exact Prod.ext (by decide +kernel) rfl
theorem exT_of2 : ofC exT [] cNz = ([cEn, cUn], 0) := by
  have h : locsC exT [] cNz = ([1, 0], 0) := by
    rw [locsC, if_pos exT_use, exT_nz]
    simp only [if_true]
    rw [exT_nn, show exT.length = 2 + 2 from rfl]
    exact exT_go1 2 [1] (by decide)
  unfold ofC
  rw [h]
  exact Prod.ext (by decide +kernel) rfl
end Go.Proofs.YtehcldnicefmeaaGreatDoor
