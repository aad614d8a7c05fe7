import Derived.Test.YtcfgphhhgemkdaaDoorAStps
namespace Go.Proofs.YtcfgphhhgemkdaaDoor
open Go.RowKit
set_option linter.unusedSimpArgs false
set_option linter.unusedVariables false

set_option maxRecDepth 100000 in
theorem tacan_any (l : List Ali) (s : ByteArray) (A : Option Addr) (n c : Nat) (w : World) (hm : Mx w) (hA : Als w A n l) (hn : n ≤ 100000) (hz : ∀ a ∈ l, a.1.size ≤ 60000 ∧ a.2.size ≤ 60000) (hs : s.size ≤ 60000) :
    Calls Tryd.prog 7 #[.slice A n c, .string s] w fun e w' => e = .returned (.tuple #[strv (canL l s.data.toList).1, .int .i64 (canL l s.data.toList).2]) ∧ Ext w w' := by
  have hst := tsteps_any l s A n c w hm hA hn hz hs
  have hsh := fun h => steps_shape (l := l) (s := s.data.toList) h
  unfold canL
  generalize stepsL l s.data.toList = R at hst hsh
  obtain ⟨xs, code⟩ := R
  simp only at hsh ⊢
  have HST := Lib.hid hst
  clear hst
  by_cases h0 : code = 0
  · subst h0
    obtain ⟨ys, e, _, hx, h20, _⟩ := hsh rfl
    simp only [if_true]
    have hlast : xs.getLastD [] = textP e := by rw [hx, last_map]
    have hget : xs[xs.length - 1]? = some (textP e) := by rw [hx]; simp
    have hlen : xs.length ≤ 21 ∧ 0 < xs.length := by rw [hx]; simp; omega
    rw [hlast]
    obtain ⟨eb, heb, _⟩ := strv_b (textP e)
    rw [heb]
    have HG := Lib.hid hget
    have HE := Lib.hid heb
    clear hsh hx h20 hlast hget heb
    go_enter Tryd.func7, Tryd.ntmps7
    go_wp2_with fail
    refine HST.out.mono ?_
    rintro e w1 ⟨A1, n1, c1, rfl, hs1, _, hw1⟩
    have hn1 : xs.length = n1 := by have := hs1.1; rwa [List.length_map] at this
    have HW1 := Lib.hid hw1
    have HS1 := Lib.hid hs1
    have h1 : 1 ≤ n1 := by omega
    have h2 : n1 ≤ 21 := by omega
    cases A1 with
    | none => exact absurd (none_nil HS1.out) (by omega)
    | some ad =>
      obtain ⟨b, o, rfl, _⟩ := addr_flat HS1.out (by omega)
      have hc : w1.cell? ⟨b, o + (n1 - 1), none⟩ = some (.string eb) := by
        obtain ⟨ad, ha, _, hc⟩ := HS1.out.2 (n1 - 1) (.string eb) (by rw [List.getElem?_map, ← hn1, HG.out, ← HE.out]; rfl)
        injection ha with ha
        subst ha
        rwa [add_flat] at hc
      have hI : ((n1 : Int) - 1).toNat = n1 - 1 := by omega
      have h1I : (1 : Int) ≤ (n1 : Int) := by omega
      have hlt : (n1 : Int) - 1 < (n1 : Int) := by omega
      clear hn1 hs1 hw1 hlen
      go_wp2
      go_ret2
      exact ⟨rfl, HW1.out⟩
  · simp only [if_neg h0]
    have hb1 : (code == 0) = false := by simpa using h0
    clear hsh
    go_enter Tryd.func7, Tryd.ntmps7
    go_wp2_with fail
    refine HST.out.mono ?_
    rintro e w1 ⟨A1, n1, c1, rfl, hs1, _, hw1⟩
    have HW1 := Lib.hid hw1
    clear hw1 hs1
    go_wp2
    go_ret2
    exact ⟨rfl, HW1.out⟩
end Go.Proofs.YtcfgphhhgemkdaaDoor
