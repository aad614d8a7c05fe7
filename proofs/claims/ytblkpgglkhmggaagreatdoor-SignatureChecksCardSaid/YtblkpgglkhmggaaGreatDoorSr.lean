import Derived.Test.YtblkpgglkhmggaaGreatDoorSq
namespace Go.Proofs.YtblkpgglkhmggaaGreatDoor
open Go.RowKit
set_option linter.unusedSimpArgs false
set_option linter.unusedVariables false

/-! The value of a name, by the program. -/
def zC : Array Value := #[.string ⟨#[]⟩, .int .i64 0, .string ⟨#[]⟩, .int .i64 0, .slice none 0 0]
def SgW (w : World) (s : ByteArray) : World := (w.alloc (.cells #[.string s] 9)).alloc (.cells #[.string ⟨#[]⟩, .int .i64 0, .string ⟨#[]⟩, .int .i64 0, .slice none 0 0] 45)
set_option maxHeartbeats 2000000 in
set_option maxRecDepth 100000 in
theorem sget_any (l : List Vl) (A : Option Addr) (n c : Nat) (s : ByteArray) (w : World) (hA : Vls w A n l) (hn : n ≤ maxLen) (hz : ∀ x ∈ l, x.ln ≤ 1048576) :
    Calls Tryz.prog 23 #[.slice A n c, .string s] w fun e w' => ∃ A' c', e = .returned (.tuple #[vlV { (getX l s.data.toList).1 with A := A', c := c' }, .bool (getX l s.data.toList).2]) ∧
      Sl w' A' (getX l s.data.toList).1.ln ((getX l s.data.toList).1.l.map .string) ∧ Ext w w' := by
  have hw1 : Ext w (SgW w s) := ((Ext.refl w).alloc _).alloc _
  have K1 := Lib.hid (idxV_any l A n c s w.heap.size 9 (SgW w s) (hA.ext hw1) hn ((AtC.new w #[.string s] : AtC 9 _ _ _).alloc _))
  have HG := Lib.hid (AtC.new (w.alloc (.cells #[.string s] 9)) #[.string ⟨#[]⟩, .int .i64 0, .string ⟨#[]⟩, .int .i64 0, .slice none 0 0] : AtC 45 _ _ _)
  rw [show (w.alloc (.cells #[.string s] 9)).heap.size = w.heap.size + 1 from by simp] at HG
  have HA := Lib.hid (hA.ext hw1)
  have HW1 := Lib.hid hw1
  have HZ := Lib.hid hz
  clear hA hz hw1
  go_enter Tryz.func23, Tryz.ntmps23
  go_wp2_with fail
  refine K1.out.mono ?_
  rintro e1 w3 ⟨rfl, hw3⟩
  have HW3 := Lib.hid hw3
  clear hw3
  have hG3 := HG.out.ext HW3.out
  have f0 := frz_of hG3 0
  have f1 := frz_of hG3 1
  have f2 := frz_of hG3 2
  have f3 := frz_of hG3 3
  have f4 := frz_of hG3 4
  have y0 := hG3.cell 0 _ rfl
  have y1 := hG3.cell 1 _ rfl
  have y2 := hG3.cell 2 _ rfl
  have y3 := hG3.cell 3 _ rfl
  have y4 := hG3.cell 4 _ rfl
  rcases vlI_cases l s.data.toList with ⟨hi, hx⟩ | ⟨k, x, hk, hi, hx⟩
  · rw [hi]
    have HX := Lib.hid hx
    have HG3 := Lib.hid hG3
    clear hx hG3
    go_wp2
    have hat := at_set5 (b0 := .string ⟨#[]⟩) (b1 := .int .i64 0) (b2 := .string ⟨#[]⟩) (b3 := .int .i64 0) (b4 := .slice none 0 0) HG3.out
    have z0 := hat.cell 0 _ rfl
    have z1 := hat.cell 1 _ rfl
    have z2 := hat.cell 2 _ rfl
    have z3 := hat.cell 3 _ rfl
    have z4 := hat.cell 4 _ rfl
    clear hat y0 y1 y2 y3 y4 f0 f1 f2 f3 f4
    refine bodyPost_ret (v := .tuple #[.agg #[.string ⟨#[]⟩, .int .i64 0, .string ⟨#[]⟩, .int .i64 0, .slice none 0 0], .bool false]) (by rw [results_cell_tmp rfl]; go_simp) rfl ?_
    rw [HX.out]
    exact ⟨none, 0, rfl, Sl.nil _ _, (((((((HW1.out.trans HW3.out).setCell (by simp) _).setCell (by simp) _).setCell (by simp) _).setCell (by simp) _).setCell (by simp) _))⟩
  · rw [hi]
    have HX := Lib.hid hx
    have HG3 := Lib.hid hG3
    have hxz := HZ.out x (List.mem_of_getElem? hk)
    have hsx := (HA.out.ext HW3.out).2 x (List.mem_of_getElem? hk)
    have hkn : k < n := by have h1 := HA.out.len; have h2 := (List.getElem?_eq_some_iff.1 hk).1; omega
    obtain ⟨b, o, rfl, hb, hc⟩ := (HA.out.ext HW3.out).at_ hk
    have a0 := hc 0 _ rfl
    have a1 := hc 1 _ rfl
    have a2 := hc 2 _ rfl
    have a3 := hc 3 _ rfl
    have a4 := hc 4 _ rfl
    rw [Nat.add_zero] at a0
    have hk0 : ¬ (k : Int) < 0 := by omega
    have hkI : (k : Int) < (n : Int) := by omega
    have hN : AtC 45 (w3.alloc (.cells #[.string x.n, .int .i64 x.t, .string x.s, .int .i64 x.d, .slice x.A x.ln x.c] 45)) w3.heap.size #[.string x.n, .int .i64 x.t, .string x.s, .int .i64 x.d, .slice x.A x.ln x.c] := AtC.new w3 _
    have HN := Lib.hid hN
    have HSX := Lib.hid hsx
    have HW4 := Lib.hid (show Ext w3 (w3.alloc (.cells #[.string x.n, .int .i64 x.t, .string x.s, .int .i64 x.d, .slice x.A x.ln x.c] 45)) from (Ext.refl w3).alloc _)
    clear hc hN hx hG3 hk hsx y0 y1 y2 y3 y4 f0 f1 f2 f3 f4
    go_wp2_with fail
    refine (clone_any x.l x.A x.ln x.c _ (HSX.out.ext HW4.out) hxz).mono ?_
    rintro e w5 ⟨A5, c5, rfl, hs5, hb5, hw5⟩
    have HB5 := Lib.hid hb5
    clear hb5
    have HS5 := Lib.hid hs5
    have HW5 := Lib.hid hw5
    have hN5 := HN.out.ext hw5
    have hG5 := HG3.out.ext (HW4.out.trans hw5)
    have r4 := frz_of hN5 4
    have q4 := hN5.cell 4 _ rfl
    have f0 := frz_of hG5 0
    have f1 := frz_of hG5 1
    have f2 := frz_of hG5 2
    have f3 := frz_of hG5 3
    have f4 := frz_of hG5 4
    clear hs5 hw5 a0 a1 a2 a3 a4
    have hN6 : AtC 45 (w5.setCell ⟨w3.heap.size, 4, none⟩ (.slice A5 x.ln c5)) w3.heap.size #[.string x.n, .int .i64 x.t, .string x.s, .int .i64 x.d, .slice A5 x.ln c5] := at_setL hN5
    have p0 := hN6.cell 0 _ rfl
    have p1 := hN6.cell 1 _ rfl
    have p2 := hN6.cell 2 _ rfl
    have p3 := hN6.cell 3 _ rfl
    have p4 := hN6.cell 4 _ rfl
    have hne : ¬ w.heap.size + 1 = w3.heap.size := by
      have h1 := Ext.size HW3.out
      unfold SgW at h1
      simp at h1
      omega
    have hG6 : AtC 45 (w5.setCell ⟨w3.heap.size, 4, none⟩ (.slice A5 x.ln c5)) (w.heap.size + 1) #[.string ⟨#[]⟩, .int .i64 0, .string ⟨#[]⟩, .int .i64 0, .slice none 0 0] := by
      unfold AtC at hG5 ⊢
      rw [World.setCell, Array.getElem?_modify, if_neg (fun h => hne h.symm)]
      exact hG5
    have g0 := hG6.cell 0 _ rfl
    have g1 := hG6.cell 1 _ rfl
    have g2 := hG6.cell 2 _ rfl
    have g3 := hG6.cell 3 _ rfl
    have g4 := hG6.cell 4 _ rfl
    have s0 := frz_of hG6 0
    have s1 := frz_of hG6 1
    have s2 := frz_of hG6 2
    have s3 := frz_of hG6 3
    have s4 := frz_of hG6 4
    clear hN5 hG5 hN6
    have HG6 := Lib.hid hG6
    have HN2 := Lib.hid hne
    clear hG6 hne HN HG HA HZ K1
    go_wp2
    have hat := at_set5 (b0 := .string x.n) (b1 := .int .i64 x.t) (b2 := .string x.s) (b3 := .int .i64 x.d) (b4 := .slice A5 x.ln c5) HG6.out
    have z0 := hat.cell 0 _ rfl
    have z1 := hat.cell 1 _ rfl
    have z2 := hat.cell 2 _ rfl
    have z3 := hat.cell 3 _ rfl
    have z4 := hat.cell 4 _ rfl
    have hle : w.heap.size ≤ w3.heap.size := by
      have h1 := Ext.size (HW1.out.trans HW3.out)
      exact h1
    have hx5 : Ext w w5 := ((HW1.out.trans HW3.out).trans HW4.out).trans HW5.out
    clear hat p0 p1 p2 p3 p4 g0 g1 g2 g3 g4 s0 s1 s2 s3 s4 r4 q4 f0 f1 f2 f3 f4
    refine bodyPost_ret (v := .tuple #[.agg #[.string x.n, .int .i64 x.t, .string x.s, .int .i64 x.d, .slice A5 x.ln c5], .bool true]) (by rw [results_cell_tmp rfl]; go_simp) rfl ?_
    rw [HX.out]
    refine ⟨A5, c5, rfl, ?_, (((((((hx5.setCell hle _).setCell (by simp) _).setCell (by simp) _).setCell (by simp) _).setCell (by simp) _).setCell (by simp) _))⟩
    refine Sl.exc (S := fun k => k = w.heap.size + 1 ∨ k = w3.heap.size) HS5.out ?_ (fun ad had h => ?_)
    · exact (((((Exc.setCell (.inr rfl) _).trans (Exc.setCell (.inl rfl) _)).trans (Exc.setCell (.inl rfl) _)).trans (Exc.setCell (.inl rfl) _)).trans (Exc.setCell (.inl rfl) _)).trans (Exc.setCell (.inl rfl) _)
    · have h1 := HB5.out ad had
      rw [World.size_alloc] at h1
      have h2 := Ext.size HW3.out
      unfold SgW at h2
      simp at h2
      rcases h with h | h <;> omega
end Go.Proofs.YtblkpgglkhmggaaGreatDoor
