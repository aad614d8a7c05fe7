import Derived.Test.YtkflpenpjnnhdaaGreatDoorMQA
import Derived.Test.YtkflpenpjnnhdaaGreatDoorRPar
import Derived.Test.YtkflpenpjnnhdaaGreatDoorMQ7
import Derived.Test.YtkflpenpjnnhdaaGreatDoorMQ1
namespace Go.Proofs.YtkflpenpjnnhdaaGreatDoor
open Go.RowKit
set_option linter.unusedSimpArgs false
set_option linter.unusedVariables false

/-! The distance of two tags that are read, by the reference. -/
set_option maxHeartbeats 2000000 in
set_option maxRecDepth 100000 in
theorem rDst_any (l : List Nr) (L : Option Addr) (ln lc : Nat) (a b : ByteArray) (w : World) (hL : Nrs w L ln l) (hln : ln ≤ maxLen) (hz : ∀ x ∈ l, x.f.size ≤ 1000000 ∧ x.o.size ≤ 1000000) (ha : a.size ≤ 60000) (hb : b.size ≤ 60000) :
    Calls Tryz.prog 16 #[.slice L ln lc, .string a, .string b] w fun e w' => e = .returned (.tuple #[.int .i64 (distL EC (l.map nearOf) a.data.toList b.data.toList).1, .int .i64 (distL EC (l.map nearOf) a.data.toList b.data.toList).2]) ∧ Ext w w' := by
  obtain ⟨D, hD⟩ : ∃ D, D = distL EC (l.map nearOf) a.data.toList b.data.toList := ⟨_, rfl⟩
  rw [← hD]
  have G1 := fun W (h : Ext w W) => rvalN_any l L ln lc W (hL.ext h) hln hz
  have HL := Lib.hid hL
  have HD := Lib.hid hD
  have HN := Lib.hid hln
  clear hL hD
  cases hv : validN (l.map nearOf) with
  | false =>
    rw [hv] at G1
    have K1 := Lib.hid G1
    have HD2 : D = (0, 1) := by rw [HD.out]; unfold distL; rw [if_neg (by rw [hv]; decide)]
    subst HD2
    clear G1 hv
    go_enter Tryz.func16, Tryz.ntmps16
    go_wp2_with fail
    refine (K1.out _ (Ext.refl _)).mono ?_
    rintro e w1 ⟨rfl, hw1⟩
    have HW1 := Lib.hid hw1
    clear hw1
    go_wp2
    go_ret2
    exact ⟨rfl, HW1.out⟩
  | true =>
    rw [hv] at G1
    have K1 := Lib.hid G1
    have HV := Lib.hid hv
    clear G1 hv
    go_enter Tryz.func16, Tryz.ntmps16
    go_wp2_with fail
    refine (K1.out _ (Ext.refl _)).mono ?_
    rintro e w1 ⟨rfl, hw1⟩
    have HW1 := Lib.hid hw1
    clear hw1
    go_wp2_with fail
    refine (rtags_any [a, b] _ 2 2 _ (Sl.two w1 (.string a) (.string b) 9) (by omega) (by intro s hs; simp at hs; rcases hs with rfl | rfl <;> assumption)).mono ?_
    rintro e w2 ⟨A2, n2, c2, xs, rfl, htg, hmap, hw2⟩
    have HW2 := Lib.hid ((HW1.out.alloc _).trans hw2)
    have HTG := Lib.hid htg
    have HMAP := Lib.hid hmap
    have hpr : (pairE EC a.data.toList b.data.toList).2 = (readP EC (dl [a, b])).2 := pair_read EC _ _
    have hpo : (readP EC (dl [a, b])).2 = 0 → (readP EC (dl [a, b])).1 = [(pairE EC a.data.toList b.data.toList).1.1, (pairE EC a.data.toList b.data.toList).1.2] := pair_read_ok
    have HPR := Lib.hid hpr
    have HPO := Lib.hid hpo
    clear hw2 htg hmap hpr hpo
    by_cases h0 : (readP EC (dl [a, b])).2 = 0
    · have hxs := HMAP.out.trans (HPO.out h0)
      obtain ⟨x, y, rfl, hx1, hy1⟩ := two_of hxs
      have HD2 := Lib.hid (show D = (distP (l.map nearOf) x.t y.t, 0) from by
        rw [HD.out, hx1, hy1]; unfold distL; rw [if_pos HV.out, if_pos (HPR.out.trans h0)])
      have hn2 : n2 = 2 := HTG.out.len.symm
      subst hn2
      obtain ⟨bb, oo, rfl⟩ := HTG.out.some_ (k := 0) (x := x) rfl
      have hcs : ∀ z ∈ l, 1 ≤ z.c ∧ z.c ≤ 99 := fun z hz => valid_costs HV.out (nearOf z) (List.mem_map.2 ⟨z, hz, rfl⟩)
      have hgx : GoodT x.t := read_good (l := dl [a, b]) (by rw [← HMAP.out]; simp)
      have hgy : GoodT y.t := read_good (l := dl [a, b]) (by rw [← HMAP.out]; simp)
      have ox := HTG.out.2 x (by simp)
      have oy := HTG.out.2 y (by simp)
      have nx := n_le ox hgx.1
      have ny := n_le oy hgy.1
      have G2 := fun (v : ExtW w2) => rdist_any l L ln lc x.t y.t x.A y.A x.n x.c y.n y.c v.v (HL.out.ext (HW2.out.trans v.h)) HN.out hcs (ox.ext v.h) (oy.ext v.h) nx ny
      have a0 := fun (v : ExtW w2) => (HTG.out.cells (k := 0) (x := x) rfl v.v v.h).1
      have a1 := fun (v : ExtW w2) => (HTG.out.cells (k := 0) (x := x) rfl v.v v.h).2.1
      have a2 := fun (v : ExtW w2) => (HTG.out.cells (k := 0) (x := x) rfl v.v v.h).2.2.1
      have a3 := fun (v : ExtW w2) => (HTG.out.cells (k := 0) (x := x) rfl v.v v.h).2.2.2
      have d0 := fun (v : ExtW w2) => (HTG.out.cells (k := 1) (x := y) rfl v.v v.h).1
      have d1 := fun (v : ExtW w2) => (HTG.out.cells (k := 1) (x := y) rfl v.v v.h).2.1
      have d2 := fun (v : ExtW w2) => (HTG.out.cells (k := 1) (x := y) rfl v.v v.h).2.2.1
      have d3 := fun (v : ExtW w2) => (HTG.out.cells (k := 1) (x := y) rfl v.v v.h).2.2.2
      obtain ⟨tl, htl, _⟩ := strv_b x.t.lang
      obtain ⟨ts, hts, _⟩ := strv_b x.t.script
      obtain ⟨tr, htr, _⟩ := strv_b x.t.region
      obtain ⟨ul, hul, _⟩ := strv_b y.t.lang
      obtain ⟨us, hus, _⟩ := strv_b y.t.script
      obtain ⟨ur, hur, _⟩ := strv_b y.t.region
      unfold tagV at G2
      simp only [htl, hts, htr, hul, hus, hur] at G2
      rw [htl] at a0
      rw [hts] at a1
      rw [htr] at a2
      rw [hul] at d0
      rw [hus] at d1
      rw [hur] at d2
      generalize distP (l.map nearOf) x.t y.t = D0 at *
      have K2 := Lib.hid G2
      clear G2 htl hts htr hul hus hur ox oy hgx hgy nx ny hcs hx1 hy1 hxs
      simp at a0 a1 a2 a3 d0 d1 d2 d3
      have h0' : ((readP EC (dl [a, b])).2 == 0) = true := by rw [h0]; rfl
      go_wp2_with fail
      refine wp_region_ext (by kernel_rfl) (by kernel_rfl) ?_
      repeat (go_big_quiet_step ((go_at_call 28; with_reducible exact ExtW.call (K2.out _))))
      refine wpQuiet_nil ?_
      intro wx hx
      have HX := Lib.hid (HW2.out.trans (ext_of hx))
      clear hx
      go_wp2
      go_ret2
      exact ⟨by rw [HD2.out]; rfl, HX.out⟩
    · have hnz : ((readP EC (dl [a, b])).2 == 0) = false := by simpa using h0
      have HD2 := Lib.hid (show D = (0, (readP EC (dl [a, b])).2) from by
        rw [HD.out]; unfold distL; rw [if_pos HV.out, if_neg (by rw [HPR.out]; exact h0), HPR.out])
      go_wp2
      go_ret2
      exact ⟨by rw [HD2.out]; rfl, HW2.out⟩
end Go.Proofs.YtkflpenpjnnhdaaGreatDoor
