import Derived.Test.YtehcldnicefmeaaGreatDoorNX6
import Derived.Test.YtehcldnicefmeaaGreatDoorNX5
import Derived.BigQuiet
import Derived.Test.YtehcldnicefmeaaGreatDoorNX4
import Derived.Test.YtehcldnicefmeaaGreatDoorNX1
import Derived.Test.YtehcldnicefmeaaGreatDoorNX3
import Derived.Test.YtehcldnicefmeaaGreatDoorNX2
namespace Go.Proofs.YtehcldnicefmeaaGreatDoor
open Go.RowKit
set_option linter.unusedSimpArgs false
set_option linter.unusedVariables false

/-- slices.Equal on strings. -/
theorem sleq_any (xs ys : List (List UInt8)) (A B : Option Addr) (n m ca cb : Nat) (w : World) (hA : Sl w A n (xs.map strv)) (hB : Sl w B m (ys.map strv)) (hn : n ≤ 1048576) (hm : m ≤ 1048576) :
    Calls Tryz.prog 132 #[.slice A n ca, .slice B m cb] w fun e w' => e = .returned (.bool (xs == ys)) ∧ Ext w w' := by
  have hx : xs.length = n := by have := hA.1; rwa [List.length_map] at this
  have hy : ys.length = m := by have := hB.1; rwa [List.length_map] at this
  by_cases hnm : n = m
  · by_cases h0 : n = 0
    · subst h0
      have hm0 : m = 0 := hnm.symm
      subst hm0
      have hx0 : xs = [] := List.eq_nil_of_length_eq_zero hx
      have hy0 : ys = [] := List.eq_nil_of_length_eq_zero hy
      subst hx0; subst hy0
      refine (Tryz.slices_Equal_string_empty A B ca 0 cb w (by omega)).mono ?_
      rintro e w' ⟨rfl, rfl⟩
      exact ⟨rfl, Ext.refl _⟩
    · cases A with
      | none => exact absurd (none_nil hA) h0
      | some a =>
        cases B with
        | none => exact absurd (none_nil hB) (by omega)
        | some b =>
          obtain ⟨b1, o1, rfl, _⟩ := addr_flat hA (by omega)
          obtain ⟨b2, o2, rfl, _⟩ := addr_flat hB (by omega)
          have cells : ∀ (zs : List (List UInt8)) (b o k : Nat), Sl w (some ⟨b, o, none⟩) k (zs.map strv) → ∀ j, j < (zs.map fun x => (⟨x.toArray⟩ : ByteArray)).length → w.cell? ⟨b, o + j, none⟩ = some (.string ((zs.map fun x => (⟨x.toArray⟩ : ByteArray)).getD j ByteArray.empty)) := by
            intro zs b o k hs j hj
            rw [List.length_map] at hj
            obtain ⟨ad, ha, _, hcell⟩ := hs.2 j (strv zs[j]) (by rw [List.getElem?_map, List.getElem?_eq_getElem hj]; rfl)
            injection ha with ha
            subst ha
            rw [add_flat] at hcell
            rw [hcell]
            simp [List.getD_eq_getElem?_getD, hj, strv]
          have h := Tryz.slices_Equal_string b1 o1 n ca b2 o2 m cb (xs.map fun x => ⟨x.toArray⟩) (ys.map fun x => ⟨x.toArray⟩) w (by rw [List.length_map]; omega) (by rw [List.length_map]; omega) (by omega) (by omega) (cells xs b1 o1 n hA) (cells ys b2 o2 m hB)
          refine h.mono ?_
          rintro e w' ⟨rfl, q, rfl⟩
          refine ⟨ret_bool ?_, (Ext.refl w).drewN q⟩
          rw [List.take_of_length_le (by rw [List.length_map]; omega), List.take_of_length_le (by rw [List.length_map]; omega), Bool.eq_iff_iff]
          simp only [decide_eq_true_eq, beq_iff_eq]
          constructor
          · intro h
            have h2 := congrArg (List.map fun b : ByteArray => b.data.toList) h
            simpa [List.map_map, Function.comp_def] using h2
          · rintro rfl; rfl
  · refine (Tryz.slices_Equal_string_lens A B n ca m cb w hnm).mono ?_
    rintro e w' ⟨rfl, rfl⟩
    refine ⟨ret_bool ?_, Ext.refl _⟩
    symm
    rw [beq_eq_false_iff_ne]
    intro h
    subst h
    omega

end Go.Proofs.YtehcldnicefmeaaGreatDoor
namespace Go.Proofs.YtehcldnicefmeaaGreatDoor
open Go.RowKit
set_option linter.unusedSimpArgs false
set_option linter.unusedVariables false

set_option maxHeartbeats 1000000 in
set_option maxRecDepth 100000 in
theorem tequal_any (t u : TagP) (A B : Option Addr) (n c m d : Nat) (w : World) (hA : Sl w A n (t.vars.map strv)) (hB : Sl w B m (u.vars.map strv)) (hn : n ≤ 60000) (hm : m ≤ 60000) :
    Calls Tryz.prog 191 #[tagV t A n c, tagV u B m d] w fun e w' => e = .returned (.bool (eqP t u)) ∧ Ext w w' := by
  obtain ⟨lb, hl1, hl2⟩ := strv_b t.lang
  obtain ⟨sb, hs1, hs2⟩ := strv_b t.script
  obtain ⟨rb, hr1, hr2⟩ := strv_b t.region
  obtain ⟨lc, hl3, hl4⟩ := strv_b u.lang
  obtain ⟨sc, hs3, hs4⟩ := strv_b u.script
  obtain ⟨rc, hr3, hr4⟩ := strv_b u.region
  have he : eqP t u = ((lb.toList == lc.toList) && (sb.toList == sc.toList) && (rb.toList == rc.toList) && (t.vars == u.vars)) := by
    unfold eqP
    rw [eq_b, eq_b, eq_b, hl2, hs2, hr2, hl4, hs4, hr4]
  unfold tagV
  rw [hl1, hs1, hr1, hl3, hs3, hr3, he]
  have HA := Lib.hid (hA.ext (((Ext.refl w).alloc (.cells #[.string lb, .string sb, .string rb, .slice A n c] 159)).alloc (.cells #[.string lc, .string sc, .string rc, .slice B m d] 159)))
  have HB := Lib.hid (hB.ext (((Ext.refl w).alloc (.cells #[.string lb, .string sb, .string rb, .slice A n c] 159)).alloc (.cells #[.string lc, .string sc, .string rc, .slice B m d] 159)))
  clear hl1 hs1 hr1 hl2 hs2 hr2 hl3 hs3 hr3 hl4 hs4 hr4 he hA hB
  have hcall := sleq_any _ _ _ _ _ _ c d _ HA.out HB.out (by omega) (by omega)
  generalize (t.vars == u.vars) = bv at hcall ⊢
  have HC := Lib.hid hcall
  clear hcall
  cases h1 : (lb.toList == lc.toList) <;> cases h2 : (sb.toList == sc.toList) <;> cases h3 : (rb.toList == rc.toList)
  all_goals
    go_enter Tryz.func191, Tryz.ntmps191
    go_wp2_with (go_at_call 132; with_reducible refine HC.out.mono ?_; rintro e w1 ⟨rfl, hw1⟩; have HW1 := Lib.hid hw1; clear hw1)
    go_ret
    first
      | exact ⟨rfl, ((Ext.refl w).alloc _).alloc _⟩
      | exact ⟨by simp, (((Ext.refl w).alloc _).alloc _).trans HW1.out⟩

end Go.Proofs.YtehcldnicefmeaaGreatDoor
namespace Go.Proofs.YtehcldnicefmeaaGreatDoor
open Go.RowKit
set_option linter.unusedSimpArgs false
set_option linter.unusedVariables false

/-! The distance of two tags, by the program. -/
set_option maxHeartbeats 1000000 in
set_option maxRecDepth 100000 in
theorem tdist_any (l : List Nr) (L : Option Addr) (ln lc : Nat) (t u : TagP) (A B : Option Addr) (n c m d : Nat) (w : World) (hL : Nrs w L ln l) (hln : ln ≤ maxLen) (hl : ∀ x ∈ l, 1 ≤ x.c ∧ x.c ≤ 99) (hA : Sl w A n (t.vars.map strv)) (hB : Sl w B m (u.vars.map strv)) (hn : n ≤ 60000) (hm : m ≤ 60000) :
    Calls Tryz.prog 100 #[.slice L ln lc, tagV t A n c, tagV u B m d] w fun e w' => e = .returned (.int .i64 (distP (l.map nearOf) t u)) ∧ Ext w w' := by
  obtain ⟨tl, ht1, ht2⟩ := strv_b t.lang
  obtain ⟨ts, hs1, hs2⟩ := strv_b t.script
  obtain ⟨tr, hr1, hr2⟩ := strv_b t.region
  obtain ⟨ul, ht3, ht4⟩ := strv_b u.lang
  obtain ⟨us, hs3, hs4⟩ := strv_b u.script
  obtain ⟨ur, hr3, hr4⟩ := strv_b u.region
  have hw0 : Ext w ((w.alloc (.cells #[.string tl, .string ts, .string tr, .slice A n c] 159)).alloc (.cells #[.string ul, .string us, .string ur, .slice B m d] 159)) := ((Ext.refl w).alloc _).alloc _
  have HB1 := (AtC.new w _ : AtC 159 _ _ #[.string tl, .string ts, .string tr, .slice A n c]).alloc (.cells #[.string ul, .string us, .string ur, .slice B m d] 159)
  have HB2 := (AtC.new (w.alloc (.cells #[.string tl, .string ts, .string tr, .slice A n c] 159)) _ : AtC 159 _ _ #[.string ul, .string us, .string ur, .slice B m d])
  rw [show (w.alloc (.cells #[.string tl, .string ts, .string tr, .slice A n c] 159)).heap.size = w.heap.size + 1 from by simp] at HB2
  have hd : distP (l.map nearOf) t u = subtagP (l.map nearOf) tl.data.toList ul.data.toList 100 + subtagP (l.map nearOf) ts.data.toList us.data.toList 50 + subtagP (l.map nearOf) tr.data.toList ur.data.toList 5 + (if (t.vars == u.vars) = true then 0 else 1) := by
    unfold distP
    rw [ht2, hs2, hr2, ht4, hs4, hr4]
    simp
  rw [hd]
  unfold tagV
  rw [ht1, hs1, hr1, ht3, hs3, hr3]
  have G1 := fun W (y : ExtW W) (hy : Ext w W) => betw_any l L ln lc tl ul 100 y.v (hL.ext (hy.trans y.h)) hln
  have G2 := fun W (y : ExtW W) (hy : Ext w W) => betw_any l L ln lc ts us 50 y.v (hL.ext (hy.trans y.h)) hln
  have G3 := fun W (y : ExtW W) (hy : Ext w W) => betw_any l L ln lc tr ur 5 y.v (hL.ext (hy.trans y.h)) hln
  have G4 := fun W (hy : Ext w W) => sleq_any _ _ _ _ _ _ c d W (hA.ext hy) (hB.ext hy) (by omega) (by omega)
  obtain ⟨k1, k2⟩ := dist_parts l hl tl.data.toList ul.data.toList 100 (by decide) (by decide)
  obtain ⟨k3, k4⟩ := dist_parts l hl ts.data.toList us.data.toList 50 (by decide) (by decide)
  obtain ⟨k5, k6⟩ := dist_parts l hl tr.data.toList ur.data.toList 5 (by decide) (by decide)
  generalize subtagP (l.map nearOf) tl.data.toList ul.data.toList 100 = d1 at *
  generalize subtagP (l.map nearOf) ts.data.toList us.data.toList 50 = d2 at *
  generalize subtagP (l.map nearOf) tr.data.toList ur.data.toList 5 = d3 at *
  generalize (t.vars == u.vars) = bv at *
  have q0 : IntKind.i64.wrap (d1 + d2) = d1 + d2 := IntWalk.i64_in _ (by omega)
  have q1 : IntKind.i64.wrap (d1 + d2 + d3) = d1 + d2 + d3 := IntWalk.i64_in _ (by omega)
  have q2 : IntKind.i64.wrap (d1 + d2 + d3 + 1) = d1 + d2 + d3 + 1 := IntWalk.i64_in _ (by omega)
  have b0 : ∀ y : ExtW _, y.v.cell? ⟨w.heap.size, 0, none⟩ = some (.string tl) := fun y => (HB1.ext y.h).cell 0 _ rfl
  have b1 : ∀ y : ExtW _, y.v.cell? ⟨w.heap.size, 1, none⟩ = some (.string ts) := fun y => (HB1.ext y.h).cell 1 _ rfl
  have b2 : ∀ y : ExtW _, y.v.cell? ⟨w.heap.size, 2, none⟩ = some (.string tr) := fun y => (HB1.ext y.h).cell 2 _ rfl
  have c0 : ∀ y : ExtW _, y.v.cell? ⟨w.heap.size + 1, 0, none⟩ = some (.string ul) := fun y => (HB2.ext y.h).cell 0 _ rfl
  have c1 : ∀ y : ExtW _, y.v.cell? ⟨w.heap.size + 1, 1, none⟩ = some (.string us) := fun y => (HB2.ext y.h).cell 1 _ rfl
  have c2 : ∀ y : ExtW _, y.v.cell? ⟨w.heap.size + 1, 2, none⟩ = some (.string ur) := fun y => (HB2.ext y.h).cell 2 _ rfl
  have K1 := Lib.hid (fun y => G1 _ y hw0)
  have K2 := Lib.hid (fun y => G2 _ y hw0)
  have K3 := Lib.hid (fun y => G3 _ y hw0)
  have K4 := Lib.hid G4
  have B1 := Lib.hid HB1
  have B2 := Lib.hid HB2
  have H0 := Lib.hid hw0
  clear G1 G2 G3 G4 HB1 HB2 hw0 ht1 hs1 hr1 ht2 hs2 hr2 ht3 hs3 hr3 ht4 hs4 hr4 hd hL hA hB hl hln hn hm k1 k2 k3 k4 k5 k6
  cases bv with
  | true =>
    go_enter Tryz.func100, Tryz.ntmps100
    go_wp2_with fail
    refine wp_region_ext (by kernel_rfl) (by kernel_rfl) ?_
    repeat (go_big_quiet_step ((go_at_call 131; with_reducible first | exact ExtW.call (K1.out _) | exact ExtW.call (K2.out _) | exact ExtW.call (K3.out _))))
    refine wpQuiet_nil ?_
    intro wx hx
    have hxx := ext_of hx
    clear hx b0 b1 b2 c0 c1 c2
    have r1 := (B1.out.ext hxx).cell 3 _ rfl
    have r2 := (B2.out.ext hxx).cell 3 _ rfl
    have HX := Lib.hid (H0.out.trans hxx)
    clear hxx
    go_wp2_with fail
    refine (K4.out _ HX.out).mono ?_
    rintro e w1 ⟨rfl, hw1⟩
    go_wp2
    go_ret
    exact ⟨by simp, HX.out.trans hw1⟩
  | false =>
    go_enter Tryz.func100, Tryz.ntmps100
    go_wp2_with fail
    refine wp_region_ext (by kernel_rfl) (by kernel_rfl) ?_
    repeat (go_big_quiet_step ((go_at_call 131; with_reducible first | exact ExtW.call (K1.out _) | exact ExtW.call (K2.out _) | exact ExtW.call (K3.out _))))
    refine wpQuiet_nil ?_
    intro wx hx
    have hxx := ext_of hx
    clear hx b0 b1 b2 c0 c1 c2
    have r1 := (B1.out.ext hxx).cell 3 _ rfl
    have r2 := (B2.out.ext hxx).cell 3 _ rfl
    have HX := Lib.hid (H0.out.trans hxx)
    clear hxx
    go_wp2_with fail
    refine (K4.out _ HX.out).mono ?_
    rintro e w1 ⟨rfl, hw1⟩
    go_wp2
    go_ret
    exact ⟨by simp, HX.out.trans hw1⟩
end Go.Proofs.YtehcldnicefmeaaGreatDoor
namespace Go.Proofs.YtehcldnicefmeaaGreatDoor
open Go.RowKit
set_option linter.unusedSimpArgs false
set_option linter.unusedVariables false

/-- Tags that were read. -/
def GoodT (t : TagP) : Prop := TL t ∧ txtOf t = textP t ∧ validP t = true
theorem good_parse {s : List UInt8} (h : (parseP EC s).2 = 0) : GoodT (parseP EC s).1 := by
  have hv := parse_ok h
  refine ⟨TL_of hv, ?_, hv⟩
  unfold txtOf
  rw [if_pos hv]
theorem read_good {l : List (List UInt8)} {t : TagP} (h : t ∈ (readP EC l).1) : GoodT t := by
  by_cases h0 : (readP EC l).2 = 0
  · rw [read_eq h0] at h
    obtain ⟨s, hs, rfl⟩ := List.mem_map.1 h
    exact good_parse (read_ok.1 h0 s hs)
  · rw [read_bad h0] at h
    cases h
theorem good_eq {t u : TagP} (ht : GoodT t) (hu : GoodT u) : (textP u == textP t) = eqP t u := by
  rw [Bool.eq_iff_iff, eqP_iff, beq_iff_eq]
  exact ⟨fun h => (text_inj u t hu.2.2 ht.2.2 h).symm, fun h => by rw [h]⟩
/-- What reading both lists hands back. -/
def RetBoth (w : World) (l : List NearP) (R S : List (List UInt8)) (e : Ending) (w' : World) : Prop :=
  ∃ A n c xs B m d ys, e = .returned (.tuple #[.slice A n c, .slice B m d, .int .i64 (bothL EC l R S).2]) ∧ Tgs w' A n xs ∧ Tgs w' B m ys ∧ xs.map (·.t) = (bothL EC l R S).1.1 ∧ ys.map (·.t) = (bothL EC l R S).1.2 ∧ Ext w w'
theorem both_none {w w' : World} {l : List NearP} {R S : List (List UInt8)} {code : Int} (h : bothL EC l R S = (([], []), code)) (hw : Ext w w') : RetBoth w l R S (.returned (.tuple #[.slice none 0 0, .slice none 0 0, .int .i64 code])) w' :=
  ⟨none, 0, 0, [], none, 0, 0, [], by rw [h], Tgs.nil _ _, Tgs.nil _ _, by rw [h]; rfl, by rw [h]; rfl, hw⟩
def ApInv (w : World) (T : List TagP) (m : Nat) (i : Value) (wr : World) : Prop := ∃ k : Nat, k ≤ m ∧ i = .int .i64 k ∧ apartT (T.take k) = true ∧ Ext w wr
def ApIn (w : World) (T : List TagP) (x : TagP) (k : Nat) (i : Value) (wr : World) : Prop := ∃ j : Nat, j ≤ k ∧ i = .int .i64 j ∧ newT (T.take j) x = true ∧ Ext w wr

/-! A tag in memory, by the names of its strings. -/
def TV.l (x : TV) : ByteArray := ⟨x.t.lang.toArray⟩
def TV.s (x : TV) : ByteArray := ⟨x.t.script.toArray⟩
def TV.r (x : TV) : ByteArray := ⟨x.t.region.toArray⟩
theorem Tgs.c0 {w : World} {b o n : Nat} {xs : List TV} (h : Tgs w (some ⟨b, o, none⟩) n xs) {k : Nat} {x : TV} (hx : xs[k]? = some x) (W : World) (hw : Ext w W) : W.cell? ⟨b, o + k * 4, none⟩ = some (.string x.l) := (h.cells hx W hw).1
theorem Tgs.c1 {w : World} {b o n : Nat} {xs : List TV} (h : Tgs w (some ⟨b, o, none⟩) n xs) {k : Nat} {x : TV} (hx : xs[k]? = some x) (W : World) (hw : Ext w W) : W.cell? ⟨b, o + k * 4 + 1, none⟩ = some (.string x.s) := (h.cells hx W hw).2.1
theorem Tgs.c2 {w : World} {b o n : Nat} {xs : List TV} (h : Tgs w (some ⟨b, o, none⟩) n xs) {k : Nat} {x : TV} (hx : xs[k]? = some x) (W : World) (hw : Ext w W) : W.cell? ⟨b, o + k * 4 + 2, none⟩ = some (.string x.r) := (h.cells hx W hw).2.2.1
theorem Tgs.c3 {w : World} {b o n : Nat} {xs : List TV} (h : Tgs w (some ⟨b, o, none⟩) n xs) {k : Nat} {x : TV} (hx : xs[k]? = some x) (W : World) (hw : Ext w W) : W.cell? ⟨b, o + k * 4 + 3, none⟩ = some (.slice x.A x.n x.c) := (h.cells hx W hw).2.2.2
def GoodV (w : World) (x : TV) : Prop := GoodT x.t ∧ TvOk w x
theorem GoodV.ext {w w' : World} {x : TV} (h : GoodV w x) (hw : Ext w w') : GoodV w' x := ⟨h.1, h.2.ext hw⟩
theorem GoodV.n {w : World} {x : TV} (h : GoodV w x) : x.n ≤ 60000 := n_le h.2 h.1.1
theorem both_good {l : List NearP} {R S : List (List UInt8)} {t : TagP} (h : (bothL EC l R S).2 = 0) (ht : t ∈ (bothL EC l R S).1.1 ∨ t ∈ (bothL EC l R S).1.2) : GoodT t := by
  obtain ⟨_, _, _, _, h5⟩ := both_ok h
  rw [h5] at ht
  rcases ht with ht | ht <;> exact read_good ht
theorem costs_of {l : List Nr} (h : validN (l.map nearOf) = true) : ∀ z ∈ l, 1 ≤ z.c ∧ z.c ≤ 99 := fun z hz => valid_costs h (nearOf z) (List.mem_map.2 ⟨z, hz, rfl⟩)
/-- Where the search for the best one stands. -/
def BsInv (w : World) (l : List NearP) (T S : List TagP) (n : Nat) (i : Value) (wr : World) : Prop := ∃ k : Nat, k ≤ n ∧ i = .int .i64 k ∧ bestL l (T.take k) S = none ∧ Ext w wr
def BsIn (w : World) (l : List NearP) (t : TagP) (S : List TagP) (m : Nat) (best i : Value) (wr : World) : Prop := ∃ (k : Nat) (o : Option Nat), k ≤ m ∧ i = .int .i64 k ∧ best = .int .i64 (bestI o) ∧ BestK l t S k o ∧ Ext w wr
theorem at_tv {ys : List TV} {k : Nat} {x : TV} (h : ys[k]? = some x) : atP (ys.map (·.t)) k = x.t := at_get (by rw [List.getElem?_map, h]; rfl)
theorem map_tv {ys : List TV} {k : Nat} {x : TV} (h : ys[k]? = some x) : (ys.map (·.t))[k]? = some x.t := by rw [List.getElem?_map, h]; rfl
end Go.Proofs.YtehcldnicefmeaaGreatDoor
namespace Go.Proofs.YtehcldnicefmeaaGreatDoor
open Go.RowKit
set_option linter.unusedSimpArgs false
set_option linter.unusedVariables false

/-! The program's order of two supported tags. -/
section
variable (l : List Nr) (L : Option Addr) (ln lc : Nat) (w : World) (hL : Nrs w L ln l) (hln : ln ≤ maxLen) (hl : ∀ x ∈ l, 1 ≤ x.c ∧ x.c ≤ 99)
include hL hln hl
theorem tdist_tv (x y : TV) (hx : GoodV w x) (hy : GoodV w y) :
    Calls Tryz.prog 100 #[.slice L ln lc, .agg #[.string x.l, .string x.s, .string x.r, .slice x.A x.n x.c], .agg #[.string y.l, .string y.s, .string y.r, .slice y.A y.n y.c]] w fun e w' => e = .returned (.int .i64 (distP (l.map nearOf) x.t y.t)) ∧ Ext w w' :=
  tdist_any l L ln lc x.t y.t x.A y.A x.n x.c y.n y.c w hL hln hl hx.2 hy.2 hx.n hy.n
end
def TV.x (x : TV) : ByteArray := ⟨(textP x.t).toArray⟩
theorem TV.x_data (x : TV) : x.x.data.toList = textP x.t := by unfold TV.x; simp
theorem ttext_tv (x : TV) (w : World) (hx : GoodV w x) :
    Calls Tryz.prog 125 #[.agg #[.string x.l, .string x.s, .string x.r, .slice x.A x.n x.c]] w fun e w' => e = .returned (.string x.x) ∧ Ext w w' := by
  have h := tText_any x.t x.A x.n x.c w hx.2 hx.1.1
  rw [hx.1.2.1] at h
  exact h

set_option maxHeartbeats 4000000 in
set_option maxRecDepth 100000 in
theorem clo_any (l : List Nr) (L : Option Addr) (ln lc : Nat) (x : TV) (ys : List TV) (B : Option Addr) (m d g1 g2 g3 : Nat) (w : World) (hL : Nrs w L ln l) (hln : ln ≤ maxLen) (hl : ∀ x ∈ l, 1 ≤ x.c ∧ x.c ≤ 99)
    (hx : GoodV w x) (hY : Tgs w B m ys) (hg : ∀ y ∈ ys, GoodV w y) (T1 T2 T3 : TypeId) (h1 : AtC T1 w g1 #[.slice L ln lc]) (h2 : AtC T2 w g2 #[.string x.l, .string x.s, .string x.r, .slice x.A x.n x.c]) (h3 : AtC T3 w g3 #[.slice B m d])
    (i j : Nat) (hi : i < m) (hj : j < m) :
    Calls Tryz.prog 129 #[.int .i64 i, .int .i64 j, .pointer (some ⟨g1, 0, none⟩), .pointer (some ⟨g2, 0, none⟩), .pointer (some ⟨g3, 0, none⟩)] w fun e w' => e = .returned (.int .i64 (cfP (l.map nearOf) x.t (ys.map (·.t)) i j)) ∧ Ext w w' := by
  have hyl := hY.len
  obtain ⟨y, hy⟩ : ∃ y, ys[i]? = some y := ⟨_, List.getElem?_eq_getElem (by omega)⟩
  obtain ⟨z, hz⟩ : ∃ z, ys[j]? = some z := ⟨_, List.getElem?_eq_getElem (by omega)⟩
  obtain ⟨b, o, rfl⟩ := hY.some_ hy
  have gy := hg y (List.mem_of_getElem? hy)
  have gz := hg z (List.mem_of_getElem? hz)
  have hcf : cfP (l.map nearOf) x.t (ys.map (·.t)) i j = if cmpI (distP (l.map nearOf) x.t y.t) (distP (l.map nearOf) x.t z.t) = 0 then cmpS y.x.data.toList z.x.data.toList else cmpI (distP (l.map nearOf) x.t y.t) (distP (l.map nearOf) x.t z.t) := by
    unfold cfP
    rw [at_tv hy, at_tv hz, TV.x_data, TV.x_data]
  rw [hcf]
  have K1 := Lib.hid (fun (v : ExtW w) => tdist_tv l L ln lc v.v (hL.ext v.h) hln hl x y (hx.ext v.h) (gy.ext v.h))
  have K2 := Lib.hid (fun (v : ExtW w) => tdist_tv l L ln lc v.v (hL.ext v.h) hln hl x z (hx.ext v.h) (gz.ext v.h))
  have K3 := Lib.hid (fun (v : ExtW w) => ttext_tv y v.v (gy.ext v.h))
  have K4 := Lib.hid (fun (v : ExtW w) => ttext_tv z v.v (gz.ext v.h))
  have a0 := fun (v : ExtW w) => (h1.ext v.h).cell 0 _ rfl
  have b0 := fun (v : ExtW w) => (h2.ext v.h).cell 0 _ rfl
  have b1 := fun (v : ExtW w) => (h2.ext v.h).cell 1 _ rfl
  have b2 := fun (v : ExtW w) => (h2.ext v.h).cell 2 _ rfl
  have b3 := fun (v : ExtW w) => (h2.ext v.h).cell 3 _ rfl
  have c0 := fun (v : ExtW w) => (h3.ext v.h).cell 0 _ rfl
  have d0 := fun (v : ExtW w) => hY.c0 hy v.v v.h
  have d1 := fun (v : ExtW w) => hY.c1 hy v.v v.h
  have d2 := fun (v : ExtW w) => hY.c2 hy v.v v.h
  have d3 := fun (v : ExtW w) => hY.c3 hy v.v v.h
  have e0 := fun (v : ExtW w) => hY.c0 hz v.v v.h
  have e1 := fun (v : ExtW w) => hY.c1 hz v.v v.h
  have e2 := fun (v : ExtW w) => hY.c2 hz v.v v.h
  have e3 := fun (v : ExtW w) => hY.c3 hz v.v v.h
  have hiI : (i : Int) < (m : Int) := by omega
  have hjI : (j : Int) < (m : Int) := by omega
  clear hL hln hl hx hY hg h1 h2 h3 hy hz gy gz hcf
  generalize distP (l.map nearOf) x.t y.t = D1 at *
  generalize distP (l.map nearOf) x.t z.t = D2 at *
  have K5 := Lib.hid (fun (v : ExtW w) => cmpI_any D1 D2 v.v)
  have K6 := Lib.hid (fun (v : ExtW w) => cmpS_any y.x z.x v.v)
  generalize cmpI D1 D2 = r1 at *
  generalize cmpS y.x.data.toList z.x.data.toList = r2 at *
  have KR := fun (g c : Nat) (W : World) => or2_any r1 r2 g c W
  generalize (if r1 = 0 then r2 else r1) = R at *
  go_enter Tryz.func129, Tryz.ntmps129
  go_wp2_with fail
  refine wp_ext_tail 26 (by kernel_rfl) (by kernel_rfl) ?_
  simp only [List.take_succ_cons, List.take_zero, List.drop_succ_cons, List.drop_zero]
  repeat (go_big_quiet_step (first
    | (go_at_call 100; with_reducible first | exact ExtW.call (K1.out _) | exact ExtW.call (K2.out _))
    | (go_at_call 125; with_reducible first | exact ExtW.call (K3.out _) | exact ExtW.call (K4.out _))
    | (go_at_call 130; with_reducible exact ExtW.same (K5.out _))
    | (go_at_call 45; with_reducible exact ExtW.same (K6.out _))))
  refine wpQuiet_nil ?_
  intro wx hx
  have HX := Lib.hid (ext_of hx)
  clear hx a0 b0 b1 b2 b3 c0 d0 d1 d2 d3 e0 e1 e2 e3
  have c0 := (AtC.new wx #[.int .i64 r1, .int .i64 r2] : AtC 3 _ _ _).cell 0 _ rfl
  have c1 := (AtC.new wx #[.int .i64 r1, .int .i64 r2] : AtC 3 _ _ _).cell 1 _ rfl
  have KO := Lib.hid (KR wx.heap.size 2 _ c0 c1)
  go_wp2_with (go_at_call 51; refine KO.out.mono ?_; rintro e w2 ⟨rfl, rfl⟩)
  go_ret
  exact ⟨rfl, HX.out.alloc _⟩
end Go.Proofs.YtehcldnicefmeaaGreatDoor
namespace Go.Proofs.YtehcldnicefmeaaGreatDoor
open Go.RowKit
set_option linter.unusedSimpArgs false
set_option linter.unusedVariables false

/-! Aliases: their rules. -/
theorem isP_parse {s : List UInt8} (h : isP s = true) : (parseP EC s).2 = 0 ∧ validP (parseP EC s).1 = true ∧ textP (parseP EC s).1 = s := by
  unfold isP canP at h
  simp only [Bool.and_eq_true, beq_iff_eq] at h
  obtain ⟨h1, h2⟩ := h
  rw [if_pos h1] at h2
  exact ⟨h1, parse_ok h1, h2⟩
theorem isP_text {t : TagP} (h : validP t = true) : isP (textP t) = true := by
  unfold isP canP
  rw [parse_text EC t h]
  simp
def ruleOf (a : ByteArray × ByteArray) : RuleP := ⟨(parseP EC a.1.data.toList).1, (parseP EC a.2.data.toList).1⟩
def aliB (a : ByteArray × ByteArray) : Bool := isP a.1.data.toList && isP a.2.data.toList && !(a.1.data.toList == undP)
theorem ali_ok {a : ByteArray × ByteArray} (h : aliB a = true) : okR (ruleOf a) := by
  unfold aliB at h
  simp only [Bool.and_eq_true] at h
  exact ⟨(isP_parse h.1.1).2.1, (isP_parse h.1.2).2.1⟩
theorem TL_parse (s : List UInt8) : TL (parseP EC s).1 := by
  by_cases h0 : (parseP EC s).2 = 0
  · exact TL_of (parse_ok h0)
  · rw [parse_zero EC s h0]
    exact TL_zero

/-- A rule as it lies in memory. -/
structure RV where
  r : RuleP
  A : Option Addr
  n : Nat
  c : Nat
  B : Option Addr
  m : Nat
  d : Nat
def rvC (x : RV) : List Value := [strv x.r.f.lang, strv x.r.f.script, strv x.r.f.region, .slice x.A x.n x.c, strv x.r.o.lang, strv x.r.o.script, strv x.r.o.region, .slice x.B x.m x.d]
def RvOk (w : World) (x : RV) : Prop := Sl w x.A x.n (x.r.f.vars.map strv) ∧ Sl w x.B x.m (x.r.o.vars.map strv)
theorem RvOk.ext {w w' : World} {x : RV} (h : RvOk w x) (hw : Ext w w') : RvOk w' x := ⟨h.1.ext hw, h.2.ext hw⟩
def Rules (w : World) (A : Option Addr) (n : Nat) (xs : List RV) : Prop := SlN w A n 8 (xs.flatMap rvC) ∧ ∀ x ∈ xs, RvOk w x
theorem Rules.ext {w w' : World} {A : Option Addr} {n : Nat} {xs : List RV} (h : Rules w A n xs) (hw : Ext w w') : Rules w' A n xs := ⟨h.1.ext hw, fun x hx => (h.2 x hx).ext hw⟩
theorem Rules.len {w : World} {A : Option Addr} {n : Nat} {xs : List RV} (h : Rules w A n xs) : xs.length = n := by
  have h1 := h.1.1
  rw [flat_len rvC 8 (fun _ => rfl)] at h1
  omega
theorem Rules.at_ {w : World} {A : Option Addr} {n : Nat} {xs : List RV} (h : Rules w A n xs) {k : Nat} {x : RV} (hx : xs[k]? = some x) :
    ∃ b o, A = some ⟨b, o, none⟩ ∧ b < w.heap.size ∧ ∀ j u, (rvC x)[j]? = some u → w.cell? ⟨b, o + (k * 8 + j), none⟩ = some u := by
  have g0 := flat_get rvC 8 (fun _ => rfl) xs k 0 x hx (by omega)
  obtain ⟨b, o, rfl, hb, h0⟩ := h.1.2 _ _ g0
  refine ⟨b, o, rfl, hb, fun j u hu => ?_⟩
  have hj : j < 8 := (List.getElem?_eq_some_iff.1 hu).1
  have g1 := flat_get rvC 8 (fun _ => rfl) xs k j x hx hj
  rw [hu] at g1
  obtain ⟨b', o', e, _, h1⟩ := h.1.2 _ _ g1
  injection e with e
  injection e with e1 e2 _
  subst e1; subst e2
  exact h1
end Go.Proofs.YtehcldnicefmeaaGreatDoor
namespace Go.Proofs.YtehcldnicefmeaaGreatDoor
set_option linter.unusedSimpArgs false
set_option linter.unusedVariables false

/-! What the functions on aliases answer. -/
abbrev Ali := ByteArray × ByteArray
def stepsL (l : List Ali) (s : List UInt8) : List (List UInt8) × Int :=
  if l.all aliB = true then (if (parseP EC s).2 = 0 then ((stepsP 6 15 (l.map ruleOf) 20 (parseP EC s).1).1.map textP, (stepsP 6 15 (l.map ruleOf) 20 (parseP EC s).1).2) else ([], (parseP EC s).2)) else ([], 1)
def canL (l : List Ali) (s : List UInt8) : List UInt8 × Int := (if (stepsL l s).2 = 0 then (stepsL l s).1.getLastD [] else [], (stepsL l s).2)
def replL (a : Ali) (s : List UInt8) : List UInt8 × Int :=
  if aliB a = true then (if (parseP EC s).2 = 0 then (if fitsP (ruleOf a) (parseP EC s).1 = true then (if 4 < (replP (ruleOf a) (parseP EC s).1).vars.length then ([], 6) else (textP (replP (ruleOf a) (parseP EC s).1), 0)) else ([], 8)) else ([], (parseP EC s).2)) else ([], 1)
/-- No two aliases come from one text. -/
def apartL (l : List Ali) : Bool := decide (l.map fun a => a.1.data.toList).Nodup
def validL (l : List Ali) : Bool := l.all aliB && apartL l && l.all (fun a => (stepP (l.map ruleOf) (ruleOf a).o).isNone)

theorem rules_ok {l : List Ali} (h : l.all aliB = true) : ∀ r ∈ l.map ruleOf, okR r := by
  intro r hr
  obtain ⟨a, ha, rfl⟩ := List.mem_map.1 hr
  exact ali_ok (List.all_eq_true.1 h a ha)
theorem steps_shape {l : List Ali} {s : List UInt8} (h : (stepsL l s).2 = 0) : ∃ xs e, stepsP 6 15 (l.map ruleOf) 20 (parseP EC s).1 = (xs ++ [e], 0) ∧ (stepsL l s).1 = (xs ++ [e]).map textP ∧ xs.length ≤ 20 ∧ validP e = true ∧ stepP (l.map ruleOf) e = none ∧
    l.all aliB = true ∧ (parseP EC s).2 = 0 := by
  unfold stepsL at h ⊢
  by_cases ha : l.all aliB = true
  · rw [if_pos ha] at h ⊢
    by_cases hp : (parseP EC s).2 = 0
    · rw [if_pos hp] at h ⊢
      simp only at h ⊢
      obtain ⟨xs, e, h1, h2, h3, h4, _, _⟩ := steps_end (by decide) (by decide) (rules_ok ha) 20 _ (parse_ok hp) h
      exact ⟨xs, e, Prod.ext h1 h, by rw [h1], h2, h3, h4, ha, hp⟩
    · rw [if_neg hp] at h; exact absurd h hp
  · rw [if_neg ha] at h; exact absurd h (by decide)
theorem steps_bad {l : List Ali} {s : List UInt8} (h : (stepsL l s).2 ≠ 0) : (stepsL l s).1 = [] := by
  unfold stepsL at h ⊢
  by_cases ha : l.all aliB = true
  · rw [if_pos ha] at h ⊢
    by_cases hp : (parseP EC s).2 = 0
    · rw [if_pos hp] at h ⊢
      simp only at h ⊢
      rw [steps_err (by decide) (by decide) _ _ _ h]
      rfl
    · rw [if_neg hp]
  · rw [if_neg ha]
theorem last_map (xs : List TagP) (e : TagP) : ((xs ++ [e]).map textP).getLastD [] = textP e := by simp
theorem can_shape {l : List Ali} {s : List UInt8} (h : (canL l s).2 = 0) : ∃ e, (canL l s).1 = textP e ∧ validP e = true ∧ stepP (l.map ruleOf) e = none ∧ l.all aliB = true := by
  have h' : (stepsL l s).2 = 0 := h
  obtain ⟨xs, e, _, h2, _, h3, h4, h5, _⟩ := steps_shape h'
  refine ⟨e, ?_, h3, h4, h5⟩
  unfold canL
  rw [if_pos h', h2, last_map]
theorem can_bad {l : List Ali} {s : List UInt8} (h : (canL l s).2 ≠ 0) : (canL l s).1 = [] := by
  have h' : (stepsL l s).2 ≠ 0 := h
  unfold canL
  rw [if_neg h']
/-- Without aliases. -/
theorem canL_nil (s : List UInt8) : canL [] s = canP s := by
  unfold canL canP stepsL
  simp only [List.all_nil, if_true, List.map_nil]
  by_cases hp : (parseP EC s).2 = 0
  · rw [if_pos hp, if_pos hp, steps_none (by rfl)]
    simp [hp]
  · rw [if_neg hp, if_neg hp]
    simp [hp]
/-- The result is its own. -/
theorem canL_text {l : List Ali} {e : TagP} (hv : validP e = true) (hs : stepP (l.map ruleOf) e = none) (ha : l.all aliB = true) : canL l (textP e) = (textP e, 0) := by
  unfold canL stepsL
  rw [if_pos ha, parse_text EC e hv]
  simp only [if_true]
  rw [steps_none hs]
  simp
theorem replL_text {l : List Ali} {e : TagP} (hv : validP e = true) (hs : stepP (l.map ruleOf) e = none) (ha : l.all aliB = true) {a : Ali} (hm : a ∈ l) : (replL a (textP e)).2 = 8 ∨ replL a (textP e) = (textP e, 0) := by
  unfold replL
  rw [if_pos (List.all_eq_true.1 ha a hm), parse_text EC e hv]
  simp only [if_true]
  by_cases hf : fitsP (ruleOf a) e = true
  · right
    rw [if_pos hf, stepP_none hs _ (List.mem_map.2 ⟨a, hm, rfl⟩) hf, if_neg (by have := (valid_parts hv).2.2.2.2.2.2; omega)]
  · left
    rw [if_neg hf]
theorem stepsL_spell (l : List Ali) (s : List UInt8) (b : Nat) : stepsL l (spellL s b) = stepsL l s := by unfold stepsL; rw [parse_spell]
theorem canL_spell (l : List Ali) (s : List UInt8) (b : Nat) : canL l (spellL s b) = canL l s := by unfold canL; rw [stepsL_spell]
/-- A further alias at the end. -/
theorem steps_more {l : List Ali} {a : Ali} {s : List UInt8} (ha : aliB a = true) (h : (stepsL l s).2 = 0) :
    (((replL a ((stepsL l s).1.getLastD [])).2 = 8 ∨ replL a ((stepsL l s).1.getLastD []) = ((stepsL l s).1.getLastD [], 0)) → stepsL (l ++ [a]) s = stepsL l s) ∧
      (¬ ((replL a ((stepsL l s).1.getLastD [])).2 = 8 ∨ replL a ((stepsL l s).1.getLastD []) = ((stepsL l s).1.getLastD [], 0)) → (stepsL (l ++ [a]) s).2 = 0 →
        (stepsL l s).1.length < (stepsL (l ++ [a]) s).1.length ∧ (stepsL (l ++ [a]) s).1.take (stepsL l s).1.length = (stepsL l s).1) := by
  obtain ⟨xs, e, h0, h2, _, hv, hs, hl, hp⟩ := steps_shape h
  have hall : (l ++ [a]).all aliB = true := by rw [List.all_append, hl]; simp [ha]
  have hstep : stepsL (l ++ [a]) s = ((stepsP 6 15 (l.map ruleOf ++ [ruleOf a]) 20 (parseP EC s).1).1.map textP, (stepsP 6 15 (l.map ruleOf ++ [ruleOf a]) 20 (parseP EC s).1).2) := by
    unfold stepsL
    rw [if_pos hall, if_pos hp, List.map_append]
    rfl
  obtain ⟨g1, g2⟩ := steps_app (lim := 6) (cyc := 15) (by decide) (by decide) (l := l.map ruleOf) (m := [ruleOf a]) 20 (parseP EC s).1 e xs h0
  have hr : replL a (textP e) = if fitsP (ruleOf a) e = true then (if 4 < (replP (ruleOf a) e).vars.length then ([], 6) else (textP (replP (ruleOf a) e), 0)) else ([], 8) := by
    unfold replL
    rw [if_pos ha, parse_text EC e hv]
    simp only [if_true]
  rw [h2, last_map, hr, hstep]
  have hso : stepP [ruleOf a] e = if fitsP (ruleOf a) e && !eqT (replP (ruleOf a) e) e then some (replP (ruleOf a) e) else none := rfl
  have hsl : stepsL l s = ((xs ++ [e]).map textP, 0) := Prod.ext h2 h
  rw [hsl]
  have hv4 := (valid_parts hv).2.2.2.2.2.2
  constructor
  · intro hc
    have hn : stepP [ruleOf a] e = none := by
      rw [hso]
      by_cases hf : fitsP (ruleOf a) e = true
      · rw [if_pos hf] at hc
        by_cases h4 : 4 < (replP (ruleOf a) e).vars.length
        · rw [if_pos h4] at hc
          rcases hc with hc | hc
          · exact absurd hc (by decide)
          · injection hc with _ hc; exact absurd hc (by decide)
        · rw [if_neg h4] at hc
          rcases hc with hc | hc
          · exact absurd (show (0 : Int) = 8 from hc) (by decide)
          · injection hc with hc _
            have hv2 := repl_valid (ali_ok ha) hv (by omega)
            have := text_inj _ _ hv2 hv hc
            rw [(eqT_iff _ _).2 this]
            simp
      · simp [hf]
    rw [g1 hn]
  · intro hc h0'
    have hn : stepP [ruleOf a] e ≠ none := by
      rw [hso]
      intro hn
      apply hc
      by_cases hf : fitsP (ruleOf a) e = true
      · rw [if_pos hf]
        right
        have he : eqT (replP (ruleOf a) e) e = true := by
          cases hq : eqT (replP (ruleOf a) e) e with
          | true => rfl
          | false => rw [hf, hq] at hn; simp at hn
        rw [(eqT_iff _ _).1 he, if_neg (by omega)]
      · left
        rw [if_neg hf]
    obtain ⟨y, ys, hy⟩ := g2 hn h0'
    rw [hy]
    refine ⟨by simp, ?_⟩
    have e1 : xs ++ e :: y :: ys = (xs ++ [e]) ++ y :: ys := by simp
    simp only [e1, List.map_append (l₁ := xs ++ [e]), List.length_map]
    exact List.take_left' (by simp)
end Go.Proofs.YtehcldnicefmeaaGreatDoor
