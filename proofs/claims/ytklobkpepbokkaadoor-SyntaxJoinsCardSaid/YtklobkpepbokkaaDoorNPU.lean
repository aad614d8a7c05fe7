import Derived.Test.YtklobkpepbokkaaDoorNPK
import Derived.Test.YtklobkpepbokkaaDoorIe
import Derived.Test.YtklobkpepbokkaaDoorNPT
import Derived.Test.YtklobkpepbokkaaDoorId
import Derived.Test.YtklobkpepbokkaaDoorLift
import Derived.Test.YtklobkpepbokkaaDoorShelf
import Derived.Test.YtklobkpepbokkaaDoorRows
import Derived.Test.YtklobkpepbokkaaDoorCards
import Derived.Test.YtklobkpepbokkaaDoorTie
import Derived.Shelf.Vars
namespace Go.Proofs.YtklobkpepbokkaaDoor.lawSyntaxJoins
open Go.ChangeShapes Go.WideShapes Go.ChangeAt Go.RowKit
set_option linter.unusedSimpArgs false
set_option linter.unusedVariables false

theorem app_list (s t : ByteArray) : (s ++ t).data.toList = s.data.toList ++ t.data.toList := by simp
/-- A parse, whatever it comes to. -/
def RetU (w : World) (v : Value) (er : Int) (e : Ending) (w' : World) : Prop := Ext w w' ∧ ∃ A n cc, e = .returned (.tuple #[.slice A n cc, v, .int .i64 er])
theorem retZ_any {w w' : World} {s : By} {Y : Except (Int × Option Nat) F} {e : Ending} (h : RetZ w s Y e w') : RetU w (posE s Y) (errE Y) e w' := by
  obtain ⟨h1, A, n, cc, he, _⟩ := h
  exact ⟨h1, A, n, cc, he⟩
set_option maxHeartbeats 4000000 in
set_option maxRecDepth 100000 in
theorem law (s t : ByteArray) (w : World) (hm : Mx w) (hs : s.size ≤ maxLen) (ht : t.size ≤ maxLen) : Calls Tryd.prog 3 #[.string s, .string t] w (RetTrue w) := by
  unfold maxLen at hs ht
  have HM := Lib.hid hm
  by_cases h1 : 2000 < s.size
  · clear hm
    go_enter Tryd.func3, Tryd.ntmps3
    go_wp2_with fail
    refine (awake_any _ HM.out).mono ?_
    rintro e w1 ⟨rfl, hw1⟩
    have HW1 := Lib.hid hw1
    clear hw1
    go_wp2
    go_ret
    exact ⟨rfl, HW1.out⟩
  by_cases h2 : 2000 < t.size
  · clear hm
    go_enter Tryd.func3, Tryd.ntmps3
    go_wp2_with fail
    refine (awake_any _ HM.out).mono ?_
    rintro e w1 ⟨rfl, hw1⟩
    have HW1 := Lib.hid hw1
    clear hw1
    go_wp2
    go_ret
    exact ⟨rfl, HW1.out⟩
  have hs2 : s.size ≤ 2000 := by omega
  have ht2 : t.size ≤ 2000 := by omega
  obtain ⟨S, hS⟩ : ∃ S, S = s.data.toList := ⟨_, rfl⟩
  obtain ⟨T, hT⟩ : ∃ T, T = t.data.toList := ⟨_, rfl⟩
  have hSl : S.length ≤ 2000 := by rw [hS, size_list]; exact hs2
  have hTl : T.length ≤ 2000 := by rw [hT, size_list]; exact ht2
  obtain ⟨Y, hY⟩ : ∃ Y, Y = parseR false S := ⟨_, rfl⟩
  obtain ⟨Z, hZ⟩ : ∃ Z, Z = parseR false T := ⟨_, rfl⟩
  obtain ⟨V, hV⟩ : ∃ V, V = parseR false (S ++ T) := ⟨_, rfl⟩
  have KP := fun W (hx : Ext w W) => tParse_any s W (HM.out.ext hx) (by omega)
  have KQ := fun W (hx : Ext w W) => tParse_any t W (HM.out.ext hx) (by omega)
  have KR := fun W (hx : Ext w W) => tParse_any (s ++ t) W (HM.out.ext hx) (by rw [ByteArray.size_append]; omega)
  rw [← hS, ← hY] at KP
  rw [← hT, ← hZ] at KQ
  rw [app_list, ← hS, ← hT, ← hV] at KR
  have hsz2 : s.size + t.size ≤ 4000 := by omega
  have hnz : ∀ (U : By) (x : Int × Option Nat), parseR false U = .error x → x.1 ≠ 0 := by
    rintro U ⟨er, oa⟩ h
    rcases oa with _ | a
    · rw [parse_none h]; decide
    · obtain ⟨_, her, _⟩ := parse_err h
      show er ≠ 0
      omega
  rcases Y with x | f
  · have hx0 := hnz S x hY.symm
    have b1 : ((x.1 : Int) != 0) = true := by rw [bne_iff_ne]; exact hx0
    obtain ⟨ap, al, ac, hpa⟩ := posE_three S (.error x)
    have K1 := Lib.hid (fun W (hx : Ext w W) => (KP W hx).mono fun e w' h => retZ_any h)
    rw [hpa] at K1
    clear hpa
    obtain ⟨bp, bl, bc, hpb⟩ := posE_three T Z
    have K2 := Lib.hid (fun W (hx : Ext w W) => (KQ W hx).mono fun e w' h => retZ_any h)
    rw [hpb] at K2
    clear hpb
    obtain ⟨cp, cl, cc, hpc⟩ := posE_three (S ++ T) V
    have K3 := Lib.hid (fun W (hx : Ext w W) => (KR W hx).mono fun e w' h => retZ_any h)
    rw [hpc] at K3
    clear hpc
    simp only [errE] at K1
    obtain ⟨er, oa⟩ := x
    simp only at K1 b1
    generalize errE Z = er2 at K2
    generalize errE V = er3 at K3
    clear KP KQ KR hY hZ hV hm hnz hx0
    go_enter Tryd.func3, Tryd.ntmps3
    go_wp2_with fail
    refine (awake_any _ HM.out).mono ?_
    rintro e w1 ⟨rfl, hw1⟩
    have HW1 := Lib.hid hw1
    clear hw1
    go_wp2_with fail
    refine (K1.out _ HW1.out).mono ?_
    rintro e v2 ⟨hx2, A2, n2, c2, rfl⟩
    have HX2 := Lib.hid hx2
    have HW2 := Lib.hid ((HW1.out.trans hx2).alloc (.cells #[.int .i64 ap, .int .i64 al, .int .i64 ac] 25))
    have HB2 := Lib.hid (AtC.new v2 #[.int .i64 ap, .int .i64 al, .int .i64 ac] : AtC 25 _ _ _)
    clear hx2
    go_wp2_with fail
    refine (K2.out _ HW2.out).mono ?_
    rintro e v3 ⟨hx3, A3, n3, c3, rfl⟩
    have HX3 := Lib.hid hx3
    have HW3 := Lib.hid ((HW2.out.trans hx3).alloc (.cells #[.int .i64 bp, .int .i64 bl, .int .i64 bc] 25))
    have HB3 := Lib.hid (AtC.new v3 #[.int .i64 bp, .int .i64 bl, .int .i64 bc] : AtC 25 _ _ _)
    clear hx3
    go_wp2_with fail
    refine (K3.out _ HW3.out).mono ?_
    rintro e v4 ⟨hx4, A4, n4, c4, rfl⟩
    have HX4 := Lib.hid hx4
    have HW4 := Lib.hid ((HW3.out.trans hx4).alloc (.cells #[.int .i64 cp, .int .i64 cl, .int .i64 cc] 25))
    have HB4 := Lib.hid (AtC.new v4 #[.int .i64 cp, .int .i64 cl, .int .i64 cc] : AtC 25 _ _ _)
    clear hx4
    go_wp2
    go_ret
    exact ⟨rfl, HW4.out⟩
  rcases Z with x | g
  · have hx0 := hnz T x hZ.symm
    obtain ⟨er, oa⟩ := x
    have b1 : ((er : Int) != 0) = true := by rw [bne_iff_ne]; exact hx0
    have K1 := Lib.hid (fun W (hx : Ext w W) => (KP W hx).mono fun e w' h => retZ_any h)
    simp only [posE, errE] at K1
    obtain ⟨bp, bl, bc, hpb⟩ := posE_three T (.error (er, oa))
    have K2 := Lib.hid (fun W (hx : Ext w W) => (KQ W hx).mono fun e w' h => retZ_any h)
    rw [hpb] at K2
    clear hpb
    obtain ⟨cp, cl, cc, hpc⟩ := posE_three (S ++ T) V
    have K3 := Lib.hid (fun W (hx : Ext w W) => (KR W hx).mono fun e w' h => retZ_any h)
    rw [hpc] at K3
    clear hpc
    simp only [errE] at K2
    generalize errE V = er3 at K3
    clear KP KQ KR hY hZ hV hm hnz hx0
    go_enter Tryd.func3, Tryd.ntmps3
    go_wp2_with fail
    refine (awake_any _ HM.out).mono ?_
    rintro e w1 ⟨rfl, hw1⟩
    have HW1 := Lib.hid hw1
    clear hw1
    go_wp2_with fail
    refine (K1.out _ HW1.out).mono ?_
    rintro e v2 ⟨hx2, A2, n2, c2, rfl⟩
    have HX2 := Lib.hid hx2
    have HW2 := Lib.hid ((HW1.out.trans hx2).alloc (.cells #[.int .i64 0, .int .i64 0, .int .i64 0] 25))
    have HB2 := Lib.hid (AtC.new v2 #[.int .i64 0, .int .i64 0, .int .i64 0] : AtC 25 _ _ _)
    clear hx2
    go_wp2_with fail
    refine (K2.out _ HW2.out).mono ?_
    rintro e v3 ⟨hx3, A3, n3, c3, rfl⟩
    have HX3 := Lib.hid hx3
    have HW3 := Lib.hid ((HW2.out.trans hx3).alloc (.cells #[.int .i64 bp, .int .i64 bl, .int .i64 bc] 25))
    have HB3 := Lib.hid (AtC.new v3 #[.int .i64 bp, .int .i64 bl, .int .i64 bc] : AtC 25 _ _ _)
    clear hx3
    go_wp2_with fail
    refine (K3.out _ HW3.out).mono ?_
    rintro e v4 ⟨hx4, A4, n4, c4, rfl⟩
    have HX4 := Lib.hid hx4
    have HW4 := Lib.hid ((HW3.out.trans hx4).alloc (.cells #[.int .i64 cp, .int .i64 cl, .int .i64 cc] 25))
    have HB4 := Lib.hid (AtC.new v4 #[.int .i64 cp, .int .i64 cl, .int .i64 cc] : AtC 25 _ _ _)
    clear hx4
    go_wp2
    go_ret
    exact ⟨rfl, HW4.out⟩
  have hj := parse_join hSl hTl hY.symm hZ.symm
  rw [← hV] at hj
  rcases hj with ⟨a, ha⟩ | hj
  · subst ha
    have K1 := Lib.hid (fun W (hx : Ext w W) => (KP W hx).mono fun e w' h => retZ_any h)
    have K2 := Lib.hid (fun W (hx : Ext w W) => (KQ W hx).mono fun e w' h => retZ_any h)
    simp only [posE, errE] at K1 K2
    obtain ⟨cp, cl, cc, hpc⟩ := posE_three (S ++ T) (.error (6, a))
    have K3 := Lib.hid (fun W (hx : Ext w W) => (KR W hx).mono fun e w' h => retZ_any h)
    rw [hpc] at K3
    clear hpc
    simp only [errE] at K3
    clear KP KQ KR hY hZ hV hm hnz
    go_enter Tryd.func3, Tryd.ntmps3
    go_wp2_with fail
    refine (awake_any _ HM.out).mono ?_
    rintro e w1 ⟨rfl, hw1⟩
    have HW1 := Lib.hid hw1
    clear hw1
    go_wp2_with fail
    refine (K1.out _ HW1.out).mono ?_
    rintro e v2 ⟨hx2, A2, n2, c2, rfl⟩
    have HX2 := Lib.hid hx2
    have HW2 := Lib.hid ((HW1.out.trans hx2).alloc (.cells #[.int .i64 0, .int .i64 0, .int .i64 0] 25))
    have HB2 := Lib.hid (AtC.new v2 #[.int .i64 0, .int .i64 0, .int .i64 0] : AtC 25 _ _ _)
    clear hx2
    go_wp2_with fail
    refine (K2.out _ HW2.out).mono ?_
    rintro e v3 ⟨hx3, A3, n3, c3, rfl⟩
    have HX3 := Lib.hid hx3
    have HW3 := Lib.hid ((HW2.out.trans hx3).alloc (.cells #[.int .i64 0, .int .i64 0, .int .i64 0] 25))
    have HB3 := Lib.hid (AtC.new v3 #[.int .i64 0, .int .i64 0, .int .i64 0] : AtC 25 _ _ _)
    clear hx3
    go_wp2_with fail
    refine (K3.out _ HW3.out).mono ?_
    rintro e v4 ⟨hx4, A4, n4, c4, rfl⟩
    have HX4 := Lib.hid hx4
    have HW4 := Lib.hid ((HW3.out.trans hx4).alloc (.cells #[.int .i64 cp, .int .i64 cl, .int .i64 cc] 25))
    have HB4 := Lib.hid (AtC.new v4 #[.int .i64 cp, .int .i64 cl, .int .i64 cc] : AtC 25 _ _ _)
    clear hx4
    go_wp2
    go_ret
    exact ⟨rfl, HW4.out⟩
  subst hj
  have K1 := Lib.hid (fun W (hx : Ext w W) => (KP W hx).mono fun e w' h => retZ_cap h rfl)
  have K2 := Lib.hid (fun W (hx : Ext w W) => (KQ W hx).mono fun e w' h => retZ_cap h rfl)
  have K3 := Lib.hid (fun W (hx : Ext w W) => (KR W hx).mono fun e w' h => retZ_cap h rfl)
  have HFF := Lib.hid (parse_fit hY.symm)
  have HFG := Lib.hid (parse_fit hZ.symm)
  have HFJ := Lib.hid (parse_fit hV.symm)
  clear KP KQ KR hY hZ hV hm hnz
  go_enter Tryd.func3, Tryd.ntmps3
  go_wp2_with fail
  refine (awake_any _ HM.out).mono ?_
  rintro e w1 ⟨rfl, hw1⟩
  have HW1 := Lib.hid hw1
  clear hw1
  go_wp2_with fail
  refine (K1.out _ HW1.out).mono ?_
  rintro e v2 ⟨hx2, A2, c2, rfl, hf2, hc2⟩
  have HX2 := Lib.hid hx2
  have HW2 := Lib.hid ((HW1.out.trans hx2).alloc (.cells #[.int .i64 0, .int .i64 0, .int .i64 0] 25))
  have HB2 := Lib.hid (AtC.new v2 #[.int .i64 0, .int .i64 0, .int .i64 0] : AtC 25 _ _ _)
  have HF2 := Lib.hid (hf2.anyZ.ext ((Ext.refl v2).alloc (.cells #[.int .i64 0, .int .i64 0, .int .i64 0] 25)))
  have HC2 := Lib.hid hc2
  clear hf2 hc2
  clear hx2
  go_wp2_with fail
  refine (K2.out _ HW2.out).mono ?_
  rintro e v3 ⟨hx3, A3, c3, rfl, hf3, hc3⟩
  have HX3 := Lib.hid hx3
  have HW3 := Lib.hid ((HW2.out.trans hx3).alloc (.cells #[.int .i64 0, .int .i64 0, .int .i64 0] 25))
  have HB3 := Lib.hid (AtC.new v3 #[.int .i64 0, .int .i64 0, .int .i64 0] : AtC 25 _ _ _)
  have HF3 := Lib.hid (hf3.anyZ.ext ((Ext.refl v3).alloc (.cells #[.int .i64 0, .int .i64 0, .int .i64 0] 25)))
  have HC3 := Lib.hid hc3
  clear hf3 hc3
  clear hx3
  go_wp2_with fail
  refine (K3.out _ HW3.out).mono ?_
  rintro e v4 ⟨hx4, A4, c4, rfl, hf4, hc4⟩
  have HX4 := Lib.hid hx4
  have HW4 := Lib.hid ((HW3.out.trans hx4).alloc (.cells #[.int .i64 0, .int .i64 0, .int .i64 0] 25))
  have HB4 := Lib.hid (AtC.new v4 #[.int .i64 0, .int .i64 0, .int .i64 0] : AtC 25 _ _ _)
  have HF4 := Lib.hid (hf4.anyZ.ext ((Ext.refl v4).alloc (.cells #[.int .i64 0, .int .i64 0, .int .i64 0] 25)))
  have HC4 := Lib.hid hc4
  clear hf4 hc4
  clear hx4
  have hx23 : Ext (v2.alloc (.cells #[.int .i64 0, .int .i64 0, .int .i64 0] 25)) (v4.alloc (.cells #[.int .i64 0, .int .i64 0, .int .i64 0] 25)) := ((HX3.out.alloc (.cells #[.int .i64 0, .int .i64 0, .int .i64 0] 25)).trans HX4.out).alloc (.cells #[.int .i64 0, .int .i64 0, .int .i64 0] 25)
  have hx34 : Ext (v3.alloc (.cells #[.int .i64 0, .int .i64 0, .int .i64 0] 25)) (v4.alloc (.cells #[.int .i64 0, .int .i64 0, .int .i64 0] 25)) := HX4.out.alloc (.cells #[.int .i64 0, .int .i64 0, .int .i64 0] 25)
  have KJ := Lib.hid (rjoin_any (HF2.out.ext hx23) (HF3.out.ext hx34) HC3.out (by have := HFF.out.2.2; have := flen_nodes f; omega) (by have := HFG.out.2.2; have := flen_nodes g; omega) HFF.out.2.1 HFG.out.2.1)
  clear hx23 hx34
  go_wp2_with fail
  refine KJ.out.mono ?_
  rintro e v5 ⟨A5, c5, rfl, hf5, hx5⟩
  have HX5 := Lib.hid (HW4.out.trans hx5)
  have KE := Lib.hid (requal26_any HFJ.out.2.2 (by have := HFJ.out.2.2; omega) (HF4.out.ext hx5) hf5 HFJ.out.1 HFJ.out.1)
  rw [eqF_refl] at KE
  clear hf5 hx5 KJ
  go_wp2_with fail
  refine KE.out.mono ?_
  rintro e v6 ⟨rfl, hx6⟩
  have HX6 := Lib.hid (HX5.out.trans hx6)
  clear hx6 KE
  go_wp2
  go_ret
  exact ⟨rfl, HX6.out⟩
end Go.Proofs.YtklobkpepbokkaaDoor.lawSyntaxJoins
namespace Go.Proofs.YtklobkpepbokkaaDoor.lawSyntaxJoins
open Go.ChangeShapes Go.WideShapes Go.ChangeAt Go.RowKit
open Go.ChangeMaps (open_string shut_string)
set_option linter.unusedSimpArgs false
set_option linter.unusedVariables false

def laidL : List (String × DataW Unit) := Rows.syntaxJoinsRow.laid
theorem mx_of {W : World} (h : W.ShapedOpen Tryd.prog) : Mx W := Go.Proofs.cell_of_shapedOpen_int (zero := #[.int .i64 0]) (t := 3) h (of_decide_eq_true (by kernel_rfl)) (by kernel_rfl) rfl (by kernel_rfl) (by kernel_rfl) Tryd.underlying3

set_option maxRecDepth 100000 in
theorem lifted (os : Os) (started : os.Started) (H : Type) (enc : TypeId × Value → H) :
    ReturnsInHanded {} Tryd.checked os 3 .any (fun w args => (Rows.syntaxJoinsSpec.pre enc Tryd.prog Tryd.f3 [] false w args ∧ laidMetH Tryd.prog laidL w) ∧ sizedMet enc Tryd.prog Tryd.f3 (OpenSpec.ofChange Rows.syntaxJoinsSpec) false w args)
      (Rows.syntaxJoinsSpec.post enc Tryd.prog Tryd.f3 false true false false) := by
  refine lifted_and_sized (C := Tryd.checked) (X := fun w _ => laidMetH Tryd.prog laidL w) (fun _ _ _ hh h => h.of_heap hh) own started (by kernel_rfl) Tryd.func3
    (ChangeSpec.witness_shaped (enc := enc) (C := Tryd.checked) (os := os) (X := fun w _ => laidMetH Tryd.prog laidL w) false (World.laidAll Tryd.prog os laidL) #[.string ⟨#[]⟩, .string ⟨#[]⟩] 8 (World.laidAll_os _ _ _)
      (World.shaped_of_ZipB (by kernel_rfl) (by kernel_rfl)) (by kernel_rfl) (by kernel_rfl) (by kernel_rfl)
      (by rw [MakeChecks.laidMetH_plain _ _ _ (by kernel_rfl)]; exact laidMet_laidAll _ (by kernel_rfl) (by kernel_rfl))) ?_
  intro W base args ds gs before hval0 hW hL hshape hsz0
  have hval : ∀ (j : Nat) t v, Tryd.f3.params[j]? = some t → args[j]? = some v → Value.okWide Tryd.prog W .any base t v := hval0
  have hW' := hW
  obtain ⟨p, q, hA0, hV, rfl, hfz, hnd⟩ := hW
  have hA : DataW.TrodAll enc Tryd.prog W 0 (fun _ => true) true Tryd.f3.params.toList args.toList ds p := hA0
  obtain ⟨rfl, rfl⟩ := trodVars_none hV
  have hsz : ∀ m ∈ DataW.weightsEach Tryd.prog Tryd.f3.params.toList ds, m ≤ reachBytes := fun m hm => hsz0 m (by
    rw [List.append_nil, show Rows.syntaxJoinsSpec.plain.varTypes Tryd.checked.prog = [] from rfl, List.append_nil]
    exact hm)
  rw [Tryd.params3] at hA hval hsz
  obtain ⟨v0, v1, d0, d1, p0, p1, rfl, rfl, rfl, h0, h1⟩ := trodAll_two hA
  obtain ⟨s, rfl, rfl, rfl, hs⟩ := open_string Tryd.underlying9 (hval 0 9 v0 rfl rfl) h0
  obtain ⟨t, rfl, rfl, rfl, ht⟩ := open_string Tryd.underlying9 (hval 1 9 v1 rfl rfl) h1
  refine (law s t W (mx_of hshape) hs ht).mono fun e W' ⟨he, hw⟩ => ?_
  subst he
  exact ⟨_, rfl, law_post (t := 4) laidOut (by rw [Tryd.params3]; intro t ht; simp at ht; subst ht <;> exact ⟨by kernel_rfl, of_decide_eq_true (by kernel_rfl)⟩) rfl Tryd.underlying4 rfl ⟨rfl, rfl, rfl⟩ hW' hw⟩


end Go.Proofs.YtklobkpepbokkaaDoor.lawSyntaxJoins
