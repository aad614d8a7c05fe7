import Derived.Test.YtklobkpepbokkaaDoorNPK
import Derived.Test.YtklobkpepbokkaaDoorIc
import Derived.Test.YtklobkpepbokkaaDoorLift
import Derived.Test.YtklobkpepbokkaaDoorShelf
import Derived.Test.YtklobkpepbokkaaDoorRows
import Derived.Test.YtklobkpepbokkaaDoorCards
import Derived.Test.YtklobkpepbokkaaDoorTie
import Derived.Shelf.Vars
namespace Go.Proofs.YtklobkpepbokkaaDoor.lawSyntaxRejects
open Go.ChangeShapes Go.WideShapes Go.ChangeAt Go.RowKit
set_option linter.unusedSimpArgs false
set_option linter.unusedVariables false

theorem app_list (s t : ByteArray) : (s ++ t).data.toList = s.data.toList ++ t.data.toList := by simp
/-- A parse, whatever it comes to. -/
def RetU (w : World) (v : Value) (er : Int) (e : Ending) (w' : World) : Prop := Ext w w' ∧ ∃ A n cc, e = .returned (.tuple #[.slice A n cc, v, .int .i64 er])
theorem retZ_any {w w' : World} {s : By} {Y : Except (Int × Option Nat) F} {e : Ending} (h : RetZ w s Y e w') : RetU w (posE s Y) (errE Y) e w' := by
  obtain ⟨h1, A, n, cc, he, _⟩ := h
  exact ⟨h1, A, n, cc, he⟩
set_option maxHeartbeats 4000000 in
set_option maxRecDepth 100000 in
theorem law (s t : ByteArray) (w : World) (hm : Mx w) (hs : s.size ≤ maxLen) (ht : t.size ≤ maxLen) : Calls Tryd.prog 4 #[.string s, .string t] w (RetTrue w) := by
  unfold maxLen at hs ht
  have HM := Lib.hid hm
  by_cases h1 : 2000 < s.size
  · clear hm
    go_enter Tryd.func4, Tryd.ntmps4
    go_wp2_with fail
    refine (awake_any _ HM.out).mono ?_
    rintro e w1 ⟨rfl, hw1⟩
    have HW1 := Lib.hid hw1
    clear hw1
    go_wp2
    go_ret
    exact ⟨rfl, HW1.out⟩
  by_cases h2 : 2000 < t.size
  · clear hm
    go_enter Tryd.func4, Tryd.ntmps4
    go_wp2_with fail
    refine (awake_any _ HM.out).mono ?_
    rintro e w1 ⟨rfl, hw1⟩
    have HW1 := Lib.hid hw1
    clear hw1
    go_wp2
    go_ret
    exact ⟨rfl, HW1.out⟩
  have hs2 : s.size ≤ 2000 := by omega
  have ht2 : t.size ≤ 2000 := by omega
  obtain ⟨S, hS⟩ : ∃ S, S = s.data.toList := ⟨_, rfl⟩
  obtain ⟨T, hT⟩ : ∃ T, T = t.data.toList := ⟨_, rfl⟩
  have hSl : S.length ≤ 2000 := by rw [hS, size_list]; exact hs2
  have hTl : T.length ≤ 2000 := by rw [hT, size_list]; exact ht2
  have hSz : S.length = s.size := by rw [hS, size_list]
  obtain ⟨ls, als, es, hts⟩ : ∃ ls als es, tokensP S = (ls, als, es) := ⟨_, _, _, rfl⟩
  obtain ⟨lt, at', et, htt⟩ : ∃ lt at' et, tokensP T = (lt, at', et) := ⟨_, _, _, rfl⟩
  have KS := fun W => rtokens_any s W (by omega)
  have KT := fun W => rtokens_any t W (by omega)
  rw [← hS, hts] at KS
  rw [← hT, htt] at KT
  unfold RetTk at KS KT
  simp only at KS KT
  have KS := Lib.hid KS
  have KT := Lib.hid KT
  obtain ⟨Y, hY⟩ : ∃ Y, Y = parseR false S := ⟨_, rfl⟩
  have KP := fun W (hx : Ext w W) => tParse_any s W (HM.out.ext hx) (by omega)
  rw [← hS, ← hY] at KP
  by_cases hes : es = 0
  rotate_left
  · have b1 : ((es : Int) != 0) = true := by rw [bne_iff_ne]; exact hes
    clear hes
    obtain ⟨pp, pl, pc, hp⟩ := posE_three S Y
    have K := Lib.hid (fun W (hx : Ext w W) => (KP W hx).mono fun e w' h => retZ_any h)
    rw [hp] at K
    generalize errE Y = er at K
    clear KP hY hm hp
    go_enter Tryd.func4, Tryd.ntmps4
    go_wp2_with fail
    refine (awake_any _ HM.out).mono ?_
    rintro e w1 ⟨rfl, hw1⟩
    have HW1 := Lib.hid hw1
    clear hw1
    go_wp2_with fail
    refine (KS.out _).mono ?_
    rintro e w2 ⟨A2, c2, rfl, _, hx2, _⟩
    have HW2 := Lib.hid (HW1.out.trans hx2)
    clear hx2
    go_wp2_with fail
    refine (KT.out _).mono ?_
    rintro e w3 ⟨A3, c3, rfl, _, hx3, _⟩
    have HW3 := Lib.hid (HW2.out.trans hx3)
    clear hx3
    go_wp2_with fail
    refine (K.out _ HW3.out).mono ?_
    rintro e v4 ⟨hx4, A4, n4, c4, rfl⟩
    have HX4 := Lib.hid hx4
    have HW4 := Lib.hid ((HW3.out.trans hx4).alloc (.cells #[.int .i64 pp, .int .i64 pl, .int .i64 pc] 25))
    have HB4 := Lib.hid (AtC.new v4 #[.int .i64 pp, .int .i64 pl, .int .i64 pc] : AtC 25 _ _ _)
    clear hx4
    go_wp2
    go_ret
    exact ⟨rfl, HW4.out⟩
  subst hes
  by_cases het : et = 0
  rotate_left
  · have b1 : ((et : Int) != 0) = true := by rw [bne_iff_ne]; exact het
    clear het
    obtain ⟨pp, pl, pc, hp⟩ := posE_three S Y
    have K := Lib.hid (fun W (hx : Ext w W) => (KP W hx).mono fun e w' h => retZ_any h)
    rw [hp] at K
    generalize errE Y = er at K
    clear KP hY hm hp
    go_enter Tryd.func4, Tryd.ntmps4
    go_wp2_with fail
    refine (awake_any _ HM.out).mono ?_
    rintro e w1 ⟨rfl, hw1⟩
    have HW1 := Lib.hid hw1
    clear hw1
    go_wp2_with fail
    refine (KS.out _).mono ?_
    rintro e w2 ⟨A2, c2, rfl, _, hx2, _⟩
    have HW2 := Lib.hid (HW1.out.trans hx2)
    clear hx2
    go_wp2_with fail
    refine (KT.out _).mono ?_
    rintro e w3 ⟨A3, c3, rfl, _, hx3, _⟩
    have HW3 := Lib.hid (HW2.out.trans hx3)
    clear hx3
    go_wp2_with fail
    refine (K.out _ HW3.out).mono ?_
    rintro e v4 ⟨hx4, A4, n4, c4, rfl⟩
    have HX4 := Lib.hid hx4
    have HW4 := Lib.hid ((HW3.out.trans hx4).alloc (.cells #[.int .i64 pp, .int .i64 pl, .int .i64 pc] 25))
    have HB4 := Lib.hid (AtC.new v4 #[.int .i64 pp, .int .i64 pl, .int .i64 pc] : AtC 25 _ _ _)
    clear hx4
    go_wp2
    go_ret
    exact ⟨rfl, HW4.out⟩
  subst het
  rcases Y with ⟨er, oa⟩ | f
  rotate_left
  · have K := Lib.hid (fun W (hx : Ext w W) => (KP W hx).mono fun e w' h => retZ_any h)
    simp only [posE, errE] at K
    clear KP hY hm
    go_enter Tryd.func4, Tryd.ntmps4
    go_wp2_with fail
    refine (awake_any _ HM.out).mono ?_
    rintro e w1 ⟨rfl, hw1⟩
    have HW1 := Lib.hid hw1
    clear hw1
    go_wp2_with fail
    refine (KS.out _).mono ?_
    rintro e w2 ⟨A2, c2, rfl, _, hx2, _⟩
    have HW2 := Lib.hid (HW1.out.trans hx2)
    clear hx2
    go_wp2_with fail
    refine (KT.out _).mono ?_
    rintro e w3 ⟨A3, c3, rfl, _, hx3, _⟩
    have HW3 := Lib.hid (HW2.out.trans hx3)
    clear hx3
    go_wp2_with fail
    refine (K.out _ HW3.out).mono ?_
    rintro e v4 ⟨hx4, A4, n4, c4, rfl⟩
    have HX4 := Lib.hid hx4
    have HW4 := Lib.hid ((HW3.out.trans hx4).alloc (.cells #[.int .i64 0, .int .i64 0, .int .i64 0] 25))
    have HB4 := Lib.hid (AtC.new v4 #[.int .i64 0, .int .i64 0, .int .i64 0] : AtC 25 _ _ _)
    clear hx4
    go_wp2
    go_ret
    exact ⟨rfl, HW4.out⟩
  rcases oa with _ | a
  · have h6 := parse_none hY.symm
    subst h6
    have K := Lib.hid (fun W (hx : Ext w W) => (KP W hx).mono fun e w' h => retZ_any h)
    rw [show posE S (.error (6, none)) = .agg #[.int .i64 0, .int .i64 0, .int .i64 0] from by unfold posE; rw [if_neg (by omega)]] at K
    simp only [errE] at K
    clear KP hY hm
    go_enter Tryd.func4, Tryd.ntmps4
    go_wp2_with fail
    refine (awake_any _ HM.out).mono ?_
    rintro e w1 ⟨rfl, hw1⟩
    have HW1 := Lib.hid hw1
    clear hw1
    go_wp2_with fail
    refine (KS.out _).mono ?_
    rintro e w2 ⟨A2, c2, rfl, _, hx2, _⟩
    have HW2 := Lib.hid (HW1.out.trans hx2)
    clear hx2
    go_wp2_with fail
    refine (KT.out _).mono ?_
    rintro e w3 ⟨A3, c3, rfl, _, hx3, _⟩
    have HW3 := Lib.hid (HW2.out.trans hx3)
    clear hx3
    go_wp2_with fail
    refine (K.out _ HW3.out).mono ?_
    rintro e v4 ⟨hx4, A4, n4, c4, rfl⟩
    have HX4 := Lib.hid hx4
    have HW4 := Lib.hid ((HW3.out.trans hx4).alloc (.cells #[.int .i64 0, .int .i64 0, .int .i64 0] 25))
    have HB4 := Lib.hid (AtC.new v4 #[.int .i64 0, .int .i64 0, .int .i64 0] : AtC 25 _ _ _)
    clear hx4
    go_wp2
    go_ret
    exact ⟨rfl, HW4.out⟩
  obtain ⟨_, her, hal, hasc⟩ := parse_err hY.symm
  obtain ⟨l, c, hl1, hpl, hat⟩ := pl_asc hal hasc
  have K := Lib.hid (fun W (hx : Ext w W) => (KP W hx).mono fun e w' h => retZ_any h)
  rw [show posE S (.error (er, some a)) = .agg #[.int .i64 a, .int .i64 l, .int .i64 c] from hpl] at K
  simp only [errE] at K
  have hl0 : ((l : Int) == 0) = false := by rw [beq_eq_false_iff_ne]; omega
  have he0 : ((er : Int) == 0) = false := by rw [beq_eq_false_iff_ne]; omega
  by_cases hle : s.size ≤ a
  · have hleI : (s.size : Int) ≤ (a : Int) := by omega
    clear KP hY hm hpl hat hal hasc her
    go_enter Tryd.func4, Tryd.ntmps4
    go_wp2_with fail
    refine (awake_any _ HM.out).mono ?_
    rintro e w1 ⟨rfl, hw1⟩
    have HW1 := Lib.hid hw1
    clear hw1
    go_wp2_with fail
    refine (KS.out _).mono ?_
    rintro e w2 ⟨A2, c2, rfl, _, hx2, _⟩
    have HW2 := Lib.hid (HW1.out.trans hx2)
    clear hx2
    go_wp2_with fail
    refine (KT.out _).mono ?_
    rintro e w3 ⟨A3, c3, rfl, _, hx3, _⟩
    have HW3 := Lib.hid (HW2.out.trans hx3)
    clear hx3
    go_wp2_with fail
    refine (K.out _ HW3.out).mono ?_
    rintro e v4 ⟨hx4, A4, n4, c4, rfl⟩
    have HX4 := Lib.hid hx4
    have HW4 := Lib.hid ((HW3.out.trans hx4).alloc (.cells #[.int .i64 a, .int .i64 l, .int .i64 c] 25))
    have HB4 := Lib.hid (AtC.new v4 #[.int .i64 a, .int .i64 l, .int .i64 c] : AtC 25 _ _ _)
    clear hx4
    go_wp2
    go_ret
    exact ⟨rfl, HW4.out⟩
  have hleI : ¬ (s.size : Int) ≤ (a : Int) := by omega
  have hrj := parse_reject (t := T) hSl hTl (by rw [hts]) (by rw [htt]) hY.symm (by omega)
  have hpl2 : plV (S ++ T) a = .agg #[.int .i64 a, .int .i64 l, .int .i64 c] := by
    rw [← hpl]
    unfold plV
    rw [atP_app (by omega) hasc]
  have KJ := fun W (hx : Ext w W) => tParse_any (s ++ t) W (HM.out.ext hx) (by rw [ByteArray.size_append]; omega)
  rw [app_list, ← hS, ← hT, hrj] at KJ
  have KJ2 := Lib.hid (fun W (hx : Ext w W) => (KJ W hx).mono fun e w' h => retZ_any h)
  rw [show posE (S ++ T) (.error (er, some a)) = .agg #[.int .i64 a, .int .i64 l, .int .i64 c] from hpl2] at KJ2
  simp only [errE] at KJ2
  have e0 : ∀ W : World, (Op.equalIn 10000 25 (.agg #[.int .i64 a, .int .i64 l, .int .i64 c]) (.agg #[.int .i64 a, .int .i64 l, .int .i64 c])).run Tryd.prog W = .ok true W := fun W => eq_pos_self a l c W
  have geq : Tryd.prog.eqGuardType Tryd.prog.depth 25 = false := by kernel_rfl
  have hsz2 : s.size + t.size ≤ 4000 := by omega
  clear KP hY hm hpl hat hal hasc her KJ hrj hpl2
  go_enter Tryd.func4, Tryd.ntmps4
  go_wp2_with fail
  refine (awake_any _ HM.out).mono ?_
  rintro e w1 ⟨rfl, hw1⟩
  have HW1 := Lib.hid hw1
  clear hw1
  go_wp2_with fail
  refine (KS.out _).mono ?_
  rintro e w2 ⟨A2, c2, rfl, _, hx2, _⟩
  have HW2 := Lib.hid (HW1.out.trans hx2)
  clear hx2
  go_wp2_with fail
  refine (KT.out _).mono ?_
  rintro e w3 ⟨A3, c3, rfl, _, hx3, _⟩
  have HW3 := Lib.hid (HW2.out.trans hx3)
  clear hx3
  go_wp2_with fail
  refine (K.out _ HW3.out).mono ?_
  rintro e v4 ⟨hx4, A4, n4, c4, rfl⟩
  have HX4 := Lib.hid hx4
  have HW4 := Lib.hid ((HW3.out.trans hx4).alloc (.cells #[.int .i64 a, .int .i64 l, .int .i64 c] 25))
  have HB4 := Lib.hid (AtC.new v4 #[.int .i64 a, .int .i64 l, .int .i64 c] : AtC 25 _ _ _)
  clear hx4
  go_wp2_with fail
  refine (KJ2.out _ HW4.out).mono ?_
  rintro e v5 ⟨hx5, A5, n5, c5, rfl⟩
  have HX5 := Lib.hid hx5
  have HW5 := Lib.hid ((HW4.out.trans hx5).alloc (.cells #[.int .i64 a, .int .i64 l, .int .i64 c] 25))
  have HB5 := Lib.hid (AtC.new v5 #[.int .i64 a, .int .i64 l, .int .i64 c] : AtC 25 _ _ _)
  have hxx := hx5.trans ((Ext.refl v5).alloc (.cells #[.int .i64 a, .int .i64 l, .int .i64 c] 25))
  have q0 := (HB4.out.ext hxx).cell 0 _ rfl
  have q1 := (HB4.out.ext hxx).cell 1 _ rfl
  have q2 := (HB4.out.ext hxx).cell 2 _ rfl
  clear hxx
  clear hx5
  go_wp2
  go_ret
  exact ⟨rfl, HW5.out⟩
end Go.Proofs.YtklobkpepbokkaaDoor.lawSyntaxRejects
namespace Go.Proofs.YtklobkpepbokkaaDoor.lawSyntaxRejects
open Go.ChangeShapes Go.WideShapes Go.ChangeAt Go.RowKit
open Go.ChangeMaps (open_string shut_string)
set_option linter.unusedSimpArgs false
set_option linter.unusedVariables false

def laidL : List (String × DataW Unit) := Rows.syntaxRejectsRow.laid
theorem mx_of {W : World} (h : W.ShapedOpen Tryd.prog) : Mx W := Go.Proofs.cell_of_shapedOpen_int (zero := #[.int .i64 0]) (t := 3) h (of_decide_eq_true (by kernel_rfl)) (by kernel_rfl) rfl (by kernel_rfl) (by kernel_rfl) Tryd.underlying3

set_option maxRecDepth 100000 in
theorem lifted (os : Os) (started : os.Started) (H : Type) (enc : TypeId × Value → H) :
    ReturnsInHanded {} Tryd.checked os 4 .any (fun w args => (Rows.syntaxRejectsSpec.pre enc Tryd.prog Tryd.f4 [] false w args ∧ laidMetH Tryd.prog laidL w) ∧ sizedMet enc Tryd.prog Tryd.f4 (OpenSpec.ofChange Rows.syntaxRejectsSpec) false w args)
      (Rows.syntaxRejectsSpec.post enc Tryd.prog Tryd.f4 false true false false) := by
  refine lifted_and_sized (C := Tryd.checked) (X := fun w _ => laidMetH Tryd.prog laidL w) (fun _ _ _ hh h => h.of_heap hh) own started (by kernel_rfl) Tryd.func4
    (ChangeSpec.witness_shaped (enc := enc) (C := Tryd.checked) (os := os) (X := fun w _ => laidMetH Tryd.prog laidL w) false (World.laidAll Tryd.prog os laidL) #[.string ⟨#[]⟩, .string ⟨#[]⟩] 8 (World.laidAll_os _ _ _)
      (World.shaped_of_ZipB (by kernel_rfl) (by kernel_rfl)) (by kernel_rfl) (by kernel_rfl) (by kernel_rfl)
      (by rw [MakeChecks.laidMetH_plain _ _ _ (by kernel_rfl)]; exact laidMet_laidAll _ (by kernel_rfl) (by kernel_rfl))) ?_
  intro W base args ds gs before hval0 hW hL hshape hsz0
  have hval : ∀ (j : Nat) t v, Tryd.f4.params[j]? = some t → args[j]? = some v → Value.okWide Tryd.prog W .any base t v := hval0
  have hW' := hW
  obtain ⟨p, q, hA0, hV, rfl, hfz, hnd⟩ := hW
  have hA : DataW.TrodAll enc Tryd.prog W 0 (fun _ => true) true Tryd.f4.params.toList args.toList ds p := hA0
  obtain ⟨rfl, rfl⟩ := trodVars_none hV
  have hsz : ∀ m ∈ DataW.weightsEach Tryd.prog Tryd.f4.params.toList ds, m ≤ reachBytes := fun m hm => hsz0 m (by
    rw [List.append_nil, show Rows.syntaxRejectsSpec.plain.varTypes Tryd.checked.prog = [] from rfl, List.append_nil]
    exact hm)
  rw [Tryd.params4] at hA hval hsz
  obtain ⟨v0, v1, d0, d1, p0, p1, rfl, rfl, rfl, h0, h1⟩ := trodAll_two hA
  obtain ⟨s, rfl, rfl, rfl, hs⟩ := open_string Tryd.underlying9 (hval 0 9 v0 rfl rfl) h0
  obtain ⟨t, rfl, rfl, rfl, ht⟩ := open_string Tryd.underlying9 (hval 1 9 v1 rfl rfl) h1
  refine (law s t W (mx_of hshape) hs ht).mono fun e W' ⟨he, hw⟩ => ?_
  subst he
  exact ⟨_, rfl, law_post (t := 4) laidOut (by rw [Tryd.params4]; intro t ht; simp at ht; subst ht <;> exact ⟨by kernel_rfl, of_decide_eq_true (by kernel_rfl)⟩) rfl Tryd.underlying4 rfl ⟨rfl, rfl, rfl⟩ hW' hw⟩


end Go.Proofs.YtklobkpepbokkaaDoor.lawSyntaxRejects
