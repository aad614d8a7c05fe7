import Derived.Test.YtiijdojihleggaaGreatDoorQGc
import Derived.Test.YtiijdojihleggaaGreatDoorQNP1
import Derived.Test.YtiijdojihleggaaGreatDoorQNPD
import Derived.Test.YtiijdojihleggaaGreatDoorQNPA
import Derived.Test.YtiijdojihleggaaGreatDoorQNP2
set_option maxRecDepth 100000
set_option linter.unusedSimpArgs false
set_option linter.unusedVariables false
open Go.Lib (hid)
namespace Go.Proofs.YtiijdojihleggaaGreatDoor
open Go.RowKit
theorem nextP_len {s : By} {b : Bool} {k m : Nat} {x : By} (h : nextP s b = some (k, x, m)) : x.length ≤ s.length ∨ x.length ≤ 40 := by
 cases s with
 | nil => cases h
 | cons c r =>
   simp only [nextP] at h
   split at h
   ·injection h with h; injection h with _ h; injection h with h _; subst h; exact .inr (by decide)
   split at h
   ·injection h with h; injection h with _ h; injection h with h _; subst h; exact .inr (by decide)
   split at h
   ·split at h
    ·injection h with h; injection h with _ h; injection h with h _; subst h; exact .inr (by decide)
    split at h
    ·cases h
    ·injection h with h; injection h with _ h; injection h with h _
     subst h
     exact .inl (by rw [List.length_take]; exact Nat.min_le_right _ _)
   split at h
   ·injection h with h; injection h with _ h; injection h with h _; subst h; exact .inr (by decide)
   split at h
   ·have h2 := (elemP_some h).2.1
    unfold nameB at h2
    simp only [Bool.and_eq_true, decide_eq_true_eq] at h2
    exact .inr h2.1.1.2
   split at h
   ·cases h
   ·injection h with h; injection h with _ h; injection h with h _
    subst h
    exact .inl (by rw [List.length_take]; exact Nat.min_le_right _ _)
theorem tokR_size {s : By} {a d : Nat} {l : List Tok} (h : TokR s a d l) : l.length ≤ s.length ∧ ∀ t ∈ l, t.t.length ≤ s.length ∨ t.t.length ≤ 40 := by
 induction h with
 | nil a => exact ⟨Nat.le_refl _, fun t h => by cases h⟩
 | blank h ht ih =>
   refine ⟨by rw [List.length_cons]; omega, fun t h => ?_⟩
   rw [List.length_cons]
   have := ih.2 t h
   omega
 | tok h hn hk ht ih =>
   have h1 := nextP_some hn
   have h2 := nextP_len hn
   obtain ⟨i1, i2⟩ := ih
   rw [List.length_drop] at i1
   refine ⟨by rw [List.length_cons]; omega, fun t h => ?_⟩
   rcases List.mem_cons.1 h with rfl | h
   ·exact h2
   ·have := i2 t h
    rw [List.length_drop] at this
    omega
theorem tokens_size {s : By} (hs : s.length ≤ 4000) (h0 : (tokensP s).2.2 = 0) : (tokensP s).1.length ≤ 4000 ∧ (∀ t ∈ (tokensP s).1, t.t.length ≤ 4000 ∧ t.a ≤ 4000) ∧ (∀ t ∈ (tokensP s).1, tokB t = true) := by
 obtain ⟨h1, h2⟩ := tokR_size ((tokensP_iff hs).1 ⟨h0, rfl⟩)
 refine ⟨by omega, fun t ht => ⟨?_, ?_⟩, (tokensP_ok hs h0).1⟩
 ·rcases h2 t ht with h | h <;> omega
 ·have := ((tokensP_asc hs).1 t ht).2
  omega
def plV (s : By) (a : Nat) : Value := match atP s a with
 | some x => .agg #[.int .i64 a, .int .i64 x.1, .int .i64 x.2]
 | none => .agg #[.int .i64 0, .int .i64 0, .int .i64 0]
def posE (s : By) : Except (Int × Option Nat) F → Value
 | .ok _ => .agg #[.int .i64 0, .int .i64 0, .int .i64 0]
 | .error (_, some a) => plV s a
 | .error (_, none) => if 4000 < s.length then .agg #[.int .i64 4000, .int .i64 0, .int .i64 0] else .agg #[.int .i64 0, .int .i64 0, .int .i64 0]
def errE : Except (Int × Option Nat) F → Int
 | .ok _ => 0
 | .error (e, _) => e
def RetZ (w : World) (s : By) (Y : Except (Int × Option Nat) F) (e : Ending) (w' : World) : Prop :=
 Ext w w' ∧ ∃ A n cc, e = .returned (.tuple #[.slice A n cc, posE s Y, .int .i64 (errE Y)]) ∧ (∀ f, Y = .ok f → FwS w' (fun k => w.heap.size ≤ k) f (.slice A n cc) ∧ n ≤ cc) ∧ (∀ x, Y = .error x → n = 0)
theorem atV_pl (s : By) (a : Nat) : ∃ e : Int, atV s a = .tuple #[plV s a, .int .i64 e] := by
 unfold atV plV
 cases atP s a with
 | none => exact ⟨2, rfl⟩
 | some x => exact ⟨0, rfl⟩
theorem pl_three (s : By) (a : Nat) : ∃ p l c : Int, plV s a = .agg #[.int .i64 p, .int .i64 l, .int .i64 c] := by
 unfold plV
 cases atP s a with
 | none => exact ⟨0, 0, 0, rfl⟩
 | some x => exact ⟨_, _, _, rfl⟩
def endP (E : Nat) (Y : Except Err (F × St)) : Except Err F := match Y with
 | .error e => .error e
 | .ok x => match x.2.left with
   | t :: _ => .error (3, t.a)
   | [] => .ok x.1
theorem parseR_eq {c : Bool} {s : By} (h1 : s.length ≤ 4000) (h2 : (tokensP s).2.2 = 0) : parseR c s = match endP s.length (msgC s.length 0 c ⟨(tokensP s).1, []⟩) with
 | .error e => .error (e.1, some e.2)
 | .ok f => if 4000 < (txtP [32] f).length then .error (6, none) else .ok f := by
 unfold parseR
 rw [if_neg (by omega), if_neg (fun h => h h2)]
 cases msgC s.length 0 c ⟨(tokensP s).1, []⟩ with
 | error e => rfl
 | ok x =>
   obtain ⟨f, ⟨l, ns⟩⟩ := x
   cases l <;> rfl
theorem results_tct {P : Program} {fn : Func} {t p u : Tmp} {ty : TypeId} (h : fn.results = #[.tmp t, .cell p ty, .tmp u]) (tmps : Array Value) (w : World) (g : Nat) (T : TypeId) (cs : Array Value) (d : TypeDesc)
 (hp : tmps.getD p undef = .pointer (some ⟨g, 0, none⟩)) (hg : AtC T w g cs)
 (hu : P.underlying ty = some d) (hd : (match d with | .struct _ | .array _ _ => true | _ => false) = true) (hi : (P.info? ty).map (·.size) = some cs.size) :
 (results fn tmps).run P w = .ok (.tuple #[tmps.getD t undef, .agg cs, tmps.getD u undef]) w := by
 have hp' : tmps[p]?.getD undef = .pointer (some ⟨g, 0, none⟩) := by simpa using hp
 simp [results, h, hp', asAddr, run_loadVar_row w g T ty cs (0, 0) d hg hu hd hi, Sem.run_bind, Result.andThen]
set_option maxHeartbeats 8000000 in
theorem parse_any (s : ByteArray) (c : Bool) (w : World) (hm : Mx w) (hs : s.size ≤ 1048576) : Calls Tryz.prog 50 #[.string s, .bool c] w (RetZ w s.data.toList (parseR c s.data.toList)) := by
 obtain ⟨S, hS⟩ : ∃ S, S = s.data.toList := ⟨_, rfl⟩
 have hsz : S.length = s.size := by rw [hS]; exact size_list s
 obtain ⟨tl, ta, te, htk⟩ : ∃ tl ta te, tokensP S = (tl, ta, te) := ⟨_, _, _, rfl⟩
 have KT := fun W => tokens_any s W hs
 unfold RetTk at KT
 rw [← hS, htk] at KT
 simp only at KT
 replace KT := hid KT
 have KA := hid (fun (a : Nat) (W : World) => (show Calls Tryz.prog 69 #[.string s, .int .i64 a] W fun e w' => e = .returned (atV S a) ∧ Ext W w' from by rw [hS]; exact uat_any s a W hs))
 rw [← hS]
 have HS := hid hS
 have HZ := hid hsz
 have HM := hid hm
 have HTK := hid htk
 have HX0 := hid ((Ext.refl w).alloc (.cells #[.int .i64 0, .int .i64 0, .int .i64 0] 65))
 have HR0 := hid (AtC.new w #[.int .i64 0, .int .i64 0, .int .i64 0] : AtC 65 _ _ _)
 clear hS hsz hm hs htk
 go_enter Tryz.func50, Tryz.ntmps50
 go_wp2_with fail
 refine (KT.out _).mono ?_
 rintro e w1 ⟨A, cc, rfl, hsl, hx1, hlt⟩
 have HSL := hid hsl
 have HLT := hid hlt
 have HX1 := hid (HX0.out.trans hx1)
 have HR1 := hid (HR0.out.ext hx1)
 have HZ1 := hid (show w.heap.size + 1 ≤ w1.heap.size from by have h := Ext.size hx1; rw [World.size_alloc] at h; exact h)
 clear hsl hx1 hlt KT
 by_cases h4 : 4000 < s.size
 ·have h6 : tl = [] ∧ ta = 4000 ∧ te = 6 := by
   have h := HTK.out
   unfold tokensP at h
   rw [if_pos (by have := HZ.out; omega)] at h
   injection h with h1 h2
   injection h2 with h2 h3
   exact ⟨h1.symm, h2.symm, h3.symm⟩
  obtain ⟨rfl, rfl, rfl⟩ := h6
  have hY : parseR c S = .error (6, none) := by unfold parseR; rw [if_pos (by have := HZ.out; omega)]
  have HP := hid (show posE S (parseR c S) = .agg #[.int .i64 4000, .int .i64 0, .int .i64 0] ∧ errE (parseR c S) = 6 ∧ ∀ f, parseR c S ≠ .ok f from by
   rw [hY]
   refine ⟨?_, rfl, fun f e => by cases e⟩
   show (if 4000 < S.length then _ else _) = _
   rw [if_pos (by have := HZ.out; omega)])
  have q0 := HR1.out.cell 0 _ rfl
  have q1 := HR1.out.cell 1 _ rfl
  have q2 := HR1.out.cell 2 _ rfl
  have f0 := frz_of HR1.out 0
  have f1 := frz_of HR1.out 1
  have f2 := frz_of HR1.out 2
  clear hY h4
  go_wp2
  have hat := at_three2 (b2 := .int .i64 0) (at_three1 (b1 := .int .i64 0) (at_three0 (b0 := .int .i64 4000) (HR1.out)))
  have hxx : Ext w (((w1.setCell ⟨w.heap.size, 0, none⟩ (.int .i64 4000)).setCell ⟨w.heap.size, 1, none⟩ (.int .i64 0)).setCell ⟨w.heap.size, 2, none⟩ (.int .i64 0)) := ((HX1.out.setCell (p := ⟨w.heap.size, 0, none⟩) (Nat.le_refl _) _).setCell (p := ⟨w.heap.size, 1, none⟩) (Nat.le_refl _) _).setCell (p := ⟨w.heap.size, 2, none⟩) (Nat.le_refl _) _
  clear q0 q1 q2 f0 f1 f2
  refine bodyPost_ret (results_tct rfl _ _ w.heap.size 65 _ _ rfl hat Tryz.underlying65 rfl (by kernel_rfl)) rfl ?_
  refine ⟨hxx, none, 0, 0, ?_, fun f h => absurd h (HP.out.2.2 f), fun _ _ => rfl⟩
  rw [HP.out.1, HP.out.2.1]
  rfl
 have hs4 : S.length ≤ 4000 := by have := HZ.out; omega
 have HS4 := hid hs4
 by_cases h0 : te = 0
 rotate_left
 ·have h3 : te = 3 := by
   have h := ((tokensP_asc hs4).2 (by rw [HTK.out]; exact h0)).1
   rw [HTK.out] at h
   exact h
  subst h3
  have HY := hid (show parseR c S = .error (3, some ta) from by
   unfold parseR
   rw [if_neg (by omega), HTK.out]
   rfl)
  clear h0 hs4 h4
  obtain ⟨e9, he9⟩ := atV_pl S ta
  obtain ⟨pp, pl, pc, hpl⟩ := pl_three S ta
  have KA2 := KA.out ta
  rw [he9, hpl] at KA2
  have KA3 := hid KA2
  have HP := hid (show posE S (parseR c S) = .agg #[.int .i64 pp, .int .i64 pl, .int .i64 pc] ∧ errE (parseR c S) = 3 ∧ ∀ f, parseR c S ≠ .ok f from by
   rw [HY.out]
   exact ⟨hpl, rfl, fun f e => by cases e⟩)
  clear he9 hpl KA2 KA
  go_wp2_with fail
  refine (KA3.out _).mono ?_
  rintro e wa ⟨rfl, hxa⟩
  have HXA := hid (HX1.out.trans (hxa.trans ((Ext.refl wa).alloc (.cells #[.int .i64 pp, .int .i64 pl, .int .i64 pc] 65))))
  have HRA := hid ((HR1.out.ext hxa).ext ((Ext.refl wa).alloc (.cells #[.int .i64 pp, .int .i64 pl, .int .i64 pc] 65)))
  have HNA := hid (AtC.new wa #[.int .i64 pp, .int .i64 pl, .int .i64 pc] : AtC 65 _ _ _)
  have HNZ := hid (show w.heap.size ≠ wa.heap.size from by have h1 := (HR1.out.ext hxa).lt; omega)
  clear hxa
  go_wp2_with fail
  generalize wa.alloc (.cells #[.int .i64 pp, .int .i64 pl, .int .i64 pc] 65) = wz at *
  have q0 := HRA.out.cell 0 _ rfl
  have q1 := HRA.out.cell 1 _ rfl
  have q2 := HRA.out.cell 2 _ rfl
  have f0 := frz_of HRA.out 0
  have f1 := frz_of HRA.out 1
  have f2 := frz_of HRA.out 2
  have z0 := HNA.out.cell 0 _ rfl
  have z1 := HNA.out.cell 1 _ rfl
  have z2 := HNA.out.cell 2 _ rfl
  go_region
  go_wp2
  clear z0 z1 z2
  have hat := at_three2 (b2 := .int .i64 pc) (at_three1 (b1 := .int .i64 pl) (at_three0 (b0 := .int .i64 pp) (HRA.out)))
  have hxx : Ext w (((wz.setCell ⟨w.heap.size, 0, none⟩ (.int .i64 pp)).setCell ⟨w.heap.size, 1, none⟩ (.int .i64 pl)).setCell ⟨w.heap.size, 2, none⟩ (.int .i64 pc)) := ((HXA.out.setCell (p := ⟨w.heap.size, 0, none⟩) (Nat.le_refl _) _).setCell (p := ⟨w.heap.size, 1, none⟩) (Nat.le_refl _) _).setCell (p := ⟨w.heap.size, 2, none⟩) (Nat.le_refl _) _
  replace hat := hat.ext ((Ext.refl _).drew)
  replace hxx := hxx.drew
  clear q0 q1 q2 f0 f1 f2
  refine bodyPost_ret (results_tct rfl _ _ w.heap.size 65 _ _ rfl hat Tryz.underlying65 rfl (by kernel_rfl)) rfl ?_
  refine ⟨hxx, none, 0, 0, ?_, fun f h => absurd h (HP.out.2.2 f), fun _ _ => rfl⟩
  rw [HP.out.1, HP.out.2.1]
  rfl
 ·subst h0
  obtain ⟨hsz1, hsz2, hsz3⟩ := tokens_size hs4 (by rw [HTK.out])
  rw [HTK.out] at hsz1 hsz2 hsz3
  simp only at hsz1 hsz2 hsz3
  obtain ⟨C, hC⟩ : ∃ C : Pc, C = { g := w1.heap.size + 1, mb := w1.heap.size, s := s, A := A, c := cc, all := tl } := ⟨_, rfl⟩
  have HC := hid hC
  obtain ⟨W4, hW4⟩ : ∃ W4, W4 = (w1.alloc (.map #[] 0)).alloc (.cells #[.string s, .slice A tl.length cc, .int .i64 0, .map (some w1.heap.size), .int .i64 0, .int .i64 0] 124) := ⟨_, rfl⟩
  have hz4 : (w1.alloc (.map #[] 0)).heap.size = w1.heap.size + 1 := World.size_alloc _ _
  have hx4 : Ext w1 W4 := by rw [hW4]; exact ((Ext.refl w1).alloc _).alloc _
  have HO4 := hid (show PsO W4 C (.ok ⟨tl, []⟩) from by
   have hblk := (AtC.new (w1.alloc (.map #[] 0)) #[.string s, .slice A tl.length cc, .int .i64 0, .map (some w1.heap.size), .int .i64 0, .int .i64 0] : AtC 124 _ _ _)
   rw [hz4, ← hW4] at hblk
   have hmap := (MapS.made Tryz.prog 9 4 w1).ext (show Ext (w1.alloc (.map #[] 0)) W4 from by rw [hW4]; exact (Ext.refl _).alloc _)
   have h10 : 0 < w1.heap.size := by have := HZ1.out; omega
   subst hC
   refine ⟨0, ⟨hblk, HSL.out.ext hx4, hmap, by show w1.heap.size + 1 ≠ w1.heap.size; omega, fun ad hA => ?_, by show s.size ≤ 4000; omega, hsz1, Nat.zero_le _, hsz2, List.nodup_nil, Nat.zero_le _, (HM.out.ext (HX1.out.trans hx4)), by show w1.heap.size + 1 ≠ 0; omega, by show w1.heap.size ≠ 0; omega, hsz3⟩, rfl⟩
   have := HLT.out ad hA
   exact ⟨by show ad.block ≠ w1.heap.size + 1; omega, by show ad.block ≠ w1.heap.size; omega⟩)
  have HX4 := hid (HX1.out.trans hx4)
  have HR4 := hid (HR1.out.ext hx4)
  have HZ4 := hid (Ext.size hx4)
  have hmm := @run_makeMap Tryz.prog
  go_wp2_with fail
  clear hmm
  rw [← hW4]
  obtain ⟨Y, hY⟩ : ∃ Y, Y = msgC S.length 0 c ⟨tl, []⟩ := ⟨_, rfl⟩
  have hg : C.g = w1.heap.size + 1 := by rw [hC]
  have hall : C.all = tl := by rw [hC]
  have hCs : C.s.size = S.length := by rw [hC, HZ.out]
  have htwo : ∀ j, C.two j → w1.heap.size ≤ j := fun j hj => by
   rw [hC] at hj
   rcases hj with e | e
   ·have e2 : j = w1.heap.size + 1 := e
    omega
   ·have e2 : j = w1.heap.size := e
    omega
  have KM := pmsg_any C (.ok ⟨tl, []⟩) 0 c W4 HO4.out (by decide)
  rw [hg, hCs, bind_okE, ← hY] at KM
  have HKM := hid KM
  have HY := hid hY
  have HG := hid hg
  have HALL := hid hall
  have HCS := hid hCs
  have HTWO := hid htwo
  have HPR := hid (show parseR c S = match endP S.length Y with
   | .error e => .error (e.1, some e.2)
   | .ok f => if 4000 < (txtP [32] f).length then .error (6, none) else .ok f from by
     rw [hY]
     have h := parseR_eq (c := c) hs4 (show (tokensP S).2.2 = 0 from by rw [HTK.out])
     rw [HTK.out] at h
     exact h)
  clear KM hY hg hall hCs htwo hW4 hC hx4 hz4 h4
  refine HKM.out.mono ?_
  rintro e w5 ⟨⟨A5, n5, c5, rfl, hf5⟩, ho5, hx5⟩
  have HX5 := hid (show Ext w w5 from Below.trans HX4.out (hx5.below (fun j hj => by have := HTWO.out j hj; have := HZ1.out; omega) (Ext.size HX4.out)))
  have HR5 := hid (HR4.out.exc hx5 (fun hj => by have := HTWO.out _ hj; have := HZ1.out; omega))
  have HO5 := hid ho5
  have HF5 := hid hf5
  clear hf5 ho5 hx5 HKM
  rcases Y with ⟨er, ea⟩ | ⟨f, ⟨left, ns⟩⟩
  ·obtain ⟨h0, n, ns', hp⟩ := HO5.out
   have k2 := hp.cells.2.2.1
   rw [HG.out] at k2
   have HYE := hid (show parseR c S = .error (er, some ea) from HPR.out)
   have KF := hid (pfail_any C (.error (er, ea)) 3 w5 HO5.out (by decide))
   rw [HG.out] at KF
   have H0 := hid h0
   clear hp h0
   by_cases hn : n < tl.length
   ·have hnI : (n : Int) < (tl.length : Int) := by omega
    go_wp2_with fail
    refine KF.out.mono ?_
    rintro e w6 ⟨rfl, ho6, hx6⟩
    have HX6 := hid (show Ext w w6 from Below.trans HX5.out (hx6.below (fun j hj => by have := HTWO.out j hj; have := HZ1.out; omega) (Ext.size HX5.out)))
    have HR6 := hid (HR5.out.exc hx6 (fun hj => by have := HTWO.out _ hj; have := HZ1.out; omega))
    have HO6 := hid (show PsO w6 C (.error (er, ea)) from ho6)
    clear ho6 hx6 KF hn hnI k2
    obtain ⟨h0e, ne, nse, hpe⟩ := HO6.out
    have k4 := hpe.cells.2.2.2.2.1
    have k5 := hpe.cells.2.2.2.2.2
    rw [HG.out] at k4 k5
    have b5 : ((er : Int) != 0) = true := by rw [bne_iff_ne]; exact h0e
    clear h0e hpe
    go_wp2_with fail
    go_quiet (fail)
    clear k4 k5
    obtain ⟨e9, he9⟩ := atV_pl S ea
    obtain ⟨pp, pl, pc, hpl⟩ := pl_three S ea
    have KA2 := KA.out ea
    rw [he9, hpl] at KA2
    have KA3 := hid KA2
    have HP := hid (show posE S (parseR c S) = .agg #[.int .i64 pp, .int .i64 pl, .int .i64 pc] ∧ errE (parseR c S) = er ∧ ∀ f, parseR c S ≠ .ok f from by
     rw [HYE.out]
     exact ⟨hpl, rfl, fun f e => by cases e⟩)
    clear he9 hpl KA2 KA
    go_wp2_with fail
    refine (KA3.out _).mono ?_
    rintro e wa ⟨rfl, hxa⟩
    have HXA := hid ((HX6.out.drewN nq).trans (hxa.trans ((Ext.refl wa).alloc (.cells #[.int .i64 pp, .int .i64 pl, .int .i64 pc] 65))))
    have HRA := hid (((HR6.out.ext ((Ext.refl _).drewN nq)).ext hxa).ext ((Ext.refl wa).alloc (.cells #[.int .i64 pp, .int .i64 pl, .int .i64 pc] 65)))
    have HNA := hid (AtC.new wa #[.int .i64 pp, .int .i64 pl, .int .i64 pc] : AtC 65 _ _ _)
    have HNZ := hid (show w.heap.size ≠ wa.heap.size from by have h1 := ((HR6.out.ext ((Ext.refl _).drewN nq)).ext hxa).lt; omega)
    clear hxa
    go_wp2_with fail
    generalize wa.alloc (.cells #[.int .i64 pp, .int .i64 pl, .int .i64 pc] 65) = wz at *
    have q0 := HRA.out.cell 0 _ rfl
    have q1 := HRA.out.cell 1 _ rfl
    have q2 := HRA.out.cell 2 _ rfl
    have f0 := frz_of HRA.out 0
    have f1 := frz_of HRA.out 1
    have f2 := frz_of HRA.out 2
    have z0 := HNA.out.cell 0 _ rfl
    have z1 := HNA.out.cell 1 _ rfl
    have z2 := HNA.out.cell 2 _ rfl
    go_region
    go_wp2
    clear z0 z1 z2
    have hat := at_three2 (b2 := .int .i64 pc) (at_three1 (b1 := .int .i64 pl) (at_three0 (b0 := .int .i64 pp) (HRA.out)))
    have hxx : Ext w (((wz.setCell ⟨w.heap.size, 0, none⟩ (.int .i64 pp)).setCell ⟨w.heap.size, 1, none⟩ (.int .i64 pl)).setCell ⟨w.heap.size, 2, none⟩ (.int .i64 pc)) := ((HXA.out.setCell (p := ⟨w.heap.size, 0, none⟩) (Nat.le_refl _) _).setCell (p := ⟨w.heap.size, 1, none⟩) (Nat.le_refl _) _).setCell (p := ⟨w.heap.size, 2, none⟩) (Nat.le_refl _) _
    replace hat := hat.ext ((Ext.refl _).drew)
    replace hxx := hxx.drew
    clear q0 q1 q2 f0 f1 f2
    refine bodyPost_ret (results_tct rfl _ _ w.heap.size 65 _ _ rfl hat Tryz.underlying65 rfl (by kernel_rfl)) rfl ?_
    refine ⟨hxx, none, 0, 0, ?_, fun f h => absurd h (HP.out.2.2 f), fun _ _ => rfl⟩
    rw [HP.out.1, HP.out.2.1]
    rfl
   ·have hnI : ¬ (n : Int) < (tl.length : Int) := by omega
    clear KF
    obtain ⟨h0e, ne, nse, hpe⟩ := HO5.out
    have k4 := hpe.cells.2.2.2.2.1
    have k5 := hpe.cells.2.2.2.2.2
    rw [HG.out] at k4 k5
    have b5 : ((er : Int) != 0) = true := by rw [bne_iff_ne]; exact h0e
    clear h0e hpe
    go_wp2_with fail
    go_quiet (fail)
    clear k4 k5
    obtain ⟨e9, he9⟩ := atV_pl S ea
    obtain ⟨pp, pl, pc, hpl⟩ := pl_three S ea
    have KA2 := KA.out ea
    rw [he9, hpl] at KA2
    have KA3 := hid KA2
    have HP := hid (show posE S (parseR c S) = .agg #[.int .i64 pp, .int .i64 pl, .int .i64 pc] ∧ errE (parseR c S) = er ∧ ∀ f, parseR c S ≠ .ok f from by
     rw [HYE.out]
     exact ⟨hpl, rfl, fun f e => by cases e⟩)
    clear he9 hpl KA2 KA
    go_wp2_with fail
    refine (KA3.out _).mono ?_
    rintro e wa ⟨rfl, hxa⟩
    have HXA := hid ((HX5.out.drewN nq).trans (hxa.trans ((Ext.refl wa).alloc (.cells #[.int .i64 pp, .int .i64 pl, .int .i64 pc] 65))))
    have HRA := hid (((HR5.out.ext ((Ext.refl _).drewN nq)).ext hxa).ext ((Ext.refl wa).alloc (.cells #[.int .i64 pp, .int .i64 pl, .int .i64 pc] 65)))
    have HNA := hid (AtC.new wa #[.int .i64 pp, .int .i64 pl, .int .i64 pc] : AtC 65 _ _ _)
    have HNZ := hid (show w.heap.size ≠ wa.heap.size from by have h1 := ((HR5.out.ext ((Ext.refl _).drewN nq)).ext hxa).lt; omega)
    clear hxa
    go_wp2_with fail
    generalize wa.alloc (.cells #[.int .i64 pp, .int .i64 pl, .int .i64 pc] 65) = wz at *
    have q0 := HRA.out.cell 0 _ rfl
    have q1 := HRA.out.cell 1 _ rfl
    have q2 := HRA.out.cell 2 _ rfl
    have f0 := frz_of HRA.out 0
    have f1 := frz_of HRA.out 1
    have f2 := frz_of HRA.out 2
    have z0 := HNA.out.cell 0 _ rfl
    have z1 := HNA.out.cell 1 _ rfl
    have z2 := HNA.out.cell 2 _ rfl
    go_region
    go_wp2
    clear z0 z1 z2
    have hat := at_three2 (b2 := .int .i64 pc) (at_three1 (b1 := .int .i64 pl) (at_three0 (b0 := .int .i64 pp) (HRA.out)))
    have hxx : Ext w (((wz.setCell ⟨w.heap.size, 0, none⟩ (.int .i64 pp)).setCell ⟨w.heap.size, 1, none⟩ (.int .i64 pl)).setCell ⟨w.heap.size, 2, none⟩ (.int .i64 pc)) := ((HXA.out.setCell (p := ⟨w.heap.size, 0, none⟩) (Nat.le_refl _) _).setCell (p := ⟨w.heap.size, 1, none⟩) (Nat.le_refl _) _).setCell (p := ⟨w.heap.size, 2, none⟩) (Nat.le_refl _) _
    replace hat := hat.ext ((Ext.refl _).drew)
    replace hxx := hxx.drew
    clear q0 q1 q2 f0 f1 f2
    refine bodyPost_ret (results_tct rfl _ _ w.heap.size 65 _ _ rfl hat Tryz.underlying65 rfl (by kernel_rfl)) rfl ?_
    refine ⟨hxx, none, 0, 0, ?_, fun f h => absurd h (HP.out.2.2 f), fun _ _ => rfl⟩
    rw [HP.out.1, HP.out.2.1]
    rfl
  ·rcases left with _ | ⟨t, r⟩
   ·obtain ⟨n, hp, hd⟩ := HO5.out
    have k2 := hp.cells.2.2.1
    have k4 := hp.cells.2.2.2.2.1
    have k5 := hp.cells.2.2.2.2.2
    rw [HG.out] at k2 k4 k5
    have hn : ¬ n < tl.length := by
     intro h1
     have h2 := congrArg List.length hd
     rw [HALL.out, List.length_drop] at h2
     have h3 : (([] : List Tok)).length = 0 := rfl
     simp only [h3] at h2
     omega
    have hnI : ¬ (n : Int) < (tl.length : Int) := by omega
    have hfm := msgC_form (tokensP_ok hs4 (by rw [HTK.out])) (ns := []) (by simp) (show msgC S.length 0 c ⟨(tokensP S).1, []⟩ = .ok (f, ⟨[], ns⟩) from by rw [HTK.out]; exact HY.out.symm)
    have hwt : wt f ≤ 40000000 := by
     have h1 := msgC_wt HY.out.symm
     have h2 := wtT_le tl (fun t ht => (hsz2 t ht).1)
     simp only at h1
     omega
    have KL := hid (fun W (hW : Ext w5 W) => length_any ((HF5.out f _ rfl).1.ext hW) hfm.1 hwt)
    obtain ⟨LP, hLP⟩ : ∃ LP, LP = (txtP [32] f).length := ⟨_, rfl⟩
    rw [← hLP] at KL
    have HPR2 := hid (show parseR c S = if 4000 < LP then .error (6, none) else .ok f from by rw [hLP]; exact HPR.out)
    clear hp hd hfm hLP hwt hn
    go_wp2_with fail
    go_quiet (fail)
    clear k2 k4 k5
    go_wp2_with fail
    refine (KL.out _ ((Ext.refl w5).drewN nq)).mono ?_
    rintro e w6 ⟨rfl, hx6⟩
    have HX6 := hid (HX5.out.trans (((Ext.refl w5).drewN nq).trans hx6))
    have HR6 := hid (HR5.out.ext (((Ext.refl w5).drewN nq).trans hx6))
    have HF6 := hid ((HF5.out f _ rfl).1.ext (((Ext.refl w5).drewN nq).trans hx6))
    have q0 := HR6.out.cell 0 _ rfl
    have q1 := HR6.out.cell 1 _ rfl
    have q2 := HR6.out.cell 2 _ rfl
    have f0 := frz_of HR6.out 0
    have f1 := frz_of HR6.out 1
    have f2 := frz_of HR6.out 2
    clear hx6 KL
    by_cases hl : 4000 < LP
    ·have hlI : (4000 : Int) < (LP : Int) := by omega
     have HP := hid (show posE S (parseR c S) = .agg #[.int .i64 0, .int .i64 0, .int .i64 0] ∧ errE (parseR c S) = 6 ∧ ∀ f, parseR c S ≠ .ok f from by
      rw [HPR2.out, if_pos hl]
      refine ⟨?_, rfl, fun f e => by cases e⟩
      show (if 4000 < S.length then _ else _) = _
      rw [if_neg (by omega)])
     go_wp2
     have hat := at_three2 (b2 := .int .i64 0) (at_three1 (b1 := .int .i64 0) (at_three0 (b0 := .int .i64 0) (HR6.out)))
     have hxx : Ext w (((w6.setCell ⟨w.heap.size, 0, none⟩ (.int .i64 0)).setCell ⟨w.heap.size, 1, none⟩ (.int .i64 0)).setCell ⟨w.heap.size, 2, none⟩ (.int .i64 0)) := ((HX6.out.setCell (p := ⟨w.heap.size, 0, none⟩) (Nat.le_refl _) _).setCell (p := ⟨w.heap.size, 1, none⟩) (Nat.le_refl _) _).setCell (p := ⟨w.heap.size, 2, none⟩) (Nat.le_refl _) _
     clear q0 q1 q2 f0 f1 f2
     refine bodyPost_ret (results_tct rfl _ _ w.heap.size 65 _ _ rfl hat Tryz.underlying65 rfl (by kernel_rfl)) rfl ?_
     refine ⟨hxx, none, 0, 0, ?_, fun f h => absurd h (HP.out.2.2 f), fun _ _ => rfl⟩
     rw [HP.out.1, HP.out.2.1]
     rfl
    ·have hlI : ¬ (4000 : Int) < (LP : Int) := by omega
     have HY2 := hid (show parseR c S = .ok f from by rw [HPR2.out, if_neg hl])
     go_wp2
     have hat := at_three2 (b2 := .int .i64 0) (at_three1 (b1 := .int .i64 0) (at_three0 (b0 := .int .i64 0) (HR6.out)))
     have hxx : Ext w (((w6.setCell ⟨w.heap.size, 0, none⟩ (.int .i64 0)).setCell ⟨w.heap.size, 1, none⟩ (.int .i64 0)).setCell ⟨w.heap.size, 2, none⟩ (.int .i64 0)) := ((HX6.out.setCell (p := ⟨w.heap.size, 0, none⟩) (Nat.le_refl _) _).setCell (p := ⟨w.heap.size, 1, none⟩) (Nat.le_refl _) _).setCell (p := ⟨w.heap.size, 2, none⟩) (Nat.le_refl _) _
     clear q0 q1 q2 f0 f1 f2
     refine bodyPost_ret (results_tct rfl _ _ w.heap.size 65 _ _ rfl hat Tryz.underlying65 rfl (by kernel_rfl)) rfl ?_
     obtain ⟨Av, cv, hv⟩ := HF6.out.val
     injection hv with hv1 hv2 hv3
     have hFF := HF6.out.exc (((Exc.setCell (S := fun j => j = w.heap.size) (w := w6) (p := ⟨w.heap.size, 0, none⟩) rfl (.int .i64 0)).trans (Exc.setCell (S := fun j => j = w.heap.size) (p := ⟨w.heap.size, 1, none⟩) rfl (.int .i64 0))).trans (Exc.setCell (S := fun j => j = w.heap.size) (p := ⟨w.heap.size, 2, none⟩) rfl (.int .i64 0))) (fun j hj e => by have h1 := HZ1.out; have h2 := HZ4.out; omega) (ok' := fun j => w.heap.size ≤ j) (fun j hj => by have h1 := HZ1.out; have h2 := HZ4.out; omega)
     rw [HY2.out]
     refine ⟨hxx, A5, n5, c5, rfl, fun f' h => ?_, fun x h => by cases h⟩
     injection h with h
     rw [← h]
     exact ⟨hFF, (HF5.out f _ rfl).2⟩
   ·obtain ⟨n, hp, hd⟩ := HO5.out
    have k2 := hp.cells.2.2.1
    rw [HG.out] at k2
    have hn : n < tl.length := by
     rcases Nat.lt_or_ge n tl.length with h1 | h1
     ·exact h1
     ·rw [HALL.out, List.drop_eq_nil_of_le h1] at hd
      cases hd
    have hnI : (n : Int) < (tl.length : Int) := by omega
    have HYE := hid (show parseR c S = .error (3, some t.a) from HPR.out)
    have KF := hid (pfail_any C (.ok ⟨t :: r, ns⟩) 3 w5 HO5.out (by decide))
    rw [HG.out] at KF
    clear hp hd
    go_wp2_with fail
    refine KF.out.mono ?_
    rintro e w6 ⟨rfl, ho6, hx6⟩
    have HX6 := hid (show Ext w w6 from Below.trans HX5.out (hx6.below (fun j hj => by have := HTWO.out j hj; have := HZ1.out; omega) (Ext.size HX5.out)))
    have HR6 := hid (HR5.out.exc hx6 (fun hj => by have := HTWO.out _ hj; have := HZ1.out; omega))
    have HO6 := hid (show PsO w6 C (.error (3, t.a)) from ho6)
    clear ho6 hx6 KF hn hnI k2
    obtain ⟨h0e, ne, nse, hpe⟩ := HO6.out
    have k4 := hpe.cells.2.2.2.2.1
    have k5 := hpe.cells.2.2.2.2.2
    rw [HG.out] at k4 k5
    have b5 : ((3 : Int) != 0) = true := by rw [bne_iff_ne]; exact h0e
    clear h0e hpe
    go_wp2_with fail
    go_quiet (fail)
    clear k4 k5
    obtain ⟨e9, he9⟩ := atV_pl S t.a
    obtain ⟨pp, pl, pc, hpl⟩ := pl_three S t.a
    have KA2 := KA.out t.a
    rw [he9, hpl] at KA2
    have KA3 := hid KA2
    have HP := hid (show posE S (parseR c S) = .agg #[.int .i64 pp, .int .i64 pl, .int .i64 pc] ∧ errE (parseR c S) = 3 ∧ ∀ f, parseR c S ≠ .ok f from by
     rw [HYE.out]
     exact ⟨hpl, rfl, fun f e => by cases e⟩)
    clear he9 hpl KA2 KA
    go_wp2_with fail
    refine (KA3.out _).mono ?_
    rintro e wa ⟨rfl, hxa⟩
    have HXA := hid ((HX6.out.drewN nq).trans (hxa.trans ((Ext.refl wa).alloc (.cells #[.int .i64 pp, .int .i64 pl, .int .i64 pc] 65))))
    have HRA := hid (((HR6.out.ext ((Ext.refl _).drewN nq)).ext hxa).ext ((Ext.refl wa).alloc (.cells #[.int .i64 pp, .int .i64 pl, .int .i64 pc] 65)))
    have HNA := hid (AtC.new wa #[.int .i64 pp, .int .i64 pl, .int .i64 pc] : AtC 65 _ _ _)
    have HNZ := hid (show w.heap.size ≠ wa.heap.size from by have h1 := ((HR6.out.ext ((Ext.refl _).drewN nq)).ext hxa).lt; omega)
    clear hxa
    go_wp2_with fail
    generalize wa.alloc (.cells #[.int .i64 pp, .int .i64 pl, .int .i64 pc] 65) = wz at *
    have q0 := HRA.out.cell 0 _ rfl
    have q1 := HRA.out.cell 1 _ rfl
    have q2 := HRA.out.cell 2 _ rfl
    have f0 := frz_of HRA.out 0
    have f1 := frz_of HRA.out 1
    have f2 := frz_of HRA.out 2
    have z0 := HNA.out.cell 0 _ rfl
    have z1 := HNA.out.cell 1 _ rfl
    have z2 := HNA.out.cell 2 _ rfl
    go_region
    go_wp2
    clear z0 z1 z2
    have hat := at_three2 (b2 := .int .i64 pc) (at_three1 (b1 := .int .i64 pl) (at_three0 (b0 := .int .i64 pp) (HRA.out)))
    have hxx : Ext w (((wz.setCell ⟨w.heap.size, 0, none⟩ (.int .i64 pp)).setCell ⟨w.heap.size, 1, none⟩ (.int .i64 pl)).setCell ⟨w.heap.size, 2, none⟩ (.int .i64 pc)) := ((HXA.out.setCell (p := ⟨w.heap.size, 0, none⟩) (Nat.le_refl _) _).setCell (p := ⟨w.heap.size, 1, none⟩) (Nat.le_refl _) _).setCell (p := ⟨w.heap.size, 2, none⟩) (Nat.le_refl _) _
    replace hat := hat.ext ((Ext.refl _).drew)
    replace hxx := hxx.drew
    clear q0 q1 q2 f0 f1 f2
    refine bodyPost_ret (results_tct rfl _ _ w.heap.size 65 _ _ rfl hat Tryz.underlying65 rfl (by kernel_rfl)) rfl ?_
    refine ⟨hxx, none, 0, 0, ?_, fun f h => absurd h (HP.out.2.2 f), fun _ _ => rfl⟩
    rw [HP.out.1, HP.out.2.1]
    rfl
theorem posE_three (S : By) (Y : Except (Int × Option Nat) F) : ∃ p l c : Int, posE S Y = .agg #[.int .i64 p, .int .i64 l, .int .i64 c] := by
 rcases Y with ⟨e, _ | a⟩ | f
 ·show ∃ p l c : Int, (if 4000 < S.length then _ else _) = _
  split <;> exact ⟨_, _, _, rfl⟩
 ·exact pl_three S a
 ·exact ⟨0, 0, 0, rfl⟩
theorem tParse_any (s : ByteArray) (w : World) (hm : Mx w) (hs : s.size ≤ 1048576) : Calls Tryz.prog 25 #[.string s] w (RetZ w s.data.toList (parseR false s.data.toList)) := by
 obtain ⟨S, hS⟩ : ∃ S, S = s.data.toList := ⟨_, rfl⟩
 obtain ⟨Y, hY⟩ : ∃ Y, Y = parseR false s.data.toList := ⟨_, rfl⟩
 have K := parse_any s false (w.alloc (.cells #[.int .i64 0, .int .i64 0, .int .i64 0] 65)) (hm.ext ((Ext.refl w).alloc _)) hs
 have HX0 := hid ((Ext.refl w).alloc (.cells #[.int .i64 0, .int .i64 0, .int .i64 0] 65))
 have HR0 := hid (AtC.new w #[.int .i64 0, .int .i64 0, .int .i64 0] : AtC 65 _ _ _)
 unfold RetZ at K ⊢
 rw [← hY, ← hS] at K
 rw [← hY, ← hS]
 obtain ⟨pp, pl, pc, hp⟩ := posE_three S Y
 rw [hp] at K ⊢
 generalize errE Y = er at K ⊢
 have HK := hid K
 clear K hp hS hY
 go_enter Tryz.func25, Tryz.ntmps25
 go_wp2_with fail
 refine HK.out.mono ?_
 rintro e w2 ⟨hx, A, n, cc, rfl, hf, hn⟩
 have HX := hid (HX0.out.trans hx)
 have HR := hid (HR0.out.ext hx)
 have HF := hid hf
 have HN := hid hn
 have HZ := hid (World.size_alloc w (.cells #[.int .i64 0, .int .i64 0, .int .i64 0] 65))
 have q0 := HR.out.cell 0 _ rfl
 have q1 := HR.out.cell 1 _ rfl
 have q2 := HR.out.cell 2 _ rfl
 have f0 := frz_of HR.out 0
 have f1 := frz_of HR.out 1
 have f2 := frz_of HR.out 2
 clear hx hf hn HK
 go_wp2
 have hat := at_three2 (b2 := .int .i64 pc) (at_three1 (b1 := .int .i64 pl) (at_three0 (b0 := .int .i64 pp) (HR.out)))
 have hxx : Ext w (((w2.setCell ⟨w.heap.size, 0, none⟩ (.int .i64 pp)).setCell ⟨w.heap.size, 1, none⟩ (.int .i64 pl)).setCell ⟨w.heap.size, 2, none⟩ (.int .i64 pc)) := ((HX.out.setCell (p := ⟨w.heap.size, 0, none⟩) (Nat.le_refl _) _).setCell (p := ⟨w.heap.size, 1, none⟩) (Nat.le_refl _) _).setCell (p := ⟨w.heap.size, 2, none⟩) (Nat.le_refl _) _
 clear q0 q1 q2 f0 f1 f2
 refine bodyPost_ret (results_tct rfl _ _ w.heap.size 65 _ _ rfl hat Tryz.underlying65 rfl (by kernel_rfl)) rfl ?_
 have hs3 : Exc (fun j => j = w.heap.size) w2 _ := ((Exc.setCell (S := fun j => j = w.heap.size) (w := w2) (p := ⟨w.heap.size, 0, none⟩) rfl (.int .i64 pp)).trans (Exc.setCell (S := fun j => j = w.heap.size) (p := ⟨w.heap.size, 1, none⟩) rfl (.int .i64 pl))).trans (Exc.setCell (S := fun j => j = w.heap.size) (p := ⟨w.heap.size, 2, none⟩) rfl (.int .i64 pc))
 refine ⟨hxx, A, n, cc, rfl, fun f h => ?_, HN.out⟩
 have hz := HZ.out
 exact ⟨(HF.out f h).1.exc hs3 (fun j hj e => by omega) (fun j hj => by omega), (HF.out f h).2⟩
end Go.Proofs.YtiijdojihleggaaGreatDoor
namespace Go.Proofs.YtiijdojihleggaaGreatDoor
theorem name_short {n : By} (h : nameB n = true) : n.length ≤ 1048576 := by
 unfold nameB at h
 simp only [Bool.and_eq_true, decide_eq_true_eq] at h
 omega
theorem skel_short {n : By} (h : skelB n = true) : n.length ≤ 1048576 := by
 unfold skelB at h
 simp only [Bool.and_eq_true, decide_eq_true_eq] at h
 omega
theorem num_short {n : By} (h : numStyleB n = true) : n.length ≤ 1048576 := by
 unfold numStyleB at h
 simp only [Bool.or_eq_true, beq_iff_eq] at h
 rcases h with rfl | rfl <;> decide
theorem dec_short {n : By} (h : decB n = true) : n.length ≤ 64 := by
 unfold decB at h
 simp only [Bool.and_eq_true, Bool.or_eq_true, decide_eq_true_eq] at h
 obtain ⟨⟨h1, h2⟩, _⟩ := h
 unfold wholeB at h1
 simp only [Bool.and_eq_true, decide_eq_true_eq] at h1
 generalize hq : (if (n.head? == some 45) = true then List.drop 1 n else n) = q at h1 h2
 have hn : n.length ≤ q.length + 1 := by
  rw [← hq]
  split
  ·rw [List.length_drop]; omega
  ·omega
 rcases h2 with h2 | h2
 ·omega
 ·unfold fracB at h2
  simp only [Bool.and_eq_true, decide_eq_true_eq] at h2
  have h3 := h2.1.2
  rw [List.length_drop] at h3
  omega
theorem key_short {k : Nat} {n : By} (h : keyB k n = true) : n.length ≤ 1048576 := by
 unfold keyB at h
 split at h
 ·exact name_short h
 ·simp only [Bool.or_eq_true, Bool.and_eq_true] at h
  rcases h with h | h
  ·unfold classB at h
   simp only [Bool.or_eq_true, beq_iff_eq] at h
   rcases h with ((((rfl | rfl) | rfl) | rfl) | rfl) | rfl <;> decide
  ·have := dec_short h.2
   rw [List.length_drop] at this
   omega
theorem isNil_can {f : F} (h : f.isNil = true) : Can f ∧ CanC f := by
 rw [isNil_eq h, Can, CanC]
 exact ⟨trivial, trivial⟩
theorem form_can : ∀ f : F, (∀ d c pt, formB d c pt f = true → Can f) ∧ (∀ kind d c seen, casB kind d c seen f = true → CanC f)
 | .nil => ⟨fun d c pt _ => by rw [Can]; trivial, fun kind d c seen _ => by rw [CanC]; trivial⟩
 | .cons k t n s ca pa r => by
   have ihc := form_can ca
   have ihp := form_can pa
   have ihr := form_can r
   refine ⟨fun d c pt h => ?_, fun kind d c seen h => ?_⟩
   ·rw [formB] at h
    simp only [Bool.and_eq_true] at h
    obtain ⟨⟨_, h1⟩, h2⟩ := h
    rw [Can]
    have hr := ihr.1 _ _ _ h2
    have e0 : ∀ {x : By}, x.isEmpty = true → x.length ≤ 1048576 := fun h => by rw [isEmpty_eq h]; decide
    split at h1
    ·simp only [Bool.and_eq_true] at h1
     exact ⟨e0 h1.1.1.1.2, e0 h1.1.1.2, (isNil_can h1.1.2).2, (isNil_can h1.2).1, hr⟩
    split at h1
    ·simp only [Bool.and_eq_true] at h1
     exact ⟨e0 h1.1.1.1.2, e0 h1.1.1.2, (isNil_can h1.1.2).2, (isNil_can h1.2).1, hr⟩
    split at h1
    ·simp only [Bool.and_eq_true] at h1
     exact ⟨name_short h1.1.1.1.1, e0 h1.1.1.2, (isNil_can h1.1.2).2, (isNil_can h1.2).1, hr⟩
    split at h1
    ·simp only [Bool.and_eq_true, Bool.or_eq_true] at h1
     exact ⟨name_short h1.1.1.1.1, h1.1.1.2.elim e0 num_short, (isNil_can h1.1.2).2, (isNil_can h1.2).1, hr⟩
    split at h1
    ·simp only [Bool.and_eq_true] at h1
     exact ⟨name_short h1.1.1.1.1, skel_short h1.1.1.2, (isNil_can h1.1.2).2, (isNil_can h1.2).1, hr⟩
    split at h1
    ·simp only [Bool.and_eq_true] at h1
     exact ⟨name_short h1.1.1.1.1, name_short h1.1.1.2, (isNil_can h1.1.2).2, (isNil_can h1.2).1, hr⟩
    split at h1
    ·simp only [Bool.and_eq_true] at h1
     exact ⟨name_short h1.1.1.1.1.2, e0 h1.1.1.2, (isNil_can h1.1.2).2, ihp.1 _ _ _ h1.2, hr⟩
    split at h1
    ·simp only [Bool.and_eq_true] at h1
     exact ⟨name_short h1.1.1.1.1.1.1.2, e0 h1.1.1.1.1.2, ihc.2 _ _ _ _ h1.1.1.2, (isNil_can h1.1.1.1.2).1, hr⟩
    ·cases h1
   ·rw [casB] at h
    simp only [Bool.and_eq_true, beq_iff_eq] at h
    obtain ⟨⟨⟨⟨⟨⟨⟨h1, h2⟩, h3⟩, h4⟩, h5⟩, _⟩, h7⟩, h8⟩ := h
    rw [CanC]
    exact ⟨h1, isEmpty_eq h2, isEmpty_eq h3, isNil_eq h4, key_short h5, ihp.1 _ _ _ h7, ihr.2 _ _ _ _ h8⟩
theorem nodes_wt : ∀ f : F, f.nodes * 20 ≤ wt f
 | .nil => Nat.le_refl _
 | .cons k t n s ca pa r => by
   have h1 := nodes_wt ca
   have h2 := nodes_wt pa
   have h3 := nodes_wt r
   rw [F.nodes, wt]
   omega
theorem parse_fit {c : Bool} {s : By} {f : F} (h : parseR c s = .ok f) : Can f ∧ wt f ≤ 40000000 ∧ f.nodes < 100000000 := by
 obtain ⟨h1, h2, ⟨ns, h3⟩, h4⟩ := parseR_ok.1 h
 have hv := (validF_iff.1 (parse_valid h)).1
 have hw := msgC_wt h3
 obtain ⟨t1, t2, _⟩ := tokens_size h1 h2
 have hw2 := wtT_le (tokensP s).1 (fun t ht => (t2 t ht).1)
 have hw3 : wt f ≤ 40000000 := by
  have e : wt f ≤ wtT (tokensP s).1 := hw
  have e2 : (tokensP s).1.length * 8020 ≤ 4000 * 8020 := Nat.mul_le_mul_right _ t1
  omega
 have := nodes_wt f
 exact ⟨(form_can f).1 _ _ _ hv, hw3, by omega⟩
end Go.Proofs.YtiijdojihleggaaGreatDoor
