import Derived.Test.YtpfmojeigjmlfaaGreatDoorVc
import Derived.Test.YtpfmojeigjmlfaaGreatDoorJh
namespace Go.Proofs.YtpfmojeigjmlfaaGreatDoor
open Go.RowKit
set_option linter.unusedSimpArgs false
set_option linter.unusedVariables false

/-! The signature of a message, by the reference. -/
def inferV (f : F) : List ArgP × Int := if validF false f = true then inferA f else ([], 1)
theorem fold_stepV {a l : List ArgP} {x : ArgP} {p : List ArgP} (h : foldA a l = some p) : foldA a (l ++ [x]) = if (putA p x).2 = true then some (putA p x).1 else none := by
  rw [foldA_app, h]
  simp [foldA]
theorem fold_stopV {a l r : List ArgP} {x : ArgP} {p : List ArgP} (h : foldA a l = some p) (hp : (putA p x).2 = false) : foldA a (l ++ x :: r) = none := by
  rw [foldA_app, h]
  simp [foldA, hp]
theorem fold_few {c : Bool} {f : F} (hv : validF c f = true) {l p : List ArgP} (hl : ∀ z ∈ l, z ∈ usesR f) (h : foldA [] l = some p) : p.length ≤ 20 := by
  obtain ⟨_, h2, _⟩ := validF_iff.1 hv
  refine Nat.le_trans ?_ h2
  have hlm : (p.map (·.1)).length = p.length := List.length_map _
  rw [← hlm]
  refine nodup_sub_len _ _ (asc_nodup (fold_asc List.Pairwise.nil h)) fun n hn => ?_
  obtain ⟨z, hz, rfl⟩ := List.mem_map.1 hn
  refine ((foldN_nodup (usesF f) [] (by simp)).2 _).2 (.inr ?_)
  rcases fold_names h z hz with ⟨y, hy, _⟩ | ⟨y, hy, e⟩
  · cases hy
  · rw [← e, ← usesR_names]
    exact List.mem_map.2 ⟨y, hl y hy, rfl⟩
def RfI (w : World) (U : List ArgP) (out i : Value) (wr : World) : Prop := ∃ (k : Nat) (p : List ArgP) (A : Option Addr) (n c : Nat), k ≤ U.length ∧ i = .int .i64 k ∧ out = .slice A n c ∧ foldA [] (U.take k) = some p ∧ Ags wr A n (p.map agP) ∧ n ≤ c ∧ Ext w wr
set_option maxHeartbeats 4000000 in
set_option maxRecDepth 100000 in
theorem rinfer_any {f : F} {v : Value} {ok : Nat → Prop} {w : World} (hF : FwS w ok f v) (hcan : Can f) (hwt : wt f ≤ 40000000) : Calls Tryz.prog 30 #[v] w (RetMg w (inferV f)) := by
  have K1 := Lib.hid (rvalid_any hF hcan hwt)
  obtain ⟨A, cc, rfl⟩ := hF.val
  have hn := nodes_wtg f
  obtain ⟨M, hM⟩ : ∃ M, M = inferV f := ⟨_, rfl⟩
  rw [← hM]
  cases hv : validF false f
  · rw [hv] at K1
    have HF := Lib.hid (show M = ([], 1) from by rw [hM]; unfold inferV; rw [if_neg (by rw [hv]; decide)])
    clear hF hcan hwt hv hM hn
    go_enter Tryz.func30, Tryz.ntmps30
    go_wp2_with fail
    refine K1.out.mono ?_
    rintro e w2 ⟨rfl, hx2⟩
    have HX2 := Lib.hid hx2
    clear hx2
    go_wp2
    go_ret2
    exact retMg_nil HF.out HX2.out
  rw [hv] at K1
  have KU := Lib.hid (fun W (hx : Ext w W) => uses_all (f.nodes + 1) f (.slice A f.len cc) ok 0 false false W (Nat.lt_succ_self _) (hF.ext hx) (validF_iff.1 hv).1 (by omega))
  obtain ⟨U, hU⟩ : ∃ U, U = usesR f := ⟨_, rfl⟩
  rw [← hU] at KU
  have HM := Lib.hid (show (∀ p, foldA [] U = some p → M = (p, 0)) ∧ (foldA [] U = none → M = ([], 11)) from by
    rw [hM, hU]
    unfold inferV inferA
    rw [if_pos hv]
    exact ⟨fun p h => by rw [h], fun h => by rw [h]⟩)
  have HFEW := Lib.hid (fun (l p : List ArgP) (hl : ∀ z ∈ l, z ∈ U) (h : foldA [] l = some p) => fold_few hv (fun z hz => by rw [← hU]; exact hl z hz) h)
  have hUl : U.length ≤ 1000000000 := by rw [hU]; have := usesR_len f; omega
  clear hF hcan hwt hv hM hU hn
  go_enter Tryz.func30, Tryz.ntmps30
  go_wp2_with fail
  refine K1.out.mono ?_
  rintro e w2 ⟨rfl, hx2⟩
  have HX2 := Lib.hid hx2
  clear hx2
  go_wp2_with fail
  refine (KU.out _ HX2.out).mono ?_
  rintro e w3 ⟨A3, n3, c3, rfl, hs3, hn3, hx3⟩
  have hl3 : n3 = U.length := by have := hs3.len; rw [List.length_map] at this; omega
  subst hl3
  have HS3 := Lib.hid hs3
  have HX3 := Lib.hid (HX2.out.trans hx3)
  clear hs3 hx3 KU K1
  go_wp2_with fail
  go_loopw [4, 6] (RfI w3 U) (fun _ i _ => U.length - (intOf i).toNat)
  case atStart => exact ⟨0, [], none, 0, 0, Nat.zero_le _, rfl, rfl, rfl, SlN.nil _ _ _, Nat.le_refl _, Ext.refl _⟩
  case round =>
    obtain ⟨k, p, A5, n5, c5, hk, rfl, rfl, hf, hs5, hc5, hw⟩ := hrel
    obtain ⟨wo, rfl⟩ : ∃ wo : World, wo = wr := ⟨_, rfl⟩
    have HF := Lib.hid hf
    have HS5 := Lib.hid hs5
    have HW := Lib.hid hw
    have HC5 := Lib.hid hc5
    by_cases hkm : k < U.length
    · have hkI : (k : Int) < (U.length : Int) := by omega
      obtain ⟨y, hy⟩ : ∃ y, U[k]? = some y := ⟨_, List.getElem?_eq_getElem hkm⟩
      have hym : (U.map agP)[k]? = some (agP y) := by rw [List.getElem?_map, hy]; rfl
      obtain ⟨bB, oB, rfl, hb, a0, a1⟩ := (HS3.out.ext hw).at_ hym
      have HY := Lib.hid hy
      have hpl : p.length ≤ 20 := HFEW.out _ p (fun z hz => List.mem_of_mem_take hz) hf
      have hn5 : n5 ≤ 20000 := by have := hs5.len; rw [List.length_map] at this; omega
      have hK := rput_any (p.map agP) (agP y) A5 n5 c5 wo hs5 hn5 hc5
      rw [agP_list, agP_of] at hK
      have HK := Lib.hid hK
      clear hy hym hK hf hs5 hw hc5 hpl hn5 HFEW
      obtain ⟨yn, hyn⟩ : ∃ yn, yn = (agP y).n := ⟨_, rfl⟩
      obtain ⟨yt, hyt⟩ : ∃ yt, yt = (agP y).t := ⟨_, rfl⟩
      rw [← hyn] at a0 HK
      rw [← hyt] at a1 HK
      clear hyn hyt
      go_wp2_with fail
      refine HK.out.mono ?_
      rintro e w6 ⟨A6, n6, c6, rfl, hs6, hc6, hw6⟩
      have HS6 := Lib.hid hs6
      have HC6 := Lib.hid hc6
      have HW6 := Lib.hid (HW.out.trans hw6)
      clear hs6 hc6 hw6 a0 a1
      have hsp : U = U.take k ++ y :: U.drop (k + 1) := by
        have hk2 := (List.getElem?_eq_some_iff.1 HY.out)
        have h := List.take_append_drop k U
        rw [List.drop_eq_getElem_cons hkm, hk2.2] at h
        exact h.symm
      have htk : U.take (k + 1) = U.take k ++ [y] := by
        rw [List.take_add_one, HY.out]; rfl
      have HF2 := Lib.hid (fold_stepV (x := y) HF.out)
      cases hok : (putA p y).2
      · have HF3 := Lib.hid (show M = ([], 11) from HM.out.2 (by rw [hsp]; exact fold_stopV HF.out hok))
        clear hsp htk hok
        go_wp2
        go_ret2
        exact retMg_nil HF3.out (HX3.out.trans HW6.out)
      · have HF3 := Lib.hid (show foldA [] (U.take (k + 1)) = some (putA p y).1 from by rw [htk, HF2.out, if_pos hok])
        clear hsp htk hok
        go_wp2
        exact ⟨⟨k + 1, _, A6, n6, c6, hkm, by go_num, rfl, HF3.out, HS6.out, HC6.out, HW6.out⟩, by simp [intOf]; omega⟩
    · have hkI : ¬ (k : Int) < (U.length : Int) := by omega
      have HF3 := Lib.hid (show M = (p, 0) from HM.out.1 p (by rw [List.take_of_length_le (by omega)] at hf; exact hf))
      clear hf hs5 hw hc5 HFEW
      go_wp2
      go_ret2
      refine ⟨A5, n5, c5, ?_, ?_, HX3.out.trans HW.out⟩
      · rw [HF3.out]; rfl
      · rw [HF3.out]; exact HS5.out
end Go.Proofs.YtpfmojeigjmlfaaGreatDoor
