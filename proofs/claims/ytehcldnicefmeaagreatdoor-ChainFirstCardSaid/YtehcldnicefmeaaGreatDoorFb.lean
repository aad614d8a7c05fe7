import Derived.Test.YtehcldnicefmeaaGreatDoorCo
import Derived.Test.YtehcldnicefmeaaGreatDoorFa
namespace Go.Proofs.YtehcldnicefmeaaGreatDoor
open Go.RowKit
set_option linter.unusedSimpArgs false
set_option linter.unusedVariables false

/-! Few catalogs; the inherited entry, by the program. -/
def fewCt (x : Ct) : Bool := decide (x.es.length ≤ 20)
def fewK (l : List Ct) : Bool := l.all fewCt && decide (l.length ≤ 12)
theorem fewK_len {l : List Ct} (h : fewK l = true) : l.length ≤ 12 ∧ ∀ x ∈ l, x.es.length ≤ 20 := by
  unfold fewK at h
  simp only [Bool.and_eq_true, decide_eq_true_eq] at h
  refine ⟨h.2, fun a ha => ?_⟩
  have := List.all_eq_true.1 h.1 a ha
  unfold fewCt at this
  simpa using this
def FKInv (w : World) (l : List Ct) (n : Nat) (i : Value) (wr : World) : Prop := ∃ k : Nat, k ≤ n ∧ i = .int .i64 k ∧ (l.take k).all fewCt = true ∧ Ext w wr
set_option maxHeartbeats 1000000 in
set_option maxRecDepth 100000 in
theorem fewk_any (l : List Ct) (E : Option Addr) (en ec : Nat) (w : World) (hE : Cts w E en l) (hen : en ≤ maxLen) (hes : ∀ x ∈ l, x.n 2 ≤ maxLen) :
    Calls Tryz.prog 16 #[.slice E en ec] w fun e w' => e = .returned (.bool (fewK l)) ∧ Ext w w' := by
  unfold maxLen at hen
  have hl := hE.len
  have HE := Lib.hid hE
  have HL := Lib.hid hl
  obtain ⟨R, hR⟩ : ∃ R, R = fewK l := ⟨_, rfl⟩
  rw [← hR]
  unfold fewK at hR
  have HR := Lib.hid hR
  have HES := Lib.hid hes
  clear hE hl hR hes
  go_enter Tryz.func16, Tryz.ntmps16
  go_wp2_with fail
  go_loopw [3] (FKInv w l en) (fun i _ => en - (intOf i).toNat)
  case atStart => exact ⟨0, Nat.zero_le _, rfl, by simp, Ext.refl _⟩
  case round =>
    obtain ⟨k, hk, rfl, hall, hw⟩ := hrel
    have HALL := Lib.hid hall
    have HW := Lib.hid hw
    clear hall hw
    by_cases hkn : k < en
    · obtain ⟨x, hx⟩ : ∃ x, l[k]? = some x := ⟨_, List.getElem?_eq_getElem (by have := HL.out; omega)⟩
      obtain ⟨b, o, rfl, hb, hc⟩ := (HE.out.ext HW.out).at_ hx
      have a3 := hc 3 _ rfl
      have hkI : (k : Int) < (en : Int) := by omega
      have hxl := (HE.out.2 x (List.mem_of_getElem? hx)).len
      have HX := Lib.hid hx
      clear hx hc
      by_cases t1 : x.n 2 ≤ 20
      · have u1 : decide ((20 : Int) < (x.n 2 : Int)) = false := by simp; omega
        have HQ := Lib.hid (show (l.take (k + 1)).all fewCt = true from by
          rw [take_next HX.out, List.all_append, HALL.out]
          simp only [List.all_cons, List.all_nil, Bool.and_true, Bool.true_and]
          unfold fewCt
          rw [decide_eq_true_eq]; omega)
        go_wp2
        exact ⟨⟨k + 1, by omega, by go_num, HQ.out, HW.out⟩, by simp [intOf]; omega⟩
      · have u1 : decide ((20 : Int) < (x.n 2 : Int)) = true := by simp; omega
        have HF := Lib.hid (show R = false from by
          rw [HR.out]
          have : l.all fewCt = false := by rw [List.all_eq_false]; exact ⟨x, List.mem_of_getElem? HX.out, by unfold fewCt; rw [decide_eq_false (by omega)]; decide⟩
          rw [this]; rfl)
        go_wp2
        all_goals go_ret
        all_goals exact ⟨by rw [HF.out]; first | done | rfl, HW.out⟩
    · have hkk : k = en := by omega
      subst hkk
      have hall : l.all fewCt = true := by
        have h := HALL.out
        rwa [List.take_of_length_le (by rw [HL.out]; exact Nat.le_refl _)] at h
      have HF := Lib.hid (show R = decide ((k : Int) ≤ 12) from by
        rw [HR.out, hall, HL.out, Bool.true_and]
        by_cases t : k ≤ 12
        · rw [decide_eq_true t, decide_eq_true (by omega)]
        · rw [decide_eq_false t, decide_eq_false (by omega)])
      clear hall
      go_wp2
      go_ret
      exact ⟨by rw [HF.out]; first | done | rfl, HW.out⟩

theorem of_len {T : List LocP} {al : List Ali} {s : BytesC} : (ofC T al s).1.length ≤ T.length := by
  unfold ofC
  rw [List.length_map]
  exact locs_len
def TF1 (w2 : World) (cats : List (BytesC × List EntP)) (id : BytesC) (tags : List BytesC) (n : Nat) (i : Value) (wr : World) : Prop := ∃ k : Nat, k ≤ n ∧ i = .int .i64 k ∧ NoT cats id tags k ∧ Ext w2 wr
def TF2 (w2 : World) (cats : List (BytesC × List EntP)) (x id : BytesC) (n : Nat) (i : Value) (wr : World) : Prop := ∃ k : Nat, k ≤ n ∧ i = .int .i64 k ∧ NoC x id cats k ∧ Ext w2 wr
def TF3 (w2 : World) (es : List EntP) (id : BytesC) (n : Nat) (i : Value) (wr : World) : Prop := ∃ k : Nat, k ≤ n ∧ i = .int .i64 k ∧ NoE id es k ∧ Ext w2 wr
def RetFind (w : World) (F : (Int × Int) × Int) (e : Ending) (w' : World) : Prop := e = .returned (.tuple #[.int .i64 F.1.1, .int .i64 F.1.2, .int .i64 F.2]) ∧ Ext w w'
theorem ret_find {w w' : World} {F : (Int × Int) × Int} {a b c : Int} (h : F = ((a, b), c)) (hw : Ext w w') : RetFind w F (.returned (.tuple #[.int .i64 a, .int .i64 b, .int .i64 c])) w' := by subst h; exact ⟨rfl, hw⟩
theorem entB_eq {id : ByteArray} {y : En} : entB id.data.toList (entOf y) = ((y.i.toList == id.toList) && ((y.st == 2) || (y.st == 3))) := by
  unfold entB entOf
  rw [eq_b]

set_option maxHeartbeats 4000000 in
set_option maxRecDepth 100000 in
theorem tfind_any (l : List Lc) (al : List Ali) (L A N : Option Addr) (ln lc n c m d : Nat) (ct : List Ct) (E : Option Addr) (en ec : Nat) (s id : ByteArray) (w : World) (hm : Mx w) (hL : Lcs w L ln l) (hln : ln ≤ 100000) (hA : Als w A n al) (hn : n ≤ 100000) (hz : ∀ a ∈ al, a.1.size ≤ 60000 ∧ a.2.size ≤ 60000) (hs : ∀ x ∈ l, x.t.size ≤ 60000) (hss : s.size ≤ 60000)
    (hE : Cts w E en ct) (hen : en ≤ 100000) (hes : ∀ x ∈ ct, x.n 2 ≤ 100000) :
    Calls Tryz.prog 17 #[.agg #[.slice L ln lc, .slice A n c, .slice N m d], .slice E en ec, .string s, .string id] w (RetFind w (findC (l.map locOf) al (ct.map catOf) s.data.toList id.data.toList)) := by
  have KB := Lib.hid (AtC.new w #[.slice L ln lc, .slice A n c, .slice N m d] : AtC 26 _ _ _)
  have HW0 := Lib.hid ((Ext.refl w).alloc (.cells #[.slice L ln lc, .slice A n c, .slice N m d] 26))
  have h0 := KB.out.cell 0 _ rfl
  have h1 := KB.out.cell 1 _ rfl
  have h2 := KB.out.cell 2 _ rfl
  have K := tof_any l al L A N ln lc n c m d s _ (hm.ext HW0.out) (hL.ext HW0.out) hln (hA.ext HW0.out) hn hz hs hss
  obtain ⟨O, hO⟩ : ∃ O, O = ofC (l.map locOf) al s.data.toList := ⟨_, rfl⟩
  have f0 := fun h => findC_bad (cats := ct.map catOf) (id := id.data.toList) hO h
  have f1 := fun h hf => findC_none (cats := ct.map catOf) (id := id.data.toList) hO h hf
  have f2 := fun k q h hf => findC_some (cats := ct.map catOf) (id := id.data.toList) (k := k) (q := q) hO h hf
  rw [← hO] at K
  generalize findC (l.map locOf) al (ct.map catOf) s.data.toList id.data.toList = F at f0 f1 f2
  have hlen := of_len (T := l.map locOf) (al := al) (s := s.data.toList)
  rw [← hO, List.length_map, hL.len] at hlen
  obtain ⟨tags, e⟩ := O
  simp only at f0 f1 f2 hlen
  have HF0 := Lib.hid f0
  have HF1 := Lib.hid f1
  have HF2 := Lib.hid f2
  have HK := Lib.hid K
  have HE := Lib.hid (hE.ext HW0.out)
  have hcl : (ct.map catOf).length = en := by rw [List.length_map]; exact hE.len
  have HCL := Lib.hid hcl
  have HES := Lib.hid hes
  clear hL hA hz hs K hO f0 f1 f2 hE hcl hes
  go_enter Tryz.func17, Tryz.ntmps17
  go_wp2_with fail
  refine HK.out.mono ?_
  rintro e2 w2 ⟨A2, n2, c2, rfl, hs2, hc2, hw2⟩
  have HS2 := Lib.hid hs2
  have hn2 : tags.length = n2 := by have h := hs2.1; rw [List.length_map] at h; exact h
  have HN2 := Lib.hid hn2
  have hn2b : n2 ≤ 100000 := by omega
  have HW2 := Lib.hid (HW0.out.trans hw2)
  have HE2 := Lib.hid (HE.out.ext hw2)
  clear hw2 hs2 h0 h1 h2 hn2
  simp only
  by_cases he : e = 0
  rotate_left
  · have hnz : (e == 0) = false := by simpa using he
    have HF := Lib.hid (HF0.out he)
    go_wp2
    go_ret3
    exact ret_find HF.out HW2.out
  subst he
  go_wp2_with fail
  go_loopw [29] (TF1 w2 (ct.map catOf) id.data.toList tags n2) (fun i _ => n2 - (intOf i).toNat)
  case atStart => exact ⟨0, Nat.zero_le _, rfl, noT_zero _ _ _, Ext.refl _⟩
  case round =>
    obtain ⟨k, hk, rfl, hno, hw⟩ := hrel
    obtain ⟨wo, rfl⟩ : ∃ wo : World, wo = wr := ⟨_, rfl⟩
    have HNO := Lib.hid hno
    have HWO := Lib.hid hw
    clear hno hw
    by_cases hkn : k < n2
    · obtain ⟨ad, x, rfl, hx, hcx⟩ := (HS2.out.ext HWO.out).at_map hkn
      obtain ⟨xb, hx1, hx2⟩ := strv_b x
      rw [hx1] at hcx
      subst hx2
      have HX := Lib.hid hx
      have hkI : (k : Int) < (n2 : Int) := by omega
      clear hx hx1
      go_wp2_with fail
      go_loopw [35] (TF2 w2 (ct.map catOf) xb.data.toList id.data.toList en) (fun i _ => en - (intOf i).toNat)
      case atStart => exact ⟨0, Nat.zero_le _, rfl, noC_zero _ _ _, HWO.out⟩
      case round =>
        obtain ⟨q, hq, rfl, hno, hw⟩ := hrel
        obtain ⟨wi, rfl⟩ : ∃ wi : World, wi = wr := ⟨_, rfl⟩
        have HNC := Lib.hid hno
        have HWI := Lib.hid hw
        clear hno hw hcx
        by_cases hqn : q < en
        · obtain ⟨y, hy⟩ : ∃ y, ct[q]? = some y := ⟨_, List.getElem?_eq_getElem (by have := HCL.out; rw [List.length_map] at this; omega)⟩
          obtain ⟨b, o, rfl, hb, hc⟩ := (HE2.out.ext HWI.out).at_ hy
          have a0 := hc 0 _ rfl
          have a1 := hc 1 _ rfl
          have a2 := hc 2 _ rfl
          have a3 := hc 3 _ rfl
          rw [Nat.add_zero] at a0
          have hqI : (q : Int) < (en : Int) := by omega
          have HY := Lib.hid (show (ct.map catOf)[q]? = some (catOf y) from by rw [List.getElem?_map, hy]; rfl)
          have HEN := Lib.hid (HE2.out.2 y (List.mem_of_getElem? hy))
          have hy2 := HES.out y (List.mem_of_getElem? hy)
          clear hy hc
          cases ht : (y.t.toList == xb.toList)
          · have HNX := Lib.hid (noC_other HNC.out HY.out (by rw [eq_b] at ht; exact ht))
            go_wp2
            exact ⟨⟨q + 1, by omega, by go_num, HNX.out, HWI.out.alloc _⟩, by simp [intOf]; omega⟩
          · have HT := Lib.hid (show (((catOf y).1 == xb.data.toList) = true) from by rw [eq_b] at ht; exact ht)
            have HYL := Lib.hid (show (catOf y).2.length = y.n 2 from by show (y.es.map entOf).length = _; rw [List.length_map]; exact HEN.out.len)
            go_wp2_with fail
            go_loopw [47] (TF3 w2 (catOf y).2 id.data.toList (y.n 2)) (fun i _ => y.n 2 - (intOf i).toNat)
            case atStart => exact ⟨0, Nat.zero_le _, rfl, noE_zero _ _, HWI.out.alloc _⟩
            case round =>
              obtain ⟨p, hp, rfl, hno, hw⟩ := hrel
              have HNE := Lib.hid hno
              have HW := Lib.hid hw
              clear hno hw a0 a1 a2 a3
              by_cases hpn : p < y.n 2
              · obtain ⟨z, hz⟩ : ∃ z, y.es[p]? = some z := ⟨_, List.getElem?_eq_getElem (by have := HEN.out.len; omega)⟩
                obtain ⟨b2, o2, hA3, hb2, hc2⟩ := (HEN.out.ext HW.out).at_ hz
                rw [hA3]
                have g0 := hc2 0 _ rfl
                have g1 := hc2 1 _ rfl
                have g2 := hc2 2 _ rfl
                have g3 := hc2 3 _ rfl
                have g4 := hc2 4 _ rfl
                have g5 := hc2 5 _ rfl
                have g6 := hc2 6 _ rfl
                rw [Nat.add_zero] at g0
                have hpI : (p : Int) < (y.n 2 : Int) := by omega
                have HZ := Lib.hid (show (catOf y).2[p]? = some (entOf z) from by show (y.es.map entOf)[p]? = _; rw [List.getElem?_map, hz]; rfl)
                have HB := Lib.hid (entB_eq (id := id) (y := z))
                clear hz hc2
                cases t1 : (z.i.toList == id.toList)
                · have HNX := Lib.hid (noE_next HNE.out HZ.out (by rw [HB.out, t1]; rfl))
                  go_wp2
                  exact ⟨⟨p + 1, by omega, by go_num, HNX.out, HW.out.alloc _⟩, by simp [intOf]; omega⟩
                · cases t2 : (z.st == 2)
                  · cases t3 : (z.st == 3)
                    · have HNX := Lib.hid (noE_next HNE.out HZ.out (by rw [HB.out, t1, t2, t3]; rfl))
                      go_wp2
                      exact ⟨⟨p + 1, by omega, by go_num, HNX.out, HW.out.alloc _⟩, by simp [intOf]; omega⟩
                    · have HFF := Lib.hid (HF2.out q p (by first | exact rfl | trivial) (find_found HNO.out HX.out HNC.out HY.out HT.out HNE.out HZ.out (by rw [HB.out, t1, t2, t3]; rfl)))
                      go_wp2
                      go_ret3
                      exact ret_find HFF.out ((HW2.out.trans HW.out).alloc _)
                  · have HFF := Lib.hid (HF2.out q p (by first | exact rfl | trivial) (find_found HNO.out HX.out HNC.out HY.out HT.out HNE.out HZ.out (by rw [HB.out, t1, t2]; rfl)))
                    go_wp2
                    go_ret3
                    exact ret_find HFF.out ((HW2.out.trans HW.out).alloc _)
              · have hpp : p = y.n 2 := by omega
                subst hpp
                have HNX := Lib.hid (noC_none HNC.out HY.out HNE.out (by rw [HYL.out]; exact Nat.le_refl _))
                go_wp2
                exact ⟨⟨q + 1, by omega, by go_num, HNX.out, HW.out⟩, by simp [intOf]; omega⟩
        · have hqq : q = en := by omega
          subst hqq
          have HNX := Lib.hid (noT_next HNO.out HX.out HNC.out (by rw [HCL.out]; exact Nat.le_refl _))
          go_wp2
          exact ⟨⟨k + 1, by omega, by go_num, HNX.out, HWI.out⟩, by simp [intOf]; omega⟩
    · have hkk : k = n2 := by omega
      subst hkk
      have HFF := Lib.hid (HF1.out (by first | exact rfl | trivial) (noT_end HNO.out (by rw [HN2.out]; exact Nat.le_refl _)))
      go_wp2
      go_ret3
      exact ret_find HFF.out (HW2.out.trans HWO.out)
end Go.Proofs.YtehcldnicefmeaaGreatDoor
