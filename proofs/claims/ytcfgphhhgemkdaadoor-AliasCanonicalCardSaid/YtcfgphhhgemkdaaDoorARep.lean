import Derived.Test.YtcfgphhhgemkdaaDoorAFit
import Derived.Test.YtcfgphhhgemkdaaDoorAKeys
import Derived.Outline
namespace Go.Proofs.YtcfgphhhgemkdaaDoor
open Go.RowKit
set_option linter.unusedSimpArgs false
set_option linter.unusedVariables false

def BW (b : Bool) (W : World) (v : Value) (wx : World) : Prop := v = .bool b ∧ wx = W
def EW (W : World) (wx : World) : Prop := wx = W
def RetTag (w : World) (u : TagP) (e : Ending) (w' : World) : Prop := ∃ A' n' c', e = .returned (tagV u A' n' c') ∧ Sl w' A' n' (u.vars.map strv) ∧ n' ≤ c' ∧ Ext w w' ∧ ∀ ad, A' = some ad → w.heap.size ≤ ad.block
def RInv (w Wb : World) (b n M : Nat) (ks : Nat → List (List UInt8)) (i : Value) (wr : World) : Prop :=
  ∃ k m : Nat, k ≤ n ∧ i = .int .i64 k ∧ m ≤ M + k ∧ MapS Tryd.prog 9 4 wr b m (ks k) ∧ Kept (some b) Wb wr ∧ Ext w wr
theorem AtC.kept {T : TypeId} {w w' : World} {g : Nat} {cs : Array Value} {row : Option Nat} (h : AtC T w g cs) (hk : Kept row w w') (hne : some g ≠ row) : AtC T w' g cs := (hk.2 g h.lt hne).trans h
theorem AtT.kept {T : TypeId} {w w' : World} {g : Nat} {v0 v1 v2 v3 : Value} {row : Option Nat} (h : AtT T w g v0 v1 v2 v3) (hk : Kept row w w') (hne : some g ≠ row) : AtT T w' g v0 v1 v2 v3 := (hk.2 g h.lt hne).trans h

theorem empty_eq {x : ByteArray} {b : Bool} (h : (x.toList == []) = b) : x.toList.isEmpty = b := by
  rw [← h]
  cases x.toList <;> rfl
theorem filt_next {f l : List (List UInt8)} {k : Nat} {x : List UInt8} (hx : l[k]? = some x) : (l.take (k + 1)).filter (fun v => !f.contains v) = (l.take k).filter (fun v => !f.contains v) ++ (if f.contains x then [] else [x]) := by
  rw [take_next hx, List.filter_append]
  congr 1
  cases h : f.contains x <;> simp [List.filter_cons, h] <;> simp_all

set_option maxHeartbeats 2000000 in
set_option maxRecDepth 100000 in
theorem trep_any (x : RV) (t : TagP) (A : Option Addr) (n c : Nat) (w : World) (hx : RvOk w x) (hA : Sl w A n (t.vars.map strv)) (hn : n ≤ 60000) (hxn : x.n ≤ 60000) (hxm : x.m ≤ 60000)
    (hd1 : x.r.o.vars.Nodup) (hd2 : t.vars.Nodup) (ht : TL t) (hto : TL x.r.o) :
    Calls Tryd.prog 20 #[.agg (rvC x).toArray, tagV t A n c] w (RetTag w (replP x.r t)) := by
  obtain ⟨r, Af, nf, cf, Ao, no, co⟩ := x
  obtain ⟨f, o⟩ := r
  obtain ⟨hf, ho⟩ := hx
  simp only at hf ho hxn hxm hd1 hto
  have HTL := Lib.hid ht
  have HOL := Lib.hid hto
  clear ht hto
  have hlt : t.vars.length = n := by have := hA.1; rwa [List.length_map] at this
  have hlo : o.vars.length = no := by have := ho.1; rwa [List.length_map] at this
  obtain ⟨flb, hfl1, hfl2⟩ := strv_b f.lang
  obtain ⟨fsb, hfs1, hfs2⟩ := strv_b f.script
  obtain ⟨frb, hfr1, hfr2⟩ := strv_b f.region
  obtain ⟨olb, hol1, hol2⟩ := strv_b o.lang
  obtain ⟨osb, hos1, hos2⟩ := strv_b o.script
  obtain ⟨orb, hor1, hor2⟩ := strv_b o.region
  obtain ⟨tlb, htl1, htl2⟩ := strv_b t.lang
  obtain ⟨tsb, hts1, hts2⟩ := strv_b t.script
  obtain ⟨trb, htr1, htr2⟩ := strv_b t.region
  obtain ⟨b1, hb1⟩ : ∃ b, b = ((!flb.toList == [117, 110, 100]) || (!olb.toList == [117, 110, 100])) := ⟨_, rfl⟩
  obtain ⟨b2, hb2⟩ : ∃ b, b = ((!fsb.toList == []) || (tsb.toList == [])) := ⟨_, rfl⟩
  obtain ⟨b3, hb3⟩ : ∃ b, b = ((!frb.toList == []) || (trb.toList == [])) := ⟨_, rfl⟩
  obtain ⟨lb, hlb⟩ : ∃ l, l = (if b1 then olb else tlb) := ⟨_, rfl⟩
  obtain ⟨sb, hsb⟩ : ∃ l, l = (if b2 then osb else tsb) := ⟨_, rfl⟩
  obtain ⟨rb, hrb⟩ : ∃ l, l = (if b3 then orb else trb) := ⟨_, rfl⟩
  have hrep : replP ⟨f, o⟩ t = ⟨lb.data.toList, sb.data.toList, rb.data.toList, varsP f.vars o.vars t.vars⟩ := by
    unfold replP fieldP
    rw [hlb, hsb, hrb, hb1, hb2, hb3]
    simp only [ByteArray.toList_eq, hfl2, hfs2, hfr2, hol2, hos2, hor2, htl2, hts2, htr2]
    congr 1
    · rw [apply_ite (fun l : ByteArray => l.data.toList), hol2, htl2]
      cases h1 : (f.lang == undP) <;> cases h2 : (o.lang == undP) <;> simp_all [undP]
    · rw [apply_ite (fun l : ByteArray => l.data.toList), hos2, hts2]
      rfl
    · rw [apply_ite (fun l : ByteArray => l.data.toList), hor2, htr2]
      rfl
  rw [hrep]
  unfold rvC tagV
  simp only
  rw [hfl1, hfs1, hfr1, hol1, hos1, hor1, htl1, hts1, htr1]
  have HF := Lib.hid hf
  have HO := Lib.hid ho
  have HA := Lib.hid hA
  have HLT := Lib.hid hlt
  have HLO := Lib.hid hlo
  have HB1 := Lib.hid hb1
  have HB2 := Lib.hid hb2
  have HB3 := Lib.hid hb3
  have HL := Lib.hid hlb
  have HS := Lib.hid hsb
  have HR := Lib.hid hrb
  have HD1 := Lib.hid hd1
  have HD2 := Lib.hid hd2
  clear hf ho hA hlt hlo hb1 hb2 hb3 hlb hsb hrb hrep hfl1 hfs1 hfr1 hol1 hos1 hor1 htl1 hts1 htr1 hfl2 hfs2 hfr2 hol2 hos2 hor2 htl2 hts2 htr2 hd1 hd2
  have hmm := @run_makeMap Tryd.prog
  go_enter Tryd.func20, Tryd.ntmps20
  go_upto_region 1 with (fail)
  go_cut [19] (BW b1 (((w.alloc (.cells #[.string flb, .string fsb, .string frb, .slice Af nf cf, .string olb, .string osb, .string orb, .slice Ao no co] 47)).alloc (.cells #[.string tlb, .string tsb, .string trb, .slice A n c] 42)).alloc (.cells #[.string ⟨#[]⟩, .string ⟨#[]⟩, .string ⟨#[]⟩, .slice none 0 0] 42)))
  case first =>
    cases h1 : (flb.toList == [117, 110, 100]) <;> cases h2 : (olb.toList == [117, 110, 100])
    all_goals go_wp2_with fail
    all_goals go_meet
    all_goals exact ⟨by rw [HB1.out, h1, h2]; simp, rfl⟩
  case rest =>
    obtain ⟨rfl, rfl⟩ := hcut
    go_upto_if 19 with (fail)
    go_cut [] (EW (((w.alloc (.cells #[.string flb, .string fsb, .string frb, .slice Af nf cf, .string olb, .string osb, .string orb, .slice Ao no co] 47)).alloc (.cells #[.string lb, .string tsb, .string trb, .slice A n c] 42)).alloc (.cells #[.string ⟨#[]⟩, .string ⟨#[]⟩, .string ⟨#[]⟩, .slice none 0 0] 42)))
    case first =>
      cases b1
      all_goals go_wp2_with fail
      all_goals go_meet
      all_goals (show _ = _; rw [HL.out]; rfl)
    case rest =>
      obtain rfl := hcut
      go_upto_region 3 with (fail)
      go_cut [32] (BW b2 (((w.alloc (.cells #[.string flb, .string fsb, .string frb, .slice Af nf cf, .string olb, .string osb, .string orb, .slice Ao no co] 47)).alloc (.cells #[.string lb, .string tsb, .string trb, .slice A n c] 42)).alloc (.cells #[.string ⟨#[]⟩, .string ⟨#[]⟩, .string ⟨#[]⟩, .slice none 0 0] 42)))
      case first =>
        cases h1 : (fsb.toList == []) <;> cases h2 : (tsb.toList == [])
        all_goals have h3 := empty_eq h1
        all_goals have h4 := empty_eq h2
        all_goals go_wp2_with fail
        all_goals go_meet
        all_goals exact ⟨by rw [HB2.out, h1, h2]; simp, rfl⟩
      case rest =>
        obtain ⟨rfl, rfl⟩ := hcut
        go_upto_if 32 with (fail)
        go_cut [] (EW (((w.alloc (.cells #[.string flb, .string fsb, .string frb, .slice Af nf cf, .string olb, .string osb, .string orb, .slice Ao no co] 47)).alloc (.cells #[.string lb, .string sb, .string trb, .slice A n c] 42)).alloc (.cells #[.string ⟨#[]⟩, .string ⟨#[]⟩, .string ⟨#[]⟩, .slice none 0 0] 42)))
        case first =>
          cases b2
          all_goals go_wp2_with fail
          all_goals go_meet
          all_goals (show _ = _; rw [HS.out]; rfl)
        case rest =>
          obtain rfl := hcut
          go_upto_region 5 with (fail)
          go_cut [45] (BW b3 (((w.alloc (.cells #[.string flb, .string fsb, .string frb, .slice Af nf cf, .string olb, .string osb, .string orb, .slice Ao no co] 47)).alloc (.cells #[.string lb, .string sb, .string trb, .slice A n c] 42)).alloc (.cells #[.string ⟨#[]⟩, .string ⟨#[]⟩, .string ⟨#[]⟩, .slice none 0 0] 42)))
          case first =>
            cases h1 : (frb.toList == []) <;> cases h2 : (trb.toList == [])
            all_goals have h3 := empty_eq h1
            all_goals have h4 := empty_eq h2
            all_goals go_wp2_with fail
            all_goals go_meet
            all_goals exact ⟨by rw [HB3.out, h1, h2]; simp, rfl⟩
          case rest =>
            obtain ⟨rfl, rfl⟩ := hcut
            go_upto_if 45 with (fail)
            go_cut [] (EW (((w.alloc (.cells #[.string flb, .string fsb, .string frb, .slice Af nf cf, .string olb, .string osb, .string orb, .slice Ao no co] 47)).alloc (.cells #[.string lb, .string sb, .string rb, .slice A n c] 42)).alloc (.cells #[.string ⟨#[]⟩, .string ⟨#[]⟩, .string ⟨#[]⟩, .slice none 0 0] 42)))
            case first =>
              cases b3
              all_goals go_wp2_with fail
              all_goals go_meet
              all_goals (show _ = _; rw [HR.out]; rfl)
            case rest =>
              obtain rfl := hcut
              go_wp2_with fail
              have k1 : AtC 47 ((((w.alloc (.cells #[.string flb, .string fsb, .string frb, .slice Af nf cf, .string olb, .string osb, .string orb, .slice Ao no co] 47)).alloc (.cells #[.string lb, .string sb, .string rb, .slice A n c] 42)).alloc (.cells #[.string ⟨#[]⟩, .string ⟨#[]⟩, .string ⟨#[]⟩, .slice none 0 0] 42)).alloc (.map #[] 0)) w.heap.size #[.string flb, .string fsb, .string frb, .slice Af nf cf, .string olb, .string osb, .string orb, .slice Ao no co] := (((AtC.new w _).alloc _).alloc _).alloc _
              have k2 : AtT 42 ((((w.alloc (.cells #[.string flb, .string fsb, .string frb, .slice Af nf cf, .string olb, .string osb, .string orb, .slice Ao no co] 47)).alloc (.cells #[.string lb, .string sb, .string rb, .slice A n c] 42)).alloc (.cells #[.string ⟨#[]⟩, .string ⟨#[]⟩, .string ⟨#[]⟩, .slice none 0 0] 42)).alloc (.map #[] 0)) (w.heap.size + 1) (.string lb) (.string sb) (.string rb) (.slice A n c) := by
                have h := ((AtT.new (w.alloc (.cells #[.string flb, .string fsb, .string frb, .slice Af nf cf, .string olb, .string osb, .string orb, .slice Ao no co] 47)) : AtT 42 _ _ (.string lb) (.string sb) (.string rb) (.slice A n c)).ext ((Ext.refl _).alloc (.cells #[.string ⟨#[]⟩, .string ⟨#[]⟩, .string ⟨#[]⟩, .slice none 0 0] 42))).ext ((Ext.refl _).alloc (.map #[] 0))
                rwa [show (w.alloc (.cells #[.string flb, .string fsb, .string frb, .slice Af nf cf, .string olb, .string osb, .string orb, .slice Ao no co] 47)).heap.size = w.heap.size + 1 from by simp] at h
              have k3 : AtT 42 ((((w.alloc (.cells #[.string flb, .string fsb, .string frb, .slice Af nf cf, .string olb, .string osb, .string orb, .slice Ao no co] 47)).alloc (.cells #[.string lb, .string sb, .string rb, .slice A n c] 42)).alloc (.cells #[.string ⟨#[]⟩, .string ⟨#[]⟩, .string ⟨#[]⟩, .slice none 0 0] 42)).alloc (.map #[] 0)) (w.heap.size + 1 + 1) (.string ⟨#[]⟩) (.string ⟨#[]⟩) (.string ⟨#[]⟩) (.slice none 0 0) := by
                have h := (AtT.new ((w.alloc (.cells #[.string flb, .string fsb, .string frb, .slice Af nf cf, .string olb, .string osb, .string orb, .slice Ao no co] 47)).alloc (.cells #[.string lb, .string sb, .string rb, .slice A n c] 42)) : AtT 42 _ _ (.string ⟨#[]⟩) (.string ⟨#[]⟩) (.string ⟨#[]⟩) (.slice none 0 0)).ext ((Ext.refl _).alloc (.map #[] 0))
                rwa [show ((w.alloc (.cells #[.string flb, .string fsb, .string frb, .slice Af nf cf, .string olb, .string osb, .string orb, .slice Ao no co] 47)).alloc (.cells #[.string lb, .string sb, .string rb, .slice A n c] 42)).heap.size = w.heap.size + 1 + 1 from by simp] at h
              have k4 : MapS Tryd.prog 9 4 ((((w.alloc (.cells #[.string flb, .string fsb, .string frb, .slice Af nf cf, .string olb, .string osb, .string orb, .slice Ao no co] 47)).alloc (.cells #[.string lb, .string sb, .string rb, .slice A n c] 42)).alloc (.cells #[.string ⟨#[]⟩, .string ⟨#[]⟩, .string ⟨#[]⟩, .slice none 0 0] 42)).alloc (.map #[] 0)) (w.heap.size + 1 + 1 + 1) 0 [] := by
                have h := MapS.made Tryd.prog 9 4 (((w.alloc (.cells #[.string flb, .string fsb, .string frb, .slice Af nf cf, .string olb, .string osb, .string orb, .slice Ao no co] 47)).alloc (.cells #[.string lb, .string sb, .string rb, .slice A n c] 42)).alloc (.cells #[.string ⟨#[]⟩, .string ⟨#[]⟩, .string ⟨#[]⟩, .slice none 0 0] 42))
                rwa [show (((w.alloc (.cells #[.string flb, .string fsb, .string frb, .slice Af nf cf, .string olb, .string osb, .string orb, .slice Ao no co] 47)).alloc (.cells #[.string lb, .string sb, .string rb, .slice A n c] 42)).alloc (.cells #[.string ⟨#[]⟩, .string ⟨#[]⟩, .string ⟨#[]⟩, .slice none 0 0] 42)).heap.size = w.heap.size + 1 + 1 + 1 from by simp] at h
              have k5 : Ext w ((((w.alloc (.cells #[.string flb, .string fsb, .string frb, .slice Af nf cf, .string olb, .string osb, .string orb, .slice Ao no co] 47)).alloc (.cells #[.string lb, .string sb, .string rb, .slice A n c] 42)).alloc (.cells #[.string ⟨#[]⟩, .string ⟨#[]⟩, .string ⟨#[]⟩, .slice none 0 0] 42)).alloc (.map #[] 0)) := ((((Ext.refl w).alloc _).alloc _).alloc _).alloc _
              generalize ((((w.alloc (.cells #[.string flb, .string fsb, .string frb, .slice Af nf cf, .string olb, .string osb, .string orb, .slice Ao no co] 47)).alloc (.cells #[.string lb, .string sb, .string rb, .slice A n c] 42)).alloc (.cells #[.string ⟨#[]⟩, .string ⟨#[]⟩, .string ⟨#[]⟩, .slice none 0 0] 42)).alloc (.map #[] 0)) = Wb at k1 k2 k3 k4 k5 ⊢
              have K1 := Lib.hid k1
              have K2 := Lib.hid k2
              have K3 := Lib.hid k3
              have K4 := Lib.hid k4
              have K5 := Lib.hid k5
              clear k1 k2 k3 k4 k5
              go_loopw [54] (RInv w Wb (w.heap.size + 1 + 1 + 1) n 0 (fun k => (t.vars.take k).filter fun v => !f.vars.contains v)) (fun i _ => n - (intOf i).toNat)
              case atStart => exact ⟨0, 0, Nat.zero_le _, rfl, Nat.le_refl _, K4.out, Kept.refl _ _, K5.out⟩
              case round =>
                obtain ⟨k, m, hk, rfl, hm, hms, hkp, hw⟩ := hrel
                have HMS := Lib.hid hms
                have HKP := Lib.hid hkp
                have HW := Lib.hid hw
                have HK1 := K1.out.kept hkp (by intro h; injection h with h; omega)
                have HK2 := K2.out.kept hkp (by intro h; injection h with h; omega)
                have a3 := HK1.cell 3 _ rfl
                have a7 := HK1.cell 7 _ rfl
                obtain ⟨⟨p0, p1, p2, p3⟩, _⟩ := HK2.cells
                clear hms hkp hw HK1 HK2
                by_cases hkn : k < n
                · cases A with
                  | none => exact absurd (none_nil HA.out) (by omega)
                  | some ad =>
                    obtain ⟨b, o', rfl, hblt⟩ := addr_flat HA.out (by omega)
                    obtain ⟨ad', xb, ha', hu, hc⟩ := (HA.out.ext HW.out).at_map hkn
                    injection ha' with ha'
                    subst ha'
                    rw [add_flat] at hc
                    have hcon := contains_any f.vars xb Af nf cf wr (HF.out.ext HW.out) (by omega)
                    have hfn := filt_next (f := f.vars) hu
                    have hx63 : xb.length ≤ maxLen := HTL.out.2.2.2.1 xb (List.mem_of_getElem? hu)
                    obtain ⟨xbb, hx1, hx2⟩ := strv_b xb
                    rw [hx1] at hc hcon
                    have hxs : xbb.size ≤ maxLen := by rw [← size_list, hx2]; exact hx63
                    have HXS := Lib.hid hxs
                    have HFN := Lib.hid hfn
                    have HX2 := Lib.hid hx2
                    cases hcb : f.vars.contains xb with
                    | false =>
                      rw [hcb] at hcon hfn
                      have HCON := Lib.hid hcon
                      have HFN := Lib.hid hfn
                      clear hcon hu hx1 hx2 hxs hfn hcb hx63
                      go_wp2_with fail
                      with_reducible refine HCON.out.mono ?_
                      rintro e w' ⟨rfl, rfl⟩
                      go_wp2_with (at_mapUpdate; refine wpList_mapUpdateS rfl _ _ _ 58 9 4 rfl Tryd.underlying9 Tryd.underlying4 Tryd.underlying58 (w.heap.size + 1 + 1 + 1) m _ rfl HMS.out (by unfold maxLen; omega) xbb rfl rfl HXS.out ?_; intro w3 hm3 hg3; have HM3 := Lib.hid hm3; have HG3 := Lib.hid hg3; clear hm3 hg3)
                      refine ⟨⟨k + 1, m + 1, by omega, by go_num, by omega, ?_, HKP.out.trans (Kept.grown HG3.out) (.inl rfl), HW.out.grown HG3.out (fun q hq => by injection hq with hq; omega)⟩, by simp [intOf]; omega⟩
                      have h := HM3.out
                      rw [HX2.out] at h
                      show MapS _ _ _ _ _ _ ((t.vars.take (k + 1)).filter fun v => !f.vars.contains v)
                      rw [HFN.out]
                      exact h
                    | true =>
                      rw [hcb] at hcon hfn
                      have HCON := Lib.hid hcon
                      have HFN := Lib.hid hfn
                      clear hcon hu hx1 hx2 hxs hfn hcb hx63
                      go_wp2_with fail
                      with_reducible refine HCON.out.mono ?_
                      rintro e w' ⟨rfl, rfl⟩
                      go_wp2
                      refine ⟨⟨k + 1, m, by omega, by go_num, by omega, ?_, HKP.out, HW.out⟩, by simp [intOf]; omega⟩
                      have h := HMS.out
                      show MapS _ _ _ _ _ _ ((t.vars.take (k + 1)).filter fun v => !f.vars.contains v)
                      rw [HFN.out]
                      simpa using h
                · have hkk : k = n := by omega
                  subst hkk
                  have HMS1 := Lib.hid (show MapS Tryd.prog 9 4 wr (w.heap.size + 1 + 1 + 1) m ((t.vars.filter fun v => !f.vars.contains v) ++ o.vars.take 0) from by
                    have h : MapS Tryd.prog 9 4 wr (w.heap.size + 1 + 1 + 1) m ((t.vars.take k).filter fun v => !f.vars.contains v) := HMS.out
                    rw [List.take_of_length_le (by have := HLT.out; omega)] at h
                    simpa using h)
                  go_wp2_with fail
                  go_loopw [71] (RInv w Wb (w.heap.size + 1 + 1 + 1) no k (fun j => (t.vars.filter fun v => !f.vars.contains v) ++ o.vars.take j)) (fun i _ => no - (intOf i).toNat)
                  case atStart => exact ⟨0, m, Nat.zero_le _, rfl, by omega, HMS1.out, HKP.out, HW.out⟩
                  case round =>
                    obtain ⟨j, m2, hj, rfl, hm2, hms, hkp, hw⟩ := hrel
                    clear p0 p1 p2 p3 a3 a7
                    have HMS2 := Lib.hid hms
                    have HKP2 := Lib.hid hkp
                    have HW2 := Lib.hid hw
                    have HK1 := K1.out.kept hkp (by intro h; injection h with h; omega)
                    have HK2 := Lib.hid (K2.out.kept hkp (by intro h; injection h with h; omega))
                    have HK3 := Lib.hid (K3.out.kept hkp (by intro h; injection h with h; omega))
                    have a7 := HK1.cell 7 _ rfl
                    clear hms hkp hw HK1
                    by_cases hjn : j < no
                    · cases Ao with
                      | none => exact absurd (none_nil HO.out) (by omega)
                      | some ad =>
                        obtain ⟨b, o', rfl, hblt⟩ := addr_flat HO.out (by omega)
                        obtain ⟨ad', xb, ha', hu, hc⟩ := (HO.out.ext HW2.out).at_map hjn
                        injection ha' with ha'
                        subst ha'
                        rw [add_flat] at hc
                        have hfn := take_next hu
                        have hx63 : xb.length ≤ maxLen := HOL.out.2.2.2.1 xb (List.mem_of_getElem? hu)
                        obtain ⟨xbb, hx1, hx2⟩ := strv_b xb
                        rw [hx1] at hc
                        have hxs : xbb.size ≤ maxLen := by rw [← size_list, hx2]; exact hx63
                        have HXS := Lib.hid hxs
                        have HFN := Lib.hid hfn
                        have HX2 := Lib.hid hx2
                        clear hu hx1 hx2 hxs hfn hx63
                        go_wp2_with (at_mapUpdate; refine wpList_mapUpdateS rfl _ _ _ 58 9 4 rfl Tryd.underlying9 Tryd.underlying4 Tryd.underlying58 (w.heap.size + 1 + 1 + 1) m2 _ rfl HMS2.out (by unfold maxLen; omega) xbb rfl rfl HXS.out ?_; intro w3 hm3 hg3; have HM3 := Lib.hid hm3; have HG3 := Lib.hid hg3; clear hm3 hg3)
                        refine ⟨⟨j + 1, m2 + 1, by omega, by go_num, by omega, ?_, HKP2.out.trans (Kept.grown HG3.out) (.inl rfl), HW2.out.grown HG3.out (fun q hq => by injection hq with hq; omega)⟩, by simp [intOf]; omega⟩
                        have h := HM3.out
                        rw [HX2.out] at h
                        show MapS _ _ _ _ _ _ ((t.vars.filter fun v => !f.vars.contains v) ++ o.vars.take (j + 1))
                        rw [HFN.out, ← List.append_assoc]
                        exact h
                    · have hjj : j = no := by omega
                      subst hjj
                      go_wp2_with fail
                      refine (keys_any _ _).mono ?_
                      rintro e w4 ⟨rfl, rfl⟩
                      go_wp2_with fail
                      refine (sorted_any _ _ m2 _ HMS2.out (by omega)).mono ?_
                      rintro e w5 ⟨ss, A5, c5, rfl, hnd5, hmem5, hs5, hc5, hw5, hne5⟩
                      have HW5 := Lib.hid ((HW2.out.alloc _).trans hw5)
                      have HS5 := Lib.hid hs5
                      have HN5 := Lib.hid hne5
                      have hss := varsP_of (f := f.vars) HD1.out HD2.out hnd5 (fun v => by
                        have hm5 : v ∈ ss ↔ v ∈ (t.vars.filter fun v => !f.vars.contains v) ++ o.vars.take j := hmem5 v
                        rw [hm5, List.take_of_length_le (by have := HLO.out; omega), List.mem_append, List.mem_filter]
                        simp)
                      have HSS := Lib.hid hss
                      have HK2' := (HK2.out.ext ((Ext.refl _).alloc _)).ext hw5
                      have HK3' := (HK3.out.ext ((Ext.refl _).alloc _)).ext hw5
                      obtain ⟨⟨p0, p1, p2, p3⟩, ⟨e0, e1, e2, e3⟩⟩ := HK2'.cells
                      obtain ⟨⟨q0, q1, q2, q3⟩, ⟨f0, f1, f2, f3⟩⟩ := HK3'.cells
                      clear hnd5 hmem5 hs5 hw5 hne5 hss HK2' HK3'
                      go_wp2
                      refine bodyPost_ret (v := .agg #[.string lb, .string sb, .string rb, .slice A5 ss.length c5]) ?_ rfl ⟨A5, ss.length, c5, rfl, ?_, hc5, ?_, fun ad had => by have h1 := HN5.out ad had; have h2 := HW2.out.size; simp at h1; omega⟩
                      · simp [results, Tryd.results20, go_sem, p0, p1, p2, p3, e0, e1, e2, e3, q0, q1, q2, q3, f0, f1, f2, f3]
                      · show Sl _ _ _ ((varsP f.vars o.vars t.vars).map strv)
                        rw [← HSS.out]
                        have ne : ∀ g : Nat, g < w.heap.size + 1 + 1 + 1 → ∀ q, ∀ ad, A5 = some ad → ad.block ≠ (⟨g, q, none⟩ : Addr).block := fun g hg q ad had => by
                          have h1 := HN5.out ad had
                          have h2 := HMS2.out.lt
                          simp at h1
                          show ad.block ≠ g
                          omega
                        exact ((((HS5.out.othr _ (ne _ (by omega) _) _).othr _ (ne _ (by omega) _) _).othr _ (ne _ (by omega) _) _).othr _ (ne _ (by omega) _) _).othr _ (ne _ (by omega) _) _
                      · exact ((((HW5.out.setCell (Nat.le_succ _) _).setCell (by show w.heap.size ≤ w.heap.size + 1 + 1; omega) _).setCell (by show w.heap.size ≤ w.heap.size + 1 + 1; omega) _).setCell (by show w.heap.size ≤ w.heap.size + 1 + 1; omega) _).setCell (by show w.heap.size ≤ w.heap.size + 1 + 1; omega) _
end Go.Proofs.YtcfgphhhgemkdaaDoor
