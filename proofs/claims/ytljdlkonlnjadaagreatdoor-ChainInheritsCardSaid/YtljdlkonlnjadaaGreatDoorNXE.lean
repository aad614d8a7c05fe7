import Derived.Test.YtljdlkonlnjadaaGreatDoorNXD
import Derived.Outline
import Derived.Test.YtljdlkonlnjadaaGreatDoorNX6
import Derived.Test.YtljdlkonlnjadaaGreatDoorNX2
import Derived.Test.YtljdlkonlnjadaaGreatDoorNX4
set_option maxRecDepth 100000
set_option linter.unusedSimpArgs false
set_option linter.unusedVariables false
open Go.Lib (hid)
namespace Go.Proofs.YtljdlkonlnjadaaGreatDoor
open Go.RowKit
def BW (b : Bool) (W : World) (v : Value) (wx : World) : Prop := v = .bool b ∧ wx = W
def EW (W : World) (wx : World) : Prop := wx = W
def RetTag (w : World) (u : TagP) (e : Ending) (w' : World) : Prop := ∃ A' n' c', e = .returned (tagV u A' n' c') ∧ Sl w' A' n' (u.vars.map strv) ∧ n' ≤ c' ∧ Ext w w' ∧ ∀ ad, A' = some ad → w.heap.size ≤ ad.block
def RInv (w Wb : World) (b n M : Nat) (ks : Nat → List (List UInt8)) (i : Value) (wr : World) : Prop :=
 ∃ k m : Nat, k ≤ n ∧ i = .int .i64 k ∧ m ≤ M + k ∧ MapS Tryz.prog 9 4 wr b m (ks k) ∧ Kept (some b) Wb wr ∧ Ext w wr
theorem AtC.kept {T : TypeId} {w w' : World} {g : Nat} {cs : Array Value} {row : Option Nat} (h : AtC T w g cs) (hk : Kept row w w') (hne : some g ≠ row) : AtC T w' g cs := (hk.2 g h.lt hne).trans h
theorem AtT.kept {T : TypeId} {w w' : World} {g : Nat} {v0 v1 v2 v3 : Value} {row : Option Nat} (h : AtT T w g v0 v1 v2 v3) (hk : Kept row w w') (hne : some g ≠ row) : AtT T w' g v0 v1 v2 v3 := (hk.2 g h.lt hne).trans h
theorem empty_eq {x : ByteArray} {b : Bool} (h : (x.toList == []) = b) : x.toList.isEmpty = b := by
 rw [← h]
 cases x.toList <;> rfl
theorem filt_next {f l : List (List UInt8)} {k : Nat} {x : List UInt8} (hx : l[k]? = some x) : (l.take (k + 1)).filter (fun v => !f.contains v) = (l.take k).filter (fun v => !f.contains v) ++ (if f.contains x then [] else [x]) := by
 rw [take_next hx, List.filter_append]
 congr 1
 cases h : f.contains x <;> simp [List.filter_cons, h] <;> simp_all
set_option maxHeartbeats 2000000 in
theorem trep_any (x : RV) (t : TagP) (A : Option Addr) (n c : Nat) (w : World) (hx : RvOk w x) (hA : Sl w A n (t.vars.map strv)) (hn : n ≤ 60000) (hxn : x.n ≤ 60000) (hxm : x.m ≤ 60000)
 (hd1 : x.r.o.vars.Nodup) (hd2 : t.vars.Nodup) (ht : TL t) (hto : TL x.r.o) :
 Calls Tryz.prog 169 #[.agg (rvC x).toArray, tagV t A n c] w (RetTag w (replP x.r t)) := by
 obtain ⟨r, Af, nf, cf, Ao, no, co⟩ := x
 obtain ⟨f, o⟩ := r
 obtain ⟨hf, ho⟩ := hx
 simp only at hf ho hxn hxm hd1 hto
 have HTL := hid ht
 have HOL := hid hto
 clear ht hto
 have hlt : t.vars.length = n := by have := hA.1; rwa [List.length_map] at this
 have hlo : o.vars.length = no := by have := ho.1; rwa [List.length_map] at this
 obtain ⟨flb, hfl1, hfl2⟩ := strv_b f.lang
 obtain ⟨fsb, hfs1, hfs2⟩ := strv_b f.script
 obtain ⟨frb, hfr1, hfr2⟩ := strv_b f.region
 obtain ⟨olb, hol1, hol2⟩ := strv_b o.lang
 obtain ⟨osb, hos1, hos2⟩ := strv_b o.script
 obtain ⟨orb, hor1, hor2⟩ := strv_b o.region
 obtain ⟨tlb, htl1, htl2⟩ := strv_b t.lang
 obtain ⟨tsb, hts1, hts2⟩ := strv_b t.script
 obtain ⟨trb, htr1, htr2⟩ := strv_b t.region
 obtain ⟨b1, hb1⟩ : ∃ b, b = ((!flb.toList == [117, 110, 100]) || (!olb.toList == [117, 110, 100])) := ⟨_, rfl⟩
 obtain ⟨b2, hb2⟩ : ∃ b, b = ((!fsb.toList == []) || (tsb.toList == [])) := ⟨_, rfl⟩
 obtain ⟨b3, hb3⟩ : ∃ b, b = ((!frb.toList == []) || (trb.toList == [])) := ⟨_, rfl⟩
 obtain ⟨lb, hlb⟩ : ∃ l, l = (if b1 then olb else tlb) := ⟨_, rfl⟩
 obtain ⟨sb, hsb⟩ : ∃ l, l = (if b2 then osb else tsb) := ⟨_, rfl⟩
 obtain ⟨rb, hrb⟩ : ∃ l, l = (if b3 then orb else trb) := ⟨_, rfl⟩
 have hrep : replP ⟨f, o⟩ t = ⟨lb.data.toList, sb.data.toList, rb.data.toList, varsP f.vars o.vars t.vars⟩ := by
  unfold replP fieldP
  rw [hlb, hsb, hrb, hb1, hb2, hb3]
  simp only [ByteArray.toList_eq, hfl2, hfs2, hfr2, hol2, hos2, hor2, htl2, hts2, htr2]
  congr 1
  ·rw [apply_ite (fun l : ByteArray => l.data.toList), hol2, htl2]
   cases h1 : (f.lang == undP) <;> cases h2 : (o.lang == undP) <;> simp_all [undP]
  ·rw [apply_ite (fun l : ByteArray => l.data.toList), hos2, hts2]
   rfl
  ·rw [apply_ite (fun l : ByteArray => l.data.toList), hor2, htr2]
   rfl
 rw [hrep]
 unfold rvC tagV
 simp only
 rw [hfl1, hfs1, hfr1, hol1, hos1, hor1, htl1, hts1, htr1]
 have HF := hid hf
 have HO := hid ho
 have HA := hid hA
 have HLT := hid hlt
 have HLO := hid hlo
 have HB1 := hid hb1
 have HB2 := hid hb2
 have HB3 := hid hb3
 have HL := hid hlb
 have HS := hid hsb
 have HR := hid hrb
 have HD1 := hid hd1
 have HD2 := hid hd2
 clear hf ho hA hlt hlo hb1 hb2 hb3 hlb hsb hrb hrep hfl1 hfs1 hfr1 hol1 hos1 hor1 htl1 hts1 htr1 hfl2 hfs2 hfr2 hol2 hos2 hor2 htl2 hts2 htr2 hd1 hd2
 have hmm := @run_makeMap Tryz.prog
 go_enter Tryz.func169, Tryz.ntmps169
 go_upto_region 1 with (fail)
 go_cut [19] (BW b1 (((w.alloc (.cells #[.string flb, .string fsb, .string frb, .slice Af nf cf, .string olb, .string osb, .string orb, .slice Ao no co] 210)).alloc (.cells #[.string tlb, .string tsb, .string trb, .slice A n c] 143)).alloc (.cells #[.string ⟨#[]⟩, .string ⟨#[]⟩, .string ⟨#[]⟩, .slice none 0 0] 143)))
 case first =>
  cases h1 : (flb.toList == [117, 110, 100]) <;> cases h2 : (olb.toList == [117, 110, 100])
  all_goals go_wp2_with fail
  all_goals go_meet
  all_goals exact ⟨by rw [HB1.out, h1, h2]; simp, rfl⟩
 case rest =>
  obtain ⟨rfl, rfl⟩ := hcut
  go_upto_if 19 with (fail)
  go_cut [] (EW (((w.alloc (.cells #[.string flb, .string fsb, .string frb, .slice Af nf cf, .string olb, .string osb, .string orb, .slice Ao no co] 210)).alloc (.cells #[.string lb, .string tsb, .string trb, .slice A n c] 143)).alloc (.cells #[.string ⟨#[]⟩, .string ⟨#[]⟩, .string ⟨#[]⟩, .slice none 0 0] 143)))
  case first =>
   cases b1
   all_goals go_wp2_with fail
   all_goals go_meet
   all_goals (show _ = _; rw [HL.out]; rfl)
  case rest =>
   obtain rfl := hcut
   go_upto_region 3 with (fail)
   go_cut [32] (BW b2 (((w.alloc (.cells #[.string flb, .string fsb, .string frb, .slice Af nf cf, .string olb, .string osb, .string orb, .slice Ao no co] 210)).alloc (.cells #[.string lb, .string tsb, .string trb, .slice A n c] 143)).alloc (.cells #[.string ⟨#[]⟩, .string ⟨#[]⟩, .string ⟨#[]⟩, .slice none 0 0] 143)))
   case first =>
    cases h1 : (fsb.toList == []) <;> cases h2 : (tsb.toList == [])
    all_goals have h3 := empty_eq h1
    all_goals have h4 := empty_eq h2
    all_goals go_wp2_with fail
    all_goals go_meet
    all_goals exact ⟨by rw [HB2.out, h1, h2]; simp, rfl⟩
   case rest =>
    obtain ⟨rfl, rfl⟩ := hcut
    go_upto_if 32 with (fail)
    go_cut [] (EW (((w.alloc (.cells #[.string flb, .string fsb, .string frb, .slice Af nf cf, .string olb, .string osb, .string orb, .slice Ao no co] 210)).alloc (.cells #[.string lb, .string sb, .string trb, .slice A n c] 143)).alloc (.cells #[.string ⟨#[]⟩, .string ⟨#[]⟩, .string ⟨#[]⟩, .slice none 0 0] 143)))
    case first =>
     cases b2
     all_goals go_wp2_with fail
     all_goals go_meet
     all_goals (show _ = _; rw [HS.out]; rfl)
    case rest =>
     obtain rfl := hcut
     go_upto_region 5 with (fail)
     go_cut [45] (BW b3 (((w.alloc (.cells #[.string flb, .string fsb, .string frb, .slice Af nf cf, .string olb, .string osb, .string orb, .slice Ao no co] 210)).alloc (.cells #[.string lb, .string sb, .string trb, .slice A n c] 143)).alloc (.cells #[.string ⟨#[]⟩, .string ⟨#[]⟩, .string ⟨#[]⟩, .slice none 0 0] 143)))
     case first =>
      cases h1 : (frb.toList == []) <;> cases h2 : (trb.toList == [])
      all_goals have h3 := empty_eq h1
      all_goals have h4 := empty_eq h2
      all_goals go_wp2_with fail
      all_goals go_meet
      all_goals exact ⟨by rw [HB3.out, h1, h2]; simp, rfl⟩
     case rest =>
      obtain ⟨rfl, rfl⟩ := hcut
      go_upto_if 45 with (fail)
      go_cut [] (EW (((w.alloc (.cells #[.string flb, .string fsb, .string frb, .slice Af nf cf, .string olb, .string osb, .string orb, .slice Ao no co] 210)).alloc (.cells #[.string lb, .string sb, .string rb, .slice A n c] 143)).alloc (.cells #[.string ⟨#[]⟩, .string ⟨#[]⟩, .string ⟨#[]⟩, .slice none 0 0] 143)))
      case first =>
       cases b3
       all_goals go_wp2_with fail
       all_goals go_meet
       all_goals (show _ = _; rw [HR.out]; rfl)
      case rest =>
       obtain rfl := hcut
       go_wp2_with fail
       have k1 : AtC 210 ((((w.alloc (.cells #[.string flb, .string fsb, .string frb, .slice Af nf cf, .string olb, .string osb, .string orb, .slice Ao no co] 210)).alloc (.cells #[.string lb, .string sb, .string rb, .slice A n c] 143)).alloc (.cells #[.string ⟨#[]⟩, .string ⟨#[]⟩, .string ⟨#[]⟩, .slice none 0 0] 143)).alloc (.map #[] 0)) w.heap.size #[.string flb, .string fsb, .string frb, .slice Af nf cf, .string olb, .string osb, .string orb, .slice Ao no co] := (((AtC.new w _).alloc _).alloc _).alloc _
       have k2 : AtT 143 ((((w.alloc (.cells #[.string flb, .string fsb, .string frb, .slice Af nf cf, .string olb, .string osb, .string orb, .slice Ao no co] 210)).alloc (.cells #[.string lb, .string sb, .string rb, .slice A n c] 143)).alloc (.cells #[.string ⟨#[]⟩, .string ⟨#[]⟩, .string ⟨#[]⟩, .slice none 0 0] 143)).alloc (.map #[] 0)) (w.heap.size + 1) (.string lb) (.string sb) (.string rb) (.slice A n c) := by
        have h := ((AtT.new (w.alloc (.cells #[.string flb, .string fsb, .string frb, .slice Af nf cf, .string olb, .string osb, .string orb, .slice Ao no co] 210)) : AtT 143 _ _ (.string lb) (.string sb) (.string rb) (.slice A n c)).ext ((Ext.refl _).alloc (.cells #[.string ⟨#[]⟩, .string ⟨#[]⟩, .string ⟨#[]⟩, .slice none 0 0] 143))).ext ((Ext.refl _).alloc (.map #[] 0))
        rwa [show (w.alloc (.cells #[.string flb, .string fsb, .string frb, .slice Af nf cf, .string olb, .string osb, .string orb, .slice Ao no co] 210)).heap.size = w.heap.size + 1 from by simp] at h
       have k3 : AtT 143 ((((w.alloc (.cells #[.string flb, .string fsb, .string frb, .slice Af nf cf, .string olb, .string osb, .string orb, .slice Ao no co] 210)).alloc (.cells #[.string lb, .string sb, .string rb, .slice A n c] 143)).alloc (.cells #[.string ⟨#[]⟩, .string ⟨#[]⟩, .string ⟨#[]⟩, .slice none 0 0] 143)).alloc (.map #[] 0)) (w.heap.size + 1 + 1) (.string ⟨#[]⟩) (.string ⟨#[]⟩) (.string ⟨#[]⟩) (.slice none 0 0) := by
        have h := (AtT.new ((w.alloc (.cells #[.string flb, .string fsb, .string frb, .slice Af nf cf, .string olb, .string osb, .string orb, .slice Ao no co] 210)).alloc (.cells #[.string lb, .string sb, .string rb, .slice A n c] 143)) : AtT 143 _ _ (.string ⟨#[]⟩) (.string ⟨#[]⟩) (.string ⟨#[]⟩) (.slice none 0 0)).ext ((Ext.refl _).alloc (.map #[] 0))
        rwa [show ((w.alloc (.cells #[.string flb, .string fsb, .string frb, .slice Af nf cf, .string olb, .string osb, .string orb, .slice Ao no co] 210)).alloc (.cells #[.string lb, .string sb, .string rb, .slice A n c] 143)).heap.size = w.heap.size + 1 + 1 from by simp] at h
       have k4 : MapS Tryz.prog 9 4 ((((w.alloc (.cells #[.string flb, .string fsb, .string frb, .slice Af nf cf, .string olb, .string osb, .string orb, .slice Ao no co] 210)).alloc (.cells #[.string lb, .string sb, .string rb, .slice A n c] 143)).alloc (.cells #[.string ⟨#[]⟩, .string ⟨#[]⟩, .string ⟨#[]⟩, .slice none 0 0] 143)).alloc (.map #[] 0)) (w.heap.size + 1 + 1 + 1) 0 [] := by
        have h := MapS.made Tryz.prog 9 4 (((w.alloc (.cells #[.string flb, .string fsb, .string frb, .slice Af nf cf, .string olb, .string osb, .string orb, .slice Ao no co] 210)).alloc (.cells #[.string lb, .string sb, .string rb, .slice A n c] 143)).alloc (.cells #[.string ⟨#[]⟩, .string ⟨#[]⟩, .string ⟨#[]⟩, .slice none 0 0] 143))
        rwa [show (((w.alloc (.cells #[.string flb, .string fsb, .string frb, .slice Af nf cf, .string olb, .string osb, .string orb, .slice Ao no co] 210)).alloc (.cells #[.string lb, .string sb, .string rb, .slice A n c] 143)).alloc (.cells #[.string ⟨#[]⟩, .string ⟨#[]⟩, .string ⟨#[]⟩, .slice none 0 0] 143)).heap.size = w.heap.size + 1 + 1 + 1 from by simp] at h
       have k5 : Ext w ((((w.alloc (.cells #[.string flb, .string fsb, .string frb, .slice Af nf cf, .string olb, .string osb, .string orb, .slice Ao no co] 210)).alloc (.cells #[.string lb, .string sb, .string rb, .slice A n c] 143)).alloc (.cells #[.string ⟨#[]⟩, .string ⟨#[]⟩, .string ⟨#[]⟩, .slice none 0 0] 143)).alloc (.map #[] 0)) := ((((Ext.refl w).alloc _).alloc _).alloc _).alloc _
       generalize ((((w.alloc (.cells #[.string flb, .string fsb, .string frb, .slice Af nf cf, .string olb, .string osb, .string orb, .slice Ao no co] 210)).alloc (.cells #[.string lb, .string sb, .string rb, .slice A n c] 143)).alloc (.cells #[.string ⟨#[]⟩, .string ⟨#[]⟩, .string ⟨#[]⟩, .slice none 0 0] 143)).alloc (.map #[] 0)) = Wb at k1 k2 k3 k4 k5 ⊢
       have K1 := hid k1
       have K2 := hid k2
       have K3 := hid k3
       have K4 := hid k4
       have K5 := hid k5
       clear k1 k2 k3 k4 k5
       go_loopw [54] (RInv w Wb (w.heap.size + 1 + 1 + 1) n 0 (fun k => (t.vars.take k).filter fun v => !f.vars.contains v)) (fun i _ => n - (intOf i).toNat)
       case atStart => exact ⟨0, 0, Nat.zero_le _, rfl, Nat.le_refl _, K4.out, Kept.refl _ _, K5.out⟩
       case round =>
        obtain ⟨k, m, hk, rfl, hm, hms, hkp, hw⟩ := hrel
        have HMS := hid hms
        have HKP := hid hkp
        have HW := hid hw
        have HK1 := K1.out.kept hkp (by intro h; injection h with h; omega)
        have HK2 := K2.out.kept hkp (by intro h; injection h with h; omega)
        have a3 := HK1.cell 3 _ rfl
        have a7 := HK1.cell 7 _ rfl
        obtain ⟨⟨p0, p1, p2, p3⟩, _⟩ := HK2.cells
        clear hms hkp hw HK1 HK2
        by_cases hkn : k < n
        ·cases A with
         | none => exact absurd (none_nil HA.out) (by omega)
         | some ad =>
           obtain ⟨b, o', rfl, hblt⟩ := addr_flat HA.out (by omega)
           obtain ⟨ad', xb, ha', hu, hc⟩ := (HA.out.ext HW.out).at_map hkn
           injection ha' with ha'
           subst ha'
           rw [add_flat] at hc
           have hcon := contains_any f.vars xb Af nf cf wr (HF.out.ext HW.out) (by omega)
           have hfn := filt_next (f := f.vars) hu
           have hx63 : xb.length ≤ maxLen := HTL.out.2.2.2.1 xb (List.mem_of_getElem? hu)
           obtain ⟨xbb, hx1, hx2⟩ := strv_b xb
           rw [hx1] at hc hcon
           have hxs : xbb.size ≤ maxLen := by rw [← size_list, hx2]; exact hx63
           have HXS := hid hxs
           have HFN := hid hfn
           have HX2 := hid hx2
           cases hcb : f.vars.contains xb with
           | false =>
             rw [hcb] at hcon hfn
             have HCON := hid hcon
             have HFN := hid hfn
             clear hcon hu hx1 hx2 hxs hfn hcb hx63
             go_wp2_with fail
             with_reducible refine HCON.out.mono ?_
             rintro e w' ⟨rfl, rfl⟩
             go_wp2_with (at_mapUpdate; refine wpList_mapUpdateS rfl _ _ _ 121 9 4 rfl Tryz.underlying9 Tryz.underlying4 Tryz.underlying121 (w.heap.size + 1 + 1 + 1) m _ rfl HMS.out (by unfold maxLen; omega) xbb rfl rfl HXS.out ?_; intro w3 hm3 hg3; have HM3 := hid hm3; have HG3 := hid hg3; clear hm3 hg3)
             refine ⟨⟨k + 1, m + 1, by omega, by go_num, by omega, ?_, HKP.out.trans (Kept.grown HG3.out) (.inl rfl), HW.out.grown HG3.out (fun q hq => by injection hq with hq; omega)⟩, by simp [intOf]; omega⟩
             have h := HM3.out
             rw [HX2.out] at h
             show MapS _ _ _ _ _ _ ((t.vars.take (k + 1)).filter fun v => !f.vars.contains v)
             rw [HFN.out]
             exact h
           | true =>
             rw [hcb] at hcon hfn
             have HCON := hid hcon
             have HFN := hid hfn
             clear hcon hu hx1 hx2 hxs hfn hcb hx63
             go_wp2_with fail
             with_reducible refine HCON.out.mono ?_
             rintro e w' ⟨rfl, rfl⟩
             go_wp2
             refine ⟨⟨k + 1, m, by omega, by go_num, by omega, ?_, HKP.out, HW.out⟩, by simp [intOf]; omega⟩
             have h := HMS.out
             show MapS _ _ _ _ _ _ ((t.vars.take (k + 1)).filter fun v => !f.vars.contains v)
             rw [HFN.out]
             simpa using h
        ·have hkk : k = n := by omega
         subst hkk
         have HMS1 := hid (show MapS Tryz.prog 9 4 wr (w.heap.size + 1 + 1 + 1) m ((t.vars.filter fun v => !f.vars.contains v) ++ o.vars.take 0) from by
          have h : MapS Tryz.prog 9 4 wr (w.heap.size + 1 + 1 + 1) m ((t.vars.take k).filter fun v => !f.vars.contains v) := HMS.out
          rw [List.take_of_length_le (by have := HLT.out; omega)] at h
          simpa using h)
         go_wp2_with fail
         go_loopw [71] (RInv w Wb (w.heap.size + 1 + 1 + 1) no k (fun j => (t.vars.filter fun v => !f.vars.contains v) ++ o.vars.take j)) (fun i _ => no - (intOf i).toNat)
         case atStart => exact ⟨0, m, Nat.zero_le _, rfl, by omega, HMS1.out, HKP.out, HW.out⟩
         case round =>
          obtain ⟨j, m2, hj, rfl, hm2, hms, hkp, hw⟩ := hrel
          clear p0 p1 p2 p3 a3 a7
          have HMS2 := hid hms
          have HKP2 := hid hkp
          have HW2 := hid hw
          have HK1 := K1.out.kept hkp (by intro h; injection h with h; omega)
          have HK2 := hid (K2.out.kept hkp (by intro h; injection h with h; omega))
          have HK3 := hid (K3.out.kept hkp (by intro h; injection h with h; omega))
          have a7 := HK1.cell 7 _ rfl
          clear hms hkp hw HK1
          by_cases hjn : j < no
          ·cases Ao with
           | none => exact absurd (none_nil HO.out) (by omega)
           | some ad =>
             obtain ⟨b, o', rfl, hblt⟩ := addr_flat HO.out (by omega)
             obtain ⟨ad', xb, ha', hu, hc⟩ := (HO.out.ext HW2.out).at_map hjn
             injection ha' with ha'
             subst ha'
             rw [add_flat] at hc
             have hfn := take_next hu
             have hx63 : xb.length ≤ maxLen := HOL.out.2.2.2.1 xb (List.mem_of_getElem? hu)
             obtain ⟨xbb, hx1, hx2⟩ := strv_b xb
             rw [hx1] at hc
             have hxs : xbb.size ≤ maxLen := by rw [← size_list, hx2]; exact hx63
             have HXS := hid hxs
             have HFN := hid hfn
             have HX2 := hid hx2
             clear hu hx1 hx2 hxs hfn hx63
             go_wp2_with (at_mapUpdate; refine wpList_mapUpdateS rfl _ _ _ 121 9 4 rfl Tryz.underlying9 Tryz.underlying4 Tryz.underlying121 (w.heap.size + 1 + 1 + 1) m2 _ rfl HMS2.out (by unfold maxLen; omega) xbb rfl rfl HXS.out ?_; intro w3 hm3 hg3; have HM3 := hid hm3; have HG3 := hid hg3; clear hm3 hg3)
             refine ⟨⟨j + 1, m2 + 1, by omega, by go_num, by omega, ?_, HKP2.out.trans (Kept.grown HG3.out) (.inl rfl), HW2.out.grown HG3.out (fun q hq => by injection hq with hq; omega)⟩, by simp [intOf]; omega⟩
             have h := HM3.out
             rw [HX2.out] at h
             show MapS _ _ _ _ _ _ ((t.vars.filter fun v => !f.vars.contains v) ++ o.vars.take (j + 1))
             rw [HFN.out, ← List.append_assoc]
             exact h
          ·have hjj : j = no := by omega
           subst hjj
           go_wp2_with fail
           refine (keys_any _ _).mono ?_
           rintro e w4 ⟨rfl, rfl⟩
           go_wp2_with fail
           refine (sorted_any _ _ m2 _ HMS2.out (by omega)).mono ?_
           rintro e w5 ⟨ss, A5, c5, rfl, hnd5, hmem5, hs5, hc5, hw5, hne5⟩
           have HW5 := hid ((HW2.out.alloc _).trans hw5)
           have HS5 := hid hs5
           have HN5 := hid hne5
           have hss := varsP_of (f := f.vars) HD1.out HD2.out hnd5 (fun v => by
            have hm5 : v ∈ ss ↔ v ∈ (t.vars.filter fun v => !f.vars.contains v) ++ o.vars.take j := hmem5 v
            rw [hm5, List.take_of_length_le (by have := HLO.out; omega), List.mem_append, List.mem_filter]
            simp)
           have HSS := hid hss
           have HK2' := (HK2.out.ext ((Ext.refl _).alloc _)).ext hw5
           have HK3' := (HK3.out.ext ((Ext.refl _).alloc _)).ext hw5
           obtain ⟨⟨p0, p1, p2, p3⟩, ⟨e0, e1, e2, e3⟩⟩ := HK2'.cells
           obtain ⟨⟨q0, q1, q2, q3⟩, ⟨f0, f1, f2, f3⟩⟩ := HK3'.cells
           clear hnd5 hmem5 hs5 hw5 hne5 hss HK2' HK3'
           go_wp2
           refine bodyPost_ret (v := .agg #[.string lb, .string sb, .string rb, .slice A5 ss.length c5]) ?_ rfl ⟨A5, ss.length, c5, rfl, ?_, hc5, ?_, fun ad had => by have h1 := HN5.out ad had; have h2 := HW2.out.size; simp at h1; omega⟩
           ·simp [results, Tryz.results169, go_sem, p0, p1, p2, p3, e0, e1, e2, e3, q0, q1, q2, q3, f0, f1, f2, f3]
           ·show Sl _ _ _ ((varsP f.vars o.vars t.vars).map strv)
            rw [← HSS.out]
            have ne : ∀ g : Nat, g < w.heap.size + 1 + 1 + 1 → ∀ q, ∀ ad, A5 = some ad → ad.block ≠ (⟨g, q, none⟩ : Addr).block := fun g hg q ad had => by
             have h1 := HN5.out ad had
             have h2 := HMS2.out.lt
             simp at h1
             show ad.block ≠ g
             omega
            exact ((((HS5.out.othr _ (ne _ (by omega) _) _).othr _ (ne _ (by omega) _) _).othr _ (ne _ (by omega) _) _).othr _ (ne _ (by omega) _) _).othr _ (ne _ (by omega) _) _
           ·exact ((((HW5.out.setCell (Nat.le_succ _) _).setCell (by show w.heap.size ≤ w.heap.size + 1 + 1; omega) _).setCell (by show w.heap.size ≤ w.heap.size + 1 + 1; omega) _).setCell (by show w.heap.size ≤ w.heap.size + 1 + 1; omega) _).setCell (by show w.heap.size ≤ w.heap.size + 1 + 1; omega) _
end Go.Proofs.YtljdlkonlnjadaaGreatDoor
namespace Go.Proofs.YtljdlkonlnjadaaGreatDoor
open Go.RowKit
def RetRule (w : World) (a : Ali) (e : Ending) (w' : World) : Prop := ∃ x : RV, e = .returned (.tuple #[.agg (rvC x).toArray, .bool (aliB a)]) ∧ x.r = ruleOf a ∧ RvOk w' x ∧ Ext w w' ∧ (∀ ad, x.A = some ad → w.heap.size ≤ ad.block) ∧ (∀ ad, x.B = some ad → w.heap.size ≤ ad.block)
theorem ali_split (fb ob : ByteArray) (t1 t2 : TagP) (e1 e2 : Int) (h1 : parseP EC fb.data.toList = (t1, e1)) (h2 : parseP EC ob.data.toList = (t2, e2)) (x1 x2 : ByteArray) (hx1 : x1.data.toList = txtOf t1) (hx2 : x2.data.toList = txtOf t2) :
 aliB (fb, ob) = ((e1 == 0) && ((e2 == 0) && ((x1.toList == fb.toList) && ((x2.toList == ob.toList) && !(fb.toList == [117, 110, 100]))))) := by
 have g : ∀ (s x : ByteArray) (t : TagP) (e : Int), parseP EC s.data.toList = (t, e) → x.data.toList = txtOf t → isP s.data.toList = ((e == 0) && (x.toList == s.toList)) := by
  intro s x t e h hx
  unfold isP canP
  rw [h, eq_b, hx]
  simp only
  by_cases h0 : e = 0
  ·subst h0
   have hv : validP t = true := by have := parse_ok (s := s.data.toList) (by rw [h]); rwa [h] at this
   unfold txtOf
   rw [if_pos rfl, if_pos hv]
  ·have : (e == 0) = false := by simpa using h0
   rw [this]
   rfl
 unfold aliB
 simp only
 rw [g fb x1 t1 e1 h1 hx1, g ob x2 t2 e2 h2 hx2, ← ByteArray.toList_eq fb]
 show _ = _
 cases (e1 == 0) <;> cases (e2 == 0) <;> cases (x1.toList == fb.toList) <;> cases (x2.toList == ob.toList) <;> rfl
theorem kept_set (w : World) (g j : Nat) (u : Value) : Kept (some g) w (w.setCell ⟨g, j, none⟩ u) :=
 ⟨by simp [World.setCell], fun b hb hne => heap_setCell_other w _ b u (by intro h; apply hne; show some b = some g; rw [h])⟩
def set8 (w : World) (g : Nat) (u0 u1 u2 u3 u4 u5 u6 u7 : Value) : World := ((((((((w.setCell ⟨g, 0, none⟩ u0).setCell ⟨g, 1, none⟩ u1).setCell ⟨g, 2, none⟩ u2).setCell ⟨g, 3, none⟩ u3).setCell ⟨g, 4, none⟩ u4).setCell ⟨g, 5, none⟩ u5).setCell ⟨g, 6, none⟩ u6).setCell ⟨g, 7, none⟩ u7)
theorem kept_set8 (w : World) (g : Nat) (u0 u1 u2 u3 u4 u5 u6 u7 : Value) : Kept (some g) w (set8 w g u0 u1 u2 u3 u4 u5 u6 u7) := (((((((kept_set _ _ _ _).trans (kept_set _ _ _ _) (.inl rfl)).trans (kept_set _ _ _ _) (.inl rfl)).trans (kept_set _ _ _ _) (.inl rfl)).trans (kept_set _ _ _ _) (.inl rfl)).trans (kept_set _ _ _ _) (.inl rfl)).trans (kept_set _ _ _ _) (.inl rfl)).trans (kept_set _ _ _ _) (.inl rfl)
theorem ext_set8 {a w : World} (h : Ext a w) (g : Nat) (hg : a.heap.size ≤ g) (u0 u1 u2 u3 u4 u5 u6 u7 : Value) : Ext a (set8 w g u0 u1 u2 u3 u4 u5 u6 u7) := ((((((((h.setCell hg _).setCell hg _).setCell hg _).setCell hg _).setCell hg _).setCell hg _).setCell hg _).setCell hg _)
theorem Sl.zeroed {T : TypeId} {w w' : World} {g : Nat} {cs : Array Value} {A : Option Addr} {n : Nat} {l : List (List UInt8)} (h : Sl w A n (l.map strv)) (hne : ∀ x ∈ l, x ≠ []) (hz : AtC T w g cs)
 (hcs : ∀ u ∈ cs.toList, u = .string ⟨#[]⟩ ∨ u = .slice none 0 0) (hk : Kept (some g) w w') : Sl w' A n (l.map strv) :=
 ⟨h.1, fun j u hu => by
  obtain ⟨ad, ha, hb, hc⟩ := h.2 j u hu
  obtain ⟨x, hx, rfl⟩ := List.mem_map.1 (List.mem_of_getElem? hu)
  have hg : ad.block ≠ g := by
   intro hg
   have h2 := hc
   unfold World.cell? at h2
   rw [show (ad.add j).block = g from by rw [addr_block]; exact hg, show w.heap[g]? = some (.cells cs T (0, 0)) from hz] at h2
   have h3 : ∃ i : Nat, cs[i]? = some (strv x) := by
    revert h2
    simp only
    split <;> intro h2 <;> first | exact ⟨_, h2⟩ | cases h2
   obtain ⟨i, h3⟩ := h3
   have h4 : strv x ∈ cs.toList := by
    rw [← Array.getElem?_toList] at h3
    exact List.mem_of_getElem? h3
   rcases hcs _ h4 with h5 | h5
   ·unfold strv at h5
    injection h5 with h5
    have h6 := congrArg (fun b : ByteArray => b.data.toList) h5
    simp at h6
    exact hne x hx h6
   ·cases h5
  refine ⟨ad, ha, Nat.lt_of_lt_of_le hb hk.1, ?_⟩
  rw [← hc]
  exact World.cell?_of_block (by rw [addr_block]; exact hk.2 ad.block hb (by intro h; injection h with h; exact hg h))⟩
theorem parse_vars_ne (s : List UInt8) : ∀ x ∈ (parseP EC s).1.vars, x ≠ [] := by
 by_cases h0 : (parseP EC s).2 = 0
 ·intro x hx
  exact variant_ne ((valid_parts (parse_ok h0)).2.2.2.1 x hx)
 ·rw [parse_zero EC s h0]
  intro x hx
  cases hx
def BX (b : Bool) (W : World) (v : Value) (wx : World) : Prop := v = .bool b ∧ Ext W wx
set_option maxHeartbeats 2000000 in
theorem read_any (fb ob : ByteArray) (w : World) (hm : Mx w) (h1 : fb.size ≤ 60000) (h2 : ob.size ≤ 60000) :
 Calls Tryz.prog 161 #[.agg #[.string fb, .string ob]] w (RetRule w (fb, ob)) := by
 have hp1 := fun W hW => tparse_fresh fb W hW h1
 have hp2 := fun W hW => tparse_fresh ob W hW h2
 have htl1 := TL_parse fb.data.toList
 have hv1 := parse_vars_ne fb.data.toList
 have hv2 := parse_vars_ne ob.data.toList
 have htl2 := TL_parse ob.data.toList
 have hsp := ali_split fb ob
 have hru : ruleOf (fb, ob) = ⟨(parseP EC fb.data.toList).1, (parseP EC ob.data.toList).1⟩ := rfl
 generalize parseP EC fb.data.toList = R1 at hp1 htl1 hsp hru hv1
 generalize parseP EC ob.data.toList = R2 at hp2 htl2 hsp hru hv2
 obtain ⟨t1, e1⟩ := R1
 obtain ⟨t2, e2⟩ := R2
 simp only at hp1 hp2 htl1 htl2 hru hv1 hv2
 have HV1 := hid hv1
 have HV2 := hid hv2
 clear hv1 hv2
 obtain ⟨x1, hx1, hx1'⟩ := strv_b (txtOf t1)
 obtain ⟨x2, hx2, hx2'⟩ := strv_b (txtOf t2)
 have hal := hsp t1 t2 e1 e2 rfl rfl x1 x2 hx1' hx2'
 have ht1 := fun A n c W h => tText_any t1 A n c W h htl1
 have ht2 := fun A n c W h => tText_any t2 A n c W h htl2
 rw [hx1] at ht1
 rw [hx2] at ht2
 obtain ⟨l1, hl1, _⟩ := strv_b t1.lang
 obtain ⟨s1, hs1, _⟩ := strv_b t1.script
 obtain ⟨r1, hr1, _⟩ := strv_b t1.region
 obtain ⟨l2, hl2, _⟩ := strv_b t2.lang
 obtain ⟨s2, hs2, _⟩ := strv_b t2.script
 obtain ⟨r2, hr2, _⟩ := strv_b t2.region
 have fin : ∀ (A1 A2 : Option Addr) (n1 c1 n2 c2 : Nat) (w' : World), Sl w' A1 n1 (t1.vars.map strv) → Sl w' A2 n2 (t2.vars.map strv) → Ext w w' → (∀ ad, A1 = some ad → w.heap.size ≤ ad.block) → (∀ ad, A2 = some ad → w.heap.size ≤ ad.block) →
  RetRule w (fb, ob) (.returned (.tuple #[.agg #[.string l1, .string s1, .string r1, .slice A1 n1 c1, .string l2, .string s2, .string r2, .slice A2 n2 c2], .bool (aliB (fb, ob))])) w' := by
  intro A1 A2 n1 c1 n2 c2 w' h1 h2 h3 g1 g2
  refine ⟨⟨⟨t1, t2⟩, A1, n1, c1, A2, n2, c2⟩, ?_, hru.symm, ⟨h1, h2⟩, h3, g1, g2⟩
  unfold rvC
  simp only
  rw [hl1, hs1, hr1, hl2, hs2, hr2]
 unfold tagV at hp1 hp2 ht1 ht2
 rw [hl1, hs1, hr1] at hp1 ht1
 rw [hl2, hs2, hr2] at hp2 ht2
 have HP1 := hid hp1
 have HP2 := hid hp2
 have HT1 := hid ht1
 have HT2 := hid ht2
 have HAL := hid hal
 have FIN := hid fin
 clear hp1 hp2 ht1 ht2 hal fin hru hsp hl1 hs1 hr1 hl2 hs2 hr2 hx1 hx2 hx1' hx2' htl1 htl2
 go_enter Tryz.func161, Tryz.ntmps161
 go_wp2_with fail
 have k1 : AtC 103 ((w.alloc (.cells #[.string fb, .string ob] 103)).alloc (.cells #[.string ⟨#[]⟩, .string ⟨#[]⟩, .string ⟨#[]⟩, .slice none 0 0, .string ⟨#[]⟩, .string ⟨#[]⟩, .string ⟨#[]⟩, .slice none 0 0] 210)) w.heap.size #[.string fb, .string ob] := (AtC.new w _).alloc _
 have k2 : AtC 210 ((w.alloc (.cells #[.string fb, .string ob] 103)).alloc (.cells #[.string ⟨#[]⟩, .string ⟨#[]⟩, .string ⟨#[]⟩, .slice none 0 0, .string ⟨#[]⟩, .string ⟨#[]⟩, .string ⟨#[]⟩, .slice none 0 0] 210)) (w.heap.size + 1) #[.string ⟨#[]⟩, .string ⟨#[]⟩, .string ⟨#[]⟩, .slice none 0 0, .string ⟨#[]⟩, .string ⟨#[]⟩, .string ⟨#[]⟩, .slice none 0 0] := by
  have h := (AtC.new (w.alloc (.cells #[.string fb, .string ob] 103)) #[.string ⟨#[]⟩, .string ⟨#[]⟩, .string ⟨#[]⟩, .slice none 0 0, .string ⟨#[]⟩, .string ⟨#[]⟩, .string ⟨#[]⟩, .slice none 0 0] : AtC 210 _ _ _)
  rwa [show (w.alloc (.cells #[.string fb, .string ob] 103)).heap.size = w.heap.size + 1 from by simp] at h
 have k3 : Ext w ((w.alloc (.cells #[.string fb, .string ob] 103)).alloc (.cells #[.string ⟨#[]⟩, .string ⟨#[]⟩, .string ⟨#[]⟩, .slice none 0 0, .string ⟨#[]⟩, .string ⟨#[]⟩, .string ⟨#[]⟩, .slice none 0 0] 210)) := ((Ext.refl w).alloc _).alloc _
 generalize ((w.alloc (.cells #[.string fb, .string ob] 103)).alloc (.cells #[.string ⟨#[]⟩, .string ⟨#[]⟩, .string ⟨#[]⟩, .slice none 0 0, .string ⟨#[]⟩, .string ⟨#[]⟩, .string ⟨#[]⟩, .slice none 0 0] 210)) = Wb at k1 k2 k3 ⊢
 refine (HP1.out Wb (hm.ext k3)).mono ?_
 rintro e w1 ⟨A1, n1, c1, rfl, hs1, _, hw1, hf1⟩
 have F1 : Hid (∀ ad, A1 = some ad → w.heap.size ≤ ad.block) := hid fun ad h => Nat.le_trans k3.size (hf1 ad h)
 clear hf1
 have K1 := hid ((k1.ext hw1).alloc (.cells #[.string l1, .string s1, .string r1, .slice A1 n1 c1] 143))
 have K2 := hid ((k2.ext hw1).alloc (.cells #[.string l1, .string s1, .string r1, .slice A1 n1 c1] 143))
 have K3 := hid ((k3.trans hw1).alloc (.cells #[.string l1, .string s1, .string r1, .slice A1 n1 c1] 143))
 have K4 := hid (AtC.new w1 _ : AtC 143 _ _ #[.string l1, .string s1, .string r1, .slice A1 n1 c1])
 have S1 := hid (hs1.ext ((Ext.refl w1).alloc (.cells #[.string l1, .string s1, .string r1, .slice A1 n1 c1] 143)))
 have a1 := (k1.ext hw1).cell 1 _ rfl
 have a0 := (k1.ext hw1).cell 0 _ rfl
 have q1 := K1.out.cell 1 _ rfl
 clear k1 k2 k3 hs1 hw1
 go_wp2_with fail
 refine (HP2.out _ (hm.ext K3.out)).mono ?_
 rintro e w2 ⟨A2, n2, c2, rfl, hs2, _, hw2, hf2⟩
 have F2 : Hid (∀ ad, A2 = some ad → w.heap.size ≤ ad.block) := hid fun ad h => Nat.le_trans K3.out.size (hf2 ad h)
 clear hf2
 have M1 := hid ((K1.out.ext hw2).alloc (.cells #[.string l2, .string s2, .string r2, .slice A2 n2 c2] 143))
 have M2 := hid ((K2.out.ext hw2).alloc (.cells #[.string l2, .string s2, .string r2, .slice A2 n2 c2] 143))
 have M3 := hid ((K3.out.trans hw2).alloc (.cells #[.string l2, .string s2, .string r2, .slice A2 n2 c2] 143))
 have M4 := hid ((K4.out.ext hw2).alloc (.cells #[.string l2, .string s2, .string r2, .slice A2 n2 c2] 143))
 have M5 := hid (AtC.new w2 _ : AtC 143 _ _ #[.string l2, .string s2, .string r2, .slice A2 n2 c2])
 have S3 := hid ((S1.out.ext hw2).ext ((Ext.refl w2).alloc (.cells #[.string l2, .string s2, .string r2, .slice A2 n2 c2] 143)))
 have S4 := hid (hs2.ext ((Ext.refl w2).alloc (.cells #[.string l2, .string s2, .string r2, .slice A2 n2 c2] 143)))
 clear a0 a1 q1 K1 K2 K3 K4 S1 hs2 hw2
 go_upto_region 3 with (fail)
 go_cut [8] (BX (aliB (fb, ob)) (w2.alloc (.cells #[.string l2, .string s2, .string r2, .slice A2 n2 c2] 143)))
 case first =>
  generalize hW : (w2.alloc (.cells #[.string l2, .string s2, .string r2, .slice A2 n2 c2] 143)) = W2 at M1 M2 M3 M4 M5 S3 S4 ⊢
  have HW := hid hW
  clear hW
  have T1 := hid (fun y : ExtW W2 => HT1.out A1 n1 c1 y.v (S3.out.ext y.h))
  have T2 := hid (fun y : ExtW W2 => HT2.out A2 n2 c2 y.v (S4.out.ext y.h))
  have a0 : ∀ y : ExtW W2, y.v.cell? ⟨w.heap.size, 0, none⟩ = some (.string fb) := fun y => (M1.out.ext y.h).cell 0 _ rfl
  have a1 : ∀ y : ExtW W2, y.v.cell? ⟨w.heap.size, 1, none⟩ = some (.string ob) := fun y => (M1.out.ext y.h).cell 1 _ rfl
  have b0 : ∀ y : ExtW W2, y.v.cell? ⟨w1.heap.size, 0, none⟩ = some (.string l1) := fun y => (M4.out.ext y.h).cell 0 _ rfl
  have b1 : ∀ y : ExtW W2, y.v.cell? ⟨w1.heap.size, 1, none⟩ = some (.string s1) := fun y => (M4.out.ext y.h).cell 1 _ rfl
  have b2 : ∀ y : ExtW W2, y.v.cell? ⟨w1.heap.size, 2, none⟩ = some (.string r1) := fun y => (M4.out.ext y.h).cell 2 _ rfl
  have b3 : ∀ y : ExtW W2, y.v.cell? ⟨w1.heap.size, 3, none⟩ = some (.slice A1 n1 c1) := fun y => (M4.out.ext y.h).cell 3 _ rfl
  have d0 : ∀ y : ExtW W2, y.v.cell? ⟨w2.heap.size, 0, none⟩ = some (.string l2) := fun y => (M5.out.ext y.h).cell 0 _ rfl
  have d1 : ∀ y : ExtW W2, y.v.cell? ⟨w2.heap.size, 1, none⟩ = some (.string s2) := fun y => (M5.out.ext y.h).cell 1 _ rfl
  have d2 : ∀ y : ExtW W2, y.v.cell? ⟨w2.heap.size, 2, none⟩ = some (.string r2) := fun y => (M5.out.ext y.h).cell 2 _ rfl
  have d3 : ∀ y : ExtW W2, y.v.cell? ⟨w2.heap.size, 3, none⟩ = some (.slice A2 n2 c2) := fun y => (M5.out.ext y.h).cell 3 _ rfl
  cases h1 : (e1 == 0) with
  | false =>
    have HV := hid (show aliB (fb, ob) = false from by simp [HAL.out, h1])
    refine wp_region_ext (by kernel_rfl) (by kernel_rfl) ?_
    repeat (go_big_quiet_step ((go_at_call 106; first | with_reducible exact ExtW.call (T1.out _) | with_reducible exact ExtW.call (T2.out _))))
    refine wpQuiet_nil ?_
    intro wx hx
    have HX := hid (show Ext W2 wx from by obtain ⟨y, hy⟩ := hx; rw [hy]; exact y.h)
    clear hx
    go_wp2
    go_meet
    exact ⟨by rw [HV.out], by have h := HX.out; rw [← HW.out] at h; exact h⟩
  | true =>
    cases h2 : (e2 == 0) with
    | false =>
      have HV := hid (show aliB (fb, ob) = false from by simp [HAL.out, h1, h2])
      refine wp_region_ext (by kernel_rfl) (by kernel_rfl) ?_
      repeat (go_big_quiet_step ((go_at_call 106; first | with_reducible exact ExtW.call (T1.out _) | with_reducible exact ExtW.call (T2.out _))))
      refine wpQuiet_nil ?_
      intro wx hx
      have HX := hid (show Ext W2 wx from by obtain ⟨y, hy⟩ := hx; rw [hy]; exact y.h)
      clear hx
      go_wp2
      go_meet
      exact ⟨by rw [HV.out], by have h := HX.out; rw [← HW.out] at h; exact h⟩
    | true =>
      cases h3 : (x1.toList == fb.toList) with
      | false =>
        have HV := hid (show aliB (fb, ob) = false from by simp [HAL.out, h1, h2, h3])
        refine wp_region_ext (by kernel_rfl) (by kernel_rfl) ?_
        repeat (go_big_quiet_step ((go_at_call 106; first | with_reducible exact ExtW.call (T1.out _) | with_reducible exact ExtW.call (T2.out _))))
        refine wpQuiet_nil ?_
        intro wx hx
        have HX := hid (show Ext W2 wx from by obtain ⟨y, hy⟩ := hx; rw [hy]; exact y.h)
        clear hx
        go_wp2
        go_meet
        exact ⟨by rw [HV.out], by have h := HX.out; rw [← HW.out] at h; exact h⟩
      | true =>
        cases h4 : (x2.toList == ob.toList) with
        | false =>
          have HV := hid (show aliB (fb, ob) = false from by simp [HAL.out, h1, h2, h3, h4])
          refine wp_region_ext (by kernel_rfl) (by kernel_rfl) ?_
          repeat (go_big_quiet_step ((go_at_call 106; first | with_reducible exact ExtW.call (T1.out _) | with_reducible exact ExtW.call (T2.out _))))
          refine wpQuiet_nil ?_
          intro wx hx
          have HX := hid (show Ext W2 wx from by obtain ⟨y, hy⟩ := hx; rw [hy]; exact y.h)
          clear hx
          go_wp2
          go_meet
          exact ⟨by rw [HV.out], by have h := HX.out; rw [← HW.out] at h; exact h⟩
        | true =>
          cases h5 : (fb.toList == [117, 110, 100]) with
          | false =>
            have HV := hid (show aliB (fb, ob) = true from by simp [HAL.out, h1, h2, h3, h4, h5])
            refine wp_region_ext (by kernel_rfl) (by kernel_rfl) ?_
            repeat (go_big_quiet_step ((go_at_call 106; first | with_reducible exact ExtW.call (T1.out _) | with_reducible exact ExtW.call (T2.out _))))
            refine wpQuiet_nil ?_
            intro wx hx
            have HX := hid (show Ext W2 wx from by obtain ⟨y, hy⟩ := hx; rw [hy]; exact y.h)
            clear hx
            go_wp2
            go_meet
            exact ⟨by rw [HV.out], by have h := HX.out; rw [← HW.out] at h; exact h⟩
          | true =>
            have HV := hid (show aliB (fb, ob) = false from by simp [HAL.out, h1, h2, h3, h4, h5])
            refine wp_region_ext (by kernel_rfl) (by kernel_rfl) ?_
            repeat (go_big_quiet_step ((go_at_call 106; first | with_reducible exact ExtW.call (T1.out _) | with_reducible exact ExtW.call (T2.out _))))
            refine wpQuiet_nil ?_
            intro wx hx
            have HX := hid (show Ext W2 wx from by obtain ⟨y, hy⟩ := hx; rw [hy]; exact y.h)
            clear hx
            go_wp2
            go_meet
            exact ⟨by rw [HV.out], by have h := HX.out; rw [← HW.out] at h; exact h⟩
 case rest =>
  obtain ⟨rfl, hx⟩ := hcut
  have N2 := hid (M2.out.ext hx)
  have N3 := hid (M3.out.trans hx)
  have S5 := hid (S3.out.ext hx)
  have S6 := hid (S4.out.ext hx)
  have b0 := (M4.out.ext hx).cell 0 _ rfl
  have b1 := (M4.out.ext hx).cell 1 _ rfl
  have b2 := (M4.out.ext hx).cell 2 _ rfl
  have b3 := (M4.out.ext hx).cell 3 _ rfl
  have d0 := (M5.out.ext hx).cell 0 _ rfl
  have d1 := (M5.out.ext hx).cell 1 _ rfl
  have d2 := (M5.out.ext hx).cell 2 _ rfl
  have d3 := (M5.out.ext hx).cell 3 _ rfl
  have z := fun j u hu => (M2.out.ext hx).cell j u hu
  have z0 := z 0 _ rfl
  have z1 := z 1 _ rfl
  have z2 := z 2 _ rfl
  have z3 := z 3 _ rfl
  have z4 := z 4 _ rfl
  have z5 := z 5 _ rfl
  have z6 := z 6 _ rfl
  have z7 := z 7 _ rfl
  have y0 : ∀ j, wc.frozen? ⟨w.heap.size + 1, j, none⟩ = false := fun j => by have h := N2.out; unfold AtC at h; simp [World.frozen?, h]
  have f0 := y0 0
  have f1 := y0 1
  have f2 := y0 2
  have f3 := y0 3
  have f4 := y0 4
  have f5 := y0 5
  have f6 := y0 6
  have f7 := y0 7
  clear hx z y0 M1 M2 M3 M4 M5 S3 S4
  go_wp2
  have hk8 := kept_set8 wc (w.heap.size + 1) (.string l1) (.string s1) (.string r1) (.slice A1 n1 c1) (.string l2) (.string s2) (.string r2) (.slice A2 n2 c2)
  have he8 := ext_set8 N3.out (w.heap.size + 1) (Nat.le_succ _) (.string l1) (.string s1) (.string r1) (.slice A1 n1 c1) (.string l2) (.string s2) (.string r2) (.slice A2 n2 c2)
  have hq := FIN.out A1 A2 n1 c1 n2 c2 _ (Sl.zeroed S5.out HV1.out N2.out (by simp) hk8) (Sl.zeroed S6.out HV2.out N2.out (by simp) hk8) he8 F1.out F2.out
  unfold set8 at hq
  refine bodyPost_ret (v := .tuple #[.agg #[.string l1, .string s1, .string r1, .slice A1 n1 c1, .string l2, .string s2, .string r2, .slice A2 n2 c2], .bool (aliB (fb, ob))]) ?_ rfl hq
  simp [results, Tryz.results161, go_sem, z0, z1, z2, z3, z4, z5, z6, z7, f0, f1, f2, f3, f4, f5, f6, f7]
end Go.Proofs.YtljdlkonlnjadaaGreatDoor
namespace Go.Proofs.YtljdlkonlnjadaaGreatDoor
open Go.RowKit
def RetRules (w : World) (l : List Ali) (e : Ending) (w' : World) : Prop :=
 ∃ A n c xs, e = .returned (.tuple #[.slice A n c, .bool (l.all aliB)]) ∧ Rules w' A n xs ∧ (l.all aliB = true → xs.map (·.r) = l.map ruleOf) ∧ Ext w w'
def RAInv (w : World) (l : List Ali) (n : Nat) (out i : Value) (wr : World) : Prop :=
 ∃ (k : Nat) (xs : List RV), k ≤ n ∧ i = .int .i64 k ∧ wr.ownsRow w.heap.size 210 8 out k (xs.flatMap rvC) ∧ (∀ x ∈ xs, ∀ W0, Kept out.ownBlock wr W0 → RvOk W0 x) ∧
   xs.map (·.r) = (l.take k).map ruleOf ∧ (l.take k).all aliB = true ∧ Ext w wr
theorem Als.at2 {w : World} {A : Option Addr} {n : Nat} {l : List (ByteArray × ByteArray)} (h : Als w A n l) {k : Nat} {x : ByteArray × ByteArray} (hx : l[k]? = some x) :
 ∃ b o, A = some ⟨b, o, none⟩ ∧ b < w.heap.size ∧ w.cell? ⟨b, o + k * 2, none⟩ = some (.string x.1) ∧ w.cell? ⟨b, o + k * 2 + 1, none⟩ = some (.string x.2) := h.at_ hx
theorem Rules.at2 {w : World} {A : Option Addr} {n : Nat} {xs : List RV} (h : Rules w A n xs) {k : Nat} {x : RV} (hx : xs[k]? = some x) :
 ∃ b o, A = some ⟨b, o, none⟩ ∧ b < w.heap.size ∧ ∀ j u, (rvC x)[j]? = some u → w.cell? ⟨b, o + k * 8 + j, none⟩ = some u := by
 obtain ⟨b, o, h1, h2, h3⟩ := h.at_ hx
 exact ⟨b, o, h1, h2, fun j u hu => by rw [Nat.add_assoc]; exact h3 j u hu⟩
theorem rvC_one (x : RV) : ∀ u ∈ rvC x, u.oneCell' = true := by
 intro u hu
 unfold rvC at hu
 simp only [List.mem_cons, List.not_mem_nil, or_false] at hu
 rcases hu with rfl | rfl | rfl | rfl | rfl | rfl | rfl | rfl <;> rfl
theorem RvOk.kept {w w' : World} {x : RV} {row : Option Nat} (h : RvOk w x) (hk : Kept row w w') (hA : ∀ ad, x.A = some ad → some ad.block ≠ row) (hB : ∀ ad, x.B = some ad → some ad.block ≠ row) : RvOk w' x :=
 ⟨h.1.kept hk hA, h.2.kept hk hB⟩
theorem all_take_false {l : List Ali} {k : Nat} {a : Ali} (ha : l[k]? = some a) (h : aliB a = false) : l.all aliB = false := by
 rw [List.all_eq_false]
 exact ⟨a, List.mem_of_getElem? ha, by rw [h]; simp⟩
theorem rvC_b (x : RV) : ∃ b0 b1 b2 b3 b4 b5 : ByteArray, rvC x = [.string b0, .string b1, .string b2, .slice x.A x.n x.c, .string b3, .string b4, .string b5, .slice x.B x.m x.d] :=
 ⟨_, _, _, _, _, _, rfl⟩
set_option maxHeartbeats 2000000 in
theorem readAll_any (l : List Ali) (A : Option Addr) (n c : Nat) (w : World) (hm : Mx w) (hA : Als w A n l) (hn : n ≤ 100000) (hz : ∀ a ∈ l, a.1.size ≤ 60000 ∧ a.2.size ≤ 60000) :
 Calls Tryz.prog 104 #[.slice A n c] w (RetRules w l) := by
 obtain ⟨i0, hi, hz0, hz1, hz2⟩ := info_parts (show (Tryz.prog.info? 210).map (fun i => (i.zero, i.size, i.bytes)) = some (some (.agg #[.string ⟨#[]⟩, .string ⟨#[]⟩, .string ⟨#[]⟩, .slice none 0 0, .string ⟨#[]⟩, .string ⟨#[]⟩, .string ⟨#[]⟩, .slice none 0 0]), 8, 144) from by kernel_rfl)
 have hl := hA.len
 have HA := hid hA
 have HL := hid hl
 have HZ := hid hz
 clear hA hl hz
 go_enter Tryz.func104, Tryz.ntmps104
 go_wp2_with fail
 go_loopw [4, 11] (RAInv w l n) (fun _ i _ => n - (intOf i).toNat)
 case atStart => exact ⟨0, [], Nat.zero_le _, rfl, World.ownsRow_nil w w.heap.size _ 8, by simp, by simp, by simp, Ext.refl _⟩
 case round =>
  obtain ⟨k, xs, hk, rfl, how, hrv, hmap, hall, hw⟩ := hrel
  have HOW := hid how
  have HRV := hid hrv
  have HMAP := hid hmap
  have HALL := hid hall
  have HW := hid hw
  clear how hrv hmap hall hw
  by_cases hkn : k < n
  ·obtain ⟨a, ha⟩ : ∃ a, l[k]? = some a := ⟨_, List.getElem?_eq_getElem (by have := HL.out; omega)⟩
   obtain ⟨b, o, rfl, hb, c0, c1⟩ := (HA.out.ext HW.out).at2 ha
   obtain ⟨z1, z2⟩ := HZ.out a (List.mem_of_getElem? ha)
   obtain ⟨fb, ob⟩ := a
   simp only at c0 c1 z1 z2
   have HAK := hid ha
   clear ha
   have hrd := fun W hW => read_any fb ob W hW z1 z2
   cases hal : aliB (fb, ob) with
   | false =>
     unfold RetRule at hrd
     rw [hal] at hrd
     have HRD := hid hrd
     have HAL := hid hal
     clear hrd hal
     go_wp2_with fail
     refine (HRD.out _ (hm.ext (HW.out.alloc _))).mono ?_
     rintro e w2 ⟨x, he, _, _, hw2, _, _⟩
     obtain ⟨b0, b1, b2, b3, b4, b5, hrc⟩ := rvC_b x
     rw [hrc] at he
     subst he
     clear hrc
     have HW2 := hid ((HW.out.alloc _).trans hw2)
     clear hw2
     go_wp2
     go_ret2
     exact ⟨none, 0, 0, [], by rw [all_take_false HAK.out HAL.out]; rfl, ⟨SlN.nil _ _ _, by simp⟩, (fun h => by rw [all_take_false HAK.out HAL.out] at h; cases h), HW2.out.alloc _⟩
   | true =>
     unfold RetRule at hrd
     rw [hal] at hrd
     have HRD := hid hrd
     have HAL := hid hal
     clear hrd hal
     go_wp2_with fail
     refine (HRD.out _ (hm.ext (HW.out.alloc _))).mono ?_
     rintro e w2 ⟨x, he, hru, hrv2, hw2, hf1, hf2⟩
     obtain ⟨b0, b1, b2, b3, b4, b5, hrc⟩ := rvC_b x
     rw [hrc] at he
     subst he
     have hone := rvC_one x
     rw [hrc] at hone
     have HONE := hid hone
     have HRC := hid hrc
     clear hrc hone
     have hnews : ∀ j u, [.string b0, .string b1, .string b2, .slice x.A x.n x.c, .string b3, .string b4, .string b5, .slice x.B x.m x.d][j]? = some u → ((w2.alloc (.cells #[.string b0, .string b1, .string b2, .slice x.A x.n x.c, .string b3, .string b4, .string b5, .slice x.B x.m x.d] 210)).alloc (.cells #[.string b0, .string b1, .string b2, .slice x.A x.n x.c, .string b3, .string b4, .string b5, .slice x.B x.m x.d] 210)).cell? ((⟨w2.heap.size + 1, 0, none⟩ : Addr).add j) = some u := by
      have h := new_cells (w2.alloc (.cells #[.string b0, .string b1, .string b2, .slice x.A x.n x.c, .string b3, .string b4, .string b5, .slice x.B x.m x.d] 210)) #[.string b0, .string b1, .string b2, .slice x.A x.n x.c, .string b3, .string b4, .string b5, .slice x.B x.m x.d] 210
      rw [show (w2.alloc (.cells #[.string b0, .string b1, .string b2, .slice x.A x.n x.c, .string b3, .string b4, .string b5, .slice x.B x.m x.d] 210)).heap.size = w2.heap.size + 1 from by simp] at h
      exact h
     have HN := hid hnews
     have HWX := hid (show Ext wr ((w2.alloc (.cells #[.string b0, .string b1, .string b2, .slice x.A x.n x.c, .string b3, .string b4, .string b5, .slice x.B x.m x.d] 210)).alloc (.cells #[.string b0, .string b1, .string b2, .slice x.A x.n x.c, .string b3, .string b4, .string b5, .slice x.B x.m x.d] 210)) from ((((Ext.refl wr).alloc _).trans hw2).alloc _).alloc _)
     have HOX := hid (own_ext HOW.out HWX.out)
     have HRU := hid hru
     have HRV2 := hid ((hrv2.ext ((Ext.refl _).alloc (.cells #[.string b0, .string b1, .string b2, .slice x.A x.n x.c, .string b3, .string b4, .string b5, .slice x.B x.m x.d] 210))).ext ((Ext.refl _).alloc (.cells #[.string b0, .string b1, .string b2, .slice x.A x.n x.c, .string b3, .string b4, .string b5, .slice x.B x.m x.d] 210)))
     have HF1 := hid hf1
     have HF2 := hid hf2
     clear hru hrv2 hw2 hf1 hf2 hnews
     go_wp2_with (at_builtin; refine wpList_appN _ rfl _ _ 163 rfl w.heap.size 210 i0 _ 8 144 Tryz.underlying163 hi hz0 hz1 hz2 rfl (by decide) _ k _ rfl HOX.out ⟨w2.heap.size + 1, 0, none⟩ 1 1 _ rfl rfl HN.out HONE.out (by unfold maxLen; omega) (by omega) (HW.out.trans HWX.out).size ?_; intro v' w3 hown' hgrow hwhere; have HO' := hid hown'; have HG' := hid hgrow; have HWH := hid hwhere; clear hown' hgrow hwhere)
     have hkx : ∀ W0, Kept v'.ownBlock w3 W0 → Kept u4.ownBlock ((w2.alloc (.cells #[.string b0, .string b1, .string b2, .slice x.A x.n x.c, .string b3, .string b4, .string b5, .slice x.B x.m x.d] 210)).alloc (.cells #[.string b0, .string b1, .string b2, .slice x.A x.n x.c, .string b3, .string b4, .string b5, .slice x.B x.m x.d] 210)) W0 := fun W0 hk0 => Kept.trans (Kept.grown HG'.out) hk0 HWH.out
     refine ⟨⟨k + 1, xs ++ [x], by omega, by go_num, ?_, ?_, ?_, ?_, (HW.out.trans HWX.out).grown HG'.out (own_lt HOW.out)⟩, by simp [intOf]; omega⟩
     ·have h := HO'.out
      rw [List.flatMap_append]
      have e1 : [x].flatMap rvC = rvC x := by simp
      rw [e1, HRC.out]
      exact h
     ·intro x' hx W0 hk0
      rcases List.mem_append.1 hx with hx | hx
      ·exact HRV.out x' hx W0 (Kept.trans (Kept.ext _ HWX.out) (hkx W0 hk0) (.inl rfl))
      ·obtain rfl := List.mem_singleton.1 hx
       refine HRV2.out.kept (hkx W0 hk0) (fun ad had hr => ?_) (fun ad had hr => ?_)
       ·have h1 := (HOW.out.lt _ hr.symm).2
        have h2 := HF1.out ad had
        simp at h2
        omega
       ·have h1 := (HOW.out.lt _ hr.symm).2
        have h2 := HF2.out ad had
        simp at h2
        omega
     ·rw [take_next HAK.out, List.map_append, List.map_append, HMAP.out]
      simp only [List.map_cons, List.map_nil]
      rw [HRU.out]
     ·rw [take_next HAK.out, List.all_append, HALL.out]
      simp [HAL.out]
  ·have hkk : k = n := by omega
   subst hkk
   obtain ⟨A', c', hv, hsl⟩ := own_slN HOW.out
   subst hv
   have HSL := hid hsl
   have hall : l.all aliB = true := by
    have h := HALL.out
    rwa [List.take_of_length_le (by have := HL.out; omega)] at h
   have HALL2 := hid hall
   clear hsl hall
   go_wp2
   go_ret2
   refine ⟨A', k, c', xs, by rw [HALL2.out]; rfl, ⟨HSL.out, fun x hx => HRV.out x hx wr (Kept.refl _ _)⟩, fun _ => ?_, HW.out⟩
   have h := HMAP.out
   rwa [List.take_of_length_le (by have := HL.out; omega)] at h
end Go.Proofs.YtljdlkonlnjadaaGreatDoor
