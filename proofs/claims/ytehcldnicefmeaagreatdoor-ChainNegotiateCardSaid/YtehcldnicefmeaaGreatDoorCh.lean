import Derived.Test.YtehcldnicefmeaaGreatDoorCg
import Derived.Test.YtehcldnicefmeaaGreatDoorNXE
import Derived.Test.YtehcldnicefmeaaGreatDoorNX4
namespace Go.Proofs.YtehcldnicefmeaaGreatDoor
open Go.RowKit
set_option linter.unusedSimpArgs false
set_option linter.unusedVariables false

/-! Whether a table is usable, by the program. -/
set_option maxRecDepth 100000 in
theorem cuse1_any (fb ob : ByteArray) (w : World) (hm : Mx w) (h1 : fb.size ≤ 60000) (h2 : ob.size ≤ 60000) :
    Calls Tryz.prog 94 #[.agg #[.string fb, .string ob]] w fun e w' => e = .returned (.bool (!aliB (fb, ob))) ∧ Ext w w' := by
  have hp1 := fun W (h : Ext w W) => ctext_any fb W (hm.ext h) h1
  have hp2 := fun W (h : Ext w W) => ctext_any ob W (hm.ext h) h2
  have hal : aliB (fb, ob) = (isP fb.data.toList && isP ob.data.toList && !(fb.toList == [117, 110, 100])) := by unfold aliB; rw [ByteArray.toList_eq]; rfl
  rw [hal]
  generalize isP fb.data.toList = b1 at hp1
  generalize isP ob.data.toList = b2 at hp2
  have HP1 := Lib.hid hp1
  have HP2 := Lib.hid hp2
  clear hp1 hp2 hal hm
  have k1 := (AtC.new w #[.string fb, .string ob] : AtC 120 _ _ _)
  have K1 := Lib.hid k1
  have HW0 := Lib.hid ((Ext.refl w).alloc (.cells #[.string fb, .string ob] 120))
  clear k1
  have c0 := K1.out.cell 0 _ rfl
  cases b1 with
  | false =>
    go_enter Tryz.func94, Tryz.ntmps94
    go_wp2_with fail
    refine (HP1.out _ HW0.out).mono ?_
    rintro e w2 ⟨rfl, hw2⟩
    have HW2 := Lib.hid (HW0.out.trans hw2)
    clear hw2
    go_wp2
    go_ret
    exact ⟨by simp, HW2.out⟩
  | true =>
    cases b2 with
    | false =>
      go_enter Tryz.func94, Tryz.ntmps94
      go_wp2_with fail
      refine (HP1.out _ HW0.out).mono ?_
      rintro e w2 ⟨rfl, hw2⟩
      have c1 := (K1.out.ext hw2).cell 1 _ rfl
      have HW2 := Lib.hid (HW0.out.trans hw2)
      clear hw2 c0
      go_wp2_with fail
      refine (HP2.out _ HW2.out).mono ?_
      rintro e w3 ⟨rfl, hw3⟩
      have HW3 := Lib.hid (HW2.out.trans hw3)
      clear hw3
      go_wp2
      go_ret
      exact ⟨by simp, HW3.out⟩
    | true =>
      cases hq : (fb.toList == [117, 110, 100])
      all_goals
        go_enter Tryz.func94, Tryz.ntmps94
        go_wp2_with fail
        refine (HP1.out _ HW0.out).mono ?_
        rintro e w2 ⟨rfl, hw2⟩
        have c1 := (K1.out.ext hw2).cell 1 _ rfl
        have HX2 := Lib.hid hw2
        have HW2 := Lib.hid (HW0.out.trans hw2)
        clear hw2 c0
        go_wp2_with fail
        refine (HP2.out _ HW2.out).mono ?_
        rintro e w3 ⟨rfl, hw3⟩
        have c0 := (K1.out.ext (HX2.out.trans hw3)).cell 0 _ rfl
        have HW3 := Lib.hid (HW2.out.trans hw3)
        clear hw3
        go_wp2
        go_ret
        exact ⟨by simp, HW3.out⟩

theorem takeWhile_len {α : Type} {p : α → Bool} : ∀ {l : List α} {k : Nat} {x : α}, l[k]? = some x → (l.take k).all p = true → p x = false → (l.takeWhile p).length = k
  | [], _, _, h, _, _ => by simp at h
  | a :: r, 0, x, h, _, hx => by
    simp at h
    subst h
    rw [List.takeWhile_cons, hx]
    rfl
  | a :: r, k + 1, x, h, ha, hx => by
    simp only [List.take_succ_cons, List.all_cons, Bool.and_eq_true] at ha
    rw [List.takeWhile_cons, ha.1]
    simp only [if_true, List.length_cons]
    rw [takeWhile_len (by simpa using h) ha.2 hx]
def idxA (l : List Ali) : Int := if l.all aliB = true then -1 else ((l.takeWhile aliB).length : Int)
theorem idxA_all {l : List Ali} (h : l.all aliB = true) : idxA l = -1 := if_pos h
theorem idxA_not {l : List Ali} (h : l.all aliB = false) : idxA l = ((l.takeWhile aliB).length : Int) := if_neg (by rw [h]; decide)
def CAli (w : World) (l : List Ali) (n : Nat) (i : Value) (wr : World) : Prop := ∃ k : Nat, k ≤ n ∧ i = .int .i64 k ∧ (l.take k).all aliB = true ∧ Ext w wr
set_option maxHeartbeats 1000000 in
set_option maxRecDepth 100000 in
/-- The first alias that is none: its index, or -1. -/
theorem cidxA_any (l : List Ali) (A : Option Addr) (n c : Nat) (w : World) (hm : Mx w) (hA : Als w A n l) (hn : n ≤ 100000) (hz : ∀ a ∈ l, a.1.size ≤ 60000 ∧ a.2.size ≤ 60000) :
    Calls Tryz.prog 121 #[.slice A n c, .func (.func 94) #[] #[]] w fun e w' => e = .returned (.int .i64 (idxA l)) ∧ Ext w w' := by
  have hl := hA.len
  have HA := Lib.hid hA
  have HLN := Lib.hid hl
  have HZ := Lib.hid hz
  clear hA hl hz
  go_enter Tryz.func121, Tryz.ntmps121
  go_wp2_with fail
  go_loopw [8] (CAli w l n) (fun i _ => n - (intOf i).toNat)
  case atStart => exact ⟨0, Nat.zero_le _, rfl, by simp, Ext.refl _⟩
  case round =>
    obtain ⟨k, hk, rfl, hall, hw⟩ := hrel
    have HALL := Lib.hid hall
    have HW := Lib.hid hw
    clear hall hw
    by_cases hkn : k < n
    · obtain ⟨a, ha⟩ : ∃ a, l[k]? = some a := ⟨_, List.getElem?_eq_getElem (by have := HLN.out; omega)⟩
      obtain ⟨b, o, rfl, hb, c0, c1⟩ := (HA.out.ext HW.out).at2 ha
      obtain ⟨z1, z2⟩ := HZ.out a (List.mem_of_getElem? ha)
      obtain ⟨fb, ob⟩ := a
      simp only at c0 c1 z1 z2
      have HAK := Lib.hid ha
      have hkI : (k : Int) < (n : Int) := by omega
      have K := cuse1_any fb ob wr (hm.ext HW.out) z1 z2
      clear ha
      cases hq : aliB (fb, ob)
      · rw [hq] at K
        have HK := Lib.hid K
        have HQ := Lib.hid (show idxA l = (k : Int) from by
          rw [idxA_not (all_take_false HAK.out hq)]
          rw [takeWhile_len HAK.out HALL.out hq])
        clear K hq
        simp only [Bool.not_false] at HK
        go_wp2_with fail
        refine HK.out.mono ?_
        rintro e w2 ⟨rfl, hw2⟩
        have HW2 := Lib.hid (HW.out.trans hw2)
        clear hw2
        go_wp2
        go_ret
        exact ⟨by rw [HQ.out]; first | done | rfl, HW2.out⟩
      · rw [hq] at K
        have HK := Lib.hid K
        have HQ := Lib.hid (show (l.take (k + 1)).all aliB = true from by rw [take_next HAK.out, List.all_append, HALL.out]; simp [hq])
        clear K hq
        simp only [Bool.not_true] at HK
        go_wp2_with fail
        refine HK.out.mono ?_
        rintro e w2 ⟨rfl, hw2⟩
        have HW2 := Lib.hid (HW.out.trans hw2)
        clear hw2
        go_wp2
        exact ⟨⟨k + 1, by omega, by go_num, HQ.out, HW2.out⟩, by simp [intOf]; omega⟩
    · have hkk : k = n := by omega
      subst hkk
      have HQ := Lib.hid (show idxA l = -1 from by
        have h := HALL.out
        rw [List.take_of_length_le (by have := HLN.out; omega)] at h
        exact idxA_all h)
      go_wp2
      go_ret
      exact ⟨by rw [HQ.out]; first | done | rfl, HW.out⟩
set_option maxRecDepth 100000 in
theorem chasA_any (l : List Ali) (A : Option Addr) (n c : Nat) (w : World) (hm : Mx w) (hA : Als w A n l) (hn : n ≤ 100000) (hz : ∀ a ∈ l, a.1.size ≤ 60000 ∧ a.2.size ≤ 60000) :
    Calls Tryz.prog 93 #[.slice A n c, .func (.func 94) #[] #[]] w fun e w' => e = .returned (.bool (!l.all aliB)) ∧ Ext w w' := by
  have K := cidxA_any l A n c w hm hA hn hz
  clear hA hz hm
  cases hq : l.all aliB
  · rw [idxA_not hq] at K
    have HK := Lib.hid K
    clear K hq
    generalize (l.takeWhile aliB).length = q at HK
    have hq0 : (0 : Int) ≤ (q : Int) := by omega
    go_enter Tryz.func93, Tryz.ntmps93
    go_wp2_with fail
    refine HK.out.mono ?_
    rintro e w2 ⟨rfl, hw2⟩
    have HW2 := Lib.hid hw2
    clear hw2
    go_wp2
    go_ret
    exact ⟨by simp, HW2.out⟩
  · rw [idxA_all hq] at K
    have HK := Lib.hid K
    clear K hq
    go_enter Tryz.func93, Tryz.ntmps93
    go_wp2_with fail
    refine HK.out.mono ?_
    rintro e w2 ⟨rfl, hw2⟩
    have HW2 := Lib.hid hw2
    clear hw2
    go_wp2
    go_ret
    exact ⟨by simp, HW2.out⟩

def CUse (W1 : World) (B : Nat) (T : List LocP) (m : Nat) (i : Value) (wr : World) : Prop :=
  ∃ k : Nat, k ≤ m ∧ i = .int .i64 k ∧ (T.take k).all (fun x => isP x.1) = true ∧ ((T.take k).map (·.1)).Nodup ∧ MapS Tryz.prog 9 4 wr B k ((T.take k).map (·.1)) ∧ Ext W1 wr
theorem nodup_next {T : List LocP} {k : Nat} {x : LocP} (hx : T[k]? = some x) (h : ((T.take k).map (·.1)).Nodup) (hn : decide (x.1 ∈ (T.take k).map (·.1)) = false) : ((T.take (k + 1)).map (·.1)).Nodup := by
  rw [take_next hx, List.map_append, List.nodup_append]
  refine ⟨h, by simp, ?_⟩
  intro a ha b hb e
  simp at hb
  subst hb
  rw [decide_eq_false_iff_not] at hn
  exact hn (e ▸ ha)
theorem use_seen {T : List LocP} {al : List Ali} {k : Nat} {x : LocP} (hx : T[k]? = some x) (hn : decide (x.1 ∈ (T.take k).map (·.1)) = true) : usableC T al = false := by
  unfold usableC
  have : decide (T.map (·.1)).Nodup = false := by
    rw [decide_eq_false_iff_not]
    intro h
    simp only [decide_eq_true_eq] at hn
    have h1 := List.take_append_drop k T
    have hk := (List.getElem?_eq_some_iff.1 hx).1
    rw [List.drop_eq_getElem_cons hk, (List.getElem?_eq_some_iff.1 hx).2] at h1
    rw [← h1, List.map_append, List.nodup_append] at h
    exact h.2.2 _ hn _ (by simp) rfl
  rw [this]
  simp
theorem use_bad {T : List LocP} {al : List Ali} {k : Nat} {x : LocP} (hx : T[k]? = some x) (hb : isP x.1 = false) : usableC T al = false := by
  unfold usableC
  have : T.all (fun x => isP x.1) = false := by
    rw [List.all_eq_false]
    exact ⟨x, List.mem_of_getElem? hx, by rw [hb]; decide⟩
  rw [this]
  simp

set_option maxHeartbeats 4000000 in
set_option maxRecDepth 100000 in
theorem cusable_any (l : List Lc) (al : List Ali) (L A N : Option Addr) (ln lc n c m d : Nat) (w : World) (hm : Mx w) (hL : Lcs w L ln l) (hln : ln ≤ 100000) (hA : Als w A n al) (hn : n ≤ 100000) (hz : ∀ a ∈ al, a.1.size ≤ 60000 ∧ a.2.size ≤ 60000) (hs : ∀ x ∈ l, x.t.size ≤ 60000) :
    Calls Tryz.prog 64 #[.agg #[.slice L ln lc, .slice A n c, .slice N m d]] w fun e w' => e = .returned (.bool (usableC (l.map locOf) al)) ∧ Ext w w' := by
  have KB := Lib.hid (AtC.new w #[.slice L ln lc, .slice A n c, .slice N m d] : AtC 26 _ _ _)
  have HW0 := Lib.hid ((Ext.refl w).alloc (.cells #[.slice L ln lc, .slice A n c, .slice N m d] 26))
  have h0 := KB.out.cell 0 _ rfl
  have KA := Lib.hid (fun W (h : Ext w W) => chasA_any al A n c W (hm.ext h) (hA.ext h) hn hz)
  have KT := Lib.hid (fun (b : ByteArray) (hb : b.size ≤ 60000) W (h : Ext w W) => ctext_any b W (hm.ext h) hb)
  have HL := Lib.hid hL
  have HLN := Lib.hid hL.len
  have HS := Lib.hid hs
  have hmm := @run_makeMap Tryz.prog
  clear hL hA hm hz hs
  obtain ⟨R, hR⟩ : ∃ R, R = usableC (l.map locOf) al := ⟨_, rfl⟩
  rw [← hR]
  have HR := Lib.hid hR
  clear hR
  rcases Nat.eq_zero_or_pos ln with hz0 | hp0
  · subst hz0
    have HF := Lib.hid (show R = false from by
      rw [HR.out]
      have : l = [] := List.length_eq_zero_iff.1 HLN.out
      rw [this]; rfl)
    go_enter Tryz.func64, Tryz.ntmps64
    go_wp2
    go_ret
    exact ⟨by rw [HF.out]; first | done | rfl, HW0.out⟩
  obtain ⟨x0, hx0⟩ : ∃ x0, l[0]? = some x0 := ⟨_, List.getElem?_eq_getElem (by have := HLN.out; omega)⟩
  obtain ⟨b0, o0, rfl, hb0, hc0⟩ := (HL.out.ext HW0.out).at_ hx0
  have e0 := hc0 0 _ rfl
  simp only [Nat.zero_mul, Nat.add_zero] at e0
  have hln0 : ((ln : Int) == 0) = false := by simp; omega
  have hpI : (0 : Int) < (ln : Int) := by omega
  have HX0 := Lib.hid hx0
  clear hc0 hx0
  cases hq : (x0.t.toList == [117, 110, 100])
  · have HF := Lib.hid (show R = false from by
      rw [HR.out]
      unfold usableC
      have h1 : (l.map locOf).head? = some (locOf x0) := by
        rw [List.head?_eq_getElem?, List.getElem?_map, HX0.out]; rfl
      have hq := hq
      rw [ByteArray.toList_eq] at hq
      rw [h1]
      have h2 : (Option.map (fun x => x.fst) (some (locOf x0)) == some undP) = false := by
        show (some x0.t.data.toList == some undP) = false
        simpa [undP] using hq
      rw [h2]; rfl)
    go_enter Tryz.func64, Tryz.ntmps64
    go_wp2
    all_goals go_ret
    all_goals exact ⟨by rw [HF.out]; first | done | rfl, HW0.out⟩
  have h0b := (KB.out.alloc (.map #[] 0)).cell 0 _ rfl
  go_enter Tryz.func64, Tryz.ntmps64
  go_wp2_with fail
  have HQ := Lib.hid hq
  clear h0 h0b hq
  go_loopw [22] (CUse (w.alloc (.cells #[.slice (some ⟨b0, o0, none⟩) ln lc, .slice A n c, .slice N m d] 26)) (w.heap.size + 1) (l.map locOf) ln) (fun i _ => ln - (intOf i).toNat)
  case atStart => exact ⟨0, Nat.zero_le _, rfl, by simp, by simp, by have h := MapS.made Tryz.prog 9 4 (w.alloc (.cells #[.slice (some ⟨b0, o0, none⟩) ln lc, .slice A n c, .slice N m d] 26)); rw [World.size_alloc] at h; exact h, (Ext.refl _).alloc _⟩
  case round =>
    obtain ⟨k, hk, rfl, hisp, hnd, hms, hw⟩ := hrel
    have HISP := Lib.hid hisp
    have HND := Lib.hid hnd
    have HMS := Lib.hid hms
    have HW := Lib.hid hw
    have HWW := Lib.hid (HW0.out.trans hw)
    have KBR := Lib.hid (KB.out.ext hw)
    clear hisp hnd hms hw
    by_cases hkn : k < ln
    · obtain ⟨x, hx⟩ : ∃ x, l[k]? = some x := ⟨_, List.getElem?_eq_getElem (by have := HLN.out; omega)⟩
      obtain ⟨b, o, hAd, hb, hc⟩ := (HL.out.ext HWW.out).at_ hx
      injection hAd with hAd
      injection hAd with hA1 hA2 _
      subst hA1; subst hA2
      have a0 := hc 0 _ rfl
      have a1 := hc 1 _ rfl
      have a2 := hc 2 _ rfl
      have a3 := hc 3 _ rfl
      have a4 := hc 4 _ rfl
      have a5 := hc 5 _ rfl
      have a6 := hc 6 _ rfl
      have a7 := hc 7 _ rfl
      have a8 := hc 8 _ rfl
      have a9 := hc 9 _ rfl
      have a10 := hc 10 _ rfl
      have a11 := hc 11 _ rfl
      have a12 := hc 12 _ rfl
      have a13 := hc 13 _ rfl
      have a14 := hc 14 _ rfl
      have a15 := hc 15 _ rfl
      rw [Nat.add_zero] at a0
      have hkI : (k : Int) < (ln : Int) := by omega
      have hx60 := HS.out x (List.mem_of_getElem? hx)
      have HXS := Lib.hid (show x.t.size ≤ maxLen from by unfold maxLen; omega)
      have HX := Lib.hid (show (l.map locOf)[k]? = some (locOf x) from by rw [List.getElem?_map, hx]; rfl)
      have KX := KT.out x.t hx60
      clear hx hc
      have hlk := MapS.lookup (HMS.out.alloc (.cells #[.string x.t, .string x.p, .string x.d, .slice (x.A 0) (x.n 0) (x.c 0), .slice (x.A 1) (x.n 1) (x.c 1), .string (x.s 0), .string (x.s 1), .string (x.s 2), .string (x.s 3), .int .i64 (x.i 0), .int .i64 (x.i 1), .slice (x.A 2) (x.n 2) (x.c 2), .slice (x.A 3) (x.n 3) (x.c 3), .slice (x.A 4) (x.n 4) (x.c 4), .slice (x.A 5) (x.n 5) (x.c 5), .slice (x.A 6) (x.n 6) (x.c 6)] 56)) Tryz.underlying9 Tryz.underlying4 Tryz.underlying137 (by kernel_rfl) x.t HXS.out
      have hat := (AtC.new wr #[.string x.t, .string x.p, .string x.d, .slice (x.A 0) (x.n 0) (x.c 0), .slice (x.A 1) (x.n 1) (x.c 1), .string (x.s 0), .string (x.s 1), .string (x.s 2), .string (x.s 3), .int .i64 (x.i 0), .int .i64 (x.i 1), .slice (x.A 2) (x.n 2) (x.c 2), .slice (x.A 3) (x.n 3) (x.c 3), .slice (x.A 4) (x.n 4) (x.c 4), .slice (x.A 5) (x.n 5) (x.c 5), .slice (x.A 6) (x.n 6) (x.c 6)] : AtC 56 _ _ _)
      have q0 := hat.cell 0 _ rfl
      have HAT := Lib.hid hat
      clear hat
      cases hseen : decide ((locOf x).1 ∈ ((l.map locOf).take k).map (·.1)) with
      | true =>
        have HF := Lib.hid (HR.out.trans (use_seen HX.out hseen))
        have hseen2 : decide (x.t.data.toList ∈ ((l.map locOf).take k).map (·.1)) = true := hseen
        rw [hseen2] at hlk
        clear hseen hseen2
        go_wp2
        all_goals go_ret
        all_goals exact ⟨by rw [HF.out]; first | done | rfl, HWW.out.alloc _⟩
      | false =>
        have HNX := Lib.hid (nodup_next HX.out HND.out hseen)
        have hseen2 : decide (x.t.data.toList ∈ ((l.map locOf).take k).map (·.1)) = false := hseen
        rw [hseen2] at hlk
        clear hseen hseen2
        cases hp : isP x.t.data.toList with
        | false =>
          rw [hp] at KX
          have HK := Lib.hid KX
          have HF := Lib.hid (HR.out.trans (use_bad HX.out hp))
          clear KX hp
          go_wp2_with fail
          refine (HK.out _ (HWW.out.alloc _)).mono ?_
          rintro e w4 ⟨rfl, hw4⟩
          have HW4 := Lib.hid ((HWW.out.alloc (.cells #[.string x.t, .string x.p, .string x.d, .slice (x.A 0) (x.n 0) (x.c 0), .slice (x.A 1) (x.n 1) (x.c 1), .string (x.s 0), .string (x.s 1), .string (x.s 2), .string (x.s 3), .int .i64 (x.i 0), .int .i64 (x.i 1), .slice (x.A 2) (x.n 2) (x.c 2), .slice (x.A 3) (x.n 3) (x.c 3), .slice (x.A 4) (x.n 4) (x.c 4), .slice (x.A 5) (x.n 5) (x.c 5), .slice (x.A 6) (x.n 6) (x.c 6)] 56)).trans hw4)
          clear hw4
          go_wp2
          all_goals go_ret
          all_goals exact ⟨by rw [HF.out]; first | done | rfl, HW4.out⟩
        | true =>
          rw [hp] at KX
          have HK := Lib.hid KX
          have HPN := Lib.hid (show ((l.map locOf).take (k + 1)).all (fun x => isP x.1) = true from by
            rw [take_next HX.out, List.all_append, HISP.out]
            simp only [List.all_cons, List.all_nil, Bool.and_true, Bool.true_and]
            exact hp)
          clear KX hp
          go_wp2_with fail
          refine (HK.out _ (HWW.out.alloc _)).mono ?_
          rintro e w4 ⟨rfl, hw4⟩
          have q4 := (HAT.out.ext hw4).cell 0 _ rfl
          have HM4 := Lib.hid ((HMS.out.alloc (.cells #[.string x.t, .string x.p, .string x.d, .slice (x.A 0) (x.n 0) (x.c 0), .slice (x.A 1) (x.n 1) (x.c 1), .string (x.s 0), .string (x.s 1), .string (x.s 2), .string (x.s 3), .int .i64 (x.i 0), .int .i64 (x.i 1), .slice (x.A 2) (x.n 2) (x.c 2), .slice (x.A 3) (x.n 3) (x.c 3), .slice (x.A 4) (x.n 4) (x.c 4), .slice (x.A 5) (x.n 5) (x.c 5), .slice (x.A 6) (x.n 6) (x.c 6)] 56)).ext hw4)
          have HW4 := Lib.hid ((HW.out.alloc (.cells #[.string x.t, .string x.p, .string x.d, .slice (x.A 0) (x.n 0) (x.c 0), .slice (x.A 1) (x.n 1) (x.c 1), .string (x.s 0), .string (x.s 1), .string (x.s 2), .string (x.s 3), .int .i64 (x.i 0), .int .i64 (x.i 1), .slice (x.A 2) (x.n 2) (x.c 2), .slice (x.A 3) (x.n 3) (x.c 3), .slice (x.A 4) (x.n 4) (x.c 4), .slice (x.A 5) (x.n 5) (x.c 5), .slice (x.A 6) (x.n 6) (x.c 6)] 56)).trans hw4)
          clear hw4 hlk q0
          go_wp2_with (at_mapUpdate; refine wpList_mapUpdateS rfl _ _ _ 137 9 4 rfl Tryz.underlying9 Tryz.underlying4 Tryz.underlying137 (w.heap.size + 1) k _ rfl HM4.out (by unfold maxLen; omega) x.t rfl rfl HXS.out ?_; intro w6 hm6 hg6; have HM6 := Lib.hid hm6; have HG6 := Lib.hid hg6; clear hm6 hg6)
          refine ⟨⟨k + 1, by omega, by go_num, HPN.out, HNX.out, ?_, HW4.out.grown HG6.out (fun q hq => by injection hq with hq; rw [World.size_alloc]; omega)⟩, by simp [intOf]; omega⟩
          have h := HM6.out
          rw [take_next HX.out, List.map_append, List.map_singleton]
          exact h
    · have hkk : k = ln := by omega
      subst hkk
      have hT : (l.map locOf).take k = l.map locOf := List.take_of_length_le (by rw [List.length_map, HLN.out]; exact Nat.le_refl _)
      have h1 := HISP.out
      have h2 := HND.out
      rw [hT] at h1 h2
      have hhd : ((l.map locOf).head?.map (·.1) == some undP) = true := by
        rw [List.head?_eq_getElem?, List.getElem?_map, HX0.out]
        have := HQ.out
        rw [ByteArray.toList_eq] at this
        show (some x0.t.data.toList == some undP) = true
        simpa [undP] using this
      have HF := Lib.hid (show R = al.all aliB from by
        rw [HR.out]
        unfold usableC
        rw [hhd, h1, decide_eq_true h2]
        simp)
      have g1 := KBR.out.cell 1 _ rfl
      have KK := KA.out _ HWW.out
      clear hT h1 h2 hhd
      generalize al.all aliB = q at KK HF
      have HK := Lib.hid KK
      clear KK
      cases q
      all_goals
        simp only [Bool.not_true, Bool.not_false] at HK
        go_wp2_with fail
        refine HK.out.mono ?_
        rintro e w4 ⟨rfl, hw4⟩
        have HW4 := Lib.hid (HWW.out.trans hw4)
        clear hw4
        go_wp2
        go_ret
        exact ⟨by rw [HF.out]; first | done | rfl, HW4.out⟩
end Go.Proofs.YtehcldnicefmeaaGreatDoor
