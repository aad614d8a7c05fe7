import Derived.Test.YtblkpgglkhmggaaGreatDoorPr
namespace Go.Proofs.YtblkpgglkhmggaaGreatDoor
open Go.RowKit
set_option linter.unusedSimpArgs false
set_option linter.unusedVariables false

/-! The check of values. -/
def vlOf (x : Vl) : ValP := ⟨x.n.data.toList, x.t, propB x.t x.s.data.toList x.d x.ln⟩
theorem getV_map (l : List Vl) (s : By) : getV (l.map vlOf) s = if (getX l s).2 = true then some (vlOf (getX l s).1) else none := by
  unfold getV getX
  rw [List.find?_map]
  have e : (fun v : ValP => v.name == s) ∘ vlOf = fun x : Vl => x.n.data.toList == s := rfl
  rw [e]
  cases l.find? (fun x => x.n.data.toList == s) <;> rfl
theorem getX_mem {l : List Vl} {s : By} (h : (getX l s).2 = true) : (getX l s).1 ∈ l := by
  unfold getX at h ⊢
  cases hf : l.find? (fun x => x.n.data.toList == s) with
  | none => rw [hf] at h; cases h
  | some x => exact List.mem_of_find?_eq_some hf
def okC (vs : List ValP) (x : ArgP) : Bool := match getV vs x.1 with
  | none => false
  | some v => fitsV v x.2
theorem chk_pre (vs : List ValP) : ∀ (a : List ArgP) (k j : Nat), k ≤ a.length → (a.take k).all (okC vs) = true → chkP vs j a = chkP vs (j + k) (a.drop k)
  | a, 0, j, _, _ => by simp
  | [], k + 1, j, h, _ => by simp at h
  | x :: a, k + 1, j, h, hp => by
    rw [List.take_succ_cons, List.all_cons, Bool.and_eq_true] at hp
    have ih := chk_pre vs a k (j + 1) (by simpa using h) hp.2
    rw [chkP]
    have h0 := hp.1
    unfold okC at h0
    cases hg : getV vs x.1 with
    | none => rw [hg] at h0; cases h0
    | some v =>
      rw [hg] at h0
      simp only at h0 ⊢
      rw [if_pos h0, ih, List.drop_succ_cons]
      congr 1
      omega
theorem chk_at {vs : List ValP} {a : List ArgP} {k : Nat} {x : ArgP} (hx : a[k]? = some x) (hp : (a.take k).all (okC vs) = true) :
    (getV vs x.1 = none → chkP vs 0 a = ((k : Int), 12)) ∧ (∀ v, getV vs x.1 = some v → fitsV v x.2 = false → chkP vs 0 a = ((k : Int), 11)) ∧ (∀ v, getV vs x.1 = some v → fitsV v x.2 = true → (a.take (k + 1)).all (okC vs) = true) := by
  have hk : k < a.length := (List.getElem?_eq_some_iff.1 hx).1
  have e := chk_pre vs a k 0 (Nat.le_of_lt hk) hp
  have hd : a.drop k = x :: a.drop (k + 1) := by rw [List.drop_eq_getElem_cons hk]; congr 1; exact (List.getElem?_eq_some_iff.1 hx).2
  rw [hd, chkP, Nat.zero_add] at e
  refine ⟨fun h => ?_, fun v h h2 => ?_, fun v h h2 => ?_⟩
  · rw [e, h]
  · rw [e, h]; simp only [h2]; rfl
  · rw [take_next hx, List.all_append, hp]
    unfold okC
    simp [h, h2]
theorem chk_end {vs : List ValP} {a : List ArgP} (hp : a.all (okC vs) = true) : chkP vs 0 a = (0, 0) := by
  have e := chk_pre vs a a.length 0 (Nat.le_refl _) (by rw [List.take_length]; exact hp)
  rw [e, List.drop_length, chkP]
def CkI (w : World) (a : List ArgP) (vs : List ValP) (n : Nat) (i : Value) (wr : World) : Prop := ∃ k : Nat, k ≤ n ∧ i = .int .i64 k ∧ (a.take k).all (okC vs) = true ∧ Ext w wr
def RetCk (w : World) (r : Int × Int) (e : Ending) (w' : World) : Prop := e = .returned (.tuple #[.int .i64 r.1, .int .i64 r.2]) ∧ Ext w w'
def vlOK (x : Vl) : Prop := x.s.size ≤ 1048576 ∧ x.ln ≤ 1048576
set_option maxRecDepth 100000 in
set_option maxHeartbeats 4000000 in
theorem tcheck_any (a : List Ag) (l : List Vl) (A B : Option Addr) (n m c d : Nat) (w : World) (hm : Mx w) (hA : Ags w A n a) (hB : Vls w B m l) (hn : n ≤ maxLen) (hmm : m ≤ maxLen) (hza : ∀ x ∈ a, x.n.size ≤ maxLen) (hz : ∀ x ∈ l, vlOK x) :
    Calls Tryz.prog 25 #[.slice A n c, .slice B m d] w (RetCk w (checkP (a.map agOf) (l.map vlOf))) := by
  have HA := Lib.hid hA
  have HB := Lib.hid hB
  have HL := Lib.hid hA.len
  have HZ := Lib.hid hz
  have HMX := Lib.hid hm
  have K1 := fun W (h : Ext w W) => tvalid28_any a A n c W (HA.out.ext h) hn hza
  obtain ⟨R, hR⟩ : ∃ R, R = checkP (a.map agOf) (l.map vlOf) := ⟨_, rfl⟩
  have HR := Lib.hid hR
  rw [← hR]
  unfold maxLen at hn
  clear hA hB hz hm hR hza
  cases v1 : validA (a.map agOf)
  · have HF := Lib.hid (show R = (0, 1) from by rw [HR.out]; unfold checkP; rw [v1]; rfl)
    rw [v1] at K1
    have HK1 := Lib.hid K1
    clear K1 v1
    go_enter Tryz.func25, Tryz.ntmps25
    go_wp2_with fail
    refine (HK1.out _ (Ext.refl _)).mono ?_
    rintro e w2 ⟨rfl, hw2⟩
    have HW2 := Lib.hid hw2
    clear hw2
    go_wp2
    go_ret2
    exact ⟨by rw [HF.out]; rfl, HW2.out⟩
  have HF := Lib.hid (show R = chkP (l.map vlOf) 0 (a.map agOf) from by rw [HR.out]; unfold checkP; rw [v1]; rfl)
  rw [v1] at K1
  have HK1 := Lib.hid K1
  clear K1 v1 HR
  go_enter Tryz.func25, Tryz.ntmps25
  go_wp2_with fail
  refine (HK1.out _ (Ext.refl _)).mono ?_
  rintro e w2 ⟨rfl, hw2⟩
  have HW2 := Lib.hid hw2
  clear hw2
  go_wp2_with fail
  go_loopw [15] (CkI w2 (a.map agOf) (l.map vlOf) n) (fun i _ => n - (intOf i).toNat)
  case atStart => exact ⟨0, Nat.zero_le _, rfl, rfl, Ext.refl _⟩
  case round =>
    obtain ⟨k, hk, rfl, hp, hw⟩ := hrel
    obtain ⟨wo, rfl⟩ : ∃ wo : World, wo = wr := ⟨_, rfl⟩
    have HW := Lib.hid (HW2.out.trans hw)
    have HP := Lib.hid hp
    have HWI := Lib.hid hw
    clear hp hw
    by_cases hkn : k < n
    · have hkI : (k : Int) < (n : Int) := by omega
      obtain ⟨x, hx⟩ : ∃ x, a[k]? = some x := ⟨_, List.getElem?_eq_getElem (by rw [HL.out]; exact hkn)⟩
      have HC := Lib.hid (chk_at (vs := l.map vlOf) (show (a.map agOf)[k]? = some (agOf x) from by rw [List.getElem?_map, hx]; rfl) HP.out)
      obtain ⟨b, o, rfl, hb, a0, a1⟩ := (HA.out.ext HW.out).at_ hx
      have HXA := Lib.hid (AtC.new wo #[.string x.n, .int .i64 x.t] : AtC 58 _ _ _)
      have HX1 := Lib.hid (show Ext wo (wo.alloc (.cells #[.string x.n, .int .i64 x.t] 58)) from (Ext.refl wo).alloc _)
      have HKG := Lib.hid (sget_any l B m d x.n _ (HB.out.ext (HW.out.trans HX1.out)) hmm (fun y hy => (HZ.out y hy).2))
      have HGV := Lib.hid (getV_map l x.n.data.toList)
      have HGM := Lib.hid (fun h => HZ.out _ (getX_mem (l := l) (s := x.n.data.toList) h))
      have HTX : (agOf x).2 = x.t := rfl
      have HNX : (agOf x).1 = x.n.data.toList := rfl
      rw [HTX, HNX] at HC
      clear hx HTX HNX hb
      generalize hgx : getX l x.n.data.toList = gx at HKG HGV HGM
      obtain ⟨v, ok⟩ := gx
      simp only at HKG HGV HGM
      have HVO := Lib.hid (show (vlOf v).ty = v.t ∧ (vlOf v).ok = propB v.t v.s.data.toList v.d v.ln from ⟨rfl, rfl⟩)
      clear hgx
      go_wp2_with fail
      refine HKG.out.mono ?_
      rintro e w5 ⟨A5, c5, rfl, _, hw5⟩
      have HW5 := Lib.hid (HX1.out.trans hw5)
      have HX5 := Lib.hid (HXA.out.ext hw5)
      clear hw5 a0 a1
      unfold vlV
      simp only
      cases ok
      · have HE := Lib.hid (HF.out.trans (HC.out.1 (by rw [HGV.out]; rfl)))
        go_wp2
        go_ret2
        exact ⟨by rw [HE.out]; rfl, (HW.out.trans HW5.out).alloc _⟩
      have HZV := Lib.hid (HGM.out rfl)
      have HV5 := Lib.hid (AtC.new w5 #[.string v.n, .int .i64 v.t, .string v.s, .int .i64 v.d, .slice A5 v.ln c5] : AtC 45 _ _ _)
      have HW6 := Lib.hid (HW.out.trans (HW5.out.alloc (.cells #[.string v.n, .int .i64 v.t, .string v.s, .int .i64 v.d, .slice A5 v.ln c5] 45)))
      have HX6 := Lib.hid (HX5.out.alloc (.cells #[.string v.n, .int .i64 v.t, .string v.s, .int .i64 v.d, .slice A5 v.ln c5] 45))
      have HKP := Lib.hid (tproper_any v.n v.s v.t v.d A5 v.ln c5 _ (HMX.out.ext HW6.out) HZV.out.1)
      obtain ⟨_, hc2, hc3⟩ := HC.out
      have hgv : getV (l.map vlOf) x.n.data.toList = some (vlOf v) := by rw [HGV.out]; rfl
      have HC2 := Lib.hid (hc2 _ hgv)
      have HC3 := Lib.hid (hc3 _ hgv)
      clear hc2 hc3 hgv
      have hfv : fitsV (vlOf v) x.t = (propB v.t v.s.data.toList v.d v.ln && accB v.t x.t) := rfl
      rw [hfv] at HC2 HC3
      clear hfv
      generalize propB v.t v.s.data.toList v.d v.ln = pb at HKP HC2 HC3
      have HKA := Lib.hid (fun W => acc_any v.t x.t W)
      generalize accB v.t x.t = ab at HKA HC2 HC3
      go_wp2_with fail
      refine HKP.out.mono ?_
      rintro e w7 ⟨rfl, hw7⟩
      have HW7 := Lib.hid (HW6.out.trans hw7)
      have HI7 := Lib.hid (HWI.out.trans ((HW5.out.alloc (.cells #[.string v.n, .int .i64 v.t, .string v.s, .int .i64 v.d, .slice A5 v.ln c5] 45)).trans hw7))
      have c1 := (HV5.out.ext hw7).cell 1 _ rfl
      have c2 := (HX6.out.ext hw7).cell 1 _ rfl
      clear hw7
      cases pb
      · have HE := Lib.hid (HF.out.trans (HC2.out rfl))
        go_wp2
        go_ret2
        exact ⟨by rw [HE.out]; rfl, HW7.out⟩
      go_wp2_with fail
      refine (HKA.out _).mono ?_
      rintro e w8 ⟨rfl, rfl⟩
      cases ab
      · have HE := Lib.hid (HF.out.trans (HC2.out rfl))
        go_wp2
        go_ret2
        exact ⟨by rw [HE.out]; rfl, HW7.out⟩
      · have HE := Lib.hid (HC3.out rfl)
        go_wp2
        exact ⟨⟨k + 1, hkn, by go_num, HE.out, HI7.out⟩, by simp [intOf]; omega⟩
    · have hkk : k = n := by omega
      subst hkk
      have HE := Lib.hid (HF.out.trans (chk_end (by have h := HP.out; rwa [List.take_of_length_le (by rw [List.length_map, HL.out]; exact Nat.le_refl _)] at h)))
      go_wp2
      go_ret2
      exact ⟨by rw [HE.out]; rfl, HW.out⟩
end Go.Proofs.YtblkpgglkhmggaaGreatDoor
