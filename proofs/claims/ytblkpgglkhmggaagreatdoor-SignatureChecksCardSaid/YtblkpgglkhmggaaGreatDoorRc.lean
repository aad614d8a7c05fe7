import Derived.Test.YtblkpgglkhmggaaGreatDoorCk
import Derived.Test.YtblkpgglkhmggaaGreatDoorSp
import Derived.Test.YtblkpgglkhmggaaGreatDoorUb
import Derived.Lib.MinMaxS
import Derived.Test.YtblkpgglkhmggaaGreatDoorShelf
namespace Go.Proofs.YtblkpgglkhmggaaGreatDoor
open Go.RowKit
set_option linter.unusedSimpArgs false
set_option linter.unusedVariables false

/-! The check of values, by the reference; equal values; few values. -/
set_option maxRecDepth 100000 in
set_option maxHeartbeats 4000000 in
theorem rcheck_any (a : List Ag) (l : List Vl) (A B : Option Addr) (n m c d : Nat) (w : World) (hA : Ags w A n a) (hB : Vls w B m l) (hn : n ≤ maxLen) (hmm : m ≤ maxLen) (hza : ∀ x ∈ a, x.n.size ≤ maxLen) (hz : ∀ x ∈ l, vlOK x) :
    Calls Tryz.prog 26 #[.slice A n c, .slice B m d] w (RetCk w (checkP (a.map agOf) (l.map vlOf))) := by
  have HA := Lib.hid hA
  have HB := Lib.hid hB
  have HL := Lib.hid hA.len
  have HZ := Lib.hid hz
  have K1 := fun W (h : Ext w W) => rvalid28_any a A n c W (HA.out.ext h) hn hza
  obtain ⟨R, hR⟩ : ∃ R, R = checkP (a.map agOf) (l.map vlOf) := ⟨_, rfl⟩
  have HR := Lib.hid hR
  rw [← hR]
  unfold maxLen at hn
  clear hA hB hz hR hza
  cases v1 : validA (a.map agOf)
  · have HF := Lib.hid (show R = (0, 1) from by rw [HR.out]; unfold checkP; rw [v1]; rfl)
    rw [v1] at K1
    have HK1 := Lib.hid K1
    clear K1 v1
    go_enter Tryz.func26, Tryz.ntmps26
    go_wp2_with fail
    refine (HK1.out _ (Ext.refl _)).mono ?_
    rintro e w2 ⟨rfl, hw2⟩
    have HW2 := Lib.hid hw2
    clear hw2
    go_wp2
    go_ret2
    exact ⟨by rw [HF.out]; rfl, HW2.out⟩
  have HF := Lib.hid (show R = chkP (l.map vlOf) 0 (a.map agOf) from by rw [HR.out]; unfold checkP; rw [v1]; rfl)
  rw [v1] at K1
  have HK1 := Lib.hid K1
  clear K1 v1 HR
  go_enter Tryz.func26, Tryz.ntmps26
  go_wp2_with fail
  refine (HK1.out _ (Ext.refl _)).mono ?_
  rintro e w2 ⟨rfl, hw2⟩
  have HW2 := Lib.hid hw2
  clear hw2
  go_wp2_with fail
  go_loopw [6] (CkI w2 (a.map agOf) (l.map vlOf) n) (fun i _ => n - (intOf i).toNat)
  case atStart => exact ⟨0, Nat.zero_le _, rfl, rfl, Ext.refl _⟩
  case round =>
    obtain ⟨k, hk, rfl, hp, hw⟩ := hrel
    obtain ⟨wo, rfl⟩ : ∃ wo : World, wo = wr := ⟨_, rfl⟩
    have HW := Lib.hid (HW2.out.trans hw)
    have HP := Lib.hid hp
    have HWI := Lib.hid hw
    clear hp hw
    by_cases hkn : k < n
    · have hkI : (k : Int) < (n : Int) := by omega
      obtain ⟨x, hx⟩ : ∃ x, a[k]? = some x := ⟨_, List.getElem?_eq_getElem (by rw [HL.out]; exact hkn)⟩
      have HC := Lib.hid (chk_at (vs := l.map vlOf) (show (a.map agOf)[k]? = some (agOf x) from by rw [List.getElem?_map, hx]; rfl) HP.out)
      obtain ⟨b, o, rfl, hb, a0, a1⟩ := (HA.out.ext HW.out).at_ hx
      have HA1 := Lib.hid a1
      have HKG := Lib.hid (rget_any l B m d x.n wo (HB.out.ext HW.out) hmm)
      have HGV := Lib.hid (getV_map l x.n.data.toList)
      have HGM := Lib.hid (fun h => HZ.out _ (getX_mem (l := l) (s := x.n.data.toList) h))
      have HTX : (agOf x).2 = x.t := rfl
      have HNX : (agOf x).1 = x.n.data.toList := rfl
      rw [HTX, HNX] at HC
      clear hx HTX HNX hb a1
      generalize hgx : getX l x.n.data.toList = gx at HKG HGV HGM
      obtain ⟨v, ok⟩ := gx
      simp only at HKG HGV HGM
      clear hgx
      go_wp2_with fail
      refine HKG.out.mono ?_
      rintro e w5 ⟨rfl, hw5⟩
      have HW5 := Lib.hid hw5
      clear hw5 a0
      unfold vlV
      simp only
      cases ok
      · have HE := Lib.hid (HF.out.trans (HC.out.1 (by rw [HGV.out]; rfl)))
        go_wp2
        go_ret2
        exact ⟨by rw [HE.out]; rfl, (HW.out.trans HW5.out).alloc _⟩
      have HZV := Lib.hid (HGM.out rfl)
      have HW6 := Lib.hid (HW5.out.alloc (.cells #[.string v.n, .int .i64 v.t, .string v.s, .int .i64 v.d, .slice v.A v.ln v.c] 45))
      have HV6 := Lib.hid (AtC.new w5 #[.string v.n, .int .i64 v.t, .string v.s, .int .i64 v.d, .slice v.A v.ln v.c] : AtC 45 _ _ _)
      obtain ⟨_, hc2, hc3⟩ := HC.out
      have hgv : getV (l.map vlOf) x.n.data.toList = some (vlOf v) := by rw [HGV.out]; rfl
      have HC2 := Lib.hid (hc2 _ hgv)
      have HC3 := Lib.hid (hc3 _ hgv)
      clear hc2 hc3 hgv
      have hfv : fitsV (vlOf v) x.t = (propB v.t v.s.data.toList v.d v.ln && accB v.t x.t) := rfl
      rw [hfv] at HC2 HC3
      clear hfv
      have HKP := Lib.hid (fun W => rfits_any v.n v.s v.t v.d x.t v.A v.ln v.c W HZV.out.1)
      generalize (propB v.t v.s.data.toList v.d v.ln && accB v.t x.t) = pb at HKP HC2 HC3
      go_wp2_with fail
      obtain ⟨w6, hw6⟩ : ∃ w6, w6 = w5.alloc (.cells #[.string v.n, .int .i64 v.t, .string v.s, .int .i64 v.d, .slice v.A v.ln v.c] 45) := ⟨_, rfl⟩
      rw [← hw6] at HW6 HV6
      rw [← hw6]
      clear hw6
      have p0 := HV6.out.cell 0 _ rfl
      have p1 := HV6.out.cell 1 _ rfl
      have p2 := HV6.out.cell 2 _ rfl
      have p3 := HV6.out.cell 3 _ rfl
      have p4 := HV6.out.cell 4 _ rfl
      have r0 := fun z : ExtW w6 => cell_mid28 z.h p0
      have r1 := fun z : ExtW w6 => cell_mid28 z.h p1
      have r2 := fun z : ExtW w6 => cell_mid28 z.h p2
      have r3 := fun z : ExtW w6 => cell_mid28 z.h p3
      have r4 := fun z : ExtW w6 => cell_mid28 z.h p4
      have r5 := fun z : ExtW w6 => cell_mid28 (HW6.out.trans z.h) HA1.out
      clear p0 p1 p2 p3 p4
      refine wp_region_ext (by kernel_rfl) (by kernel_rfl) ?_
      repeat (go_big_quiet_step ((go_at_call 58; with_reducible exact ExtW.call (HKP.out _))))
      refine wpQuiet_nil ?_
      intro w7 hw7
      have HX7 := Lib.hid (ext_of28 hw7)
      clear hw7 r0 r1 r2 r3 r4 r5
      cases pb
      · have HE := Lib.hid (HF.out.trans (HC2.out rfl))
        go_wp2
        go_ret2
        exact ⟨by rw [HE.out]; rfl, HW.out.trans (HW6.out.trans HX7.out)⟩
      · have HE := Lib.hid (HC3.out rfl)
        go_wp2
        exact ⟨⟨k + 1, hkn, by go_num, HE.out, HWI.out.trans (HW6.out.trans HX7.out)⟩, by simp [intOf]; omega⟩
    · have hkk : k = n := by omega
      subst hkk
      have HE := Lib.hid (HF.out.trans (chk_end (by have h := HP.out; rwa [List.take_of_length_le (by rw [List.length_map, HL.out]; exact Nat.le_refl _)] at h)))
      go_wp2
      go_ret2
      exact ⟨by rw [HE.out]; rfl, HW.out⟩
def SvI (w : World) (n : Nat) (i : Value) (wr : World) : Prop := ∃ k : Nat, k ≤ n ∧ i = .int .i64 k ∧ Ext w wr
set_option maxRecDepth 100000 in
set_option maxHeartbeats 2000000 in
theorem same_any (nm s : ByteArray) (t d : Int) (A B : Option Addr) (n c e : Nat) (l : List ByteArray) (w : World) (hA : Sl w A n (l.map .string)) (hB : Sl w B n (l.map .string)) (hn : n ≤ maxLen) :
    Calls Tryz.prog 27 #[.agg #[.string nm, .int .i64 t, .string s, .int .i64 d, .slice A n c], .agg #[.string nm, .int .i64 t, .string s, .int .i64 d, .slice B n e]] w fun e w' => e = .returned (.bool true) ∧ Ext w w' := by
  have HX := Lib.hid (show Ext w ((w.alloc (.cells #[.string nm, .int .i64 t, .string s, .int .i64 d, .slice A n c] 45)).alloc (.cells #[.string nm, .int .i64 t, .string s, .int .i64 d, .slice B n e] 45)) from ((Ext.refl w).alloc _).alloc _)
  have HG := Lib.hid ((AtC.new w #[.string nm, .int .i64 t, .string s, .int .i64 d, .slice A n c] : AtC 45 _ _ _).alloc (.cells #[.string nm, .int .i64 t, .string s, .int .i64 d, .slice B n e] 45))
  have HH := Lib.hid (AtC.new (w.alloc (.cells #[.string nm, .int .i64 t, .string s, .int .i64 d, .slice A n c] 45)) #[.string nm, .int .i64 t, .string s, .int .i64 d, .slice B n e] : AtC 45 _ _ _)
  rw [show (w.alloc (.cells #[.string nm, .int .i64 t, .string s, .int .i64 d, .slice A n c] 45)).heap.size = w.heap.size + 1 from by simp] at HH
  have HA := Lib.hid hA
  have HB := Lib.hid hB
  unfold maxLen at hn
  clear hA hB
  go_enter Tryz.func27, Tryz.ntmps27
  go_wp2_with fail
  generalize hW0 : (w.alloc (.cells #[.string nm, .int .i64 t, .string s, .int .i64 d, .slice A n c] 45)).alloc (.cells #[.string nm, .int .i64 t, .string s, .int .i64 d, .slice B n e] 45) = W0 at HX HG HH
  have HA0 := Lib.hid (HA.out.ext HX.out)
  have HB0 := Lib.hid (HB.out.ext HX.out)
  clear hW0
  go_loopw [5] (SvI W0 n) (fun i _ => n - (intOf i).toNat)
  case atStart => exact ⟨0, Nat.zero_le _, rfl, Ext.refl _⟩
  case round =>
    obtain ⟨k, hk, rfl, hw⟩ := hrel
    have HW := Lib.hid hw
    have g4 := (HG.out.ext hw).cell 4 _ rfl
    have h4 := (HH.out.ext hw).cell 4 _ rfl
    clear hw
    by_cases hkn : k < n
    · have hkI : (k : Int) < (n : Int) := by omega
      obtain ⟨ad, x, rfl, hx, c0⟩ := (HA0.out.ext HW.out).at_map hkn
      obtain ⟨bd, y, rfl, hy, c1⟩ := (HB0.out.ext HW.out).at_map hkn
      rw [hx] at hy
      injection hy with hy
      subst hy
      clear hx
      have hne : (x.toList != x.toList) = false := by simp
      go_wp2
      go_quiet (fail)
      go_wp2
      exact ⟨⟨k + 1, hkn, by go_num, HW.out.drewN _⟩, by simp [intOf]; omega⟩
    · have hkk : k = n := by omega
      subst hkk
      go_wp2
      go_ret
      exact ⟨rfl, HX.out.trans HW.out⟩
def fewV (x : Vl) : Bool := decide (x.s.size ≤ 200) && x.l.all (fun y => decide (y.size ≤ 200)) && decide (x.ln ≤ 12) && decide (x.n.size ≤ 60)
def fewVs (l : List Vl) : Bool := l.all fewV && decide (l.length ≤ 30)
def FvO (w : World) (l : List Vl) (n : Nat) (i : Value) (wr : World) : Prop := ∃ k : Nat, k ≤ n ∧ i = .int .i64 k ∧ (l.take k).all fewV = true ∧ Ext w wr
def mxS (s : Nat) (l : List ByteArray) : Nat := l.foldl (fun m y => max m y.size) s
theorem mxS_le (l : List ByteArray) : ∀ (s : Nat), decide (mxS s l ≤ 200) = (decide (s ≤ 200) && l.all (fun y => decide (y.size ≤ 200))) := by
  induction l with
  | nil => intro s; show decide (s ≤ 200) = _; rw [List.all_nil, Bool.and_true]
  | cons y r ih =>
    intro s
    show decide (mxS (max s y.size) r ≤ 200) = _
    rw [ih, List.all_cons, ← Bool.and_assoc]
    congr 1
    rw [Bool.eq_iff_iff]
    simp
    omega
theorem mxS_bound (l : List ByteArray) (h : ∀ y ∈ l, y.size ≤ maxLen) : ∀ (s : Nat), s ≤ maxLen → mxS s l ≤ maxLen := by
  induction l with
  | nil => intro s hs; exact hs
  | cons y r ih => intro s hs; exact ih (fun z hz => h z (by simp [hz])) _ (Nat.max_le.2 ⟨hs, h y (by simp)⟩)
def FvI (w : World) (s : Nat) (l : List ByteArray) (n : Nat) (m i : Value) (wr : World) : Prop := ∃ k : Nat, k ≤ n ∧ i = .int .i64 k ∧ m = .int .i64 (mxS s (l.take k)) ∧ Ext w wr
set_option maxRecDepth 100000 in
set_option maxHeartbeats 2000000 in
theorem fewv_any (l : List Vl) (A : Option Addr) (n c : Nat) (w : World) (hA : Vls w A n l) (hn : n ≤ maxLen) (hz : ∀ x ∈ l, x.ln ≤ maxLen) :
    Calls Tryz.prog 20 #[.slice A n c] w fun e w' => e = .returned (.bool (fewVs l)) ∧ Ext w w' := by
  unfold maxLen at hn
  have HA := Lib.hid hA
  have HL := Lib.hid hA.len
  have HZ := Lib.hid hz
  obtain ⟨R, hR⟩ : ∃ R, R = fewVs l := ⟨_, rfl⟩
  have HR := Lib.hid hR
  rw [← hR]
  clear hA hz hR
  go_enter Tryz.func20, Tryz.ntmps20
  go_wp2_with fail
  go_loopw [3] (FvO w l n) (fun i _ => n - (intOf i).toNat)
  case atStart => exact ⟨0, Nat.zero_le _, rfl, rfl, Ext.refl _⟩
  case round =>
    obtain ⟨k, hk, rfl, hall, hw⟩ := hrel
    obtain ⟨wo, rfl⟩ : ∃ wo : World, wo = wr := ⟨_, rfl⟩
    have HALL := Lib.hid hall
    have HW := Lib.hid hw
    clear hall hw
    by_cases hkn : k < n
    · have hkI : (k : Int) < (n : Int) := by omega
      obtain ⟨x, hx⟩ : ∃ x, l[k]? = some x := ⟨_, List.getElem?_eq_getElem (by have := HL.out; omega)⟩
      have HVW := Lib.hid (HA.out.ext HW.out)
      obtain ⟨b, o, rfl, hb, hc⟩ := HVW.out.at_ hx
      have HX := Lib.hid hx
      have hsl := HVW.out.2 x (List.mem_of_getElem? hx)
      have HSL := Lib.hid hsl
      have hln := HZ.out x (List.mem_of_getElem? hx)
      unfold maxLen at hln
      have a0 := hc 0 _ rfl
      have a2 := hc 2 _ rfl
      have a4 := hc 4 _ rfl
      rw [Nat.add_zero] at a0
      have HA0 := Lib.hid a0
      have HA2 := Lib.hid a2
      have HA4 := Lib.hid a4
      have hll : x.l.length = x.ln := by have h := hsl.1; rwa [List.length_map] at h
      have HLL := Lib.hid hll
      clear hc hx hsl hll a0 a4
      go_wp2_with fail
      clear a2
      go_loopw [4, 5] (FvI wo x.s.size x.l x.ln) (fun _ i _ => x.ln - (intOf i).toNat)
      case atStart => exact ⟨0, Nat.zero_le _, rfl, by simp [mxS], Ext.refl _⟩
      case round =>
        obtain ⟨q, hq, rfl, rfl, hwi⟩ := hrel
        have HWI := Lib.hid hwi
        have a4 := cell_mid28 hwi HA4.out
        clear hwi
        by_cases hqn : q < x.ln
        · have hqI : (q : Int) < (x.ln : Int) := by omega
          obtain ⟨ad, y, hAd, hy, c0⟩ := (HSL.out.ext HWI.out).at_map hqn
          have HY := Lib.hid (show mxS x.s.size (x.l.take (q + 1)) = max (mxS x.s.size (x.l.take q)) y.size from by rw [take_next hy]; unfold mxS; rw [List.foldl_append]; rfl)
          rw [hAd] at a4
          clear hy
          generalize mxS x.s.size (x.l.take q) = mm at HY
          go_wp2_with fail
          exact ⟨⟨q + 1, hqn, by go_num, by rw [HY.out]; congr 1; omega, HWI.out⟩, by simp [intOf]; omega⟩
        · have hqq : q = x.ln := by omega
          subst hqq
          have HTK := Lib.hid (show x.l.take x.ln = x.l from List.take_of_length_le (by rw [HLL.out]; exact Nat.le_refl _))
          rw [HTK.out]
          have HM := Lib.hid (mxS_le x.l x.s.size)
          have HFX := Lib.hid (show fewV x = (decide (mxS x.s.size x.l ≤ 200) && decide (x.ln ≤ 12) && decide (x.n.size ≤ 60)) from by rw [HM.out]; rfl)
          have HNO := Lib.hid (fun h : fewV x = false => (show fewVs l = false from by
            unfold fewVs
            rw [show l.all fewV = false from List.all_eq_false.2 ⟨_, List.mem_of_getElem? HX.out, by rw [h]; decide⟩]
            rfl))
          have HYES := Lib.hid (fun h : fewV x = true => (show (l.take (k + 1)).all fewV = true from by
            rw [take_next HX.out, List.all_append, HALL.out, List.all_cons, h]; rfl))
          have b0 := cell_mid28 HWI.out HA0.out
          clear HM
          generalize mxS x.s.size x.l = mm at HFX
          by_cases h1 : 200 < mm
          · have h1I : (200 : Int) < (mm : Int) := by omega
            have HF := Lib.hid (HNO.out (by rw [HFX.out]; simp; omega))
            go_wp2
            go_ret
            exact ⟨ret_bool (by rw [HR.out, HF.out]), HW.out.trans HWI.out⟩
          have h1I : ¬ (200 : Int) < (mm : Int) := by omega
          by_cases h2 : 12 < x.ln
          · have h2I : (12 : Int) < (x.ln : Int) := by omega
            have HF := Lib.hid (HNO.out (by rw [HFX.out]; simp; omega))
            go_wp2
            go_ret
            exact ⟨ret_bool (by rw [HR.out, HF.out]), HW.out.trans HWI.out⟩
          have h2I : ¬ (12 : Int) < (x.ln : Int) := by omega
          by_cases h3 : 60 < x.n.size
          · have h3I : (60 : Int) < (x.n.size : Int) := by omega
            have HF := Lib.hid (HNO.out (by rw [HFX.out]; simp; omega))
            go_wp2
            go_ret
            exact ⟨ret_bool (by rw [HR.out, HF.out]), HW.out.trans HWI.out⟩
          have h3I : ¬ (60 : Int) < (x.n.size : Int) := by omega
          have HF := Lib.hid (HYES.out (by rw [HFX.out]; simp; omega))
          go_wp2
          exact ⟨⟨k + 1, hkn, by go_num, HF.out, HW.out.trans HWI.out⟩, by simp [intOf]; omega⟩
    · have hkk : k = n := by omega
      subst hkk
      go_wp2
      go_ret
      refine ⟨ret_bool ?_, HW.out⟩
      have h := HALL.out
      rw [List.take_of_length_le (by have := HL.out; omega)] at h
      rw [HR.out]
      unfold fewVs
      rw [h, HL.out, Bool.true_and]
      exact decide_eq_decide.2 (by omega)
theorem mx_of {W : World} (h : W.ShapedOpen Tryz.prog) : Mx W := Tryz.laysM145.s1_3 W h
end Go.Proofs.YtblkpgglkhmggaaGreatDoor
