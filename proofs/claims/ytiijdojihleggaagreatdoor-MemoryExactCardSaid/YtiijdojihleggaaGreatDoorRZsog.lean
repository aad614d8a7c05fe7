import Derived.Test.YtiijdojihleggaaGreatDoorRZhag
set_option maxRecDepth 100000
set_option linter.unusedSimpArgs false
set_option linter.unusedVariables false
open Go.Lib (hid)
namespace Go.Proofs.YtiijdojihleggaaGreatDoor
open Go.RowKit Go.Sort Go.Shelf
attribute [-go_sem] storeCells loadCellsFrom
def lo3 (a m b mid : Nat) : Nat := if mid < m then mid + m - b else a
def hi3 (m mid : Nat) : Nat := if mid < m then mid else m
def C3 (s0 r0 : Nat) (w : World) (v20 v21 : Value) (wx : World) : Prop := v20 = .int .i64 s0 ∧ v21 = .int .i64 r0 ∧ wx = w
def B3I (w0 : World) (g a mid s0 r0 : Nat) (l X Y : List Mb) (i j : Value) (wr : World) : Prop := ∃ s r : Nat, i = .int .i64 s ∧ j = .int .i64 r ∧ s0 ≤ s ∧ s ≤ r ∧ r ≤ r0 ∧
 (∀ c x y, s = c + 1 → s0 ≤ c → X[c - a]? = some x → Y[mid - 1 - c]? = some y → leB x y = true) ∧ (∀ x y, r < r0 → X[r - a]? = some x → Y[mid - 1 - r]? = some y → leB x y = false) ∧ SwM w0 g l wr
def BWo (b : Bool) (W : World) (v : Value) (wx : World) : Prop := v = .bool b ∧ wx = W
def WS (w0 : World) (g : Nat) (l : List Mb) (wx : World) : Prop := SwM w0 g l wx
theorem cut_first {s a mid s0 r0 m b : Nat} {X Y X1 X2 Y1 Y2 : List Mb} (hX : X = X1 ++ X2) (hY : Y = Y1 ++ Y2) (h1 : X1.length = s - a) (h2 : Y1.length = mid - s) (has : a ≤ s) (hsm : s ≤ mid) (hm : m = a + X.length) (hb : b = m + Y.length) (hs0 : s0 = lo3 a m b mid) (hr0 : r0 = hi3 m mid) (hl : s0 ≤ s) (hr : s ≤ r0) (hmb : mid ≤ b)
 (c1 : ∀ c x y, s = c + 1 → s0 ≤ c → X[c - a]? = some x → Y[mid - 1 - c]? = some y → leB x y = true) (c2 : ∀ x y, s < r0 → X[s - a]? = some x → Y[mid - 1 - s]? = some y → leB x y = false) (sX : SortedS leB X) (sY : SortedS leB Y) :
 X.merge Y leB = X1.merge Y1 leB ++ X2.merge Y2 leB := by
 subst hX hY
 refine cut_merge preB sX sY ?_ ?_
 ·by_cases e : Y1 = []
  ·exact .inl e
  ·by_cases e2 : X2 = []
   ·exact .inr (.inl e2)
   ·right; right
    rcases List.eq_nil_or_concat Y1 with e3 | ⟨Y0, y, e3⟩
    ·exact absurd e3 e
    ·rw [List.concat_eq_append] at e3
     cases X2 with
     | nil => exact absurd rfl e2
     | cons x X0 =>
       refine ⟨Y0, y, x, X0, e3, rfl, c2 x y ?_ ?_ ?_⟩
       ·subst e3
        unfold hi3 at hr0
        simp at h2 hm
        split at hr0 <;> omega
       ·rw [← h1]; simp
       ·subst e3
        simp at h2
        rw [show mid - 1 - s = Y0.length from by omega]
        simp
 ·by_cases e : X1 = []
  ·exact .inl e
  ·by_cases e2 : Y2 = []
   ·exact .inr (.inl e2)
   ·right; right
    rcases List.eq_nil_or_concat X1 with e3 | ⟨X0, x, e3⟩
    ·exact absurd e3 e
    ·rw [List.concat_eq_append] at e3
     cases Y2 with
     | nil => exact absurd rfl e2
     | cons y Y0 =>
       subst e3
       simp at h1 hm hb
       refine ⟨X0, x, y, Y0, rfl, rfl, c1 (s - 1) x y (by omega) ?_ ?_ ?_⟩
       ·unfold lo3 at hs0
        split at hs0 <;> omega
       ·rw [show s - 1 - a = X0.length from by omega]; simp
       ·rw [show mid - 1 - (s - 1) = Y1.length from by omega]; simp
set_option maxHeartbeats 8000000 in
theorem sym_step {w0 : World} {g c N k : Nat} {l0 : List Mb} (R : RoM w0 g l0) (hN : l0.length = N) (hn : N ≤ 1000000)
 (IH : ∀ (P X Y S : List Mb) (a m b : Nat) (w : World), X.length + Y.length ≤ k → X ≠ [] → Y ≠ [] → SortedS leB X → SortedS leB Y → SwM w0 g (P ++ X ++ Y ++ S) w → (P ++ X ++ Y ++ S).length = l0.length → P.length = a → m = a + X.length → b = m + Y.length → SymG w0 g c N l0 P X Y S a m b w)
 (P X Y S : List Mb) (a m b : Nat) (w : World) (hk : X.length + Y.length ≤ k + 1) (hX2 : 2 ≤ X.length) (hY2 : 2 ≤ Y.length) (sX : SortedS leB X) (sY : SortedS leB Y) (hw : SwM w0 g (P ++ X ++ Y ++ S) w) (hl : (P ++ X ++ Y ++ S).length = l0.length) (ha : P.length = a) (hm : m = a + X.length) (hb : b = m + Y.length) : SymG w0 g c N l0 P X Y S a m b w := by
 obtain ⟨l, hl2⟩ : ∃ l, l = P ++ X ++ Y ++ S := ⟨_, rfl⟩
 rw [← hl2] at hw hl
 have hbN : b ≤ N := by rw [← hN, ← hl, hl2, hb, hm, ← ha]; simp; omega
 obtain ⟨mid, hmid⟩ : ∃ mid, mid = (a + b) / 2 := ⟨_, rfl⟩
 have hmz : ((a : Int) + (b : Int)) / 2 = (mid : Int) := by omega
 obtain ⟨s0, hs0⟩ : ∃ s0, s0 = lo3 a m b mid := ⟨_, rfl⟩
 obtain ⟨r0, hr0⟩ : ∃ r0, r0 = hi3 m mid := ⟨_, rfl⟩
 have f1 : a ≤ s0 := by rw [hs0]; unfold lo3; split <;> omega
 have f2 : s0 ≤ r0 := by rw [hs0, hr0]; unfold lo3 hi3; split <;> omega
 have f3 : r0 ≤ m ∧ r0 ≤ mid := by rw [hr0]; unfold hi3; split <;> omega
 have f4 : mid + m ≤ s0 + b := by rw [hs0]; unfold lo3; split <;> omega
 have f5 : a < m ∧ m < b ∧ a < mid ∧ mid < b := by omega
 obtain ⟨f3, f3b⟩ := f3
 obtain ⟨f5, f6, f7, f8⟩ := f5
 have HK := hid hk
 have mixed : Tryz.prog.follows .mixedOrders = true := by kernel_rfl
 have HI := hid (show B3I w0 g a mid s0 r0 l X Y (.int .i64 s0) (.int .i64 r0) w from ⟨s0, r0, rfl, rfl, Nat.le_refl _, f2, Nat.le_refl _, fun c x y h1 h2 => by omega, fun x y h1 => by omega, hw⟩)
 have HR := hid R
 have HL := hid hl
 have HL2 := hid hl2
 have HN := hid hN
 have HSX := hid sX
 have HSY := hid sY
 have HA := hid ha
 have HIH := hid IH
 have EG := enterM
 have hq1 : ((m : Int) - (a : Int) == 1) = false := by rw [beq_eq_false_iff_ne]; omega
 have hq2 : ((b : Int) - (m : Int) == 1) = false := by rw [beq_eq_false_iff_ne]; omega
 have HB := hid hb
 have HM := hid hm
 have HS0 := hid hs0
 have HR0 := hid hr0
 unfold SymG
 clear R hw hl hN sX sY hl2 hb ha hm hX2 hY2 hk IH hmid hs0 hr0
 go_enter Tryz.func77, Tryz.ntmps77
 go_upto_if 140 with (fail)
 go_cut [20, 21] (C3 s0 r0 w)
 case first =>
  as_aux_lemma =>
  by_cases hmm : mid < m
  ·have e1 : (mid : Int) + (m : Int) - (b : Int) = (s0 : Int) := by have := HS0.out; unfold lo3 at this; rw [if_pos hmm] at this; omega
   have e2 : r0 = mid := by have := HR0.out; unfold hi3 at this; rw [if_pos hmm] at this; exact this
   have hmmz : (mid : Int) < (m : Int) := by omega
   go_wp2_with fail
   all_goals
    go_meet
    exact ⟨by first | rfl | (congr 1), by rw [e2], rfl⟩
  ·have e1 : s0 = a := by have := HS0.out; unfold lo3 at this; rw [if_neg hmm] at this; exact this
   have e2 : r0 = m := by have := HR0.out; unfold hi3 at this; rw [if_neg hmm] at this; exact this
   have hmmz : ¬ (mid : Int) < (m : Int) := by omega
   go_wp2_with fail
   all_goals
    go_meet
    exact ⟨by rw [e1], by rw [e2], rfl⟩
 case rest =>
 obtain ⟨rfl, rfl, rfl⟩ := hcut
 go_wp2_with fail
 go_loopw [20, 21] (B3I w0 g a mid s0 r0 l X Y) (fun i j _ => (intOf j - intOf i).toNat)
 case atStart => exact HI.out
 case round =>
  obtain ⟨s, r, rfl, rfl, hls, hsr, hrr, hc1, hc2, hs⟩ := hrel
  have HS := hid hs
  have HC1 := hid hc1
  have HC2 := hid hc2
  clear hs hc1 hc2 HI
  by_cases hlt : s < r
  ·as_aux_lemma =>
   obtain ⟨h, hh⟩ : ∃ h, h = (s + r) / 2 := ⟨_, rfl⟩
   have hhz : ((s : Int) + (r : Int)) / 2 = (h : Int) := by omega
   have h1 : s ≤ h ∧ h < r := by omega
   obtain ⟨h1, h2⟩ := h1
   obtain ⟨pc, hpc⟩ : ∃ pc, pc = mid + m - 1 - h := ⟨_, rfl⟩
   have hpz : (mid : Int) + (m : Int) - 1 - (h : Int) = (pc : Int) := by omega
   have htx : h - a < X.length := by have := HM.out; omega
   have hty : mid - 1 - h < Y.length := by have := HB.out; omega
   obtain ⟨X1, x, X2, eX, hX1⟩ := list_cut2 X (h - a) htx
   obtain ⟨Y1, y, Y2, eY, hY1⟩ := list_cut2 Y (mid - 1 - h) hty
   have hx : X[h - a]? = some x := by rw [eX, ← hX1]; simp
   have hy : Y[mid - 1 - h]? = some y := by rw [eY, ← hY1]; simp
   have gx : l.toArray[h]! = x := get_app (L := P ++ X1) (R := X2 ++ Y ++ S) (by rw [HL2.out, eX]; simp) (by have := HA.out; simp; omega)
   have gy : l.toArray[pc]! = y := get_app (L := P ++ X ++ Y1) (R := Y2 ++ S) (by rw [HL2.out, eY]; simp) (by have := HA.out; have := HM.out; simp; omega)
   have hhN : (h : Int) < (N : Int) := by omega
   have hpN : (pc : Int) < (N : Int) := by omega
   have hpn2 : pc < N := by omega
   have l1 := HS.out.ld HR.out HL.out gx (by rw [HL.out, HN.out]; omega)
   have l2 := HS.out.ld HR.out HL.out gy (by rw [HL.out, HN.out]; omega)
   have HC := fun n os => cmp_any y x (grow (wr.drewN n) os)
   have HX2 := hid hx
   have HY2 := hid hy
   have HGR := hid (fun n os => HS.out.grown n os)
   have wp_ : IntKind.i64.wrap (pc : Int) = (pc : Int) := by rw [IntKind.wrap_i64]; omega
   clear gx gy eX eY hX1 hY1 hx hy htx hty hh hpc
   cases hle : leB x y with
   | false =>
     have hc1 : cfB y x < 0 := cf_lt.2 hle
     have hc2 : decide (cfB y x < 0) = true := decide_eq_true hc1
     have HLE := hid hle
     clear hle
     go_wp2_with fail
     go_quiet_grown (first | (go_at_fn 35; refine Calls.grown_of (HC _ _)))
     go_wp2
     refine ⟨⟨s, h, rfl, rfl, hls, h1, by omega, HC1.out, fun x' y' _ e1 e2 => ?_, HGR.out _ _⟩, by simp [intOf]; omega⟩
     rw [HX2.out] at e1
     rw [HY2.out] at e2
     injection e1 with e1
     injection e2 with e2
     rw [← e1, ← e2]; exact HLE.out
   | true =>
     have hc1 : ¬ cfB y x < 0 := fun h => by rw [cf_lt.1 h] at hle; cases hle
     have hc2 : decide (cfB y x < 0) = false := decide_eq_false hc1
     have HLE := hid hle
     clear hle
     go_wp2_with fail
     go_quiet_grown (first | (go_at_fn 35; refine Calls.grown_of (HC _ _)))
     go_wp2
     refine ⟨⟨h + 1, r, by go_num, rfl, by omega, h2, hrr, fun c' x' y' e0 _ e1 e2 => ?_, HC2.out, HGR.out _ _⟩, by simp [intOf]; omega⟩
     have e3 : c' = h := by omega
     rw [e3, HX2.out] at e1
     rw [e3, HY2.out] at e2
     injection e1 with e1
     injection e2 with e2
     rw [← e1, ← e2]; exact HLE.out
  ·have hsr2 : s = r := by omega
   subst hsr2
   obtain ⟨X1, X2, eX, hX1⟩ := list_cut X (s - a) (by have := HM.out; omega)
   obtain ⟨Y1, Y2, eY, hY1⟩ := list_cut Y (mid - s) (by have := HB.out; omega)
   have HMG := hid (cut_first eX eY hX1 hY1 (by omega) (by omega) HM.out HB.out HS0.out HR0.out hls hrr (by omega) HC1.out HC2.out HSX.out HSY.out)
   obtain ⟨e, he⟩ : ∃ e, e = mid + m - s := ⟨_, rfl⟩
   have hez : (mid : Int) + (m : Int) - (s : Int) = (e : Int) := by omega
   have hlX := HM.out
   have hlY := HB.out
   rw [eX, List.length_append] at hlX
   rw [eY, List.length_append] at hlY
   have g1 : s = a + X1.length := by omega
   have g2 : m = s + X2.length := by omega
   have g3 : e = m + Y1.length := by omega
   have g4 : b = e + Y2.length := by omega
   have g5 : mid = s + Y1.length := by omega
   have hk2 := HK.out
   rw [eX, eY, List.length_append, List.length_append] at hk2
   have hsX := HSX.out
   have hsY := HSY.out
   rw [eX] at hsX
   rw [eY] at hsY
   obtain ⟨sX1, sX2, _⟩ := List.pairwise_append.1 hsX
   obtain ⟨sY1, sY2, _⟩ := List.pairwise_append.1 hsY
   have hln := HL.out
   rw [HL2.out, eX, eY] at hln
   have hs2 := HS.out
   rw [HL2.out, eX, eY] at hs2
   have hA := HA.out
   have KR : X2 ≠ [] → Y1 ≠ [] → Calls Tryz.prog 118 #[.slice (some ⟨g, 0, none⟩) N c, .int .i64 s, .int .i64 m, .int .i64 e, .func (.func 35) #[] #[]] wr fun e w' => e = .returned (.tuple #[]) ∧ SwM w0 g (P ++ X1 ++ Y1 ++ X2 ++ (Y2 ++ S)) w' := fun n1 n2 =>
    rot_any (c := c) (P := P ++ X1) (X := X2) (Y := Y1) (S := Y2 ++ S) HR.out (by simpa using hs2) (by simpa using hln) HN.out (by rw [List.length_append]; omega) (by simp only [List.length_append]; omega) (by simp only [List.length_append]; omega) n1 n2 hn
   have HKR := hid KR
   have HS2 := hid hs2
   have HG := hid (show s = a + X1.length ∧ m = s + X2.length ∧ e = m + Y1.length ∧ b = e + Y2.length ∧ mid = s + Y1.length from ⟨g1, g2, g3, g4, g5⟩)
   have HLN := hid hln
   have HK2 := hid hk2
   have HSO := hid (show SortedS leB X1 ∧ SortedS leB X2 ∧ SortedS leB Y1 ∧ SortedS leB Y2 from ⟨sX1, sX2, sY1, sY2⟩)
   have heN : e ≤ N := by omega
   clear KR hs2 g1 g2 g3 g4 g5 hln hk2 sX1 sX2 sY1 sY2 hsX hsY hlX hlY eX eY hX1 hY1 he hA
   obtain ⟨t1, ht1⟩ : ∃ t, t = (decide (s < m) && decide (m < e)) := ⟨_, rfl⟩
   have HT1 := hid ht1
   clear ht1
   go_upto_region 39 with (fail)
   go_cut [185] (BWo t1 wr)
   case first =>
    as_aux_lemma =>
    go_wp2_with fail
    all_goals
     go_meet
     exact ⟨by rw [HT1.out]; congr 1; rw [Bool.eq_iff_iff]; simp; try omega, rfl⟩
   case rest =>
   obtain ⟨rfl, rfl⟩ := hcut
   go_upto_if 185 with (fail)
   go_cut [] (WS w0 g (P ++ X1 ++ Y1 ++ X2 ++ (Y2 ++ S)))
   case first =>
    as_aux_lemma =>
    cases t1
    ·have he : X2 = [] ∨ Y1 = [] := by
      have h := HT1.out
      obtain ⟨q1, q2, q3, q4, q5⟩ := HG.out
      rw [Eq.comm, Bool.and_eq_false_iff, decide_eq_false_iff_not, decide_eq_false_iff_not] at h
      rcases h with h | h
      ·exact .inl (List.eq_nil_of_length_eq_zero (by omega))
      ·exact .inr (List.eq_nil_of_length_eq_zero (by omega))
     have HSE := hid (show SwM w0 g (P ++ X1 ++ Y1 ++ X2 ++ (Y2 ++ S)) wc from by
      have h := HS2.out
      rcases he with e | e
      ·rw [e] at h ⊢; simpa using h
      ·rw [e] at h ⊢; simpa using h)
     clear he HS2
     go_wp2_with fail
     go_meet
     exact HSE.out
    ·have he : X2 ≠ [] ∧ Y1 ≠ [] := by
      have h := HT1.out
      obtain ⟨q1, q2, q3, q4, q5⟩ := HG.out
      rw [Eq.comm, Bool.and_eq_true, decide_eq_true_eq, decide_eq_true_eq] at h
      exact ⟨List.length_pos_iff.1 (by omega), List.length_pos_iff.1 (by omega)⟩
     have HR2 := hid (HKR.out he.1 he.2)
     clear he HKR
     go_wp2_with (go_at_call 118; refine HR2.out.mono ?_; rintro e w2 ⟨rfl, h2⟩; have H2 := hid h2; clear h2)
     go_meet
     exact H2.out
   case rest =>
   have HS3 := hid (show SwM w0 g (P ++ X1 ++ Y1 ++ (X2 ++ Y2 ++ S)) wc from by have h := hcut; unfold WS at h; simpa using h)
   have KA : X1 ≠ [] → Y1 ≠ [] → SymG w0 g c N l0 P X1 Y1 (X2 ++ Y2 ++ S) a s mid wc := fun n1 n2 => by
    obtain ⟨q1, q2, q3, q4, q5⟩ := HG.out
    obtain ⟨z1, z2, z3, z4⟩ := HSO.out
    have hk3 := HK2.out
    refine HIH.out P X1 Y1 (X2 ++ Y2 ++ S) a s mid wc (by omega) n1 n2 z1 z3 HS3.out ?_ HA.out q1 q5
    rw [← HLN.out]
    simp only [List.length_append]
    omega
   have HKA := hid KA
   clear KA hcut HS2 HKR HT1
   obtain ⟨wd, hwd⟩ : ∃ wd : World, wd = wc := ⟨_, rfl⟩
   rw [← hwd] at HS3 HKA ⊢
   clear hwd
   obtain ⟨t2, ht2⟩ : ∃ t, t = (decide (a < s) && decide (s < mid)) := ⟨_, rfl⟩
   have HT2 := hid ht2
   clear ht2
   go_upto_region 41 with (fail)
   go_cut [199] (BWo t2 wd)
   case first =>
    as_aux_lemma =>
    go_wp2_with fail
    all_goals
     go_meet
     exact ⟨by rw [HT2.out]; congr 1; rw [Bool.eq_iff_iff]; simp; try omega, rfl⟩
   case rest =>
   obtain ⟨rfl, rfl⟩ := hcut
   go_upto_if 199 with (fail)
   go_cut [] (WS w0 g (P ++ X1.merge Y1 leB ++ (X2 ++ Y2 ++ S)))
   case first =>
    as_aux_lemma =>
    cases t2
    ·have HSE := hid (show SwM w0 g (P ++ X1.merge Y1 leB ++ (X2 ++ Y2 ++ S)) wc from by
      have h := HT2.out
      have h3 := HS3.out
      obtain ⟨q1, q2, q3, q4, q5⟩ := HG.out
      rw [Eq.comm, Bool.and_eq_false_iff, decide_eq_false_iff_not, decide_eq_false_iff_not] at h
      rcases h with h | h
      ·have e1 : X1 = [] := List.eq_nil_of_length_eq_zero (by omega)
       rw [e1] at h3 ⊢
       rw [List.nil_merge]
       simpa using h3
      ·have e1 : Y1 = [] := List.eq_nil_of_length_eq_zero (by omega)
       rw [e1] at h3 ⊢
       rw [List.merge_right]
       simpa using h3)
     clear HS3
     go_wp2_with fail
     go_meet
     exact HSE.out
    ·have he : X1 ≠ [] ∧ Y1 ≠ [] := by
      have h := HT2.out
      obtain ⟨q1, q2, q3, q4, q5⟩ := HG.out
      rw [Eq.comm, Bool.and_eq_true, decide_eq_true_eq, decide_eq_true_eq] at h
      exact ⟨List.length_pos_iff.1 (by omega), List.length_pos_iff.1 (by omega)⟩
     have HR2 := hid (HKA.out he.1 he.2)
     clear he HKA
     go_wp2_with (go_at_call 77; refine HR2.out.mono ?_; rintro e w2 ⟨rfl, h2⟩; have H2 := hid h2; clear h2)
     go_meet
     exact H2.out
   case rest =>
   have HS4 := hid (show SwM w0 g (P ++ X1.merge Y1 leB ++ X2 ++ Y2 ++ S) wc from by have h := hcut; unfold WS at h; simpa using h)
   have KB : X2 ≠ [] → Y2 ≠ [] → SymG w0 g c N l0 (P ++ X1.merge Y1 leB) X2 Y2 S mid e b wc := fun n1 n2 => by
    obtain ⟨q1, q2, q3, q4, q5⟩ := HG.out
    obtain ⟨z1, z2, z3, z4⟩ := HSO.out
    have hk3 := HK2.out
    have hA := HA.out
    refine HIH.out (P ++ X1.merge Y1 leB) X2 Y2 S mid e b wc (by omega) n1 n2 z2 z4 HS4.out ?_ ?_ (by omega) q4
    ·rw [← HLN.out]
     simp only [List.length_append, List.length_merge]
     omega
    ·rw [List.length_append, List.length_merge]
     omega
   have HKB := hid KB
   clear KB hcut HS3 HKA HT2
   obtain ⟨wf, hwf⟩ : ∃ wf : World, wf = wc := ⟨_, rfl⟩
   rw [← hwf] at HS4 HKB ⊢
   clear hwf
   obtain ⟨t3, ht3⟩ : ∃ t, t = (decide (mid < e) && decide (e < b)) := ⟨_, rfl⟩
   have HT3 := hid ht3
   clear ht3
   go_upto_region 43 with (fail)
   go_cut [213] (BWo t3 wf)
   case first =>
    as_aux_lemma =>
    go_wp2_with fail
    all_goals
     go_meet
     exact ⟨by rw [HT3.out]; congr 1; rw [Bool.eq_iff_iff]; simp; try omega, rfl⟩
   case rest =>
   obtain ⟨rfl, rfl⟩ := hcut
   cases t3
   ·have HSE := hid (show SwM w0 g (P ++ X.merge Y leB ++ S) wc from by
     rw [HMG.out]
     have h := HT3.out
     have h3 := HS4.out
     obtain ⟨q1, q2, q3, q4, q5⟩ := HG.out
     rw [Eq.comm, Bool.and_eq_false_iff, decide_eq_false_iff_not, decide_eq_false_iff_not] at h
     rcases h with h | h
     ·have e1 : X2 = [] := List.eq_nil_of_length_eq_zero (by omega)
      rw [e1] at h3 ⊢
      rw [List.nil_merge]
      simpa using h3
     ·have e1 : Y2 = [] := List.eq_nil_of_length_eq_zero (by omega)
      rw [e1] at h3 ⊢
      rw [List.merge_right (xs := X2)]
      simpa using h3)
    clear HS4
    go_wp2_with fail
    go_end0
    exact ⟨rfl, HSE.out⟩
   ·have he : X2 ≠ [] ∧ Y2 ≠ [] := by
     have h := HT3.out
     obtain ⟨q1, q2, q3, q4, q5⟩ := HG.out
     rw [Eq.comm, Bool.and_eq_true, decide_eq_true_eq, decide_eq_true_eq] at h
     exact ⟨List.length_pos_iff.1 (by omega), List.length_pos_iff.1 (by omega)⟩
    have HR2 := hid (HKB.out he.1 he.2)
    clear he HKB
    go_wp2_with (go_at_call 77; refine HR2.out.mono ?_; rintro e w2 ⟨rfl, h2⟩; have H2 := hid h2; clear h2)
    go_end0
    refine ⟨rfl, ?_⟩
    have h := H2.out
    rw [HMG.out]
    simpa using h
theorem sym_any {w0 : World} {g c N : Nat} {l0 : List Mb} (R : RoM w0 g l0) (hN : l0.length = N) (hn : N ≤ 1000000) : ∀ (k : Nat) (P X Y S : List Mb) (a m b : Nat) (w : World), X.length + Y.length ≤ k → X ≠ [] → Y ≠ [] → SortedS leB X → SortedS leB Y → SwM w0 g (P ++ X ++ Y ++ S) w → (P ++ X ++ Y ++ S).length = l0.length → P.length = a → m = a + X.length → b = m + Y.length → SymG w0 g c N l0 P X Y S a m b w := by
 intro k
 induction k with
 | zero =>
   intro P X Y S a m b w hk hX
   exact absurd (List.eq_nil_of_length_eq_zero (by omega)) hX
 | succ k ih =>
   intro P X Y S a m b w hk hX hY sX sY hw hl ha hm hb
   have h1 := List.length_pos_iff.2 hX
   have h2 := List.length_pos_iff.2 hY
   by_cases e1 : X.length = 1
   ·obtain ⟨x, rfl⟩ := List.length_eq_one_iff.1 e1
    exact sym_one R hw hl hN ha hm hb sY hn
   ·by_cases e2 : Y.length = 1
    ·obtain ⟨y, rfl⟩ := List.length_eq_one_iff.1 e2
     exact sym_last R hw hl hN ha hm hb sX e1 hn
    ·exact sym_step R hN hn ih P X Y S a m b w hk (by omega) (by omega) sX sY hw hl ha hm hb
end Go.Proofs.YtiijdojihleggaaGreatDoor
namespace Go.Proofs.YtiijdojihleggaaGreatDoor
open Go.RowKit Go.Sort Go.Shelf
attribute [-go_sem] storeCells loadCellsFrom
theorem swm_below {w0 W : World} {g B : Nat} {l : List Mb} (h : SwM w0 g l W) (hB : B ≤ g) (hg : g < w0.heap.size) : Below B w0 W := by
 obtain ⟨q, os, rfl⟩ := h
 exact below_sortM hB hg q _ os
theorem swm_own {w0 W : World} {g B n c : Nat} {l : List Mb} {xs : List Value} (h : SwM w0 g l W) (ho : w0.ownsRow B 39 4 (.slice (some ⟨g, 0, none⟩) n c) n xs) (hl : l.length = n) : W.ownsRow B 39 4 (.slice (some ⟨g, 0, none⟩) n c) n (l.flatMap mbC) := by
 obtain ⟨q, os, rfl⟩ := h
 exact own_sortK mbC_len (by decide) ho hl os
theorem symO {w : World} {g B n c : Nat} {X Y : List Mb} {m : Nat} (ho : w.ownsRow B 39 4 (.slice (some ⟨g, 0, none⟩) n c) n ((X ++ Y).flatMap mbC)) (hB : B ≤ g) (hg : g < w.heap.size) (hX : X ≠ []) (hY : Y ≠ []) (sX : SortedS leB X) (sY : SortedS leB Y) (hm : X.length = m) (hn : n ≤ 1000000) :
 Calls Tryz.prog 77 #[.slice (some ⟨g, 0, none⟩) n c, .int .i64 0, .int .i64 m, .int .i64 n, .func (.func 35) #[] #[]] w fun e w' =>
  e = .returned (.tuple #[]) ∧ w'.ownsRow B 39 4 (.slice (some ⟨g, 0, none⟩) n c) n ((X.merge Y leB).flatMap mbC) ∧ Below B w w' := by
 have hl : (X ++ Y).length = n := by
  have h1 := ho.1
  rw [flat_len mbC 4 mbC_len] at h1
  omega
 have hH := holdsK_own mbC_len (by decide) ho
 have R : RoM w g (X ++ Y) := ⟨mbC_len, mbC_one, hH, hg⟩
 have hS : SwM w g ([] ++ X ++ Y ++ []) w := by
  rw [List.nil_append, List.append_nil]
  exact SWK.start hH
 have K := sym_any (c := c) R hl hn (X.length + Y.length) [] X Y [] 0 m n w (Nat.le_refl _) hX hY sX sY hS (by simp) rfl (by omega) (by rw [← hl, List.length_append]; omega)
 unfold SymG at K
 refine K.mono ?_
 rintro e w' ⟨rfl, h⟩
 rw [List.nil_append, List.append_nil] at h
 exact ⟨rfl, swm_own h ho (by rw [List.length_merge, ← hl, List.length_append]), swm_below h hB hg⟩
set_option maxHeartbeats 1000000 in
theorem stab_30 : StabM 30 := by
 intro l A n c B w hl ho
 by_cases hs : l.length ≤ 19
 ·exact stab_small l A n c B w hs ho
 have hn : l.length = n := by
  have h1 := ho.1
  rw [flat_len mbC 4 mbC_len] at h1
  omega
 obtain ⟨g, rfl, hB, hg⟩ := own_addrM ho (by omega)
 obtain ⟨X, Y, rfl, hX⟩ := list_cut l 20 (by omega)
 have hY : 20 + Y.length = n := by rw [← hn, List.length_append]; omega
 have hn20 : 20 ≤ n := by omega
 have hn30 : n ≤ 30 := by omega
 have K1 := insM_any (c := c) (pre := []) (M := X) (post := Y) (a := 0) (b := 20) (by simpa using ho) hB hg rfl (by omega) (by omega)
 have HK1 := hid K1
 have HX := hid hX
 have HY := hid hY
 have K2 : Calls Tryz.prog 56 #[.slice (some ⟨g, 0, none⟩) n c, .int .i64 n, .func (.func 35) #[] #[]] w fun e w' => e = .returned (.tuple #[]) ∧ w'.ownsRow B 39 4 (.slice (some ⟨g, 0, none⟩) n c) n ((isoS leB (X ++ Y)).flatMap mbC) ∧ Below B w w' := by
  clear K1 ho hX hY hn hl hs
  go_enter Tryz.func56, Tryz.ntmps56
  have tk := trivial
  go_wp2
  refine wp_loop_rounds 2 ?_
  rw [rounds_succ]
  go_wp2_with (go_at_call 76; refine HK1.out.mono ?_; rintro e w1 ⟨rfl, h1, h2⟩; have H1 := hid h1; have H2 := hid h2; clear h1 h2)
  have K3 := hid (insM_any (c := c) (pre := isoS leB X) (M := Y) (post := []) (a := 20) (b := n) (by simpa using H1.out) hB (by have := H2.out.size; omega) (by rw [isoS_len]; exact HX.out) HY.out (by omega))
  rw [rounds_succ]
  go_wp2_with (go_at_call 76; refine K3.out.mono ?_; rintro e w2 ⟨rfl, h1, h2⟩; have H3 := hid h1; have H4 := hid h2; clear h1 h2)
  have H5 := hid (H2.out.trans H4.out)
  have hg2 := hid (show g < w2.heap.size from by have := H5.out.size; omega)
  clear H1 H2 H4 K3 HK1
  by_cases h20 : n = 20
  ·subst h20
   have hY0 : Y = [] := List.eq_nil_of_length_eq_zero (by have := HY.out; omega)
   refine wp_loop_rounds 1 ?_
   rw [rounds_succ]
   go_wp2_with fail
   go_end0
   refine ⟨rfl, ?_, H5.out⟩
   have h := H3.out
   rw [hY0] at h ⊢
   simpa [isoS] using h
  ·have hlt : (20 : Int) < n := by omega
   have K4 := hid (symO (c := c) (X := isoS leB X) (Y := isoS leB Y) (m := 20) (w := w2) (by simpa using H3.out) hB hg2.out (List.length_pos_iff.1 (by rw [isoS_len, HX.out]; decide)) (List.length_pos_iff.1 (by rw [isoS_len]; have := HY.out; omega)) (isoS_sorted preB _) (isoS_sorted preB _) (by rw [isoS_len]; exact HX.out) (by omega))
   have h40 : ¬ (40 : Int) ≤ n := by omega
   refine wp_loop_rounds 2 ?_
   rw [rounds_succ]
   go_wp2_with fail
   refine wp_loop_rounds 1 ?_
   rw [rounds_succ]
   go_wp2_with (go_at_call 77; refine K4.out.mono ?_; rintro e w3 ⟨rfl, h1, h2⟩; have H6 := hid h1; have H7 := hid (H5.out.trans h2); clear h1 h2)
   rw [rounds_succ]
   go_wp2_with fail
   go_end0
   refine ⟨rfl, ?_, H7.out⟩
   have h := H6.out
   rw [isoS_append preB] at h
   exact h
 have HK2 := hid K2
 clear K1 K2 ho HK1
 go_enter Tryz.func34, Tryz.ntmps34
 go_wp2_with (go_at_call 56; refine HK2.out.mono ?_; rintro e w1 ⟨rfl, h1, h2⟩; have H1 := hid h1; have H2 := hid h2; clear h1 h2)
 go_end0
 exact ⟨rfl, H1.out, H2.out⟩
end Go.Proofs.YtiijdojihleggaaGreatDoor
