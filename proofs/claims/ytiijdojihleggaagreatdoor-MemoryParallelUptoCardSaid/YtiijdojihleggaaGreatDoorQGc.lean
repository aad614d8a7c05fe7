import Derived.Maps.RangeWalk
import Derived.BigQuiet
import Derived.Test.YtiijdojihleggaaGreatDoorQNB1
import Derived.Test.YtiijdojihleggaaGreatDoorQGb
import Derived.Test.YtiijdojihleggaaGreatDoorQNPO
import Derived.Test.YtiijdojihleggaaGreatDoorQNPA
set_option maxRecDepth 100000
set_option linter.unusedSimpArgs false
set_option linter.unusedVariables false
open Go.Lib (hid)
namespace Go.Proofs.YtiijdojihleggaaGreatDoor
open Go.RowKit Go.Maps Go.Sort Go.WideMaps
def litI : DataW Unit → Int
 | .lit (.int _ i) => i
 | _ => 0
theorem wpList_next_uses (w : World) {ops : Array Oper} {rest : List Oper} {o : Oper} {a : Act} {Q : Exit → Act → World → Prop} (hg : o.guard = none) (it : Operand) (hop : o.op = Op.next it false) (mb r cnt : Nat) (D : DataW Unit) (left : Lit → Bool)
 (hit : a.eval it = .pointer (some ⟨r, 0, none⟩)) (hD : ∀ x, D.atKey (.string x) (.lit (.int .i64 0)) = .lit (.int .i64 ((getA usesL x).getD 0))) (h : w.ranges Tryz.prog 9 (plainElem Tryz.prog 3) mb r 7 D left cnt)
 (hDone : cnt = 0 → (∀ kl, left kl = false) → wpList Tryz.prog ops Q rest (a.put o.dst (.tuple #[.bool false])) w)
 (hMore : ∀ (x : By) (w' : World) (cnt' : Nat), left (.string x) = true → w'.ranges Tryz.prog 9 (plainElem Tryz.prog 3) mb r 7 D (fun z => left z && !z.sameKey (.string x)) cnt' → cnt' < cnt →
  w.grownBy w' (some r) → (Instr.entry (.pointer (some ⟨r, 0, none⟩))).run Tryz.prog w' = .ok (.tuple #[.string ⟨x.toArray⟩, .int .i64 (useP x)]) w' → wpList Tryz.prog ops Q rest (a.put o.dst (.tuple #[.bool true, .string ⟨x.toArray⟩, .int .i64 (useP x)])) w') :
 wpList Tryz.prog ops Q (o :: rest) a w := by
 refine wpList_next_ranges w hg it hop 9 (string_keyed Tryz.underlying9) (plainElem Tryz.prog 3) encStr (fun c : Int => .int .i64 c) (fun key kl hkey => ?_) (fun v y hv => ?_) mb r 7 D left cnt hit h hDone ?_
 ·obtain ⟨x, rfl, _⟩ := Maps.keyOf_str Tryz.underlying9 hkey
  exact ⟨x, rfl⟩
 ·obtain ⟨c, rfl, _⟩ := plainElem_int_inv Tryz.underlying3 hv
  exact ⟨c, rfl⟩
 ·intro x c kl y w' cnt' hkey hlk hv hat hrg hlt hgr hsz hen
  obtain ⟨x', ex, rfl, hx⟩ := Maps.keyOf_str Tryz.underlying9 hkey
  have ex' := encStr_inj ex
  subst ex'
  obtain ⟨c', ec, rfl, hc⟩ := plainElem_int_inv Tryz.underlying3 hv
  cases ec
  have h1 := hat (.lit (.int .i64 0))
  rw [hD] at h1
  have h2 := (use_get x).symm.trans (congrArg litI h1)
  subst h2
  exact hMore x w' cnt' hlk hrg hlt hgr hen
theorem use_word {x : By} {m : Nat} (h : useP x = m) (hm : m ≠ 0) : x = usesP m := by
 unfold useP at h
 split at h
 ·rename_i hx; subst h; exact hx
 split at h
 ·rename_i hx; subst h; exact hx
 split at h
 ·rename_i hx; subst h; exact hx
 split at h
 ·rename_i hx; subst h; exact hx
 split at h
 ·rename_i hx; subst h; exact hx
 split at h
 ·rename_i hx; subst h; exact hx
 split at h
 ·rename_i hx; subst h; exact hx
 ·exact absurd h.symm hm
theorem use_inv {x : By} {k : Int} (h : (useP x : Int) = k) (h2 : 2 ≤ k) : x = usesP k ∧ 3 ≤ k ∧ k ≤ 9 := by
 subst h
 refine ⟨use_word rfl (by omega), ?_⟩
 rcases useP_cases x with h | h | h | h | h | h | h | h <;> rw [h] at h2 ⊢ <;> omega
theorem len_wt : ∀ f : F, f.len * 20 ≤ wt f
 | .nil => Nat.zero_le _
 | .cons _ _ _ _ _ _ r => by have := len_wt r; rw [F.len, wt]; omega
theorem form_kind {d : Nat} {c pt : Bool} {k : Int} {t n s : By} {cs ps r : F} (h : formB d c pt (.cons k t n s cs ps r) = true) :
 formB d c (k == 1) r = true ∧ ((k = 1 ∧ t ≠ [] ∧ n = [] ∧ s = [] ∧ cs = .nil ∧ ps = .nil) ∨ (k = 10 ∧ c = true ∧ t = [] ∧ n = [] ∧ s = [] ∧ cs = .nil ∧ ps = .nil) ∨ (k = 11 ∧ d < 8 ∧ nameB n = true ∧ t = [] ∧ s = [] ∧ cs = .nil ∧ formB (d + 1) c false ps = true) ∨
  (2 ≤ k ∧ k ≤ 6 ∧ nameB n = true ∧ t = [] ∧ cs = .nil ∧ ps = .nil ∧ (k = 2 → s = [])) ∨ (7 ≤ k ∧ k ≤ 9 ∧ d < 8 ∧ nameB n = true ∧ t = [] ∧ s = [] ∧ ps = .nil ∧ casB k.toNat (d + 1) (c || k != 9) [] cs = true)) := by
 rw [formB] at h
 simp only [Bool.and_eq_true] at h
 obtain ⟨⟨_, h⟩, hr⟩ := h
 refine ⟨hr, ?_⟩
 split at h
 ·rename_i hk
  simp only [Bool.and_eq_true] at h
  exact .inl ⟨hk, fun e => by rw [e] at h; simp at h, isEmpty_eq h.1.1.1.2, isEmpty_eq h.1.1.2, isNil_eq h.1.2, isNil_eq h.2⟩
 split at h
 ·rename_i hk
  simp only [Bool.and_eq_true] at h
  exact .inr (.inl ⟨hk, h.1.1.1.1.1, isEmpty_eq h.1.1.1.1.2, isEmpty_eq h.1.1.1.2, isEmpty_eq h.1.1.2, isNil_eq h.1.2, isNil_eq h.2⟩)
 split at h
 ·rename_i hk
  simp only [Bool.and_eq_true] at h
  exact .inr (.inr (.inr (.inl ⟨by omega, by omega, h.1.1.1.1, isEmpty_eq h.1.1.1.2, isNil_eq h.1.2, isNil_eq h.2, fun _ => isEmpty_eq h.1.1.2⟩)))
 split at h
 ·rename_i hk
  simp only [Bool.and_eq_true] at h
  exact .inr (.inr (.inr (.inl ⟨by omega, by omega, h.1.1.1.1, isEmpty_eq h.1.1.1.2, isNil_eq h.1.2, isNil_eq h.2, fun e => absurd e (by omega)⟩)))
 split at h
 ·rename_i hk
  simp only [Bool.and_eq_true] at h
  exact .inr (.inr (.inr (.inl ⟨by omega, by omega, h.1.1.1.1, isEmpty_eq h.1.1.1.2, isNil_eq h.1.2, isNil_eq h.2, fun e => absurd e (by omega)⟩)))
 split at h
 ·rename_i hk
  simp only [Bool.and_eq_true] at h
  exact .inr (.inr (.inr (.inl ⟨by omega, by omega, h.1.1.1.1, isEmpty_eq h.1.1.1.2, isNil_eq h.1.2, isNil_eq h.2, fun e => absurd e (by omega)⟩)))
 split at h
 ·rename_i hk
  simp only [Bool.and_eq_true, decide_eq_true_eq] at h
  exact .inr (.inr (.inl ⟨hk, h.1.1.1.1.1, h.1.1.1.1.2, isEmpty_eq h.1.1.1.2, isEmpty_eq h.1.1.2, isNil_eq h.1.2, h.2⟩))
 split at h
 ·rename_i hk
  simp only [Bool.and_eq_true, decide_eq_true_eq] at h
  exact .inr (.inr (.inr (.inr ⟨by omega, by omega, h.1.1.1.1.1.1.1, h.1.1.1.1.1.1.2, isEmpty_eq h.1.1.1.1.1.2, isEmpty_eq h.1.1.1.1.2, isNil_eq h.1.1.1.2, h.1.1.2⟩)))
 ·cases h
theorem form_drop {d : Nat} {c : Bool} : ∀ (f : F) (pt : Bool) (i : Nat), formB d c pt f = true → ∃ pt', formB d c pt' (fdrop f i) = true
 | f, pt, 0, h => ⟨pt, by rw [fdrop_zero]; exact h⟩
 | .nil, pt, i + 1, h => ⟨pt, h⟩
 | .cons _ _ _ _ _ _ r, pt, i + 1, h => by rw [fdrop]; exact form_drop r _ i (form_kind h).1
theorem cas_drop {kind d : Nat} {c : Bool} : ∀ (f : F) (seen : List By) (i : Nat), casB kind d c seen f = true → ∃ seen', casB kind d c seen' (fdrop f i) = true
 | f, seen, 0, h => ⟨seen, by rw [fdrop_zero]; exact h⟩
 | .nil, seen, i + 1, h => ⟨seen, h⟩
 | .cons _ _ n _ _ _ r, seen, i + 1, h => by
   rw [fdrop]
   rw [casB] at h
   simp only [Bool.and_eq_true] at h
   exact cas_drop r _ i h.2
theorem cas_part {kind d : Nat} {c : Bool} {seen : List By} {k : Int} {t n s : By} {cs ps r : F} (h : casB kind d c seen (.cons k t n s cs ps r) = true) : formB d c false ps = true ∧ keyB kind n = true ∧ k = 0 ∧ t = [] ∧ s = [] ∧ cs = .nil := by
 rw [casB] at h
 simp only [Bool.and_eq_true] at h
 exact ⟨h.1.2, h.1.1.1.2, by simpa using h.1.1.1.1.1.1.1, isEmpty_eq h.1.1.1.1.1.1.2, isEmpty_eq h.1.1.1.1.1.2, isNil_eq h.1.1.1.1.2⟩
theorem arg_len {k : Int} {n s : By} {ca r : F} (h2 : 2 ≤ k) (h9 : k ≤ 9) (hs : k = 2 → s = [] ∧ ca = .nil) :
 (txtP [32] (.cons k [] n s ca .nil r)).length = 2 + n.length + (if 3 ≤ k then 2 + (usesP k).length else 0) + (if s = [] then 0 else 2 + s.length) + (if 7 ≤ k then 1 else 0) + (casT [32] ca).length + (txtP [32] r).length := by
 rw [txtP, if_neg (by omega), if_neg (by omega), if_neg (by omega)]
 by_cases hk : k = 2
 ·obtain ⟨rfl, rfl⟩ := hs hk
  rw [if_pos hk, if_neg (by omega), if_pos rfl, if_neg (by omega)]
  simp only [List.length_append, List.length_cons, List.length_nil, casT]
  omega
 ·rw [if_neg hk, if_pos (⟨by omega, h9⟩ : 3 ≤ k ∧ k ≤ 9), if_pos (show 3 ≤ k from by omega)]
  unfold styleP
  simp only [List.length_append, List.length_cons, List.length_nil]
  by_cases h0 : s = []
  ·rw [if_pos h0, if_pos h0]
   by_cases h7 : 7 ≤ k
   ·rw [if_pos h7, if_pos h7]; simp only [List.length_cons, List.length_nil]; omega
   ·rw [if_neg h7, if_neg h7]; simp only [List.length_nil]; omega
  ·rw [if_neg h0, if_neg h0]
   by_cases h7 : 7 ≤ k
   ·rw [if_pos h7, if_pos h7]; simp only [List.length_append, List.length_cons, List.length_nil]; omega
   ·rw [if_neg h7, if_neg h7]; simp only [List.length_append, List.length_cons, List.length_nil]; omega
def extU (k : Int) (left : Lit → Bool) : Nat := if 3 ≤ k ∧ left (.string (usesP k)) = false then 2 + (usesP k).length else 0
def LuI (w1 : World) (mb : Nat) (k : Int) (a0 : Nat) (D : DataW Unit) (n u6 u7 : Value) (wr : World) : Prop :=
 ∃ (left : Lit → Bool) (cnt : Nat), wr.ranges Tryz.prog 9 (plainElem Tryz.prog 3) mb w1.heap.size 7 D left cnt ∧ n = .int .i64 (a0 + extU k left : Nat) ∧ Ext w1 wr
def LcI (w1 : World) (ca : F) (a0 : Nat) (n i : Value) (wr : World) : Prop := ∃ (k a : Nat), k ≤ ca.len ∧ i = .int .i64 k ∧ n = .int .i64 a ∧ a + (casT [32] (fdrop ca k)).length = a0 + (casT [32] ca).length ∧ Ext w1 wr
theorem ext_le (k : Int) (left : Lit → Bool) : extU k left ≤ 9 := by
 unfold extU
 have := uses_len k
 split <;> omega
theorem ext_step {k : Int} {left : Lit → Bool} {x : By} (h2 : 2 ≤ k) (h9 : k ≤ 9) (hl : left (.string x) = true) :
 extU k (fun z => left z && !z.sameKey (.string x)) = extU k left + (if (useP x : Int) = k then 2 + x.length else 0) := by
 unfold extU
 by_cases hx : (useP x : Int) = k
 ·obtain ⟨hxu, h3, _⟩ := use_inv hx h2
  rw [if_pos hx, ← hxu, hl]
  simp [h3, Lit.sameKey]
 ·rw [if_neg hx, Nat.add_zero]
  by_cases h3 : 3 ≤ k
  ·have hne : x ≠ usesP k := fun e => hx (by rw [e]; exact use_uses ⟨h3, h9⟩)
   have : (Lit.string (usesP k)).sameKey (.string x) = false := by simp [Lit.sameKey]; exact fun e => hne e.symm
   simp only [this, Bool.not_false, Bool.and_true]
  ·rw [if_neg (fun e => h3 e.1), if_neg (fun e => h3 e.1)]
def LenH (N : Nat) : Prop := ∀ (f : F) (v : Value) (ok : Nat → Prop) (d : Nat) (c pt : Bool) (w : World), f.nodes < N → FwS w ok f v → formB d c pt f = true → wt f ≤ 40000000 →
 Calls Tryz.prog 70 #[v] w fun e w' => e = .returned (.int .i64 ((txtP [32] f).length : Nat)) ∧ Ext w w'
def LnI (w : World) (f : F) (n i : Value) (wr : World) : Prop := ∃ (k a : Nat), k ≤ f.len ∧ i = .int .i64 k ∧ n = .int .i64 a ∧ a + (txtP [32] (fdrop f k)).length = (txtP [32] f).length ∧ Ext w wr
set_option maxHeartbeats 16000000 in
theorem len_step (N : Nat) (hN : LenH N) : LenH (N + 1) := by
 intro f v ok d c pt w hn hF hform hwt
 obtain ⟨A, cc, hv⟩ := hF.val
 subst hv
 have HFS := hid hF
 have HFM := hid hform
 have HWT := hid hwt
 have HTX := hid (txt_wt f).1
 have H0 := hid (show LnI w f (.int .i64 0) (.int .i64 0) w from ⟨0, 0, Nat.zero_le _, rfl, rfl, by rw [fdrop_zero, Nat.zero_add], Ext.refl _⟩)
 have HN := hid hn
 clear hF hform hwt hn
 go_enter Tryz.func70, Tryz.ntmps70
 go_wp2_with fail
 go_loopw [3, 12] (LnI w f) (fun _ i _ => f.len - (intOf i).toNat)
 case atStart => exact H0.out
 case round =>
  obtain ⟨k, a, hk, rfl, rfl, ha, hw⟩ := hrel
  have HW := hid hw
  have hle : a ≤ 40000000 := by have := HTX.out; have := HWT.out; omega
  have hfl : f.len ≤ 40000000 := by have := len_wt f; have := HWT.out; omega
  have HA := hid ha
  by_cases hkl : k < f.len
  rotate_left
  ·have hke : k = f.len := by omega
   have HE := hid (show a = (txtP [32] f).length from by
    have h := HA.out
    rw [fdrop_end f k (by omega)] at h
    rw [← h]; rfl)
   have hkI : ¬ (k : Int) < (f.len : Int) := by omega
   clear ha hw
   go_wp2
   go_ret
   exact ⟨by rw [HE.out]; rfl, HW.out⟩
  have hkI : (k : Int) < (f.len : Int) := by omega
  obtain ⟨b, o, cc', kd, t, nm, st, ca, pa, Ac, cac, Ap, cpa, hv, hbw, _, hdr, c0, c1, c2, c3, c4, c5, hCA, hPA⟩ := (HFS.out.ext hw).at_ hkl
  injection hv with hA _ hcc
  subst hA hcc
  obtain ⟨pt', hfd⟩ := form_drop f pt k HFM.out
  rw [hdr] at hfd
  obtain ⟨_, hkind⟩ := form_kind hfd
  have hwp := wt_drop f k hdr
  have hnd : ca.nodes + pa.nodes + 1 ≤ f.nodes := by have h := fdrop_nodes f k; rw [hdr, F.nodes] at h; omega
  rw [hdr] at ha
  have HXP := hid ((Ext.refl wr).alloc (.cells #[.int .i64 kd, .string ⟨t.toArray⟩, .string ⟨nm.toArray⟩, .string ⟨st.toArray⟩, .slice Ac ca.len cac, .slice Ap pa.len cpa] 96))
  have HXB := hid (AtC.new wr #[.int .i64 kd, .string ⟨t.toArray⟩, .string ⟨nm.toArray⟩, .string ⟨st.toArray⟩, .slice Ac ca.len cac, .slice Ap pa.len cpa] : AtC 96 _ _ _)
  have HCA := hid hCA
  have HPA := hid hPA
  have HWP := hid hwp
  have HND := hid hnd
  have HA2 := hid ha
  clear hCA hPA hwp hnd hdr hfd hw
  rcases hkind with ⟨rfl, ht, rfl, rfl, rfl, rfl⟩ | ⟨rfl, _, rfl, rfl, rfl, rfl, rfl⟩ | ⟨rfl, hd8, hname, rfl, rfl, rfl, hfp⟩ | ⟨hk2, hk6, hname, rfl, hca, rfl, hs2⟩ | ⟨hk7, hk9, hd8, hname, rfl, hst, rfl, hcas⟩
  ·have KE := hid (fun W => (show Calls Tryz.prog 103 #[.string ⟨t.toArray⟩] W fun e w' => e = .returned (.string ⟨(escP t).toArray⟩) ∧ Ext W w' from tesc_any ⟨t.toArray⟩ W (by have := HWP.out; have := HWT.out; show t.length ≤ _; omega)))
   have hsum : a + (escP t).length + (txtP [32] (fdrop f (k + 1))).length = (txtP [32] f).length := by
    have h := HA2.out
    rw [txtP, if_pos rfl, List.length_append] at h
    omega
   have HSUM := hid hsum
   have hb : a + (escP t).length ≤ 40000000 := by have := HTX.out; have := HWT.out; omega
   clear hsum ha
   go_wp2_with fail
   refine (KE.out _).mono ?_
   rintro e w2 ⟨rfl, hx2⟩
   have HX2 := hid (HW.out.trans (HXP.out.trans hx2))
   clear hx2
   go_wp2
   exact ⟨⟨k + 1, a + (escP t).length, hkl, by go_num, by go_num, HSUM.out, HX2.out⟩, by simp [intOf]; omega⟩
  ·have hsum : a + 1 + (txtP [32] (fdrop f (k + 1))).length = (txtP [32] f).length := by
    have h := HA2.out
    rw [txtP, if_neg (by decide), if_pos rfl, List.length_append, List.length_cons, List.length_nil] at h
    omega
   have HSUM := hid hsum
   clear hsum ha
   go_wp2
   exact ⟨⟨k + 1, a + 1, hkl, by go_num, by go_num, HSUM.out, HW.out.trans HXP.out⟩, by simp [intOf]; omega⟩
  ·have KP := hid (fun W (hW : Ext wr W) => hN pa _ ok (d + 1) c false W (by have := HND.out; have := HN.out; omega) (HPA.out.ext hW) hfp (by have := HWP.out; have := HWT.out; omega))
   have hn40 : nm.length ≤ 40 := by
    unfold nameB at hname
    simp only [Bool.and_eq_true, decide_eq_true_eq] at hname
    exact hname.1.1.2
   by_cases hp0 : pa.len = 0
   ·have hsum : a + (3 + nm.length) + (txtP [32] (fdrop f (k + 1))).length = (txtP [32] f).length := by
     have h := HA2.out
     rw [txtP, if_neg (by decide), if_neg (by decide), if_pos rfl, if_pos hp0] at h
     simp only [List.length_append, List.length_cons, List.length_nil] at h
     omega
    have HSUM := hid hsum
    have hpI : ¬ (0 : Int) < (pa.len : Int) := by omega
    have HP0 := hid hp0
    clear hsum ha hp0 hname hfp
    go_wp2
    exact ⟨⟨k + 1, a + (3 + nm.length), hkl, by go_num, by go_num, HSUM.out, HW.out.trans HXP.out⟩, by simp [intOf]; omega⟩
   ·have hsum : a + (3 + nm.length) + (2 + nm.length + (txtP [32] pa).length) + (txtP [32] (fdrop f (k + 1))).length = (txtP [32] f).length := by
     have h := HA2.out
     rw [txtP, if_neg (by decide), if_neg (by decide), if_pos rfl, if_neg hp0] at h
     simp only [List.length_append, List.length_cons, List.length_nil] at h
     omega
    have HSUM := hid hsum
    have hpI : (0 : Int) < (pa.len : Int) := by omega
    obtain ⟨LP, hLP⟩ : ∃ LP, LP = (txtP [32] pa).length := ⟨_, rfl⟩
    rw [← hLP] at KP HSUM
    have hlp : LP ≤ 40000000 := by have := HWP.out; have := HWT.out; have := (txt_wt pa).1; omega
    clear hsum ha hp0 hname hfp hLP
    go_wp2_with fail
    have hw1 : IntKind.i64.wrap (2 + (nm.length : Int)) = 2 + (nm.length : Int) := IntWalk.i64_in _ (by omega)
    have hw2 : IntKind.i64.wrap (2 + (nm.length : Int) + (LP : Int)) = 2 + (nm.length : Int) + (LP : Int) := IntWalk.i64_in _ (by omega)
    have hw3 : IntKind.i64.wrap ((a : Int) + (3 + (nm.length : Int)) + (2 + (nm.length : Int) + (LP : Int))) = (a : Int) + (3 + (nm.length : Int)) + (2 + (nm.length : Int) + (LP : Int)) := IntWalk.i64_in _ (by omega)
    generalize wr.alloc (.cells #[.int .i64 11, .string ⟨#[]⟩, .string ⟨nm.toArray⟩, .string ⟨#[]⟩, .slice Ac F.nil.len cac, .slice Ap pa.len cpa] 96) = W1 at *
    have y2 : ∀ y : ExtW W1, y.v.cell? ⟨wr.heap.size, 2, none⟩ = some (.string ⟨nm.toArray⟩) := fun y => (HXB.out.ext y.h).cell 2 _ rfl
    have y5 : ∀ y : ExtW W1, y.v.cell? ⟨wr.heap.size, 5, none⟩ = some (.slice Ap pa.len cpa) := fun y => (HXB.out.ext y.h).cell 5 _ rfl
    have KPE := hid (fun y : ExtW W1 => KP.out y.v (HXP.out.trans y.h))
    refine wp_region_ext (by kernel_rfl) (by kernel_rfl) ?_
    repeat (go_big_quiet_step ((go_at_call 70; exact ExtW.call (KPE.out _))))
    refine wpQuiet_nil ?_
    intro wx hx
    have HX6 := hid (show Ext W1 wx from by obtain ⟨y, hy⟩ := hx; rw [hy]; exact y.h)
    clear hx y2 y5
    go_wp2
    exact ⟨⟨k + 1, a + (3 + nm.length) + (2 + nm.length + LP), hkl, by go_num, by go_num, HSUM.out, HW.out.trans (HXP.out.trans HX6.out)⟩, by simp [intOf]; omega⟩
  all_goals
   have hk29 : 2 ≤ kd ∧ kd ≤ 9 := ⟨by omega, by omega⟩
   have hn40 : nm.length ≤ 40 := by
    unfold nameB at hname
    simp only [Bool.and_eq_true, decide_eq_true_eq] at hname
    exact hname.1.1.2
   have b1 : (kd == 1) = false := by rw [beq_eq_false_iff_ne]; omega
   have b10 : (kd == 10) = false := by rw [beq_eq_false_iff_ne]; omega
   have b11 : (kd == 11) = false := by rw [beq_eq_false_iff_ne]; omega
   have hs2' : kd = 2 → st = [] ∧ ca = .nil := by first | exact fun e => ⟨hs2 e, hca⟩ | exact fun e => absurd e (by omega)
   have hsum := HA2.out
   rw [arg_len hk29.1 hk29.2 hs2'] at hsum
   have hcb : ∀ i k' t' n' s' c' p', fdrop ca i = .cons k' t' n' s' c' p' (fdrop ca (i + 1)) → formB (d + 1) (c || kd != 9) false p' = true := by
    intro i k' t' n' s' c' p' e
    first
    | (rw [hca] at e; exact absurd e (by cases i <;> (intro e; cases e)))
    | (obtain ⟨seen', h1⟩ := cas_drop ca [] i hcas
       rw [e] at h1
       exact (cas_part h1).1)
   have hbnd : a + 2 + nm.length + (if 3 ≤ kd then 2 + (usesP kd).length else 0) + (if st = [] then 0 else 2 + st.length) + (if 7 ≤ kd then 1 else 0) + (casT [32] ca).length ≤ 40000000 := by
    have := HTX.out; have := HWT.out; omega
   have HSS := hid (show 7 ≤ kd → st = [] from by first | exact fun e => absurd e (by omega) | exact fun _ => hst)
   have HSUM := hid hsum
   have HCB := hid hcb
   have HBND := hid hbnd
   have HK29 := hid hk29
   have KS := hid (fun W => sel_any kd W)
   have hab : a + 2 + nm.length ≤ 40000000 := by omega
   obtain ⟨W1, hW1⟩ : ∃ W1, W1 = wr.alloc (.cells #[.int .i64 kd, .string ⟨#[]⟩, .string ⟨nm.toArray⟩, .string ⟨st.toArray⟩, .slice Ac ca.len cac, .slice Ap F.nil.len cpa] 96) := ⟨_, rfl⟩
   have HX1 := hid (show Ext wr W1 from by rw [hW1]; exact HXP.out)
   have HB1 := hid (show AtC 96 W1 wr.heap.size #[.int .i64 kd, .string ⟨#[]⟩, .string ⟨nm.toArray⟩, .string ⟨st.toArray⟩, .slice Ac ca.len cac, .slice Ap F.nil.len cpa] from by rw [hW1]; exact HXB.out)
   have KU := hid (uses_any W1)
   clear hsum hcb hbnd ha hs2' hname HXP HXB
   first | clear hca hs2 | clear hst hcas
   go_wp2_with fail
   rw [← hW1]
   clear hW1
   refine KU.out.mono ?_
   rintro e w2 ⟨rfl, hm2, hx2⟩
   obtain ⟨D, hown, hD, hhas⟩ := hm2
   have HDD := hid hD
   have HHAS := hid hhas
   have HX2 := hid (HX1.out.trans hx2)
   have HB2 := hid (HB1.out.ext hx2)
   have HOWN := hid hown
   have HM1 := hid hown.lt
   clear hD hhas hx2 hown KU
   go_wp2_with (first
    | (at_range; refine wpList_range_own _ rfl _ 171 rfl 9 3 (string_keyed Tryz.underlying9) Tryz.underlying171 _ W1.heap.size 7 D rfl HOWN.out ?_; intro w3 hrg3 hg3 hs3; have HRG3 := hid hrg3; have HX3 := hid ((Ext.refl w2).grown hg3 (fun k h => by cases h)); clear hrg3 hg3 hs3))
   go_frame
   obtain ⟨a2, ha2⟩ : ∃ a2, a2 = a + (2 + nm.length) := ⟨_, rfl⟩
   have HI3 := hid (show LuI w2 W1.heap.size kd a2 D (.int .i64 (a2 : Nat)) u6 u7 w3 from ⟨_, _, HRG3.out, by
    have : extU kd (Maps.has D) = 0 := by
     unfold extU
     by_cases h3 : 3 ≤ kd
     ·rw [HHAS.out, if_neg]
      intro e
      have h4 := e.2
      have h5 := use_uses ⟨h3, hk29.2⟩
      rw [← use_get] at h5
      cases hg : getA usesL (usesP kd) with
      | none => rw [hg] at h5; exact absurd h5 (by show ¬ (0 : Int) = kd; omega)
      | some x => rw [hg] at h4; cases h4
     ·rw [if_neg (fun e => h3 e.1)]
    rw [this]; rfl, HX3.out⟩)
   have hav : (a : Int) + (2 + (nm.length : Int)) = ((a2 : Nat) : Int) := by omega
   have ha2b : a2 ≤ 40000000 := by omega
   rw [hav]
   obtain ⟨wo, rfl⟩ : ∃ wo : World, wo = wr := ⟨_, rfl⟩
   go_loopw [3, 6, 7] (LuI w2 W1.heap.size kd a2 D) (fun _ _ _ wi => wi.rangeLeft W1.heap.size w2.heap.size)
   case atStart => exact HI3.out
   case round =>
    obtain ⟨left, cnt, hrg, hn3, hw3⟩ := hrel
    obtain ⟨e3, he3⟩ : ∃ e3, e3 = a2 + extU kd left := ⟨_, rfl⟩
    rw [← he3] at hn3
    subst hn3
    have HE3 := hid he3
    have he3b : e3 ≤ 40000009 := by have := ext_le kd left; omega
    clear he3
    have HRG := hid hrg
    have HW3 := hid (HX2.out.trans hw3)
    have HB3 := hid (HB2.out.ext hw3)
    have HW23 := hid hw3
    clear hw3 hrg
    go_wp2_with (first
     | (at_next; refine wpList_next_uses _ rfl _ rfl W1.heap.size w2.heap.size cnt D left rfl HDD.out HRG.out ?_ ?_))
    rotate_left
    ·intro x w4 cnt4 hlx hrg4 hlt hg4 hen
     go_frame
     have hx4 : Ext w2 w4 := HW23.out.grown hg4 (fun j e => by injection e with e; omega)
     have HB4 := hid (HB2.out.ext hx4)
     have HRG4 := hid hrg4
     have HST := hid (ext_step hk29.1 hk29.2 hlx)
     have HX4 := hid hx4
     have HLT := hid hlt
     have p0 := HB4.out.cell 0 _ rfl
     clear hx4 hrg4 hlx hg4 hlt
     by_cases hx : (useP x : Int) = kd
     ·have bx : ((useP x : Int) == kd) = true := by rw [hx]; exact beq_self_eq_true _
      have hxn : x.length ≤ 7 := by
       have h := (use_inv hx hk29.1).1
       rw [h]; exact uses_len kd
      have HXN := hid hx
      clear hx
      go_wp2
      refine ⟨⟨_, cnt4, HRG4.out, ?_, HX4.out⟩, ?_⟩
      ·rw [HST.out, if_pos HXN.out, ← Nat.add_assoc, ← HE3.out]; go_num
      ·rw [HRG4.out.left_eq, HRG.out.left_eq]; exact HLT.out
     ·have bx : ((useP x : Int) == kd) = false := by rw [beq_eq_false_iff_ne]; exact hx
      have HXN := hid hx
      clear hx
      go_wp2
      refine ⟨⟨_, cnt4, HRG4.out, ?_, HX4.out⟩, ?_⟩
      ·rw [HST.out, if_neg HXN.out, Nat.add_zero, ← HE3.out]
      ·rw [HRG4.out.left_eq, HRG.out.left_eq]; exact HLT.out
    ·intro h0 hl0
     go_frame
     have HA3 := hid (show e3 = a + (2 + nm.length) + (if 3 ≤ kd then 2 + (usesP kd).length else 0) from by
      rw [HE3.out, ha2]
      unfold extU
      by_cases h3 : 3 ≤ kd
      ·rw [if_pos ⟨h3, hl0 _⟩, if_pos h3]
      ·rw [if_neg (fun e => h3 e.1), if_neg h3])
     clear ha2 hl0 h0 hav
     have ha3b : e3 ≤ 40000000 := by have := HA3.out; have := HBND.out; omega
     obtain ⟨ST, hST⟩ : ∃ ST : ByteArray, ST = ⟨st.toArray⟩ := ⟨_, rfl⟩
     have HSTL := hid (show ST.size = st.length from by rw [hST]; rfl)
     have HSTN := hid (show ST.toList = st from by rw [hST, ByteArray.toList_eq])
     rw [← hST] at HB3
     have p0 := HB3.out.cell 0 _ rfl
     have p3 := HB3.out.cell 3 _ rfl
     have p4 := HB3.out.cell 4 _ rfl
     clear hST
     obtain ⟨S, hS⟩ : ∃ S, S = (if st = [] then 0 else 2 + st.length) := ⟨_, rfl⟩
     obtain ⟨Lk, hLk⟩ : ∃ Lk, Lk = (if 7 ≤ kd then 1 else 0) := ⟨_, rfl⟩
     have HTOT := hid (show e3 + S + Lk + (casT [32] ca).length + (txtP [32] (fdrop f (k + 1))).length = (txtP [32] f).length from by
      have h := HSUM.out
      rw [← hS, ← hLk] at h
      have := HA3.out
      omega)
     have hstb : ST.size ≤ 40000000 := by have := HWP.out; have := HWT.out; have := HSTL.out; omega
     have htot : e3 + S + Lk + (casT [32] ca).length ≤ 40000000 := by have := HTOT.out; have := HTX.out; have := HWT.out; omega
     have hLk1 : Lk ≤ 1 := by rw [hLk]; split <;> omega
     have hsel : (decide (7 ≤ kd) && decide (kd ≤ 9)) = decide (Lk = 1) := by
      rw [hLk]
      by_cases h7 : 7 ≤ kd
      ·rw [if_pos h7]; simp [h7, hk29.2]
      ·rw [if_neg h7]; simp [h7]
     rw [hsel] at KS
     have HLK := hid (show 7 ≤ kd ↔ 1 ≤ Lk from by rw [hLk]; by_cases h7 : 7 ≤ kd <;> simp [h7])
     clear hsel hLk
     have hS2 : (ST.toList = [] ∧ S = 0) ∨ (ST.toList ≠ [] ∧ S = 2 + ST.size) := by
      rw [HSTN.out, HSTL.out, hS]
      by_cases h0 : st = []
      ·exact .inl ⟨h0, if_pos h0⟩
      ·exact .inr ⟨h0, if_neg h0⟩
     clear hS
     obtain ⟨a5, ha5⟩ : ∃ a5, a5 = e3 + S + Lk := ⟨_, rfl⟩
     have HA5 := hid ha5
     have hca5 : a5 + (casT [32] ca).length ≤ 40000000 := by omega
     have hcal : ca.len ≤ 40000000 := by have := len_wt ca; have := HWP.out; have := HWT.out; omega
     obtain ⟨wb, rfl⟩ : ∃ wb : World, wb = wr := ⟨_, rfl⟩
     have HC0 := hid (show LcI wb ca a5 (.int .i64 a5) (.int .i64 0) wb from ⟨0, a5, Nat.zero_le _, rfl, rfl, by rw [fdrop_zero], Ext.refl _⟩)
     rcases hS2 with ⟨hs0, hS0⟩ | ⟨hs0, hS0⟩
     ·have s1 : ST.toList.isEmpty = true := by rw [hs0]; rfl
      have s2 : (ST.toList == []) = true := by rw [hs0]; rfl
      rcases Nat.lt_or_ge Lk 1 with hl | hl
      ·have hl0 : Lk = 0 := by omega
       have e5 : a5 = e3 := by omega
       rw [show decide (Lk = 1) = false from by rw [hl0]; rfl] at KS
       clear hs0 hS0 hl hl0 hLk1 htot hstb ha5
       go_wp2_with fail
       refine (KS.out _).mono ?_
       rintro e w5 ⟨rfl, rfl⟩
       go_wp2_with fail
       have hv5 : (e3 : Int) = ((a5 : Nat) : Int) := by omega
       rw [hv5]
       clear hv5 e5
       go_loopw [3, 57] (LcI wb ca a5) (fun _ i _ => ca.len - (intOf i).toNat)
       case atStart => exact HC0.out
       case round =>
        obtain ⟨j, a6, hj, rfl, rfl, hj6, hw6⟩ := hrel
        have HW6 := hid hw6
        have HWO := hid (HW3.out.trans hw6)
        have HJ6 := hid hj6
        have ha6b : a6 ≤ 40000000 := by omega
        by_cases hjl : j < ca.len
        ·have hjI : (j : Int) < (ca.len : Int) := by omega
         obtain ⟨b', o', cc', k', t', n', s', ca', pa', Ap', cp', hv', hbw', _, hdr', d0, d1, hPA'⟩ := (HCA.out.ext HWO.out).at_ hjl
         injection hv' with hA' _ hcc'
         subst hA' hcc'
         have hwp' := wt_drop ca j hdr'
         have hnd' : pa'.nodes + 1 ≤ ca.nodes := by have h := fdrop_nodes ca j; rw [hdr', F.nodes] at h; omega
         have KP' := hid (fun W (hW : Ext wr W) => hN pa' _ ok (d + 1) (c || kd != 9) false W (by have := HND.out; have := HN.out; omega) (hPA'.ext hW) (HCB.out _ _ _ _ _ _ _ hdr') (by have := HWP.out; have := HWT.out; omega))
         rw [hdr'] at hj6
         obtain ⟨LP, hLP⟩ : ∃ LP, LP = (txtP [32] pa').length := ⟨_, rfl⟩
         have hsum' : a6 + (4 + n'.length + LP) + (casT [32] (fdrop ca (j + 1))).length = a5 + (casT [32] ca).length := by
          rw [casT] at hj6
          simp only [List.length_append, List.length_cons, List.length_nil] at hj6
          omega
         have HSUM' := hid hsum'
         rw [← hLP] at KP'
         have hb' : a6 + (4 + n'.length + LP) ≤ 40000000 := by omega
         have HXP' := hid ((Ext.refl wr).alloc (.cells #[.string ⟨n'.toArray⟩, .slice Ap' pa'.len cp'] 106))
         have HXB' := hid (AtC.new wr #[.string ⟨n'.toArray⟩, .slice Ap' pa'.len cp'] : AtC 106 _ _ _)
         clear hLP hsum' hj6 hdr' hPA' hwp' hnd' hw6
         go_wp2_with fail
         have hw1 : IntKind.i64.wrap (4 + (n'.length : Int)) = 4 + (n'.length : Int) := IntWalk.i64_in _ (by omega)
         have hw2 : IntKind.i64.wrap (4 + (n'.length : Int) + (LP : Int)) = 4 + (n'.length : Int) + (LP : Int) := IntWalk.i64_in _ (by omega)
         have hw3 : IntKind.i64.wrap ((a6 : Int) + (4 + (n'.length : Int) + (LP : Int))) = (a6 : Int) + (4 + (n'.length : Int) + (LP : Int)) := IntWalk.i64_in _ (by omega)
         generalize wr.alloc (.cells #[.string ⟨n'.toArray⟩, .slice Ap' pa'.len cp'] 106) = W7 at *
         have y0 : ∀ y : ExtW W7, y.v.cell? ⟨wr.heap.size, 0, none⟩ = some (.string ⟨n'.toArray⟩) := fun y => (HXB'.out.ext y.h).cell 0 _ rfl
         have y1 : ∀ y : ExtW W7, y.v.cell? ⟨wr.heap.size, 1, none⟩ = some (.slice Ap' pa'.len cp') := fun y => (HXB'.out.ext y.h).cell 1 _ rfl
         have KPE := hid (fun y : ExtW W7 => KP'.out y.v (HXP'.out.trans y.h))
         refine wp_region_ext (by kernel_rfl) (by kernel_rfl) ?_
         repeat (go_big_quiet_step ((go_at_call 70; exact ExtW.call (KPE.out _))))
         refine wpQuiet_nil ?_
         intro wx hx
         have HX7 := hid (show Ext W7 wx from by obtain ⟨y, hy⟩ := hx; rw [hy]; exact y.h)
         clear hx y0 y1
         go_wp2
         exact ⟨⟨j + 1, a6 + (4 + n'.length + LP), hjl, by go_num, by go_num, HSUM'.out, HW6.out.trans (HXP'.out.trans HX7.out)⟩, by simp [intOf]; omega⟩
        ·have hje : j = ca.len := by omega
         have hjI : ¬ (j : Int) < (ca.len : Int) := by omega
         have HFIN := hid (show a6 + (txtP [32] (fdrop f (k + 1))).length = (txtP [32] f).length from by
          have h := HJ6.out
          rw [fdrop_end ca j (by omega)] at h
          have h2 := HTOT.out
          have h3 := HA5.out
          have h4 : (casT [32] F.nil).length = 0 := rfl
          omega)
         subst hje
         clear hj6 hw6
         go_wp2
         exact ⟨⟨k + 1, a6, hkl, by go_num, by go_num, HFIN.out, HW.out.trans HWO.out⟩, by simp [intOf]; omega⟩
      ·have hl0 : Lk = 1 := by omega
       have e5 : a5 = e3 + 1 := by omega
       rw [show decide (Lk = 1) = true from by rw [hl0]; rfl] at KS
       clear hs0 hS0 hl hl0 hLk1 htot hstb ha5
       go_wp2_with fail
       refine (KS.out _).mono ?_
       rintro e w5 ⟨rfl, rfl⟩
       go_wp2_with fail
       have hv5 : (e3 : Int) + 1 = ((a5 : Nat) : Int) := by omega
       rw [hv5]
       clear hv5 e5
       go_loopw [3, 57] (LcI wb ca a5) (fun _ i _ => ca.len - (intOf i).toNat)
       case atStart => exact HC0.out
       case round =>
        obtain ⟨j, a6, hj, rfl, rfl, hj6, hw6⟩ := hrel
        have HW6 := hid hw6
        have HWO := hid (HW3.out.trans hw6)
        have HJ6 := hid hj6
        have ha6b : a6 ≤ 40000000 := by omega
        by_cases hjl : j < ca.len
        ·have hjI : (j : Int) < (ca.len : Int) := by omega
         obtain ⟨b', o', cc', k', t', n', s', ca', pa', Ap', cp', hv', hbw', _, hdr', d0, d1, hPA'⟩ := (HCA.out.ext HWO.out).at_ hjl
         injection hv' with hA' _ hcc'
         subst hA' hcc'
         have hwp' := wt_drop ca j hdr'
         have hnd' : pa'.nodes + 1 ≤ ca.nodes := by have h := fdrop_nodes ca j; rw [hdr', F.nodes] at h; omega
         have KP' := hid (fun W (hW : Ext wr W) => hN pa' _ ok (d + 1) (c || kd != 9) false W (by have := HND.out; have := HN.out; omega) (hPA'.ext hW) (HCB.out _ _ _ _ _ _ _ hdr') (by have := HWP.out; have := HWT.out; omega))
         rw [hdr'] at hj6
         obtain ⟨LP, hLP⟩ : ∃ LP, LP = (txtP [32] pa').length := ⟨_, rfl⟩
         have hsum' : a6 + (4 + n'.length + LP) + (casT [32] (fdrop ca (j + 1))).length = a5 + (casT [32] ca).length := by
          rw [casT] at hj6
          simp only [List.length_append, List.length_cons, List.length_nil] at hj6
          omega
         have HSUM' := hid hsum'
         rw [← hLP] at KP'
         have hb' : a6 + (4 + n'.length + LP) ≤ 40000000 := by omega
         have HXP' := hid ((Ext.refl wr).alloc (.cells #[.string ⟨n'.toArray⟩, .slice Ap' pa'.len cp'] 106))
         have HXB' := hid (AtC.new wr #[.string ⟨n'.toArray⟩, .slice Ap' pa'.len cp'] : AtC 106 _ _ _)
         clear hLP hsum' hj6 hdr' hPA' hwp' hnd' hw6
         go_wp2_with fail
         have hw1 : IntKind.i64.wrap (4 + (n'.length : Int)) = 4 + (n'.length : Int) := IntWalk.i64_in _ (by omega)
         have hw2 : IntKind.i64.wrap (4 + (n'.length : Int) + (LP : Int)) = 4 + (n'.length : Int) + (LP : Int) := IntWalk.i64_in _ (by omega)
         have hw3 : IntKind.i64.wrap ((a6 : Int) + (4 + (n'.length : Int) + (LP : Int))) = (a6 : Int) + (4 + (n'.length : Int) + (LP : Int)) := IntWalk.i64_in _ (by omega)
         generalize wr.alloc (.cells #[.string ⟨n'.toArray⟩, .slice Ap' pa'.len cp'] 106) = W7 at *
         have y0 : ∀ y : ExtW W7, y.v.cell? ⟨wr.heap.size, 0, none⟩ = some (.string ⟨n'.toArray⟩) := fun y => (HXB'.out.ext y.h).cell 0 _ rfl
         have y1 : ∀ y : ExtW W7, y.v.cell? ⟨wr.heap.size, 1, none⟩ = some (.slice Ap' pa'.len cp') := fun y => (HXB'.out.ext y.h).cell 1 _ rfl
         have KPE := hid (fun y : ExtW W7 => KP'.out y.v (HXP'.out.trans y.h))
         refine wp_region_ext (by kernel_rfl) (by kernel_rfl) ?_
         repeat (go_big_quiet_step ((go_at_call 70; exact ExtW.call (KPE.out _))))
         refine wpQuiet_nil ?_
         intro wx hx
         have HX7 := hid (show Ext W7 wx from by obtain ⟨y, hy⟩ := hx; rw [hy]; exact y.h)
         clear hx y0 y1
         go_wp2
         exact ⟨⟨j + 1, a6 + (4 + n'.length + LP), hjl, by go_num, by go_num, HSUM'.out, HW6.out.trans (HXP'.out.trans HX7.out)⟩, by simp [intOf]; omega⟩
        ·have hje : j = ca.len := by omega
         have hjI : ¬ (j : Int) < (ca.len : Int) := by omega
         have HFIN := hid (show a6 + (txtP [32] (fdrop f (k + 1))).length = (txtP [32] f).length from by
          have h := HJ6.out
          rw [fdrop_end ca j (by omega)] at h
          have h2 := HTOT.out
          have h3 := HA5.out
          have h4 : (casT [32] F.nil).length = 0 := rfl
          omega)
         subst hje
         clear hj6 hw6
         go_wp2
         exact ⟨⟨k + 1, a6, hkl, by go_num, by go_num, HFIN.out, HW.out.trans HWO.out⟩, by simp [intOf]; omega⟩
     ·have s1 : ST.toList.isEmpty = false := by cases h : ST.toList with
       | nil => exact absurd h hs0
       | cons x r => rfl
      have s2 : (ST.toList == []) = false := by rw [beq_eq_false_iff_ne]; exact hs0
      have s3 : ¬ ST.toList = [] := hs0
      have hl0 : Lk = 0 := by
       rcases Nat.lt_or_ge Lk 1 with hl | hl
       ·omega
       ·exfalso
        exact hs0 (by rw [HSTN.out]; exact HSS.out (by rw [HLK.out]; omega))
      have e5 : a5 = e3 + (2 + ST.size) := by omega
      rw [show decide (Lk = 1) = false from by rw [hl0]; rfl] at KS
      clear hs0 hS0 hl0 hLk1 htot ha5
      go_wp2_with fail
      refine (KS.out _).mono ?_
      rintro e w5 ⟨rfl, rfl⟩
      go_wp2_with fail
      have hv5 : (e3 : Int) + (2 + (ST.size : Int)) = ((a5 : Nat) : Int) := by omega
      rw [hv5]
      clear hv5 e5
      go_loopw [3, 57] (LcI wb ca a5) (fun _ i _ => ca.len - (intOf i).toNat)
      case atStart => exact HC0.out
      case round =>
       obtain ⟨j, a6, hj, rfl, rfl, hj6, hw6⟩ := hrel
       have HW6 := hid hw6
       have HWO := hid (HW3.out.trans hw6)
       have HJ6 := hid hj6
       have ha6b : a6 ≤ 40000000 := by omega
       by_cases hjl : j < ca.len
       ·have hjI : (j : Int) < (ca.len : Int) := by omega
        obtain ⟨b', o', cc', k', t', n', s', ca', pa', Ap', cp', hv', hbw', _, hdr', d0, d1, hPA'⟩ := (HCA.out.ext HWO.out).at_ hjl
        injection hv' with hA' _ hcc'
        subst hA' hcc'
        have hwp' := wt_drop ca j hdr'
        have hnd' : pa'.nodes + 1 ≤ ca.nodes := by have h := fdrop_nodes ca j; rw [hdr', F.nodes] at h; omega
        have KP' := hid (fun W (hW : Ext wr W) => hN pa' _ ok (d + 1) (c || kd != 9) false W (by have := HND.out; have := HN.out; omega) (hPA'.ext hW) (HCB.out _ _ _ _ _ _ _ hdr') (by have := HWP.out; have := HWT.out; omega))
        rw [hdr'] at hj6
        obtain ⟨LP, hLP⟩ : ∃ LP, LP = (txtP [32] pa').length := ⟨_, rfl⟩
        have hsum' : a6 + (4 + n'.length + LP) + (casT [32] (fdrop ca (j + 1))).length = a5 + (casT [32] ca).length := by
         rw [casT] at hj6
         simp only [List.length_append, List.length_cons, List.length_nil] at hj6
         omega
        have HSUM' := hid hsum'
        rw [← hLP] at KP'
        have hb' : a6 + (4 + n'.length + LP) ≤ 40000000 := by omega
        have HXP' := hid ((Ext.refl wr).alloc (.cells #[.string ⟨n'.toArray⟩, .slice Ap' pa'.len cp'] 106))
        have HXB' := hid (AtC.new wr #[.string ⟨n'.toArray⟩, .slice Ap' pa'.len cp'] : AtC 106 _ _ _)
        clear hLP hsum' hj6 hdr' hPA' hwp' hnd' hw6
        go_wp2_with fail
        have hw1 : IntKind.i64.wrap (4 + (n'.length : Int)) = 4 + (n'.length : Int) := IntWalk.i64_in _ (by omega)
        have hw2 : IntKind.i64.wrap (4 + (n'.length : Int) + (LP : Int)) = 4 + (n'.length : Int) + (LP : Int) := IntWalk.i64_in _ (by omega)
        have hw3 : IntKind.i64.wrap ((a6 : Int) + (4 + (n'.length : Int) + (LP : Int))) = (a6 : Int) + (4 + (n'.length : Int) + (LP : Int)) := IntWalk.i64_in _ (by omega)
        generalize wr.alloc (.cells #[.string ⟨n'.toArray⟩, .slice Ap' pa'.len cp'] 106) = W7 at *
        have y0 : ∀ y : ExtW W7, y.v.cell? ⟨wr.heap.size, 0, none⟩ = some (.string ⟨n'.toArray⟩) := fun y => (HXB'.out.ext y.h).cell 0 _ rfl
        have y1 : ∀ y : ExtW W7, y.v.cell? ⟨wr.heap.size, 1, none⟩ = some (.slice Ap' pa'.len cp') := fun y => (HXB'.out.ext y.h).cell 1 _ rfl
        have KPE := hid (fun y : ExtW W7 => KP'.out y.v (HXP'.out.trans y.h))
        refine wp_region_ext (by kernel_rfl) (by kernel_rfl) ?_
        repeat (go_big_quiet_step ((go_at_call 70; exact ExtW.call (KPE.out _))))
        refine wpQuiet_nil ?_
        intro wx hx
        have HX7 := hid (show Ext W7 wx from by obtain ⟨y, hy⟩ := hx; rw [hy]; exact y.h)
        clear hx y0 y1
        go_wp2
        exact ⟨⟨j + 1, a6 + (4 + n'.length + LP), hjl, by go_num, by go_num, HSUM'.out, HW6.out.trans (HXP'.out.trans HX7.out)⟩, by simp [intOf]; omega⟩
       ·have hje : j = ca.len := by omega
        have hjI : ¬ (j : Int) < (ca.len : Int) := by omega
        have HFIN := hid (show a6 + (txtP [32] (fdrop f (k + 1))).length = (txtP [32] f).length from by
         have h := HJ6.out
         rw [fdrop_end ca j (by omega)] at h
         have h2 := HTOT.out
         have h3 := HA5.out
         have h4 : (casT [32] F.nil).length = 0 := rfl
         omega)
        subst hje
        clear hj6 hw6
        go_wp2
        exact ⟨⟨k + 1, a6, hkl, by go_num, by go_num, HFIN.out, HW.out.trans HWO.out⟩, by simp [intOf]; omega⟩
theorem len_all_any : ∀ N, LenH N
 | 0 => fun f v ok d c pt w h => absurd h (Nat.not_lt_zero _)
 | N + 1 => len_step N (len_all_any N)
theorem length_any {f : F} {v : Value} {ok : Nat → Prop} {d : Nat} {c pt : Bool} {w : World} (hF : FwS w ok f v) (h : formB d c pt f = true) (hw : wt f ≤ 40000000) :
 Calls Tryz.prog 70 #[v] w fun e w' => e = .returned (.int .i64 ((txtP [32] f).length : Nat)) ∧ Ext w w' := len_all_any (f.nodes + 1) f v ok d c pt w (Nat.lt_succ_self _) hF h hw
end Go.Proofs.YtiijdojihleggaaGreatDoor
