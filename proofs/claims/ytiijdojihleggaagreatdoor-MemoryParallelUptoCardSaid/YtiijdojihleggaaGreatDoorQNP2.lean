import Derived.Test.YtiijdojihleggaaGreatDoorQGe
import Derived.Test.YtiijdojihleggaaGreatDoorQGc
import Derived.Test.YtiijdojihleggaaGreatDoorQKs
set_option maxRecDepth 100000
set_option linter.unusedSimpArgs false
set_option linter.unusedVariables false
open Go.Lib (hid)
namespace Go.Proofs.YtiijdojihleggaaGreatDoor
open Go.RowKit
def prtB (d : Nat) (c : Bool) (k : Int) (t n s : By) (ca pa : F) : Bool :=
 fldB k t n s (ca.len == 0) (pa.len == 0) && (!(k == 10) || c) && (!(k == 11) || (decide (d < 8) && formB (d + 1) c false pa)) &&
  (!(decide (7 ≤ k) && decide (k ≤ 9)) || (decide (d < 8) && (casB k.toNat (d + 1) (c || k != 9) [] ca && decide (ca.len ≤ 20) && decide (otherP ∈ ca.keys))))
theorem isNil_len (f : F) : f.isNil = (f.len == 0) := by
 cases f with
 | nil => rfl
 | cons k t n s c p r => rw [F.len]; rfl
theorem form_prt (d : Nat) (c pt : Bool) (k : Int) (t n s : By) (ca pa r : F) : formB d c pt (.cons k t n s ca pa r) = (!(pt && k == 1) && prtB d c k t n s ca pa && formB d c (k == 1) r) := by
 rw [formB]
 congr 1
 congr 1
 unfold prtB fldB
 rw [isNil_len, isNil_len]
 by_cases h1 : k = 1
 ·subst h1; simp
 by_cases h10 : k = 10
 ·subst h10
  simp
  cases c <;> simp
 by_cases h2 : k = 2
 ·subst h2; simp
 by_cases h3 : k = 3
 ·subst h3; simp
 by_cases h5 : k = 5
 ·subst h5; simp
 by_cases h4 : k = 4
 ·subst h4; simp
 by_cases h6 : k = 6
 ·subst h6; simp
 by_cases h11 : k = 11
 ·subst h11
  simp
  cases decide (d < 8) <;> cases nameB n <;> simp
 by_cases h7 : k = 7 ∨ k = 8 ∨ k = 9
 ·have h79 : 7 ≤ k ∧ k ≤ 9 := by omega
  simp only [h1, h10, h2, h3, h5, h4, h6, h11, h7, h79.1, h79.2, if_true, if_false, or_self, decide_true, Bool.and_true, Bool.not_true, Bool.false_or]
  have e10 : (k == 10) = false := by rw [beq_eq_false_iff_ne]; exact h10
  have e11 : (k == 11) = false := by rw [beq_eq_false_iff_ne]; exact h11
  rw [e10, e11]
  simp only [Bool.not_false, Bool.true_or, Bool.and_true]
  cases decide (d < 8) <;> cases nameB n <;> cases t.isEmpty <;> cases s.isEmpty <;> cases (pa.len == 0) <;> simp
 ·simp only [h1, h10, h2, h3, h5, h4, h6, h11, h7, if_false, or_self, Bool.false_and]
mutual
def Can : F → Prop
 | .nil => True
 | .cons _ _ n s ca pa r => n.length ≤ 1048576 ∧ s.length ≤ 1048576 ∧ CanC ca ∧ Can pa ∧ Can r
def CanC : F → Prop
 | .nil => True
 | .cons k t n s ca pa r => k = 0 ∧ t = [] ∧ s = [] ∧ ca = .nil ∧ n.length ≤ 1048576 ∧ Can pa ∧ CanC r
end
theorem can_drop : ∀ (f : F) (i : Nat), (Can f → Can (fdrop f i)) ∧ (CanC f → CanC (fdrop f i))
 | f, 0 => by rw [fdrop_zero]; exact ⟨id, id⟩
 | .nil, i + 1 => ⟨id, id⟩
 | .cons _ _ _ _ _ _ r, i + 1 => by
   rw [fdrop]
   refine ⟨fun h => ?_, fun h => ?_⟩
   ·rw [Can] at h; exact (can_drop r i).1 h.2.2.2.2
   ·rw [CanC] at h; exact (can_drop r i).2 h.2.2.2.2.2.2
theorem cas_cons {kind d : Nat} {c : Bool} {seen : List By} {k : Int} {t n s : By} {cs ps r : F} (h : CanC (.cons k t n s cs ps r)) :
 casB kind d c seen (.cons k t n s cs ps r) = (keyB kind n && !decide (n ∈ seen) && formB d c false ps && casB kind d c (seen ++ [n]) r) := by
 rw [CanC] at h
 obtain ⟨rfl, rfl, rfl, rfl, _⟩ := h
 rw [casB]
 simp [F.isNil]
def CkR (w : World) (mb nn : Nat) (names : List By) (f : F) (b : Bool) (e : Ending) (w' : World) : Prop :=
 e = .returned (.bool b) ∧ Exc (fun j => j = mb) w w' ∧ ∃ nn' names', MapS Tryz.prog 9 4 w' mb nn' names' ∧ nn' ≤ nn + f.nodes ∧ (b = true → ∀ x, x ∈ names' ↔ x ∈ names ∨ x ∈ usesF f)
def CkH (N : Nat) : Prop := ∀ (f : F) (v : Value) (ok : Nat → Prop) (mb nn : Nat) (names : List By) (d : Nat) (c : Bool) (w : World), f.nodes < N → FwS w ok f v → (∀ j, ok j → j ≠ mb) → Can f → MapS Tryz.prog 9 4 w mb nn names →
 nn + f.nodes ≤ 1000000000 → Mx w → mb ≠ 0 → d ≤ 8 → Calls Tryz.prog 79 #[.agg #[.map (some mb)], v, .int .i64 d, .bool c] w (CkR w mb nn names f (formB d c false f))
end Go.Proofs.YtiijdojihleggaaGreatDoor
namespace Go.Proofs.YtiijdojihleggaaGreatDoor
open Go.RowKit
theorem FwS.inn {w : World} {ok : Nat → Prop} {f : F} {v : Value} (h : FwS w ok f v) : FwS w (fun k => ok k ∧ k < w.heap.size) f v := by
 obtain ⟨A, c, ps, e, h1, h2, h3⟩ := h
 exact ⟨A, c, ps, e, h1, fun h0 ad hA => ⟨h2 h0 ad hA, h1.inside (by decide) h0 ad hA⟩, (FCw_in w ok f).1 _ h3⟩
theorem CwS.inn {w : World} {ok : Nat → Prop} {f : F} {v : Value} (h : CwS w ok f v) : CwS w (fun k => ok k ∧ k < w.heap.size) f v := by
 obtain ⟨A, c, ps, e, h1, h2, h3⟩ := h
 exact ⟨A, c, ps, e, h1, fun h0 ad hA => ⟨h2 h0 ad hA, h1.inside (by decide) h0 ad hA⟩, (FCw_in w ok f).2 _ h3⟩
theorem Mx.exc {S : Nat → Prop} {w w' : World} (h : Mx w) (hw : Exc S w w') (h0 : ¬ S 0) : Mx w' := mx_exc h hw h0
def CkK (N : Nat) : Prop := ∀ (k : Nat) (t n s : ByteArray) (ca : F) (Ac : Option Addr) (cc : Nat) (Ap : Option Addr) (np cp : Nat) (ok : Nat → Prop) (mb nn : Nat) (names : List By) (d : Nat) (c : Bool) (w : World), ca.nodes ≤ N → CwS w ok ca (.slice Ac ca.len cc) →
 (∀ j, ok j → j ≠ mb) → CanC ca → MapS Tryz.prog 9 4 w mb nn names → nn + ca.nodes ≤ 1000000000 → Mx w → mb ≠ 0 → d ≤ 7 →
 Calls Tryz.prog 120 #[.agg #[.map (some mb)], .agg #[.int .i64 k, .string t, .string n, .string s, .slice Ac ca.len cc, .slice Ap np cp], .int .i64 ((d : Int) + 1), .bool c] w
  (CkR w mb nn names ca (casB k (d + 1) (c || k != 9) [] ca && decide (ca.len ≤ 20) && decide (otherP ∈ ca.keys)))
structure CkW (w : World) (mb k : Nat) (t n s : ByteArray) (Ac : Option Addr) (nc cc : Nat) (Ap : Option Addr) (np cp : Nat) (nn : Nat) (names : List By) (j : Nat) (seen : List By) (W : World) : Prop where
 nm : MapS Tryz.prog 9 4 W mb nn names
 sn : MapS Tryz.prog 9 4 W (w.heap.size + 1 + 1) j seen
 box : AtC 138 W w.heap.size #[.map (some mb)]
 prt : AtC 96 W (w.heap.size + 1) #[.int .i64 k, .string t, .string n, .string s, .slice Ac nc cc, .slice Ap np cp]
 exc : Exc (fun j => j = mb ∨ w.heap.size ≤ j) w W
 mx : Mx W
 lt : mb < w.heap.size
 size : w.heap.size + 3 ≤ W.heap.size
theorem CkW.ext {w : World} {mb k : Nat} {t n s : ByteArray} {Ac : Option Addr} {nc cc : Nat} {Ap : Option Addr} {np cp nn : Nat} {names : List By} {j : Nat} {seen : List By} {W W' : World}
 (h : CkW w mb k t n s Ac nc cc Ap np cp nn names j seen W) (hx : Ext W W') : CkW w mb k t n s Ac nc cc Ap np cp nn names j seen W' :=
 ⟨h.nm.ext hx, h.sn.ext hx, h.box.ext hx, h.prt.ext hx, h.exc.trans (Exc.of_ext hx), h.mx.exc (Exc.of_ext (S := fun _ => False) hx) id, h.lt, Nat.le_trans h.size (Ext.size hx)⟩
theorem CkW.names {w : World} {mb k : Nat} {t n s : ByteArray} {Ac : Option Addr} {nc cc : Nat} {Ap : Option Addr} {np cp nn : Nat} {names : List By} {j : Nat} {seen : List By} {W W' : World} {nn' : Nat} {names' : List By}
 (h : CkW w mb k t n s Ac nc cc Ap np cp nn names j seen W) (hx : Exc (fun i => i = mb) W W') (hm : MapS Tryz.prog 9 4 W' mb nn' names') (h0 : mb ≠ 0) : CkW w mb k t n s Ac nc cc Ap np cp nn' names' j seen W' := by
 have h1 := h.lt
 exact ⟨hm, h.sn.exc hx (fun e => by omega), h.box.exc hx (fun e => by omega), h.prt.exc hx (fun e => by omega), h.exc.trans (hx.mono fun i e => .inl e), h.mx.exc hx (fun e => h0 e.symm), h1, Nat.le_trans h.size hx.size⟩
theorem CkW.seen {w : World} {mb k : Nat} {t n s : ByteArray} {Ac : Option Addr} {nc cc : Nat} {Ap : Option Addr} {np cp nn : Nat} {names : List By} {j : Nat} {seen : List By} {W W' : World} {j' : Nat} {seen' : List By}
 (h : CkW w mb k t n s Ac nc cc Ap np cp nn names j seen W) (hg : W.grownBy W' (some (w.heap.size + 1 + 1))) (hm : MapS Tryz.prog 9 4 W' (w.heap.size + 1 + 1) j' seen') : CkW w mb k t n s Ac nc cc Ap np cp nn names j' seen' W' := by
 have h1 := h.lt
 have hx : Exc (fun i => i = w.heap.size + 1 + 1) W W' := Exc.grown hg rfl
 exact ⟨h.nm.exc hx (fun e => by omega), hm, h.box.exc hx (fun e => by omega), h.prt.exc hx (fun e => by omega), h.exc.trans (hx.mono fun i e => .inr (by omega)), h.mx.exc hx (fun e => by omega), h1, Nat.le_trans h.size hx.size⟩
def CkI (w : World) (mb k : Nat) (t n s : ByteArray) (Ac : Option Addr) (cc : Nat) (Ap : Option Addr) (np cp : Nat) (nn0 : Nat) (names0 : List By) (ca : F) (D : Nat) (C : Bool) (i : Value) (wr : World) : Prop :=
 ∃ (j nn : Nat) (names seen : List By), j ≤ ca.len ∧ i = .int .i64 j ∧ CkW w mb k t n s Ac ca.len cc Ap np cp nn names j seen wr ∧ casB k D C [] ca = casB k D C seen (fdrop ca j) ∧ ca.keys = seen ++ (fdrop ca j).keys ∧
   nn + (fdrop ca j).nodes ≤ nn0 + ca.nodes ∧ (∀ x, (x ∈ names ∨ x ∈ usesF (fdrop ca j)) ↔ (x ∈ names0 ∨ x ∈ usesF ca))
theorem ck_no {w wr : World} {mb k : Nat} {t n s : ByteArray} {Ac : Option Addr} {nc cc : Nat} {Ap : Option Addr} {np cp nn0 nn : Nat} {names0 names : List By} {j : Nat} {seen : List By} {ca : F} {B : Bool}
 (hW : CkW w mb k t n s Ac nc cc Ap np cp nn names j seen wr) (hb : B = false) (hn : nn ≤ nn0 + ca.nodes) : CkR w mb nn0 names0 ca B (.returned (.bool false)) wr := by
 subst hb
 refine ⟨rfl, ?_, nn, names, hW.nm, hn, fun h => by cases h⟩
 exact exc_new hW.exc
set_option maxHeartbeats 8000000 in
theorem ckcases (N : Nat) (hN : CkH N) : CkK N := by
 intro k t n s ca Ac cc Ap np cp ok mb nn0 names0 d c0 w hnd hC hok hcan hmap hnn hm hmb hd
 obtain ⟨c, hc⟩ : ∃ c, c = (c0 || k != 9) := ⟨_, rfl⟩
 rw [← hc]
 have HC := hid hc
 have HCW := hid hC.inn
 have HOK := hid hok
 have HCAN := hid hcan
 have HND := hid hnd
 have HNN := hid hnn
 have HMB := hid hmb
 have hcl : ca.len ≤ 1000000000 := by
  have : ∀ f : F, f.len ≤ f.nodes := by
   intro f
   induction f with
   | nil => exact Nat.le_refl _
   | cons k t n s c p r _ _ ih => rw [F.len, F.nodes]; omega
  have := this ca
  omega
 have H0 := hid (show CkI w mb k t n s Ac cc Ap np cp nn0 names0 ca (d + 1) c (.int .i64 0) (((w.alloc (.cells #[.map (some mb)] 138)).alloc (.cells #[.int .i64 k, .string t, .string n, .string s, .slice Ac ca.len cc, .slice Ap np cp] 96)).alloc (.map #[] 0)) from by
  have z1 : (w.alloc (.cells #[.map (some mb)] 138)).heap.size = w.heap.size + 1 := World.size_alloc _ _
  have z2 : ((w.alloc (.cells #[.map (some mb)] 138)).alloc (.cells #[.int .i64 k, .string t, .string n, .string s, .slice Ac ca.len cc, .slice Ap np cp] 96)).heap.size = w.heap.size + 1 + 1 := by rw [World.size_alloc, z1]
  have x1 : Ext w (((w.alloc (.cells #[.map (some mb)] 138)).alloc (.cells #[.int .i64 k, .string t, .string n, .string s, .slice Ac ca.len cc, .slice Ap np cp] 96)).alloc (.map #[] 0)) := (((Ext.refl w).alloc _).alloc _).alloc _
  have hmp := MapS.made Tryz.prog 9 4 ((w.alloc (.cells #[.map (some mb)] 138)).alloc (.cells #[.int .i64 k, .string t, .string n, .string s, .slice Ac ca.len cc, .slice Ap np cp] 96))
  rw [z2] at hmp
  have hp := (AtC.new (w.alloc (.cells #[.map (some mb)] 138)) #[.int .i64 k, .string t, .string n, .string s, .slice Ac ca.len cc, .slice Ap np cp] : AtC 96 _ _ _)
  rw [z1] at hp
  refine ⟨0, nn0, names0, [], Nat.zero_le _, rfl, ⟨hmap.ext x1, hmp, ((AtC.new w _).alloc _).alloc _, hp.alloc _, Exc.of_ext x1, hm.exc (Exc.of_ext (S := fun _ => False) x1) id, hmap.lt, by rw [World.size_alloc, z2]; omega⟩, by rw [fdrop_zero], by rw [fdrop_zero]; rfl, by rw [fdrop_zero]; exact Nat.le_refl _, fun x => by rw [fdrop_zero]⟩)
 have hmm := @run_makeMap Tryz.prog
 clear hC hok hcan hmap hnn hm hmb hnd hc
 go_enter Tryz.func120, Tryz.ntmps120
 go_wp2_with fail
 clear hmm
 go_loopw [16] (CkI w mb k t n s Ac cc Ap np cp nn0 names0 ca (d + 1) c) (fun i _ => ca.len - (intOf i).toNat)
 case atStart => exact H0.out
 case round =>
  obtain ⟨j, nn, names, seen, hj, rfl, hW, hcas, hkeys, hnn, huse⟩ := hrel
  have HW := hid hW
  have HCAS := hid hcas
  have HKEYS := hid hkeys
  have HNN2 := hid hnn
  have HUSE := hid huse
  by_cases hjl : j < ca.len
  ·have hjI : (j : Int) < (ca.len : Int) := by omega
   obtain ⟨b', o', cc', k', t', n', s', ca', pa', Ap', cp', hv', hbw', _, hdr', d0, d1, hPA'⟩ := (HCW.out.exc hW.exc (fun i hi e => by have := HOK.out i hi.1; have := hi.2; rcases e with e | e <;> omega) (ok' := fun i => ok i ∧ i < w.heap.size) (fun i hi => hi)).at_ hjl
   injection hv' with hA' _ hcc'
   subst hA' hcc'
   have hcn := (can_drop ca j).2 HCAN.out
   rw [hdr'] at hcn hcas hkeys hnn huse
   rw [cas_cons hcn] at hcas
   rw [CanC] at hcn
   obtain ⟨rfl, rfl, rfl, rfl, hnl, hcp, _⟩ := hcn
   have hkeys2 : ca.keys = (seen ++ [n']) ++ (fdrop ca (j + 1)).keys := by rw [hkeys, F.keys]; simp
   have hnn2 : nn + pa'.nodes + (fdrop ca (j + 1)).nodes + 1 ≤ nn0 + ca.nodes := by rw [F.nodes, F.nodes] at hnn; omega
   have huse2 : ∀ x, (x ∈ names ∨ x ∈ usesF pa' ∨ x ∈ usesF (fdrop ca (j + 1))) ↔ (x ∈ names0 ∨ x ∈ usesF ca) := fun x => by rw [← huse x, usesF]; simp [usesF]
   have hpn : pa'.nodes < N := by have h1 := fdrop_nodes ca j; rw [hdr', F.nodes] at h1; have := HND.out; omega
   have HC2 := hid hcas
   have HK2 := hid hkeys2
   have HN2 := hid hnn2
   have HU2 := hid huse2
   have HPA := hid hPA'
   have HXP := hid ((Ext.refl wr).alloc (.cells #[.string ⟨n'.toArray⟩, .slice Ap' pa'.len cp'] 106))
   have HB1 := hid (AtC.new wr #[.string ⟨n'.toArray⟩, .slice Ap' pa'.len cp'] : AtC 106 _ _ _)
   have hne1 : wr.heap.size ≠ mb := by have := hW.lt; have := hW.size; omega
   have KY := hid (fun W (hx : Ext wr W) => (show Calls Tryz.prog 165 #[.int .i64 k, .string ⟨n'.toArray⟩] W fun e w' => e = .returned (.bool (keyB k n')) ∧ Ext W w' from key_any k ⟨n'.toArray⟩ W ((HW.out.ext hx).mx) (by show n'.length ≤ _; exact hnl)))
   have KP := hid (fun W (hx : Ext wr W) => (show Calls Tryz.prog 79 #[.agg #[.map (some mb)], .slice Ap' pa'.len cp', .int .i64 ((d : Int) + 1), .bool c] W (CkR W mb nn names pa' (formB (d + 1) c false pa')) from
    hN pa' _ (fun i => ok i ∧ i < w.heap.size) mb nn names (d + 1) c W hpn (HPA.out.ext hx) (fun i hi => HOK.out i hi.1) hcp ((HW.out.ext hx).nm) (by have := HNN.out; have := HN2.out; omega) ((HW.out.ext hx).mx) HMB.out (by omega)))
   have p0 := (hW.ext HXP.out).prt.cell 0 _ rfl
   have q0 := (hW.ext HXP.out).box.cell 0 _ rfl
   clear hW hcas hkeys hnn huse hkeys2 hnn2 huse2 hPA' hdr' hpn hcp HCAS HKEYS HNN2 HUSE
   go_wp2_with fail
   refine (KY.out _ HXP.out).mono ?_
   rintro e w2 ⟨rfl, hx2⟩
   have HX2 := hid (HXP.out.trans hx2)
   have HW2 := hid (HW.out.ext (HXP.out.trans hx2))
   have HB2 := hid (HB1.out.ext hx2)
   clear hx2 KY p0 q0
   cases hk1 : keyB k n'
   ·go_wp2
    go_ret
    exact ck_no HW2.out (by rw [HC2.out, hk1]; simp) (by have := HN2.out; omega)
   have p0 := HW2.out.prt.cell 0 _ rfl
   have q0 := HW2.out.box.cell 0 _ rfl
   have y0 := HB2.out.cell 0 _ rfl
   have y1 := HB2.out.cell 1 _ rfl
   have hlk := HW2.out.sn.lookup Tryz.underlying9 Tryz.underlying4 Tryz.underlying122 (by kernel_rfl) ⟨n'.toArray⟩ (by unfold maxLen; show n'.length ≤ _; omega)
   rw [show (⟨n'.toArray⟩ : ByteArray).data.toList = n' from rfl] at hlk
   cases hse : decide (n' ∈ seen)
   rotate_left
   ·rw [hse] at hlk
    go_wp2
    go_ret
    exact ck_no HW2.out (by rw [HC2.out, hse]; simp) (by have := HN2.out; omega)
   rw [hse] at hlk
   obtain ⟨FB, hFB⟩ : ∃ FB, FB = formB (d + 1) c false pa' := ⟨_, rfl⟩
   rw [← hFB] at KP
   have HFB := hid hFB
   have HSE := hid hse
   have HK1 := hid hk1
   clear hFB hse hk1
   cases c0
   all_goals go_wp2_with fail
   all_goals first
    | (have hcv : c = true := HC.out; rw [hcv] at KP; clear hcv)
    | (have hcv : c = ((k : Int) != 9) := HC.out.trans (show (k != 9) = ((k : Int) != 9) from by rw [Bool.eq_iff_iff, bne_iff_ne, bne_iff_ne]; omega); rw [hcv] at KP; clear hcv)
   all_goals
    refine (KP.out _ HX2.out).mono ?_
    rintro e w3 ⟨rfl, hx3, nn3, names3, hm3, hn3, hu3⟩
    have HW3 := hid (HW2.out.names hx3 hm3 HMB.out)
    have HB3 := hid (HB2.out.exc hx3 (fun e => hne1 e))
    have HN3 := hid hn3
    have HU3 := hid hu3
    clear hx3 hm3 hn3 hu3 p0 q0 y0 y1 hlk KP
    cases FB
    ·go_wp2
     go_ret
     exact ck_no HW3.out (by rw [HC2.out, ← HFB.out]; simp) (by have := HN2.out; have := HN3.out; omega)
    have y0 := HB3.out.cell 0 _ rfl
    go_wp2_with (first
     | (at_mapUpdate; refine wpList_mapUpdateS rfl _ _ _ 122 9 4 rfl Tryz.underlying9 Tryz.underlying4 Tryz.underlying122 (w.heap.size + 1 + 1) _ _ rfl HW3.out.sn (by unfold maxLen; omega) ⟨n'.toArray⟩ rfl rfl (by unfold maxLen; show n'.length ≤ _; omega) ?_; intro w4 hm4 hg4; have HM4 := hid hm4; have HG4 := hid hg4; clear hm4 hg4))
    refine ⟨⟨j + 1, nn3, names3, seen ++ [n'], hjl, by go_num, HW3.out.seen HG4.out HM4.out, ?_, HK2.out, by have := HN2.out; have := HN3.out; omega, fun x => ?_⟩, by simp [intOf]; omega⟩
    ·rw [HC2.out, HK1.out, HSE.out, ← HFB.out]; simp
    ·rw [← HU2.out x]
     have h := HU3.out (by first | rfl | trivial) x
     rw [h]
     constructor
     ·rintro ((h | h) | h)
      ·exact .inl h
      ·exact .inr (.inl h)
      ·exact .inr (.inr h)
     ·rintro (h | h | h)
      ·exact .inl (.inl h)
      ·exact .inl (.inr h)
      ·exact .inr h
  ·have hje : j = ca.len := by omega
   have hjI : ¬ (j : Int) < (ca.len : Int) := by omega
   rw [fdrop_end ca j (by omega)] at hcas hkeys hnn huse
   have HE := hid (show casB k (d + 1) c [] ca = true ∧ ca.keys = seen ∧ nn ≤ nn0 + ca.nodes ∧ (∀ x, x ∈ names ↔ (x ∈ names0 ∨ x ∈ usesF ca)) from
    ⟨hcas.trans (by rw [casB]), hkeys.trans (List.append_nil _), by simpa [F.nodes] using hnn, fun x => by rw [← huse x]; simp [usesF]⟩)
   have p4 := hW.prt.cell 4 _ rfl
   clear hW hcas hkeys hnn huse
   have hlk := HW.out.sn.lookup Tryz.underlying9 Tryz.underlying4 Tryz.underlying122 (by kernel_rfl) ⟨#[111, 116, 104, 101, 114]⟩ (by decide)
   by_cases h20 : ca.len ≤ 20
   ·have h20I : (ca.len : Int) ≤ 20 := by omega
    have hx : (⟨#[111, 116, 104, 101, 114]⟩ : ByteArray).data.toList = otherP := rfl
    rw [hx] at hlk
    obtain ⟨B, hB⟩ : ∃ B, B = decide (otherP ∈ seen) := ⟨_, rfl⟩
    rw [← hB] at hlk
    have HB := hid hB
    clear hB
    go_wp2_with fail
    go_ret
    have hb : (casB k (d + 1) c [] ca && decide (ca.len ≤ 20) && decide (otherP ∈ ca.keys)) = B := by rw [HE.out.1, HE.out.2.1, HB.out]; simp [h20]
    have hb2 : (casB k (d + 1) c [] ca && decide (otherP ∈ ca.keys)) = B := by rw [HE.out.1, HE.out.2.1, HB.out]; simp
    first | rw [hb] | rw [hb2]
    exact ⟨rfl, exc_new HW.out.exc, nn, names, HW.out.nm, HE.out.2.2.1, fun _ => HE.out.2.2.2⟩
   ·have h20I : ¬ (ca.len : Int) ≤ 20 := by omega
    go_wp2_with fail
    go_ret
    exact ck_no HW.out (by simp [h20]) HE.out.2.2.1
end Go.Proofs.YtiijdojihleggaaGreatDoor
