import Derived.Test.YtiijdojihleggaaGreatDoorQNPG
import Derived.Test.YtiijdojihleggaaGreatDoorQNB1
import Derived.BigQuiet
set_option maxRecDepth 100000
set_option linter.unusedSimpArgs false
set_option linter.unusedVariables false
open Go.Lib (hid)
namespace Go.Proofs.YtiijdojihleggaaGreatDoor
open Go.RowKit
def wrdX (E : Nat) (P : By → Bool) (st : St) : Except Err St := (wrdP E P st.left).map fun y => ⟨y.2, st.names⟩
def wrdS (P : By → Bool) : Except Err St → ByteArray
 | .ok ⟨t :: _, _⟩ => if t.k = 9 ∧ P t.t = true then ⟨t.t.toArray⟩ else ⟨#[]⟩
 | _ => ⟨#[]⟩
theorem wrd_not {E : Nat} {P : By → Bool} {X : Except Err St} (h : ¬ kindX X = 9) : X.bind (wrdX E P) = X.bind (fun st => .error (3, plE E st.left)) ∧ wrdS P X = ⟨#[]⟩ := by
 rcases X with e | ⟨_ | ⟨t, r⟩, ns⟩
 ·exact ⟨rfl, rfl⟩
 ·exact ⟨rfl, rfl⟩
 ·have h2 : ¬ (t.k = 9 ∧ P t.t = true) := fun e => h e.1
  refine ⟨?_, by show (if t.k = 9 ∧ P t.t = true then (⟨t.t.toArray⟩ : ByteArray) else ⟨#[]⟩) = _; rw [if_neg h2]⟩
  show Except.map _ (if t.k = 9 ∧ P t.t = true then .ok (t.t, r) else .error (3, t.a)) = _
  rw [if_neg h2]
  rfl
theorem wrd_unfit {E : Nat} {P : By → Bool} {t : Tok} {r : List Tok} {ns : List By} (h : P t.t = false) :
 (Except.ok ⟨t :: r, ns⟩ : Except Err St).bind (wrdX E P) = (Except.ok ⟨t :: r, ns⟩ : Except Err St).bind (fun st => .error (3, plE E st.left)) ∧ wrdS P (.ok ⟨t :: r, ns⟩) = ⟨#[]⟩ := by
 have h2 : ¬ (t.k = 9 ∧ P t.t = true) := fun e => by rw [h] at e; exact absurd e.2 (by decide)
 refine ⟨?_, by show (if t.k = 9 ∧ P t.t = true then (⟨t.t.toArray⟩ : ByteArray) else ⟨#[]⟩) = _; rw [if_neg h2]⟩
 show Except.map _ (if t.k = 9 ∧ P t.t = true then .ok (t.t, r) else .error (3, t.a)) = _
 rw [if_neg h2]
 rfl
theorem wrd_fit {E : Nat} {P : By → Bool} {t : Tok} {r : List Tok} {ns : List By} (hk : t.k = 9) (h : P t.t = true) :
 (Except.ok ⟨t :: r, ns⟩ : Except Err St).bind (wrdX E P) = (Except.ok ⟨t :: r, ns⟩ : Except Err St).bind (takeX E 9) ∧ wrdS P (.ok ⟨t :: r, ns⟩) = takeS 9 (.ok ⟨t :: r, ns⟩) := by
 refine ⟨?_, ?_⟩
 ·show Except.map _ (if t.k = 9 ∧ P t.t = true then .ok (t.t, r) else .error (3, t.a)) = Except.map _ (if t.k = 9 then .ok (t.t, r) else .error (3, t.a))
  rw [if_pos ⟨hk, h⟩, if_pos hk]
 ·show (if t.k = 9 ∧ P t.t = true then (⟨t.t.toArray⟩ : ByteArray) else ⟨#[]⟩) = (if t.k = 9 then (⟨t.t.toArray⟩ : ByteArray) else ⟨#[]⟩)
  rw [if_pos ⟨hk, h⟩, if_pos hk]
set_option maxHeartbeats 2000000 in
theorem pword_name (C : Pc) (X : Except Err St) (P : By → Bool) (w : World) (h : PsO w C X)
 (hF : ∀ t ∈ C.all, ∀ q, Calls Tryz.prog 147 #[.string ⟨t.t.toArray⟩] (w.drewN q) fun e w' => e = .returned (.bool (P t.t)) ∧ ∃ m, w' = (w.drewN q).drewN m) :
 Calls Tryz.prog 143 #[.pointer (some ⟨C.g, 0, none⟩), .func (.func 147) #[] #[]] w fun e w' => e = .returned (.string (wrdS P X)) ∧ PsO w' C (X.bind (wrdX C.s.size P)) ∧ Exc C.two w w' := by
 have K1 := hid (fun n => pkind_any C X (w.drewN n) (h.ext ((Ext.refl w).drewN n)))
 have K2 := hid (fun q => pfail_any C X 3 (w.drewN q) (h.ext ((Ext.refl w).drewN q)) (by decide))
 by_cases hk : kindX X = 9
 rotate_left
 ·obtain ⟨e1, e2⟩ := wrd_not (E := C.s.size) (P := P) hk
  rw [e1, e2]
  have b1 : ((kindX X : Int) != 9) = true := by rw [bne_iff_ne]; omega
  clear h e1 e2 hF
  go_enter Tryz.func143, Tryz.ntmps143
  go_wp2_with fail
  go_quiet ((go_at_call 94; exact Calls.quiet_of (K1.out _)))
  all_goals go_wp2_with fail
  all_goals refine (K2.out _).mono ?_
  all_goals
   rintro e w3 ⟨rfl, ho, hx⟩
   have HO := hid ho
   have HX := hid hx
   clear ho hx
   go_wp2
   go_ret
   exact ⟨rfl, HO.out, (Exc.of_ext ((Ext.refl w).drewN _)).trans HX.out⟩
 ·rcases X with e | ⟨_ | ⟨t, r⟩, ns⟩
  ·exact absurd (show (0 : Nat) = 9 from hk) (by decide)
  ·exact absurd (show (0 : Nat) = 9 from hk) (by decide)
  ·have hk2 : t.k = 9 := hk
   have K3 := hid (fun q => ptake_any C (.ok ⟨t :: r, ns⟩) 9 (w.drewN q) (h.ext ((Ext.refl w).drewN q)) (by decide))
   obtain ⟨n, h, hd⟩ := h
   have hn : n < C.all.length := by
    rcases Nat.lt_or_ge n C.all.length with h1 | h1
    ·exact h1
    ·rw [List.drop_eq_nil_of_le h1] at hd
     cases hd
   obtain ⟨t', b, o, e1, hm, hA, t0, t1, t2⟩ := h.tok hn
   rw [hd] at e1
   injection e1 with e1 e2
   subst e1
   have b1 : ((kindX (.ok ⟨t :: r, ns⟩) : Int) != 9) = false := by rw [hk]; rfl
   have KF := hid (hF t hm)
   obtain ⟨c0, c1, c2, c3, c4, c5⟩ := h.cells
   have hl := h.len
   rw [hA] at c1
   clear h hA hm hk hd e2 hF t0 t2 c0 c3 c4 c5
   cases hp : P t.t
   ·obtain ⟨e1, e2⟩ := wrd_unfit (E := C.s.size) (r := r) (ns := ns) hp
    rw [e1, e2]
    rw [hp] at KF
    clear e1 e2 K3 hp
    go_enter Tryz.func143, Tryz.ntmps143
    go_wp2_with fail
    go_quiet (first | (go_at_call 94; exact Calls.quiet_of (K1.out _)) | (go_at_call 147; exact Calls.quiet_of (KF.out _)))
    all_goals go_wp2_with fail
    all_goals refine (K2.out _).mono ?_
    all_goals
     rintro e w3 ⟨rfl, ho, hx⟩
     have HO := hid ho
     have HX := hid hx
     clear ho hx
     go_wp2
     go_ret
     exact ⟨rfl, HO.out, (Exc.of_ext ((Ext.refl w).drewN _)).trans HX.out⟩
   ·obtain ⟨e1, e2⟩ := wrd_fit (E := C.s.size) (r := r) (ns := ns) hk2 hp
    rw [e1, e2]
    rw [hp] at KF
    clear e1 e2 K2 hp
    go_enter Tryz.func143, Tryz.ntmps143
    go_wp2_with fail
    go_quiet (first | (go_at_call 94; exact Calls.quiet_of (K1.out _)) | (go_at_call 147; exact Calls.quiet_of (KF.out _)))
    all_goals go_wp2_with fail
    all_goals refine (K3.out _).mono ?_
    all_goals
     rintro e w3 ⟨rfl, ho, hx⟩
     have HO := hid ho
     have HX := hid hx
     clear ho hx
     go_wp2
     go_ret
     exact ⟨rfl, HO.out, (Exc.of_ext ((Ext.refl w).drewN _)).trans HX.out⟩
set_option maxHeartbeats 2000000 in
theorem pword_skel (C : Pc) (X : Except Err St) (P : By → Bool) (w : World) (h : PsO w C X)
 (hF : ∀ t ∈ C.all, ∀ q, Calls Tryz.prog 146 #[.string ⟨t.t.toArray⟩] (w.drewN q) fun e w' => e = .returned (.bool (P t.t)) ∧ ∃ m, w' = (w.drewN q).drewN m) :
 Calls Tryz.prog 143 #[.pointer (some ⟨C.g, 0, none⟩), .func (.func 146) #[] #[]] w fun e w' => e = .returned (.string (wrdS P X)) ∧ PsO w' C (X.bind (wrdX C.s.size P)) ∧ Exc C.two w w' := by
 have K1 := hid (fun n => pkind_any C X (w.drewN n) (h.ext ((Ext.refl w).drewN n)))
 have K2 := hid (fun q => pfail_any C X 3 (w.drewN q) (h.ext ((Ext.refl w).drewN q)) (by decide))
 by_cases hk : kindX X = 9
 rotate_left
 ·obtain ⟨e1, e2⟩ := wrd_not (E := C.s.size) (P := P) hk
  rw [e1, e2]
  have b1 : ((kindX X : Int) != 9) = true := by rw [bne_iff_ne]; omega
  clear h e1 e2 hF
  go_enter Tryz.func143, Tryz.ntmps143
  go_wp2_with fail
  go_quiet ((go_at_call 94; exact Calls.quiet_of (K1.out _)))
  all_goals go_wp2_with fail
  all_goals refine (K2.out _).mono ?_
  all_goals
   rintro e w3 ⟨rfl, ho, hx⟩
   have HO := hid ho
   have HX := hid hx
   clear ho hx
   go_wp2
   go_ret
   exact ⟨rfl, HO.out, (Exc.of_ext ((Ext.refl w).drewN _)).trans HX.out⟩
 ·rcases X with e | ⟨_ | ⟨t, r⟩, ns⟩
  ·exact absurd (show (0 : Nat) = 9 from hk) (by decide)
  ·exact absurd (show (0 : Nat) = 9 from hk) (by decide)
  ·have hk2 : t.k = 9 := hk
   have K3 := hid (fun q => ptake_any C (.ok ⟨t :: r, ns⟩) 9 (w.drewN q) (h.ext ((Ext.refl w).drewN q)) (by decide))
   obtain ⟨n, h, hd⟩ := h
   have hn : n < C.all.length := by
    rcases Nat.lt_or_ge n C.all.length with h1 | h1
    ·exact h1
    ·rw [List.drop_eq_nil_of_le h1] at hd
     cases hd
   obtain ⟨t', b, o, e1, hm, hA, t0, t1, t2⟩ := h.tok hn
   rw [hd] at e1
   injection e1 with e1 e2
   subst e1
   have b1 : ((kindX (.ok ⟨t :: r, ns⟩) : Int) != 9) = false := by rw [hk]; rfl
   have KF := hid (hF t hm)
   obtain ⟨c0, c1, c2, c3, c4, c5⟩ := h.cells
   have hl := h.len
   rw [hA] at c1
   clear h hA hm hk hd e2 hF t0 t2 c0 c3 c4 c5
   cases hp : P t.t
   ·obtain ⟨e1, e2⟩ := wrd_unfit (E := C.s.size) (r := r) (ns := ns) hp
    rw [e1, e2]
    rw [hp] at KF
    clear e1 e2 K3 hp
    go_enter Tryz.func143, Tryz.ntmps143
    go_wp2_with fail
    go_quiet (first | (go_at_call 94; exact Calls.quiet_of (K1.out _)) | (go_at_call 146; exact Calls.quiet_of (KF.out _)))
    all_goals go_wp2_with fail
    all_goals refine (K2.out _).mono ?_
    all_goals
     rintro e w3 ⟨rfl, ho, hx⟩
     have HO := hid ho
     have HX := hid hx
     clear ho hx
     go_wp2
     go_ret
     exact ⟨rfl, HO.out, (Exc.of_ext ((Ext.refl w).drewN _)).trans HX.out⟩
   ·obtain ⟨e1, e2⟩ := wrd_fit (E := C.s.size) (r := r) (ns := ns) hk2 hp
    rw [e1, e2]
    rw [hp] at KF
    clear e1 e2 K2 hp
    go_enter Tryz.func143, Tryz.ntmps143
    go_wp2_with fail
    go_quiet (first | (go_at_call 94; exact Calls.quiet_of (K1.out _)) | (go_at_call 146; exact Calls.quiet_of (KF.out _)))
    all_goals go_wp2_with fail
    all_goals refine (K3.out _).mono ?_
    all_goals
     rintro e w3 ⟨rfl, ho, hx⟩
     have HO := hid ho
     have HX := hid hx
     clear ho hx
     go_wp2
     go_ret
     exact ⟨rfl, HO.out, (Exc.of_ext ((Ext.refl w).drewN _)).trans HX.out⟩
set_option maxHeartbeats 2000000 in
theorem pword_known (C : Pc) (X : Except Err St) (P : By → Bool) (tb : Nat) (w : World) (h : PsO w C X)
 (hF : ∀ t ∈ C.all, ∀ q, Calls Tryz.prog 142 #[.string ⟨t.t.toArray⟩, .pointer (some ⟨tb, 0, none⟩)] (w.drewN q) fun e w' => e = .returned (.bool (P t.t)) ∧ ∃ m, w' = (w.drewN q).drewN m) :
 Calls Tryz.prog 143 #[.pointer (some ⟨C.g, 0, none⟩), .func (.func 142) #[] #[.pointer (some ⟨tb, 0, none⟩)]] w fun e w' => e = .returned (.string (wrdS P X)) ∧ PsO w' C (X.bind (wrdX C.s.size P)) ∧ Exc C.two w w' := by
 have K1 := hid (fun n => pkind_any C X (w.drewN n) (h.ext ((Ext.refl w).drewN n)))
 have K2 := hid (fun q => pfail_any C X 3 (w.drewN q) (h.ext ((Ext.refl w).drewN q)) (by decide))
 by_cases hk : kindX X = 9
 rotate_left
 ·obtain ⟨e1, e2⟩ := wrd_not (E := C.s.size) (P := P) hk
  rw [e1, e2]
  have b1 : ((kindX X : Int) != 9) = true := by rw [bne_iff_ne]; omega
  clear h e1 e2 hF
  go_enter Tryz.func143, Tryz.ntmps143
  go_wp2_with fail
  go_quiet ((go_at_call 94; exact Calls.quiet_of (K1.out _)))
  all_goals go_wp2_with fail
  all_goals refine (K2.out _).mono ?_
  all_goals
   rintro e w3 ⟨rfl, ho, hx⟩
   have HO := hid ho
   have HX := hid hx
   clear ho hx
   go_wp2
   go_ret
   exact ⟨rfl, HO.out, (Exc.of_ext ((Ext.refl w).drewN _)).trans HX.out⟩
 ·rcases X with e | ⟨_ | ⟨t, r⟩, ns⟩
  ·exact absurd (show (0 : Nat) = 9 from hk) (by decide)
  ·exact absurd (show (0 : Nat) = 9 from hk) (by decide)
  ·have hk2 : t.k = 9 := hk
   have K3 := hid (fun q => ptake_any C (.ok ⟨t :: r, ns⟩) 9 (w.drewN q) (h.ext ((Ext.refl w).drewN q)) (by decide))
   obtain ⟨n, h, hd⟩ := h
   have hn : n < C.all.length := by
    rcases Nat.lt_or_ge n C.all.length with h1 | h1
    ·exact h1
    ·rw [List.drop_eq_nil_of_le h1] at hd
     cases hd
   obtain ⟨t', b, o, e1, hm, hA, t0, t1, t2⟩ := h.tok hn
   rw [hd] at e1
   injection e1 with e1 e2
   subst e1
   have b1 : ((kindX (.ok ⟨t :: r, ns⟩) : Int) != 9) = false := by rw [hk]; rfl
   have KF := hid (hF t hm)
   obtain ⟨c0, c1, c2, c3, c4, c5⟩ := h.cells
   have hl := h.len
   rw [hA] at c1
   clear h hA hm hk hd e2 hF t0 t2 c0 c3 c4 c5
   cases hp : P t.t
   ·obtain ⟨e1, e2⟩ := wrd_unfit (E := C.s.size) (r := r) (ns := ns) hp
    rw [e1, e2]
    rw [hp] at KF
    clear e1 e2 K3 hp
    go_enter Tryz.func143, Tryz.ntmps143
    go_wp2_with fail
    go_quiet (first | (go_at_call 94; exact Calls.quiet_of (K1.out _)) | (go_at_call 142; exact Calls.quiet_of (KF.out _)))
    all_goals go_wp2_with fail
    all_goals refine (K2.out _).mono ?_
    all_goals
     rintro e w3 ⟨rfl, ho, hx⟩
     have HO := hid ho
     have HX := hid hx
     clear ho hx
     go_wp2
     go_ret
     exact ⟨rfl, HO.out, (Exc.of_ext ((Ext.refl w).drewN _)).trans HX.out⟩
   ·obtain ⟨e1, e2⟩ := wrd_fit (E := C.s.size) (r := r) (ns := ns) hk2 hp
    rw [e1, e2]
    rw [hp] at KF
    clear e1 e2 K2 hp
    go_enter Tryz.func143, Tryz.ntmps143
    go_wp2_with fail
    go_quiet (first | (go_at_call 94; exact Calls.quiet_of (K1.out _)) | (go_at_call 142; exact Calls.quiet_of (KF.out _)))
    all_goals go_wp2_with fail
    all_goals refine (K3.out _).mono ?_
    all_goals
     rintro e w3 ⟨rfl, ho, hx⟩
     have HO := hid ho
     have HX := hid hx
     clear ho hx
     go_wp2
     go_ret
     exact ⟨rfl, HO.out, (Exc.of_ext ((Ext.refl w).drewN _)).trans HX.out⟩
set_option maxHeartbeats 2000000 in
theorem pword_style (C : Pc) (X : Except Err St) (P : By → Bool) (w : World) (h : PsO w C X)
 (hF : ∀ t ∈ C.all, ∀ q, Calls Tryz.prog 144 #[.string ⟨t.t.toArray⟩] (w.drewN q) fun e w' => e = .returned (.bool (P t.t)) ∧ ∃ m, w' = (w.drewN q).drewN m) :
 Calls Tryz.prog 143 #[.pointer (some ⟨C.g, 0, none⟩), .func (.func 144) #[] #[]] w fun e w' => e = .returned (.string (wrdS P X)) ∧ PsO w' C (X.bind (wrdX C.s.size P)) ∧ Exc C.two w w' := by
 have K1 := hid (fun n => pkind_any C X (w.drewN n) (h.ext ((Ext.refl w).drewN n)))
 have K2 := hid (fun q => pfail_any C X 3 (w.drewN q) (h.ext ((Ext.refl w).drewN q)) (by decide))
 by_cases hk : kindX X = 9
 rotate_left
 ·obtain ⟨e1, e2⟩ := wrd_not (E := C.s.size) (P := P) hk
  rw [e1, e2]
  have b1 : ((kindX X : Int) != 9) = true := by rw [bne_iff_ne]; omega
  clear h e1 e2 hF
  go_enter Tryz.func143, Tryz.ntmps143
  go_wp2_with fail
  go_quiet ((go_at_call 94; exact Calls.quiet_of (K1.out _)))
  all_goals go_wp2_with fail
  all_goals refine (K2.out _).mono ?_
  all_goals
   rintro e w3 ⟨rfl, ho, hx⟩
   have HO := hid ho
   have HX := hid hx
   clear ho hx
   go_wp2
   go_ret
   exact ⟨rfl, HO.out, (Exc.of_ext ((Ext.refl w).drewN _)).trans HX.out⟩
 ·rcases X with e | ⟨_ | ⟨t, r⟩, ns⟩
  ·exact absurd (show (0 : Nat) = 9 from hk) (by decide)
  ·exact absurd (show (0 : Nat) = 9 from hk) (by decide)
  ·have hk2 : t.k = 9 := hk
   have K3 := hid (fun q => ptake_any C (.ok ⟨t :: r, ns⟩) 9 (w.drewN q) (h.ext ((Ext.refl w).drewN q)) (by decide))
   obtain ⟨n, h, hd⟩ := h
   have hn : n < C.all.length := by
    rcases Nat.lt_or_ge n C.all.length with h1 | h1
    ·exact h1
    ·rw [List.drop_eq_nil_of_le h1] at hd
     cases hd
   obtain ⟨t', b, o, e1, hm, hA, t0, t1, t2⟩ := h.tok hn
   rw [hd] at e1
   injection e1 with e1 e2
   subst e1
   have b1 : ((kindX (.ok ⟨t :: r, ns⟩) : Int) != 9) = false := by rw [hk]; rfl
   have KF := hid (hF t hm)
   obtain ⟨c0, c1, c2, c3, c4, c5⟩ := h.cells
   have hl := h.len
   rw [hA] at c1
   clear h hA hm hk hd e2 hF t0 t2 c0 c3 c4 c5
   cases hp : P t.t
   ·obtain ⟨e1, e2⟩ := wrd_unfit (E := C.s.size) (r := r) (ns := ns) hp
    rw [e1, e2]
    rw [hp] at KF
    clear e1 e2 K3 hp
    go_enter Tryz.func143, Tryz.ntmps143
    go_wp2_with fail
    go_quiet (first | (go_at_call 94; exact Calls.quiet_of (K1.out _)) | (go_at_call 144; exact Calls.quiet_of (KF.out _)))
    all_goals go_wp2_with fail
    all_goals refine (K2.out _).mono ?_
    all_goals
     rintro e w3 ⟨rfl, ho, hx⟩
     have HO := hid ho
     have HX := hid hx
     clear ho hx
     go_wp2
     go_ret
     exact ⟨rfl, HO.out, (Exc.of_ext ((Ext.refl w).drewN _)).trans HX.out⟩
   ·obtain ⟨e1, e2⟩ := wrd_fit (E := C.s.size) (r := r) (ns := ns) hk2 hp
    rw [e1, e2]
    rw [hp] at KF
    clear e1 e2 K2 hp
    go_enter Tryz.func143, Tryz.ntmps143
    go_wp2_with fail
    go_quiet (first | (go_at_call 94; exact Calls.quiet_of (K1.out _)) | (go_at_call 144; exact Calls.quiet_of (KF.out _)))
    all_goals go_wp2_with fail
    all_goals refine (K3.out _).mono ?_
    all_goals
     rintro e w3 ⟨rfl, ho, hx⟩
     have HO := hid ho
     have HX := hid hx
     clear ho hx
     go_wp2
     go_ret
     exact ⟨rfl, HO.out, (Exc.of_ext ((Ext.refl w).drewN _)).trans HX.out⟩
set_option maxHeartbeats 2000000 in
theorem pword_key (C : Pc) (X : Except Err St) (P : By → Bool) (tb : Nat) (w : World) (h : PsO w C X)
 (hF : ∀ t ∈ C.all, ∀ y : ExtW w, Calls Tryz.prog 181 #[.string ⟨t.t.toArray⟩, .pointer (some ⟨tb, 0, none⟩)] y.v fun e w' => e = .returned (.bool (P t.t)) ∧ Ext y.v w') :
 Calls Tryz.prog 143 #[.pointer (some ⟨C.g, 0, none⟩), .func (.func 181) #[] #[.pointer (some ⟨tb, 0, none⟩)]] w fun e w' => e = .returned (.string (wrdS P X)) ∧ PsO w' C (X.bind (wrdX C.s.size P)) ∧ Exc C.two w w' := by
 have K1 := hid (fun y : ExtW w => (pkind_any C X y.v (h.ext y.h)).mono (fun e w' (hh : _ ∧ ∃ q, w' = y.v.drewN q) => (show _ ∧ Ext y.v w' from ⟨hh.1, by obtain ⟨q, e⟩ := hh.2; rw [e]; exact (Ext.refl _).drewN q⟩)))
 have K2 := hid (fun W (hW : Ext w W) => pfail_any C X 3 W (h.ext hW) (by decide))
 by_cases hk : kindX X = 9
 rotate_left
 ·obtain ⟨e1, e2⟩ := wrd_not (E := C.s.size) (P := P) hk
  rw [e1, e2]
  have b1 : ((kindX X : Int) != 9) = true := by rw [bne_iff_ne]; omega
  clear h e1 e2 hF
  go_enter Tryz.func143, Tryz.ntmps143
  go_wp2_with fail
  refine wp_region_ext (by kernel_rfl) (by kernel_rfl) ?_
  repeat (go_big_quiet_step ((go_at_call 94; exact ExtW.call (K1.out _))))
  refine wpQuiet_nil ?_
  intro wx hx
  have HX2 := hid (show Ext w wx from by obtain ⟨y, hy⟩ := hx; rw [hy]; exact y.h)
  clear hx
  go_wp2_with fail
  refine (K2.out _ HX2.out).mono ?_
  rintro e w3 ⟨rfl, ho, hx⟩
  have HO := hid ho
  have HX := hid hx
  clear ho hx
  go_wp2
  go_ret
  exact ⟨rfl, HO.out, (Exc.of_ext HX2.out).trans HX.out⟩
 ·rcases X with e | ⟨_ | ⟨t, r⟩, ns⟩
  ·exact absurd (show (0 : Nat) = 9 from hk) (by decide)
  ·exact absurd (show (0 : Nat) = 9 from hk) (by decide)
  ·have hk2 : t.k = 9 := hk
   have K3 := hid (fun W (hW : Ext w W) => ptake_any C (.ok ⟨t :: r, ns⟩) 9 W (h.ext hW) (by decide))
   obtain ⟨n, h, hd⟩ := h
   have hn : n < C.all.length := by
    rcases Nat.lt_or_ge n C.all.length with h1 | h1
    ·exact h1
    ·rw [List.drop_eq_nil_of_le h1] at hd
     cases hd
   obtain ⟨t', b, o, e1, hm, hA, t0, t1, t2⟩ := h.tok hn
   rw [hd] at e1
   injection e1 with e1 e2
   subst e1
   have b1 : ((kindX (.ok ⟨t :: r, ns⟩) : Int) != 9) = false := by rw [hk]; rfl
   have KF := hid (hF t hm)
   have y1 : ∀ y : ExtW w, y.v.cell? ⟨C.g, 1, none⟩ = some (.slice (some ⟨b, o, none⟩) C.all.length C.c) := fun y => by rw [← hA]; exact (h.ext y.h).cells.2.1
   have y2 : ∀ y : ExtW w, y.v.cell? ⟨C.g, 2, none⟩ = some (.int .i64 n) := fun y => (h.ext y.h).cells.2.2.1
   have y3 : ∀ y : ExtW w, y.v.cell? ⟨b, o + n * 4 + 1, none⟩ = some (.string ⟨t.t.toArray⟩) := fun y => (Ext.cell y.h (World.block_lt_of_cell? _ _ t1)).trans t1
   have hl := h.len
   clear h hA hm hk hd e2 hF t0 t1 t2
   cases hp : P t.t
   ·obtain ⟨e1, e2⟩ := wrd_unfit (E := C.s.size) (r := r) (ns := ns) hp
    rw [e1, e2]
    rw [hp] at KF
    clear e1 e2 K3 hp
    go_enter Tryz.func143, Tryz.ntmps143
    go_wp2_with fail
    refine wp_region_ext (by kernel_rfl) (by kernel_rfl) ?_
    repeat (go_big_quiet_step (first | (go_at_call 94; exact ExtW.call (K1.out _)) | (go_at_call 181; exact ExtW.call (KF.out _))))
    refine wpQuiet_nil ?_
    intro wx hx
    have HX2 := hid (show Ext w wx from by obtain ⟨y, hy⟩ := hx; rw [hy]; exact y.h)
    clear hx y1 y2 y3
    go_wp2_with fail
    refine (K2.out _ HX2.out).mono ?_
    rintro e w3 ⟨rfl, ho, hx⟩
    have HO := hid ho
    have HX := hid hx
    clear ho hx
    go_wp2
    go_ret
    exact ⟨rfl, HO.out, (Exc.of_ext HX2.out).trans HX.out⟩
   ·obtain ⟨e1, e2⟩ := wrd_fit (E := C.s.size) (r := r) (ns := ns) hk2 hp
    rw [e1, e2]
    rw [hp] at KF
    clear e1 e2 K2 hp
    go_enter Tryz.func143, Tryz.ntmps143
    go_wp2_with fail
    refine wp_region_ext (by kernel_rfl) (by kernel_rfl) ?_
    repeat (go_big_quiet_step (first | (go_at_call 94; exact ExtW.call (K1.out _)) | (go_at_call 181; exact ExtW.call (KF.out _))))
    refine wpQuiet_nil ?_
    intro wx hx
    have HX2 := hid (show Ext w wx from by obtain ⟨y, hy⟩ := hx; rw [hy]; exact y.h)
    clear hx y1 y2 y3
    go_wp2_with fail
    refine (K3.out _ HX2.out).mono ?_
    rintro e w3 ⟨rfl, ho, hx⟩
    have HO := hid ho
    have HX := hid hx
    clear ho hx
    go_wp2
    go_ret
    exact ⟨rfl, HO.out, (Exc.of_ext HX2.out).trans HX.out⟩
end Go.Proofs.YtiijdojihleggaaGreatDoor
namespace Go.Proofs.YtiijdojihleggaaGreatDoor
open Go.RowKit
def deepX (E d : Nat) (st : St) : Except Err St := if 8 < d then .error (6, plE E st.left) else .ok st
theorem pdeep_any (C : Pc) (X : Except Err St) (d : Nat) (w : World) (h : PsO w C X) (hd : d ≤ 100) :
 Calls Tryz.prog 97 #[.pointer (some ⟨C.g, 0, none⟩), .int .i64 d] w fun e w' => e = .returned (.tuple #[]) ∧ PsO w' C (X.bind (deepX C.s.size d)) ∧ Exc C.two w w' := by
 by_cases h8 : 8 < d
 ·have K := hid (pfail_any C X 6 w h (by decide))
  have hE : X.bind (deepX C.s.size d) = X.bind (fun st => .error (6, plE C.s.size st.left)) := by
   cases X with
   | error e => rfl
   | ok st => exact if_pos h8
  rw [hE]
  have hI : (8 : Int) < (d : Int) := by omega
  clear hE h
  go_enter Tryz.func97, Tryz.ntmps97
  go_wp2_with fail
  refine K.out.mono ?_
  rintro e w3 ⟨rfl, ho, hx⟩
  have HO := hid ho
  have HX := hid hx
  clear ho hx
  go_wp2
  go_end0
  exact ⟨rfl, HO.out, HX.out⟩
 ·have hE : X.bind (deepX C.s.size d) = X := by
   cases X with
   | error e => rfl
   | ok st => exact if_neg h8
  rw [hE]
  have hI : ¬ (8 : Int) < (d : Int) := by omega
  have HO := hid h
  clear hE h
  go_enter Tryz.func97, Tryz.ntmps97
  go_wp2
  go_end0
  exact ⟨rfl, HO.out, Exc.refl _ _⟩
def namS (E : Nat) (X : Except Err St) : ByteArray := match X.bind (namP E) with
 | .ok y => ⟨y.1.toArray⟩
 | .error _ => ⟨#[]⟩
def namX (E : Nat) (st : St) : Except Err St := (namP E st).map (·.2)
theorem nam_not {E : Nat} {X : Except Err St} (h : ∀ t r ns, X = .ok ⟨t :: r, ns⟩ → ¬ (t.k = 9 ∧ nameB t.t = true)) : X.bind (namX E) = X.bind (wrdX E nameB) ∧ namS E X = ⟨#[]⟩ ∧ wrdS nameB X = ⟨#[]⟩ := by
 rcases X with e | ⟨_ | ⟨t, r⟩, ns⟩
 ·exact ⟨rfl, rfl, rfl⟩
 ·exact ⟨rfl, rfl, rfl⟩
 ·have h2 := h t r ns rfl
  have e1 : namP E ⟨t :: r, ns⟩ = .error (3, t.a) := if_neg h2
  refine ⟨?_, ?_, ?_⟩
  ·show Except.map _ (namP E ⟨t :: r, ns⟩) = Except.map _ (if t.k = 9 ∧ nameB t.t = true then .ok (t.t, r) else .error (3, t.a))
   rw [e1, if_neg h2]
   rfl
  ·unfold namS
   show (match namP E ⟨t :: r, ns⟩ with | .ok y => (⟨y.1.toArray⟩ : ByteArray) | .error _ => ⟨#[]⟩) = _
   rw [e1]
  ·show (if t.k = 9 ∧ nameB t.t = true then (⟨t.t.toArray⟩ : ByteArray) else ⟨#[]⟩) = _
   rw [if_neg h2]
theorem MapS.len {P : Program} {k e t : TypeId} {b n : Nat} {ks : List (List UInt8)} {w : World} (h : MapS P k e w b n ks) (hk : P.underlying k = some .string) (ht : P.underlying t = some (.map k e)) (hnd : ks.Nodup) (ty : TypeId) :
 (Builtin.len_ #[t] ty #[.map (some b)]).run P w = .ok (.int .i64 ks.length) w := by
 obtain ⟨D, ho, hz⟩ := h.sized hk hnd
 rw [← hz]
 exact ho.len ht ty
theorem PsW.named {w w' : World} {C : Pc} {n m : Nat} {ns ns' : List By} {a e : Int} (h : PsW w C n ns a e) (hg : w.grownBy w' (some C.mb)) (hm : MapS Tryz.prog 9 4 w' C.mb m ns') (hnd : ns'.Nodup) (hf : ns'.length ≤ 20) : PsW w' C n ns' a e := by
 have hx : Exc (fun k => k = C.mb) w w' := Exc.grown hg rfl
 exact ⟨h.blk.exc hx h.ne, h.toks.exc hx (fun ad hA => (h.away ad hA).2), hm.tight Tryz.underlying9 hnd, h.ne, h.away, h.size, h.len, h.nx, h.ok, hnd, hf, mx_exc h.mx hx (fun e => h.m0 e.symm), h.g0, h.m0, h.good⟩
set_option maxHeartbeats 4000000 in
theorem pname_any (C : Pc) (X : Except Err St) (w : World) (h : PsO w C X) :
 Calls Tryz.prog 141 #[.pointer (some ⟨C.g, 0, none⟩)] w fun e w' => e = .returned (.string (namS C.s.size X)) ∧ PsO w' C (X.bind (namX C.s.size)) ∧ Exc C.two w w' := by
 have hNM : ∀ t ∈ C.all, ∀ W, Calls Tryz.prog 147 #[.string ⟨t.t.toArray⟩] W fun e w' => e = .returned (.bool (nameB t.t)) ∧ w' = W := fun t ht W => by
  obtain ⟨n, ns, a, e, hp⟩ := h.any
  have hz := hp.ok t ht
  exact (tname_any ⟨t.t.toArray⟩ W (by unfold maxLen; show t.t.length ≤ _; omega)).mono (fun e w' hh => ⟨hh.1, hh.2.symm⟩)
 have KW := hid (fun (Y : Except Err St) (W : World) (hY : PsO W C Y) => pword_name C Y nameB W hY (fun t ht q => (hNM t ht _).mono (fun e w' hh => ⟨hh.1, 0, hh.2⟩)))
 have K1 := hid (fun n => pkind_any C X (w.drewN n) (h.ext ((Ext.refl w).drewN n)))
 have K2 := hid (fun q => pfail_any C X 6 (w.drewN q) (h.ext ((Ext.refl w).drewN q)) (by decide))
 have HO := hid (fun q => (h.ext ((Ext.refl w).drewN q)))
 by_cases hk : kindX X = 9
 rotate_left
 ·obtain ⟨e1, e2, e3⟩ := nam_not (E := C.s.size) (X := X) (fun t r ns e hh => hk (by rw [e]; exact hh.1))
  rw [e1, e2]
  have KX := hid (fun q => KW.out X (w.drewN q) (HO.out q))
  rw [e3] at KX
  have b1 : ((kindX X : Int) == 9) = false := by rw [beq_eq_false_iff_ne]; omega
  clear h e1 e2 e3 hNM
  go_enter Tryz.func141, Tryz.ntmps141
  go_wp2_with fail
  go_quiet ((go_at_call 94; exact Calls.quiet_of (K1.out _)))
  all_goals go_wp2_with fail
  all_goals refine (KX.out _).mono ?_
  all_goals
   rintro e w3 ⟨rfl, ho, hx⟩
   have HO3 := hid ho
   have HX3 := hid hx
   clear ho hx
   go_wp2
   go_ret
   exact ⟨rfl, HO3.out, (Exc.of_ext ((Ext.refl w).drewN _)).trans HX3.out⟩
 rcases X with e | ⟨_ | ⟨t, r⟩, ns⟩
 ·exact absurd (show (0 : Nat) = 9 from hk) (by decide)
 ·exact absurd (show (0 : Nat) = 9 from hk) (by decide)
 have hk2 : t.k = 9 := hk
 have h0 := h
 obtain ⟨n, h, hd⟩ := h
 have hn : n < C.all.length := by
  rcases Nat.lt_or_ge n C.all.length with h1 | h1
  ·exact h1
  ·rw [List.drop_eq_nil_of_le h1] at hd
   cases hd
 obtain ⟨t', b, o, e1, hm, hA, t0, t1, t2⟩ := h.tok hn
 rw [hd] at e1
 injection e1 with e1 e2
 subst e1
 clear e2
 have b1 : ((kindX (.ok ⟨t :: r, ns⟩) : Int) == 9) = true := by rw [hk]; rfl
 have KN := hid (hNM t hm)
 obtain ⟨c0, c1, c2, c3, c4, c5⟩ := h.cells
 have hl := h.len
 have hfew := h.few
 have hnd := h.nd
 have htz := (h.ok t hm).1
 have hmap := h.map
 rw [hA] at c1
 obtain ⟨TB, hTB⟩ : ∃ TB : ByteArray, TB = ⟨t.t.toArray⟩ := ⟨_, rfl⟩
 rw [← hTB] at t1 KN
 have HTB := hid hTB
 have hTd : TB.data.toList = t.t := by rw [hTB]
 cases hp : nameB t.t
 ·obtain ⟨e1, e2, e3⟩ := nam_not (E := C.s.size) (X := .ok ⟨t :: r, ns⟩) (fun t' r' ns' e hh => by
   injection e with e
   injection e with e _
   injection e with e _
   rw [← e, hp] at hh
   exact absurd hh.2 (by decide))
  rw [e1, e2]
  have KX := hid (fun q => KW.out (.ok ⟨t :: r, ns⟩) (w.drewN q) (HO.out q))
  rw [e3] at KX
  rw [hp] at KN
  clear h h0 e1 e2 e3 hNM hTB hTd hmap hm hd hA hk hk2 t0 t2 c0 c3 c4 c5 hp
  go_enter Tryz.func141, Tryz.ntmps141
  go_wp2_with fail
  go_quiet (first | (go_at_call 94; exact Calls.quiet_of (K1.out _)) | (go_at_call 147; exact Calls.quiet_of_same (KN.out _)))
  all_goals go_wp2_with fail
  all_goals refine (KX.out _).mono ?_
  all_goals
   rintro e w3 ⟨rfl, ho, hx⟩
   have HO3 := hid ho
   have HX3 := hid hx
   clear ho hx
   go_wp2
   go_ret
   exact ⟨rfl, HO3.out, (Exc.of_ext ((Ext.refl w).drewN _)).trans HX3.out⟩
 rw [hp] at KN
 have hlk : ∀ a, (Instr.lookup 122 (.map (some C.mb)) (.string TB) false).run Tryz.prog (w.drewN a) = .ok (.bool (decide (t.t ∈ ns))) (w.drewN a) := fun a => by
  rw [← hTd]
  exact (hmap.ext ((Ext.refl w).drewN a)).lookup Tryz.underlying9 Tryz.underlying4 Tryz.underlying122 (by kernel_rfl) TB (by unfold maxLen; rw [← size_list, hTd]; omega)
 have hln : ∀ a, (Builtin.len_ #[122] 3 #[.map (some C.mb)]).run Tryz.prog (w.drewN a) = .ok (.int .i64 ns.length) (w.drewN a) := fun a =>
  (hmap.ext ((Ext.refl w).drewN a)).len Tryz.underlying9 Tryz.underlying122 hnd 3
 have HLN := hid hln
 have g0 : ¬ TB.toList = [] := by
  rw [ByteArray.toList_eq, hTd]
  intro e
  rw [e] at hp
  exact absurd hp (by decide)
 have g0b : TB.toList.isEmpty = false := by
  cases h : TB.toList with
  | nil => exact absurd h g0
  | cons x r => rfl
 by_cases hin : t.t ∈ ns
 ·rw [decide_eq_true hin] at hlk
  have HLK := hid hlk
  obtain ⟨e1, e2⟩ := wrd_fit (E := C.s.size) (P := nameB) (r := r) (ns := ns) hk2 hp
  have e3 : takeS 9 (.ok ⟨t :: r, ns⟩) = TB := by
   show (if t.k = 9 then (⟨t.t.toArray⟩ : ByteArray) else ⟨#[]⟩) = _
   rw [if_pos hk2, hTB]
  have e4 : (Except.ok ⟨t :: r, ns⟩ : Except Err St).bind (takeX C.s.size 9) = .ok ⟨r, ns⟩ := by
   show Except.map _ (if t.k = 9 then .ok (t.t, r) else .error (3, t.a)) = _
   rw [if_pos hk2]
   rfl
  have e5 : namP C.s.size ⟨t :: r, ns⟩ = .ok (t.t, ⟨r, ns⟩) := (if_pos ⟨hk2, hp⟩).trans (if_pos hin)
  have KX := hid (fun q => KW.out (.ok ⟨t :: r, ns⟩) (w.drewN q) (HO.out q))
  rw [e1, e2, e3, e4] at KX
  have HF1 := hid (show namS C.s.size (.ok ⟨t :: r, ns⟩) = TB from by
   show (match namP C.s.size ⟨t :: r, ns⟩ with | .ok y => (⟨y.1.toArray⟩ : ByteArray) | .error _ => ⟨#[]⟩) = _
   rw [e5, hTB])
  have HF2 := hid (show (Except.ok ⟨t :: r, ns⟩ : Except Err St).bind (namX C.s.size) = .ok ⟨r, ns⟩ from by
   show Except.map _ (namP C.s.size ⟨t :: r, ns⟩) = _
   rw [e5]; rfl)
  have HIN := hid hin
  have HTD := hid hTd
  clear e1 e2 e3 e4 e5 h h0 hNM hTB hTd hmap hm hd hA hk hk2 t0 t2 c0 c4 c5 hlk hln hin hp
  go_enter Tryz.func141, Tryz.ntmps141
  go_wp2_with fail
  go_quiet (first | (go_at_call 94; exact Calls.quiet_of (K1.out _)) | (go_at_call 147; exact Calls.quiet_of_same (KN.out _)) | (rw [HLK.out]; exact ⟨rfl, rfl⟩) | (rw [HLN.out]; exact ⟨rfl, rfl⟩))
  go_wp2_with fail
  refine (KX.out _).mono ?_
  rintro e w3 ⟨rfl, ho, hx⟩
  have HX3 := hid ((Exc.of_ext ((Ext.refl w).drewN _)).trans hx)
  obtain ⟨n3, hw3, hd3⟩ := ho
  have HW3 := hid hw3
  have HD3 := hid hd3
  clear hx hd3 c1 c2 c3 t1 HLK HLN
  have y3 := hw3.cells.2.2.2.1
  clear hw3
  go_wp2_with (first
   | (at_mapUpdate; refine wpList_mapUpdateS rfl _ _ _ 122 9 4 rfl Tryz.underlying9 Tryz.underlying4 Tryz.underlying122 C.mb _ _ rfl HW3.out.map (by have := HW3.out.few; unfold maxLen; omega) TB rfl rfl (by unfold maxLen; rw [← size_list, HTD.out]; omega) ?_; intro w4 hm4 hg4; have HM4 := hid hm4; have HG4 := hid hg4; clear hm4 hg4))
  go_ret
  rw [HF1.out, HF2.out]
  refine ⟨rfl, ⟨n3, HW3.out.named HG4.out (HM4.out.same (ks' := ns) fun x => ?_) HW3.out.nd HW3.out.few, HD3.out⟩, HX3.out.trans (Exc.grown HG4.out PsW.mb_two)⟩
  rw [HTD.out]
  exact ⟨fun h => List.mem_append_left _ h, fun h => (List.mem_append.1 h).elim id fun h => by rw [List.mem_singleton.1 h]; exact HIN.out⟩
 rw [decide_eq_false hin] at hlk
 have HLK := hid hlk
 by_cases h20 : 20 ≤ ns.length
 ·have e5 : namP C.s.size ⟨t :: r, ns⟩ = .error (6, t.a) := (if_pos ⟨hk2, hp⟩).trans ((if_neg hin).trans (if_pos h20))
  have h20I : (20 : Int) ≤ (ns.length : Int) := by omega
  have e4 : (Except.ok ⟨t :: r, ns⟩ : Except Err St).bind (fun st => .error (6, plE C.s.size st.left)) = (.error (6, t.a) : Except Err St) := rfl
  rw [e4] at K2
  have HF1 := hid (show namS C.s.size (.ok ⟨t :: r, ns⟩) = ⟨#[]⟩ from by
   show (match namP C.s.size ⟨t :: r, ns⟩ with | .ok y => (⟨y.1.toArray⟩ : ByteArray) | .error _ => ⟨#[]⟩) = _
   rw [e5])
  have HF2 := hid (show (Except.ok ⟨t :: r, ns⟩ : Except Err St).bind (namX C.s.size) = .error (6, t.a) from by
   show Except.map _ (namP C.s.size ⟨t :: r, ns⟩) = _
   rw [e5]; rfl)
  clear e4 e5 h h0 hNM hTB hTd hmap hm hd hA hk hk2 t0 t2 c0 c4 c5 hlk hln hin hp h20
  go_enter Tryz.func141, Tryz.ntmps141
  go_wp2_with fail
  go_quiet (first | (go_at_call 94; exact Calls.quiet_of (K1.out _)) | (go_at_call 147; exact Calls.quiet_of_same (KN.out _)) | (rw [HLK.out]; exact ⟨rfl, rfl⟩) | (rw [HLN.out]; exact ⟨rfl, rfl⟩))
  go_wp2_with fail
  refine (K2.out _).mono ?_
  rintro e w3 ⟨rfl, ho, hx⟩
  have HX3 := hid ((Exc.of_ext ((Ext.refl w).drewN _)).trans hx)
  have KY := hid (KW.out (.error (6, t.a)) w3 ho)
  clear ho hx c1 c2 c3 t1 HLK HLN
  go_wp2_with fail
  refine KY.out.mono ?_
  rintro e w4 ⟨rfl, ho, hx⟩
  have HX4 := hid (HX3.out.trans hx)
  have HO4 := hid ho
  clear ho hx
  unfold wrdS
  go_wp2
  go_ret
  rw [HF1.out, HF2.out]
  exact ⟨rfl, HO4.out, HX4.out⟩
 ·have h20I : ¬ (20 : Int) ≤ (ns.length : Int) := by omega
  obtain ⟨e1, e2⟩ := wrd_fit (E := C.s.size) (P := nameB) (r := r) (ns := ns) hk2 hp
  have e3 : takeS 9 (.ok ⟨t :: r, ns⟩) = TB := by
   show (if t.k = 9 then (⟨t.t.toArray⟩ : ByteArray) else ⟨#[]⟩) = _
   rw [if_pos hk2, hTB]
  have e4 : (Except.ok ⟨t :: r, ns⟩ : Except Err St).bind (takeX C.s.size 9) = .ok ⟨r, ns⟩ := by
   show Except.map _ (if t.k = 9 then .ok (t.t, r) else .error (3, t.a)) = _
   rw [if_pos hk2]
   rfl
  have e5 : namP C.s.size ⟨t :: r, ns⟩ = .ok (t.t, ⟨r, ns ++ [t.t]⟩) := (if_pos ⟨hk2, hp⟩).trans ((if_neg hin).trans (if_neg h20))
  have KX := hid (fun q => KW.out (.ok ⟨t :: r, ns⟩) (w.drewN q) (HO.out q))
  rw [e1, e2, e3, e4] at KX
  have HF1 := hid (show namS C.s.size (.ok ⟨t :: r, ns⟩) = TB from by
   show (match namP C.s.size ⟨t :: r, ns⟩ with | .ok y => (⟨y.1.toArray⟩ : ByteArray) | .error _ => ⟨#[]⟩) = _
   rw [e5, hTB])
  have HF2 := hid (show (Except.ok ⟨t :: r, ns⟩ : Except Err St).bind (namX C.s.size) = .ok ⟨r, ns ++ [t.t]⟩ from by
   show Except.map _ (namP C.s.size ⟨t :: r, ns⟩) = _
   rw [e5]; rfl)
  have HTD := hid hTd
  have HND := hid (show (ns ++ [t.t]).Nodup from List.nodup_append.2 ⟨hnd, by simp, fun a ha b hb e => hin (by rw [List.mem_singleton.1 hb] at e; rw [← e]; exact ha)⟩)
  have HFW := hid (show (ns ++ [t.t]).length ≤ 20 from by rw [List.length_append]; show ns.length + 1 ≤ 20; omega)
  clear e1 e2 e3 e4 e5 h h0 hNM hTB hTd hmap hm hd hA hk hk2 t0 t2 c0 c4 c5 hlk hln hin hp
  go_enter Tryz.func141, Tryz.ntmps141
  go_wp2_with fail
  go_quiet (first | (go_at_call 94; exact Calls.quiet_of (K1.out _)) | (go_at_call 147; exact Calls.quiet_of_same (KN.out _)) | (rw [HLK.out]; exact ⟨rfl, rfl⟩) | (rw [HLN.out]; exact ⟨rfl, rfl⟩))
  go_wp2_with fail
  refine (KX.out _).mono ?_
  rintro e w3 ⟨rfl, ho, hx⟩
  have HX3 := hid ((Exc.of_ext ((Ext.refl w).drewN _)).trans hx)
  obtain ⟨n3, hw3, hd3⟩ := ho
  have HW3 := hid hw3
  have HD3 := hid hd3
  clear hx hd3 c1 c2 c3 t1 HLK HLN
  have y3 := hw3.cells.2.2.2.1
  clear hw3
  go_wp2_with (first
   | (at_mapUpdate; refine wpList_mapUpdateS rfl _ _ _ 122 9 4 rfl Tryz.underlying9 Tryz.underlying4 Tryz.underlying122 C.mb _ _ rfl HW3.out.map (by have := HW3.out.few; unfold maxLen; omega) TB rfl rfl (by unfold maxLen; rw [← size_list, HTD.out]; omega) ?_; intro w4 hm4 hg4; have HM4 := hid hm4; have HG4 := hid hg4; clear hm4 hg4))
  go_ret
  rw [HF1.out, HF2.out]
  have hm := HM4.out
  rw [HTD.out] at hm
  exact ⟨rfl, ⟨n3, HW3.out.named HG4.out hm HND.out HFW.out, HD3.out⟩, HX3.out.trans (Exc.grown HG4.out PsW.mb_two)⟩
end Go.Proofs.YtiijdojihleggaaGreatDoor
