import Derived.Test.YtpfmojeigjmlfaaGreatDoorNPG
import Derived.Test.YtpfmojeigjmlfaaGreatDoorExtW
import Derived.BigQuiet
namespace Go.Proofs.YtpfmojeigjmlfaaGreatDoor
open Go.RowKit
set_option linter.unusedSimpArgs false
set_option linter.unusedVariables false

/-! The parser takes a word that fits. -/
def wrdX (E : Nat) (P : By → Bool) (st : St) : Except Err St := (wrdP E P st.left).map fun y => ⟨y.2, st.names⟩
def wrdS (P : By → Bool) : Except Err St → ByteArray
  | .ok ⟨t :: _, _⟩ => if t.k = 9 ∧ P t.t = true then ⟨t.t.toArray⟩ else ⟨#[]⟩
  | _ => ⟨#[]⟩
theorem wrd_not {E : Nat} {P : By → Bool} {X : Except Err St} (h : ¬ kindX X = 9) : X.bind (wrdX E P) = X.bind (fun st => .error (3, plE E st.left)) ∧ wrdS P X = ⟨#[]⟩ := by
  rcases X with e | ⟨_ | ⟨t, r⟩, ns⟩
  · exact ⟨rfl, rfl⟩
  · exact ⟨rfl, rfl⟩
  · have h2 : ¬ (t.k = 9 ∧ P t.t = true) := fun e => h e.1
    refine ⟨?_, by show (if t.k = 9 ∧ P t.t = true then (⟨t.t.toArray⟩ : ByteArray) else ⟨#[]⟩) = _; rw [if_neg h2]⟩
    show Except.map _ (if t.k = 9 ∧ P t.t = true then .ok (t.t, r) else .error (3, t.a)) = _
    rw [if_neg h2]
    rfl
theorem wrd_unfit {E : Nat} {P : By → Bool} {t : Tok} {r : List Tok} {ns : List By} (h : P t.t = false) :
    (Except.ok ⟨t :: r, ns⟩ : Except Err St).bind (wrdX E P) = (Except.ok ⟨t :: r, ns⟩ : Except Err St).bind (fun st => .error (3, plE E st.left)) ∧ wrdS P (.ok ⟨t :: r, ns⟩) = ⟨#[]⟩ := by
  have h2 : ¬ (t.k = 9 ∧ P t.t = true) := fun e => by rw [h] at e; exact absurd e.2 (by decide)
  refine ⟨?_, by show (if t.k = 9 ∧ P t.t = true then (⟨t.t.toArray⟩ : ByteArray) else ⟨#[]⟩) = _; rw [if_neg h2]⟩
  show Except.map _ (if t.k = 9 ∧ P t.t = true then .ok (t.t, r) else .error (3, t.a)) = _
  rw [if_neg h2]
  rfl
theorem wrd_fit {E : Nat} {P : By → Bool} {t : Tok} {r : List Tok} {ns : List By} (hk : t.k = 9) (h : P t.t = true) :
    (Except.ok ⟨t :: r, ns⟩ : Except Err St).bind (wrdX E P) = (Except.ok ⟨t :: r, ns⟩ : Except Err St).bind (takeX E 9) ∧ wrdS P (.ok ⟨t :: r, ns⟩) = takeS 9 (.ok ⟨t :: r, ns⟩) := by
  refine ⟨?_, ?_⟩
  · show Except.map _ (if t.k = 9 ∧ P t.t = true then .ok (t.t, r) else .error (3, t.a)) = Except.map _ (if t.k = 9 then .ok (t.t, r) else .error (3, t.a))
    rw [if_pos ⟨hk, h⟩, if_pos hk]
  · show (if t.k = 9 ∧ P t.t = true then (⟨t.t.toArray⟩ : ByteArray) else ⟨#[]⟩) = (if t.k = 9 then (⟨t.t.toArray⟩ : ByteArray) else ⟨#[]⟩)
    rw [if_pos ⟨hk, h⟩, if_pos hk]
set_option maxHeartbeats 2000000 in
theorem pword_name (C : Pc) (X : Except Err St) (P : By → Bool) (w : World) (h : PsO w C X)
    (hF : ∀ t ∈ C.all, ∀ q, Calls Tryz.prog 57 #[.string ⟨t.t.toArray⟩] (w.drewN q) fun e w' => e = .returned (.bool (P t.t)) ∧ ∃ m, w' = (w.drewN q).drewN m) :
    Calls Tryz.prog 135 #[.pointer (some ⟨C.g, 0, none⟩), .func (.func 57) #[] #[]] w fun e w' => e = .returned (.string (wrdS P X)) ∧ PsO w' C (X.bind (wrdX C.s.size P)) ∧ Exc C.two w w' := by
  have K1 := Lib.hid (fun n => pkind_any C X (w.drewN n) (h.ext ((Ext.refl w).drewN n)))
  have K2 := Lib.hid (fun q => pfail_any C X 3 (w.drewN q) (h.ext ((Ext.refl w).drewN q)) (by decide))
  by_cases hk : kindX X = 9
  rotate_left
  · obtain ⟨e1, e2⟩ := wrd_not (E := C.s.size) (P := P) hk
    rw [e1, e2]
    have b1 : ((kindX X : Int) != 9) = true := by rw [bne_iff_ne]; omega
    clear h e1 e2 hF
    go_enter Tryz.func135, Tryz.ntmps135
    go_wp2_with fail
    go_quiet ((go_at_call 99; exact Calls.quiet_of (K1.out _)))
    all_goals go_wp2_with fail
    all_goals refine (K2.out _).mono ?_
    all_goals
      rintro e w3 ⟨rfl, ho, hx⟩
      have HO := Lib.hid ho
      have HX := Lib.hid hx
      clear ho hx
      go_wp2
      go_ret
      exact ⟨rfl, HO.out, (Exc.of_ext ((Ext.refl w).drewN _)).trans HX.out⟩
  · rcases X with e | ⟨_ | ⟨t, r⟩, ns⟩
    · exact absurd (show (0 : Nat) = 9 from hk) (by decide)
    · exact absurd (show (0 : Nat) = 9 from hk) (by decide)
    · have hk2 : t.k = 9 := hk
      have K3 := Lib.hid (fun q => ptake_any C (.ok ⟨t :: r, ns⟩) 9 (w.drewN q) (h.ext ((Ext.refl w).drewN q)) (by decide))
      obtain ⟨n, h, hd⟩ := h
      have hn : n < C.all.length := by
        rcases Nat.lt_or_ge n C.all.length with h1 | h1
        · exact h1
        · rw [List.drop_eq_nil_of_le h1] at hd
          cases hd
      obtain ⟨t', b, o, e1, hm, hA, t0, t1, t2⟩ := h.tok hn
      rw [hd] at e1
      injection e1 with e1 e2
      subst e1
      have b1 : ((kindX (.ok ⟨t :: r, ns⟩) : Int) != 9) = false := by rw [hk]; rfl
      have KF := Lib.hid (hF t hm)
      obtain ⟨c0, c1, c2, c3, c4, c5⟩ := h.cells
      have hl := h.len
      rw [hA] at c1
      clear h hA hm hk hd e2 hF t0 t2 c0 c3 c4 c5
      cases hp : P t.t
      · obtain ⟨e1, e2⟩ := wrd_unfit (E := C.s.size) (r := r) (ns := ns) hp
        rw [e1, e2]
        rw [hp] at KF
        clear e1 e2 K3 hp
        go_enter Tryz.func135, Tryz.ntmps135
        go_wp2_with fail
        go_quiet (first | (go_at_call 99; exact Calls.quiet_of (K1.out _)) | (go_at_call 57; exact Calls.quiet_of (KF.out _)))
        all_goals go_wp2_with fail
        all_goals refine (K2.out _).mono ?_
        all_goals
          rintro e w3 ⟨rfl, ho, hx⟩
          have HO := Lib.hid ho
          have HX := Lib.hid hx
          clear ho hx
          go_wp2
          go_ret
          exact ⟨rfl, HO.out, (Exc.of_ext ((Ext.refl w).drewN _)).trans HX.out⟩
      · obtain ⟨e1, e2⟩ := wrd_fit (E := C.s.size) (r := r) (ns := ns) hk2 hp
        rw [e1, e2]
        rw [hp] at KF
        clear e1 e2 K2 hp
        go_enter Tryz.func135, Tryz.ntmps135
        go_wp2_with fail
        go_quiet (first | (go_at_call 99; exact Calls.quiet_of (K1.out _)) | (go_at_call 57; exact Calls.quiet_of (KF.out _)))
        all_goals go_wp2_with fail
        all_goals refine (K3.out _).mono ?_
        all_goals
          rintro e w3 ⟨rfl, ho, hx⟩
          have HO := Lib.hid ho
          have HX := Lib.hid hx
          clear ho hx
          go_wp2
          go_ret
          exact ⟨rfl, HO.out, (Exc.of_ext ((Ext.refl w).drewN _)).trans HX.out⟩
set_option maxHeartbeats 2000000 in
theorem pword_skel (C : Pc) (X : Except Err St) (P : By → Bool) (w : World) (h : PsO w C X)
    (hF : ∀ t ∈ C.all, ∀ q, Calls Tryz.prog 138 #[.string ⟨t.t.toArray⟩] (w.drewN q) fun e w' => e = .returned (.bool (P t.t)) ∧ ∃ m, w' = (w.drewN q).drewN m) :
    Calls Tryz.prog 135 #[.pointer (some ⟨C.g, 0, none⟩), .func (.func 138) #[] #[]] w fun e w' => e = .returned (.string (wrdS P X)) ∧ PsO w' C (X.bind (wrdX C.s.size P)) ∧ Exc C.two w w' := by
  have K1 := Lib.hid (fun n => pkind_any C X (w.drewN n) (h.ext ((Ext.refl w).drewN n)))
  have K2 := Lib.hid (fun q => pfail_any C X 3 (w.drewN q) (h.ext ((Ext.refl w).drewN q)) (by decide))
  by_cases hk : kindX X = 9
  rotate_left
  · obtain ⟨e1, e2⟩ := wrd_not (E := C.s.size) (P := P) hk
    rw [e1, e2]
    have b1 : ((kindX X : Int) != 9) = true := by rw [bne_iff_ne]; omega
    clear h e1 e2 hF
    go_enter Tryz.func135, Tryz.ntmps135
    go_wp2_with fail
    go_quiet ((go_at_call 99; exact Calls.quiet_of (K1.out _)))
    all_goals go_wp2_with fail
    all_goals refine (K2.out _).mono ?_
    all_goals
      rintro e w3 ⟨rfl, ho, hx⟩
      have HO := Lib.hid ho
      have HX := Lib.hid hx
      clear ho hx
      go_wp2
      go_ret
      exact ⟨rfl, HO.out, (Exc.of_ext ((Ext.refl w).drewN _)).trans HX.out⟩
  · rcases X with e | ⟨_ | ⟨t, r⟩, ns⟩
    · exact absurd (show (0 : Nat) = 9 from hk) (by decide)
    · exact absurd (show (0 : Nat) = 9 from hk) (by decide)
    · have hk2 : t.k = 9 := hk
      have K3 := Lib.hid (fun q => ptake_any C (.ok ⟨t :: r, ns⟩) 9 (w.drewN q) (h.ext ((Ext.refl w).drewN q)) (by decide))
      obtain ⟨n, h, hd⟩ := h
      have hn : n < C.all.length := by
        rcases Nat.lt_or_ge n C.all.length with h1 | h1
        · exact h1
        · rw [List.drop_eq_nil_of_le h1] at hd
          cases hd
      obtain ⟨t', b, o, e1, hm, hA, t0, t1, t2⟩ := h.tok hn
      rw [hd] at e1
      injection e1 with e1 e2
      subst e1
      have b1 : ((kindX (.ok ⟨t :: r, ns⟩) : Int) != 9) = false := by rw [hk]; rfl
      have KF := Lib.hid (hF t hm)
      obtain ⟨c0, c1, c2, c3, c4, c5⟩ := h.cells
      have hl := h.len
      rw [hA] at c1
      clear h hA hm hk hd e2 hF t0 t2 c0 c3 c4 c5
      cases hp : P t.t
      · obtain ⟨e1, e2⟩ := wrd_unfit (E := C.s.size) (r := r) (ns := ns) hp
        rw [e1, e2]
        rw [hp] at KF
        clear e1 e2 K3 hp
        go_enter Tryz.func135, Tryz.ntmps135
        go_wp2_with fail
        go_quiet (first | (go_at_call 99; exact Calls.quiet_of (K1.out _)) | (go_at_call 138; exact Calls.quiet_of (KF.out _)))
        all_goals go_wp2_with fail
        all_goals refine (K2.out _).mono ?_
        all_goals
          rintro e w3 ⟨rfl, ho, hx⟩
          have HO := Lib.hid ho
          have HX := Lib.hid hx
          clear ho hx
          go_wp2
          go_ret
          exact ⟨rfl, HO.out, (Exc.of_ext ((Ext.refl w).drewN _)).trans HX.out⟩
      · obtain ⟨e1, e2⟩ := wrd_fit (E := C.s.size) (r := r) (ns := ns) hk2 hp
        rw [e1, e2]
        rw [hp] at KF
        clear e1 e2 K2 hp
        go_enter Tryz.func135, Tryz.ntmps135
        go_wp2_with fail
        go_quiet (first | (go_at_call 99; exact Calls.quiet_of (K1.out _)) | (go_at_call 138; exact Calls.quiet_of (KF.out _)))
        all_goals go_wp2_with fail
        all_goals refine (K3.out _).mono ?_
        all_goals
          rintro e w3 ⟨rfl, ho, hx⟩
          have HO := Lib.hid ho
          have HX := Lib.hid hx
          clear ho hx
          go_wp2
          go_ret
          exact ⟨rfl, HO.out, (Exc.of_ext ((Ext.refl w).drewN _)).trans HX.out⟩
set_option maxHeartbeats 2000000 in
theorem pword_known (C : Pc) (X : Except Err St) (P : By → Bool) (tb : Nat) (w : World) (h : PsO w C X)
    (hF : ∀ t ∈ C.all, ∀ q, Calls Tryz.prog 134 #[.string ⟨t.t.toArray⟩, .pointer (some ⟨tb, 0, none⟩)] (w.drewN q) fun e w' => e = .returned (.bool (P t.t)) ∧ ∃ m, w' = (w.drewN q).drewN m) :
    Calls Tryz.prog 135 #[.pointer (some ⟨C.g, 0, none⟩), .func (.func 134) #[] #[.pointer (some ⟨tb, 0, none⟩)]] w fun e w' => e = .returned (.string (wrdS P X)) ∧ PsO w' C (X.bind (wrdX C.s.size P)) ∧ Exc C.two w w' := by
  have K1 := Lib.hid (fun n => pkind_any C X (w.drewN n) (h.ext ((Ext.refl w).drewN n)))
  have K2 := Lib.hid (fun q => pfail_any C X 3 (w.drewN q) (h.ext ((Ext.refl w).drewN q)) (by decide))
  by_cases hk : kindX X = 9
  rotate_left
  · obtain ⟨e1, e2⟩ := wrd_not (E := C.s.size) (P := P) hk
    rw [e1, e2]
    have b1 : ((kindX X : Int) != 9) = true := by rw [bne_iff_ne]; omega
    clear h e1 e2 hF
    go_enter Tryz.func135, Tryz.ntmps135
    go_wp2_with fail
    go_quiet ((go_at_call 99; exact Calls.quiet_of (K1.out _)))
    all_goals go_wp2_with fail
    all_goals refine (K2.out _).mono ?_
    all_goals
      rintro e w3 ⟨rfl, ho, hx⟩
      have HO := Lib.hid ho
      have HX := Lib.hid hx
      clear ho hx
      go_wp2
      go_ret
      exact ⟨rfl, HO.out, (Exc.of_ext ((Ext.refl w).drewN _)).trans HX.out⟩
  · rcases X with e | ⟨_ | ⟨t, r⟩, ns⟩
    · exact absurd (show (0 : Nat) = 9 from hk) (by decide)
    · exact absurd (show (0 : Nat) = 9 from hk) (by decide)
    · have hk2 : t.k = 9 := hk
      have K3 := Lib.hid (fun q => ptake_any C (.ok ⟨t :: r, ns⟩) 9 (w.drewN q) (h.ext ((Ext.refl w).drewN q)) (by decide))
      obtain ⟨n, h, hd⟩ := h
      have hn : n < C.all.length := by
        rcases Nat.lt_or_ge n C.all.length with h1 | h1
        · exact h1
        · rw [List.drop_eq_nil_of_le h1] at hd
          cases hd
      obtain ⟨t', b, o, e1, hm, hA, t0, t1, t2⟩ := h.tok hn
      rw [hd] at e1
      injection e1 with e1 e2
      subst e1
      have b1 : ((kindX (.ok ⟨t :: r, ns⟩) : Int) != 9) = false := by rw [hk]; rfl
      have KF := Lib.hid (hF t hm)
      obtain ⟨c0, c1, c2, c3, c4, c5⟩ := h.cells
      have hl := h.len
      rw [hA] at c1
      clear h hA hm hk hd e2 hF t0 t2 c0 c3 c4 c5
      cases hp : P t.t
      · obtain ⟨e1, e2⟩ := wrd_unfit (E := C.s.size) (r := r) (ns := ns) hp
        rw [e1, e2]
        rw [hp] at KF
        clear e1 e2 K3 hp
        go_enter Tryz.func135, Tryz.ntmps135
        go_wp2_with fail
        go_quiet (first | (go_at_call 99; exact Calls.quiet_of (K1.out _)) | (go_at_call 134; exact Calls.quiet_of (KF.out _)))
        all_goals go_wp2_with fail
        all_goals refine (K2.out _).mono ?_
        all_goals
          rintro e w3 ⟨rfl, ho, hx⟩
          have HO := Lib.hid ho
          have HX := Lib.hid hx
          clear ho hx
          go_wp2
          go_ret
          exact ⟨rfl, HO.out, (Exc.of_ext ((Ext.refl w).drewN _)).trans HX.out⟩
      · obtain ⟨e1, e2⟩ := wrd_fit (E := C.s.size) (r := r) (ns := ns) hk2 hp
        rw [e1, e2]
        rw [hp] at KF
        clear e1 e2 K2 hp
        go_enter Tryz.func135, Tryz.ntmps135
        go_wp2_with fail
        go_quiet (first | (go_at_call 99; exact Calls.quiet_of (K1.out _)) | (go_at_call 134; exact Calls.quiet_of (KF.out _)))
        all_goals go_wp2_with fail
        all_goals refine (K3.out _).mono ?_
        all_goals
          rintro e w3 ⟨rfl, ho, hx⟩
          have HO := Lib.hid ho
          have HX := Lib.hid hx
          clear ho hx
          go_wp2
          go_ret
          exact ⟨rfl, HO.out, (Exc.of_ext ((Ext.refl w).drewN _)).trans HX.out⟩
set_option maxHeartbeats 2000000 in
theorem pword_style (C : Pc) (X : Except Err St) (P : By → Bool) (w : World) (h : PsO w C X)
    (hF : ∀ t ∈ C.all, ∀ q, Calls Tryz.prog 136 #[.string ⟨t.t.toArray⟩] (w.drewN q) fun e w' => e = .returned (.bool (P t.t)) ∧ ∃ m, w' = (w.drewN q).drewN m) :
    Calls Tryz.prog 135 #[.pointer (some ⟨C.g, 0, none⟩), .func (.func 136) #[] #[]] w fun e w' => e = .returned (.string (wrdS P X)) ∧ PsO w' C (X.bind (wrdX C.s.size P)) ∧ Exc C.two w w' := by
  have K1 := Lib.hid (fun n => pkind_any C X (w.drewN n) (h.ext ((Ext.refl w).drewN n)))
  have K2 := Lib.hid (fun q => pfail_any C X 3 (w.drewN q) (h.ext ((Ext.refl w).drewN q)) (by decide))
  by_cases hk : kindX X = 9
  rotate_left
  · obtain ⟨e1, e2⟩ := wrd_not (E := C.s.size) (P := P) hk
    rw [e1, e2]
    have b1 : ((kindX X : Int) != 9) = true := by rw [bne_iff_ne]; omega
    clear h e1 e2 hF
    go_enter Tryz.func135, Tryz.ntmps135
    go_wp2_with fail
    go_quiet ((go_at_call 99; exact Calls.quiet_of (K1.out _)))
    all_goals go_wp2_with fail
    all_goals refine (K2.out _).mono ?_
    all_goals
      rintro e w3 ⟨rfl, ho, hx⟩
      have HO := Lib.hid ho
      have HX := Lib.hid hx
      clear ho hx
      go_wp2
      go_ret
      exact ⟨rfl, HO.out, (Exc.of_ext ((Ext.refl w).drewN _)).trans HX.out⟩
  · rcases X with e | ⟨_ | ⟨t, r⟩, ns⟩
    · exact absurd (show (0 : Nat) = 9 from hk) (by decide)
    · exact absurd (show (0 : Nat) = 9 from hk) (by decide)
    · have hk2 : t.k = 9 := hk
      have K3 := Lib.hid (fun q => ptake_any C (.ok ⟨t :: r, ns⟩) 9 (w.drewN q) (h.ext ((Ext.refl w).drewN q)) (by decide))
      obtain ⟨n, h, hd⟩ := h
      have hn : n < C.all.length := by
        rcases Nat.lt_or_ge n C.all.length with h1 | h1
        · exact h1
        · rw [List.drop_eq_nil_of_le h1] at hd
          cases hd
      obtain ⟨t', b, o, e1, hm, hA, t0, t1, t2⟩ := h.tok hn
      rw [hd] at e1
      injection e1 with e1 e2
      subst e1
      have b1 : ((kindX (.ok ⟨t :: r, ns⟩) : Int) != 9) = false := by rw [hk]; rfl
      have KF := Lib.hid (hF t hm)
      obtain ⟨c0, c1, c2, c3, c4, c5⟩ := h.cells
      have hl := h.len
      rw [hA] at c1
      clear h hA hm hk hd e2 hF t0 t2 c0 c3 c4 c5
      cases hp : P t.t
      · obtain ⟨e1, e2⟩ := wrd_unfit (E := C.s.size) (r := r) (ns := ns) hp
        rw [e1, e2]
        rw [hp] at KF
        clear e1 e2 K3 hp
        go_enter Tryz.func135, Tryz.ntmps135
        go_wp2_with fail
        go_quiet (first | (go_at_call 99; exact Calls.quiet_of (K1.out _)) | (go_at_call 136; exact Calls.quiet_of (KF.out _)))
        all_goals go_wp2_with fail
        all_goals refine (K2.out _).mono ?_
        all_goals
          rintro e w3 ⟨rfl, ho, hx⟩
          have HO := Lib.hid ho
          have HX := Lib.hid hx
          clear ho hx
          go_wp2
          go_ret
          exact ⟨rfl, HO.out, (Exc.of_ext ((Ext.refl w).drewN _)).trans HX.out⟩
      · obtain ⟨e1, e2⟩ := wrd_fit (E := C.s.size) (r := r) (ns := ns) hk2 hp
        rw [e1, e2]
        rw [hp] at KF
        clear e1 e2 K2 hp
        go_enter Tryz.func135, Tryz.ntmps135
        go_wp2_with fail
        go_quiet (first | (go_at_call 99; exact Calls.quiet_of (K1.out _)) | (go_at_call 136; exact Calls.quiet_of (KF.out _)))
        all_goals go_wp2_with fail
        all_goals refine (K3.out _).mono ?_
        all_goals
          rintro e w3 ⟨rfl, ho, hx⟩
          have HO := Lib.hid ho
          have HX := Lib.hid hx
          clear ho hx
          go_wp2
          go_ret
          exact ⟨rfl, HO.out, (Exc.of_ext ((Ext.refl w).drewN _)).trans HX.out⟩
set_option maxHeartbeats 2000000 in
theorem pword_key (C : Pc) (X : Except Err St) (P : By → Bool) (tb : Nat) (w : World) (h : PsO w C X)
    (hF : ∀ t ∈ C.all, ∀ y : ExtW w, Calls Tryz.prog 158 #[.string ⟨t.t.toArray⟩, .pointer (some ⟨tb, 0, none⟩)] y.v fun e w' => e = .returned (.bool (P t.t)) ∧ Ext y.v w') :
    Calls Tryz.prog 135 #[.pointer (some ⟨C.g, 0, none⟩), .func (.func 158) #[] #[.pointer (some ⟨tb, 0, none⟩)]] w fun e w' => e = .returned (.string (wrdS P X)) ∧ PsO w' C (X.bind (wrdX C.s.size P)) ∧ Exc C.two w w' := by
  have K1 := Lib.hid (fun y : ExtW w => (pkind_any C X y.v (h.ext y.h)).mono (fun e w' (hh : _ ∧ ∃ q, w' = y.v.drewN q) => (show _ ∧ Ext y.v w' from ⟨hh.1, by obtain ⟨q, e⟩ := hh.2; rw [e]; exact (Ext.refl _).drewN q⟩)))
  have K2 := Lib.hid (fun W (hW : Ext w W) => pfail_any C X 3 W (h.ext hW) (by decide))
  by_cases hk : kindX X = 9
  rotate_left
  · obtain ⟨e1, e2⟩ := wrd_not (E := C.s.size) (P := P) hk
    rw [e1, e2]
    have b1 : ((kindX X : Int) != 9) = true := by rw [bne_iff_ne]; omega
    clear h e1 e2 hF
    go_enter Tryz.func135, Tryz.ntmps135
    go_wp2_with fail
    refine wp_region_ext (by kernel_rfl) (by kernel_rfl) ?_
    repeat (go_big_quiet_step ((go_at_call 99; exact ExtW.call (K1.out _))))
    refine wpQuiet_nil ?_
    intro wx hx
    have HX2 := Lib.hid (show Ext w wx from by obtain ⟨y, hy⟩ := hx; rw [hy]; exact y.h)
    clear hx
    go_wp2_with fail
    refine (K2.out _ HX2.out).mono ?_
    rintro e w3 ⟨rfl, ho, hx⟩
    have HO := Lib.hid ho
    have HX := Lib.hid hx
    clear ho hx
    go_wp2
    go_ret
    exact ⟨rfl, HO.out, (Exc.of_ext HX2.out).trans HX.out⟩
  · rcases X with e | ⟨_ | ⟨t, r⟩, ns⟩
    · exact absurd (show (0 : Nat) = 9 from hk) (by decide)
    · exact absurd (show (0 : Nat) = 9 from hk) (by decide)
    · have hk2 : t.k = 9 := hk
      have K3 := Lib.hid (fun W (hW : Ext w W) => ptake_any C (.ok ⟨t :: r, ns⟩) 9 W (h.ext hW) (by decide))
      obtain ⟨n, h, hd⟩ := h
      have hn : n < C.all.length := by
        rcases Nat.lt_or_ge n C.all.length with h1 | h1
        · exact h1
        · rw [List.drop_eq_nil_of_le h1] at hd
          cases hd
      obtain ⟨t', b, o, e1, hm, hA, t0, t1, t2⟩ := h.tok hn
      rw [hd] at e1
      injection e1 with e1 e2
      subst e1
      have b1 : ((kindX (.ok ⟨t :: r, ns⟩) : Int) != 9) = false := by rw [hk]; rfl
      have KF := Lib.hid (hF t hm)
      have y1 : ∀ y : ExtW w, y.v.cell? ⟨C.g, 1, none⟩ = some (.slice (some ⟨b, o, none⟩) C.all.length C.c) := fun y => by rw [← hA]; exact (h.ext y.h).cells.2.1
      have y2 : ∀ y : ExtW w, y.v.cell? ⟨C.g, 2, none⟩ = some (.int .i64 n) := fun y => (h.ext y.h).cells.2.2.1
      have y3 : ∀ y : ExtW w, y.v.cell? ⟨b, o + n * 4 + 1, none⟩ = some (.string ⟨t.t.toArray⟩) := fun y => (Ext.cell y.h (World.block_lt_of_cell? _ _ t1)).trans t1
      have hl := h.len
      clear h hA hm hk hd e2 hF t0 t1 t2
      cases hp : P t.t
      · obtain ⟨e1, e2⟩ := wrd_unfit (E := C.s.size) (r := r) (ns := ns) hp
        rw [e1, e2]
        rw [hp] at KF
        clear e1 e2 K3 hp
        go_enter Tryz.func135, Tryz.ntmps135
        go_wp2_with fail
        refine wp_region_ext (by kernel_rfl) (by kernel_rfl) ?_
        repeat (go_big_quiet_step (first | (go_at_call 99; exact ExtW.call (K1.out _)) | (go_at_call 158; exact ExtW.call (KF.out _))))
        refine wpQuiet_nil ?_
        intro wx hx
        have HX2 := Lib.hid (show Ext w wx from by obtain ⟨y, hy⟩ := hx; rw [hy]; exact y.h)
        clear hx y1 y2 y3
        go_wp2_with fail
        refine (K2.out _ HX2.out).mono ?_
        rintro e w3 ⟨rfl, ho, hx⟩
        have HO := Lib.hid ho
        have HX := Lib.hid hx
        clear ho hx
        go_wp2
        go_ret
        exact ⟨rfl, HO.out, (Exc.of_ext HX2.out).trans HX.out⟩
      · obtain ⟨e1, e2⟩ := wrd_fit (E := C.s.size) (r := r) (ns := ns) hk2 hp
        rw [e1, e2]
        rw [hp] at KF
        clear e1 e2 K2 hp
        go_enter Tryz.func135, Tryz.ntmps135
        go_wp2_with fail
        refine wp_region_ext (by kernel_rfl) (by kernel_rfl) ?_
        repeat (go_big_quiet_step (first | (go_at_call 99; exact ExtW.call (K1.out _)) | (go_at_call 158; exact ExtW.call (KF.out _))))
        refine wpQuiet_nil ?_
        intro wx hx
        have HX2 := Lib.hid (show Ext w wx from by obtain ⟨y, hy⟩ := hx; rw [hy]; exact y.h)
        clear hx y1 y2 y3
        go_wp2_with fail
        refine (K3.out _ HX2.out).mono ?_
        rintro e w3 ⟨rfl, ho, hx⟩
        have HO := Lib.hid ho
        have HX := Lib.hid hx
        clear ho hx
        go_wp2
        go_ret
        exact ⟨rfl, HO.out, (Exc.of_ext HX2.out).trans HX.out⟩
end Go.Proofs.YtpfmojeigjmlfaaGreatDoor
